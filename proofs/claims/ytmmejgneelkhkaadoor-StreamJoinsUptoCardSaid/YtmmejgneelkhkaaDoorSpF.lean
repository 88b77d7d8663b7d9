/- The program's Split, from the shards' length on. -/
import Derived.Test.YtmmejgneelkhkaaDoorSpE
import Derived.Test.YtmmejgneelkhkaaDoorCc
set_option linter.all false
namespace Go.Proofs.YtmmejgneelkhkaaDoor
open Go Go.Cu Go.RowKit
set_option linter.unusedVariables false
set_option maxHeartbeats 2000000
set_option maxRecDepth 100000
theorem minI_nat (a b : Nat) : minI (a : Int) (b : Int) = ((min a b : Nat) : Int) := by unfold minI; split <;> omega
/-- a copy, of nothing too -/
theorem Wr_copyB {g n : Nat} {cs m : List Int} {x : Sl} {k : Int → World → Prop} {w : World} (hB : Has w g (cs.map b8) 5) (hr : Rds b8 w x m) (hfit : m.length ≤ cs.length) (hn : m.length ≤ n)
    (hk : ∀ w', Has w' g ((m ++ cs.drop m.length).map b8) 5 → Mo (fun b => b = g) w w' → k m.length w') :
    Wr Tryd.prog (Builtin.copy_ #[67, 67] 3 #[.slice (at0 g) n n, .slice x.base x.len x.cap]) (.one (.at (.int .i64))) k w := by
  by_cases hm : m = []
  · subst hm
    obtain ⟨xb, xl, xc⟩ := x
    have hxl : xl = 0 := hr.1
    subst hxl
    obtain ⟨i, hi0, hz0, hs0, hb0⟩ := info_parts iB
    refine ⟨0, w, ?_, hk w (by simpa using hB) (Mo.refl _ _)⟩
    have hl0 : ∀ a : Addr, (loadCells a 0).run Tryd.prog w = .ok #[] w := fun a => by simpa using run_loadCells_list (P := Tryd.prog) w a [] (by simp)
    cases xb <;> simp [Builtin.copy_, run_underlying tB, sizeOf, typeInfo, hi0, hs0, Builtin.lenOf, Builtin.firstCells, storeCells, hl0, goInt, Sh.enc, Cx.enc, At.enc]
  · refine Wr_copy (g := g) (o := 0) (n := n) (c := n) (cs := cs) tB (by kernel_rfl) hB hr (fun _ => rfl) hm (by omega) hn fun w' hB' hm' => hk w' ?_ hm'
    simpa using hB'
abbrev ptrV : Option Nat → Value
  | some g => .pointer (at0 g)
  | none => .pointer none
theorem ptrV_eq (x : Option Nat) : ptrV x = .pointer (x.map fun g => ⟨g, 0, none⟩) := by cases x <;> rfl
/-- the program's things may have changed; the document's and the boxes have not -/
def KeepR (T T' : Ths) : Prop := (∀ i, T' (.rs i) = T (.rs i)) ∧ (∀ i, T' (.rk i) = T (.rk i)) ∧ ∀ i, T' (.bx i) = T (.bx i)
def KeepP (T T' : Ths) : Prop := (∀ i, T' (.ps i) = T (.ps i)) ∧ (∀ i, T' (.pk i) = T (.pk i)) ∧ ∀ i, T' (.bx i) = T (.bx i)
theorem KeepR.refl (T : Ths) : KeepR T T := ⟨fun _ => rfl, fun _ => rfl, fun _ => rfl⟩
theorem KeepP.refl (T : Ths) : KeepP T T := ⟨fun _ => rfl, fun _ => rfl, fun _ => rfl⟩
theorem KeepR.trans {A B C : Ths} (h : KeepR A B) (k : KeepR B C) : KeepR A C := ⟨fun i => (k.1 i).trans (h.1 i), fun i => (k.2.1 i).trans (h.2.1 i), fun i => (k.2.2 i).trans (h.2.2 i)⟩
theorem KeepP.trans {A B C : Ths} (h : KeepP A B) (k : KeepP B C) : KeepP A C := ⟨fun i => (k.1 i).trans (h.1 i), fun i => (k.2.1 i).trans (h.2.1 i), fun i => (k.2.2 i).trans (h.2.2 i)⟩
theorem KeepR.ps {T U : Ths} (h : KeepR T U) (i : Nat) (t : Th) : KeepR T (U.up (.ps i) t) := ⟨fun j => (Ths.up_ne _ _ (by simp)).trans (h.1 j), fun j => (Ths.up_ne _ _ (by simp)).trans (h.2.1 j), fun j => (Ths.up_ne _ _ (by simp)).trans (h.2.2 j)⟩
theorem KeepR.pk {T U : Ths} (h : KeepR T U) (i : Nat) (t : Th) : KeepR T (U.up (.pk i) t) := ⟨fun j => (Ths.up_ne _ _ (by simp)).trans (h.1 j), fun j => (Ths.up_ne _ _ (by simp)).trans (h.2.1 j), fun j => (Ths.up_ne _ _ (by simp)).trans (h.2.2 j)⟩
theorem KeepR.tm {T U : Ths} (h : KeepR T U) (i : Nat) (t : Th) : KeepR T (U.up (.tm i) t) := ⟨fun j => (Ths.up_ne _ _ (by simp)).trans (h.1 j), fun j => (Ths.up_ne _ _ (by simp)).trans (h.2.1 j), fun j => (Ths.up_ne _ _ (by simp)).trans (h.2.2 j)⟩
theorem KeepP.rs {T U : Ths} (h : KeepP T U) (i : Nat) (t : Th) : KeepP T (U.up (.rs i) t) := ⟨fun j => (Ths.up_ne _ _ (by simp)).trans (h.1 j), fun j => (Ths.up_ne _ _ (by simp)).trans (h.2.1 j), fun j => (Ths.up_ne _ _ (by simp)).trans (h.2.2 j)⟩
theorem KeepP.rk {T U : Ths} (h : KeepP T U) (i : Nat) (t : Th) : KeepP T (U.up (.rk i) t) := ⟨fun j => (Ths.up_ne _ _ (by simp)).trans (h.1 j), fun j => (Ths.up_ne _ _ (by simp)).trans (h.2.1 j), fun j => (Ths.up_ne _ _ (by simp)).trans (h.2.2 j)⟩
theorem KeepP.tm {T U : Ths} (h : KeepP T U) (i : Nat) (t : Th) : KeepP T (U.up (.tm i) t) := ⟨fun j => (Ths.up_ne _ _ (by simp)).trans (h.1 j), fun j => (Ths.up_ne _ _ (by simp)).trans (h.2.1 j), fun j => (Ths.up_ne _ _ (by simp)).trans (h.2.2 j)⟩
def resV (brS : Nat → Addr) (brK : Nat → Addr) : Res → Value
  | .done => .nilIface
  | .no n => noV n
  | .src i => brV (brS i)
  | .snk i => brV (brK i)
/-- one sink's blocks -/
theorem split_in {R : Ending → World → Prop} {W0 : World} {K1 : (Int × (Option Addr) × Int × Int × Sl × Int × Int × Unit) → World → Prop} {T : Ths} {gs i size len left : Nat} {bs ea : Addr} {gd : Nat → Nat} {bd : Nat → Addr} {dd cc t80 : Sl} {t81 : Int} {s : Src} {d : Snk} {w : World}
    (hS : Sep W0 w T) (hs : T (.ps 0) = PSrc gs bs dd cc s) (hd : T (.pk i) = PSnk (gd i) (bd i) d) (hg : s.Good) (hgd : d.Good) (hsize : 1 ≤ size) (hsize2 : size ≤ 1048576) (hlen : len ≤ 2199023255552) (hleft : left ≤ 2199023255552)
    (ht : s.turns + 200 * left + 200 ≤ 4611686018427387904) (hsz : d.got.length + len ≤ 140737488355328) (he : EndIs W0 ea)
    (hgo : ∀ (w' : World) (T' : Ths), Sep W0 w' T' → KeepR T T' → T' (.ps 0) = PSrc gs bs dd cc (inF size len i (len + 1) 0 left s d).1 → T' (.pk i) = PSnk (gd i) (bd i) (inF size len i (len + 1) 0 left s d).2.1 → (∀ j, j ≠ i → T' (.pk j) = T (.pk j)) → (inF size len i (len + 1) 0 left s d).2.2.2 = none →
      s.Like (inF size len i (len + 1) 0 left s d).1 → (inF size len i (len + 1) 0 left s d).1.Good → (inF size len i (len + 1) 0 left s d).2.2.1 ≤ left → (inF size len i (len + 1) 0 left s d).1.turns + 200 * (inF size len i (len + 1) 0 left s d).2.2.1 ≤ s.turns + 200 * left →
      K1 ((size : Int), at0 gs, (len : Int), ((inF size len i (len + 1) 0 left s d).2.2.1 : Int), t80, t81, IntKind.wrap .i64 ((i : Int) + 1), ()) w')
    (hend : ∀ (w' : World) (T' : Ths) (e : Res), Sep W0 w' T' → KeepR T T' → T' (.ps 0) = PSrc gs bs dd cc (inF size len i (len + 1) 0 left s d).1 → T' (.pk i) = PSnk (gd i) (bd i) (inF size len i (len + 1) 0 left s d).2.1 → (∀ j, j ≠ i → T' (.pk j) = T (.pk j)) → (inF size len i (len + 1) 0 left s d).2.2.2 = some e →
      R (.returned (resV (fun _ => bs) bd e)) w') :
    stream_Split.l2 R K1 ((size : Int), at0 gs, (len : Int), (left : Int), at0 (gd i), 0, t80, t81, (i : Int), ()) w := by
  unfold stream_Split.l2
  generalize hr0 : inF size len i (len + 1) 0 left s d = r0 at hgo hend
  refine loopW_of (fun st w1 => ∃ (s1 : Src) (d1 : Snk) (T1 : Ths) (at_ left1 f : Nat), st = ((size : Int), at0 gs, (len : Int), (left1 : Int), at0 (gd i), (at_ : Int), t80, t81, (i : Int), ()) ∧ Sep W0 w1 T1 ∧ KeepR T T1 ∧ T1 (.ps 0) = PSrc gs bs dd cc s1 ∧ T1 (.pk i) = PSnk (gd i) (bd i) d1 ∧ (∀ j, j ≠ i → T1 (.pk j) = T (.pk j)) ∧
      s.Like s1 ∧ s1.Good ∧ d1.Good ∧ left1 ≤ left ∧ s1.turns + 200 * left1 ≤ s.turns + 200 * left ∧ d1.got.length + (len - at_) ≤ 140737488355328 ∧ len + 1 ≤ f + at_ ∧ at_ ≤ len + size ∧ inF size len i f at_ left1 s1 d1 = r0)
    (fun st _ => ((len : Int) - st.2.2.2.2.2.1).toNat) ?_ ⟨s, d, T, 0, left, len + 1, rfl, hS, KeepR.refl T, hs, hd, fun _ _ => rfl, Src.Like.refl s, hg, hgd, Nat.le_refl _, Nat.le_refl _, by simpa using hsz, by omega, by omega, hr0⟩
  rintro k2 _ w1 ⟨s1, d1, T1, at_, left1, f, rfl, hS1, hK1, hs1, hd1, ho1, hl1, hg1, hgd1, hle1, ht1, hsz1, hf, hat, hr⟩ hk2
  unfold stream_Split.b2
  dsimp only at hk2 ⊢
  refine Cd_dec (fun hlt => ?_) (fun hge => ?_)
  · have hlt : at_ < len := by omega
    obtain ⟨f, rfl⟩ : ∃ f', f = f' + 1 := ⟨f - 1, by omega⟩
    rw [wrap64 (by omega) (by omega), show (len : Int) - (at_ : Int) = ((len - at_ : Nat) : Int) by omega, minI_nat]
    simp only [inF, if_neg (show ¬ len ≤ at_ by omega)] at hr
    have hm1 : min size (len - at_) ≤ size := Nat.min_le_left _ _
    have hm2 : min size (len - at_) ≤ len - at_ := Nat.min_le_right _ _
    have hm3 : 1 ≤ min size (len - at_) := by omega
    have hm4 : len - (at_ + size) + min size (len - at_) = len - at_ := by omega
    generalize min size (len - at_) = m at hr hm1 hm2 hm3 hm4 ⊢
    refine Wr_make (f := b8) (z := 0) tB iB rfl m (by omega) (by omega) rfl rfl fun p w2 hp hB2 hx2 => ?_
    subst hp
    generalize hgp : w1.heap.size = gp at hB2 ⊢
    have hS2 : Sep W0 w2 (T1.up (.tm 0) (Buf gp (List.replicate m 0))) := by subst hgp; exact hS1.box (.tm 0) hx2 hB2
    rw [minI_nat]
    have hw1 : min left1 m ≤ left1 := Nat.min_le_left _ _
    have hw2 : min left1 m ≤ m := Nat.min_le_right _ _
    dsimp only at hr ⊢
    generalize min left1 m = want at hr hw1 hw2 ⊢
    have hff := full_facts (want * 100 + 100) s1 want 0 hg1 (by omega)
    refine Cl_mono (fill_ok hS2 (ks := .ps 0) (kb := .tm 1) (by rw [Ths.up_ne _ _ (by simp)]; exact hs1) (by simp) hg1 (by omega) he (by omega)) ?_
    have hff : Reads s1 want (s1.full want) ∧ (s1.full want).1.turns ≤ s1.turns + 100 * (s1.full want).2.1.length + 100 ∧ ((s1.full want).2.2 = .ok → (s1.full want).2.1.length = want) ∧ ((s1.full want).2.2 ≠ .ok → (s1.full want).2.1.length < want) ∧ (want = 0 → (s1.full want).1 = s1) := by
      obtain ⟨a1, a2, a3, a4, a5⟩ := hff
      exact ⟨a1, a2, fun h => a3 (by omega) h, a4, a5⟩
    rintro x w3 ⟨y, rfl, hS3⟩
    generalize s1.full want = q at hff hS3 hr ⊢
    obtain ⟨hq, hqt, hqo, hqn, hq0⟩ := hff
    have hqle := hq.le
    have hy3 : Rds b8 w3 y q.2.1 := hS3.rds (k := .tm 1) (Ths.up_same _ _ _)
    have hyl := hy3.1
    have hK3 : KeepR T (((T1.up (.tm 0) (Buf gp (List.replicate m 0))).up (.ps 0) (PSrc gs bs dd cc q.1)).up (.tm 1) (Rdo b8 y q.2.1)) := ((hK1.tm 0 _).ps 0 _).tm 1 _
    have hps3 : (((T1.up (.tm 0) (Buf gp (List.replicate m 0))).up (.ps 0) (PSrc gs bs dd cc q.1)).up (.tm 1) (Rdo b8 y q.2.1)) (.ps 0) = PSrc gs bs dd cc q.1 := by rw [Ths.up_ne _ _ (by simp), Ths.up_same]
    have hpk3 : ∀ j, (((T1.up (.tm 0) (Buf gp (List.replicate m 0))).up (.ps 0) (PSrc gs bs dd cc q.1)).up (.tm 1) (Rdo b8 y q.2.1)) (.pk j) = T1 (.pk j) := fun j => by rw [Ths.up_ne _ _ (by simp), Ths.up_ne _ _ (by simp), Ths.up_ne _ _ (by simp)]
    have htm3 : (((T1.up (.tm 0) (Buf gp (List.replicate m 0))).up (.ps 0) (PSrc gs bs dd cc q.1)).up (.tm 1) (Rdo b8 y q.2.1)) (.tm 0) = Buf gp (List.replicate m 0) := by rw [Ths.up_ne _ _ (by simp), Ths.up_ne _ _ (by simp), Ths.up_same]
    generalize ((T1.up (.tm 0) (Buf gp (List.replicate m 0))).up (.ps 0) (PSrc gs bs dd cc q.1)).up (.tm 1) (Rdo b8 y q.2.1) = T3 at hS3 hK3 hps3 hpk3 htm3
    have hend3 : ∀ e, r0 = (q.1, d1, left1, some e) → R (.returned (resV (fun _ => bs) bd e)) w3 := fun e he => hend w3 T3 e hS3 hK3 (by rw [he]; exact hps3) (by rw [he, hpk3]; exact hd1) (fun j hj => (hpk3 j).trans (ho1 j hj)) (by rw [he])
    dsimp only
    by_cases hok : q.2.2 = .ok
    · rw [hok] at hr ⊢
      have hqw := hqo hok
      refine Pu_ne (b := false) (.inl ⟨rfl, rfl⟩) (Cd_f (Cd_dec (fun h => by omega) (fun _ => ?_)))
      have hB3 := hS3.has (k := .tm 0) htm3
      refine Wr_copyB hB3 hy3 (by simp; omega) (by omega) fun w4 hB4 hm4' => ?_
      have hS4 := hS3.cel (k := .tm 0) htm3 hB4 hm4'
      rw [List.drop_replicate, hqw] at hB4 hS4
      have hpl : (q.2.1 ++ List.replicate (m - want) (0 : Int)).length = m := by rw [List.length_append, List.length_replicate]; omega
      have hput := put_facts hgd1 (q.2.1 ++ List.replicate (m - want) (0 : Int))
      dsimp only at hr
      refine Cl_mono (put_ok hS4 (k := .pk i) (x := ⟨at0 gp, m, m⟩) (by rw [Ths.up_ne _ _ (by simp), hpk3]; exact hd1) (own_of_has (base := 0) hpl (by omega) hB4 (Nat.zero_le _)).rds hgd1 (by omega)) ?_
      generalize d1.put (q.2.1 ++ List.replicate (m - want) (0 : Int)) = e at hr hput ⊢
      rintro x w5 ⟨rfl, hS5⟩
      obtain ⟨hp1, hp2, hp3, hp4⟩ := hput
      have hK5 := (hK3.tm 0 (Cel gp (List.map b8 (q.2.1 ++ List.replicate (m - want) 0)) 5)).pk i (PSnk (gd i) (bd i) e.1)
      have hps5 : ((T3.up (.tm 0) (Cel gp (List.map b8 (q.2.1 ++ List.replicate (m - want) 0)) 5)).up (.pk i) (PSnk (gd i) (bd i) e.1)) (.ps 0) = PSrc gs bs dd cc q.1 := by rw [Ths.up_ne _ _ (by simp), Ths.up_ne _ _ (by simp)]; exact hps3
      have hpk5 : ∀ j, j ≠ i → ((T3.up (.tm 0) (Cel gp (List.map b8 (q.2.1 ++ List.replicate (m - want) 0)) 5)).up (.pk i) (PSnk (gd i) (bd i) e.1)) (.pk j) = T (.pk j) := fun j hj => by rw [Ths.up_ne _ _ (by simpa using hj), Ths.up_ne _ _ (by simp), hpk3, ho1 j hj]
      by_cases hb : e.2 = true
      · rw [if_pos hb]
        rw [if_pos hb] at hr
        refine Pu_ne (b := false) (.inl ⟨rfl, rfl⟩) (Cd_f ?_)
        rw [wrap64 (by omega) (by omega), wrap64 (by omega) (by omega), show (left1 : Int) - (want : Int) = ((left1 - want : Nat) : Int) by omega, show (at_ : Int) + (size : Int) = ((at_ + size : Nat) : Int) by omega]
        have hql := hq.like
        have hqlo := hq.lo
        refine hk2 _ _ ⟨q.1, e.1, _, at_ + size, left1 - want, f, rfl, hS5, hK5, hps5, Ths.up_same _ _ _, hpk5, hl1.trans hql, hq.good, hp1, by omega, ?_, by omega, by omega, by omega, hr⟩ (by dsimp only; omega)
        by_cases hw0 : want = 0
        · rw [hq0 hw0, hw0]; simpa using ht1
        · omega
      · rw [if_neg hb]
        rw [if_neg hb] at hr
        refine Pu_ne (b := true) (.inr ⟨⟨_, _, rfl⟩, rfl⟩) (Cd_t ?_)
        exact hend w5 _ (.snk i) hS5 hK5 (by rw [← hr]; exact hps5) (by rw [← hr]; exact Ths.up_same _ _ _) hpk5 (by rw [← hr])
    · have hlt' := hqn hok
      cases hwh : q.2.2 with
      | ok => exact absurd hwh hok
      | fin =>
        rw [hwh] at hr
        refine Pu_ne (b := false) (.inl ⟨rfl, rfl⟩) (Cd_f (Cd_dec (fun _ => hend3 (.no 240) hr.symm) (fun h => by omega)))
      | broken =>
        rw [hwh] at hr
        exact Pu_ne (b := true) (.inr ⟨⟨_, _, rfl⟩, rfl⟩) (Cd_t (hend3 (.src 0) hr.symm))
      | short =>
        rw [hwh] at hr
        exact Pu_ne (b := true) (.inr ⟨⟨_, _, rfl⟩, rfl⟩) (Cd_t (hend3 (.no 240) hr.symm))
  · have hrr : r0 = (s1, d1, left1, none) := by
      rw [← hr]
      cases f with
      | zero => rfl
      | succ f => simp only [inF]; rw [if_pos (by omega)]
    rw [hrr] at hgo
    exact hgo w1 T1 hS1 hK1 hs1 hd1 ho1 rfl hl1 hg1 hle1 ht1
end Go.Proofs.YtmmejgneelkhkaaDoor
