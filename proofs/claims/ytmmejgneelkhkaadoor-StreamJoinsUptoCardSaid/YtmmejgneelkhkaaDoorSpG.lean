/- All sinks of the program's Split; one sink's blocks of the document's. -/
import Derived.Test.YtmmejgneelkhkaaDoorSpF
set_option linter.all false
namespace Go.Proofs.YtmmejgneelkhkaaDoor
open Go Go.Cu Go.RowKit
set_option linter.unusedVariables false
set_option maxHeartbeats 2000000
set_option maxRecDepth 100000
theorem split_out {R : Ending → World → Prop} {W0 : World} {T : Ths} {gs size len total jd : Nat} {bs ea : Addr} {gd : Nat → Nat} {bd : Nat → Addr} {dd cc dst : Sl} {s : Src} {sn : List Snk} {w : World}
    (hS : Sep W0 w T) (hs : T (.ps 0) = PSrc gs bs dd cc s) (hd : ∀ j d, sn[j]? = some d → T (.pk j) = PSnk (gd j) (bd j) d) (hdst : T (.bx jd) = Rdo ptrV dst ((List.range sn.length).map fun j => some (gd j))) (hg : s.Good) (hgd : ∀ d ∈ sn, d.Good ∧ d.got.length + len ≤ 140737488355328)
    (hsize : 1 ≤ size) (hsize2 : size ≤ 1048576) (hlen : len ≤ 2199023255552) (hleft : total ≤ 2199023255552) (hn : sn.length ≤ 140737488355328) (ht : s.turns + 200 * total + 200 ≤ 4611686018427387904) (he : EndIs W0 ea)
    (hend : ∀ (w' : World) (T' : Ths), Sep W0 w' T' → KeepR T T' → T' (.ps 0) = PSrc gs bs dd cc (outF size len 0 total s sn).1 → (∀ j d, (outF size len 0 total s sn).2.1[j]? = some d → T' (.pk j) = PSnk (gd j) (bd j) d) → (∀ j, sn.length ≤ j → T' (.pk j) = T (.pk j)) →
      R (.returned (resV (fun _ => bs) bd (outF size len 0 total s sn).2.2)) w') :
    stream_Split.l1 R ((size : Int), at0 gs, (len : Int), (total : Int), dst, ((dst.len : Nat) : Int), 0, ()) w := by
  unfold stream_Split.l1
  generalize hq0 : outF size len 0 total s sn = q0 at hend
  have hdl : dst.len = sn.length := by
    have := (hS.rds hdst).1
    simpa using this
  refine loopW_of (fun st w1 => ∃ (i left1 : Nat) (s1 : Src) (pre rest : List Snk) (T1 : Ths), st = ((size : Int), at0 gs, (len : Int), (left1 : Int), dst, ((dst.len : Nat) : Int), (i : Int), ()) ∧ pre.length = i ∧ i + rest.length = sn.length ∧ (∀ d ∈ rest, d ∈ sn) ∧ Sep W0 w1 T1 ∧ KeepR T T1 ∧ T1 (.ps 0) = PSrc gs bs dd cc s1 ∧
      (∀ j d, (pre ++ rest)[j]? = some d → T1 (.pk j) = PSnk (gd j) (bd j) d) ∧ (∀ j, sn.length ≤ j → T1 (.pk j) = T (.pk j)) ∧ s1.Good ∧ left1 ≤ total ∧ s1.turns + 200 * left1 ≤ s.turns + 200 * total ∧
      q0 = ((outF size len i left1 s1 rest).1, pre ++ (outF size len i left1 s1 rest).2.1, (outF size len i left1 s1 rest).2.2))
    (fun st _ => ((dst.len : Int) - st.2.2.2.2.2.2.1).toNat) ?_ ⟨0, total, s, [], sn, T, rfl, rfl, by simp, fun _ h => h, hS, KeepR.refl T, hs, hd, fun _ _ => rfl, hg, Nat.le_refl _, Nat.le_refl _, by rw [← hq0]; simp⟩
  rintro k1 _ w1 ⟨i, left1, s1, pre, rest, T1, rfl, hpre, hrest, hmem, hS1, hK1, hs1, hd1, ho1, hg1, hle1, ht1, hq⟩ hk1
  unfold stream_Split.b1
  dsimp only at hk1 ⊢
  refine Cd_dec (fun hlt => ?_) (fun hge => ?_)
  · cases rest with
    | nil => simp at hrest; omega
    | cons d rest =>
      simp only [List.length_cons] at hrest
      have hdst1 : Rds ptrV w1 dst ((List.range sn.length).map fun j => some (gd j)) := hS1.rds (k := .bx jd) ((hK1.2.2 jd).trans hdst)
      refine Pu_idx hdst1 (e := 64) (by kernel_rfl) (by kernel_rfl) (by omega) (by simp; omega) fun a x hx hcell _ => ?_
      have hx' : x = some (gd i) := by
        rw [Int.toNat_natCast, List.getElem?_map, List.getElem?_range (by omega)] at hx
        exact (Option.some.inj hx).symm
      subst hx'
      refine Rd_one (c := .ptr) (x := at0 (gd i)) (by kernel_rfl) hcell ?_
      have hdi := hd1 i d (by rw [← hpre]; simp)
      obtain ⟨hgd1, hgd2⟩ := hgd d (hmem d (by simp))
      simp only [outF] at hq
      refine split_in (ea := ea) hS1 hs1 hdi hg1 hgd1 hsize hsize2 hlen (by omega) (by omega) hgd2 he ?_ ?_
      · intro w' T' hS' hK' hs' hd' ho' hnone hl' hg' hle' ht'
        rw [hnone] at hq
        dsimp only at hq
        rw [wrap64 (by omega) (by omega), show (i : Int) + 1 = ((i + 1 : Nat) : Int) by omega]
        refine hk1 _ _ ⟨i + 1, _, _, pre ++ [(inF size len i (len + 1) 0 left1 s1 d).2.1], rest, T', rfl, by simp [hpre], by omega, fun d' h => hmem d' (by simp [h]), hS', hK1.trans hK', hs', ?_, fun j hj => (ho' j (by omega)).trans (ho1 j hj), hg', by omega, by omega, ?_⟩ (by dsimp only; omega)
        · intro j d' hj
          generalize (inF size len i (len + 1) 0 left1 s1 d).2.1 = rr at hj hd'
          by_cases hji : j = i
          · subst hji
            rw [← hpre, List.append_assoc, List.getElem?_append_right (Nat.le_refl _), Nat.sub_self] at hj
            simp only [List.cons_append, List.nil_append, List.getElem?_cons_zero, Option.some.injEq] at hj
            rw [← hj]
            exact hd'
          · rw [ho' j hji]
            refine hd1 j d' ?_
            rw [← hj, List.append_assoc]
            rcases Nat.lt_or_ge j pre.length with h | h
            · rw [List.getElem?_append_left h, List.getElem?_append_left h]
            · rw [List.getElem?_append_right h, List.getElem?_append_right h]
              have : j - pre.length ≠ 0 := by omega
              obtain ⟨m, hm⟩ := Nat.exists_eq_succ_of_ne_zero this
              rw [hm]; rfl
        · rw [hq]; simp
      · intro w' T' e hS' hK' hs' hd' ho' hsome
        rw [hsome] at hq
        dsimp only at hq
        have := hend w' T' hS' (hK1.trans hK') (by rw [hq]; exact hs') ?_ (fun j hj => (ho' j (by omega)).trans (ho1 j hj))
        · rw [hq] at this; exact this
        · intro j d' hj
          rw [hq] at hj
          dsimp only at hj
          generalize (inF size len i (len + 1) 0 left1 s1 d).2.1 = rr at hj hd'
          by_cases hji : j = i
          · subst hji
            rw [← hpre, List.getElem?_append_right (Nat.le_refl _), Nat.sub_self] at hj
            simp only [List.getElem?_cons_zero, Option.some.injEq] at hj
            rw [← hj]
            exact hd'
          · rw [ho' j hji]
            refine hd1 j d' ?_
            rw [← hj]
            rcases Nat.lt_or_ge j pre.length with h | h
            · rw [List.getElem?_append_left h, List.getElem?_append_left h]
            · rw [List.getElem?_append_right h, List.getElem?_append_right h]
              have : j - pre.length ≠ 0 := by omega
              obtain ⟨m, hm⟩ := Nat.exists_eq_succ_of_ne_zero this
              rw [hm]; rfl
  · have hnil : rest = [] := List.eq_nil_of_length_eq_zero (by omega)
    subst hnil
    simp only [outF, List.append_nil] at hq
    have := hend w1 T1 hS1 hK1 (by rw [hq]; exact hs1) (by rw [hq]; simpa using hd1) ho1
    rw [hq] at this
    exact this
/-! ### The document's -/
def resN : Res → Int × Int
  | .done => (0, 0)
  | .no n => (1, n)
  | .src i => (2, (i : Int))
  | .snk i => (3, (i : Int))
theorem ret2 {R : Ending → World → Prop} {W0 w : World} {T : Ths} {gt : Nat} {cs : List Value} {a b : Int} (hS : Sep W0 w T) (ht : T (.tm 2) = Cel gt cs 54) (hcs : cs.length = 2)
    (h : ∀ w', Sep W0 w' (T.up (.tm 2) (Cel gt [.int .i64 a, .int .i64 b] 54)) → R (.returned (.agg #[.int .i64 a, .int .i64 b])) w') :
    Wu Tryd.prog (Instr.storeAt 54 (.pointer (at0 gt)) (.agg #[.int .i64 a, .int .i64 b])) (fun w' => ∃ r : (Int × Int × Unit), (loadVar 54 ⟨gt, 0, none⟩).run Tryd.prog w' = .ok (.agg #[.int .i64 r.1, .int .i64 r.2.1]) w' ∧ R (.returned (.agg #[.int .i64 r.1, .int .i64 r.2.1])) w') w := by
  match cs, hcs with
  | [c0, c1], _ =>
    have hB := hS.has ht
    refine Wu_store hB (by kernel_rfl) (by simp [Value.cells, Value.oneCell']) (by simp [Value.cells]) fun w' hB' hm' => ?_
    have hB2 : Has w' gt [.int .i64 a, .int .i64 b] 54 := hB'
    refine ⟨(a, b, ()), ?_, h w' (hS.cel ht hB2 hm')⟩
    have := run_load_agg (P := Tryd.prog) (t := 54) (a := ⟨gt, 0, none⟩) (cs := [.int .i64 a, .int .i64 b]) (w := w') (by kernel_rfl) (fun j v hj => by rw [add_lit, hB2.cell]; exact hj)
    exact this
theorem rsplit_in {R : Ending → World → Prop} {W0 : World} {K1 : (Int × (Option Addr) × Addr × Int × Int × Sl × Int × Int × Unit) → World → Prop} {T : Ths} {gs gt i size len left : Nat} {gd : Nat → Nat} {dd cc t67 : Sl} {t68 : Int} {cs : List Value} {s : Src} {d : Snk} {w : World}
    (hS : Sep W0 w T) (hs : T (.rs 0) = RSrc gs dd cc s) (hd : T (.rk i) = RSnk (gd i) d) (hgt : T (.tm 2) = Cel gt cs 54) (hcs : cs.length = 2) (hd0 : Rds b8 W0 dd s.data) (hc0 : Rds i64v W0 cc s.chunks) (hg : s.Good) (hgd : d.Good) (hsize : 1 ≤ size) (hsize2 : size ≤ 1048576) (hlen : len ≤ 2199023255552) (hleft : left ≤ 2199023255552)
    (ht : s.turns + 200 * left + 200 ≤ 4611686018427387904) (hsz : d.got.length + len ≤ 140737488355328)
    (hgo : ∀ (w' : World) (T' : Ths), Sep W0 w' T' → KeepP T T' → T' (.tm 2) = T (.tm 2) → T' (.rs 0) = RSrc gs dd cc (inF size len i (len + 1) 0 left s d).1 → T' (.rk i) = RSnk (gd i) (inF size len i (len + 1) 0 left s d).2.1 → (∀ j, j ≠ i → T' (.rk j) = T (.rk j)) → (inF size len i (len + 1) 0 left s d).2.2.2 = none →
      s.Like (inF size len i (len + 1) 0 left s d).1 → (inF size len i (len + 1) 0 left s d).1.Good → (inF size len i (len + 1) 0 left s d).2.2.1 ≤ left → (inF size len i (len + 1) 0 left s d).1.turns + 200 * (inF size len i (len + 1) 0 left s d).2.2.1 ≤ s.turns + 200 * left →
      K1 ((size : Int), at0 gs, ⟨gt, 0, none⟩, (len : Int), ((inF size len i (len + 1) 0 left s d).2.2.1 : Int), t67, t68, IntKind.wrap .i64 ((i : Int) + 1), ()) w')
    (hend : ∀ (w' : World) (T' : Ths) (e : Res), Sep W0 w' T' → KeepP T T' → T' (.rs 0) = RSrc gs dd cc (inF size len i (len + 1) 0 left s d).1 → T' (.rk i) = RSnk (gd i) (inF size len i (len + 1) 0 left s d).2.1 → (∀ j, j ≠ i → T' (.rk j) = T (.rk j)) → (inF size len i (len + 1) 0 left s d).2.2.2 = some e →
      R (.returned (.agg #[.int .i64 (resN e).1, .int .i64 (resN e).2])) w') :
    culletref24_Code_Split.l2 R K1 ((size : Int), at0 gs, ⟨gt, 0, none⟩, (len : Int), (left : Int), (i : Int), at0 (gd i), 0, t67, t68, (i : Int), ()) w := by
  unfold culletref24_Code_Split.l2
  generalize hr0 : inF size len i (len + 1) 0 left s d = r0 at hgo hend
  refine loopW_of (fun st w1 => ∃ (s1 : Src) (d1 : Snk) (T1 : Ths) (at_ left1 f : Nat), st = ((size : Int), at0 gs, ⟨gt, 0, none⟩, (len : Int), (left1 : Int), (i : Int), at0 (gd i), (at_ : Int), t67, t68, (i : Int), ()) ∧ Sep W0 w1 T1 ∧ KeepP T T1 ∧ T1 (.tm 2) = T (.tm 2) ∧ T1 (.rs 0) = RSrc gs dd cc s1 ∧ T1 (.rk i) = RSnk (gd i) d1 ∧ (∀ j, j ≠ i → T1 (.rk j) = T (.rk j)) ∧
      s.Like s1 ∧ s1.Good ∧ d1.Good ∧ left1 ≤ left ∧ s1.turns + 200 * left1 ≤ s.turns + 200 * left ∧ d1.got.length + (len - at_) ≤ 140737488355328 ∧ len + 1 ≤ f + at_ ∧ at_ ≤ len + size ∧ inF size len i f at_ left1 s1 d1 = r0)
    (fun st _ => ((len : Int) - st.2.2.2.2.2.2.2.1).toNat) ?_ ⟨s, d, T, 0, left, len + 1, rfl, hS, KeepP.refl T, rfl, hs, hd, fun _ _ => rfl, Src.Like.refl s, hg, hgd, Nat.le_refl _, Nat.le_refl _, by simpa using hsz, by omega, by omega, hr0⟩
  rintro k2 _ w1 ⟨s1, d1, T1, at_, left1, f, rfl, hS1, hK1, hgt1, hs1, hd1, ho1, hl1, hg1, hgd1, hle1, ht1, hsz1, hf, hat, hr⟩ hk2
  unfold culletref24_Code_Split.b2
  dsimp only at hk2 ⊢
  refine Cd_dec (fun hlt => ?_) (fun hge => ?_)
  · have hlt : at_ < len := by omega
    obtain ⟨f, rfl⟩ : ∃ f', f = f' + 1 := ⟨f - 1, by omega⟩
    rw [wrap64 (by omega) (by omega), show (len : Int) - (at_ : Int) = ((len - at_ : Nat) : Int) by omega]
    simp only [inF, if_neg (show ¬ len ≤ at_ by omega)] at hr
    have hm1 : min size (len - at_) ≤ size := Nat.min_le_left _ _
    have hm2 : min size (len - at_) ≤ len - at_ := Nat.min_le_right _ _
    have hm3 : 1 ≤ min size (len - at_) := by omega
    have hm4 : len - (at_ + size) + min size (len - at_) = len - at_ := by omega
    -- from full on
    have j3f : ∀ m want : Nat, m = min size (len - at_) → want = min left1 m → culletref24_Code_Split.j3 R K1 k2 (size : Int) (at0 gs) ⟨gt, 0, none⟩ (len : Int) (left1 : Int) (i : Int) (at0 (gd i)) (at_ : Int) (m : Int) (want : Int) t67 t68 (i : Int) w1 := by
      intro m want hm hwant
      rw [← hm] at hr hm1 hm2 hm3 hm4
      rw [← hwant] at hr
      have hw1 : want ≤ left1 := by omega
      have hw2 : want ≤ m := by omega
      clear hm hwant
      have hff := full_facts (want * 100 + 100) s1 want 0 hg1 (by omega)
      unfold culletref24_Code_Split.j3
      refine Cl_mono (rfull_ok hS1 (k := .rs 0) (kb := .tm 1) hs1 (by simp) (by rw [hl1.1]; exact hd0) (by rw [hl1.2.1]; exact hc0) hg1 (by omega) (by omega)) ?_
      have hff : Reads s1 want (s1.full want) ∧ (s1.full want).1.turns ≤ s1.turns + 100 * (s1.full want).2.1.length + 100 ∧ ((s1.full want).2.2 = .ok → (s1.full want).2.1.length = want) ∧ ((s1.full want).2.2 ≠ .ok → (s1.full want).2.1.length < want) ∧ (want = 0 → (s1.full want).1 = s1) := by
        obtain ⟨a1, a2, a3, a4, a5⟩ := hff
        exact ⟨a1, a2, fun h => a3 (by omega) h, a4, a5⟩
      rintro x w3 ⟨y, rfl, hS3⟩
      generalize s1.full want = q at hff hS3 hr ⊢
      obtain ⟨hq, hqt, hqo, hqn, hq0⟩ := hff
      have hqle := hq.le
      have hy3 : Cu.Own b8 5 0 w3 y q.2.1 := hS3.owt (k := .tm 1) (Ths.up_same _ _ _)
      have hyl := hy3.1
      have hK3 : KeepP T ((T1.up (.rs 0) (RSrc gs dd cc q.1)).up (.tm 1) (Owt b8 5 y q.2.1)) := (hK1.rs 0 _).tm 1 _
      have hps3 : ((T1.up (.rs 0) (RSrc gs dd cc q.1)).up (.tm 1) (Owt b8 5 y q.2.1)) (.rs 0) = RSrc gs dd cc q.1 := by rw [Ths.up_ne _ _ (by simp), Ths.up_same]
      have hpk3 : ∀ j, ((T1.up (.rs 0) (RSrc gs dd cc q.1)).up (.tm 1) (Owt b8 5 y q.2.1)) (.rk j) = T1 (.rk j) := fun j => by rw [Ths.up_ne _ _ (by simp), Ths.up_ne _ _ (by simp)]
      have htm3 : ((T1.up (.rs 0) (RSrc gs dd cc q.1)).up (.tm 1) (Owt b8 5 y q.2.1)) (.tm 2) = T (.tm 2) := by rw [Ths.up_ne _ _ (by simp), Ths.up_ne _ _ (by simp)]; exact hgt1
      have hty3 : ((T1.up (.rs 0) (RSrc gs dd cc q.1)).up (.tm 1) (Owt b8 5 y q.2.1)) (.tm 1) = Owt b8 5 y q.2.1 := Ths.up_same _ _ _
      generalize (T1.up (.rs 0) (RSrc gs dd cc q.1)).up (.tm 1) (Owt b8 5 y q.2.1) = T3 at hS3 hK3 hps3 hpk3 htm3 hty3
      have hend3 : ∀ (e : Res) (a b : Int), resN e = (a, b) → r0 = (q.1, d1, left1, some e) → ∀ w', Sep W0 w' (T3.up (.tm 2) (Cel gt [.int .i64 a, .int .i64 b] 54)) → R (.returned (.agg #[.int .i64 a, .int .i64 b])) w' := by
        intro e a b hab he w' hS'
        have := hend w' _ e hS' (hK3.tm 2 _) (by rw [he, Ths.up_ne _ _ (by simp)]; exact hps3) (by rw [he, Ths.up_ne _ _ (by simp), hpk3]; exact hd1) (fun j hj => by rw [Ths.up_ne _ _ (by simp), hpk3]; exact ho1 j hj) (by rw [he])
        rw [hab] at this
        exact this
      dsimp only
      cases hwh : q.2.2 with
      | fin =>
        rw [hwh] at hr
        refine Cd_eq (fun _ => ?_) (fun h => absurd rfl h)
        unfold culletref24_Code_Split.j4
        exact Cd_t (ret2 hS3 (htm3.trans hgt) hcs (hend3 (.no 240) 1 240 rfl hr.symm))
      | short =>
        rw [hwh] at hr
        refine Cd_eq (fun h => absurd h (by decide)) (fun _ => ?_)
        unfold culletref24_Code_Split.j4
        exact Cd_t (ret2 hS3 (htm3.trans hgt) hcs (hend3 (.no 240) 1 240 rfl hr.symm))
      | broken =>
        rw [hwh] at hr
        refine Cd_eq (fun h => absurd h (by decide)) (fun _ => ?_)
        unfold culletref24_Code_Split.j4
        exact Cd_f (Cd_t (ret2 hS3 (htm3.trans hgt) hcs (hend3 (.src 0) 2 0 rfl hr.symm)))
      | ok =>
        rw [hwh] at hr
        have hqw := hqo hwh
        refine Cd_eq (fun h => absurd h (by decide)) (fun _ => ?_)
        unfold culletref24_Code_Split.j4
        refine Cd_f (Cd_f ?_)
        refine Wr_make (f := b8) (z := 0) tB iB rfl m (by omega) (by omega) rfl rfl fun p w4 hp hB4 hx4 => ?_
        subst hp
        generalize hgp : w3.heap.size = gp at hB4 ⊢
        have hS4 : Sep W0 w4 (T3.up (.tm 0) (Buf gp (List.replicate m 0))) := by subst hgp; exact hS3.box (.tm 0) hx4 hB4
        rw [wrap64 (by omega) (by omega), show (left1 : Int) - (want : Int) = ((left1 - want : Nat) : Int) by omega]
        unfold culletref24_Code_Split.l3
        refine loopW_of (fun st w5 => ∃ j : Nat, st = ((size : Int), at0 gs, ⟨gt, 0, none⟩, (len : Int), ((left1 - want : Nat) : Int), (i : Int), at0 (gd i), (at_ : Int), y, (⟨at0 gp, m, m⟩ : Sl), t67, t68, (i : Int), ((y.len : Nat) : Int), (j : Int), ()) ∧ j ≤ want ∧ Sep W0 w5 (T3.up (.tm 0) (Buf gp (q.2.1.take j ++ List.replicate (m - j) 0))))
          (fun st _ => ((want : Int) - st.2.2.2.2.2.2.2.2.2.2.2.2.2.2.1).toNat) ?_ ⟨0, rfl, Nat.zero_le _, by simpa using hS4⟩
        rintro k3 _ w5 ⟨j, rfl, hj, hS5⟩ hk3
        unfold culletref24_Code_Split.b3
        dsimp only at hk3 ⊢
        have hB5 := hS5.has (k := .tm 0) (Ths.up_same _ _ _)
        have hbl : (q.2.1.take j ++ List.replicate (m - j) (0 : Int)).length = m := by rw [List.length_append, List.length_take, List.length_replicate]; omega
        refine Cd_dec (fun hjl => ?_) (fun hjg => ?_)
        · have hjl : j < want := by omega
          have hy5 : Rds b8 w5 y q.2.1 := (hS5.owt (k := .tm 1) (by rw [Ths.up_ne _ _ (by simp)]; exact hty3)).rds
          refine Pu_idx hy5 tB sB (by omega) (by omega) fun a x hx hcell _ => ?_
          rw [Int.toNat_natCast] at hx
          refine Rd_one (c := .int .u8) (x := x) (by kernel_rfl) hcell ?_
          refine Pu_ix (s := ⟨at0 gp, m, m⟩) (i := (j : Int)) tB sB (a := ⟨gp, 0, none⟩) rfl (by omega) (show (j : Int) < ((m : Nat) : Int) by omega) ?_
          rw [Int.toNat_natCast, add_lit]
          refine Wu_store hB5 (by kernel_rfl) (by simp [Value.cells, Value.oneCell']) (by simp [Value.cells]; omega) fun w6 hB6 hm6 => ?_
          have hcells : (List.map b8 (q.2.1.take j ++ List.replicate (m - j) 0)).take j ++ (Value.int .u8 x).cells.toList ++ (List.map b8 (q.2.1.take j ++ List.replicate (m - j) 0)).drop (j + (Value.int .u8 x).cells.size) = List.map b8 (q.2.1.take (j + 1) ++ List.replicate (m - (j + 1)) 0) := by
            have e1 : (Value.int .u8 x).cells.toList = [b8 x] := rfl
            have e2 : (Value.int .u8 x).cells.size = 1 := rfl
            have htl : (q.2.1.take j).length = j := by rw [List.length_take]; omega
            rw [e1, e2, ← List.map_take, ← List.map_drop, List.take_append_of_le_length (by omega), List.take_of_length_le (by omega), List.drop_append, List.drop_of_length_le (by omega), htl, List.nil_append, List.drop_replicate, show m - j - (j + 1 - j) = m - (j + 1) by omega]
            have : q.2.1.take (j + 1) = q.2.1.take j ++ [x] := by rw [List.take_succ, hx]; rfl
            rw [this]
            simp
          rw [hcells] at hB6
          have hS6 := hS5.cel (k := .tm 0) (Ths.up_same _ _ _) hB6 hm6
          rw [Ths.up_up] at hS6
          rw [wrap64 (by omega) (by omega), show (j : Int) + 1 = ((j + 1 : Nat) : Int) by omega]
          exact hk3 _ _ ⟨j + 1, rfl, by omega, hS6⟩ (by dsimp only; omega)
        · have hjw : j = want := by omega
          subst hjw
          have hpl : (q.2.1 ++ List.replicate (m - j) (0 : Int)).length = m := by rw [List.length_append, List.length_replicate]; omega
          rw [List.take_of_length_le (by omega)] at hB5 hS5
          have hput := put_facts hgd1 (q.2.1 ++ List.replicate (m - j) (0 : Int))
          dsimp only at hr
          refine Cl_mono (rput_ok hS5 (k := .rk i) (x := ⟨at0 gp, m, m⟩) (by rw [Ths.up_ne _ _ (by simp), hpk3]; exact hd1) (own_of_has (base := 0) hpl (by omega) hB5 (Nat.zero_le _)).rds hgd1 (by omega)) ?_
          generalize d1.put (q.2.1 ++ List.replicate (m - j) (0 : Int)) = e at hr hput ⊢
          rintro x w6 ⟨rfl, hS6⟩
          obtain ⟨hp1, hp2, hp3, hp4⟩ := hput
          have hK6 := (hK3.tm 0 (Buf gp (q.2.1 ++ List.replicate (m - j) 0))).rk i (RSnk (gd i) e.1)
          have hps6 : ((T3.up (.tm 0) (Buf gp (q.2.1 ++ List.replicate (m - j) 0))).up (.rk i) (RSnk (gd i) e.1)) (.rs 0) = RSrc gs dd cc q.1 := by rw [Ths.up_ne _ _ (by simp), Ths.up_ne _ _ (by simp)]; exact hps3
          have hpk6 : ∀ l, l ≠ i → ((T3.up (.tm 0) (Buf gp (q.2.1 ++ List.replicate (m - j) 0))).up (.rk i) (RSnk (gd i) e.1)) (.rk l) = T (.rk l) := fun l hl => by rw [Ths.up_ne _ _ (by simpa using hl), Ths.up_ne _ _ (by simp), hpk3, ho1 l hl]
          have htm6 : ((T3.up (.tm 0) (Buf gp (q.2.1 ++ List.replicate (m - j) 0))).up (.rk i) (RSnk (gd i) e.1)) (.tm 2) = T (.tm 2) := by rw [Ths.up_ne _ _ (by simp), Ths.up_ne _ _ (by simp)]; exact htm3
          refine Cd_not (fun hb => ?_) (fun hb => ?_)
          · have hb' : ¬ e.2 = true := by rw [hb]; simp
            rw [if_neg hb'] at hr
            refine ret2 hS6 (htm6.trans hgt) hcs fun w7 hS7 => ?_
            exact hend w7 _ (.snk i) hS7 (hK6.tm 2 _) (by rw [← hr, Ths.up_ne _ _ (by simp)]; exact hps6) (by rw [← hr, Ths.up_ne _ _ (by simp)]; exact Ths.up_same _ _ _) (fun l hl => by rw [Ths.up_ne _ _ (by simp)]; exact hpk6 l hl) (by rw [← hr])
          · rw [if_pos hb] at hr
            rw [wrap64 (by omega) (by omega), show (at_ : Int) + (size : Int) = ((at_ + size : Nat) : Int) by omega]
            have hql := hq.like
            have hqlo := hq.lo
            refine hk2 _ _ ⟨q.1, e.1, _, at_ + size, left1 - j, f, rfl, hS6, hK6, htm6, hps6, Ths.up_same _ _ _, hpk6, hl1.trans hql, hq.good, hp1, by omega, ?_, by omega, by omega, by omega, hr⟩ (by dsimp only; omega)
            by_cases hw0 : j = 0
            · rw [hq0 hw0, hw0]; simpa using ht1
            · omega
    have j2f : ∀ m : Nat, m = min size (len - at_) → culletref24_Code_Split.j2 R K1 k2 (size : Int) (at0 gs) ⟨gt, 0, none⟩ (len : Int) (left1 : Int) (i : Int) (at0 (gd i)) (at_ : Int) (m : Int) t67 t68 (i : Int) w1 := by
      intro m hm
      unfold culletref24_Code_Split.j2
      exact Cd_dec (fun h => j3f m left1 hm (by omega)) (fun h => j3f m m hm (by omega))
    exact Cd_dec (fun h => j2f size (by omega)) (fun h => j2f (len - at_) (by omega))
  · have hrr : r0 = (s1, d1, left1, none) := by
      rw [← hr]
      cases f with
      | zero => rfl
      | succ f => simp only [inF]; rw [if_pos (by omega)]
    rw [hrr] at hgo
    exact hgo w1 T1 hS1 hK1 hgt1 hs1 hd1 ho1 rfl hl1 hg1 hle1 ht1
end Go.Proofs.YtmmejgneelkhkaaDoor
