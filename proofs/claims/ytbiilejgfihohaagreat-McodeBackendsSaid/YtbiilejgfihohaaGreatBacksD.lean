/- A part of what the last text of this claim leans on. -/
import Derived.Test.YtbiilejgfihohaaGreatBacksC
import Derived.Test.YtbiilejgfihohaaGreatProg
set_option linter.all false
namespace Go.Proofs.YtbiilejgfihohaaGreat
open Go Go.Cu Go.RowKit
set_option linter.unusedVariables false
set_option maxHeartbeats 4000000
set_option maxRecDepth 100000
def cutS (s : Sl) (a b : Nat) : Sl := ⟨if s.cap = a then s.base else s.base.map (·.add a), b - a, s.cap - a⟩
theorem Pu_cut {t e : TypeId} {s : Sl} {lo hi : Option Value} (a b : Nat) {k : Sl → World → Prop} {w : World} (ht : Tryz.prog.underlying t = some (.slice e)) (hs : sizeIs Tryz.prog e 1 = true)
    (hlo : (lo = none ∧ a = 0) ∨ ∃ k, lo = some (.int k a)) (hhi : (hi = none ∧ b = s.len) ∨ ∃ k, hi = some (.int k b)) (h1 : a ≤ b) (h2 : b ≤ s.cap) (hk : k (cutS s a b) w) :
    Pu Tryz.prog (Instr.sliceAt t (.slice s.base s.len s.cap) lo hi none) (.one (.at .sl)) k w := by
  refine ⟨cutS s a b, fun w' => ?_, hk⟩
  have := run_sliceAt (P := Tryz.prog) (s := s) (w := w') (l := a) (h := b) ht hs hlo hhi h1 h2
  rw [Nat.mul_one] at this
  exact this
theorem rds_cut {α : Type} {f : α → Value} {w : World} {s : Sl} {l : List α} (hr : Rds f w s l) {a b : Nat} (h1 : a ≤ b) (h2 : b ≤ l.length) : Rds f w (cutS s a b) ((l.take b).drop a) := Rds.slice hr h1 h2
theorem cut_in {s : Sl} {a b : Nat} {g : Nat} (h : SlIn (cutS s a b) g) : SlIn s g := by
  obtain ⟨x, hx, hg⟩ := h
  unfold cutS at hx
  simp only at hx
  split at hx
  · exact ⟨x, hx, hg⟩
  · cases hb : s.base with
    | none => rw [hb] at hx; cases hx
    | some y => rw [hb] at hx; cases hx; exact ⟨y, hb, by rw [← hg]; exact (Addr.add_block y a).symm⟩
theorem Win.cut {w : World} {s : Sl} {g o : Nat} {cs : List Value} {l : List F8} {a b : Nat} (h : Win w s g o cs l) (hab : a ≤ b) (hb : b ≤ l.length) : Win w (cutS s a b) g (o + a) (putW cs o l) ((l.take b).drop a) := by
  have hc := h.cap
  have hl := h.len
  refine h.sub hab hb rfl (by unfold cutS; simp only; omega) (fun hlt => ?_)
  unfold cutS
  simp only
  rw [if_neg (by omega), h.base (by omega)]
  simp only [Option.map_some, Option.some.injEq]
  unfold Addr.add; split
  · rename_i e; rw [e]; rfl
  · rfl
theorem putW_back {cs : List Value} {o : Nat} {l m : List F8} {a b : Nat} (hab : a ≤ b) (hb : b ≤ l.length) (hm : m.length = b - a) (h : o + l.length ≤ cs.length) : putW (putW cs o l) (o + a) m = putW cs o (l.take a ++ m ++ l.drop b) := by
  have hl : (l.take a ++ m ++ l.drop b).length = l.length := by rw [List.length_append, List.length_append, List.length_take, List.length_drop]; omega
  have hA : (cs.take o).length = o := by rw [List.length_take]; omega
  have h1 : (putW cs o l).take (o + a) = cs.take o ++ (l.map f8v).take a := by
    unfold putW
    rw [List.append_assoc, List.take_append, hA, List.take_of_length_le (by omega), Nat.add_sub_cancel_left, List.take_append_of_le_length (by rw [List.length_map]; omega)]
  have h2 : (putW cs o l).drop (o + b) = (l.map f8v).drop b ++ cs.drop (o + l.length) := by
    unfold putW
    rw [List.append_assoc, List.drop_append, hA, List.drop_of_length_le (by omega), List.nil_append, Nat.add_sub_cancel_left, List.drop_append_of_le_length (by rw [List.length_map]; omega)]
  have e : putW (putW cs o l) (o + a) m = (putW cs o l).take (o + a) ++ m.map f8v ++ (putW cs o l).drop (o + a + m.length) := rfl
  rw [e, show o + a + m.length = o + b by omega, h1, h2]
  unfold putW
  rw [hl, List.map_append, List.map_append, List.map_take, List.map_drop]
  simp only [List.append_assoc]
theorem Win.back {w w' : World} {s : Sl} {g o : Nat} {cs : List Value} {l m : List F8} {a b : Nat} (h : Win w s g o cs l) (hab : a ≤ b) (hb : b ≤ l.length) (hm : m.length = b - a) (h' : Win w' (cutS s a b) g (o + a) (putW cs o l) m) : Win w' s g o cs (l.take a ++ m ++ l.drop b) := by
  refine h.to (by simp; omega) ?_
  rw [← putW_back hab hb hm h.le]
  exact h'.has
structure TailB (w : World) (bp bd bs bk pb g : Nat) (d sc : Sl) (c : F8) (ls : List F8) : Prop where
  hp : Has w bp [.pointer (at0 pb)] 269
  hd : Has w bd [slV d] 24
  hs : Has w bs [slV sc] 24
  hk : Has w bk [.int .u8 255] 5
  col : ColK w pb c
  src : Rds f8v w sc ls
  np : bp ≠ g
  nd : bd ≠ g
  ns : bs ≠ g
  nk : bk ≠ g
  nc : pb ≠ g
  nr : ∀ b, b < w.heap.size → SlIn sc b → b ≠ g
theorem TailB.mo {w w' : World} {bp bd bs bk pb g : Nat} {d sc : Sl} {c : F8} {ls : List F8} (h : TailB w bp bd bs bk pb g d sc c ls) (m : Mo (fun b => b = g) w w') (hnr : ∀ b, SlIn sc b → b ≠ g) : TailB w' bp bd bs bk pb g d sc c ls :=
  ⟨h.hp.mo m h.np, h.hd.mo m h.nd, h.hs.mo m h.ns, h.hk.mo m h.nk, h.col.mo m h.nc, h.src.mo m (fun a ha => hnr _ (slin_of ha)), h.np, h.nd, h.ns, h.nk, h.nc, fun b _ hb => hnr b hb⟩
theorem TailB.ex {w w' : World} {bp bd bs bk pb g : Nat} {d sc : Sl} {c : F8} {ls : List F8} (h : TailB w bp bd bs bk pb g d sc c ls) (x : Ex w w') (hnr : ∀ b, SlIn sc b → b ≠ g) : TailB w' bp bd bs bk pb g d sc c ls := h.mo (x.weak (fun _ _ h => h.elim)) hnr
theorem word1_gv {w : World} {pb : Nat} {c x : F8} (hK : ColK w pb c) : ∃ v : Int, Gv Tryz.prog 200 #[.pointer (at0 pb), .int .u64 (IntKind.wrap .u64 (x.toNat : Int))] (.int .u64 v) w ∧ IntKind.wrap .u8 v = ((fmul c x).toNat : Int) := by
  have hx := x.isLt
  have e : wrd (x :: List.replicate 7 0#8) = x.toNat := by simp [wrd]
  have h := word_gv (xs := x :: List.replicate 7 0#8) hK rfl
  rw [e] at h
  refine ⟨_, by rw [wrap_u64_id (x := (x.toNat : Int)) (by omega) (by omega)]; exact h, ?_⟩
  rw [wrap_u8_mod, List.map_cons]
  have := wrd_byte (fmul c x :: (List.replicate 7 0#8).map (fmul c)) 0 (fmul c x) rfl
  simp only [Nat.mul_zero, Nat.shiftRight_zero] at this
  rw [this]
theorem one_ok {w : World} {bp bd bs bk pb g o i : Nat} {d sc : Sl} {c x y : F8} {cs : List Value} {l ls : List F8} (hB : TailB w bp bd bs bk pb g d sc c ls) (hnr : ∀ b, SlIn sc b → b ≠ g) (hW : Win w d g o cs l) (hx : l[i]? = some x) (hy : ls[i]? = some y) :
    Cl Tryz.prog 204 #[.int .i64 (i : Int), .pointer (some ⟨bd, 0, none⟩), .pointer (some ⟨bk, 0, none⟩), .pointer (some ⟨bp, 0, none⟩), .pointer (some ⟨bs, 0, none⟩)] (.tup []) (fun _ w' => Win w' d g o cs (l.set i (x ^^^ fmul c y)) ∧ Mo (fun b => b = g) w w') w := by
  refine sliced_tail_1.run _ (i : Int) ⟨bd, 0, none⟩ ⟨bk, 0, none⟩ ⟨bp, 0, none⟩ ⟨bs, 0, none⟩ w ?_
  generalize hRR : (fun (e : Ending) (w' : World) => ∃ x_1 : Cxs [], e = .returned ((Sh.tup []).enc x_1) ∧ Win w' d g o cs (l.set i (x ^^^ fmul c y)) ∧ Mo (fun b => b = g) w w') = R
  unfold sliced_tail_1.M
  have hi := (List.getElem?_eq_some_iff.1 hx).1
  have hxl := x.isLt
  have hd := Ex.drew w
  have hBd := hB.ex hd hnr
  have hWd := hW.ex hd
  refine Held_of (fun w' => TailB w' bp bd bs bk pb g d sc c ls) hBd ?_
  refine RdS_has (c := .sl) (x := d) (fun w' h => h.hd) (by kernel_rfl) rfl ?_
  refine RdS_has (c := .sl) (x := d) (fun w' h => h.hd) (by kernel_rfl) rfl ?_
  refine Pu_win hWd hi ?_
  refine RdS_has (c := .int .u8) (x := 255) (fun w' h => h.hk) oB rfl ?_
  refine RdS_has (c := .ptr) (x := at0 pb) (fun w' h => h.hp) (by kernel_rfl) rfl ?_
  refine RdS_has (c := .sl) (x := sc) (fun w' h => h.hs) (by kernel_rfl) rfl ?_
  refine rdS_ent hBd.src (fun w' h => ⟨ls, h.src, hy⟩) hy ?_
  have hand : bAnd .u8 (x.toNat : Int) 255 = (x.toNat : Int) := by
    rw [show (255 : Int) = ((255 : Nat) : Int) from rfl, bAnd_nat .u8 8 (.inl ⟨rfl, rfl⟩) _ 255 (by omega) (by decide)]
    have := Nat.and_two_pow_sub_one_eq_mod x.toNat 8
    rw [show (2 : Nat) ^ 8 - 1 = 255 by decide] at this
    rw [this, Nat.mod_eq_of_lt (by omega)]
  have fin : ∀ {w5 : World}, TailB w5 bp bd bs bk pb g d sc c ls → Win w5 d g o cs l → Ex w w5 → ∀ v : Int, IntKind.wrap .u8 v = ((fmul c y).toNat : Int) → Pu Tryz.prog (Instr.indexAt 24 (.slice d.base d.len d.cap) (.int .i64 (i : Int))) (.one (.at .addr)) (fun (x22 : Addr) w23 =>
      Wu Tryz.prog (Instr.storeAt 5 (.pointer (some x22)) (.int .u8 (bXor .u8 (bAnd .u8 (x.toNat : Int) 255) (IntKind.wrap .u8 v)))) (fun w24 => TailB w24 bp bd bs bk pb g d sc c ls ∧ (R (.returned (.tuple #[])) w24)) w23) w5 := by
    intro w5 h5 hW5 hx5 v hv
    rw [hand, hv, bXor_f8]
    refine Wu_win hW5 hi rfl fun w6 hW6 hm6 => ⟨h5.mo hm6 hnr, ?_⟩
    subst hRR
    exact ⟨(), rfl, hW6, hx5.mo hm6⟩
  obtain ⟨v, hgv, hv⟩ := word1_gv (x := y) hBd.col
  constructor
  · refine Wr_win hWd hx ⟨hBd, ?_⟩
    refine Cl_gv (d := .one (.at (.int .u64))) (x := v) hgv fun w5 hx5 => ⟨hBd.ex hx5 hnr, fin (hBd.ex hx5 hnr) (hWd.ex hx5) (hd.trans hx5) v hv⟩
  · refine Cl_gv (d := .one (.at (.int .u64))) (x := v) hgv fun w5 hx5 => ⟨hBd.ex hx5 hnr, ?_⟩
    refine Wr_win (hWd.ex hx5) hx ⟨hBd.ex hx5 hnr, fin (hBd.ex hx5 hnr) (hWd.ex hx5) (hd.trans hx5) v hv⟩
theorem call_one (i : Int) (a b c d : Addr) (w : World) : (do let d ← Deferred.ofValue (.func (.func 204) #[] #[(.pointer (some a)), (.pointer (some b)), (.pointer (some c)), (.pointer (some d))]) #[(.int .i64 i)]; invoke d.target d.args : Sem Next).run Tryz.prog w = .ok (.enter 204 #[.int .i64 i, .pointer (some a), .pointer (some b), .pointer (some c), .pointer (some d)]) w := by kernel_rfl
theorem tail_ok {w : World} {pb g o : Nat} {d sc : Sl} {c : F8} {cs : List Value} {l ls : List F8} (hK : ColK w pb c) (hW : Win w d g o cs l) (hr : Rds f8v w sc ls) (hl : ls.length = l.length) (h7 : l.length ≤ 7) (hnr : ∀ b, SlIn sc b → b ≠ g) (hpg : pb ≠ g) :
    Cl Tryz.prog 203 #[.pointer (at0 pb), .slice d.base d.len d.cap, .slice sc.base sc.len sc.cap, .int .u8 255] (.tup []) (fun _ w' => Win w' d g o cs (addM ls c l) ∧ Mo (fun b => b = g) w w') w := by
  refine sliced_tail.run _ (at0 pb) d sc 255 w ?_
  generalize hRR : (fun (e : Ending) (w' : World) => ∃ x_1 : Cxs [], e = .returned ((Sh.tup []).enc x_1) ∧ Win w' d g o cs (addM ls c l) ∧ Mo (fun b => b = g) w w') = R
  unfold sliced_tail.M
  have hgl := hW.has.lt
  have hAl : (addM ls c l).length = l.length := by rw [addM_len hl.symm, hl]
  refine Wr_box fun w1 h1 x1 => Wr_box fun w2 h2 x2 => Wr_box fun w3 h3 x3 => Wr_box fun w4 h4 x4 => ?_
  have s1 := x1.size
  have s2 := x2.size
  have s3 := x3.size
  have hx : Ex w w4 := ((x1.trans x2).trans x3).trans x4
  have hB : TailB w4 w.heap.size w1.heap.size w2.heap.size w3.heap.size pb g d sc c ls :=
    ⟨h1.ex ((x2.trans x3).trans x4), h2.ex (x3.trans x4), h3.ex x4, h4, hK.ex hx, hr.ex hx, by omega, by omega, by omega, by omega, hpg, fun b _ hb => hnr b hb⟩
  generalize w.heap.size = bp at hB ⊢
  generalize w1.heap.size = bd at hB ⊢
  generalize w2.heap.size = bs at hB ⊢
  generalize w3.heap.size = bk at hB ⊢
  refine Rd_has (c := .sl) (x := sc) hB.hs (by kernel_rfl) rfl ?_
  have hsl := hr.1
  -- what holds where n places are left to do
  have st : ∀ {w5 : World} {n : Nat} {K : World → Prop}, n < l.length → (Win w5 d g o cs (l.take (n + 1) ++ (addM ls c l).drop (n + 1)) ∧ Mo (fun b => b = g) w4 w5) → (∀ w6, (Win w6 d g o cs (l.take n ++ (addM ls c l).drop n) ∧ Mo (fun b => b = g) w4 w6) → K w6) →
      Cl Tryz.prog 204 #[.int .i64 (n : Int), .pointer (some ⟨bd, 0, none⟩), .pointer (some ⟨bk, 0, none⟩), .pointer (some ⟨bp, 0, none⟩), .pointer (some ⟨bs, 0, none⟩)] (.tup []) (fun _ w' => K w') w5 := by
    intro w5 n K hn h5 hk
    have hxn : l[n]? = some l[n] := List.getElem?_eq_getElem hn
    have hyn : ls[n]? = some ls[n] := List.getElem?_eq_getElem (by omega)
    have hcur : (l.take (n + 1) ++ (addM ls c l).drop (n + 1))[n]? = some l[n] := by rw [List.getElem?_append_left (by simp; omega), List.getElem?_take, if_pos (by omega)]; exact hxn
    refine Cl_mono (one_ok (hB.mo h5.2 hnr) hnr h5.1 hcur hyn) ?_
    rintro _ w6 ⟨h6, hm6⟩
    refine hk w6 ⟨?_, Mo.trans h5.2 hm6 (fun _ => id) (fun _ _ => id)⟩
    have e : (l.take (n + 1) ++ (addM ls c l).drop (n + 1)).set n (l[n] ^^^ fmul c ls[n]) = l.take n ++ (addM ls c l).drop n := by
      have h1 : (addM ls c l)[n]? = some (l[n] ^^^ fmul c ls[n]) := addM_at hxn hyn
      refine List.ext_getElem? fun j => ?_
      rw [List.getElem?_set]
      by_cases hj : n = j
      · subst hj
        rw [if_pos rfl, if_pos (by simp; omega), List.getElem?_append_right (by simp; omega), List.getElem?_drop, List.length_take, Nat.min_eq_left (by omega), Nat.sub_self, Nat.add_zero, h1]
      · rw [if_neg hj]
        by_cases hj2 : j < n
        · rw [List.getElem?_append_left (by simp; omega), List.getElem?_append_left (by simp; omega), List.getElem?_take, List.getElem?_take, if_pos (by omega), if_pos hj2]
        · rw [List.getElem?_append_right (by simp; omega), List.getElem?_append_right (by simp; omega), List.getElem?_drop, List.getElem?_drop, List.length_take, List.length_take]
          congr 1
          omega
    rw [e] at h6
    exact h6
  have nx : ∀ {w5 : World} {n : Nat} {i : Int} {K : World → Prop}, i = (n : Int) → n < l.length → (Win w5 d g o cs (l.take (n + 1) ++ (addM ls c l).drop (n + 1)) ∧ Mo (fun b => b = g) w4 w5) → (∀ w6, (Win w6 d g o cs (l.take n ++ (addM ls c l).drop n) ∧ Mo (fun b => b = g) w4 w6) → K w6) →
      Nx Tryz.prog (do let d ← Deferred.ofValue (.func (.func 204) #[] #[(.pointer (some ⟨bd, 0, none⟩)), (.pointer (some ⟨bk, 0, none⟩)), (.pointer (some ⟨bp, 0, none⟩)), (.pointer (some ⟨bs, 0, none⟩))]) #[(.int .i64 i)]; invoke d.target d.args) (.tup []) (fun _ w' => K w') w5 := by
    intro w5 n i K hi hn h5 hk
    subst hi
    exact .inr (.inl ⟨_, _, _, call_one _ _ _ _ _ w5, st hn h5 hk⟩)
  have dn : ∀ {w5 : World}, (Win w5 d g o cs (l.take 0 ++ (addM ls c l).drop 0) ∧ Mo (fun b => b = g) w4 w5) → R (.returned (.tuple #[])) w5 := by
    intro w5 h5
    subst hRR
    exact ⟨(), rfl, by simpa using h5.1, hx.mo h5.2⟩
  have k1 : ∀ {w5 : World}, 1 ≤ l.length → (Win w5 d g o cs (l.take 1 ++ (addM ls c l).drop 1) ∧ Mo (fun b => b = g) w4 w5) → sliced_tail.j1 R (.func (.func 204) #[] #[(.pointer (some ⟨bd, 0, none⟩)), (.pointer (some ⟨bk, 0, none⟩)), (.pointer (some ⟨bp, 0, none⟩)), (.pointer (some ⟨bs, 0, none⟩))]) w5 :=
    fun hn h5 => nx (n := 0) rfl (by omega) h5 (fun w6 h6 => dn h6)
  have k2 : ∀ {w5 : World}, 2 ≤ l.length → (Win w5 d g o cs (l.take 2 ++ (addM ls c l).drop 2) ∧ Mo (fun b => b = g) w4 w5) → sliced_tail.j2 R (.func (.func 204) #[] #[(.pointer (some ⟨bd, 0, none⟩)), (.pointer (some ⟨bk, 0, none⟩)), (.pointer (some ⟨bp, 0, none⟩)), (.pointer (some ⟨bs, 0, none⟩))]) w5 :=
    fun hn h5 => nx (n := 1) rfl (by omega) h5 (fun w6 h6 => k1 (by omega) h6)
  have k3 : ∀ {w5 : World}, 3 ≤ l.length → (Win w5 d g o cs (l.take 3 ++ (addM ls c l).drop 3) ∧ Mo (fun b => b = g) w4 w5) → sliced_tail.j3 R (.func (.func 204) #[] #[(.pointer (some ⟨bd, 0, none⟩)), (.pointer (some ⟨bk, 0, none⟩)), (.pointer (some ⟨bp, 0, none⟩)), (.pointer (some ⟨bs, 0, none⟩))]) w5 :=
    fun hn h5 => nx (n := 2) rfl (by omega) h5 (fun w6 h6 => k2 (by omega) h6)
  have k4 : ∀ {w5 : World}, 4 ≤ l.length → (Win w5 d g o cs (l.take 4 ++ (addM ls c l).drop 4) ∧ Mo (fun b => b = g) w4 w5) → sliced_tail.j4 R (.func (.func 204) #[] #[(.pointer (some ⟨bd, 0, none⟩)), (.pointer (some ⟨bk, 0, none⟩)), (.pointer (some ⟨bp, 0, none⟩)), (.pointer (some ⟨bs, 0, none⟩))]) w5 :=
    fun hn h5 => nx (n := 3) rfl (by omega) h5 (fun w6 h6 => k3 (by omega) h6)
  have k5 : ∀ {w5 : World}, 5 ≤ l.length → (Win w5 d g o cs (l.take 5 ++ (addM ls c l).drop 5) ∧ Mo (fun b => b = g) w4 w5) → sliced_tail.j5 R (.func (.func 204) #[] #[(.pointer (some ⟨bd, 0, none⟩)), (.pointer (some ⟨bk, 0, none⟩)), (.pointer (some ⟨bp, 0, none⟩)), (.pointer (some ⟨bs, 0, none⟩))]) w5 :=
    fun hn h5 => nx (n := 4) rfl (by omega) h5 (fun w6 h6 => k4 (by omega) h6)
  have k6 : ∀ {w5 : World}, 6 ≤ l.length → (Win w5 d g o cs (l.take 6 ++ (addM ls c l).drop 6) ∧ Mo (fun b => b = g) w4 w5) → sliced_tail.j6 R (.func (.func 204) #[] #[(.pointer (some ⟨bd, 0, none⟩)), (.pointer (some ⟨bk, 0, none⟩)), (.pointer (some ⟨bp, 0, none⟩)), (.pointer (some ⟨bs, 0, none⟩))]) w5 :=
    fun hn h5 => nx (n := 5) rfl (by omega) h5 (fun w6 h6 => k5 (by omega) h6)
  have beg : ∀ n, n = l.length → Win w4 d g o cs (l.take n ++ (addM ls c l).drop n) ∧ Mo (fun b => b = g) w4 w4 := by
    rintro n rfl
    rw [List.take_length, List.drop_of_length_le (by omega), List.append_nil]
    exact ⟨hW.ex hx, Mo.refl _ _⟩
  refine Cd_eq (fun h => ?_) (fun n7 => Cd_eq (fun h => k6 (by omega) (beg 6 (by omega))) (fun n6 => Cd_eq (fun h => k5 (by omega) (beg 5 (by omega))) (fun n5 => Cd_eq (fun h => k4 (by omega) (beg 4 (by omega))) (fun n4 => Cd_eq (fun h => k3 (by omega) (beg 3 (by omega))) (fun n3 => Cd_eq (fun h => k2 (by omega) (beg 2 (by omega))) (fun n2 => Cd_eq (fun h => k1 (by omega) (beg 1 (by omega))) (fun n1 => dn (beg 0 (by omega)))))))))
  exact st (n := 6) (by omega) (beg 7 (by omega)) (fun w6 h6 => k6 (by omega) h6)
end Go.Proofs.YtbiilejgfihohaaGreat
set_option linter.all false
namespace Go.Proofs.YtbiilejgfihohaaGreat
open Go Go.Cu Go.RowKit
set_option linter.unusedVariables false
set_option maxHeartbeats 4000000
set_option maxRecDepth 100000
theorem addM_drop (ls l : List F8) (c : F8) (n : Nat) : addM (ls.drop n) c (l.drop n) = (addM ls c l).drop n := by
  unfold addM
  rw [List.drop_zipWith]
theorem addM_take (ls l : List F8) (c : F8) (n : Nat) : addM (ls.take n) c (l.take n) = (addM ls c l).take n := by
  unfold addM
  rw [List.take_zipWith]
theorem Win.rest {w : World} {s : Sl} {g o : Nat} {cs : List Value} {l : List F8} {a : Nat} (h : Win w s g o cs l) (ha : a ≤ l.length) : Win w (cutS s a s.len) g (o + a) (putW cs o l) (l.drop a) := by
  have hl := h.len
  have := h.cut (a := a) (b := s.len) (by omega) (by omega)
  have e : l.take s.len = l := List.take_of_length_le (by omega)
  rw [e] at this
  exact this
theorem rds_rest {w : World} {s : Sl} {l : List F8} {a : Nat} (h : Rds f8v w s l) (ha : a ≤ l.length) : Rds f8v w (cutS s a s.len) (l.drop a) := by
  have hl := h.1
  have := rds_cut h (a := a) (b := s.len) (by omega) (by omega)
  have e : l.take s.len = l := List.take_of_length_le (by omega)
  rw [e] at this
  exact this
theorem run_ok {w : World} {g o : Nat} {d sc : Sl} {c : F8} {cs : List Value} {l ls : List F8} (hW : Win w d g o cs l) (hr : Rds f8v w sc ls) (hl : ls.length = l.length) (hm : l.length ≤ 1099511627776) (hnr : ∀ b, SlIn sc b → b ≠ g) :
    Cl Tryz.prog 198 #[f8v c, .slice d.base d.len d.cap, .slice sc.base sc.len sc.cap, .int .u8 255] (.tup []) (fun _ w' => Win w' d g o cs (addM ls c l) ∧ Mo (fun b => b = g) w w') w := by
  refine sliced_run.run _ (c.toNat : Int) d sc 255 w ?_
  generalize hRR : (fun (e : Ending) (w' : World) => ∃ x_1 : Cxs [], e = .returned ((Sh.tup []).enc x_1) ∧ Win w' d g o cs (addM ls c l) ∧ Mo (fun b => b = g) w w') = R
  unfold sliced_run.M
  have hgl := hW.has.lt
  have hdl := hW.len
  have hdc := hW.cap
  have hsl := hr.1
  have hsc := hr.2.1
  have hAl : (addM ls c l).length = l.length := by rw [addM_len hl.symm, hl]
  refine Cl_mono (columns_ok c w) ?_
  rintro _ w1 ⟨rfl, hx1⟩
  refine alloc8 (colF c) fun w2 hC2 hx2 => ?_
  have hs1 := hx1.size
  refine sto8 (F := colF c) hC2 (octG_len _ _) fun w3 hC3 hm3 => ?_
  have hx3 : Ex w w3 := (hx1.trans hx2).into hm3 (fun i hi => by omega)
  have hpg : w1.heap.size ≠ g := by omega
  generalize w1.heap.size = pb at hC3 hpg ⊢
  obtain ⟨q, hq⟩ : ∃ q : Nat, q = l.length / 8 := ⟨_, rfl⟩
  have en : IntKind.wrap .i64 ((IntKind.wrap .i64 (Int.tdiv ((sc.len : Nat) : Int) 8)) * 8) = ((8 * q : Nat) : Int) := by
    have : Int.tdiv ((sc.len : Nat) : Int) 8 = ((q : Nat) : Int) := by
      rw [Int.tdiv_eq_ediv_of_nonneg (by omega)]; omega
    rw [this, wrap64 (x := (q : Int)) (by omega) (by omega), wrap64 (by omega) (by omega)]
    omega
  rw [en]
  unfold sliced_run.l1
  refine loopW_of (fun st w' => ∃ i : Nat, st = (d, sc, 255, ⟨pb, 0, none⟩, ((8 * q : Nat) : Int), ((8 * i : Nat) : Int), ()) ∧ i ≤ q ∧ Win w' d g o cs ((addM ls c l).take (8 * i) ++ l.drop (8 * i)) ∧ Mo (fun b => b = g) w w' ∧ ColK w' pb c) (fun st _ => (((8 * q : Nat) : Int) - st.2.2.2.2.2.1).toNat) ?_
    ⟨0, rfl, Nat.zero_le _, by simpa using hW.ex hx3, hx3.weak (fun _ _ h => h.elim), hC3⟩
  rintro k _ w4 ⟨i, rfl, hi, hW4, hm4, hC4⟩ hk
  unfold sliced_run.b1
  dsimp only at hk ⊢
  have hr4 : Rds f8v w4 sc ls := hr.mo hm4 (fun a ha => hnr _ (slin_of ha))
  have hcur : ((addM ls c l).take (8 * i) ++ l.drop (8 * i)).length = l.length := by rw [List.length_append, List.length_take, List.length_drop, hAl]; omega
  refine Cd_dec (fun hlt => ?_) (fun hge => ?_)
  · have hiq : i < q := by omega
    -- what is loaded
    have hX : (ls.drop (8 * i)).take 8 = (ls.drop (8 * i)).take 8 := rfl
    generalize hXe : (ls.drop (8 * i)).take 8 = X at hX
    have hXl : X.length = 8 := by rw [← hXe, List.length_take, List.length_drop]; omega
    have hY : (l.drop (8 * i)).take 8 = (l.drop (8 * i)).take 8 := rfl
    generalize hYe : (l.drop (8 * i)).take 8 = Y at hY
    have hYl : Y.length = 8 := by rw [← hYe, List.length_take, List.length_drop]; omega
    have hrc : Rds f8v w4 (cutS sc (8 * i) sc.len) (ls.drop (8 * i)) := rds_rest hr4 (by omega)
    refine Pu_cut (8 * i) sc.len tB sB (.inr ⟨_, rfl⟩) (.inl ⟨rfl, rfl⟩) (by omega) (by omega) ?_
    refine Cl_gv (d := .one (.at (.int .u64))) (x := ((wrd X : Nat) : Int)) (by rw [← hXe]; exact load_gv hrc (by rw [List.length_drop]; omega)) fun w5 hx5 => ?_
    refine Cl_gv (d := .one (.at (.int .u64))) (x := ((wrd (X.map (fmul c)) : Nat) : Int)) (word_gv (hC4.ex hx5) hXl) fun w6 hx6 => ?_
    have hx46 := hx5.trans hx6
    have hW6 := hW4.ex hx46
    have hWc : Win w6 (cutS d (8 * i) d.len) g (o + 8 * i) (putW cs o ((addM ls c l).take (8 * i) ++ l.drop (8 * i))) (l.drop (8 * i)) := by
      have := hW6.rest (a := 8 * i) (by omega)
      rwa [List.drop_left' (by rw [List.length_take]; omega)] at this
    refine Cd_of (fun _ => ?_) (fun h => by cases h)
    refine Pu_cut (8 * i) d.len tB sB (.inr ⟨_, rfl⟩) (.inl ⟨rfl, rfl⟩) (by omega) (by omega) ?_
    refine Cl_gv (d := .one (.at (.int .u64))) (x := ((wrd Y : Nat) : Int)) (by rw [← hYe]; exact load_gv hWc.rds (by rw [List.length_drop]; omega)) fun w7 hx7 => ?_
    unfold sliced_run.j1
    have hb1 := wrd_bound (xs := X.map (fmul c)) (by rw [List.length_map]; omega)
    have hb2 := wrd_bound (xs := Y) (by omega)
    rw [bXor_nat .u64 64 (.inr ⟨rfl, rfl⟩) _ _ hb1 hb2, wrd_xor _ _ (by rw [List.length_map]; omega)]
    have hZl : (List.zipWith (· ^^^ ·) (X.map (fmul c)) Y).length = 8 := by rw [List.length_zipWith, List.length_map]; omega
    refine Pu_cut (8 * i) d.len tB sB (.inr ⟨_, rfl⟩) (.inl ⟨rfl, rfl⟩) (by omega) (by omega) ?_
    refine Cl_mono (lay_ok (xs := List.zipWith (· ^^^ ·) (X.map (fmul c)) Y) (hWc.ex hx7) (by rw [List.length_drop]; omega) hZl) ?_
    rintro _ w8 ⟨hW8, hm8⟩
    have hZ : List.zipWith (· ^^^ ·) (X.map (fmul c)) Y = ((addM ls c l).drop (8 * i)).take 8 := by
      rw [← addM_drop, ← addM_take, hXe, hYe]
      unfold addM
      refine List.ext_getElem? fun j => ?_
      rw [List.getElem?_zipWith, List.getElem?_zipWith, List.getElem?_map]
      cases h1 : X[j]? with
      | none => cases h2 : Y[j]? <;> rfl
      | some x => cases h2 : Y[j]? with
        | none => rfl
        | some y => show some _ = some _; rw [BitVec.xor_comm]
    have hback := hW6.back (a := 8 * i) (b := d.len) (by omega) (by omega) (by rw [List.length_append, hZl, List.length_drop, List.length_drop]; omega) hW8
    have e : List.take (8 * i) (List.take (8 * i) (addM ls c l) ++ List.drop (8 * i) l) ++ (List.zipWith (· ^^^ ·) (X.map (fmul c)) Y ++ List.drop 8 (List.drop (8 * i) l)) ++ List.drop d.len (List.take (8 * i) (addM ls c l) ++ List.drop (8 * i) l) = (addM ls c l).take (8 * (i + 1)) ++ l.drop (8 * (i + 1)) := by
      rw [List.take_left' (by rw [List.length_take]; omega), List.drop_of_length_le (l := List.take (8 * i) (addM ls c l) ++ List.drop (8 * i) l) (by omega), List.append_nil, hZ, List.drop_drop, ← List.append_assoc, show 8 * (i + 1) = 8 * i + 8 by omega]
      congr 1
      rw [List.take_add]
    rw [e] at hback
    rw [wrap64 (by omega) (by omega), show ((8 * i : Nat) : Int) + 8 = ((8 * (i + 1) : Nat) : Int) by omega]
    refine hk _ _ ⟨i + 1, rfl, by omega, hback, Mo.trans (hm4.ex (hx46.trans hx7)) hm8 (fun _ => id) (fun _ _ => id), (hC4.ex (hx46.trans hx7)).mo hm8 hpg⟩ (by dsimp only; omega)
  · have hiq : i = q := by omega
    subst hiq
    have hd := Ex.drew w4
    refine Held_of (fun _ => True) trivial ?_
    refine Pu_cut (8 * i) d.len tB sB (.inr ⟨_, rfl⟩) (.inl ⟨rfl, rfl⟩) (by omega) (by omega) ?_
    refine Pu_cut (8 * i) sc.len tB sB (.inr ⟨_, rfl⟩) (.inl ⟨rfl, rfl⟩) (by omega) (by omega) ?_
    have hrc : Rds f8v w4.drew (cutS sc (8 * i) sc.len) (ls.drop (8 * i)) := rds_rest (hr4.ex hd) (by omega)
    have hW5 := hW4.ex hd
    have hWc : Win w4.drew (cutS d (8 * i) d.len) g (o + 8 * i) (putW cs o ((addM ls c l).take (8 * i) ++ l.drop (8 * i))) (l.drop (8 * i)) := by
      have := hW5.rest (a := 8 * i) (by omega)
      rwa [List.drop_left' (by rw [List.length_take]; omega)] at this
    refine Cl_mono (tail_ok (hC4.ex hd) hWc hrc (by rw [List.length_drop, List.length_drop]; omega) (by rw [List.length_drop]; omega) (fun b hb => hnr b (cut_in hb)) hpg) ?_
    rintro _ w6 ⟨hW6, hm6⟩
    rw [addM_drop] at hW6
    have hback := hW5.back (a := 8 * i) (b := d.len) (by omega) (by omega) (by rw [List.length_drop]; omega) hW6
    have e : List.take (8 * i) (List.take (8 * i) (addM ls c l) ++ List.drop (8 * i) l) ++ (addM ls c l).drop (8 * i) ++ List.drop d.len (List.take (8 * i) (addM ls c l) ++ List.drop (8 * i) l) = addM ls c l := by
      rw [List.take_left' (by rw [List.length_take]; omega), List.drop_of_length_le (l := List.take (8 * i) (addM ls c l) ++ List.drop (8 * i) l) (by omega), List.append_nil, List.take_append_drop]
    rw [e] at hback
    refine ⟨trivial, ?_⟩
    subst hRR
    exact ⟨(), rfl, hback, Mo.trans (hm4.ex hd) hm6 (fun _ => id) (fun _ _ => id)⟩
theorem sliref_gv {w : World} {kb : Nat} {s src : Sl} (h : s.len = src.len) : Gv Tryz.prog 197 #[.pointer (at0 kb), .slice s.base s.len s.cap, .slice src.base src.len src.cap] (.int .i64 0) w := by
  refine sliced_Kernel_refuses.run _ (at0 kb) s src w ?_
  unfold sliced_Kernel_refuses.M
  refine Pu_notnil (e := 185) (by kernel_rfl) ?_
  refine Cd_f (Cd_ne (fun h' => by omega) (fun _ => ⟨rfl, Ex.refl _⟩))
theorem sli_add {w : World} {kb g o : Nat} {s src : Sl} {cs : List Value} {l ls : List F8} {c : F8} (hW : Win w s g o cs l) (hr : Rds f8v w src ls) (hl : ls.length = l.length) (hg : ∀ b, SlIn src b → b ≠ g) (hm : l.length ≤ 1099511627776) :
    Cl Tryz.prog 196 #[.pointer (at0 kb), f8v c, .slice s.base s.len s.cap, .slice src.base src.len src.cap] (.one (.at (.int .i64))) (fun x w' => x = 0 ∧ Win w' s g o cs (addM ls c l) ∧ Mo (fun b => b = g) w w') w := by
  refine sliced_Kernel_MulAdd.run _ (at0 kb) (c.toNat : Int) s src w ?_
  unfold sliced_Kernel_MulAdd.M
  have hsl := hW.len
  have hrl := hr.1
  refine Cl_gv (d := .one (.at (.int .i64))) (x := 0) (sliref_gv (by omega)) fun w1 hx1 => Cd_f ?_
  refine Cl_mono (run_ok (hW.ex hx1) (hr.ex hx1) hl hm hg) ?_
  rintro _ w2 ⟨h2, m2⟩
  exact ⟨0, rfl, rfl, h2, hx1.mo m2⟩
def kerT (b : Nat) : TypeId := if b = 0 then 140 else if b = 1 then 142 else 144
def kerV (b kb : Nat) : Value := .iface (kerT b) (.pointer (at0 kb))
def KerH (b kb : Nat) (w : World) : Prop := b = 0 → TabK w kb
theorem KerH.mo {X : Nat → Prop} {w w' : World} {b kb : Nat} (h : KerH b kb w) (m : Mo X w w') (hx : ¬ X kb) : KerH b kb w' := fun e => (h e).mo m hx
theorem call_tab (kb : Nat) (c : Int) (b1 b2 : Option Addr) (l1 c1 l2 c2 : Nat) (w : World) : (callMethod (.iface 140 (.pointer (at0 kb))) "MulAdd" #[(.int .u8 c), (.slice b1 l1 c1), (.slice b2 l2 c2)]).run Tryz.prog w = .ok (.enter 189 #[.pointer (at0 kb), .int .u8 c, .slice b1 l1 c1, .slice b2 l2 c2]) w := by kernel_rfl
theorem call_nib (kb : Nat) (c : Int) (b1 b2 : Option Addr) (l1 c1 l2 c2 : Nat) (w : World) : (callMethod (.iface 142 (.pointer (at0 kb))) "MulAdd" #[(.int .u8 c), (.slice b1 l1 c1), (.slice b2 l2 c2)]).run Tryz.prog w = .ok (.enter 193 #[.pointer (at0 kb), .int .u8 c, .slice b1 l1 c1, .slice b2 l2 c2]) w := by kernel_rfl
theorem call_sli (kb : Nat) (c : Int) (b1 b2 : Option Addr) (l1 c1 l2 c2 : Nat) (w : World) : (callMethod (.iface 144 (.pointer (at0 kb))) "MulAdd" #[(.int .u8 c), (.slice b1 l1 c1), (.slice b2 l2 c2)]).run Tryz.prog w = .ok (.enter 196 #[.pointer (at0 kb), .int .u8 c, .slice b1 l1 c1, .slice b2 l2 c2]) w := by kernel_rfl
theorem ker_add {w : World} {b kb g o : Nat} {s src : Sl} {cs : List Value} {l ls : List F8} {c : F8} (hb : b ≤ 2) (hK : KerH b kb w) (hkb : kb ≠ g) (hW : Win w s g o cs l) (hr : Rds f8v w src ls) (hl : ls.length = l.length) (hg : ∀ b, SlIn src b → b ≠ g) (hm : l.length ≤ 1099511627776) :
    Nx Tryz.prog (callMethod (kerV b kb) "MulAdd" #[f8v c, .slice s.base s.len s.cap, .slice src.base src.len src.cap]) (.one (.at (.int .i64))) (fun x w' => x = 0 ∧ Win w' s g o cs (addM ls c l) ∧ Mo (fun b => b = g) w w') w := by
  have h3 : b = 0 ∨ b = 1 ∨ b = 2 := by omega
  rcases h3 with rfl | rfl | rfl
  · exact .inr (.inl ⟨_, _, _, call_tab _ _ _ _ _ _ _ _ w, tab_add (hK rfl) hW hr hl hg hkb hm⟩)
  · exact .inr (.inl ⟨_, _, _, call_nib _ _ _ _ _ _ _ _ w, nib_add hW hr hl hg hm⟩)
  · exact .inr (.inl ⟨_, _, _, call_sli _ _ _ _ _ _ _ _ w, sli_add hW hr hl hg hm⟩)
end Go.Proofs.YtbiilejgfihohaaGreat
set_option linter.all false
namespace Go.Proofs.YtbiilejgfihohaaGreat
open Go Go.Cu
set_option linter.unusedVariables false
set_option maxRecDepth 100000
set_option maxHeartbeats 4000000
theorem mix_eqc : Tryz.prog.follows .mixedOrders = true := by kernel_rfl
noncomputable def kernel_Set_Agrees.body : Code := (Tryz.f36.body).getD .skip
def kernel_Set_Agrees.b2 (R : Ending → World → Prop) (k1 : ((Option Addr) × Sl × Sl × Addr × Sl × Sl × Int × Int × Unit) → World → Prop) (k2 : ((Option Addr) × Sl × Sl × Addr × Sl × Sl × Int × Int × Sl × Int × Int × Unit) → World → Prop) (s_0 : (Option Addr)) (srcs_2 : Sl) (dsts_3 : Sl) (span_9 : Addr) (want_13 : Sl) (t33 : Sl) (t34 : Int) (t35 : Int) (t55 : Sl) (t56 : Int) (t57 : Int) (w : World) : Prop :=
  Cd (decide (t57 < t56)) (Pu Tryz.prog (Instr.indexAt 24 (.slice t55.base t55.len t55.cap) (.int .i64 t57)) (.one (.at .addr)) (fun (x31 : Addr) w32 =>
  Rd Tryz.prog (Instr.loadAt 5 (.pointer (some x31))) (.one (.at (.int .u8))) (fun (x33 : Int) w34 =>
  Pu Tryz.prog (Instr.indexAt 24 (.slice want_13.base want_13.len want_13.cap) (.int .i64 t57)) (.one (.at .addr)) (fun (x35 : Addr) w36 =>
  Rd Tryz.prog (Instr.loadAt 5 (.pointer (some x35))) (.one (.at (.int .u8))) (fun (x37 : Int) w38 =>
  Cd (x33 != x37) (R (.returned (.tuple #[(.bool false), (.int .i64 0)])) w38) (k2 (s_0, srcs_2, dsts_3, span_9, want_13, t33, t34, t35, t55, t56, (IntKind.wrap .i64 (t57 + 1)), ()) w38)) w36) w34) w32) w) (k1 (s_0, srcs_2, dsts_3, span_9, want_13, t33, t34, (IntKind.wrap .i64 (t35 + 1)), ()) w)
def kernel_Set_Agrees.l2 (R : Ending → World → Prop) (k1 : ((Option Addr) × Sl × Sl × Addr × Sl × Sl × Int × Int × Unit) → World → Prop) : ((Option Addr) × Sl × Sl × Addr × Sl × Sl × Int × Int × Sl × Int × Int × Unit) → World → Prop := loopW (fun k2 s w => kernel_Set_Agrees.b2 R k1 k2 s.1 s.2.1 s.2.2.1 s.2.2.2.1 s.2.2.2.2.1 s.2.2.2.2.2.1 s.2.2.2.2.2.2.1 s.2.2.2.2.2.2.2.1 s.2.2.2.2.2.2.2.2.1 s.2.2.2.2.2.2.2.2.2.1 s.2.2.2.2.2.2.2.2.2.2.1 w)
def kernel_Set_Agrees.b1 (R : Ending → World → Prop) (k1 : ((Option Addr) × Sl × Sl × Addr × Sl × Sl × Int × Int × Unit) → World → Prop) (s_0 : (Option Addr)) (srcs_2 : Sl) (dsts_3 : Sl) (span_9 : Addr) (want_13 : Sl) (t33 : Sl) (t34 : Int) (t35 : Int) (w : World) : Prop :=
  Cd (decide (t35 < t34)) (Pu Tryz.prog (Instr.indexAt 30 (.slice t33.base t33.len t33.cap) (.int .i64 t35)) (.one (.at .addr)) (fun (x13 : Addr) w14 =>
  Rd Tryz.prog (Instr.loadAt 24 (.pointer (some x13))) (.one (.at .sl)) (fun (x15 : Sl) w16 =>
  Rd Tryz.prog (Instr.loadAt 3 (.pointer (some span_9))) (.one (.at (.int .i64))) (fun (x17 : Int) w18 =>
  Cl Tryz.prog 57 #[(.pointer s_0), (.slice x15.base x15.len x15.cap), (.slice srcs_2.base srcs_2.len srcs_2.cap), (.int .i64 x17), (.slice want_13.base want_13.len want_13.cap)] (.tup []) (fun x19 w20 =>
  Pu Tryz.prog (Instr.indexAt 30 (.slice dsts_3.base dsts_3.len dsts_3.cap) (.int .i64 t35)) (.one (.at .addr)) (fun (x21 : Addr) w22 =>
  RdS Tryz.prog (Same w20.drew) (Instr.loadAt 24 (.pointer (some x21))) (.one (.at .sl)) (fun (x23 : Sl) w24 =>
  RdS Tryz.prog (Same w20.drew) (Instr.loadAt 3 (.pointer (some span_9))) (.one (.at (.int .i64))) (fun (x25 : Int) w26 =>
  RdS Tryz.prog (Same w20.drew) (Instr.loadAt 3 (.pointer (some (Addr.add span_9 1)))) (.one (.at (.int .i64))) (fun (x27 : Int) w28 =>
  Pu Tryz.prog (Instr.sliceAt 24 (.slice x23.base x23.len x23.cap) (some (.int .i64 x25)) (some (.int .i64 x27)) none) (.one (.at .sl)) (fun (x29 : Sl) w30 =>
  kernel_Set_Agrees.l2 R k1 (s_0, srcs_2, dsts_3, span_9, want_13, t33, t34, t35, x29, ((x29.len : Nat) : Int), 0, ()) w30) w28) w26) w24) w22) w20.drew) w18) w16) w14) w) (R (.returned (.tuple #[(.bool true), (.int .i64 0)])) w)
def kernel_Set_Agrees.l1 (R : Ending → World → Prop) : ((Option Addr) × Sl × Sl × Addr × Sl × Sl × Int × Int × Unit) → World → Prop := loopW (fun k1 s w => kernel_Set_Agrees.b1 R k1 s.1 s.2.1 s.2.2.1 s.2.2.2.1 s.2.2.2.2.1 s.2.2.2.2.2.1 s.2.2.2.2.2.2.1 s.2.2.2.2.2.2.2.1 w)
def kernel_Set_Agrees.M (R : Ending → World → Prop) (s_0 : (Option Addr)) (rows_1 : Sl) (srcs_2 : Sl) (dsts_3 : Sl) (span_4 : (Int × Int × Unit)) (w : World) : Prop :=
  Wr Tryz.prog (Instr.box 41 (.agg #[(.int .i64 span_4.1), (.int .i64 span_4.2.1)])) (.one (.at .addr)) (fun (x1 : Addr) w2 =>
  Rd Tryz.prog (Instr.loadAt 41 (.pointer (some x1))) (.one (.agg [.int .i64, .int .i64])) (fun x3 w4 =>
  Cl Tryz.prog 56 #[(.pointer s_0), (.slice rows_1.base rows_1.len rows_1.cap), (.slice srcs_2.base srcs_2.len srcs_2.cap), (.slice dsts_3.base dsts_3.len dsts_3.cap), (.agg #[(.int .i64 x3.1), (.int .i64 x3.2.1)])] (.one (.at (.int .i64))) (fun (x5 : Int) w6 =>
  Cd (x5 != 0) (R (.returned (.tuple #[(.bool false), (.int .i64 x5)])) w6) (Rd Tryz.prog (Instr.loadAt 3 (.pointer (some (Addr.add x1 1)))) (.one (.at (.int .i64))) (fun (x7 : Int) w8 =>
  Rd Tryz.prog (Instr.loadAt 3 (.pointer (some x1))) (.one (.at (.int .i64))) (fun (x9 : Int) w10 =>
  Wr Tryz.prog (Instr.makeSlice 24 (.int .i64 (IntKind.wrap .i64 (x7 - x9))) (.int .i64 (IntKind.wrap .i64 (x7 - x9)))) (.one (.at .sl)) (fun (x11 : Sl) w12 =>
  kernel_Set_Agrees.l1 R (s_0, srcs_2, dsts_3, x1, x11, rows_1, ((rows_1.len : Nat) : Int), 0, ()) w12) w10) w8) w6)) w4) w2) w
noncomputable def kernel_Set_Agrees.ann (R : Ending → World → Prop) : Ann :=
  .seq (.reg (.op 0 (.wr (.one (.at .addr))) (.op 1 .now (.op 2 .now (.done))))) (.seq (.seq (.reg (.op 0 .now (.op 1 .now (.op 2 .now (.op 3 .now (.op 4 (.rd (.one (.agg [.int .i64, .int .i64]))) (.op 5 (.cl (.one qcI)) (.op 6 .now (.done))))))))) (.seq (.reg qN2) (.cond (.seq (.reg qN3) (.leaf)) (.leaf)))) (.seq (.reg (.op 0 .now (.op 1 (.rd (.one qcI)) (.op 2 .now (.op 3 (.rd (.one qcI)) (.op 4 .now (.op 5 (.wr (.one qcS)) (.op 6 .now (.done))))))))) (.seq (.seq (.reg qN3) (.block (.loop [(0, qcP), (2, qcS), (3, qcS), (9, .at .addr), (13, qcS), (33, qcS), (34, qcI), (35, qcI)] (fun k1 s w => kernel_Set_Agrees.b1 R k1 s.1 s.2.1 s.2.2.1 s.2.2.2.1 s.2.2.2.2.1 s.2.2.2.2.2.1 s.2.2.2.2.2.2.1 s.2.2.2.2.2.2.2.1 w) (fun k1 => .seq (.reg qN1) (.seq (.cond (.leaf) (.leaf)) (.seq (.block (.seq (.reg (.op 0 .now (.op 1 qpA (.op 2 qrS (.op 3 .now (.op 4 .now (.done))))))) (.seq (.reg (.op 0 .now (.op 1 .now (.op 2 .now (.op 3 .now (.op 4 (.rd (.one qcI)) (.op 5 .now (.op 6 (.cl (.tup [])) (.done))))))))) (.seq (.regQ (.op 0 .now (.op 1 .now (.op 2 qpA (.op 3 qrS (.op 4 .now (.op 5 (.rd (.one qcI)) (.op 6 .now (.op 7 (.rd (.one qcI)) (.op 8 (.pu (.one qcS)) (.op 9 .now (.op 10 .now (.done))))))))))))) (.block (.loop [(0, qcP), (2, qcS), (3, qcS), (9, .at .addr), (13, qcS), (33, qcS), (34, qcI), (35, qcI), (55, qcS), (56, qcI), (57, qcI)] (fun k2 s w => kernel_Set_Agrees.b2 R k1 k2 s.1 s.2.1 s.2.2.1 s.2.2.2.1 s.2.2.2.2.1 s.2.2.2.2.2.1 s.2.2.2.2.2.2.1 s.2.2.2.2.2.2.2.1 s.2.2.2.2.2.2.2.2.1 s.2.2.2.2.2.2.2.2.2.1 s.2.2.2.2.2.2.2.2.2.2.1 w) (fun k2 => .seq (.reg qN1) (.seq (.cond (.leaf) (.leaf)) (.seq (.block (.seq (.reg (.op 0 .now (.op 1 qpA (.op 2 qrB (.op 3 .now (.op 4 .now (.done))))))) (.seq (.reg (.op 0 .now (.op 1 .now (.op 2 .now (.op 3 qpA (.op 4 qrB (.op 5 .now (.done)))))))) (.cond (.seq (.reg qN2) (.leaf)) (.leaf))))) (.reg qN2)))))))))) (.reg qN2))))))) (.seq (.reg qN2) (.leaf)))))
theorem kernel_Set_Agrees.run (R : Ending → World → Prop) (s_0 : (Option Addr)) (rows_1 : Sl) (srcs_2 : Sl) (dsts_3 : Sl) (span_4 : (Int × Int × Unit)) (w : World) (h : kernel_Set_Agrees.M R s_0 rows_1 srcs_2 dsts_3 span_4 w) : Calls Tryz.prog 36 #[(.pointer s_0), (.slice rows_1.base rows_1.len rows_1.cap), (.slice srcs_2.base srcs_2.len srcs_2.cap), (.slice dsts_3.base dsts_3.len dsts_3.cap), (.agg #[(.int .i64 span_4.1), (.int .i64 span_4.2.1)])] w R := by
  refine calls_of_lift mix_eqc Tryz.func36 (c := kernel_Set_Agrees.body) (by kernel_rfl) [.at .bool, .at (.int .i64)] (kernel_Set_Agrees.ann R) 70 Tryz.ntmps36 [.tmp 10, .tmp 11] (by kernel_rfl) (Nat.le_of_ble_eq_true (by kernel_rfl)) ?_ ?_
  · exact ⟨trivial, ⟨⟨trivial, ⟨trivial, ⟨⟨trivial, trivial⟩, trivial⟩⟩⟩, ⟨trivial, ⟨⟨trivial, (fun k1 => ⟨fun s w h => Eq.mp (by kernel_rfl) h, ⟨trivial, ⟨⟨trivial, trivial⟩, ⟨⟨trivial, ⟨trivial, ⟨(show Region.noSelect _ = true by kernel_rfl), (fun k2 => ⟨fun s w h => Eq.mp (by kernel_rfl) h, ⟨trivial, ⟨⟨trivial, trivial⟩, ⟨⟨trivial, ⟨trivial, ⟨⟨trivial, trivial⟩, trivial⟩⟩⟩, trivial⟩⟩⟩⟩)⟩⟩⟩, trivial⟩⟩⟩⟩)⟩, ⟨trivial, trivial⟩⟩⟩⟩⟩
  · exact Eq.mp (show kernel_Set_Agrees.M R s_0 rows_1 srcs_2 dsts_3 span_4 w = _ by kernel_rfl) h
noncomputable def kernel_Set_Apply.body : Code := (Tryz.f45.body).getD .skip
def kernel_Set_Apply.b1 (R : Ending → World → Prop) (k1 : ((Option Addr) × Sl × Sl × Addr × Sl × Int × Int × Unit) → World → Prop) (s_0 : (Option Addr)) (srcs_2 : Sl) (dsts_3 : Sl) (span_9 : Addr) (t23 : Sl) (t24 : Int) (t25 : Int) (w : World) : Prop :=
  Cd (decide (t25 < t24)) (Pu Tryz.prog (Instr.indexAt 30 (.slice t23.base t23.len t23.cap) (.int .i64 t25)) (.one (.at .addr)) (fun (x7 : Addr) w8 =>
  Rd Tryz.prog (Instr.loadAt 24 (.pointer (some x7))) (.one (.at .sl)) (fun (x9 : Sl) w10 =>
  Held w10.drew (fun S11 => RdS Tryz.prog S11 (Instr.loadAt 3 (.pointer (some span_9))) (.one (.at (.int .i64))) (fun (x12 : Int) w13 =>
  Pu Tryz.prog (Instr.indexAt 30 (.slice dsts_3.base dsts_3.len dsts_3.cap) (.int .i64 t25)) (.one (.at .addr)) (fun (x14 : Addr) w15 =>
  RdS Tryz.prog S11 (Instr.loadAt 24 (.pointer (some x14))) (.one (.at .sl)) (fun (x16 : Sl) w17 =>
  RdS Tryz.prog S11 (Instr.loadAt 3 (.pointer (some span_9))) (.one (.at (.int .i64))) (fun (x18 : Int) w19 =>
  RdS Tryz.prog S11 (Instr.loadAt 3 (.pointer (some (Addr.add span_9 1)))) (.one (.at (.int .i64))) (fun (x20 : Int) w21 =>
  Pu Tryz.prog (Instr.sliceAt 24 (.slice x16.base x16.len x16.cap) (some (.int .i64 x18)) (some (.int .i64 x20)) none) (.one (.at .sl)) (fun (x22 : Sl) w23 =>
  Cl Tryz.prog 57 #[(.pointer s_0), (.slice x9.base x9.len x9.cap), (.slice srcs_2.base srcs_2.len srcs_2.cap), (.int .i64 x12), (.slice x22.base x22.len x22.cap)] (.tup []) (fun x24 w25 =>
  S11 w25 ∧ (k1 (s_0, srcs_2, dsts_3, span_9, t23, t24, (IntKind.wrap .i64 (t25 + 1)), ()) w25)) w23) w21) w19) w17) w15) w13) w10.drew)) w8) w) (R (.returned (.int .i64 0)) w)
def kernel_Set_Apply.l1 (R : Ending → World → Prop) : ((Option Addr) × Sl × Sl × Addr × Sl × Int × Int × Unit) → World → Prop := loopW (fun k1 s w => kernel_Set_Apply.b1 R k1 s.1 s.2.1 s.2.2.1 s.2.2.2.1 s.2.2.2.2.1 s.2.2.2.2.2.1 s.2.2.2.2.2.2.1 w)
def kernel_Set_Apply.M (R : Ending → World → Prop) (s_0 : (Option Addr)) (rows_1 : Sl) (srcs_2 : Sl) (dsts_3 : Sl) (span_4 : (Int × Int × Unit)) (w : World) : Prop :=
  Wr Tryz.prog (Instr.box 41 (.agg #[(.int .i64 span_4.1), (.int .i64 span_4.2.1)])) (.one (.at .addr)) (fun (x1 : Addr) w2 =>
  Rd Tryz.prog (Instr.loadAt 41 (.pointer (some x1))) (.one (.agg [.int .i64, .int .i64])) (fun x3 w4 =>
  Cl Tryz.prog 56 #[(.pointer s_0), (.slice rows_1.base rows_1.len rows_1.cap), (.slice srcs_2.base srcs_2.len srcs_2.cap), (.slice dsts_3.base dsts_3.len dsts_3.cap), (.agg #[(.int .i64 x3.1), (.int .i64 x3.2.1)])] (.one (.at (.int .i64))) (fun (x5 : Int) w6 =>
  Cd (x5 != 0) (R (.returned (.int .i64 x5)) w6) (kernel_Set_Apply.l1 R (s_0, srcs_2, dsts_3, x1, rows_1, ((rows_1.len : Nat) : Int), 0, ()) w6)) w4) w2) w
noncomputable def kernel_Set_Apply.ann (R : Ending → World → Prop) : Ann :=
  .seq (.reg (.op 0 (.wr (.one (.at .addr))) (.op 1 .now (.done)))) (.seq (.seq (.reg (.op 0 .now (.op 1 .now (.op 2 .now (.op 3 .now (.op 4 (.rd (.one (.agg [.int .i64, .int .i64]))) (.op 5 (.cl (.one qcI)) (.op 6 .now (.done))))))))) (.seq (.reg qN2) (.cond (.seq (.reg qN2) (.leaf)) (.leaf)))) (.seq (.seq (.reg qN3) (.block (.loop [(0, qcP), (2, qcS), (3, qcS), (9, .at .addr), (23, qcS), (24, qcI), (25, qcI)] (fun k1 s w => kernel_Set_Apply.b1 R k1 s.1 s.2.1 s.2.2.1 s.2.2.2.1 s.2.2.2.2.1 s.2.2.2.2.2.1 s.2.2.2.2.2.2.1 w) (fun k1 => .seq (.reg qN1) (.seq (.cond (.leaf) (.leaf)) (.seq (.block (.seq (.reg (.op 0 .now (.op 1 qpA (.op 2 qrS (.op 3 .now (.op 4 .now (.done))))))) (.regD (.op 0 .now (.op 1 .now (.op 2 .now (.op 3 .now (.op 4 (.rd (.one qcI)) (.op 5 .now (.op 6 .now (.op 7 qpA (.op 8 qrS (.op 9 .now (.op 10 (.rd (.one qcI)) (.op 11 .now (.op 12 (.rd (.one qcI)) (.op 13 (.pu (.one qcS)) (.op 14 (.cl (.tup [])) (.done))))))))))))))))))) (.reg qN2))))))) (.seq (.reg qN1) (.leaf))))
theorem kernel_Set_Apply.run (R : Ending → World → Prop) (s_0 : (Option Addr)) (rows_1 : Sl) (srcs_2 : Sl) (dsts_3 : Sl) (span_4 : (Int × Int × Unit)) (w : World) (h : kernel_Set_Apply.M R s_0 rows_1 srcs_2 dsts_3 span_4 w) : Calls Tryz.prog 45 #[(.pointer s_0), (.slice rows_1.base rows_1.len rows_1.cap), (.slice srcs_2.base srcs_2.len srcs_2.cap), (.slice dsts_3.base dsts_3.len dsts_3.cap), (.agg #[(.int .i64 span_4.1), (.int .i64 span_4.2.1)])] w R := by
  refine calls_of_lift mix_eqc Tryz.func45 (c := kernel_Set_Apply.body) (by kernel_rfl) [.at (.int .i64)] (kernel_Set_Apply.ann R) 46 Tryz.ntmps45 [.tmp 10] (by kernel_rfl) (Nat.le_of_ble_eq_true (by kernel_rfl)) ?_ ?_
  · exact ⟨trivial, ⟨⟨trivial, ⟨trivial, ⟨⟨trivial, trivial⟩, trivial⟩⟩⟩, ⟨⟨trivial, (fun k1 => ⟨fun s w h => Eq.mp (by kernel_rfl) h, ⟨trivial, ⟨⟨trivial, trivial⟩, ⟨⟨trivial, (show Region.noSelect _ = true by kernel_rfl)⟩, trivial⟩⟩⟩⟩)⟩, ⟨trivial, trivial⟩⟩⟩⟩
  · exact Eq.mp (show kernel_Set_Apply.M R s_0 rows_1 srcs_2 dsts_3 span_4 w = _ by kernel_rfl) h
noncomputable def kernel_Xor.body : Code := (Tryz.f46.body).getD .skip
def kernel_Xor.b1 (R : Ending → World → Prop) (k1 : (Sl × Sl × Int × Int × Unit) → World → Prop) (dst_0 : Sl) (t12 : Sl) (t13 : Int) (t14 : Int) (w : World) : Prop :=
  Cd (decide (t14 < t13)) (Pu Tryz.prog (Instr.indexAt 24 (.slice t12.base t12.len t12.cap) (.int .i64 t14)) (.one (.at .addr)) (fun (x1 : Addr) w2 =>
  Rd Tryz.prog (Instr.loadAt 5 (.pointer (some x1))) (.one (.at (.int .u8))) (fun (x3 : Int) w4 =>
  Pu Tryz.prog (Instr.indexAt 24 (.slice dst_0.base dst_0.len dst_0.cap) (.int .i64 t14)) (.one (.at .addr)) (fun (x5 : Addr) w6 =>
  Rd Tryz.prog (Instr.loadAt 5 (.pointer (some x5))) (.one (.at (.int .u8))) (fun (x7 : Int) w8 =>
  Pu Tryz.prog (Instr.indexAt 24 (.slice dst_0.base dst_0.len dst_0.cap) (.int .i64 t14)) (.one (.at .addr)) (fun (x9 : Addr) w10 =>
  Wu Tryz.prog (Instr.storeAt 5 (.pointer (some x9)) (.int .u8 (bXor .u8 x7 x3))) (fun w11 =>
  k1 (dst_0, t12, t13, (IntKind.wrap .i64 (t14 + 1)), ()) w11) w10) w8) w6) w4) w2) w) (R (.returned (.int .i64 0)) w)
def kernel_Xor.l1 (R : Ending → World → Prop) : (Sl × Sl × Int × Int × Unit) → World → Prop := loopW (fun k1 s w => kernel_Xor.b1 R k1 s.1 s.2.1 s.2.2.1 s.2.2.2.1 w)
def kernel_Xor.M (R : Ending → World → Prop) (dst_0 : Sl) (src_1 : Sl) (w : World) : Prop :=
  Cd (((dst_0.len : Nat) : Int) != ((src_1.len : Nat) : Int)) (R (.returned (.int .i64 6)) w) (kernel_Xor.l1 R (dst_0, src_1, ((src_1.len : Nat) : Int), 0, ()) w)
noncomputable def kernel_Xor.ann (R : Ending → World → Prop) : Ann :=
  .seq (.reg qN1) (.seq (.seq (.reg qN5) (.cond (.seq (.reg qN1) (.leaf)) (.leaf))) (.seq (.seq (.reg qN3) (.block (.loop [(0, qcS), (12, qcS), (13, qcI), (14, qcI)] (fun k1 s w => kernel_Xor.b1 R k1 s.1 s.2.1 s.2.2.1 s.2.2.2.1 w) (fun k1 => .seq (.reg qN1) (.seq (.cond (.leaf) (.leaf)) (.seq (.block (.seq (.reg (.op 0 .now (.op 1 qpA (.op 2 qrB (.op 3 .now (.op 4 .now (.done))))))) (.reg (.op 0 .now (.op 1 .now (.op 2 qpA (.op 3 qrB (.op 4 .now (.op 5 .now (.op 6 qpA (.op 7 .wu (.done)))))))))))) (.reg qN2))))))) (.seq (.reg qN1) (.leaf))))
theorem kernel_Xor.run (R : Ending → World → Prop) (dst_0 : Sl) (src_1 : Sl) (w : World) (h : kernel_Xor.M R dst_0 src_1 w) : Calls Tryz.prog 46 #[(.slice dst_0.base dst_0.len dst_0.cap), (.slice src_1.base src_1.len src_1.cap)] w R := by
  refine calls_of_lift mix_eqc Tryz.func46 (c := kernel_Xor.body) (by kernel_rfl) [.at (.int .i64)] (kernel_Xor.ann R) 27 Tryz.ntmps46 [.tmp 4] (by kernel_rfl) (Nat.le_of_ble_eq_true (by kernel_rfl)) ?_ ?_
  · exact ⟨trivial, ⟨⟨trivial, ⟨⟨trivial, trivial⟩, trivial⟩⟩, ⟨⟨trivial, (fun k1 => ⟨fun s w h => Eq.mp (by kernel_rfl) h, ⟨trivial, ⟨⟨trivial, trivial⟩, ⟨⟨trivial, trivial⟩, trivial⟩⟩⟩⟩)⟩, ⟨trivial, trivial⟩⟩⟩⟩
  · exact Eq.mp (show kernel_Xor.M R dst_0 src_1 w = _ by kernel_rfl) h
noncomputable def kernel_Set_Spread.body : Code := (Tryz.f47.body).getD .skip
def kernel_Set_Spread.b2 (R : Ending → World → Prop) (k2 : ((Option Addr) × Sl × Sl × Addr × Sl × Int × Int × Unit) → World → Prop) (s_0 : (Option Addr)) (diff_2 : Sl) (dsts_3 : Sl) (span_9 : Addr) (t50 : Sl) (t51 : Int) (t52 : Int) (w : World) : Prop :=
  Cd (decide (t52 < t51)) (Pu Tryz.prog (Instr.indexAt 24 (.slice t50.base t50.len t50.cap) (.int .i64 t52)) (.one (.at .addr)) (fun (x11 : Addr) w12 =>
  Rd Tryz.prog (Instr.loadAt 5 (.pointer (some x11))) (.one (.at (.int .u8))) (fun (x13 : Int) w14 =>
  Held w14.drew (fun S15 => Pu Tryz.prog (nilCk s_0) (.one (.at .addr)) (fun (x16 : Addr) w17 =>
  RdS Tryz.prog S15 (Instr.loadAt 132 (.pointer (some x16))) (.one (.at .any)) (fun x18 w19 =>
  Pu Tryz.prog (Instr.indexAt 30 (.slice dsts_3.base dsts_3.len dsts_3.cap) (.int .i64 t52)) (.one (.at .addr)) (fun (x20 : Addr) w21 =>
  RdS Tryz.prog S15 (Instr.loadAt 24 (.pointer (some x20))) (.one (.at .sl)) (fun (x22 : Sl) w23 =>
  RdS Tryz.prog S15 (Instr.loadAt 3 (.pointer (some span_9))) (.one (.at (.int .i64))) (fun (x24 : Int) w25 =>
  RdS Tryz.prog S15 (Instr.loadAt 3 (.pointer (some (Addr.add span_9 1)))) (.one (.at (.int .i64))) (fun (x26 : Int) w27 =>
  Pu Tryz.prog (Instr.sliceAt 24 (.slice x22.base x22.len x22.cap) (some (.int .i64 x24)) (some (.int .i64 x26)) none) (.one (.at .sl)) (fun (x28 : Sl) w29 =>
  RdS Tryz.prog S15 (Instr.loadAt 3 (.pointer (some span_9))) (.one (.at (.int .i64))) (fun (x30 : Int) w31 =>
  RdS Tryz.prog S15 (Instr.loadAt 3 (.pointer (some (Addr.add span_9 1)))) (.one (.at (.int .i64))) (fun (x32 : Int) w33 =>
  Pu Tryz.prog (Instr.sliceAt 24 (.slice diff_2.base diff_2.len diff_2.cap) (some (.int .i64 x30)) (some (.int .i64 x32)) none) (.one (.at .sl)) (fun (x34 : Sl) w35 =>
  Nx Tryz.prog (nilAny x18) (.one (.at .any)) (fun x36 w37 =>
  S15 w37 ∧ (Nx Tryz.prog (callMethod x18 "MulAdd" #[(.int .u8 x13), (.slice x28.base x28.len x28.cap), (.slice x34.base x34.len x34.cap)]) (.one (.at (.int .i64))) (fun (x38 : Int) w39 =>
  S15 w39 ∧ (k2 (s_0, diff_2, dsts_3, span_9, t50, t51, (IntKind.wrap .i64 (t52 + 1)), ()) w39)) w37)) w35) w33) w31) w29) w27) w25) w23) w21) w19) w17) w14.drew)) w12) w) (R (.returned (.int .i64 0)) w)
def kernel_Set_Spread.l2 (R : Ending → World → Prop) : ((Option Addr) × Sl × Sl × Addr × Sl × Int × Int × Unit) → World → Prop := loopW (fun k2 s w => kernel_Set_Spread.b2 R k2 s.1 s.2.1 s.2.2.1 s.2.2.2.1 s.2.2.2.2.1 s.2.2.2.2.2.1 s.2.2.2.2.2.2.1 w)
def kernel_Set_Spread.b1 (R : Ending → World → Prop) (k1 : ((Option Addr) × Sl × Sl × Sl × Addr × Sl × Int × Int × Unit) → World → Prop) (s_0 : (Option Addr)) (column_1 : Sl) (diff_2 : Sl) (dsts_3 : Sl) (span_9 : Addr) (t31 : Sl) (t32 : Int) (t33 : Int) (w : World) : Prop :=
  Cd (decide (t33 < t32)) (Pu Tryz.prog (Instr.indexAt 30 (.slice t31.base t31.len t31.cap) (.int .i64 t33)) (.one (.at .addr)) (fun (x3 : Addr) w4 =>
  Rd Tryz.prog (Instr.loadAt 24 (.pointer (some x3))) (.one (.at .sl)) (fun (x5 : Sl) w6 =>
  Cd (((x5.len : Nat) : Int) != ((diff_2.len : Nat) : Int)) (R (.returned (.int .i64 6)) w6) (k1 (s_0, column_1, diff_2, dsts_3, span_9, t31, t32, (IntKind.wrap .i64 (t33 + 1)), ()) w6)) w4) w) (Rd Tryz.prog (Instr.loadAt 41 (.pointer (some span_9))) (.one (.agg [.int .i64, .int .i64])) (fun x7 w8 =>
  Cl Tryz.prog 75 #[(.agg #[(.int .i64 x7.1), (.int .i64 x7.2.1)]), (.int .i64 ((diff_2.len : Nat) : Int))] (.one (.at (.int .i64))) (fun (x9 : Int) w10 =>
  Cd (x9 != 0) (R (.returned (.int .i64 x9)) w10) (kernel_Set_Spread.l2 R (s_0, diff_2, dsts_3, span_9, column_1, ((column_1.len : Nat) : Int), 0, ()) w10)) w8) w)
def kernel_Set_Spread.l1 (R : Ending → World → Prop) : ((Option Addr) × Sl × Sl × Sl × Addr × Sl × Int × Int × Unit) → World → Prop := loopW (fun k1 s w => kernel_Set_Spread.b1 R k1 s.1 s.2.1 s.2.2.1 s.2.2.2.1 s.2.2.2.2.1 s.2.2.2.2.2.1 s.2.2.2.2.2.2.1 s.2.2.2.2.2.2.2.1 w)
def kernel_Set_Spread.j1 (R : Ending → World → Prop)  (s_0 : (Option Addr)) (column_1 : Sl) (diff_2 : Sl) (dsts_3 : Sl) (span_9 : Addr) (t25 : Bool) (w : World) : Prop :=
  Cd t25 (R (.returned (.int .i64 1)) w) (Cd (((column_1.len : Nat) : Int) != ((dsts_3.len : Nat) : Int)) (R (.returned (.int .i64 6)) w) (kernel_Set_Spread.l1 R (s_0, column_1, diff_2, dsts_3, span_9, dsts_3, ((dsts_3.len : Nat) : Int), 0, ()) w))
def kernel_Set_Spread.M (R : Ending → World → Prop) (s_0 : (Option Addr)) (column_1 : Sl) (diff_2 : Sl) (dsts_3 : Sl) (span_4 : (Int × Int × Unit)) (w : World) : Prop :=
  Wr Tryz.prog (Instr.box 41 (.agg #[(.int .i64 span_4.1), (.int .i64 span_4.2.1)])) (.one (.at .addr)) (fun (x1 : Addr) w2 =>
  Pu Tryz.prog (do eqGuard .eql 75 (.tmp 16) (.const (.pointer none)) (.pointer s_0) (.pointer none); binOp .eql 75 (.pointer s_0) (.pointer none)) (.one (.at .bool)) (fun (x40 : Bool) w41 =>
  Cd x40 (kernel_Set_Spread.j1 R s_0 column_1 diff_2 dsts_3 x1 true w41) (Pu Tryz.prog (nilCk s_0) (.one (.at .addr)) (fun (x42 : Addr) w43 =>
  Rd Tryz.prog (Instr.loadAt 132 (.pointer (some x42))) (.one (.at .any)) (fun x44 w45 =>
  Pu Tryz.prog (do eqGuard .eql 132 (.tmp 23) (.const .nilIface) x44 .nilIface; binOp .eql 132 x44 .nilIface) (.one (.at .bool)) (fun (x46 : Bool) w47 =>
  kernel_Set_Spread.j1 R s_0 column_1 diff_2 dsts_3 x1 x46 w47) w45) w43) w41)) w2) w
noncomputable def kernel_Set_Spread.ann (R : Ending → World → Prop) : Ann :=
  .seq (.reg (.op 0 (.wr (.one (.at .addr))) (.op 1 .now (.done)))) (.seq (.join [(0, qcP), (1, qcS), (2, qcS), (3, qcS), (9, .at .addr), (25, .at .bool)] (fun s w => kernel_Set_Spread.j1 R s.1 s.2.1 s.2.2.1 s.2.2.2.1 s.2.2.2.2.1 s.2.2.2.2.2.1 w) (.reg (.op 0 .now (.op 1 (.pu (.one (.at .bool))) (.op 2 .now (.split 2 (.skip 3 (.skip 4 (.skip 5 (.skip 6 (.skip 7 (.skip 8 (.op 9 .now (.done)))))))) (.op 3 .now (.op 4 qpA (.op 5 .now (.op 6 .now (.op 7 (.rd (.one (.at .any))) (.op 8 (.pu (.one (.at .bool))) (.op 9 .now (.done))))))))))))) (.cond (.seq (.reg qN1) (.leaf)) (.leaf))) (.seq (.seq (.reg qN5) (.cond (.seq (.reg qN1) (.leaf)) (.leaf))) (.seq (.seq (.reg qN3) (.block (.loop [(0, qcP), (1, qcS), (2, qcS), (3, qcS), (9, .at .addr), (31, qcS), (32, qcI), (33, qcI)] (fun k1 s w => kernel_Set_Spread.b1 R k1 s.1 s.2.1 s.2.2.1 s.2.2.2.1 s.2.2.2.2.1 s.2.2.2.2.2.1 s.2.2.2.2.2.2.1 s.2.2.2.2.2.2.2.1 w) (fun k1 => .seq (.reg qN1) (.seq (.cond (.leaf) (.leaf)) (.seq (.block (.seq (.reg (.op 0 qpA (.op 1 qrS (.op 2 .now (.done))))) (.seq (.reg qN5) (.cond (.seq (.reg qN1) (.leaf)) (.leaf))))) (.reg qN2))))))) (.seq (.seq (.reg (.op 0 (.rd (.one (.agg [.int .i64, .int .i64]))) (.op 1 .now (.op 2 .now (.op 3 (.cl (.one qcI)) (.op 4 .now (.done))))))) (.seq (.reg qN2) (.cond (.seq (.reg qN2) (.leaf)) (.leaf)))) (.seq (.seq (.reg qN3) (.block (.loop [(0, qcP), (2, qcS), (3, qcS), (9, .at .addr), (50, qcS), (51, qcI), (52, qcI)] (fun k2 s w => kernel_Set_Spread.b2 R k2 s.1 s.2.1 s.2.2.1 s.2.2.2.1 s.2.2.2.2.1 s.2.2.2.2.2.1 s.2.2.2.2.2.2.1 w) (fun k2 => .seq (.reg qN1) (.seq (.cond (.leaf) (.leaf)) (.seq (.block (.seq (.reg (.op 0 .now (.op 1 qpA (.op 2 qrB (.op 3 .now (.op 4 .now (.done))))))) (.regD (.op 0 .now (.op 1 qpA (.op 2 .now (.op 3 .now (.op 4 (.rd (.one (.at .any))) (.op 5 .now (.op 6 .now (.op 7 .now (.op 8 qpA (.op 9 qrS (.op 10 .now (.op 11 (.rd (.one qcI)) (.op 12 .now (.op 13 (.rd (.one qcI)) (.op 14 (.pu (.one qcS)) (.op 15 .now (.op 16 .now (.op 17 (.rd (.one qcI)) (.op 18 .now (.op 19 (.rd (.one qcI)) (.op 20 (.pu (.one qcS)) (.op 21 (.nx (.one (.at .any))) (.op 22 .now (.op 23 (.nx (.one qcI)) (.done)))))))))))))))))))))))))))) (.reg qN2))))))) (.seq (.reg qN1) (.leaf)))))))
theorem kernel_Set_Spread.run (R : Ending → World → Prop) (s_0 : (Option Addr)) (column_1 : Sl) (diff_2 : Sl) (dsts_3 : Sl) (span_4 : (Int × Int × Unit)) (w : World) (h : kernel_Set_Spread.M R s_0 column_1 diff_2 dsts_3 span_4 w) : Calls Tryz.prog 47 #[(.pointer s_0), (.slice column_1.base column_1.len column_1.cap), (.slice diff_2.base diff_2.len diff_2.cap), (.slice dsts_3.base dsts_3.len dsts_3.cap), (.agg #[(.int .i64 span_4.1), (.int .i64 span_4.2.1)])] w R := by
  refine calls_of_lift mix_eqc Tryz.func47 (c := kernel_Set_Spread.body) (by kernel_rfl) [.at (.int .i64)] (kernel_Set_Spread.ann R) 82 Tryz.ntmps47 [.tmp 10] (by kernel_rfl) (Nat.le_of_ble_eq_true (by kernel_rfl)) ?_ ?_
  · exact ⟨trivial, ⟨⟨fun s w h => Eq.mp (by kernel_rfl) h, trivial, ⟨⟨trivial, trivial⟩, trivial⟩⟩, ⟨⟨trivial, ⟨⟨trivial, trivial⟩, trivial⟩⟩, ⟨⟨trivial, (fun k1 => ⟨fun s w h => Eq.mp (by kernel_rfl) h, ⟨trivial, ⟨⟨trivial, trivial⟩, ⟨⟨trivial, ⟨trivial, ⟨⟨trivial, trivial⟩, trivial⟩⟩⟩, trivial⟩⟩⟩⟩)⟩, ⟨⟨trivial, ⟨trivial, ⟨⟨trivial, trivial⟩, trivial⟩⟩⟩, ⟨⟨trivial, (fun k2 => ⟨fun s w h => Eq.mp (by kernel_rfl) h, ⟨trivial, ⟨⟨trivial, trivial⟩, ⟨⟨trivial, (show Region.noSelect _ = true by kernel_rfl)⟩, trivial⟩⟩⟩⟩)⟩, ⟨trivial, trivial⟩⟩⟩⟩⟩⟩⟩
  · exact Eq.mp (show kernel_Set_Spread.M R s_0 column_1 diff_2 dsts_3 span_4 w = _ by kernel_rfl) h
noncomputable def kernel_Set_fits.body : Code := (Tryz.f56.body).getD .skip
def kernel_Set_fits.j2 (R : Ending → World → Prop)  (k2 : (Addr × Int × (Sl × Sl × Unit) × Int × Unit) → World → Prop) (k3 : (Addr × Int × (Sl × Sl × Unit) × Int × Sl × Int × Int × Unit) → World → Prop) (span_9 : Addr) (length_13 : Int) (l_17 : Sl) (t47 : (Sl × Sl × Unit)) (t48 : Int) (t51 : Sl) (t52 : Int) (t53 : Int) (w : World) : Prop :=
  Cd (((l_17.len : Nat) : Int) != length_13) (R (.returned (.int .i64 6)) w) (k3 (span_9, length_13, (t47.1, t47.2.1, ()), t48, t51, t52, (IntKind.wrap .i64 (t53 + 1)), ()) w)
def kernel_Set_fits.b3 (R : Ending → World → Prop) (k2 : (Addr × Int × (Sl × Sl × Unit) × Int × Unit) → World → Prop) (k3 : (Addr × Int × (Sl × Sl × Unit) × Int × Sl × Int × Int × Unit) → World → Prop) (span_9 : Addr) (length_13 : Int) (t47 : (Sl × Sl × Unit)) (t48 : Int) (t51 : Sl) (t52 : Int) (t53 : Int) (w : World) : Prop :=
  Cd (decide (t53 < t52)) (Pu Tryz.prog (Instr.indexAt 30 (.slice t51.base t51.len t51.cap) (.int .i64 t53)) (.one (.at .addr)) (fun (x9 : Addr) w10 =>
  Rd Tryz.prog (Instr.loadAt 24 (.pointer (some x9))) (.one (.at .sl)) (fun (x11 : Sl) w12 =>
  Cd (decide (length_13 < 0)) (kernel_Set_fits.j2 R k2 k3 span_9 ((x11.len : Nat) : Int) x11 (t47.1, t47.2.1, ()) t48 t51 t52 t53 w12) (kernel_Set_fits.j2 R k2 k3 span_9 length_13 x11 (t47.1, t47.2.1, ()) t48 t51 t52 t53 w12)) w10) w) (k2 (span_9, length_13, (t47.1, t47.2.1, ()), (IntKind.wrap .i64 (t48 + 1)), ()) w)
def kernel_Set_fits.l3 (R : Ending → World → Prop) (k2 : (Addr × Int × (Sl × Sl × Unit) × Int × Unit) → World → Prop) : (Addr × Int × (Sl × Sl × Unit) × Int × Sl × Int × Int × Unit) → World → Prop := loopW (fun k3 s w => kernel_Set_fits.b3 R k2 k3 s.1 s.2.1 s.2.2.1 s.2.2.2.1 s.2.2.2.2.1 s.2.2.2.2.2.1 s.2.2.2.2.2.2.1 w)
def kernel_Set_fits.b2 (R : Ending → World → Prop) (k2 : (Addr × Int × (Sl × Sl × Unit) × Int × Unit) → World → Prop) (span_9 : Addr) (length_13 : Int) (t47 : (Sl × Sl × Unit)) (t48 : Int) (w : World) : Prop :=
  Cd (decide (t48 < 2)) (Pu Tryz.prog (Instr.index 147 (.agg #[(.slice t47.1.base t47.1.len t47.1.cap), (.slice t47.2.1.base t47.2.1.len t47.2.1.cap)]) (.int .i64 t48)) (.one (.at .sl)) (fun (x7 : Sl) w8 =>
  kernel_Set_fits.l3 R k2 (span_9, length_13, (t47.1, t47.2.1, ()), t48, x7, ((x7.len : Nat) : Int), 0, ()) w8) w) (Rd Tryz.prog (Instr.loadAt 41 (.pointer (some span_9))) (.one (.agg [.int .i64, .int .i64])) (fun x13 w14 =>
  Cl Tryz.prog 75 #[(.agg #[(.int .i64 x13.1), (.int .i64 x13.2.1)]), (.int .i64 (maxI length_13 0))] (.one (.at (.int .i64))) (fun (x15 : Int) w16 =>
  R (.returned (.int .i64 x15)) w16) w14) w)
def kernel_Set_fits.l2 (R : Ending → World → Prop) : (Addr × Int × (Sl × Sl × Unit) × Int × Unit) → World → Prop := loopW (fun k2 s w => kernel_Set_fits.b2 R k2 s.1 s.2.1 s.2.2.1 s.2.2.2.1 w)
def kernel_Set_fits.b1 (R : Ending → World → Prop) (k1 : (Sl × Sl × Addr × Sl × Int × Int × Unit) → World → Prop) (srcs_2 : Sl) (dsts_3 : Sl) (span_9 : Addr) (t33 : Sl) (t34 : Int) (t35 : Int) (w : World) : Prop :=
  Cd (decide (t35 < t34)) (Pu Tryz.prog (Instr.indexAt 30 (.slice t33.base t33.len t33.cap) (.int .i64 t35)) (.one (.at .addr)) (fun (x3 : Addr) w4 =>
  Rd Tryz.prog (Instr.loadAt 24 (.pointer (some x3))) (.one (.at .sl)) (fun (x5 : Sl) w6 =>
  Cd (((x5.len : Nat) : Int) != ((srcs_2.len : Nat) : Int)) (R (.returned (.int .i64 6)) w6) (k1 (srcs_2, dsts_3, span_9, t33, t34, (IntKind.wrap .i64 (t35 + 1)), ()) w6)) w4) w) (kernel_Set_fits.l2 R (span_9, (-1), (srcs_2, dsts_3, ()), 0, ()) w)
def kernel_Set_fits.l1 (R : Ending → World → Prop) : (Sl × Sl × Addr × Sl × Int × Int × Unit) → World → Prop := loopW (fun k1 s w => kernel_Set_fits.b1 R k1 s.1 s.2.1 s.2.2.1 s.2.2.2.1 s.2.2.2.2.1 s.2.2.2.2.2.1 w)
def kernel_Set_fits.j1 (R : Ending → World → Prop)  (rows_1 : Sl) (srcs_2 : Sl) (dsts_3 : Sl) (span_9 : Addr) (t27 : Bool) (w : World) : Prop :=
  Cd t27 (R (.returned (.int .i64 1)) w) (Cd (((rows_1.len : Nat) : Int) != ((dsts_3.len : Nat) : Int)) (R (.returned (.int .i64 6)) w) (kernel_Set_fits.l1 R (srcs_2, dsts_3, span_9, rows_1, ((rows_1.len : Nat) : Int), 0, ()) w))
def kernel_Set_fits.M (R : Ending → World → Prop) (s_0 : (Option Addr)) (rows_1 : Sl) (srcs_2 : Sl) (dsts_3 : Sl) (span_4 : (Int × Int × Unit)) (w : World) : Prop :=
  Wr Tryz.prog (Instr.box 41 (.agg #[(.int .i64 span_4.1), (.int .i64 span_4.2.1)])) (.one (.at .addr)) (fun (x1 : Addr) w2 =>
  Pu Tryz.prog (do eqGuard .eql 75 (.tmp 18) (.const (.pointer none)) (.pointer s_0) (.pointer none); binOp .eql 75 (.pointer s_0) (.pointer none)) (.one (.at .bool)) (fun (x17 : Bool) w18 =>
  Cd x17 (kernel_Set_fits.j1 R rows_1 srcs_2 dsts_3 x1 true w18) (Pu Tryz.prog (nilCk s_0) (.one (.at .addr)) (fun (x19 : Addr) w20 =>
  Rd Tryz.prog (Instr.loadAt 132 (.pointer (some x19))) (.one (.at .any)) (fun x21 w22 =>
  Pu Tryz.prog (do eqGuard .eql 132 (.tmp 25) (.const .nilIface) x21 .nilIface; binOp .eql 132 x21 .nilIface) (.one (.at .bool)) (fun (x23 : Bool) w24 =>
  kernel_Set_fits.j1 R rows_1 srcs_2 dsts_3 x1 x23 w24) w22) w20) w18)) w2) w
noncomputable def kernel_Set_fits.ann (R : Ending → World → Prop) : Ann :=
  .seq (.reg (.op 0 (.wr (.one (.at .addr))) (.op 1 .now (.done)))) (.seq (.join [(1, qcS), (2, qcS), (3, qcS), (9, .at .addr), (27, .at .bool)] (fun s w => kernel_Set_fits.j1 R s.1 s.2.1 s.2.2.1 s.2.2.2.1 s.2.2.2.2.1 w) (.reg (.op 0 .now (.op 1 (.pu (.one (.at .bool))) (.op 2 .now (.split 2 (.skip 3 (.skip 4 (.skip 5 (.skip 6 (.skip 7 (.skip 8 (.op 9 .now (.done)))))))) (.op 3 .now (.op 4 qpA (.op 5 .now (.op 6 .now (.op 7 (.rd (.one (.at .any))) (.op 8 (.pu (.one (.at .bool))) (.op 9 .now (.done))))))))))))) (.cond (.seq (.reg qN1) (.leaf)) (.leaf))) (.seq (.seq (.reg qN5) (.cond (.seq (.reg qN1) (.leaf)) (.leaf))) (.seq (.seq (.reg qN3) (.block (.loop [(2, qcS), (3, qcS), (9, .at .addr), (33, qcS), (34, qcI), (35, qcI)] (fun k1 s w => kernel_Set_fits.b1 R k1 s.1 s.2.1 s.2.2.1 s.2.2.2.1 s.2.2.2.2.1 s.2.2.2.2.2.1 w) (fun k1 => .seq (.reg qN1) (.seq (.cond (.leaf) (.leaf)) (.seq (.block (.seq (.reg (.op 0 qpA (.op 1 qrS (.op 2 .now (.done))))) (.seq (.reg qN5) (.cond (.seq (.reg qN1) (.leaf)) (.leaf))))) (.reg qN2))))))) (.seq (.reg qN1) (.seq (.seq (.reg qN4) (.block (.loop [(9, .at .addr), (13, qcI), (47, .agg [.sl, .sl]), (48, qcI)] (fun k2 s w => kernel_Set_fits.b2 R k2 s.1 s.2.1 s.2.2.1 s.2.2.2.1 w) (fun k2 => .seq (.reg qN1) (.seq (.cond (.leaf) (.leaf)) (.seq (.block (.seq (.reg (.op 0 (.pu (.one qcS)) (.op 1 .now (.done)))) (.seq (.reg qN3) (.block (.loop [(9, .at .addr), (13, qcI), (47, .agg [.sl, .sl]), (48, qcI), (51, qcS), (52, qcI), (53, qcI)] (fun k3 s w => kernel_Set_fits.b3 R k2 k3 s.1 s.2.1 s.2.2.1 s.2.2.2.1 s.2.2.2.2.1 s.2.2.2.2.2.1 s.2.2.2.2.2.2.1 w) (fun k3 => .seq (.reg qN1) (.seq (.cond (.leaf) (.leaf)) (.seq (.block (.seq (.reg (.op 0 qpA (.op 1 qrS (.op 2 .now (.done))))) (.join [(9, .at .addr), (13, qcI), (17, qcS), (47, .agg [.sl, .sl]), (48, qcI), (51, qcS), (52, qcI), (53, qcI)] (fun s w => kernel_Set_fits.j2 R k2 k3 s.1 s.2.1 s.2.2.1 s.2.2.2.1 s.2.2.2.2.1 s.2.2.2.2.2.1 s.2.2.2.2.2.2.1 s.2.2.2.2.2.2.2.1 w) (.seq (.reg qN2) (.cond (.reg qN3) (.leaf))) (.seq (.reg qN4) (.cond (.seq (.reg qN1) (.leaf)) (.leaf)))))) (.reg qN2))))))))) (.reg qN2))))))) (.seq (.reg (.op 0 (.rd (.one (.agg [.int .i64, .int .i64]))) (.op 1 .now (.op 2 .now (.op 3 (.cl (.one qcI)) (.op 4 .now (.done))))))) (.leaf)))))))
theorem kernel_Set_fits.run (R : Ending → World → Prop) (s_0 : (Option Addr)) (rows_1 : Sl) (srcs_2 : Sl) (dsts_3 : Sl) (span_4 : (Int × Int × Unit)) (w : World) (h : kernel_Set_fits.M R s_0 rows_1 srcs_2 dsts_3 span_4 w) : Calls Tryz.prog 56 #[(.pointer s_0), (.slice rows_1.base rows_1.len rows_1.cap), (.slice srcs_2.base srcs_2.len srcs_2.cap), (.slice dsts_3.base dsts_3.len dsts_3.cap), (.agg #[(.int .i64 span_4.1), (.int .i64 span_4.2.1)])] w R := by
  refine calls_of_lift mix_eqc Tryz.func56 (c := kernel_Set_fits.body) (by kernel_rfl) [.at (.int .i64)] (kernel_Set_fits.ann R) 71 Tryz.ntmps56 [.tmp 10] (by kernel_rfl) (Nat.le_of_ble_eq_true (by kernel_rfl)) ?_ ?_
  · exact ⟨trivial, ⟨⟨fun s w h => Eq.mp (by kernel_rfl) h, trivial, ⟨⟨trivial, trivial⟩, trivial⟩⟩, ⟨⟨trivial, ⟨⟨trivial, trivial⟩, trivial⟩⟩, ⟨⟨trivial, (fun k1 => ⟨fun s w h => Eq.mp (by kernel_rfl) h, ⟨trivial, ⟨⟨trivial, trivial⟩, ⟨⟨trivial, ⟨trivial, ⟨⟨trivial, trivial⟩, trivial⟩⟩⟩, trivial⟩⟩⟩⟩)⟩, ⟨trivial, ⟨⟨trivial, (fun k2 => ⟨fun s w h => Eq.mp (by kernel_rfl) h, ⟨trivial, ⟨⟨trivial, trivial⟩, ⟨⟨trivial, ⟨trivial, (fun k3 => ⟨fun s w h => Eq.mp (by kernel_rfl) h, ⟨trivial, ⟨⟨trivial, trivial⟩, ⟨⟨trivial, ⟨fun s w h => Eq.mp (by kernel_rfl) h, ⟨trivial, ⟨trivial, trivial⟩⟩, ⟨trivial, ⟨⟨trivial, trivial⟩, trivial⟩⟩⟩⟩, trivial⟩⟩⟩⟩)⟩⟩, trivial⟩⟩⟩⟩)⟩, ⟨trivial, trivial⟩⟩⟩⟩⟩⟩⟩
  · exact Eq.mp (show kernel_Set_fits.M R s_0 rows_1 srcs_2 dsts_3 span_4 w = _ by kernel_rfl) h
noncomputable def kernel_Set_sum.body : Code := (Tryz.f57.body).getD .skip
def kernel_Set_sum.j1 (R : Ending → World → Prop)  (k1 : ((Option Addr) × Sl × Int × Sl × Sl × Int × Int × Unit) → World → Prop) (s_0 : (Option Addr)) (srcs_2 : Sl) (from_3 : Int) (dst_4 : Sl) (t13 : Sl) (t14 : Int) (t15 : Int) (w : World) : Prop :=
  k1 (s_0, srcs_2, from_3, dst_4, t13, t14, (IntKind.wrap .i64 (t15 + 1)), ()) w
def kernel_Set_sum.b1 (R : Ending → World → Prop) (k1 : ((Option Addr) × Sl × Int × Sl × Sl × Int × Int × Unit) → World → Prop) (s_0 : (Option Addr)) (srcs_2 : Sl) (from_3 : Int) (dst_4 : Sl) (t13 : Sl) (t14 : Int) (t15 : Int) (w : World) : Prop :=
  Cd (decide (t15 < t14)) (Pu Tryz.prog (Instr.indexAt 24 (.slice t13.base t13.len t13.cap) (.int .i64 t15)) (.one (.at .addr)) (fun (x3 : Addr) w4 =>
  Rd Tryz.prog (Instr.loadAt 5 (.pointer (some x3))) (.one (.at (.int .u8))) (fun (x5 : Int) w6 =>
  Held w6.drew (fun S7 => Pu Tryz.prog (nilCk s_0) (.one (.at .addr)) (fun (x8 : Addr) w9 =>
  RdS Tryz.prog S7 (Instr.loadAt 132 (.pointer (some x8))) (.one (.at .any)) (fun x10 w11 =>
  Pu Tryz.prog (Instr.indexAt 30 (.slice srcs_2.base srcs_2.len srcs_2.cap) (.int .i64 t15)) (.one (.at .addr)) (fun (x12 : Addr) w13 =>
  RdS Tryz.prog S7 (Instr.loadAt 24 (.pointer (some x12))) (.one (.at .sl)) (fun (x14 : Sl) w15 =>
  Pu Tryz.prog (Instr.sliceAt 24 (.slice x14.base x14.len x14.cap) (some (.int .i64 from_3)) (some (.int .i64 (IntKind.wrap .i64 (from_3 + ((dst_4.len : Nat) : Int))))) none) (.one (.at .sl)) (fun (x16 : Sl) w17 =>
  Nx Tryz.prog (nilAny x10) (.one (.at .any)) (fun x18 w19 =>
  S7 w19 ∧ (Nx Tryz.prog (callMethod x10 "MulAdd" #[(.int .u8 x5), (.slice dst_4.base dst_4.len dst_4.cap), (.slice x16.base x16.len x16.cap)]) (.one (.at (.int .i64))) (fun (x20 : Int) w21 =>
  S7 w21 ∧ (kernel_Set_sum.j1 R k1 s_0 srcs_2 from_3 dst_4 t13 t14 t15 w21)) w19)) w17) w15) w13) w11) w9) w6.drew)) w4) w) (R (.returned (.tuple #[])) w)
def kernel_Set_sum.l1 (R : Ending → World → Prop) : ((Option Addr) × Sl × Int × Sl × Sl × Int × Int × Unit) → World → Prop := loopW (fun k1 s w => kernel_Set_sum.b1 R k1 s.1 s.2.1 s.2.2.1 s.2.2.2.1 s.2.2.2.2.1 s.2.2.2.2.2.1 s.2.2.2.2.2.2.1 w)
def kernel_Set_sum.M (R : Ending → World → Prop) (s_0 : (Option Addr)) (row_1 : Sl) (srcs_2 : Sl) (from_3 : Int) (dst_4 : Sl) (w : World) : Prop :=
  Wr Tryz.prog (Builtin.clear_ #[24] 0 #[(.slice dst_4.base dst_4.len dst_4.cap)]) (.one (.at .any)) (fun x1 w2 =>
  kernel_Set_sum.l1 R (s_0, srcs_2, from_3, dst_4, row_1, ((row_1.len : Nat) : Int), 0, ()) w2) w
noncomputable def kernel_Set_sum.ann (R : Ending → World → Prop) : Ann :=
  .seq (.reg (.op 0 .now (.op 1 (.wr (.one (.at .any))) (.done)))) (.seq (.reg qN3) (.block (.loop [(0, qcP), (2, qcS), (3, qcI), (4, qcS), (13, qcS), (14, qcI), (15, qcI)] (fun k1 s w => kernel_Set_sum.b1 R k1 s.1 s.2.1 s.2.2.1 s.2.2.2.1 s.2.2.2.2.1 s.2.2.2.2.2.1 s.2.2.2.2.2.2.1 w) (fun k1 => .seq (.reg qN1) (.seq (.cond (.leaf) (.leaf)) (.join [(0, qcP), (2, qcS), (3, qcI), (4, qcS), (13, qcS), (14, qcI), (15, qcI)] (fun s w => kernel_Set_sum.j1 R k1 s.1 s.2.1 s.2.2.1 s.2.2.2.1 s.2.2.2.2.1 s.2.2.2.2.2.1 s.2.2.2.2.2.2.1 w) (.block (.seq (.reg (.op 0 .now (.op 1 qpA (.op 2 qrB (.op 3 .now (.op 4 .now (.done))))))) (.regD (.op 0 .now (.op 1 qpA (.op 2 .now (.op 3 .now (.op 4 (.rd (.one (.at .any))) (.op 5 .now (.op 6 .now (.op 7 .now (.op 8 .now (.op 9 qpA (.op 10 qrS (.op 11 .now (.op 12 .now (.op 13 .now (.op 14 .now (.op 15 .now (.op 16 (.pu (.one qcS)) (.op 17 (.nx (.one (.at .any))) (.op 18 .now (.op 19 (.nx (.one qcI)) (.done)))))))))))))))))))))))) (.reg qN2)))))))
theorem kernel_Set_sum.run (R : Ending → World → Prop) (s_0 : (Option Addr)) (row_1 : Sl) (srcs_2 : Sl) (from_3 : Int) (dst_4 : Sl) (w : World) (h : kernel_Set_sum.M R s_0 row_1 srcs_2 from_3 dst_4 w) : Calls Tryz.prog 57 #[(.pointer s_0), (.slice row_1.base row_1.len row_1.cap), (.slice srcs_2.base srcs_2.len srcs_2.cap), (.int .i64 from_3), (.slice dst_4.base dst_4.len dst_4.cap)] w R := by
  refine calls_of_lift mix_eqc Tryz.func57 (c := kernel_Set_sum.body) (by kernel_rfl) [] (kernel_Set_sum.ann R) 41 Tryz.ntmps57 [] (by kernel_rfl) (Nat.le_of_ble_eq_true (by kernel_rfl)) ?_ ?_
  · exact ⟨trivial, ⟨trivial, (fun k1 => ⟨fun s w h => Eq.mp (by kernel_rfl) h, ⟨trivial, ⟨⟨trivial, trivial⟩, ⟨fun s w h => Eq.mp (by kernel_rfl) h, ⟨trivial, (show Region.noSelect _ = true by kernel_rfl)⟩, trivial⟩⟩⟩⟩)⟩⟩
  · exact Eq.mp (show kernel_Set_sum.M R s_0 row_1 srcs_2 from_3 dst_4 w = _ by kernel_rfl) h
noncomputable def kernel_Set_Dot.body : Code := (Tryz.f62.body).getD .skip
def kernel_Set_Dot.b1 (R : Ending → World → Prop) (k1 : ((Option Addr) × Sl × Sl × Sl × Sl × Int × Int × Unit) → World → Prop) (s_0 : (Option Addr)) (row_1 : Sl) (srcs_2 : Sl) (dst_3 : Sl) (t26 : Sl) (t27 : Int) (t28 : Int) (w : World) : Prop :=
  Cd (decide (t28 < t27)) (Pu Tryz.prog (Instr.indexAt 30 (.slice t26.base t26.len t26.cap) (.int .i64 t28)) (.one (.at .addr)) (fun (x1 : Addr) w2 =>
  Rd Tryz.prog (Instr.loadAt 24 (.pointer (some x1))) (.one (.at .sl)) (fun (x3 : Sl) w4 =>
  Cd (((x3.len : Nat) : Int) != ((dst_3.len : Nat) : Int)) (R (.returned (.int .i64 6)) w4) (k1 (s_0, row_1, srcs_2, dst_3, t26, t27, (IntKind.wrap .i64 (t28 + 1)), ()) w4)) w2) w) (Cl Tryz.prog 57 #[(.pointer s_0), (.slice row_1.base row_1.len row_1.cap), (.slice srcs_2.base srcs_2.len srcs_2.cap), (.int .i64 0), (.slice dst_3.base dst_3.len dst_3.cap)] (.tup []) (fun x5 w6 =>
  R (.returned (.int .i64 0)) w6) w)
def kernel_Set_Dot.l1 (R : Ending → World → Prop) : ((Option Addr) × Sl × Sl × Sl × Sl × Int × Int × Unit) → World → Prop := loopW (fun k1 s w => kernel_Set_Dot.b1 R k1 s.1 s.2.1 s.2.2.1 s.2.2.2.1 s.2.2.2.2.1 s.2.2.2.2.2.1 s.2.2.2.2.2.2.1 w)
def kernel_Set_Dot.j1 (R : Ending → World → Prop)  (s_0 : (Option Addr)) (row_1 : Sl) (srcs_2 : Sl) (dst_3 : Sl) (t20 : Bool) (w : World) : Prop :=
  Cd t20 (R (.returned (.int .i64 1)) w) (Cd (((row_1.len : Nat) : Int) != ((srcs_2.len : Nat) : Int)) (R (.returned (.int .i64 6)) w) (kernel_Set_Dot.l1 R (s_0, row_1, srcs_2, dst_3, srcs_2, ((srcs_2.len : Nat) : Int), 0, ()) w))
def kernel_Set_Dot.M (R : Ending → World → Prop) (s_0 : (Option Addr)) (row_1 : Sl) (srcs_2 : Sl) (dst_3 : Sl) (w : World) : Prop :=
  Pu Tryz.prog (do eqGuard .eql 75 (.tmp 11) (.const (.pointer none)) (.pointer s_0) (.pointer none); binOp .eql 75 (.pointer s_0) (.pointer none)) (.one (.at .bool)) (fun (x7 : Bool) w8 =>
  Cd x7 (kernel_Set_Dot.j1 R s_0 row_1 srcs_2 dst_3 true w8) (Pu Tryz.prog (nilCk s_0) (.one (.at .addr)) (fun (x9 : Addr) w10 =>
  Rd Tryz.prog (Instr.loadAt 132 (.pointer (some x9))) (.one (.at .any)) (fun x11 w12 =>
  Pu Tryz.prog (do eqGuard .eql 132 (.tmp 18) (.const .nilIface) x11 .nilIface; binOp .eql 132 x11 .nilIface) (.one (.at .bool)) (fun (x13 : Bool) w14 =>
  kernel_Set_Dot.j1 R s_0 row_1 srcs_2 dst_3 x13 w14) w12) w10) w8)) w
noncomputable def kernel_Set_Dot.ann (R : Ending → World → Prop) : Ann :=
  .seq (.reg qN1) (.seq (.join [(0, qcP), (1, qcS), (2, qcS), (3, qcS), (20, .at .bool)] (fun s w => kernel_Set_Dot.j1 R s.1 s.2.1 s.2.2.1 s.2.2.2.1 s.2.2.2.2.1 w) (.reg (.op 0 .now (.op 1 (.pu (.one (.at .bool))) (.op 2 .now (.split 2 (.skip 3 (.skip 4 (.skip 5 (.skip 6 (.skip 7 (.skip 8 (.op 9 .now (.done)))))))) (.op 3 .now (.op 4 qpA (.op 5 .now (.op 6 .now (.op 7 (.rd (.one (.at .any))) (.op 8 (.pu (.one (.at .bool))) (.op 9 .now (.done))))))))))))) (.cond (.seq (.reg qN1) (.leaf)) (.leaf))) (.seq (.seq (.reg qN5) (.cond (.seq (.reg qN1) (.leaf)) (.leaf))) (.seq (.seq (.reg qN3) (.block (.loop [(0, qcP), (1, qcS), (2, qcS), (3, qcS), (26, qcS), (27, qcI), (28, qcI)] (fun k1 s w => kernel_Set_Dot.b1 R k1 s.1 s.2.1 s.2.2.1 s.2.2.2.1 s.2.2.2.2.1 s.2.2.2.2.2.1 s.2.2.2.2.2.2.1 w) (fun k1 => .seq (.reg qN1) (.seq (.cond (.leaf) (.leaf)) (.seq (.block (.seq (.reg (.op 0 qpA (.op 1 qrS (.op 2 .now (.done))))) (.seq (.reg qN5) (.cond (.seq (.reg qN1) (.leaf)) (.leaf))))) (.reg qN2))))))) (.seq (.reg (.op 0 .now (.op 1 .now (.op 2 .now (.op 3 .now (.op 4 (.cl (.tup [])) (.done))))))) (.seq (.reg qN1) (.leaf))))))
theorem kernel_Set_Dot.run (R : Ending → World → Prop) (s_0 : (Option Addr)) (row_1 : Sl) (srcs_2 : Sl) (dst_3 : Sl) (w : World) (h : kernel_Set_Dot.M R s_0 row_1 srcs_2 dst_3 w) : Calls Tryz.prog 62 #[(.pointer s_0), (.slice row_1.base row_1.len row_1.cap), (.slice srcs_2.base srcs_2.len srcs_2.cap), (.slice dst_3.base dst_3.len dst_3.cap)] w R := by
  refine calls_of_lift mix_eqc Tryz.func62 (c := kernel_Set_Dot.body) (by kernel_rfl) [.at (.int .i64)] (kernel_Set_Dot.ann R) 43 Tryz.ntmps62 [.tmp 8] (by kernel_rfl) (Nat.le_of_ble_eq_true (by kernel_rfl)) ?_ ?_
  · exact ⟨trivial, ⟨⟨fun s w h => Eq.mp (by kernel_rfl) h, trivial, ⟨⟨trivial, trivial⟩, trivial⟩⟩, ⟨⟨trivial, ⟨⟨trivial, trivial⟩, trivial⟩⟩, ⟨⟨trivial, (fun k1 => ⟨fun s w h => Eq.mp (by kernel_rfl) h, ⟨trivial, ⟨⟨trivial, trivial⟩, ⟨⟨trivial, ⟨trivial, ⟨⟨trivial, trivial⟩, trivial⟩⟩⟩, trivial⟩⟩⟩⟩)⟩, ⟨trivial, ⟨trivial, trivial⟩⟩⟩⟩⟩⟩
  · exact Eq.mp (show kernel_Set_Dot.M R s_0 row_1 srcs_2 dst_3 w = _ by kernel_rfl) h
noncomputable def kernel_within.body : Code := (Tryz.f75.body).getD .skip
def kernel_within.j1 (R : Ending → World → Prop)  (t20 : Bool) (w : World) : Prop :=
  Cd t20 (R (.returned (.int .i64 7)) w) (R (.returned (.int .i64 0)) w)
def kernel_within.M (R : Ending → World → Prop) (span_0 : (Int × Int × Unit)) (length_1 : Int) (w : World) : Prop :=
  Wr Tryz.prog (Instr.box 41 (.agg #[(.int .i64 span_0.1), (.int .i64 span_0.2.1)])) (.one (.at .addr)) (fun (x1 : Addr) w2 =>
  Rd Tryz.prog (Instr.loadAt 3 (.pointer (some x1))) (.one (.at (.int .i64))) (fun (x3 : Int) w4 =>
  Cd (decide (x3 < 0)) (kernel_within.j1 R true w4) (Rd Tryz.prog (Instr.loadAt 3 (.pointer (some (Addr.add x1 1)))) (.one (.at (.int .i64))) (fun (x5 : Int) w6 =>
  Rd Tryz.prog (Instr.loadAt 3 (.pointer (some x1))) (.one (.at (.int .i64))) (fun (x7 : Int) w8 =>
  Cd (decide (x5 < x7)) (kernel_within.j1 R true w8) (Rd Tryz.prog (Instr.loadAt 3 (.pointer (some (Addr.add x1 1)))) (.one (.at (.int .i64))) (fun (x9 : Int) w10 =>
  kernel_within.j1 R (decide (x9 > length_1)) w10) w8)) w6) w4)) w2) w
noncomputable def kernel_within.ann (R : Ending → World → Prop) : Ann :=
  .seq (.reg (.op 0 (.wr (.one (.at .addr))) (.op 1 .now (.done)))) (.seq (.join [(20, .at .bool)] (fun s w => kernel_within.j1 R s.1 w) (.reg (.op 0 .now (.op 1 (.rd (.one qcI)) (.op 2 .now (.op 3 .now (.split 3 (.skip 4 (.skip 5 (.skip 6 (.skip 7 (.skip 8 (.op 9 .now (.op 10 .now (.skip 11 (.skip 12 (.skip 13 (.skip 14 (.op 15 .now (.done))))))))))))) (.op 4 .now (.op 5 (.rd (.one qcI)) (.op 6 .now (.op 7 (.rd (.one qcI)) (.op 8 .now (.op 9 .now (.op 10 .now (.split 10 (.skip 11 (.skip 12 (.skip 13 (.skip 14 (.op 15 .now (.done)))))) (.op 11 .now (.op 12 (.rd (.one qcI)) (.op 13 .now (.op 14 .now (.op 15 .now (.done)))))))))))))))))))) (.cond (.seq (.reg qN1) (.leaf)) (.leaf))) (.seq (.reg qN1) (.leaf)))
theorem kernel_within.run (R : Ending → World → Prop) (span_0 : (Int × Int × Unit)) (length_1 : Int) (w : World) (h : kernel_within.M R span_0 length_1 w) : Calls Tryz.prog 75 #[(.agg #[(.int .i64 span_0.1), (.int .i64 span_0.2.1)]), (.int .i64 length_1)] w R := by
  refine calls_of_lift mix_eqc Tryz.func75 (c := kernel_within.body) (by kernel_rfl) [.at (.int .i64)] (kernel_within.ann R) 21 Tryz.ntmps75 [.tmp 4] (by kernel_rfl) (Nat.le_of_ble_eq_true (by kernel_rfl)) ?_ ?_
  · exact ⟨trivial, ⟨⟨fun s w h => Eq.mp (by kernel_rfl) h, trivial, ⟨⟨trivial, trivial⟩, trivial⟩⟩, ⟨trivial, trivial⟩⟩⟩
  · exact Eq.mp (show kernel_within.M R span_0 length_1 w = _ by kernel_rfl) h
noncomputable def mcode_New.body : Code := (Tryz.f32.body).getD .skip
def mcode_New.j1 (R : Ending → World → Prop)  (f_0 : Int) (b_1 : Int) (k_2 : Int) (m_3 : Int) (t19 : Bool) (w : World) : Prop :=
  Cd t19 (R (.returned (.tuple #[(.pointer none), (.int .i64 2)])) w) (Cl Tryz.prog 51 #[(.int .i64 b_1)] (.tup [.at .ptr, .at (.int .i64)]) (fun x1 w2 =>
  Cd (x1.2.1 != 0) (R (.returned (.tuple #[(.pointer none), (.int .i64 3)])) w2) (Cl Tryz.prog 52 #[(.int .i64 f_0), (.int .i64 k_2), (.int .i64 m_3)] (.tup [.at .sl, .at (.int .i64)]) (fun x3 w4 =>
  Cd (x3.2.1 != 0) (R (.returned (.tuple #[(.pointer none), (.int .i64 4)])) w4) (Cl Tryz.prog 53 #[(.int .i64 16)] (.tup [.at .ptr, .at (.int .i64)]) (fun x5 w6 =>
  Cd (x5.2.1 != 0) (R (.returned (.tuple #[(.pointer none), (.int .i64 x5.2.1)])) w6) (Wr Tryz.prog (Instr.box 78 (.agg #[(.int .i64 f_0), (.int .i64 k_2), (.int .i64 m_3), (.pointer x1.1), (.slice x3.1.base x3.1.len x3.1.cap), (.pointer x5.1)])) (.one (.at .addr)) (fun (x7 : Addr) w8 =>
  R (.returned (.tuple #[(.pointer (some x7)), (.int .i64 0)])) w8) w6)) w4)) w2)) w)
def mcode_New.M (R : Ending → World → Prop) (f_0 : Int) (b_1 : Int) (k_2 : Int) (m_3 : Int) (w : World) : Prop :=
  Cd (f_0 != 0) (mcode_New.j1 R f_0 b_1 k_2 m_3 (f_0 != 1) w) (mcode_New.j1 R f_0 b_1 k_2 m_3 false w)
noncomputable def mcode_New.ann (R : Ending → World → Prop) : Ann :=
  .seq (.reg qN2) (.seq (.join [(0, qcI), (1, qcI), (2, qcI), (3, qcI), (19, .at .bool)] (fun s w => mcode_New.j1 R s.1 s.2.1 s.2.2.1 s.2.2.2.1 s.2.2.2.2.1 w) (.reg (.op 0 .now (.op 1 .now (.op 2 .now (.split 2 (.op 3 .now (.op 4 .now (.op 5 .now (.done)))) (.skip 3 (.skip 4 (.op 5 .now (.done))))))))) (.cond (.seq (.reg qN2) (.leaf)) (.leaf))) (.seq (.reg (.op 0 .now (.op 1 (.cl (.tup [.at .ptr, .at (.int .i64)])) (.op 2 .now (.op 3 .now (.op 4 .now (.op 5 .now (.op 6 .now (.done))))))))) (.seq (.seq (.reg qN2) (.cond (.seq (.reg qN2) (.leaf)) (.leaf))) (.seq (.reg (.op 0 .now (.op 1 .now (.op 2 .now (.op 3 (.cl (.tup [.at .sl, .at (.int .i64)])) (.op 4 .now (.op 5 .now (.op 6 .now (.op 7 .now (.op 8 .now (.done))))))))))) (.seq (.seq (.reg qN2) (.cond (.seq (.reg qN2) (.leaf)) (.leaf))) (.seq (.reg (.op 0 (.cl (.tup [.at .ptr, .at (.int .i64)])) (.op 1 .now (.op 2 .now (.op 3 .now (.op 4 .now (.op 5 .now (.done)))))))) (.seq (.seq (.reg qN2) (.cond (.seq (.reg qN3) (.leaf)) (.leaf))) (.seq (.reg (.op 0 .now (.op 1 .now (.op 2 .now (.op 3 .now (.op 4 .now (.op 5 .now (.op 6 .now (.op 7 (.wr (.one (.at .addr))) (.op 8 .now (.op 9 .now (.done)))))))))))) (.leaf)))))))))
theorem mcode_New.run (R : Ending → World → Prop) (f_0 : Int) (b_1 : Int) (k_2 : Int) (m_3 : Int) (w : World) (h : mcode_New.M R f_0 b_1 k_2 m_3 w) : Calls Tryz.prog 32 #[(.int .i64 f_0), (.int .i64 b_1), (.int .i64 k_2), (.int .i64 m_3)] w R := by
  refine calls_of_lift mix_eqc Tryz.func32 (c := mcode_New.body) (by kernel_rfl) [.at .ptr, .at (.int .i64)] (mcode_New.ann R) 51 Tryz.ntmps32 [.tmp 8, .tmp 9] (by kernel_rfl) (Nat.le_of_ble_eq_true (by kernel_rfl)) ?_ ?_
  · exact ⟨trivial, ⟨⟨fun s w h => Eq.mp (by kernel_rfl) h, trivial, ⟨⟨trivial, trivial⟩, trivial⟩⟩, ⟨trivial, ⟨⟨trivial, ⟨⟨trivial, trivial⟩, trivial⟩⟩, ⟨trivial, ⟨⟨trivial, ⟨⟨trivial, trivial⟩, trivial⟩⟩, ⟨trivial, ⟨⟨trivial, ⟨⟨trivial, trivial⟩, trivial⟩⟩, ⟨trivial, trivial⟩⟩⟩⟩⟩⟩⟩⟩⟩
  · exact Eq.mp (show mcode_New.M R f_0 b_1 k_2 m_3 w = _ by kernel_rfl) h
noncomputable def mcode_Codec_whole.body : Code := (Tryz.f34.body).getD .skip
def mcode_Codec_whole.M (R : Ending → World → Prop) (c_0 : (Option Addr)) (shards_1 : Sl) (w : World) : Prop :=
  Pu Tryz.prog (do eqGuard .eql 26 (.tmp 6) (.const (.pointer none)) (.pointer c_0) (.pointer none); binOp .eql 26 (.pointer c_0) (.pointer none)) (.one (.at .bool)) (fun (x1 : Bool) w2 =>
  Cd x1 (R (.returned (.tuple #[(.int .i64 0), (.int .i64 1)])) w2) (Held w2.drew (fun S3 => Pu Tryz.prog (nilCk c_0) (.one (.at .addr)) (fun (x4 : Addr) w5 =>
  RdS Tryz.prog S3 (Instr.loadAt 69 (.pointer (some x4))) (.one (.at (.int .i64))) (fun (x6 : Int) w7 =>
  Pu Tryz.prog (nilCk c_0) (.one (.at .addr)) (fun (x8 : Addr) w9 =>
  RdS Tryz.prog S3 (Instr.loadAt 3 (.pointer (some (Addr.add x8 1)))) (.one (.at (.int .i64))) (fun (x10 : Int) w11 =>
  Pu Tryz.prog (nilCk c_0) (.one (.at .addr)) (fun (x12 : Addr) w13 =>
  RdS Tryz.prog S3 (Instr.loadAt 3 (.pointer (some (Addr.add x12 2)))) (.one (.at (.int .i64))) (fun (x14 : Int) w15 =>
  Cl Tryz.prog 55 #[(.int .i64 x6), (.int .i64 x10), (.int .i64 x14), (.slice shards_1.base shards_1.len shards_1.cap)] (.tup [.at (.int .i64), .at (.int .i64)]) (fun x16 w17 =>
  S3 w17 ∧ (R (.returned (.tuple #[(.int .i64 x16.1), (.int .i64 x16.2.1)])) w17)) w15) w13) w11) w9) w7) w5) w2.drew))) w
noncomputable def mcode_Codec_whole.ann (R : Ending → World → Prop) : Ann :=
  .seq (.reg qN2) (.seq (.seq (.reg (.op 0 .now (.op 1 (.pu (.one (.at .bool))) (.done)))) (.cond (.seq (.reg qN2) (.leaf)) (.leaf))) (.seq (.regD (.op 0 .now (.op 1 qpA (.op 2 .now (.op 3 (.rd (.one qcI)) (.op 4 .now (.op 5 qpA (.op 6 .now (.op 7 (.rd (.one qcI)) (.op 8 .now (.op 9 qpA (.op 10 .now (.op 11 (.rd (.one qcI)) (.op 12 .now (.op 13 (.cl (.tup [.at (.int .i64), .at (.int .i64)])) (.op 14 .now (.op 15 .now (.op 16 .now (.op 17 .now (.done)))))))))))))))))))) (.leaf)))
theorem mcode_Codec_whole.run (R : Ending → World → Prop) (c_0 : (Option Addr)) (shards_1 : Sl) (w : World) (h : mcode_Codec_whole.M R c_0 shards_1 w) : Calls Tryz.prog 34 #[(.pointer c_0), (.slice shards_1.base shards_1.len shards_1.cap)] w R := by
  refine calls_of_lift mix_eqc Tryz.func34 (c := mcode_Codec_whole.body) (by kernel_rfl) [.at (.int .i64), .at (.int .i64)] (mcode_Codec_whole.ann R) 24 Tryz.ntmps34 [.tmp 4, .tmp 5] (by kernel_rfl) (Nat.le_of_ble_eq_true (by kernel_rfl)) ?_ ?_
  · exact ⟨trivial, ⟨⟨trivial, ⟨⟨trivial, trivial⟩, trivial⟩⟩, ⟨(show Region.noSelect _ = true by kernel_rfl), trivial⟩⟩⟩
  · exact Eq.mp (show mcode_Codec_whole.M R c_0 shards_1 w = _ by kernel_rfl) h
noncomputable def mcode_within.body : Code := (Tryz.f35.body).getD .skip
def mcode_within.j1 (R : Ending → World → Prop)  (t20 : Bool) (w : World) : Prop :=
  Cd t20 (R (.returned (.int .i64 7)) w) (R (.returned (.int .i64 0)) w)
def mcode_within.M (R : Ending → World → Prop) (span_0 : (Int × Int × Unit)) (length_1 : Int) (w : World) : Prop :=
  Wr Tryz.prog (Instr.box 41 (.agg #[(.int .i64 span_0.1), (.int .i64 span_0.2.1)])) (.one (.at .addr)) (fun (x1 : Addr) w2 =>
  Rd Tryz.prog (Instr.loadAt 3 (.pointer (some x1))) (.one (.at (.int .i64))) (fun (x3 : Int) w4 =>
  Cd (decide (x3 < 0)) (mcode_within.j1 R true w4) (Rd Tryz.prog (Instr.loadAt 3 (.pointer (some (Addr.add x1 1)))) (.one (.at (.int .i64))) (fun (x5 : Int) w6 =>
  Rd Tryz.prog (Instr.loadAt 3 (.pointer (some x1))) (.one (.at (.int .i64))) (fun (x7 : Int) w8 =>
  Cd (decide (x5 < x7)) (mcode_within.j1 R true w8) (Rd Tryz.prog (Instr.loadAt 3 (.pointer (some (Addr.add x1 1)))) (.one (.at (.int .i64))) (fun (x9 : Int) w10 =>
  mcode_within.j1 R (decide (x9 > length_1)) w10) w8)) w6) w4)) w2) w
noncomputable def mcode_within.ann (R : Ending → World → Prop) : Ann :=
  .seq (.reg (.op 0 (.wr (.one (.at .addr))) (.op 1 .now (.done)))) (.seq (.join [(20, .at .bool)] (fun s w => mcode_within.j1 R s.1 w) (.reg (.op 0 .now (.op 1 (.rd (.one qcI)) (.op 2 .now (.op 3 .now (.split 3 (.skip 4 (.skip 5 (.skip 6 (.skip 7 (.skip 8 (.op 9 .now (.op 10 .now (.skip 11 (.skip 12 (.skip 13 (.skip 14 (.op 15 .now (.done))))))))))))) (.op 4 .now (.op 5 (.rd (.one qcI)) (.op 6 .now (.op 7 (.rd (.one qcI)) (.op 8 .now (.op 9 .now (.op 10 .now (.split 10 (.skip 11 (.skip 12 (.skip 13 (.skip 14 (.op 15 .now (.done)))))) (.op 11 .now (.op 12 (.rd (.one qcI)) (.op 13 .now (.op 14 .now (.op 15 .now (.done)))))))))))))))))))) (.cond (.seq (.reg qN1) (.leaf)) (.leaf))) (.seq (.reg qN1) (.leaf)))
theorem mcode_within.run (R : Ending → World → Prop) (span_0 : (Int × Int × Unit)) (length_1 : Int) (w : World) (h : mcode_within.M R span_0 length_1 w) : Calls Tryz.prog 35 #[(.agg #[(.int .i64 span_0.1), (.int .i64 span_0.2.1)]), (.int .i64 length_1)] w R := by
  refine calls_of_lift mix_eqc Tryz.func35 (c := mcode_within.body) (by kernel_rfl) [.at (.int .i64)] (mcode_within.ann R) 21 Tryz.ntmps35 [.tmp 4] (by kernel_rfl) (Nat.le_of_ble_eq_true (by kernel_rfl)) ?_ ?_
  · exact ⟨trivial, ⟨⟨fun s w h => Eq.mp (by kernel_rfl) h, trivial, ⟨⟨trivial, trivial⟩, trivial⟩⟩, ⟨trivial, trivial⟩⟩⟩
  · exact Eq.mp (show mcode_within.M R span_0 length_1 w = _ by kernel_rfl) h
noncomputable def mcode_Codec_Encode.body : Code := (Tryz.f13.body).getD .skip
def mcode_Codec_Encode.M (R : Ending → World → Prop) (c_0 : (Option Addr)) (shards_1 : Sl) (w : World) : Prop :=
  Cl Tryz.prog 34 #[(.pointer c_0), (.slice shards_1.base shards_1.len shards_1.cap)] (.tup [.at (.int .i64), .at (.int .i64)]) (fun x1 w2 =>
  Cd (x1.2.1 != 0) (R (.returned (.int .i64 x1.2.1)) w2) (Cl Tryz.prog 28 #[(.pointer c_0), (.slice shards_1.base shards_1.len shards_1.cap), (.agg #[(.int .i64 0), (.int .i64 x1.1)])] (.one (.at (.int .i64))) (fun (x3 : Int) w4 =>
  R (.returned (.int .i64 x3)) w4) w2)) w
noncomputable def mcode_Codec_Encode.ann (R : Ending → World → Prop) : Ann :=
  .seq (.reg qN1) (.seq (.reg (.op 0 .now (.op 1 .now (.op 2 (.cl (.tup [.at (.int .i64), .at (.int .i64)])) (.op 3 .now (.op 4 .now (.op 5 .now (.op 6 .now (.op 7 .now (.done)))))))))) (.seq (.seq (.reg qN2) (.cond (.seq (.reg qN2) (.leaf)) (.leaf))) (.seq (.reg (.op 0 .now (.op 1 .now (.op 2 .now (.op 3 .now (.op 4 (.cl (.one qcI)) (.op 5 .now (.done)))))))) (.leaf))))
theorem mcode_Codec_Encode.run (R : Ending → World → Prop) (c_0 : (Option Addr)) (shards_1 : Sl) (w : World) (h : mcode_Codec_Encode.M R c_0 shards_1 w) : Calls Tryz.prog 13 #[(.pointer c_0), (.slice shards_1.base shards_1.len shards_1.cap)] w R := by
  refine calls_of_lift mix_eqc Tryz.func13 (c := mcode_Codec_Encode.body) (by kernel_rfl) [.at (.int .i64)] (mcode_Codec_Encode.ann R) 21 Tryz.ntmps13 [.tmp 4] (by kernel_rfl) (Nat.le_of_ble_eq_true (by kernel_rfl)) ?_ ?_
  · exact ⟨trivial, ⟨trivial, ⟨⟨trivial, ⟨⟨trivial, trivial⟩, trivial⟩⟩, ⟨trivial, trivial⟩⟩⟩⟩
  · exact Eq.mp (show mcode_Codec_Encode.M R c_0 shards_1 w = _ by kernel_rfl) h
noncomputable def mcode_Codec_Verify.body : Code := (Tryz.f14.body).getD .skip
def mcode_Codec_Verify.M (R : Ending → World → Prop) (c_0 : (Option Addr)) (shards_1 : Sl) (w : World) : Prop :=
  Cl Tryz.prog 34 #[(.pointer c_0), (.slice shards_1.base shards_1.len shards_1.cap)] (.tup [.at (.int .i64), .at (.int .i64)]) (fun x1 w2 =>
  Cd (x1.2.1 != 0) (R (.returned (.tuple #[(.bool false), (.int .i64 x1.2.1)])) w2) (Cl Tryz.prog 17 #[(.pointer c_0), (.slice shards_1.base shards_1.len shards_1.cap), (.agg #[(.int .i64 0), (.int .i64 x1.1)])] (.tup [.at .bool, .at (.int .i64)]) (fun x3 w4 =>
  R (.returned (.tuple #[(.bool x3.1), (.int .i64 x3.2.1)])) w4) w2)) w
noncomputable def mcode_Codec_Verify.ann (R : Ending → World → Prop) : Ann :=
  .seq (.reg qN2) (.seq (.reg (.op 0 .now (.op 1 .now (.op 2 (.cl (.tup [.at (.int .i64), .at (.int .i64)])) (.op 3 .now (.op 4 .now (.op 5 .now (.op 6 .now (.op 7 .now (.done)))))))))) (.seq (.seq (.reg qN2) (.cond (.seq (.reg qN3) (.leaf)) (.leaf))) (.seq (.reg (.op 0 .now (.op 1 .now (.op 2 .now (.op 3 .now (.op 4 (.cl (.tup [.at .bool, .at (.int .i64)])) (.op 5 .now (.op 6 .now (.op 7 .now (.op 8 .now (.done))))))))))) (.leaf))))
theorem mcode_Codec_Verify.run (R : Ending → World → Prop) (c_0 : (Option Addr)) (shards_1 : Sl) (w : World) (h : mcode_Codec_Verify.M R c_0 shards_1 w) : Calls Tryz.prog 14 #[(.pointer c_0), (.slice shards_1.base shards_1.len shards_1.cap)] w R := by
  refine calls_of_lift mix_eqc Tryz.func14 (c := mcode_Codec_Verify.body) (by kernel_rfl) [.at .bool, .at (.int .i64)] (mcode_Codec_Verify.ann R) 24 Tryz.ntmps14 [.tmp 4, .tmp 5] (by kernel_rfl) (Nat.le_of_ble_eq_true (by kernel_rfl)) ?_ ?_
  · exact ⟨trivial, ⟨trivial, ⟨⟨trivial, ⟨⟨trivial, trivial⟩, trivial⟩⟩, ⟨trivial, trivial⟩⟩⟩⟩
  · exact Eq.mp (show mcode_Codec_Verify.M R c_0 shards_1 w = _ by kernel_rfl) h
noncomputable def mcode_Codec_VerifySpan.body : Code := (Tryz.f17.body).getD .skip
def mcode_Codec_VerifySpan.j1 (R : Ending → World → Prop)  (c_0 : (Option Addr)) (shards_1 : Sl) (span_5 : Addr) (e_9 : Int) (w : World) : Prop :=
  Cd (e_9 != 0) (R (.returned (.tuple #[(.bool false), (.int .i64 e_9)])) w) (Held w.drew (fun S5 => Pu Tryz.prog (nilCk c_0) (.one (.at .addr)) (fun (x6 : Addr) w7 =>
  RdS Tryz.prog S5 (Instr.loadAt 75 (.pointer (some (Addr.add x6 3)))) (.one (.at .ptr)) (fun (x8 : (Option Addr)) w9 =>
  Pu Tryz.prog (nilCk c_0) (.one (.at .addr)) (fun (x10 : Addr) w11 =>
  RdS Tryz.prog S5 (Instr.loadAt 30 (.pointer (some (Addr.add x10 4)))) (.one (.at .sl)) (fun (x12 : Sl) w13 =>
  Pu Tryz.prog (nilCk c_0) (.one (.at .addr)) (fun (x14 : Addr) w15 =>
  RdS Tryz.prog S5 (Instr.loadAt 3 (.pointer (some (Addr.add x14 1)))) (.one (.at (.int .i64))) (fun (x16 : Int) w17 =>
  Pu Tryz.prog (Instr.sliceAt 30 (.slice shards_1.base shards_1.len shards_1.cap) none (some (.int .i64 x16)) none) (.one (.at .sl)) (fun (x18 : Sl) w19 =>
  Pu Tryz.prog (nilCk c_0) (.one (.at .addr)) (fun (x20 : Addr) w21 =>
  RdS Tryz.prog S5 (Instr.loadAt 3 (.pointer (some (Addr.add x20 1)))) (.one (.at (.int .i64))) (fun (x22 : Int) w23 =>
  Pu Tryz.prog (Instr.sliceAt 30 (.slice shards_1.base shards_1.len shards_1.cap) (some (.int .i64 x22)) none none) (.one (.at .sl)) (fun (x24 : Sl) w25 =>
  RdS Tryz.prog S5 (Instr.loadAt 41 (.pointer (some span_5))) (.one (.agg [.int .i64, .int .i64])) (fun x26 w27 =>
  Cl Tryz.prog 36 #[(.pointer x8), (.slice x12.base x12.len x12.cap), (.slice x18.base x18.len x18.cap), (.slice x24.base x24.len x24.cap), (.agg #[(.int .i64 x26.1), (.int .i64 x26.2.1)])] (.tup [.at .bool, .at (.int .i64)]) (fun x28 w29 =>
  S5 w29 ∧ (R (.returned (.tuple #[(.bool x28.1), (.int .i64 x28.2.1)])) w29)) w27) w25) w23) w21) w19) w17) w15) w13) w11) w9) w7) w.drew))
def mcode_Codec_VerifySpan.M (R : Ending → World → Prop) (c_0 : (Option Addr)) (shards_1 : Sl) (span_2 : (Int × Int × Unit)) (w : World) : Prop :=
  Wr Tryz.prog (Instr.box 41 (.agg #[(.int .i64 span_2.1), (.int .i64 span_2.2.1)])) (.one (.at .addr)) (fun (x1 : Addr) w2 =>
  Cl Tryz.prog 34 #[(.pointer c_0), (.slice shards_1.base shards_1.len shards_1.cap)] (.tup [.at (.int .i64), .at (.int .i64)]) (fun x3 w4 =>
  Cd (x3.2.1 == 0) (Rd Tryz.prog (Instr.loadAt 41 (.pointer (some x1))) (.one (.agg [.int .i64, .int .i64])) (fun x30 w31 =>
  Cl Tryz.prog 35 #[(.agg #[(.int .i64 x30.1), (.int .i64 x30.2.1)]), (.int .i64 x3.1)] (.one (.at (.int .i64))) (fun (x32 : Int) w33 =>
  mcode_Codec_VerifySpan.j1 R c_0 shards_1 x1 x32 w33) w31) w4) (mcode_Codec_VerifySpan.j1 R c_0 shards_1 x1 x3.2.1 w4)) w2) w
noncomputable def mcode_Codec_VerifySpan.ann (R : Ending → World → Prop) : Ann :=
  .seq (.reg (.op 0 (.wr (.one (.at .addr))) (.op 1 .now (.op 2 .now (.done))))) (.seq (.reg (.op 0 .now (.op 1 .now (.op 2 (.cl (.tup [.at (.int .i64), .at (.int .i64)])) (.op 3 .now (.op 4 .now (.op 5 .now (.op 6 .now (.op 7 .now (.done)))))))))) (.join [(0, qcP), (1, qcS), (5, .at .addr), (9, qcI)] (fun s w => mcode_Codec_VerifySpan.j1 R s.1 s.2.1 s.2.2.1 s.2.2.2.1 w) (.seq (.reg qN2) (.cond (.reg (.op 0 (.rd (.one (.agg [.int .i64, .int .i64]))) (.op 1 .now (.op 2 (.cl (.one qcI)) (.op 3 .now (.done)))))) (.leaf))) (.seq (.seq (.reg qN2) (.cond (.seq (.reg qN3) (.leaf)) (.leaf))) (.seq (.regD (.op 0 .now (.op 1 qpA (.op 2 .now (.op 3 (.rd (.one qcP)) (.op 4 .now (.op 5 qpA (.op 6 .now (.op 7 qrS (.op 8 .now (.op 9 .now (.op 10 qpA (.op 11 .now (.op 12 (.rd (.one qcI)) (.op 13 (.pu (.one qcS)) (.op 14 .now (.op 15 .now (.op 16 qpA (.op 17 .now (.op 18 (.rd (.one qcI)) (.op 19 (.pu (.one qcS)) (.op 20 (.rd (.one (.agg [.int .i64, .int .i64]))) (.op 21 (.cl (.tup [.at .bool, .at (.int .i64)])) (.op 22 .now (.op 23 .now (.op 24 .now (.op 25 .now (.done)))))))))))))))))))))))))))) (.leaf)))))
theorem mcode_Codec_VerifySpan.run (R : Ending → World → Prop) (c_0 : (Option Addr)) (shards_1 : Sl) (span_2 : (Int × Int × Unit)) (w : World) (h : mcode_Codec_VerifySpan.M R c_0 shards_1 span_2 w) : Calls Tryz.prog 17 #[(.pointer c_0), (.slice shards_1.base shards_1.len shards_1.cap), (.agg #[(.int .i64 span_2.1), (.int .i64 span_2.2.1)])] w R := by
  refine calls_of_lift mix_eqc Tryz.func17 (c := mcode_Codec_VerifySpan.body) (by kernel_rfl) [.at .bool, .at (.int .i64)] (mcode_Codec_VerifySpan.ann R) 48 Tryz.ntmps17 [.tmp 6, .tmp 7] (by kernel_rfl) (Nat.le_of_ble_eq_true (by kernel_rfl)) ?_ ?_
  · exact ⟨trivial, ⟨trivial, ⟨fun s w h => Eq.mp (by kernel_rfl) h, ⟨trivial, ⟨trivial, trivial⟩⟩, ⟨⟨trivial, ⟨⟨trivial, trivial⟩, trivial⟩⟩, ⟨(show Region.noSelect _ = true by kernel_rfl), trivial⟩⟩⟩⟩⟩
  · exact Eq.mp (show mcode_Codec_VerifySpan.M R c_0 shards_1 span_2 w = _ by kernel_rfl) h
noncomputable def mcode_Codec_Update.body : Code := (Tryz.f19.body).getD .skip
def mcode_Codec_Update.M (R : Ending → World → Prop) (c_0 : (Option Addr)) (shards_1 : Sl) (fresh_2 : Sl) (w : World) : Prop :=
  Pu Tryz.prog (do eqGuard .eql 26 (.tmp 10) (.const (.pointer none)) (.pointer c_0) (.pointer none); binOp .eql 26 (.pointer c_0) (.pointer none)) (.one (.at .bool)) (fun (x1 : Bool) w2 =>
  Cd x1 (R (.returned (.int .i64 1)) w2) (Held w2.drew (fun S3 => Pu Tryz.prog (nilCk c_0) (.one (.at .addr)) (fun (x4 : Addr) w5 =>
  RdS Tryz.prog S3 (Instr.loadAt 69 (.pointer (some x4))) (.one (.at (.int .i64))) (fun (x6 : Int) w7 =>
  Pu Tryz.prog (nilCk c_0) (.one (.at .addr)) (fun (x8 : Addr) w9 =>
  RdS Tryz.prog S3 (Instr.loadAt 3 (.pointer (some (Addr.add x8 1)))) (.one (.at (.int .i64))) (fun (x10 : Int) w11 =>
  Pu Tryz.prog (nilCk c_0) (.one (.at .addr)) (fun (x12 : Addr) w13 =>
  RdS Tryz.prog S3 (Instr.loadAt 3 (.pointer (some (Addr.add x12 2)))) (.one (.at (.int .i64))) (fun (x14 : Int) w15 =>
  Cl Tryz.prog 37 #[(.int .i64 x6), (.int .i64 x10), (.int .i64 x14), (.slice shards_1.base shards_1.len shards_1.cap), (.slice fresh_2.base fresh_2.len fresh_2.cap)] (.tup [.at (.int .i64), .at .sl, .at (.int .i64)]) (fun x16 w17 =>
  S3 w17 ∧ (Cd (x16.2.2.1 != 0) (R (.returned (.int .i64 x16.2.2.1)) w17) (Cl Tryz.prog 29 #[(.pointer c_0), (.slice shards_1.base shards_1.len shards_1.cap), (.slice fresh_2.base fresh_2.len fresh_2.cap), (.agg #[(.int .i64 0), (.int .i64 x16.1)])] (.one (.at (.int .i64))) (fun (x18 : Int) w19 =>
  R (.returned (.int .i64 x18)) w19) w17))) w15) w13) w11) w9) w7) w5) w2.drew))) w
noncomputable def mcode_Codec_Update.ann (R : Ending → World → Prop) : Ann :=
  .seq (.reg qN1) (.seq (.seq (.reg (.op 0 .now (.op 1 (.pu (.one (.at .bool))) (.done)))) (.cond (.seq (.reg qN1) (.leaf)) (.leaf))) (.seq (.regD (.op 0 .now (.op 1 qpA (.op 2 .now (.op 3 (.rd (.one qcI)) (.op 4 .now (.op 5 qpA (.op 6 .now (.op 7 (.rd (.one qcI)) (.op 8 .now (.op 9 qpA (.op 10 .now (.op 11 (.rd (.one qcI)) (.op 12 .now (.op 13 .now (.op 14 (.cl (.tup [.at (.int .i64), .at .sl, .at (.int .i64)])) (.op 15 .now (.op 16 .now (.op 17 .now (.op 18 .now (.op 19 .now (.op 20 .now (.op 21 .now (.done)))))))))))))))))))))))) (.seq (.seq (.reg qN2) (.cond (.seq (.reg qN2) (.leaf)) (.leaf))) (.seq (.reg (.op 0 .now (.op 1 .now (.op 2 .now (.op 3 .now (.op 4 .now (.op 5 (.cl (.one qcI)) (.op 6 .now (.done))))))))) (.leaf)))))
theorem mcode_Codec_Update.run (R : Ending → World → Prop) (c_0 : (Option Addr)) (shards_1 : Sl) (fresh_2 : Sl) (w : World) (h : mcode_Codec_Update.M R c_0 shards_1 fresh_2 w) : Calls Tryz.prog 19 #[(.pointer c_0), (.slice shards_1.base shards_1.len shards_1.cap), (.slice fresh_2.base fresh_2.len fresh_2.cap)] w R := by
  refine calls_of_lift mix_eqc Tryz.func19 (c := mcode_Codec_Update.body) (by kernel_rfl) [.at (.int .i64)] (mcode_Codec_Update.ann R) 40 Tryz.ntmps19 [.tmp 6] (by kernel_rfl) (Nat.le_of_ble_eq_true (by kernel_rfl)) ?_ ?_
  · exact ⟨trivial, ⟨⟨trivial, ⟨⟨trivial, trivial⟩, trivial⟩⟩, ⟨(show Region.noSelect _ = true by kernel_rfl), ⟨⟨trivial, ⟨⟨trivial, trivial⟩, trivial⟩⟩, ⟨trivial, trivial⟩⟩⟩⟩⟩
  · exact Eq.mp (show mcode_Codec_Update.M R c_0 shards_1 fresh_2 w = _ by kernel_rfl) h
noncomputable def mcode_Codec_Reconstruct.body : Code := (Tryz.f21.body).getD .skip
def mcode_Codec_Reconstruct.M (R : Ending → World → Prop) (c_0 : (Option Addr)) (shards_1 : Sl) (w : World) : Prop :=
  Cl Tryz.prog 39 #[(.pointer c_0), (.slice shards_1.base shards_1.len shards_1.cap), (.bool false)] (.one (.at (.int .i64))) (fun (x1 : Int) w2 =>
  R (.returned (.int .i64 x1)) w2) w
noncomputable def mcode_Codec_Reconstruct.ann (R : Ending → World → Prop) : Ann :=
  .seq (.reg qN1) (.seq (.reg (.op 0 .now (.op 1 .now (.op 2 (.cl (.one qcI)) (.op 3 .now (.done)))))) (.leaf))
theorem mcode_Codec_Reconstruct.run (R : Ending → World → Prop) (c_0 : (Option Addr)) (shards_1 : Sl) (w : World) (h : mcode_Codec_Reconstruct.M R c_0 shards_1 w) : Calls Tryz.prog 21 #[(.pointer c_0), (.slice shards_1.base shards_1.len shards_1.cap)] w R := by
  refine calls_of_lift mix_eqc Tryz.func21 (c := mcode_Codec_Reconstruct.body) (by kernel_rfl) [.at (.int .i64)] (mcode_Codec_Reconstruct.ann R) 8 Tryz.ntmps21 [.tmp 4] (by kernel_rfl) (Nat.le_of_ble_eq_true (by kernel_rfl)) ?_ ?_
  · exact ⟨trivial, ⟨trivial, trivial⟩⟩
  · exact Eq.mp (show mcode_Codec_Reconstruct.M R c_0 shards_1 w = _ by kernel_rfl) h
noncomputable def mcode_Codec_Plan.body : Code := (Tryz.f22.body).getD .skip
def mcode_Codec_Plan.j2 (R : Ending → World → Prop)  (c_0 : (Option Addr)) (missing_1 : Sl) (t4 : Addr) (present_6 : Sl) (p_8 : Addr) (w : World) : Prop :=
  Cd (((missing_1.len : Nat) : Int) == 0) (Rd Tryz.prog (Instr.loadAt 49 (.pointer (some p_8))) (.one (.agg [.sl, .sl, .sl, .sl])) (fun x19 w20 =>
  Wu Tryz.prog (Instr.storeAt 49 (.pointer (some t4)) (.agg #[(.slice x19.1.base x19.1.len x19.1.cap), (.slice x19.2.1.base x19.2.1.len x19.2.1.cap), (.slice x19.2.2.1.base x19.2.2.1.len x19.2.2.1.cap), (.slice x19.2.2.2.1.base x19.2.2.2.1.len x19.2.2.2.1.cap)])) (fun w21 =>
  ∃ r22 : (Sl × Sl × Sl × Sl × Unit), (loadVar 49 t4).run Tryz.prog w21 = .ok (.agg #[(.slice r22.1.base r22.1.len r22.1.cap), (.slice r22.2.1.base r22.2.1.len r22.2.1.cap), (.slice r22.2.2.1.base r22.2.2.1.len r22.2.2.1.cap), (.slice r22.2.2.2.1.base r22.2.2.2.1.len r22.2.2.2.1.cap)]) w21 ∧ R (.returned (.tuple #[(.agg #[(.slice r22.1.base r22.1.len r22.1.cap), (.slice r22.2.1.base r22.2.1.len r22.2.1.cap), (.slice r22.2.2.1.base r22.2.2.1.len r22.2.2.1.cap), (.slice r22.2.2.2.1.base r22.2.2.2.1.len r22.2.2.2.1.cap)]), (.int .i64 0)])) w21) w20) w) (Pu Tryz.prog (nilCk c_0) (.one (.at .addr)) (fun (x23 : Addr) w24 =>
  Rd Tryz.prog (Instr.loadAt 76 (.pointer (some (Addr.add x23 5)))) (.one (.at .ptr)) (fun (x25 : (Option Addr)) w26 =>
  Cl Tryz.prog 42 #[(.pointer x25), (.slice missing_1.base missing_1.len missing_1.cap)] (.tup [.at .sl, .at .bool]) (fun x27 w28 =>
  Cd x27.2.1 (Wu Tryz.prog (Instr.storeAt 30 (.pointer (some (Addr.add p_8 2))) (.slice x27.1.base x27.1.len x27.1.cap)) (fun w29 =>
  Rd Tryz.prog (Instr.loadAt 49 (.pointer (some p_8))) (.one (.agg [.sl, .sl, .sl, .sl])) (fun x30 w31 =>
  Wu Tryz.prog (Instr.storeAt 49 (.pointer (some t4)) (.agg #[(.slice x30.1.base x30.1.len x30.1.cap), (.slice x30.2.1.base x30.2.1.len x30.2.1.cap), (.slice x30.2.2.1.base x30.2.2.1.len x30.2.2.1.cap), (.slice x30.2.2.2.1.base x30.2.2.2.1.len x30.2.2.2.1.cap)])) (fun w32 =>
  ∃ r33 : (Sl × Sl × Sl × Sl × Unit), (loadVar 49 t4).run Tryz.prog w32 = .ok (.agg #[(.slice r33.1.base r33.1.len r33.1.cap), (.slice r33.2.1.base r33.2.1.len r33.2.1.cap), (.slice r33.2.2.1.base r33.2.2.1.len r33.2.2.1.cap), (.slice r33.2.2.2.1.base r33.2.2.2.1.len r33.2.2.2.1.cap)]) w32 ∧ R (.returned (.tuple #[(.agg #[(.slice r33.1.base r33.1.len r33.1.cap), (.slice r33.2.1.base r33.2.1.len r33.2.1.cap), (.slice r33.2.2.1.base r33.2.2.1.len r33.2.2.1.cap), (.slice r33.2.2.2.1.base r33.2.2.2.1.len r33.2.2.2.1.cap)]), (.int .i64 0)])) w32) w31) w29) w28) (Held w28.drew (fun S34 => Pu Tryz.prog (nilCk c_0) (.one (.at .addr)) (fun (x35 : Addr) w36 =>
  RdS Tryz.prog S34 (Instr.loadAt 69 (.pointer (some x35))) (.one (.at (.int .i64))) (fun (x37 : Int) w38 =>
  Pu Tryz.prog (nilCk c_0) (.one (.at .addr)) (fun (x39 : Addr) w40 =>
  RdS Tryz.prog S34 (Instr.loadAt 3 (.pointer (some (Addr.add x39 1)))) (.one (.at (.int .i64))) (fun (x41 : Int) w42 =>
  Pu Tryz.prog (nilCk c_0) (.one (.at .addr)) (fun (x43 : Addr) w44 =>
  RdS Tryz.prog S34 (Instr.loadAt 3 (.pointer (some (Addr.add x43 2)))) (.one (.at (.int .i64))) (fun (x45 : Int) w46 =>
  Cl Tryz.prog 43 #[(.int .i64 x37), (.int .i64 x41), (.int .i64 x45), (.slice present_6.base present_6.len present_6.cap), (.slice missing_1.base missing_1.len missing_1.cap)] (.tup [.at .sl, .at (.int .i64)]) (fun x47 w48 =>
  S34 w48 ∧ (Cd (x47.2.1 != 0) (Wu Tryz.prog (Instr.storeAt 49 (.pointer (some t4)) (.agg #[(.slice none 0 0), (.slice none 0 0), (.slice none 0 0), (.slice none 0 0)])) (fun w49 =>
  ∃ r50 : (Sl × Sl × Sl × Sl × Unit), (loadVar 49 t4).run Tryz.prog w49 = .ok (.agg #[(.slice r50.1.base r50.1.len r50.1.cap), (.slice r50.2.1.base r50.2.1.len r50.2.1.cap), (.slice r50.2.2.1.base r50.2.2.1.len r50.2.2.1.cap), (.slice r50.2.2.2.1.base r50.2.2.2.1.len r50.2.2.2.1.cap)]) w49 ∧ R (.returned (.tuple #[(.agg #[(.slice r50.1.base r50.1.len r50.1.cap), (.slice r50.2.1.base r50.2.1.len r50.2.1.cap), (.slice r50.2.2.1.base r50.2.2.1.len r50.2.2.1.cap), (.slice r50.2.2.2.1.base r50.2.2.2.1.len r50.2.2.2.1.cap)]), (.int .i64 x47.2.1)])) w49) w48) (Pu Tryz.prog (nilCk c_0) (.one (.at .addr)) (fun (x51 : Addr) w52 =>
  Rd Tryz.prog (Instr.loadAt 76 (.pointer (some (Addr.add x51 5)))) (.one (.at .ptr)) (fun (x53 : (Option Addr)) w54 =>
  Cl Tryz.prog 44 #[(.pointer x53), (.slice missing_1.base missing_1.len missing_1.cap), (.slice x47.1.base x47.1.len x47.1.cap)] (.one (.at (.int .i64))) (fun (x55 : Int) w56 =>
  Cd (x55 != 0) (Wu Tryz.prog (Instr.storeAt 49 (.pointer (some t4)) (.agg #[(.slice none 0 0), (.slice none 0 0), (.slice none 0 0), (.slice none 0 0)])) (fun w57 =>
  ∃ r58 : (Sl × Sl × Sl × Sl × Unit), (loadVar 49 t4).run Tryz.prog w57 = .ok (.agg #[(.slice r58.1.base r58.1.len r58.1.cap), (.slice r58.2.1.base r58.2.1.len r58.2.1.cap), (.slice r58.2.2.1.base r58.2.2.1.len r58.2.2.1.cap), (.slice r58.2.2.2.1.base r58.2.2.2.1.len r58.2.2.2.1.cap)]) w57 ∧ R (.returned (.tuple #[(.agg #[(.slice r58.1.base r58.1.len r58.1.cap), (.slice r58.2.1.base r58.2.1.len r58.2.1.cap), (.slice r58.2.2.1.base r58.2.2.1.len r58.2.2.1.cap), (.slice r58.2.2.2.1.base r58.2.2.2.1.len r58.2.2.2.1.cap)]), (.int .i64 x55)])) w57) w56) (Wu Tryz.prog (Instr.storeAt 30 (.pointer (some (Addr.add p_8 2))) (.slice x47.1.base x47.1.len x47.1.cap)) (fun w59 =>
  Rd Tryz.prog (Instr.loadAt 49 (.pointer (some p_8))) (.one (.agg [.sl, .sl, .sl, .sl])) (fun x60 w61 =>
  Wu Tryz.prog (Instr.storeAt 49 (.pointer (some t4)) (.agg #[(.slice x60.1.base x60.1.len x60.1.cap), (.slice x60.2.1.base x60.2.1.len x60.2.1.cap), (.slice x60.2.2.1.base x60.2.2.1.len x60.2.2.1.cap), (.slice x60.2.2.2.1.base x60.2.2.2.1.len x60.2.2.2.1.cap)])) (fun w62 =>
  ∃ r63 : (Sl × Sl × Sl × Sl × Unit), (loadVar 49 t4).run Tryz.prog w62 = .ok (.agg #[(.slice r63.1.base r63.1.len r63.1.cap), (.slice r63.2.1.base r63.2.1.len r63.2.1.cap), (.slice r63.2.2.1.base r63.2.2.1.len r63.2.2.1.cap), (.slice r63.2.2.2.1.base r63.2.2.2.1.len r63.2.2.2.1.cap)]) w62 ∧ R (.returned (.tuple #[(.agg #[(.slice r63.1.base r63.1.len r63.1.cap), (.slice r63.2.1.base r63.2.1.len r63.2.1.cap), (.slice r63.2.2.1.base r63.2.2.1.len r63.2.2.1.cap), (.slice r63.2.2.2.1.base r63.2.2.2.1.len r63.2.2.2.1.cap)]), (.int .i64 0)])) w62) w61) w59) w56)) w54) w52) w48))) w46) w44) w42) w40) w38) w36) w28.drew))) w26) w24) w)
def mcode_Codec_Plan.j1 (R : Ending → World → Prop)  (c_0 : (Option Addr)) (missing_1 : Sl) (t4 : Addr) (present_6 : Sl) (e_7 : Int) (w : World) : Prop :=
  Cd (e_7 != 0) (Wu Tryz.prog (Instr.storeAt 49 (.pointer (some t4)) (.agg #[(.slice none 0 0), (.slice none 0 0), (.slice none 0 0), (.slice none 0 0)])) (fun w17 =>
  ∃ r18 : (Sl × Sl × Sl × Sl × Unit), (loadVar 49 t4).run Tryz.prog w17 = .ok (.agg #[(.slice r18.1.base r18.1.len r18.1.cap), (.slice r18.2.1.base r18.2.1.len r18.2.1.cap), (.slice r18.2.2.1.base r18.2.2.1.len r18.2.2.1.cap), (.slice r18.2.2.2.1.base r18.2.2.2.1.len r18.2.2.2.1.cap)]) w17 ∧ R (.returned (.tuple #[(.agg #[(.slice r18.1.base r18.1.len r18.1.cap), (.slice r18.2.1.base r18.2.1.len r18.2.1.cap), (.slice r18.2.2.1.base r18.2.2.1.len r18.2.2.1.cap), (.slice r18.2.2.2.1.base r18.2.2.2.1.len r18.2.2.2.1.cap)]), (.int .i64 e_7)])) w17) w) (Held w.drew (fun S64 => Pu Tryz.prog (nilCk c_0) (.one (.at .addr)) (fun (x65 : Addr) w66 =>
  RdS Tryz.prog S64 (Instr.loadAt 3 (.pointer (some (Addr.add x65 1)))) (.one (.at (.int .i64))) (fun (x67 : Int) w68 =>
  Pu Tryz.prog (nilCk c_0) (.one (.at .addr)) (fun (x69 : Addr) w70 =>
  RdS Tryz.prog S64 (Instr.loadAt 3 (.pointer (some (Addr.add x69 1)))) (.one (.at (.int .i64))) (fun (x71 : Int) w72 =>
  Pu Tryz.prog (Instr.sliceAt 25 (.slice present_6.base present_6.len present_6.cap) none (some (.int .i64 x67)) (some (.int .i64 x71))) (.one (.at .sl)) (fun (x73 : Sl) w74 =>
  (Wr Tryz.prog (Builtin.append_ #[25, 25] 25 #[(.slice none 0 0), (.slice missing_1.base missing_1.len missing_1.cap)]) (.one (.at .sl)) (fun (x75 : Sl) w76 =>
  S64 w76 ∧ (Wr Tryz.prog (Instr.alloc 49 true (.tuple #[])) (.one (.at .addr)) (fun (x77 : Addr) w78 =>
  S64 w78 ∧ (Wu Tryz.prog (Instr.storeAt 49 (.pointer (some x77)) (.agg #[(.slice x75.base x75.len x75.cap), (.slice x73.base x73.len x73.cap), (.slice none 0 0), (.slice none 0 0)])) (fun w79 =>
  S64 w79 ∧ (mcode_Codec_Plan.j2 R c_0 missing_1 t4 present_6 x77 w79)) w78)) w76)) w74) ∧ (Wr Tryz.prog (Instr.alloc 49 true (.tuple #[])) (.one (.at .addr)) (fun (x80 : Addr) w81 =>
  S64 w81 ∧ (Wr Tryz.prog (Builtin.append_ #[25, 25] 25 #[(.slice none 0 0), (.slice missing_1.base missing_1.len missing_1.cap)]) (.one (.at .sl)) (fun (x82 : Sl) w83 =>
  S64 w83 ∧ (Wu Tryz.prog (Instr.storeAt 49 (.pointer (some x80)) (.agg #[(.slice x82.base x82.len x82.cap), (.slice x73.base x73.len x73.cap), (.slice none 0 0), (.slice none 0 0)])) (fun w84 =>
  S64 w84 ∧ (mcode_Codec_Plan.j2 R c_0 missing_1 t4 present_6 x80 w84)) w83)) w81)) w74)) w72) w70) w68) w66) w.drew))
def mcode_Codec_Plan.M (R : Ending → World → Prop) (c_0 : (Option Addr)) (missing_1 : Sl) (w : World) : Prop :=
  Wr Tryz.prog (Instr.alloc 49 true (.tuple #[])) (.one (.at .addr)) (fun (x1 : Addr) w2 =>
  Pu Tryz.prog (do eqGuard .eql 26 (.tmp 14) (.const (.pointer none)) (.pointer c_0) (.pointer none); binOp .eql 26 (.pointer c_0) (.pointer none)) (.one (.at .bool)) (fun (x3 : Bool) w4 =>
  Cd x3 (Wu Tryz.prog (Instr.storeAt 49 (.pointer (some x1)) (.agg #[(.slice none 0 0), (.slice none 0 0), (.slice none 0 0), (.slice none 0 0)])) (fun w5 =>
  ∃ r6 : (Sl × Sl × Sl × Sl × Unit), (loadVar 49 x1).run Tryz.prog w5 = .ok (.agg #[(.slice r6.1.base r6.1.len r6.1.cap), (.slice r6.2.1.base r6.2.1.len r6.2.1.cap), (.slice r6.2.2.1.base r6.2.2.1.len r6.2.2.1.cap), (.slice r6.2.2.2.1.base r6.2.2.2.1.len r6.2.2.2.1.cap)]) w5 ∧ R (.returned (.tuple #[(.agg #[(.slice r6.1.base r6.1.len r6.1.cap), (.slice r6.2.1.base r6.2.1.len r6.2.1.cap), (.slice r6.2.2.1.base r6.2.2.1.len r6.2.2.1.cap), (.slice r6.2.2.2.1.base r6.2.2.2.1.len r6.2.2.2.1.cap)]), (.int .i64 1)])) w5) w4) (Cl Tryz.prog 40 #[(.pointer c_0), (.slice missing_1.base missing_1.len missing_1.cap)] (.one (.at .bool)) (fun (x7 : Bool) w8 =>
  Cd (!x7) (Wu Tryz.prog (Instr.storeAt 49 (.pointer (some x1)) (.agg #[(.slice none 0 0), (.slice none 0 0), (.slice none 0 0), (.slice none 0 0)])) (fun w9 =>
  ∃ r10 : (Sl × Sl × Sl × Sl × Unit), (loadVar 49 x1).run Tryz.prog w9 = .ok (.agg #[(.slice r10.1.base r10.1.len r10.1.cap), (.slice r10.2.1.base r10.2.1.len r10.2.1.cap), (.slice r10.2.2.1.base r10.2.2.1.len r10.2.2.1.cap), (.slice r10.2.2.2.1.base r10.2.2.2.1.len r10.2.2.2.1.cap)]) w9 ∧ R (.returned (.tuple #[(.agg #[(.slice r10.1.base r10.1.len r10.1.cap), (.slice r10.2.1.base r10.2.1.len r10.2.1.cap), (.slice r10.2.2.1.base r10.2.2.1.len r10.2.2.1.cap), (.slice r10.2.2.2.1.base r10.2.2.2.1.len r10.2.2.2.1.cap)]), (.int .i64 110)])) w9) w8) (Pu Tryz.prog (nilCk c_0) (.one (.at .addr)) (fun (x11 : Addr) w12 =>
  Rd Tryz.prog (Instr.loadAt 3 (.pointer (some (Addr.add x11 2)))) (.one (.at (.int .i64))) (fun (x13 : Int) w14 =>
  Cd (decide (((missing_1.len : Nat) : Int) > x13)) (Wu Tryz.prog (Instr.storeAt 49 (.pointer (some x1)) (.agg #[(.slice none 0 0), (.slice none 0 0), (.slice none 0 0), (.slice none 0 0)])) (fun w15 =>
  ∃ r16 : (Sl × Sl × Sl × Sl × Unit), (loadVar 49 x1).run Tryz.prog w15 = .ok (.agg #[(.slice r16.1.base r16.1.len r16.1.cap), (.slice r16.2.1.base r16.2.1.len r16.2.1.cap), (.slice r16.2.2.1.base r16.2.2.1.len r16.2.2.1.cap), (.slice r16.2.2.2.1.base r16.2.2.2.1.len r16.2.2.2.1.cap)]) w15 ∧ R (.returned (.tuple #[(.agg #[(.slice r16.1.base r16.1.len r16.1.cap), (.slice r16.2.1.base r16.2.1.len r16.2.1.cap), (.slice r16.2.2.1.base r16.2.2.1.len r16.2.2.1.cap), (.slice r16.2.2.2.1.base r16.2.2.2.1.len r16.2.2.2.1.cap)]), (.int .i64 9)])) w15) w14) (Held w14.drew (fun S85 => Pu Tryz.prog (nilCk c_0) (.one (.at .addr)) (fun (x86 : Addr) w87 =>
  RdS Tryz.prog S85 (Instr.loadAt 3 (.pointer (some (Addr.add x86 1)))) (.one (.at (.int .i64))) (fun (x88 : Int) w89 =>
  Pu Tryz.prog (nilCk c_0) (.one (.at .addr)) (fun (x90 : Addr) w91 =>
  RdS Tryz.prog S85 (Instr.loadAt 3 (.pointer (some (Addr.add x90 2)))) (.one (.at (.int .i64))) (fun (x92 : Int) w93 =>
  Cl Tryz.prog 41 #[(.int .i64 (IntKind.wrap .i64 (x88 + x92))), (.slice missing_1.base missing_1.len missing_1.cap)] (.tup [.at .sl, .at (.int .i64)]) (fun x94 w95 =>
  S85 w95 ∧ (mcode_Codec_Plan.j1 R c_0 missing_1 x1 x94.1 x94.2.1 w95)) w93) w91) w89) w87) w14.drew))) w12) w8)) w4)) w2) w
noncomputable def mcode_Codec_Plan.ann (R : Ending → World → Prop) : Ann :=
  .seq (.reg (.op 0 (.wr (.one (.at .addr))) (.op 1 .now (.done)))) (.seq (.block (.seq (.reg (.op 0 .now (.op 1 (.pu (.one (.at .bool))) (.op 2 .now (.done))))) (.cond (.seq (.reg (.op 0 .now (.op 1 .wu (.op 2 .now (.done))))) (.leaf)) (.seq (.reg (.op 0 .now (.op 1 .now (.op 2 (.cl (.one (.at .bool))) (.op 3 .now (.op 4 .now (.done))))))) (.cond (.seq (.reg (.op 0 .now (.op 1 .wu (.op 2 .now (.done))))) (.leaf)) (.seq (.reg (.op 0 .now (.op 1 .now (.op 2 .now (.op 3 qpA (.op 4 .now (.op 5 (.rd (.one qcI)) (.op 6 .now (.op 7 .now (.done)))))))))) (.cond (.seq (.reg (.op 0 .now (.op 1 .wu (.op 2 .now (.done))))) (.leaf)) (.leaf)))))))) (.join [(0, qcP), (1, qcS), (4, .at .addr), (6, qcS), (7, qcI)] (fun s w => mcode_Codec_Plan.j1 R s.1 s.2.1 s.2.2.1 s.2.2.2.1 s.2.2.2.2.1 w) (.regD (.op 0 .now (.op 1 qpA (.op 2 .now (.op 3 (.rd (.one qcI)) (.op 4 .now (.op 5 qpA (.op 6 .now (.op 7 (.rd (.one qcI)) (.op 8 .now (.op 9 .now (.op 10 (.cl (.tup [.at .sl, .at (.int .i64)])) (.op 11 .now (.op 12 .now (.op 13 .now (.op 14 .now (.op 15 .now (.done)))))))))))))))))) (.seq (.seq (.reg qN2) (.cond (.seq (.reg (.op 0 .now (.op 1 .now (.op 2 .wu (.op 3 .now (.done)))))) (.leaf)) (.leaf))) (.join [(0, qcP), (1, qcS), (4, .at .addr), (6, qcS), (8, .at .addr)] (fun s w => mcode_Codec_Plan.j2 R s.1 s.2.1 s.2.2.1 s.2.2.2.1 s.2.2.2.2.1 w) (.regD (.op 0 .now (.op 2 .now (.op 3 .now (.op 4 qpA (.op 5 .now (.op 6 (.rd (.one qcI)) (.op 7 .now (.op 8 qpA (.op 9 .now (.op 10 (.rd (.one qcI)) (.op 11 (.pu (.one qcS)) (.fork2 1 (.wr (.one qcS)) (.op 12 .now (.op 13 (.wr (.one (.at .addr))) (.op 14 .wu (.done)))) 13 (.wr (.one (.at .addr))) (.op 1 (.wr (.one qcS)) (.op 12 .now (.op 14 .wu (.done))))))))))))))))) (.seq (.seq (.reg qN3) (.cond (.seq (.reg (.op 0 (.rd (.one (.agg [.sl, .sl, .sl, .sl]))) (.op 1 .wu (.op 2 .now (.done))))) (.leaf)) (.leaf))) (.seq (.seq (.reg (.op 0 .now (.op 1 qpA (.op 2 .now (.op 3 (.rd (.one qcP)) (.op 4 .now (.op 5 (.cl (.tup [.at .sl, .at .bool])) (.op 6 .now (.op 7 .now (.op 8 .now (.op 9 .now (.op 10 .now (.done))))))))))))) (.seq (.reg qN1) (.cond (.seq (.reg (.op 0 .now (.op 1 .now (.op 2 .wu (.done))))) (.seq (.reg (.op 0 (.rd (.one (.agg [.sl, .sl, .sl, .sl]))) (.op 1 .wu (.op 2 .now (.done))))) (.leaf))) (.leaf)))) (.seq (.regD (.op 0 .now (.op 1 qpA (.op 2 .now (.op 3 (.rd (.one qcI)) (.op 4 .now (.op 5 qpA (.op 6 .now (.op 7 (.rd (.one qcI)) (.op 8 .now (.op 9 qpA (.op 10 .now (.op 11 (.rd (.one qcI)) (.op 12 .now (.op 13 .now (.op 14 (.cl (.tup [.at .sl, .at (.int .i64)])) (.op 15 .now (.op 16 .now (.op 17 .now (.op 18 .now (.op 19 .now (.done)))))))))))))))))))))) (.seq (.seq (.reg qN2) (.cond (.seq (.reg (.op 0 .now (.op 1 .now (.op 2 .wu (.op 3 .now (.done)))))) (.leaf)) (.leaf))) (.seq (.seq (.reg (.op 0 .now (.op 1 qpA (.op 2 .now (.op 3 (.rd (.one qcP)) (.op 4 .now (.op 5 .now (.op 6 (.cl (.one qcI)) (.op 7 .now (.done)))))))))) (.seq (.reg qN2) (.cond (.seq (.reg (.op 0 .now (.op 1 .now (.op 2 .wu (.op 3 .now (.done)))))) (.leaf)) (.leaf)))) (.seq (.reg (.op 0 .now (.op 1 .now (.op 2 .wu (.done))))) (.seq (.reg (.op 0 (.rd (.one (.agg [.sl, .sl, .sl, .sl]))) (.op 1 .wu (.op 2 .now (.done))))) (.leaf))))))))))))
theorem mcode_Codec_Plan.run (R : Ending → World → Prop) (c_0 : (Option Addr)) (missing_1 : Sl) (w : World) (h : mcode_Codec_Plan.M R c_0 missing_1 w) : Calls Tryz.prog 22 #[(.pointer c_0), (.slice missing_1.base missing_1.len missing_1.cap)] w R := by
  refine calls_of_lift mix_eqc Tryz.func22 (c := mcode_Codec_Plan.body) (by kernel_rfl) [.agg [.sl, .sl, .sl, .sl], .at (.int .i64)] (mcode_Codec_Plan.ann R) 116 Tryz.ntmps22 [.cell 4 49, .tmp 5] (by kernel_rfl) (Nat.le_of_ble_eq_true (by kernel_rfl)) ?_ ?_
  · exact ⟨trivial, ⟨⟨trivial, ⟨⟨trivial, trivial⟩, ⟨trivial, ⟨⟨trivial, trivial⟩, ⟨trivial, ⟨⟨trivial, trivial⟩, trivial⟩⟩⟩⟩⟩⟩, ⟨fun s w h => Eq.mp (by kernel_rfl) h, (show Region.noSelect _ = true by kernel_rfl), ⟨⟨trivial, ⟨⟨trivial, trivial⟩, trivial⟩⟩, ⟨fun s w h => Eq.mp (by kernel_rfl) h, (show Region.noSelect _ = true by kernel_rfl), ⟨⟨trivial, ⟨⟨trivial, trivial⟩, trivial⟩⟩, ⟨⟨trivial, ⟨trivial, ⟨⟨trivial, ⟨trivial, trivial⟩⟩, trivial⟩⟩⟩, ⟨(show Region.noSelect _ = true by kernel_rfl), ⟨⟨trivial, ⟨⟨trivial, trivial⟩, trivial⟩⟩, ⟨⟨trivial, ⟨trivial, ⟨⟨trivial, trivial⟩, trivial⟩⟩⟩, ⟨trivial, ⟨trivial, trivial⟩⟩⟩⟩⟩⟩⟩⟩⟩⟩⟩⟩
  · exact Eq.mp (show mcode_Codec_Plan.M R c_0 missing_1 w = _ by kernel_rfl) h
noncomputable def mcode_Codec_EncodeSpan.body : Code := (Tryz.f28.body).getD .skip
def mcode_Codec_EncodeSpan.j1 (R : Ending → World → Prop)  (c_0 : (Option Addr)) (shards_1 : Sl) (span_5 : Addr) (e_8 : Int) (w : World) : Prop :=
  Cd (e_8 != 0) (R (.returned (.int .i64 e_8)) w) (Held w.drew (fun S5 => Pu Tryz.prog (nilCk c_0) (.one (.at .addr)) (fun (x6 : Addr) w7 =>
  RdS Tryz.prog S5 (Instr.loadAt 75 (.pointer (some (Addr.add x6 3)))) (.one (.at .ptr)) (fun (x8 : (Option Addr)) w9 =>
  Pu Tryz.prog (nilCk c_0) (.one (.at .addr)) (fun (x10 : Addr) w11 =>
  RdS Tryz.prog S5 (Instr.loadAt 30 (.pointer (some (Addr.add x10 4)))) (.one (.at .sl)) (fun (x12 : Sl) w13 =>
  Pu Tryz.prog (nilCk c_0) (.one (.at .addr)) (fun (x14 : Addr) w15 =>
  RdS Tryz.prog S5 (Instr.loadAt 3 (.pointer (some (Addr.add x14 1)))) (.one (.at (.int .i64))) (fun (x16 : Int) w17 =>
  Pu Tryz.prog (Instr.sliceAt 30 (.slice shards_1.base shards_1.len shards_1.cap) none (some (.int .i64 x16)) none) (.one (.at .sl)) (fun (x18 : Sl) w19 =>
  Pu Tryz.prog (nilCk c_0) (.one (.at .addr)) (fun (x20 : Addr) w21 =>
  RdS Tryz.prog S5 (Instr.loadAt 3 (.pointer (some (Addr.add x20 1)))) (.one (.at (.int .i64))) (fun (x22 : Int) w23 =>
  Pu Tryz.prog (Instr.sliceAt 30 (.slice shards_1.base shards_1.len shards_1.cap) (some (.int .i64 x22)) none none) (.one (.at .sl)) (fun (x24 : Sl) w25 =>
  RdS Tryz.prog S5 (Instr.loadAt 41 (.pointer (some span_5))) (.one (.agg [.int .i64, .int .i64])) (fun x26 w27 =>
  Cl Tryz.prog 45 #[(.pointer x8), (.slice x12.base x12.len x12.cap), (.slice x18.base x18.len x18.cap), (.slice x24.base x24.len x24.cap), (.agg #[(.int .i64 x26.1), (.int .i64 x26.2.1)])] (.one (.at (.int .i64))) (fun (x28 : Int) w29 =>
  S5 w29 ∧ (R (.returned (.int .i64 x28)) w29)) w27) w25) w23) w21) w19) w17) w15) w13) w11) w9) w7) w.drew))
def mcode_Codec_EncodeSpan.M (R : Ending → World → Prop) (c_0 : (Option Addr)) (shards_1 : Sl) (span_2 : (Int × Int × Unit)) (w : World) : Prop :=
  Wr Tryz.prog (Instr.box 41 (.agg #[(.int .i64 span_2.1), (.int .i64 span_2.2.1)])) (.one (.at .addr)) (fun (x1 : Addr) w2 =>
  Cl Tryz.prog 34 #[(.pointer c_0), (.slice shards_1.base shards_1.len shards_1.cap)] (.tup [.at (.int .i64), .at (.int .i64)]) (fun x3 w4 =>
  Cd (x3.2.1 == 0) (Rd Tryz.prog (Instr.loadAt 41 (.pointer (some x1))) (.one (.agg [.int .i64, .int .i64])) (fun x30 w31 =>
  Cl Tryz.prog 35 #[(.agg #[(.int .i64 x30.1), (.int .i64 x30.2.1)]), (.int .i64 x3.1)] (.one (.at (.int .i64))) (fun (x32 : Int) w33 =>
  mcode_Codec_EncodeSpan.j1 R c_0 shards_1 x1 x32 w33) w31) w4) (mcode_Codec_EncodeSpan.j1 R c_0 shards_1 x1 x3.2.1 w4)) w2) w
noncomputable def mcode_Codec_EncodeSpan.ann (R : Ending → World → Prop) : Ann :=
  .seq (.reg (.op 0 (.wr (.one (.at .addr))) (.op 1 .now (.done)))) (.seq (.reg (.op 0 .now (.op 1 .now (.op 2 (.cl (.tup [.at (.int .i64), .at (.int .i64)])) (.op 3 .now (.op 4 .now (.op 5 .now (.op 6 .now (.op 7 .now (.done)))))))))) (.join [(0, qcP), (1, qcS), (5, .at .addr), (8, qcI)] (fun s w => mcode_Codec_EncodeSpan.j1 R s.1 s.2.1 s.2.2.1 s.2.2.2.1 w) (.seq (.reg qN2) (.cond (.reg (.op 0 (.rd (.one (.agg [.int .i64, .int .i64]))) (.op 1 .now (.op 2 (.cl (.one qcI)) (.op 3 .now (.done)))))) (.leaf))) (.seq (.seq (.reg qN2) (.cond (.seq (.reg qN2) (.leaf)) (.leaf))) (.seq (.regD (.op 0 .now (.op 1 qpA (.op 2 .now (.op 3 (.rd (.one qcP)) (.op 4 .now (.op 5 qpA (.op 6 .now (.op 7 qrS (.op 8 .now (.op 9 .now (.op 10 qpA (.op 11 .now (.op 12 (.rd (.one qcI)) (.op 13 (.pu (.one qcS)) (.op 14 .now (.op 15 .now (.op 16 qpA (.op 17 .now (.op 18 (.rd (.one qcI)) (.op 19 (.pu (.one qcS)) (.op 20 (.rd (.one (.agg [.int .i64, .int .i64]))) (.op 21 (.cl (.one qcI)) (.op 22 .now (.done))))))))))))))))))))))))) (.leaf)))))
theorem mcode_Codec_EncodeSpan.run (R : Ending → World → Prop) (c_0 : (Option Addr)) (shards_1 : Sl) (span_2 : (Int × Int × Unit)) (w : World) (h : mcode_Codec_EncodeSpan.M R c_0 shards_1 span_2 w) : Calls Tryz.prog 28 #[(.pointer c_0), (.slice shards_1.base shards_1.len shards_1.cap), (.agg #[(.int .i64 span_2.1), (.int .i64 span_2.2.1)])] w R := by
  refine calls_of_lift mix_eqc Tryz.func28 (c := mcode_Codec_EncodeSpan.body) (by kernel_rfl) [.at (.int .i64)] (mcode_Codec_EncodeSpan.ann R) 45 Tryz.ntmps28 [.tmp 6] (by kernel_rfl) (Nat.le_of_ble_eq_true (by kernel_rfl)) ?_ ?_
  · exact ⟨trivial, ⟨trivial, ⟨fun s w h => Eq.mp (by kernel_rfl) h, ⟨trivial, ⟨trivial, trivial⟩⟩, ⟨⟨trivial, ⟨⟨trivial, trivial⟩, trivial⟩⟩, ⟨(show Region.noSelect _ = true by kernel_rfl), trivial⟩⟩⟩⟩⟩
  · exact Eq.mp (show mcode_Codec_EncodeSpan.M R c_0 shards_1 span_2 w = _ by kernel_rfl) h
noncomputable def mcode_Codec_UpdateSpan.body : Code := (Tryz.f29.body).getD .skip
def mcode_Codec_UpdateSpan.b2 (R : Ending → World → Prop) (k1 : ((Option Addr) × Sl × Sl × Addr × Sl × Sl × Int × Int × Unit) → World → Prop) (k2 : ((Option Addr) × Sl × Sl × Addr × Sl × Int × Sl × Sl × Int × Int × Int × Int × Unit) → World → Prop) (c_0 : (Option Addr)) (shards_1 : Sl) (fresh_2 : Sl) (span_7 : Addr) (column_12 : Sl) (i_14 : Int) (diff_15 : Sl) (t53 : Sl) (t54 : Int) (t55 : Int) (t74 : Int) (t75 : Int) (w : World) : Prop :=
  Cd (decide (t75 < t74)) (Pu Tryz.prog (nilCk c_0) (.one (.at .addr)) (fun (x27 : Addr) w28 =>
  Rd Tryz.prog (Instr.loadAt 30 (.pointer (some (Addr.add x27 4)))) (.one (.at .sl)) (fun (x29 : Sl) w30 =>
  Pu Tryz.prog (Instr.indexAt 30 (.slice x29.base x29.len x29.cap) (.int .i64 t75)) (.one (.at .addr)) (fun (x31 : Addr) w32 =>
  Rd Tryz.prog (Instr.loadAt 24 (.pointer (some x31))) (.one (.at .sl)) (fun (x33 : Sl) w34 =>
  Pu Tryz.prog (Instr.indexAt 24 (.slice x33.base x33.len x33.cap) (.int .i64 i_14)) (.one (.at .addr)) (fun (x35 : Addr) w36 =>
  Rd Tryz.prog (Instr.loadAt 5 (.pointer (some x35))) (.one (.at (.int .u8))) (fun (x37 : Int) w38 =>
  Pu Tryz.prog (Instr.indexAt 24 (.slice column_12.base column_12.len column_12.cap) (.int .i64 t75)) (.one (.at .addr)) (fun (x39 : Addr) w40 =>
  Wu Tryz.prog (Instr.storeAt 5 (.pointer (some x39)) (.int .u8 x37)) (fun w41 =>
  k2 (c_0, shards_1, fresh_2, span_7, column_12, i_14, diff_15, t53, t54, t55, t74, (IntKind.wrap .i64 (t75 + 1)), ()) w41) w40) w38) w36) w34) w32) w30) w28) w) (Held w.drew (fun S42 => Pu Tryz.prog (nilCk c_0) (.one (.at .addr)) (fun (x43 : Addr) w44 =>
  RdS Tryz.prog S42 (Instr.loadAt 75 (.pointer (some (Addr.add x43 3)))) (.one (.at .ptr)) (fun (x45 : (Option Addr)) w46 =>
  Pu Tryz.prog (nilCk c_0) (.one (.at .addr)) (fun (x47 : Addr) w48 =>
  RdS Tryz.prog S42 (Instr.loadAt 3 (.pointer (some (Addr.add x47 1)))) (.one (.at (.int .i64))) (fun (x49 : Int) w50 =>
  Pu Tryz.prog (Instr.sliceAt 30 (.slice shards_1.base shards_1.len shards_1.cap) (some (.int .i64 x49)) none none) (.one (.at .sl)) (fun (x51 : Sl) w52 =>
  RdS Tryz.prog S42 (Instr.loadAt 41 (.pointer (some span_7))) (.one (.agg [.int .i64, .int .i64])) (fun x53 w54 =>
  Cl Tryz.prog 47 #[(.pointer x45), (.slice column_12.base column_12.len column_12.cap), (.slice diff_15.base diff_15.len diff_15.cap), (.slice x51.base x51.len x51.cap), (.agg #[(.int .i64 x53.1), (.int .i64 x53.2.1)])] (.one (.at (.int .i64))) (fun (x55 : Int) w56 =>
  S42 w56 ∧ (Cd (x55 != 0) (R (.returned (.int .i64 x55)) w56) (k1 (c_0, shards_1, fresh_2, span_7, column_12, t53, t54, (IntKind.wrap .i64 (t55 + 1)), ()) w56))) w54) w52) w50) w48) w46) w44) w.drew))
def mcode_Codec_UpdateSpan.l2 (R : Ending → World → Prop) (k1 : ((Option Addr) × Sl × Sl × Addr × Sl × Sl × Int × Int × Unit) → World → Prop) : ((Option Addr) × Sl × Sl × Addr × Sl × Int × Sl × Sl × Int × Int × Int × Int × Unit) → World → Prop := loopW (fun k2 s w => mcode_Codec_UpdateSpan.b2 R k1 k2 s.1 s.2.1 s.2.2.1 s.2.2.2.1 s.2.2.2.2.1 s.2.2.2.2.2.1 s.2.2.2.2.2.2.1 s.2.2.2.2.2.2.2.1 s.2.2.2.2.2.2.2.2.1 s.2.2.2.2.2.2.2.2.2.1 s.2.2.2.2.2.2.2.2.2.2.1 s.2.2.2.2.2.2.2.2.2.2.2.1 w)
def mcode_Codec_UpdateSpan.b1 (R : Ending → World → Prop) (k1 : ((Option Addr) × Sl × Sl × Addr × Sl × Sl × Int × Int × Unit) → World → Prop) (c_0 : (Option Addr)) (shards_1 : Sl) (fresh_2 : Sl) (span_7 : Addr) (column_12 : Sl) (t53 : Sl) (t54 : Int) (t55 : Int) (w : World) : Prop :=
  Cd (decide (t55 < t54)) (Pu Tryz.prog (Instr.indexAt 25 (.slice t53.base t53.len t53.cap) (.int .i64 t55)) (.one (.at .addr)) (fun (x11 : Addr) w12 =>
  Rd Tryz.prog (Instr.loadAt 3 (.pointer (some x11))) (.one (.at (.int .i64))) (fun (x13 : Int) w14 =>
  Pu Tryz.prog (Instr.indexAt 30 (.slice shards_1.base shards_1.len shards_1.cap) (.int .i64 x13)) (.one (.at .addr)) (fun (x15 : Addr) w16 =>
  Rd Tryz.prog (Instr.loadAt 24 (.pointer (some x15))) (.one (.at .sl)) (fun (x17 : Sl) w18 =>
  Wr Tryz.prog (Builtin.append_ #[24, 24] 24 #[(.slice none 0 0), (.slice x17.base x17.len x17.cap)]) (.one (.at .sl)) (fun (x19 : Sl) w20 =>
  Pu Tryz.prog (Instr.indexAt 30 (.slice fresh_2.base fresh_2.len fresh_2.cap) (.int .i64 x13)) (.one (.at .addr)) (fun (x21 : Addr) w22 =>
  Rd Tryz.prog (Instr.loadAt 24 (.pointer (some x21))) (.one (.at .sl)) (fun (x23 : Sl) w24 =>
  Cl Tryz.prog 46 #[(.slice x19.base x19.len x19.cap), (.slice x23.base x23.len x23.cap)] (.one (.at (.int .i64))) (fun (x25 : Int) w26 =>
  Cd (x25 != 0) (R (.returned (.int .i64 x25)) w26) (mcode_Codec_UpdateSpan.l2 R k1 (c_0, shards_1, fresh_2, span_7, column_12, x13, x19, t53, t54, t55, ((column_12.len : Nat) : Int), 0, ()) w26)) w24) w22) w20) w18) w16) w14) w12) w) (R (.returned (.int .i64 0)) w)
def mcode_Codec_UpdateSpan.l1 (R : Ending → World → Prop) : ((Option Addr) × Sl × Sl × Addr × Sl × Sl × Int × Int × Unit) → World → Prop := loopW (fun k1 s w => mcode_Codec_UpdateSpan.b1 R k1 s.1 s.2.1 s.2.2.1 s.2.2.2.1 s.2.2.2.2.1 s.2.2.2.2.2.1 s.2.2.2.2.2.2.1 s.2.2.2.2.2.2.2.1 w)
def mcode_Codec_UpdateSpan.j2 (R : Ending → World → Prop)  (c_0 : (Option Addr)) (shards_1 : Sl) (fresh_2 : Sl) (span_7 : Addr) (changed_10 : Sl) (e_11 : Int) (w : World) : Prop :=
  Cd (e_11 != 0) (R (.returned (.int .i64 e_11)) w) (Pu Tryz.prog (nilCk c_0) (.one (.at .addr)) (fun (x5 : Addr) w6 =>
  Rd Tryz.prog (Instr.loadAt 3 (.pointer (some (Addr.add x5 2)))) (.one (.at (.int .i64))) (fun (x7 : Int) w8 =>
  Wr Tryz.prog (Instr.makeSlice 24 (.int .i64 x7) (.int .i64 x7)) (.one (.at .sl)) (fun (x9 : Sl) w10 =>
  mcode_Codec_UpdateSpan.l1 R (c_0, shards_1, fresh_2, span_7, x9, changed_10, ((changed_10.len : Nat) : Int), 0, ()) w10) w8) w6) w)
def mcode_Codec_UpdateSpan.j1 (R : Ending → World → Prop)  (c_0 : (Option Addr)) (shards_1 : Sl) (fresh_2 : Sl) (span_7 : Addr) (n_9 : Int) (changed_10 : Sl) (e_11 : Int) (w : World) : Prop :=
  Cd (e_11 == 0) (Rd Tryz.prog (Instr.loadAt 41 (.pointer (some span_7))) (.one (.agg [.int .i64, .int .i64])) (fun x57 w58 =>
  Cl Tryz.prog 35 #[(.agg #[(.int .i64 x57.1), (.int .i64 x57.2.1)]), (.int .i64 n_9)] (.one (.at (.int .i64))) (fun (x59 : Int) w60 =>
  mcode_Codec_UpdateSpan.j2 R c_0 shards_1 fresh_2 span_7 changed_10 x59 w60) w58) w) (mcode_Codec_UpdateSpan.j2 R c_0 shards_1 fresh_2 span_7 changed_10 e_11 w)
def mcode_Codec_UpdateSpan.M (R : Ending → World → Prop) (c_0 : (Option Addr)) (shards_1 : Sl) (fresh_2 : Sl) (span_3 : (Int × Int × Unit)) (w : World) : Prop :=
  Wr Tryz.prog (Instr.box 41 (.agg #[(.int .i64 span_3.1), (.int .i64 span_3.2.1)])) (.one (.at .addr)) (fun (x1 : Addr) w2 =>
  Pu Tryz.prog (do eqGuard .eql 26 (.tmp 19) (.const (.pointer none)) (.pointer c_0) (.pointer none); binOp .eql 26 (.pointer c_0) (.pointer none)) (.one (.at .bool)) (fun (x3 : Bool) w4 =>
  Cd x3 (R (.returned (.int .i64 1)) w4) (Held w4.drew (fun S61 => Pu Tryz.prog (nilCk c_0) (.one (.at .addr)) (fun (x62 : Addr) w63 =>
  RdS Tryz.prog S61 (Instr.loadAt 69 (.pointer (some x62))) (.one (.at (.int .i64))) (fun (x64 : Int) w65 =>
  Pu Tryz.prog (nilCk c_0) (.one (.at .addr)) (fun (x66 : Addr) w67 =>
  RdS Tryz.prog S61 (Instr.loadAt 3 (.pointer (some (Addr.add x66 1)))) (.one (.at (.int .i64))) (fun (x68 : Int) w69 =>
  Pu Tryz.prog (nilCk c_0) (.one (.at .addr)) (fun (x70 : Addr) w71 =>
  RdS Tryz.prog S61 (Instr.loadAt 3 (.pointer (some (Addr.add x70 2)))) (.one (.at (.int .i64))) (fun (x72 : Int) w73 =>
  Cl Tryz.prog 37 #[(.int .i64 x64), (.int .i64 x68), (.int .i64 x72), (.slice shards_1.base shards_1.len shards_1.cap), (.slice fresh_2.base fresh_2.len fresh_2.cap)] (.tup [.at (.int .i64), .at .sl, .at (.int .i64)]) (fun x74 w75 =>
  S61 w75 ∧ (mcode_Codec_UpdateSpan.j1 R c_0 shards_1 fresh_2 x1 x74.1 x74.2.1 x74.2.2.1 w75)) w73) w71) w69) w67) w65) w63) w4.drew))) w2) w
noncomputable def mcode_Codec_UpdateSpan.ann (R : Ending → World → Prop) : Ann :=
  .seq (.reg (.op 0 (.wr (.one (.at .addr))) (.op 1 .now (.done)))) (.seq (.seq (.reg (.op 0 .now (.op 1 (.pu (.one (.at .bool))) (.done)))) (.cond (.seq (.reg qN1) (.leaf)) (.leaf))) (.join [(0, qcP), (1, qcS), (2, qcS), (7, .at .addr), (9, qcI), (10, qcS), (11, qcI)] (fun s w => mcode_Codec_UpdateSpan.j1 R s.1 s.2.1 s.2.2.1 s.2.2.2.1 s.2.2.2.2.1 s.2.2.2.2.2.1 s.2.2.2.2.2.2.1 w) (.regD (.op 0 .now (.op 1 qpA (.op 2 .now (.op 3 (.rd (.one qcI)) (.op 4 .now (.op 5 qpA (.op 6 .now (.op 7 (.rd (.one qcI)) (.op 8 .now (.op 9 qpA (.op 10 .now (.op 11 (.rd (.one qcI)) (.op 12 .now (.op 13 .now (.op 14 (.cl (.tup [.at (.int .i64), .at .sl, .at (.int .i64)])) (.op 15 .now (.op 16 .now (.op 17 .now (.op 18 .now (.op 19 .now (.op 20 .now (.op 21 .now (.done)))))))))))))))))))))))) (.join [(0, qcP), (1, qcS), (2, qcS), (7, .at .addr), (10, qcS), (11, qcI)] (fun s w => mcode_Codec_UpdateSpan.j2 R s.1 s.2.1 s.2.2.1 s.2.2.2.1 s.2.2.2.2.1 s.2.2.2.2.2.1 w) (.seq (.reg qN2) (.cond (.reg (.op 0 (.rd (.one (.agg [.int .i64, .int .i64]))) (.op 1 .now (.op 2 (.cl (.one qcI)) (.op 3 .now (.done)))))) (.leaf))) (.seq (.seq (.reg qN2) (.cond (.seq (.reg qN2) (.leaf)) (.leaf))) (.seq (.reg (.op 0 .now (.op 1 qpA (.op 2 .now (.op 3 (.rd (.one qcI)) (.op 4 (.wr (.one qcS)) (.op 5 .now (.done)))))))) (.seq (.seq (.reg qN3) (.block (.loop [(0, qcP), (1, qcS), (2, qcS), (7, .at .addr), (12, qcS), (53, qcS), (54, qcI), (55, qcI)] (fun k1 s w => mcode_Codec_UpdateSpan.b1 R k1 s.1 s.2.1 s.2.2.1 s.2.2.2.1 s.2.2.2.2.1 s.2.2.2.2.2.1 s.2.2.2.2.2.2.1 s.2.2.2.2.2.2.2.1 w) (fun k1 => .seq (.reg qN1) (.seq (.cond (.leaf) (.leaf)) (.seq (.block (.seq (.reg (.op 0 qpA (.op 1 (.rd (.one qcI)) (.op 2 .now (.done))))) (.seq (.reg (.op 0 .now (.op 1 .now (.op 2 qpA (.op 3 qrS (.op 4 (.wr (.one qcS)) (.op 5 .now (.done)))))))) (.seq (.seq (.reg (.op 0 .now (.op 1 .now (.op 2 .now (.op 3 qpA (.op 4 qrS (.op 5 (.cl (.one qcI)) (.op 6 .now (.done))))))))) (.seq (.reg qN2) (.cond (.seq (.reg qN2) (.leaf)) (.leaf)))) (.seq (.seq (.reg qN3) (.block (.loop [(0, qcP), (1, qcS), (2, qcS), (7, .at .addr), (12, qcS), (14, qcI), (15, qcS), (53, qcS), (54, qcI), (55, qcI), (74, qcI), (75, qcI)] (fun k2 s w => mcode_Codec_UpdateSpan.b2 R k1 k2 s.1 s.2.1 s.2.2.1 s.2.2.2.1 s.2.2.2.2.1 s.2.2.2.2.2.1 s.2.2.2.2.2.2.1 s.2.2.2.2.2.2.2.1 s.2.2.2.2.2.2.2.2.1 s.2.2.2.2.2.2.2.2.2.1 s.2.2.2.2.2.2.2.2.2.2.1 s.2.2.2.2.2.2.2.2.2.2.2.1 w) (fun k2 => .seq (.reg qN1) (.seq (.cond (.leaf) (.leaf)) (.seq (.block (.seq (.reg qN2) (.reg (.op 0 .now (.op 1 .now (.op 2 .now (.op 3 qpA (.op 4 .now (.op 5 qrS (.op 6 .now (.op 7 qpA (.op 8 qrS (.op 9 .now (.op 10 qpA (.op 11 qrB (.op 12 qpA (.op 13 .wu (.done)))))))))))))))))) (.reg qN2))))))) (.seq (.regD (.op 0 .now (.op 1 qpA (.op 2 .now (.op 3 (.rd (.one qcP)) (.op 4 .now (.op 5 .now (.op 6 .now (.op 7 .now (.op 8 qpA (.op 9 .now (.op 10 (.rd (.one qcI)) (.op 11 (.pu (.one qcS)) (.op 12 (.rd (.one (.agg [.int .i64, .int .i64]))) (.op 13 (.cl (.one qcI)) (.op 14 .now (.done))))))))))))))))) (.seq (.reg qN2) (.cond (.seq (.reg qN2) (.leaf)) (.leaf))))))))) (.reg qN2))))))) (.seq (.reg qN1) (.leaf))))))))
theorem mcode_Codec_UpdateSpan.run (R : Ending → World → Prop) (c_0 : (Option Addr)) (shards_1 : Sl) (fresh_2 : Sl) (span_3 : (Int × Int × Unit)) (w : World) (h : mcode_Codec_UpdateSpan.M R c_0 shards_1 fresh_2 span_3 w) : Calls Tryz.prog 29 #[(.pointer c_0), (.slice shards_1.base shards_1.len shards_1.cap), (.slice fresh_2.base fresh_2.len fresh_2.cap), (.agg #[(.int .i64 span_3.1), (.int .i64 span_3.2.1)])] w R := by
  refine calls_of_lift mix_eqc Tryz.func29 (c := mcode_Codec_UpdateSpan.body) (by kernel_rfl) [.at (.int .i64)] (mcode_Codec_UpdateSpan.ann R) 110 Tryz.ntmps29 [.tmp 8] (by kernel_rfl) (Nat.le_of_ble_eq_true (by kernel_rfl)) ?_ ?_
  · exact ⟨trivial, ⟨⟨trivial, ⟨⟨trivial, trivial⟩, trivial⟩⟩, ⟨fun s w h => Eq.mp (by kernel_rfl) h, (show Region.noSelect _ = true by kernel_rfl), ⟨fun s w h => Eq.mp (by kernel_rfl) h, ⟨trivial, ⟨trivial, trivial⟩⟩, ⟨⟨trivial, ⟨⟨trivial, trivial⟩, trivial⟩⟩, ⟨trivial, ⟨⟨trivial, (fun k1 => ⟨fun s w h => Eq.mp (by kernel_rfl) h, ⟨trivial, ⟨⟨trivial, trivial⟩, ⟨⟨trivial, ⟨trivial, ⟨⟨trivial, ⟨trivial, ⟨⟨trivial, trivial⟩, trivial⟩⟩⟩, ⟨⟨trivial, (fun k2 => ⟨fun s w h => Eq.mp (by kernel_rfl) h, ⟨trivial, ⟨⟨trivial, trivial⟩, ⟨⟨trivial, trivial⟩, trivial⟩⟩⟩⟩)⟩, ⟨(show Region.noSelect _ = true by kernel_rfl), ⟨trivial, ⟨⟨trivial, trivial⟩, trivial⟩⟩⟩⟩⟩⟩⟩, trivial⟩⟩⟩⟩)⟩, ⟨trivial, trivial⟩⟩⟩⟩⟩⟩⟩⟩
  · exact Eq.mp (show mcode_Codec_UpdateSpan.M R c_0 shards_1 fresh_2 span_3 w = _ by kernel_rfl) h
noncomputable def mcode_Codec_Cached.body : Code := (Tryz.f33.body).getD .skip
def mcode_Codec_Cached.M (R : Ending → World → Prop) (c_0 : (Option Addr)) (w : World) : Prop :=
  Pu Tryz.prog (do eqGuard .eql 26 (.tmp 3) (.const (.pointer none)) (.pointer c_0) (.pointer none); binOp .eql 26 (.pointer c_0) (.pointer none)) (.one (.at .bool)) (fun (x1 : Bool) w2 =>
  Cd x1 (R (.returned (.int .i64 0)) w2) (Pu Tryz.prog (nilCk c_0) (.one (.at .addr)) (fun (x3 : Addr) w4 =>
  Rd Tryz.prog (Instr.loadAt 76 (.pointer (some (Addr.add x3 5)))) (.one (.at .ptr)) (fun (x5 : (Option Addr)) w6 =>
  Cl Tryz.prog 54 #[(.pointer x5)] (.one (.at (.int .i64))) (fun (x7 : Int) w8 =>
  R (.returned (.int .i64 x7)) w8) w6) w4) w2)) w
noncomputable def mcode_Codec_Cached.ann (R : Ending → World → Prop) : Ann :=
  .seq (.reg qN1) (.seq (.seq (.reg (.op 0 .now (.op 1 (.pu (.one (.at .bool))) (.done)))) (.cond (.seq (.reg qN1) (.leaf)) (.leaf))) (.seq (.reg (.op 0 .now (.op 1 qpA (.op 2 .now (.op 3 (.rd (.one qcP)) (.op 4 (.cl (.one qcI)) (.op 5 .now (.done)))))))) (.leaf)))
theorem mcode_Codec_Cached.run (R : Ending → World → Prop) (c_0 : (Option Addr)) (w : World) (h : mcode_Codec_Cached.M R c_0 w) : Calls Tryz.prog 33 #[(.pointer c_0)] w R := by
  refine calls_of_lift mix_eqc Tryz.func33 (c := mcode_Codec_Cached.body) (by kernel_rfl) [.at (.int .i64)] (mcode_Codec_Cached.ann R) 10 Tryz.ntmps33 [.tmp 2] (by kernel_rfl) (Nat.le_of_ble_eq_true (by kernel_rfl)) ?_ ?_
  · exact ⟨trivial, ⟨⟨trivial, ⟨⟨trivial, trivial⟩, trivial⟩⟩, ⟨trivial, trivial⟩⟩⟩
  · exact Eq.mp (show mcode_Codec_Cached.M R c_0 w = _ by kernel_rfl) h
noncomputable def mcode_Codec_give.body : Code := (Tryz.f39.body).getD .skip
def mcode_Codec_give.j3 (R : Ending → World → Prop)  (k2 : ((Option Addr) × Sl × Bool × Int × Addr × Sl × Sl × Int × Int × Unit) → World → Prop) (c_0 : (Option Addr)) (shards_1 : Sl) (dataAlone_2 : Bool) (n_7 : Int) (p_10 : Addr) (used_11 : Sl) (t76 : Sl) (t77 : Int) (t78 : Int) (w : World) : Prop :=
  k2 (c_0, shards_1, dataAlone_2, n_7, p_10, used_11, t76, t77, (IntKind.wrap .i64 (t78 + 1)), ()) w
def mcode_Codec_give.j4 (R : Ending → World → Prop)  (k2 : ((Option Addr) × Sl × Bool × Int × Addr × Sl × Sl × Int × Int × Unit) → World → Prop) (c_0 : (Option Addr)) (shards_1 : Sl) (dataAlone_2 : Bool) (n_7 : Int) (p_10 : Addr) (used_11 : Sl) (r_14 : Int) (x_15 : Int) (t76 : Sl) (t77 : Int) (t78 : Int) (t91 : Bool) (w : World) : Prop :=
  Cd t91 (mcode_Codec_give.j3 R k2 c_0 shards_1 dataAlone_2 n_7 p_10 used_11 t76 t77 t78 w) (Wr Tryz.prog (Instr.makeSlice 24 (.int .i64 n_7) (.int .i64 n_7)) (.one (.at .sl)) (fun (x31 : Sl) w32 =>
  Held w32.drew (fun S33 => Pu Tryz.prog (nilCk c_0) (.one (.at .addr)) (fun (x34 : Addr) w35 =>
  RdS Tryz.prog S33 (Instr.loadAt 75 (.pointer (some (Addr.add x34 3)))) (.one (.at .ptr)) (fun (x36 : (Option Addr)) w37 =>
  RdS Tryz.prog S33 (Instr.loadAt 30 (.pointer (some (Addr.add p_10 2)))) (.one (.at .sl)) (fun (x38 : Sl) w39 =>
  Pu Tryz.prog (Instr.indexAt 30 (.slice x38.base x38.len x38.cap) (.int .i64 r_14)) (.one (.at .addr)) (fun (x40 : Addr) w41 =>
  RdS Tryz.prog S33 (Instr.loadAt 24 (.pointer (some x40))) (.one (.at .sl)) (fun (x42 : Sl) w43 =>
  Cl Tryz.prog 62 #[(.pointer x36), (.slice x42.base x42.len x42.cap), (.slice used_11.base used_11.len used_11.cap), (.slice x31.base x31.len x31.cap)] (.one (.at (.int .i64))) (fun (x44 : Int) w45 =>
  S33 w45 ∧ (Cd (x44 != 0) (R (.returned (.int .i64 x44)) w45) (Pu Tryz.prog (Instr.indexAt 30 (.slice shards_1.base shards_1.len shards_1.cap) (.int .i64 x_15)) (.one (.at .addr)) (fun (x46 : Addr) w47 =>
  Wu Tryz.prog (Instr.storeAt 24 (.pointer (some x46)) (.slice x31.base x31.len x31.cap)) (fun w48 =>
  mcode_Codec_give.j3 R k2 c_0 shards_1 dataAlone_2 n_7 p_10 used_11 t76 t77 t78 w48) w47) w45))) w43) w41) w39) w37) w35) w32.drew)) w)
def mcode_Codec_give.b2 (R : Ending → World → Prop) (k2 : ((Option Addr) × Sl × Bool × Int × Addr × Sl × Sl × Int × Int × Unit) → World → Prop) (c_0 : (Option Addr)) (shards_1 : Sl) (dataAlone_2 : Bool) (n_7 : Int) (p_10 : Addr) (used_11 : Sl) (t76 : Sl) (t77 : Int) (t78 : Int) (w : World) : Prop :=
  Cd (decide (t78 < t77)) (Pu Tryz.prog (Instr.indexAt 25 (.slice t76.base t76.len t76.cap) (.int .i64 t78)) (.one (.at .addr)) (fun (x27 : Addr) w28 =>
  Rd Tryz.prog (Instr.loadAt 3 (.pointer (some x27))) (.one (.at (.int .i64))) (fun (x29 : Int) w30 =>
  Cd dataAlone_2 (Pu Tryz.prog (nilCk c_0) (.one (.at .addr)) (fun (x49 : Addr) w50 =>
  Rd Tryz.prog (Instr.loadAt 3 (.pointer (some (Addr.add x49 1)))) (.one (.at (.int .i64))) (fun (x51 : Int) w52 =>
  mcode_Codec_give.j4 R k2 c_0 shards_1 dataAlone_2 n_7 p_10 used_11 t78 x29 t76 t77 t78 (decide (x29 ≥ x51)) w52) w50) w30) (mcode_Codec_give.j4 R k2 c_0 shards_1 dataAlone_2 n_7 p_10 used_11 t78 x29 t76 t77 t78 false w30)) w28) w) (R (.returned (.int .i64 0)) w)
def mcode_Codec_give.l2 (R : Ending → World → Prop) : ((Option Addr) × Sl × Bool × Int × Addr × Sl × Sl × Int × Int × Unit) → World → Prop := loopW (fun k2 s w => mcode_Codec_give.b2 R k2 s.1 s.2.1 s.2.2.1 s.2.2.2.1 s.2.2.2.2.1 s.2.2.2.2.2.1 s.2.2.2.2.2.2.1 s.2.2.2.2.2.2.2.1 s.2.2.2.2.2.2.2.2.1 w)
def mcode_Codec_give.b1 (R : Ending → World → Prop) (k1 : ((Option Addr) × Sl × Bool × Int × Addr × Sl × Sl × Int × Int × Unit) → World → Prop) (c_0 : (Option Addr)) (shards_1 : Sl) (dataAlone_2 : Bool) (n_7 : Int) (p_10 : Addr) (used_11 : Sl) (t60 : Sl) (t61 : Int) (t62 : Int) (w : World) : Prop :=
  Cd (decide (t62 < t61)) (Pu Tryz.prog (Instr.indexAt 25 (.slice t60.base t60.len t60.cap) (.int .i64 t62)) (.one (.at .addr)) (fun (x14 : Addr) w15 =>
  Rd Tryz.prog (Instr.loadAt 3 (.pointer (some x14))) (.one (.at (.int .i64))) (fun (x16 : Int) w17 =>
  Pu Tryz.prog (Instr.indexAt 30 (.slice shards_1.base shards_1.len shards_1.cap) (.int .i64 x16)) (.one (.at .addr)) (fun (x18 : Addr) w19 =>
  Rd Tryz.prog (Instr.loadAt 24 (.pointer (some x18))) (.one (.at .sl)) (fun (x20 : Sl) w21 =>
  Pu Tryz.prog (Instr.indexAt 30 (.slice used_11.base used_11.len used_11.cap) (.int .i64 t62)) (.one (.at .addr)) (fun (x22 : Addr) w23 =>
  Wu Tryz.prog (Instr.storeAt 24 (.pointer (some x22)) (.slice x20.base x20.len x20.cap)) (fun w24 =>
  k1 (c_0, shards_1, dataAlone_2, n_7, p_10, used_11, t60, t61, (IntKind.wrap .i64 (t62 + 1)), ()) w24) w23) w21) w19) w17) w15) w) (Rd Tryz.prog (Instr.loadAt 25 (.pointer (some p_10))) (.one (.at .sl)) (fun (x25 : Sl) w26 =>
  mcode_Codec_give.l2 R (c_0, shards_1, dataAlone_2, n_7, p_10, used_11, x25, ((x25.len : Nat) : Int), 0, ()) w26) w)
def mcode_Codec_give.l1 (R : Ending → World → Prop) : ((Option Addr) × Sl × Bool × Int × Addr × Sl × Sl × Int × Int × Unit) → World → Prop := loopW (fun k1 s w => mcode_Codec_give.b1 R k1 s.1 s.2.1 s.2.2.1 s.2.2.2.1 s.2.2.2.2.1 s.2.2.2.2.2.1 s.2.2.2.2.2.2.1 s.2.2.2.2.2.2.2.1 s.2.2.2.2.2.2.2.2.1 w)
def mcode_Codec_give.j2 (R : Ending → World → Prop)  (c_0 : (Option Addr)) (shards_1 : Sl) (dataAlone_2 : Bool) (n_7 : Int) (missing_8 : Sl) (e_9 : Int) (t44 : Bool) (w : World) : Prop :=
  Cd t44 (R (.returned (.int .i64 e_9)) w) (Cl Tryz.prog 22 #[(.pointer c_0), (.slice missing_8.base missing_8.len missing_8.cap)] (.tup [.agg [.sl, .sl, .sl, .sl], .at (.int .i64)]) (fun x3 w4 =>
  Wr Tryz.prog (Instr.alloc 49 true (.tuple #[])) (.one (.at .addr)) (fun (x5 : Addr) w6 =>
  Wu Tryz.prog (Instr.storeAt 49 (.pointer (some x5)) (.agg #[(.slice x3.1.1.base x3.1.1.len x3.1.1.cap), (.slice x3.1.2.1.base x3.1.2.1.len x3.1.2.1.cap), (.slice x3.1.2.2.1.base x3.1.2.2.1.len x3.1.2.2.1.cap), (.slice x3.1.2.2.2.1.base x3.1.2.2.2.1.len x3.1.2.2.2.1.cap)])) (fun w7 =>
  Cd (x3.2.1 != 0) (R (.returned (.int .i64 x3.2.1)) w7) (Rd Tryz.prog (Instr.loadAt 25 (.pointer (some (Addr.add x5 1)))) (.one (.at .sl)) (fun (x8 : Sl) w9 =>
  Wr Tryz.prog (Instr.makeSlice 30 (.int .i64 ((x8.len : Nat) : Int)) (.int .i64 ((x8.len : Nat) : Int))) (.one (.at .sl)) (fun (x10 : Sl) w11 =>
  Rd Tryz.prog (Instr.loadAt 25 (.pointer (some (Addr.add x5 1)))) (.one (.at .sl)) (fun (x12 : Sl) w13 =>
  mcode_Codec_give.l1 R (c_0, shards_1, dataAlone_2, n_7, x5, x10, x12, ((x12.len : Nat) : Int), 0, ()) w13) w11) w9) w7)) w6) w4) w)
def mcode_Codec_give.j1 (R : Ending → World → Prop)  (c_0 : (Option Addr)) (shards_1 : Sl) (dataAlone_2 : Bool) (n_7 : Int) (missing_8 : Sl) (e_9 : Int) (w : World) : Prop :=
  Cd (e_9 != 0) (mcode_Codec_give.j2 R c_0 shards_1 dataAlone_2 n_7 missing_8 e_9 true w) (mcode_Codec_give.j2 R c_0 shards_1 dataAlone_2 n_7 missing_8 e_9 (((missing_8.len : Nat) : Int) == 0) w)
def mcode_Codec_give.M (R : Ending → World → Prop) (c_0 : (Option Addr)) (shards_1 : Sl) (dataAlone_2 : Bool) (w : World) : Prop :=
  Pu Tryz.prog (do eqGuard .eql 26 (.tmp 18) (.const (.pointer none)) (.pointer c_0) (.pointer none); binOp .eql 26 (.pointer c_0) (.pointer none)) (.one (.at .bool)) (fun (x1 : Bool) w2 =>
  Cd x1 (R (.returned (.int .i64 1)) w2) (Held w2.drew (fun S53 => Pu Tryz.prog (nilCk c_0) (.one (.at .addr)) (fun (x54 : Addr) w55 =>
  RdS Tryz.prog S53 (Instr.loadAt 69 (.pointer (some x54))) (.one (.at (.int .i64))) (fun (x56 : Int) w57 =>
  Pu Tryz.prog (nilCk c_0) (.one (.at .addr)) (fun (x58 : Addr) w59 =>
  RdS Tryz.prog S53 (Instr.loadAt 3 (.pointer (some (Addr.add x58 1)))) (.one (.at (.int .i64))) (fun (x60 : Int) w61 =>
  Pu Tryz.prog (nilCk c_0) (.one (.at .addr)) (fun (x62 : Addr) w63 =>
  RdS Tryz.prog S53 (Instr.loadAt 3 (.pointer (some (Addr.add x62 2)))) (.one (.at (.int .i64))) (fun (x64 : Int) w65 =>
  Cl Tryz.prog 61 #[(.int .i64 x56), (.int .i64 x60), (.int .i64 x64), (.slice shards_1.base shards_1.len shards_1.cap)] (.tup [.at (.int .i64), .at .sl, .at (.int .i64)]) (fun x66 w67 =>
  S53 w67 ∧ (mcode_Codec_give.j1 R c_0 shards_1 dataAlone_2 x66.1 x66.2.1 x66.2.2.1 w67)) w65) w63) w61) w59) w57) w55) w2.drew))) w
noncomputable def mcode_Codec_give.ann (R : Ending → World → Prop) : Ann :=
  .seq (.reg qN1) (.seq (.seq (.reg (.op 0 .now (.op 1 (.pu (.one (.at .bool))) (.done)))) (.cond (.seq (.reg qN1) (.leaf)) (.leaf))) (.join [(0, qcP), (1, qcS), (2, .at .bool), (7, qcI), (8, qcS), (9, qcI)] (fun s w => mcode_Codec_give.j1 R s.1 s.2.1 s.2.2.1 s.2.2.2.1 s.2.2.2.2.1 s.2.2.2.2.2.1 w) (.regD (.op 0 .now (.op 1 qpA (.op 2 .now (.op 3 (.rd (.one qcI)) (.op 4 .now (.op 5 qpA (.op 6 .now (.op 7 (.rd (.one qcI)) (.op 8 .now (.op 9 qpA (.op 10 .now (.op 11 (.rd (.one qcI)) (.op 12 .now (.op 13 (.cl (.tup [.at (.int .i64), .at .sl, .at (.int .i64)])) (.op 14 .now (.op 15 .now (.op 16 .now (.op 17 .now (.op 18 .now (.op 19 .now (.op 20 .now (.done))))))))))))))))))))))) (.seq (.join [(0, qcP), (1, qcS), (2, .at .bool), (7, qcI), (8, qcS), (9, qcI), (44, .at .bool)] (fun s w => mcode_Codec_give.j2 R s.1 s.2.1 s.2.2.1 s.2.2.2.1 s.2.2.2.2.1 s.2.2.2.2.2.1 s.2.2.2.2.2.2.1 w) (.reg (.op 0 .now (.op 1 .now (.op 2 .now (.split 2 (.skip 3 (.skip 4 (.skip 5 (.op 6 .now (.done))))) (.op 3 .now (.op 4 .now (.op 5 .now (.op 6 .now (.done)))))))))) (.cond (.seq (.reg qN2) (.leaf)) (.leaf))) (.seq (.reg (.op 0 .now (.op 1 .now (.op 2 (.cl (.tup [.agg [.sl, .sl, .sl, .sl], .at (.int .i64)])) (.op 3 .now (.op 4 .now (.op 5 .now (.op 6 (.wr (.one (.at .addr))) (.op 7 .wu (.op 8 .now (.done))))))))))) (.seq (.seq (.reg qN2) (.cond (.seq (.reg qN2) (.leaf)) (.leaf))) (.seq (.reg (.op 0 .now (.op 1 qrS (.op 2 .now (.op 3 (.wr (.one qcS)) (.op 4 .now (.done))))))) (.seq (.seq (.reg (.op 0 .now (.op 1 qrS (.op 2 .now (.op 3 .now (.done)))))) (.block (.loop [(0, qcP), (1, qcS), (2, .at .bool), (7, qcI), (10, .at .addr), (11, qcS), (60, qcS), (61, qcI), (62, qcI)] (fun k1 s w => mcode_Codec_give.b1 R k1 s.1 s.2.1 s.2.2.1 s.2.2.2.1 s.2.2.2.2.1 s.2.2.2.2.2.1 s.2.2.2.2.2.2.1 s.2.2.2.2.2.2.2.1 s.2.2.2.2.2.2.2.2.1 w) (fun k1 => .seq (.reg qN1) (.seq (.cond (.leaf) (.leaf)) (.seq (.block (.seq (.reg (.op 0 .now (.op 1 qpA (.op 2 (.rd (.one qcI)) (.op 3 .now (.op 4 .now (.done))))))) (.reg (.op 0 .now (.op 1 .now (.op 2 .now (.op 3 .now (.op 4 qpA (.op 5 qrS (.op 6 qpA (.op 7 .wu (.done)))))))))))) (.reg qN2))))))) (.seq (.seq (.reg (.op 0 .now (.op 1 qrS (.op 2 .now (.op 3 .now (.done)))))) (.block (.loop [(0, qcP), (1, qcS), (2, .at .bool), (7, qcI), (10, .at .addr), (11, qcS), (76, qcS), (77, qcI), (78, qcI)] (fun k2 s w => mcode_Codec_give.b2 R k2 s.1 s.2.1 s.2.2.1 s.2.2.2.1 s.2.2.2.2.1 s.2.2.2.2.2.1 s.2.2.2.2.2.2.1 s.2.2.2.2.2.2.2.1 s.2.2.2.2.2.2.2.2.1 w) (fun k2 => .seq (.reg qN1) (.seq (.cond (.leaf) (.leaf)) (.join [(0, qcP), (1, qcS), (2, .at .bool), (7, qcI), (10, .at .addr), (11, qcS), (76, qcS), (77, qcI), (78, qcI)] (fun s w => mcode_Codec_give.j3 R k2 s.1 s.2.1 s.2.2.1 s.2.2.2.1 s.2.2.2.2.1 s.2.2.2.2.2.1 s.2.2.2.2.2.2.1 s.2.2.2.2.2.2.2.1 s.2.2.2.2.2.2.2.2.1 w) (.block (.seq (.reg (.op 0 .now (.op 1 qpA (.op 2 (.rd (.one qcI)) (.op 3 .now (.op 4 .now (.done))))))) (.seq (.join [(0, qcP), (1, qcS), (2, .at .bool), (7, qcI), (10, .at .addr), (11, qcS), (14, qcI), (15, qcI), (76, qcS), (77, qcI), (78, qcI), (91, .at .bool)] (fun s w => mcode_Codec_give.j4 R k2 s.1 s.2.1 s.2.2.1 s.2.2.2.1 s.2.2.2.2.1 s.2.2.2.2.2.1 s.2.2.2.2.2.2.1 s.2.2.2.2.2.2.2.1 s.2.2.2.2.2.2.2.2.1 s.2.2.2.2.2.2.2.2.2.1 s.2.2.2.2.2.2.2.2.2.2.1 s.2.2.2.2.2.2.2.2.2.2.2.1 w) (.reg (.op 0 .now (.op 1 .now (.split 1 (.op 2 .now (.op 3 .now (.op 4 qpA (.op 5 .now (.op 6 (.rd (.one qcI)) (.op 7 .now (.op 8 .now (.done)))))))) (.skip 2 (.skip 3 (.skip 4 (.skip 5 (.skip 6 (.skip 7 (.op 8 .now (.done)))))))))))) (.cond (.leaf) (.leaf))) (.seq (.reg (.op 0 .now (.op 1 (.wr (.one qcS)) (.op 2 .now (.done))))) (.seq (.seq (.regD (.op 0 .now (.op 1 qpA (.op 2 .now (.op 3 (.rd (.one qcP)) (.op 4 .now (.op 5 qrS (.op 6 .now (.op 7 qpA (.op 8 qrS (.op 9 .now (.op 10 .now (.op 11 (.cl (.one qcI)) (.op 12 .now (.done))))))))))))))) (.seq (.reg qN2) (.cond (.seq (.reg qN2) (.leaf)) (.leaf)))) (.reg (.op 0 .now (.op 1 .now (.op 2 .now (.op 3 qpA (.op 4 .wu (.done)))))))))))) (.reg qN2))))))) (.seq (.reg qN1) (.leaf))))))))))
theorem mcode_Codec_give.run (R : Ending → World → Prop) (c_0 : (Option Addr)) (shards_1 : Sl) (dataAlone_2 : Bool) (w : World) (h : mcode_Codec_give.M R c_0 shards_1 dataAlone_2 w) : Calls Tryz.prog 39 #[(.pointer c_0), (.slice shards_1.base shards_1.len shards_1.cap), (.bool dataAlone_2)] w R := by
  refine calls_of_lift mix_eqc Tryz.func39 (c := mcode_Codec_give.body) (by kernel_rfl) [.at (.int .i64)] (mcode_Codec_give.ann R) 114 Tryz.ntmps39 [.tmp 6] (by kernel_rfl) (Nat.le_of_ble_eq_true (by kernel_rfl)) ?_ ?_
  · exact ⟨trivial, ⟨⟨trivial, ⟨⟨trivial, trivial⟩, trivial⟩⟩, ⟨fun s w h => Eq.mp (by kernel_rfl) h, (show Region.noSelect _ = true by kernel_rfl), ⟨⟨fun s w h => Eq.mp (by kernel_rfl) h, trivial, ⟨⟨trivial, trivial⟩, trivial⟩⟩, ⟨trivial, ⟨⟨trivial, ⟨⟨trivial, trivial⟩, trivial⟩⟩, ⟨trivial, ⟨⟨trivial, (fun k1 => ⟨fun s w h => Eq.mp (by kernel_rfl) h, ⟨trivial, ⟨⟨trivial, trivial⟩, ⟨⟨trivial, trivial⟩, trivial⟩⟩⟩⟩)⟩, ⟨⟨trivial, (fun k2 => ⟨fun s w h => Eq.mp (by kernel_rfl) h, ⟨trivial, ⟨⟨trivial, trivial⟩, ⟨fun s w h => Eq.mp (by kernel_rfl) h, ⟨trivial, ⟨⟨fun s w h => Eq.mp (by kernel_rfl) h, trivial, ⟨trivial, trivial⟩⟩, ⟨trivial, ⟨⟨(show Region.noSelect _ = true by kernel_rfl), ⟨trivial, ⟨⟨trivial, trivial⟩, trivial⟩⟩⟩, trivial⟩⟩⟩⟩, trivial⟩⟩⟩⟩)⟩, ⟨trivial, trivial⟩⟩⟩⟩⟩⟩⟩⟩⟩⟩
  · exact Eq.mp (show mcode_Codec_give.M R c_0 shards_1 dataAlone_2 w = _ by kernel_rfl) h
noncomputable def mcode_Codec_rising.body : Code := (Tryz.f40.body).getD .skip
def mcode_Codec_rising.j1 (R : Ending → World → Prop)  (k1 : ((Option Addr) × Sl × Sl × Int × Int × Unit) → World → Prop) (c_0 : (Option Addr)) (list_1 : Sl) (t7 : Sl) (t8 : Int) (t9 : Int) (t41 : Bool) (w : World) : Prop :=
  Cd t41 (R (.returned (.bool false)) w) (k1 (c_0, list_1, t7, t8, (IntKind.wrap .i64 (t9 + 1)), ()) w)
def mcode_Codec_rising.b1 (R : Ending → World → Prop) (k1 : ((Option Addr) × Sl × Sl × Int × Int × Unit) → World → Prop) (c_0 : (Option Addr)) (list_1 : Sl) (t7 : Sl) (t8 : Int) (t9 : Int) (w : World) : Prop :=
  Cd (decide (t9 < t8)) (Pu Tryz.prog (Instr.indexAt 25 (.slice t7.base t7.len t7.cap) (.int .i64 t9)) (.one (.at .addr)) (fun (x1 : Addr) w2 =>
  Rd Tryz.prog (Instr.loadAt 3 (.pointer (some x1))) (.one (.at (.int .i64))) (fun (x3 : Int) w4 =>
  Cd (decide (x3 < 0)) (mcode_Codec_rising.j1 R k1 c_0 list_1 t7 t8 t9 true w4.drew) (Pu Tryz.prog (nilCk c_0) (.one (.at .addr)) (fun (x5 : Addr) w6 =>
  RdS Tryz.prog (Same w4.drew) (Instr.loadAt 3 (.pointer (some (Addr.add x5 1)))) (.one (.at (.int .i64))) (fun (x7 : Int) w8 =>
  Pu Tryz.prog (nilCk c_0) (.one (.at .addr)) (fun (x9 : Addr) w10 =>
  RdS Tryz.prog (Same w4.drew) (Instr.loadAt 3 (.pointer (some (Addr.add x9 2)))) (.one (.at (.int .i64))) (fun (x11 : Int) w12 =>
  Cd (decide (x3 ≥ (IntKind.wrap .i64 (x7 + x11)))) (mcode_Codec_rising.j1 R k1 c_0 list_1 t7 t8 t9 true w12) (Cd (decide (t9 > 0)) (Pu Tryz.prog (Instr.indexAt 25 (.slice list_1.base list_1.len list_1.cap) (.int .i64 (IntKind.wrap .i64 (t9 - 1)))) (.one (.at .addr)) (fun (x13 : Addr) w14 =>
  RdS Tryz.prog (Same w4.drew) (Instr.loadAt 3 (.pointer (some x13))) (.one (.at (.int .i64))) (fun (x15 : Int) w16 =>
  mcode_Codec_rising.j1 R k1 c_0 list_1 t7 t8 t9 (decide (x3 ≤ x15)) w16) w14) w12) (mcode_Codec_rising.j1 R k1 c_0 list_1 t7 t8 t9 false w12))) w10) w8) w6) w4.drew)) w2) w) (R (.returned (.bool true)) w)
def mcode_Codec_rising.l1 (R : Ending → World → Prop) : ((Option Addr) × Sl × Sl × Int × Int × Unit) → World → Prop := loopW (fun k1 s w => mcode_Codec_rising.b1 R k1 s.1 s.2.1 s.2.2.1 s.2.2.2.1 s.2.2.2.2.1 w)
def mcode_Codec_rising.M (R : Ending → World → Prop) (c_0 : (Option Addr)) (list_1 : Sl) (w : World) : Prop :=
  mcode_Codec_rising.l1 R (c_0, list_1, list_1, ((list_1.len : Nat) : Int), 0, ()) w
noncomputable def mcode_Codec_rising.ann (R : Ending → World → Prop) : Ann :=
  .seq (.reg qN1) (.seq (.seq (.reg qN3) (.block (.loop [(0, qcP), (1, qcS), (7, qcS), (8, qcI), (9, qcI)] (fun k1 s w => mcode_Codec_rising.b1 R k1 s.1 s.2.1 s.2.2.1 s.2.2.2.1 s.2.2.2.2.1 w) (fun k1 => .seq (.reg qN1) (.seq (.cond (.leaf) (.leaf)) (.seq (.block (.seq (.reg (.op 0 .now (.op 1 qpA (.op 2 (.rd (.one qcI)) (.op 3 .now (.op 4 .now (.done))))))) (.join [(0, qcP), (1, qcS), (7, qcS), (8, qcI), (9, qcI), (41, .at .bool)] (fun s w => mcode_Codec_rising.j1 R k1 s.1 s.2.1 s.2.2.1 s.2.2.2.1 s.2.2.2.2.1 s.2.2.2.2.2.1 w) (.regQ (.op 0 .now (.op 1 .now (.op 2 .now (.split 2 (.skip 3 (.skip 4 (.skip 5 (.skip 6 (.skip 7 (.skip 8 (.skip 9 (.skip 10 (.skip 11 (.skip 12 (.skip 13 (.op 14 .now (.op 15 .now (.skip 16 (.skip 17 (.skip 18 (.skip 19 (.skip 20 (.skip 21 (.skip 22 (.skip 23 (.skip 24 (.skip 25 (.skip 26 (.op 27 .now (.done)))))))))))))))))))))))))) (.op 3 .now (.op 4 .now (.op 5 qpA (.op 6 .now (.op 7 (.rd (.one qcI)) (.op 8 .now (.op 9 qpA (.op 10 .now (.op 11 (.rd (.one qcI)) (.op 12 .now (.op 13 .now (.op 14 .now (.op 15 .now (.split 15 (.skip 16 (.skip 17 (.skip 18 (.skip 19 (.skip 20 (.skip 21 (.skip 22 (.skip 23 (.skip 24 (.skip 25 (.skip 26 (.op 27 .now (.done))))))))))))) (.op 16 .now (.op 17 .now (.op 18 .now (.split 18 (.op 19 .now (.op 20 .now (.op 21 .now (.op 22 .now (.op 23 qpA (.op 24 (.rd (.one qcI)) (.op 25 .now (.op 26 .now (.op 27 .now (.done)))))))))) (.skip 19 (.skip 20 (.skip 21 (.skip 22 (.skip 23 (.skip 24 (.skip 25 (.op 26 .now (.op 27 .now (.done))))))))))))))))))))))))))))))))) (.cond (.seq (.reg qN1) (.leaf)) (.leaf))))) (.reg qN2))))))) (.seq (.reg qN1) (.leaf)))
theorem mcode_Codec_rising.run (R : Ending → World → Prop) (c_0 : (Option Addr)) (list_1 : Sl) (w : World) (h : mcode_Codec_rising.M R c_0 list_1 w) : Calls Tryz.prog 40 #[(.pointer c_0), (.slice list_1.base list_1.len list_1.cap)] w R := by
  refine calls_of_lift mix_eqc Tryz.func40 (c := mcode_Codec_rising.body) (by kernel_rfl) [.at .bool] (mcode_Codec_rising.ann R) 43 Tryz.ntmps40 [.tmp 4] (by kernel_rfl) (Nat.le_of_ble_eq_true (by kernel_rfl)) ?_ ?_
  · exact ⟨trivial, ⟨⟨trivial, (fun k1 => ⟨fun s w h => Eq.mp (by kernel_rfl) h, ⟨trivial, ⟨⟨trivial, trivial⟩, ⟨⟨trivial, ⟨fun s w h => Eq.mp (by kernel_rfl) h, (show Region.noSelect _ = true by kernel_rfl), ⟨⟨trivial, trivial⟩, trivial⟩⟩⟩, trivial⟩⟩⟩⟩)⟩, ⟨trivial, trivial⟩⟩⟩
  · exact Eq.mp (show mcode_Codec_rising.M R c_0 list_1 w = _ by kernel_rfl) h
noncomputable def trie_Trie_Get.body : Code := (Tryz.f42.body).getD .skip
def trie_Trie_Get.M (R : Ending → World → Prop) (t_0 : (Option Addr)) (key_1 : Sl) (w : World) : Prop :=
  Cl Tryz.prog 64 #[(.pointer t_0), (.slice key_1.base key_1.len key_1.cap)] (.one (.at .ptr)) (fun (x1 : (Option Addr)) w2 =>
  Pu Tryz.prog (do eqGuard .eql 118 (.tmp 10) (.const (.pointer none)) (.pointer x1) (.pointer none); binOp .eql 118 (.pointer x1) (.pointer none)) (.one (.at .bool)) (fun (x3 : Bool) w4 =>
  Cd x3 (R (.returned (.tuple #[(.slice none 0 0), (.bool false)])) w4) (Cl Tryz.prog 65 #[(.pointer t_0), (.pointer x1)] (.tup []) (fun x5 w6 =>
  Pu Tryz.prog (nilCk x1) (.one (.at .addr)) (fun (x7 : Addr) w8 =>
  Rd Tryz.prog (Instr.loadAt 30 (.pointer (some (Addr.add x7 2)))) (.one (.at .sl)) (fun (x9 : Sl) w10 =>
  Cl Tryz.prog 66 #[(.slice x9.base x9.len x9.cap)] (.one (.at .sl)) (fun (x11 : Sl) w12 =>
  R (.returned (.tuple #[(.slice x11.base x11.len x11.cap), (.bool true)])) w12) w10) w8) w6) w4)) w2) w
noncomputable def trie_Trie_Get.ann (R : Ending → World → Prop) : Ann :=
  .seq (.reg qN2) (.seq (.reg (.op 0 .now (.op 1 .now (.op 2 (.cl (.one qcP)) (.op 3 .now (.done)))))) (.seq (.seq (.reg (.op 0 .now (.op 1 (.pu (.one (.at .bool))) (.done)))) (.cond (.seq (.reg qN2) (.leaf)) (.leaf))) (.seq (.reg (.op 0 .now (.op 1 .now (.op 2 (.cl (.tup [])) (.done))))) (.seq (.reg (.op 0 .now (.op 1 qpA (.op 2 .now (.op 3 qrS (.op 4 (.cl (.one qcS)) (.op 5 .now (.op 6 .now (.done))))))))) (.leaf)))))
theorem trie_Trie_Get.run (R : Ending → World → Prop) (t_0 : (Option Addr)) (key_1 : Sl) (w : World) (h : trie_Trie_Get.M R t_0 key_1 w) : Calls Tryz.prog 42 #[(.pointer t_0), (.slice key_1.base key_1.len key_1.cap)] w R := by
  refine calls_of_lift mix_eqc Tryz.func42 (c := trie_Trie_Get.body) (by kernel_rfl) [.at .sl, .at .bool] (trie_Trie_Get.ann R) 20 Tryz.ntmps42 [.tmp 4, .tmp 5] (by kernel_rfl) (Nat.le_of_ble_eq_true (by kernel_rfl)) ?_ ?_
  · exact ⟨trivial, ⟨trivial, ⟨⟨trivial, ⟨⟨trivial, trivial⟩, trivial⟩⟩, ⟨trivial, ⟨trivial, trivial⟩⟩⟩⟩⟩
  · exact Eq.mp (show trie_Trie_Get.M R t_0 key_1 w = _ by kernel_rfl) h
noncomputable def trie_Trie_Put.body : Code := (Tryz.f44.body).getD .skip
def trie_Trie_Put.j2 (R : Ending → World → Prop)  (k1 : ((Option Addr) × Sl × (Option Addr) × Sl × Int × Int × Unit) → World → Prop) (t_0 : (Option Addr)) (value_2 : Sl) (next_11 : (Option Addr)) (t51 : Sl) (t52 : Int) (t53 : Int) (w : World) : Prop :=
  k1 (t_0, value_2, next_11, t51, t52, (IntKind.wrap .i64 (t53 + 1)), ()) w
def trie_Trie_Put.j3 (R : Ending → World → Prop)  (t_0 : (Option Addr)) (value_2 : Sl) (n_8 : (Option Addr)) (w : World) : Prop :=
  Cl Tryz.prog 66 #[(.slice value_2.base value_2.len value_2.cap)] (.one (.at .sl)) (fun (x34 : Sl) w35 =>
  Pu Tryz.prog (nilCk n_8) (.one (.at .addr)) (fun (x36 : Addr) w37 =>
  Wu Tryz.prog (Instr.storeAt 4 (.pointer (some (Addr.add x36 1))) (.bool true)) (fun w38 =>
  Pu Tryz.prog (nilCk n_8) (.one (.at .addr)) (fun (x39 : Addr) w40 =>
  Wu Tryz.prog (Instr.storeAt 30 (.pointer (some (Addr.add x39 2))) (.slice x34.base x34.len x34.cap)) (fun w41 =>
  Cl Tryz.prog 65 #[(.pointer t_0), (.pointer n_8)] (.tup []) (fun x42 w43 =>
  R (.returned (.int .i64 0)) w43) w41) w40) w38) w37) w35) w
def trie_Trie_Put.b1 (R : Ending → World → Prop) (k1 : ((Option Addr) × Sl × (Option Addr) × Sl × Int × Int × Unit) → World → Prop) (t_0 : (Option Addr)) (value_2 : Sl) (n_8 : (Option Addr)) (t51 : Sl) (t52 : Int) (t53 : Int) (w : World) : Prop :=
  Cd (decide (t53 < t52)) (Pu Tryz.prog (Instr.indexAt 25 (.slice t51.base t51.len t51.cap) (.int .i64 t53)) (.one (.at .addr)) (fun (x15 : Addr) w16 =>
  Rd Tryz.prog (Instr.loadAt 3 (.pointer (some x15))) (.one (.at (.int .i64))) (fun (x17 : Int) w18 =>
  Pu Tryz.prog (nilCk n_8) (.one (.at .addr)) (fun (x19 : Addr) w20 =>
  Rd Tryz.prog (Instr.loadAt 121 (.pointer (some x19))) (.one (.at .map)) (fun (x21 : (Option Nat)) w22 =>
  Rd Tryz.prog (Instr.lookup 121 (.map x21) (.int .i64 x17) false) (.one (.at .ptr)) (fun (x23 : (Option Addr)) w24 =>
  Pu Tryz.prog (do eqGuard .eql 118 (.tmp 63) (.const (.pointer none)) (.pointer x23) (.pointer none); binOp .eql 118 (.pointer x23) (.pointer none)) (.one (.at .bool)) (fun (x25 : Bool) w26 =>
  Cd x25 (Cl Tryz.prog 74 #[] (.one (.at .ptr)) (fun (x27 : (Option Addr)) w28 =>
  Pu Tryz.prog (nilCk n_8) (.one (.at .addr)) (fun (x29 : Addr) w30 =>
  Rd Tryz.prog (Instr.loadAt 121 (.pointer (some x29))) (.one (.at .map)) (fun (x31 : (Option Nat)) w32 =>
  Wu Tryz.prog (Instr.mapUpdate 121 (.map x31) (.int .i64 x17) (.pointer x27)) (fun w33 =>
  trie_Trie_Put.j2 R k1 t_0 value_2 x27 t51 t52 t53 w33) w32) w30) w28) w26) (trie_Trie_Put.j2 R k1 t_0 value_2 x23 t51 t52 t53 w26)) w24) w22) w20) w18) w16) w) (Pu Tryz.prog (nilCk n_8) (.one (.at .addr)) (fun (x44 : Addr) w45 =>
  Rd Tryz.prog (Instr.loadAt 4 (.pointer (some (Addr.add x44 1)))) (.one (.at .bool)) (fun (x46 : Bool) w47 =>
  Cd (!x46) (Pu Tryz.prog (nilCk t_0) (.one (.at .addr)) (fun (x48 : Addr) w49 =>
  Rd Tryz.prog (Instr.loadAt 3 (.pointer (some (Addr.add x48 2)))) (.one (.at (.int .i64))) (fun (x50 : Int) w51 =>
  Pu Tryz.prog (nilCk t_0) (.one (.at .addr)) (fun (x52 : Addr) w53 =>
  Wu Tryz.prog (Instr.storeAt 3 (.pointer (some (Addr.add x52 2))) (.int .i64 (IntKind.wrap .i64 (x50 + 1)))) (fun w54 =>
  trie_Trie_Put.j3 R t_0 value_2 n_8 w54) w53) w51) w49) w47) (trie_Trie_Put.j3 R t_0 value_2 n_8 w47)) w45) w)
def trie_Trie_Put.l1 (R : Ending → World → Prop) : ((Option Addr) × Sl × (Option Addr) × Sl × Int × Int × Unit) → World → Prop := loopW (fun k1 s w => trie_Trie_Put.b1 R k1 s.1 s.2.1 s.2.2.1 s.2.2.2.1 s.2.2.2.2.1 s.2.2.2.2.2.1 w)
def trie_Trie_Put.j1 (R : Ending → World → Prop)  (t_0 : (Option Addr)) (key_1 : Sl) (value_2 : Sl) (w : World) : Prop :=
  Pu Tryz.prog (nilCk t_0) (.one (.at .addr)) (fun (x11 : Addr) w12 =>
  Rd Tryz.prog (Instr.loadAt 118 (.pointer (some x11))) (.one (.at .ptr)) (fun (x13 : (Option Addr)) w14 =>
  trie_Trie_Put.l1 R (t_0, value_2, x13, key_1, ((key_1.len : Nat) : Int), 0, ()) w14) w12) w
def trie_Trie_Put.j4 (R : Ending → World → Prop)  (t_0 : (Option Addr)) (key_1 : Sl) (value_2 : Sl) (t36 : Bool) (w : World) : Prop :=
  Cd t36 (Cl Tryz.prog 72 #[(.pointer t_0)] (.one (.at .sl)) (fun (x55 : Sl) w56 =>
  Pu Tryz.prog (Instr.indexAt 53 (.slice x55.base x55.len x55.cap) (.int .i64 (IntKind.wrap .i64 (((x55.len : Nat) : Int) - 1)))) (.one (.at .addr)) (fun (x57 : Addr) w58 =>
  Rd Tryz.prog (Instr.loadAt 25 (.pointer (some x57))) (.one (.at .sl)) (fun (x59 : Sl) w60 =>
  Cl Tryz.prog 73 #[(.pointer t_0), (.slice x59.base x59.len x59.cap)] (.one (.at .bool)) (fun (x61 : Bool) w62 =>
  trie_Trie_Put.j1 R t_0 key_1 value_2 w62) w60) w58) w56) w) (trie_Trie_Put.j1 R t_0 key_1 value_2 w)
def trie_Trie_Put.M (R : Ending → World → Prop) (t_0 : (Option Addr)) (key_1 : Sl) (value_2 : Sl) (w : World) : Prop :=
  Pu Tryz.prog (do eqGuard .eql 76 (.tmp 12) (.const (.pointer none)) (.pointer t_0) (.pointer none); binOp .eql 76 (.pointer t_0) (.pointer none)) (.one (.at .bool)) (fun (x1 : Bool) w2 =>
  Cd x1 (R (.returned (.int .i64 1)) w2) (Cl Tryz.prog 71 #[(.slice key_1.base key_1.len key_1.cap)] (.one (.at .bool)) (fun (x3 : Bool) w4 =>
  Cd (!x3) (R (.returned (.int .i64 120)) w4) (Pu Tryz.prog (nilCk t_0) (.one (.at .addr)) (fun (x5 : Addr) w6 =>
  Rd Tryz.prog (Instr.loadAt 118 (.pointer (some x5))) (.one (.at .ptr)) (fun (x7 : (Option Addr)) w8 =>
  Pu Tryz.prog (do eqGuard .eql 118 (.tmp 20) (.const (.pointer none)) (.pointer x7) (.pointer none); binOp .eql 118 (.pointer x7) (.pointer none)) (.one (.at .bool)) (fun (x9 : Bool) w10 =>
  Cd x9 (R (.returned (.int .i64 0)) w10) (Held w10.drew (fun S63 => Cl Tryz.prog 64 #[(.pointer t_0), (.slice key_1.base key_1.len key_1.cap)] (.one (.at .ptr)) (fun (x64 : (Option Addr)) w65 =>
  S63 w65 ∧ (Pu Tryz.prog (do eqGuard .eql 118 (.tmp 24) (.const (.pointer none)) (.pointer x64) (.pointer none); binOp .eql 118 (.pointer x64) (.pointer none)) (.one (.at .bool)) (fun (x66 : Bool) w67 =>
  Cd x66 (Pu Tryz.prog (nilCk t_0) (.one (.at .addr)) (fun (x68 : Addr) w69 =>
  RdS Tryz.prog S63 (Instr.loadAt 3 (.pointer (some (Addr.add x68 2)))) (.one (.at (.int .i64))) (fun (x70 : Int) w71 =>
  Pu Tryz.prog (nilCk t_0) (.one (.at .addr)) (fun (x72 : Addr) w73 =>
  RdS Tryz.prog S63 (Instr.loadAt 3 (.pointer (some (Addr.add x72 1)))) (.one (.at (.int .i64))) (fun (x74 : Int) w75 =>
  trie_Trie_Put.j4 R t_0 key_1 value_2 (decide (x70 ≥ x74)) w75) w73) w71) w69) w67) (trie_Trie_Put.j4 R t_0 key_1 value_2 false w67)) w65)) w10.drew))) w8) w6) w4)) w2)) w
noncomputable def trie_Trie_Put.ann (R : Ending → World → Prop) : Ann :=
  .seq (.reg qN1) (.seq (.seq (.reg (.op 0 .now (.op 1 (.pu (.one (.at .bool))) (.done)))) (.cond (.seq (.reg qN1) (.leaf)) (.leaf))) (.seq (.seq (.reg (.op 0 .now (.op 1 (.cl (.one (.at .bool))) (.op 2 .now (.done))))) (.cond (.seq (.reg qN1) (.leaf)) (.leaf))) (.seq (.seq (.reg (.op 0 .now (.op 1 qpA (.op 2 .now (.op 3 (.rd (.one qcP)) (.op 4 (.pu (.one (.at .bool))) (.done))))))) (.cond (.seq (.reg qN1) (.leaf)) (.leaf))) (.join [(0, qcP), (1, qcS), (2, qcS)] (fun s w => trie_Trie_Put.j1 R s.1 s.2.1 s.2.2.1 w) (.join [(0, qcP), (1, qcS), (2, qcS), (36, .at .bool)] (fun s w => trie_Trie_Put.j4 R s.1 s.2.1 s.2.2.1 s.2.2.2.1 w) (.regD (.op 0 .now (.op 1 .now (.op 2 (.cl (.one qcP)) (.op 3 (.pu (.one (.at .bool))) (.op 4 .now (.split 4 (.op 5 .now (.op 6 qpA (.op 7 .now (.op 8 (.rd (.one qcI)) (.op 9 .now (.op 10 qpA (.op 11 .now (.op 12 (.rd (.one qcI)) (.op 13 .now (.op 14 .now (.done))))))))))) (.skip 5 (.skip 6 (.skip 7 (.skip 8 (.skip 9 (.skip 10 (.skip 11 (.skip 12 (.skip 13 (.op 14 .now (.done)))))))))))))))))) (.cond (.seq (.reg (.op 0 .now (.op 1 (.cl (.one qcS)) (.op 2 .now (.done))))) (.reg (.op 0 .now (.op 1 .now (.op 2 .now (.op 3 .now (.op 4 .now (.op 5 qpA (.op 6 qrS (.op 7 (.cl (.one (.at .bool))) (.done))))))))))) (.leaf))) (.seq (.reg (.op 0 .now (.op 1 qpA (.op 2 .now (.op 3 (.rd (.one qcP)) (.op 4 .now (.done))))))) (.seq (.seq (.reg qN3) (.block (.loop [(0, qcP), (2, qcS), (8, qcP), (51, qcS), (52, qcI), (53, qcI)] (fun k1 s w => trie_Trie_Put.b1 R k1 s.1 s.2.1 s.2.2.1 s.2.2.2.1 s.2.2.2.2.1 s.2.2.2.2.2.1 w) (fun k1 => .seq (.reg qN1) (.seq (.cond (.leaf) (.leaf)) (.seq (.block (.seq (.reg (.op 0 qpA (.op 1 (.rd (.one qcI)) (.op 2 .now (.done))))) (.seq (.reg (.op 0 .now (.op 1 qpA (.op 2 .now (.op 3 (.rd (.one (.at .map))) (.op 4 .now (.op 5 (.rd (.one qcP)) (.op 6 .now (.done))))))))) (.join [(0, qcP), (2, qcS), (11, qcP), (51, qcS), (52, qcI), (53, qcI)] (fun s w => trie_Trie_Put.j2 R k1 s.1 s.2.1 s.2.2.1 s.2.2.2.1 s.2.2.2.2.1 s.2.2.2.2.2.1 w) (.seq (.reg (.op 0 .now (.op 1 (.pu (.one (.at .bool))) (.done)))) (.cond (.seq (.reg (.op 0 (.cl (.one qcP)) (.op 1 .now (.done)))) (.reg (.op 0 .now (.op 1 qpA (.op 2 .now (.op 3 (.rd (.one (.at .map))) (.op 4 .now (.op 5 .now (.op 6 .wu (.done)))))))))) (.leaf))) (.reg qN2))))) (.reg qN2))))))) (.join [(0, qcP), (2, qcS), (8, qcP)] (fun s w => trie_Trie_Put.j3 R s.1 s.2.1 s.2.2.1 w) (.seq (.reg (.op 0 .now (.op 1 qpA (.op 2 .now (.op 3 (.rd (.one (.at .bool))) (.op 4 .now (.done))))))) (.cond (.reg (.op 0 .now (.op 1 qpA (.op 2 .now (.op 3 (.rd (.one qcI)) (.op 4 .now (.op 5 qpA (.op 6 .now (.op 7 .wu (.done)))))))))) (.leaf))) (.seq (.reg (.op 0 .now (.op 1 .now (.op 2 .now (.op 3 (.cl (.one qcS)) (.op 4 qpA (.op 5 .now (.op 6 .wu (.op 7 qpA (.op 8 .now (.op 9 .wu (.done)))))))))))) (.seq (.reg (.op 0 .now (.op 1 .now (.op 2 (.cl (.tup [])) (.done))))) (.seq (.reg qN1) (.leaf)))))))))))
theorem trie_Trie_Put.run (R : Ending → World → Prop) (t_0 : (Option Addr)) (key_1 : Sl) (value_2 : Sl) (w : World) (h : trie_Trie_Put.M R t_0 key_1 value_2 w) : Calls Tryz.prog 44 #[(.pointer t_0), (.slice key_1.base key_1.len key_1.cap), (.slice value_2.base value_2.len value_2.cap)] w R := by
  refine calls_of_lift mix_eqc Tryz.func44 (c := trie_Trie_Put.body) (by kernel_rfl) [.at (.int .i64)] (trie_Trie_Put.ann R) 97 Tryz.ntmps44 [.tmp 6] (by kernel_rfl) (Nat.le_of_ble_eq_true (by kernel_rfl)) ?_ ?_
  · exact ⟨trivial, ⟨⟨trivial, ⟨⟨trivial, trivial⟩, trivial⟩⟩, ⟨⟨trivial, ⟨⟨trivial, trivial⟩, trivial⟩⟩, ⟨⟨trivial, ⟨⟨trivial, trivial⟩, trivial⟩⟩, ⟨fun s w h => Eq.mp (by kernel_rfl) h, ⟨fun s w h => Eq.mp (by kernel_rfl) h, (show Region.noSelect _ = true by kernel_rfl), ⟨⟨trivial, trivial⟩, trivial⟩⟩, ⟨trivial, ⟨⟨trivial, (fun k1 => ⟨fun s w h => Eq.mp (by kernel_rfl) h, ⟨trivial, ⟨⟨trivial, trivial⟩, ⟨⟨trivial, ⟨trivial, ⟨fun s w h => Eq.mp (by kernel_rfl) h, ⟨trivial, ⟨⟨trivial, trivial⟩, trivial⟩⟩, trivial⟩⟩⟩, trivial⟩⟩⟩⟩)⟩, ⟨fun s w h => Eq.mp (by kernel_rfl) h, ⟨trivial, ⟨trivial, trivial⟩⟩, ⟨trivial, ⟨trivial, ⟨trivial, trivial⟩⟩⟩⟩⟩⟩⟩⟩⟩⟩⟩
  · exact Eq.mp (show trie_Trie_Put.M R t_0 key_1 value_2 w = _ by kernel_rfl) h
noncomputable def trie_New.body : Code := (Tryz.f53.body).getD .skip
def trie_New.j1 (R : Ending → World → Prop)  (limit_0 : Int) (t9 : Bool) (w : World) : Prop :=
  Cd t9 (R (.returned (.tuple #[(.pointer none), (.int .i64 7)])) w) (Cl Tryz.prog 74 #[] (.one (.at .ptr)) (fun (x1 : (Option Addr)) w2 =>
  Wr Tryz.prog (Instr.box 128 (.agg #[(.pointer x1), (.int .i64 limit_0), (.int .i64 0), (.int .i64 0)])) (.one (.at .addr)) (fun (x3 : Addr) w4 =>
  R (.returned (.tuple #[(.pointer (some x3)), (.int .i64 0)])) w4) w2) w)
def trie_New.M (R : Ending → World → Prop) (limit_0 : Int) (w : World) : Prop :=
  Cd (decide (limit_0 < 1)) (trie_New.j1 R limit_0 true w) (trie_New.j1 R limit_0 (decide (limit_0 > 1024)) w)
noncomputable def trie_New.ann (R : Ending → World → Prop) : Ann :=
  .seq (.reg qN2) (.seq (.join [(0, qcI), (9, .at .bool)] (fun s w => trie_New.j1 R s.1 s.2.1 w) (.reg (.op 0 .now (.op 1 .now (.op 2 .now (.split 2 (.skip 3 (.skip 4 (.op 5 .now (.done)))) (.op 3 .now (.op 4 .now (.op 5 .now (.done))))))))) (.cond (.seq (.reg qN2) (.leaf)) (.leaf))) (.seq (.reg (.op 0 (.cl (.one qcP)) (.op 1 .now (.op 2 .now (.op 3 (.wr (.one (.at .addr))) (.op 4 .now (.op 5 .now (.done)))))))) (.leaf)))
theorem trie_New.run (R : Ending → World → Prop) (limit_0 : Int) (w : World) (h : trie_New.M R limit_0 w) : Calls Tryz.prog 53 #[(.int .i64 limit_0)] w R := by
  refine calls_of_lift mix_eqc Tryz.func53 (c := trie_New.body) (by kernel_rfl) [.at .ptr, .at (.int .i64)] (trie_New.ann R) 14 Tryz.ntmps53 [.tmp 2, .tmp 3] (by kernel_rfl) (Nat.le_of_ble_eq_true (by kernel_rfl)) ?_ ?_
  · exact ⟨trivial, ⟨⟨fun s w h => Eq.mp (by kernel_rfl) h, trivial, ⟨⟨trivial, trivial⟩, trivial⟩⟩, ⟨trivial, trivial⟩⟩⟩
  · exact Eq.mp (show trie_New.M R limit_0 w = _ by kernel_rfl) h
noncomputable def trie_Trie_Len.body : Code := (Tryz.f54.body).getD .skip
def trie_Trie_Len.M (R : Ending → World → Prop) (t_0 : (Option Addr)) (w : World) : Prop :=
  Pu Tryz.prog (do eqGuard .eql 76 (.tmp 3) (.const (.pointer none)) (.pointer t_0) (.pointer none); binOp .eql 76 (.pointer t_0) (.pointer none)) (.one (.at .bool)) (fun (x1 : Bool) w2 =>
  Cd x1 (R (.returned (.int .i64 0)) w2) (Pu Tryz.prog (nilCk t_0) (.one (.at .addr)) (fun (x3 : Addr) w4 =>
  Rd Tryz.prog (Instr.loadAt 3 (.pointer (some (Addr.add x3 2)))) (.one (.at (.int .i64))) (fun (x5 : Int) w6 =>
  R (.returned (.int .i64 x5)) w6) w4) w2)) w
noncomputable def trie_Trie_Len.ann (R : Ending → World → Prop) : Ann :=
  .seq (.reg qN1) (.seq (.seq (.reg (.op 0 .now (.op 1 (.pu (.one (.at .bool))) (.done)))) (.cond (.seq (.reg qN1) (.leaf)) (.leaf))) (.seq (.reg (.op 0 .now (.op 1 qpA (.op 2 .now (.op 3 (.rd (.one qcI)) (.op 4 .now (.done))))))) (.leaf)))
theorem trie_Trie_Len.run (R : Ending → World → Prop) (t_0 : (Option Addr)) (w : World) (h : trie_Trie_Len.M R t_0 w) : Calls Tryz.prog 54 #[(.pointer t_0)] w R := by
  refine calls_of_lift mix_eqc Tryz.func54 (c := trie_Trie_Len.body) (by kernel_rfl) [.at (.int .i64)] (trie_Trie_Len.ann R) 9 Tryz.ntmps54 [.tmp 2] (by kernel_rfl) (Nat.le_of_ble_eq_true (by kernel_rfl)) ?_ ?_
  · exact ⟨trivial, ⟨⟨trivial, ⟨⟨trivial, trivial⟩, trivial⟩⟩, ⟨trivial, trivial⟩⟩⟩
  · exact Eq.mp (show trie_Trie_Len.M R t_0 w = _ by kernel_rfl) h
noncomputable def trie_Trie_holder.body : Code := (Tryz.f64.body).getD .skip
def trie_Trie_holder.j1 (R : Ending → World → Prop)  (n_5 : (Option Addr)) (t16 : Bool) (w : World) : Prop :=
  Cd t16 (R (.returned (.pointer n_5)) w) (R (.returned (.pointer none)) w)
def trie_Trie_holder.M (R : Ending → World → Prop) (t_0 : (Option Addr)) (key_1 : Sl) (w : World) : Prop :=
  Cl Tryz.prog 88 #[(.pointer t_0), (.slice key_1.base key_1.len key_1.cap)] (.one (.at .ptr)) (fun (x1 : (Option Addr)) w2 =>
  Pu Tryz.prog (do eqGuard .neq 118 (.tmp 9) (.const (.pointer none)) (.pointer x1) (.pointer none); binOp .neq 118 (.pointer x1) (.pointer none)) (.one (.at .bool)) (fun (x3 : Bool) w4 =>
  Cd x3 (Pu Tryz.prog (nilCk x1) (.one (.at .addr)) (fun (x5 : Addr) w6 =>
  Rd Tryz.prog (Instr.loadAt 4 (.pointer (some (Addr.add x5 1)))) (.one (.at .bool)) (fun (x7 : Bool) w8 =>
  trie_Trie_holder.j1 R x1 x7 w8) w6) w4) (trie_Trie_holder.j1 R x1 false w4)) w2) w
noncomputable def trie_Trie_holder.ann (R : Ending → World → Prop) : Ann :=
  .seq (.reg qN1) (.seq (.seq (.reg (.op 0 .now (.op 1 .now (.op 2 (.cl (.one qcP)) (.op 3 .now (.done)))))) (.join [(5, qcP), (16, .at .bool)] (fun s w => trie_Trie_holder.j1 R s.1 s.2.1 w) (.reg (.op 0 .now (.op 1 (.pu (.one (.at .bool))) (.op 2 .now (.split 2 (.op 3 .now (.op 4 qpA (.op 5 .now (.op 6 (.rd (.one (.at .bool))) (.op 7 .now (.done)))))) (.skip 3 (.skip 4 (.skip 5 (.skip 6 (.op 7 .now (.done))))))))))) (.cond (.seq (.reg qN2) (.leaf)) (.leaf)))) (.seq (.reg qN1) (.leaf)))
theorem trie_Trie_holder.run (R : Ending → World → Prop) (t_0 : (Option Addr)) (key_1 : Sl) (w : World) (h : trie_Trie_holder.M R t_0 key_1 w) : Calls Tryz.prog 64 #[(.pointer t_0), (.slice key_1.base key_1.len key_1.cap)] w R := by
  refine calls_of_lift mix_eqc Tryz.func64 (c := trie_Trie_holder.body) (by kernel_rfl) [.at .ptr] (trie_Trie_holder.ann R) 18 Tryz.ntmps64 [.tmp 4] (by kernel_rfl) (Nat.le_of_ble_eq_true (by kernel_rfl)) ?_ ?_
  · exact ⟨trivial, ⟨⟨trivial, ⟨fun s w h => Eq.mp (by kernel_rfl) h, trivial, ⟨⟨trivial, trivial⟩, trivial⟩⟩⟩, ⟨trivial, trivial⟩⟩⟩
  · exact Eq.mp (show trie_Trie_holder.M R t_0 key_1 w = _ by kernel_rfl) h
noncomputable def trie_Trie_use.body : Code := (Tryz.f65.body).getD .skip
def trie_Trie_use.M (R : Ending → World → Prop) (t_0 : (Option Addr)) (n_1 : (Option Addr)) (w : World) : Prop :=
  Pu Tryz.prog (nilCk t_0) (.one (.at .addr)) (fun (x1 : Addr) w2 =>
  Rd Tryz.prog (Instr.loadAt 3 (.pointer (some (Addr.add x1 3)))) (.one (.at (.int .i64))) (fun (x3 : Int) w4 =>
  Pu Tryz.prog (nilCk t_0) (.one (.at .addr)) (fun (x5 : Addr) w6 =>
  Wu Tryz.prog (Instr.storeAt 3 (.pointer (some (Addr.add x5 3))) (.int .i64 (IntKind.wrap .i64 (x3 + 1)))) (fun w7 =>
  Pu Tryz.prog (nilCk t_0) (.one (.at .addr)) (fun (x8 : Addr) w9 =>
  Rd Tryz.prog (Instr.loadAt 3 (.pointer (some (Addr.add x8 3)))) (.one (.at (.int .i64))) (fun (x10 : Int) w11 =>
  Pu Tryz.prog (nilCk n_1) (.one (.at .addr)) (fun (x12 : Addr) w13 =>
  Wu Tryz.prog (Instr.storeAt 3 (.pointer (some (Addr.add x12 3))) (.int .i64 x10)) (fun w14 =>
  R (.returned (.tuple #[])) w14) w13) w11) w9) w7) w6) w4) w2) w
noncomputable def trie_Trie_use.ann (R : Ending → World → Prop) : Ann :=
  .seq (.reg (.op 0 .now (.op 1 qpA (.op 2 .now (.op 3 (.rd (.one qcI)) (.op 4 .now (.op 5 qpA (.op 6 .now (.op 7 .wu (.done)))))))))) (.reg (.op 0 .now (.op 1 .now (.op 2 qpA (.op 3 .now (.op 4 (.rd (.one qcI)) (.op 5 qpA (.op 6 .now (.op 7 .wu (.done))))))))))
theorem trie_Trie_use.run (R : Ending → World → Prop) (t_0 : (Option Addr)) (n_1 : (Option Addr)) (w : World) (h : trie_Trie_use.M R t_0 n_1 w) : Calls Tryz.prog 65 #[(.pointer t_0), (.pointer n_1)] w R := by
  refine calls_of_lift mix_eqc Tryz.func65 (c := trie_Trie_use.body) (by kernel_rfl) [] (trie_Trie_use.ann R) 18 Tryz.ntmps65 [] (by kernel_rfl) (Nat.le_of_ble_eq_true (by kernel_rfl)) ?_ ?_
  · exact ⟨trivial, trivial⟩
  · exact Eq.mp (show trie_Trie_use.M R t_0 n_1 w = _ by kernel_rfl) h
noncomputable def trie_copied.body : Code := (Tryz.f66.body).getD .skip
def trie_copied.b1 (R : Ending → World → Prop) (k1 : (Sl × Sl × Int × Int × Unit) → World → Prop) (out_3 : Sl) (t9 : Sl) (t10 : Int) (t11 : Int) (w : World) : Prop :=
  Cd (decide (t11 < t10)) (Pu Tryz.prog (Instr.indexAt 30 (.slice t9.base t9.len t9.cap) (.int .i64 t11)) (.one (.at .addr)) (fun (x3 : Addr) w4 =>
  Rd Tryz.prog (Instr.loadAt 24 (.pointer (some x3))) (.one (.at .sl)) (fun (x5 : Sl) w6 =>
  Wr Tryz.prog (Builtin.append_ #[24, 24] 24 #[(.slice none 0 0), (.slice x5.base x5.len x5.cap)]) (.one (.at .sl)) (fun (x7 : Sl) w8 =>
  Pu Tryz.prog (Instr.indexAt 30 (.slice out_3.base out_3.len out_3.cap) (.int .i64 t11)) (.one (.at .addr)) (fun (x9 : Addr) w10 =>
  Wu Tryz.prog (Instr.storeAt 24 (.pointer (some x9)) (.slice x7.base x7.len x7.cap)) (fun w11 =>
  k1 (out_3, t9, t10, (IntKind.wrap .i64 (t11 + 1)), ()) w11) w10) w8) w6) w4) w) (R (.returned (.slice out_3.base out_3.len out_3.cap)) w)
def trie_copied.l1 (R : Ending → World → Prop) : (Sl × Sl × Int × Int × Unit) → World → Prop := loopW (fun k1 s w => trie_copied.b1 R k1 s.1 s.2.1 s.2.2.1 s.2.2.2.1 w)
def trie_copied.M (R : Ending → World → Prop) (value_0 : Sl) (w : World) : Prop :=
  Wr Tryz.prog (Instr.makeSlice 30 (.int .i64 ((value_0.len : Nat) : Int)) (.int .i64 ((value_0.len : Nat) : Int))) (.one (.at .sl)) (fun (x1 : Sl) w2 =>
  trie_copied.l1 R (x1, value_0, ((value_0.len : Nat) : Int), 0, ()) w2) w
noncomputable def trie_copied.ann (R : Ending → World → Prop) : Ann :=
  .seq (.reg qN1) (.seq (.reg (.op 0 .now (.op 1 .now (.op 2 (.wr (.one qcS)) (.op 3 .now (.done)))))) (.seq (.seq (.reg qN3) (.block (.loop [(3, qcS), (9, qcS), (10, qcI), (11, qcI)] (fun k1 s w => trie_copied.b1 R k1 s.1 s.2.1 s.2.2.1 s.2.2.2.1 w) (fun k1 => .seq (.reg qN1) (.seq (.cond (.leaf) (.leaf)) (.seq (.block (.seq (.reg (.op 0 .now (.op 1 qpA (.op 2 qrS (.op 3 .now (.op 4 .now (.done))))))) (.reg (.op 0 .now (.op 1 .now (.op 2 .now (.op 3 (.wr (.one qcS)) (.op 4 qpA (.op 5 .wu (.done)))))))))) (.reg qN2))))))) (.seq (.reg qN2) (.leaf))))
theorem trie_copied.run (R : Ending → World → Prop) (value_0 : Sl) (w : World) (h : trie_copied.M R value_0 w) : Calls Tryz.prog 66 #[(.slice value_0.base value_0.len value_0.cap)] w R := by
  refine calls_of_lift mix_eqc Tryz.func66 (c := trie_copied.body) (by kernel_rfl) [.at .sl] (trie_copied.ann R) 23 Tryz.ntmps66 [.tmp 2] (by kernel_rfl) (Nat.le_of_ble_eq_true (by kernel_rfl)) ?_ ?_
  · exact ⟨trivial, ⟨trivial, ⟨⟨trivial, (fun k1 => ⟨fun s w h => Eq.mp (by kernel_rfl) h, ⟨trivial, ⟨⟨trivial, trivial⟩, ⟨⟨trivial, trivial⟩, trivial⟩⟩⟩⟩)⟩, ⟨trivial, trivial⟩⟩⟩⟩
  · exact Eq.mp (show trie_copied.M R value_0 w = _ by kernel_rfl) h
noncomputable def trie_isKey.body : Code := (Tryz.f71.body).getD .skip
def trie_isKey.j1 (R : Ending → World → Prop)  (k1 : (Sl × Sl × Int × Int × Unit) → World → Prop) (key_0 : Sl) (t5 : Sl) (t6 : Int) (t7 : Int) (t30 : Bool) (w : World) : Prop :=
  Cd t30 (R (.returned (.bool false)) w) (k1 (key_0, t5, t6, (IntKind.wrap .i64 (t7 + 1)), ()) w)
def trie_isKey.b1 (R : Ending → World → Prop) (k1 : (Sl × Sl × Int × Int × Unit) → World → Prop) (key_0 : Sl) (t5 : Sl) (t6 : Int) (t7 : Int) (w : World) : Prop :=
  Cd (decide (t7 < t6)) (Pu Tryz.prog (Instr.indexAt 25 (.slice t5.base t5.len t5.cap) (.int .i64 t7)) (.one (.at .addr)) (fun (x1 : Addr) w2 =>
  Rd Tryz.prog (Instr.loadAt 3 (.pointer (some x1))) (.one (.at (.int .i64))) (fun (x3 : Int) w4 =>
  Cd (decide (x3 < 0)) (trie_isKey.j1 R k1 key_0 t5 t6 t7 true w4) (Cd (decide (x3 > 255)) (trie_isKey.j1 R k1 key_0 t5 t6 t7 true w4) (Cd (decide (t7 > 0)) (Pu Tryz.prog (Instr.indexAt 25 (.slice key_0.base key_0.len key_0.cap) (.int .i64 (IntKind.wrap .i64 (t7 - 1)))) (.one (.at .addr)) (fun (x5 : Addr) w6 =>
  Rd Tryz.prog (Instr.loadAt 3 (.pointer (some x5))) (.one (.at (.int .i64))) (fun (x7 : Int) w8 =>
  trie_isKey.j1 R k1 key_0 t5 t6 t7 (decide (x3 ≤ x7)) w8) w6) w4) (trie_isKey.j1 R k1 key_0 t5 t6 t7 false w4)))) w2) w) (R (.returned (.bool true)) w)
def trie_isKey.l1 (R : Ending → World → Prop) : (Sl × Sl × Int × Int × Unit) → World → Prop := loopW (fun k1 s w => trie_isKey.b1 R k1 s.1 s.2.1 s.2.2.1 s.2.2.2.1 w)
def trie_isKey.M (R : Ending → World → Prop) (key_0 : Sl) (w : World) : Prop :=
  trie_isKey.l1 R (key_0, key_0, ((key_0.len : Nat) : Int), 0, ()) w
noncomputable def trie_isKey.ann (R : Ending → World → Prop) : Ann :=
  .seq (.reg qN1) (.seq (.seq (.reg qN3) (.block (.loop [(0, qcS), (5, qcS), (6, qcI), (7, qcI)] (fun k1 s w => trie_isKey.b1 R k1 s.1 s.2.1 s.2.2.1 s.2.2.2.1 w) (fun k1 => .seq (.reg qN1) (.seq (.cond (.leaf) (.leaf)) (.seq (.block (.seq (.reg (.op 0 .now (.op 1 qpA (.op 2 (.rd (.one qcI)) (.op 3 .now (.op 4 .now (.done))))))) (.join [(0, qcS), (5, qcS), (6, qcI), (7, qcI), (30, .at .bool)] (fun s w => trie_isKey.j1 R k1 s.1 s.2.1 s.2.2.1 s.2.2.2.1 s.2.2.2.2.1 w) (.reg (.op 0 .now (.op 1 .now (.op 2 .now (.split 2 (.skip 3 (.skip 4 (.op 5 .now (.op 6 .now (.skip 7 (.skip 8 (.skip 9 (.skip 10 (.skip 11 (.skip 12 (.skip 13 (.skip 14 (.skip 15 (.skip 16 (.skip 17 (.op 18 .now (.done))))))))))))))))) (.op 3 .now (.op 4 .now (.op 5 .now (.op 6 .now (.split 6 (.skip 7 (.skip 8 (.skip 9 (.skip 10 (.skip 11 (.skip 12 (.skip 13 (.skip 14 (.skip 15 (.skip 16 (.skip 17 (.op 18 .now (.done))))))))))))) (.op 7 .now (.op 8 .now (.op 9 .now (.split 9 (.op 10 .now (.op 11 .now (.op 12 .now (.op 13 .now (.op 14 qpA (.op 15 (.rd (.one qcI)) (.op 16 .now (.op 17 .now (.op 18 .now (.done)))))))))) (.skip 10 (.skip 11 (.skip 12 (.skip 13 (.skip 14 (.skip 15 (.skip 16 (.op 17 .now (.op 18 .now (.done)))))))))))))))))))))))) (.cond (.seq (.reg qN1) (.leaf)) (.leaf))))) (.reg qN2))))))) (.seq (.reg qN1) (.leaf)))
theorem trie_isKey.run (R : Ending → World → Prop) (key_0 : Sl) (w : World) (h : trie_isKey.M R key_0 w) : Calls Tryz.prog 71 #[(.slice key_0.base key_0.len key_0.cap)] w R := by
  refine calls_of_lift mix_eqc Tryz.func71 (c := trie_isKey.body) (by kernel_rfl) [.at .bool] (trie_isKey.ann R) 32 Tryz.ntmps71 [.tmp 2] (by kernel_rfl) (Nat.le_of_ble_eq_true (by kernel_rfl)) ?_ ?_
  · exact ⟨trivial, ⟨⟨trivial, (fun k1 => ⟨fun s w h => Eq.mp (by kernel_rfl) h, ⟨trivial, ⟨⟨trivial, trivial⟩, ⟨⟨trivial, ⟨fun s w h => Eq.mp (by kernel_rfl) h, trivial, ⟨⟨trivial, trivial⟩, trivial⟩⟩⟩, trivial⟩⟩⟩⟩)⟩, ⟨trivial, trivial⟩⟩⟩
  · exact Eq.mp (show trie_isKey.M R key_0 w = _ by kernel_rfl) h
noncomputable def trie_Trie_Recent.body : Code := (Tryz.f72.body).getD .skip
def trie_Trie_Recent.j1 (R : Ending → World → Prop)  (t_0 : (Option Addr)) (t12 : Bool) (w : World) : Prop :=
  Cd t12 (R (.returned (.slice none 0 0)) w) (Pu Tryz.prog (nilCk t_0) (.one (.at .addr)) (fun (x1 : Addr) w2 =>
  Rd Tryz.prog (Instr.loadAt 118 (.pointer (some x1))) (.one (.at .ptr)) (fun (x3 : (Option Addr)) w4 =>
  Cl Tryz.prog 95 #[(.pointer x3), (.slice none 0 0), (.slice none 0 0)] (.one (.at .sl)) (fun (x5 : Sl) w6 =>
  Cl Tryz.prog 96 #[(.slice x5.base x5.len x5.cap), (.func (.func 97) #[] #[])] (.tup []) (fun x7 w8 =>
  Cl Tryz.prog 98 #[(.slice x5.base x5.len x5.cap)] (.one (.at .sl)) (fun (x9 : Sl) w10 =>
  R (.returned (.slice x9.base x9.len x9.cap)) w10) w8) w6) w4) w2) w)
def trie_Trie_Recent.M (R : Ending → World → Prop) (t_0 : (Option Addr)) (w : World) : Prop :=
  Pu Tryz.prog (do eqGuard .eql 76 (.tmp 4) (.const (.pointer none)) (.pointer t_0) (.pointer none); binOp .eql 76 (.pointer t_0) (.pointer none)) (.one (.at .bool)) (fun (x11 : Bool) w12 =>
  Cd x11 (trie_Trie_Recent.j1 R t_0 true w12) (Pu Tryz.prog (nilCk t_0) (.one (.at .addr)) (fun (x13 : Addr) w14 =>
  Rd Tryz.prog (Instr.loadAt 118 (.pointer (some x13))) (.one (.at .ptr)) (fun (x15 : (Option Addr)) w16 =>
  Pu Tryz.prog (do eqGuard .eql 118 (.tmp 10) (.const (.pointer none)) (.pointer x15) (.pointer none); binOp .eql 118 (.pointer x15) (.pointer none)) (.one (.at .bool)) (fun (x17 : Bool) w18 =>
  trie_Trie_Recent.j1 R t_0 x17 w18) w16) w14) w12)) w
noncomputable def trie_Trie_Recent.ann (R : Ending → World → Prop) : Ann :=
  .seq (.reg qN1) (.seq (.join [(0, qcP), (12, .at .bool)] (fun s w => trie_Trie_Recent.j1 R s.1 s.2.1 w) (.reg (.op 0 .now (.op 1 (.pu (.one (.at .bool))) (.op 2 .now (.split 2 (.skip 3 (.skip 4 (.skip 5 (.skip 6 (.skip 7 (.op 8 .now (.done))))))) (.op 3 .now (.op 4 qpA (.op 5 .now (.op 6 (.rd (.one qcP)) (.op 7 (.pu (.one (.at .bool))) (.op 8 .now (.done)))))))))))) (.cond (.seq (.reg qN1) (.leaf)) (.leaf))) (.seq (.reg (.op 0 .now (.op 1 qpA (.op 2 .now (.op 3 (.rd (.one qcP)) (.op 4 (.cl (.one qcS)) (.op 5 .now (.done)))))))) (.seq (.reg (.op 0 .now (.op 1 (.cl (.tup [])) (.done)))) (.seq (.reg (.op 0 .now (.op 1 (.cl (.one qcS)) (.op 2 .now (.done))))) (.leaf)))))
theorem trie_Trie_Recent.run (R : Ending → World → Prop) (t_0 : (Option Addr)) (w : World) (h : trie_Trie_Recent.M R t_0 w) : Calls Tryz.prog 72 #[(.pointer t_0)] w R := by
  refine calls_of_lift mix_eqc Tryz.func72 (c := trie_Trie_Recent.body) (by kernel_rfl) [.at .sl] (trie_Trie_Recent.ann R) 22 Tryz.ntmps72 [.tmp 2] (by kernel_rfl) (Nat.le_of_ble_eq_true (by kernel_rfl)) ?_ ?_
  · exact ⟨trivial, ⟨⟨fun s w h => Eq.mp (by kernel_rfl) h, trivial, ⟨⟨trivial, trivial⟩, trivial⟩⟩, ⟨trivial, ⟨trivial, ⟨trivial, trivial⟩⟩⟩⟩⟩
  · exact Eq.mp (show trie_Trie_Recent.M R t_0 w = _ by kernel_rfl) h
noncomputable def trie_Trie_Drop.body : Code := (Tryz.f73.body).getD .skip
def trie_Trie_Drop.M (R : Ending → World → Prop) (t_0 : (Option Addr)) (key_1 : Sl) (w : World) : Prop :=
  Cl Tryz.prog 64 #[(.pointer t_0), (.slice key_1.base key_1.len key_1.cap)] (.one (.at .ptr)) (fun (x1 : (Option Addr)) w2 =>
  Pu Tryz.prog (do eqGuard .eql 118 (.tmp 9) (.const (.pointer none)) (.pointer x1) (.pointer none); binOp .eql 118 (.pointer x1) (.pointer none)) (.one (.at .bool)) (fun (x3 : Bool) w4 =>
  Cd x3 (R (.returned (.bool false)) w4) (Pu Tryz.prog (nilCk x1) (.one (.at .addr)) (fun (x5 : Addr) w6 =>
  Wu Tryz.prog (Instr.storeAt 4 (.pointer (some (Addr.add x5 1))) (.bool false)) (fun w7 =>
  Pu Tryz.prog (nilCk x1) (.one (.at .addr)) (fun (x8 : Addr) w9 =>
  Wu Tryz.prog (Instr.storeAt 30 (.pointer (some (Addr.add x8 2))) (.slice none 0 0)) (fun w10 =>
  Pu Tryz.prog (nilCk t_0) (.one (.at .addr)) (fun (x11 : Addr) w12 =>
  Rd Tryz.prog (Instr.loadAt 3 (.pointer (some (Addr.add x11 2)))) (.one (.at (.int .i64))) (fun (x13 : Int) w14 =>
  Pu Tryz.prog (nilCk t_0) (.one (.at .addr)) (fun (x15 : Addr) w16 =>
  Wu Tryz.prog (Instr.storeAt 3 (.pointer (some (Addr.add x15 2))) (.int .i64 (IntKind.wrap .i64 (x13 - 1)))) (fun w17 =>
  Pu Tryz.prog (nilCk t_0) (.one (.at .addr)) (fun (x18 : Addr) w19 =>
  Rd Tryz.prog (Instr.loadAt 118 (.pointer (some x18))) (.one (.at .ptr)) (fun (x20 : (Option Addr)) w21 =>
  Cl Tryz.prog 99 #[(.pointer x20), (.slice key_1.base key_1.len key_1.cap)] (.one (.at .bool)) (fun (x22 : Bool) w23 =>
  R (.returned (.bool true)) w23) w21) w19) w17) w16) w14) w12) w10) w9) w7) w6) w4)) w2) w
noncomputable def trie_Trie_Drop.ann (R : Ending → World → Prop) : Ann :=
  .seq (.reg qN1) (.seq (.reg (.op 0 .now (.op 1 .now (.op 2 (.cl (.one qcP)) (.op 3 .now (.done)))))) (.seq (.seq (.reg (.op 0 .now (.op 1 (.pu (.one (.at .bool))) (.done)))) (.cond (.seq (.reg qN1) (.leaf)) (.leaf))) (.seq (.reg (.op 0 .now (.op 1 .now (.op 2 qpA (.op 3 .now (.op 4 .wu (.op 5 qpA (.op 6 .now (.op 7 .wu (.done)))))))))) (.seq (.reg (.op 0 .now (.op 1 qpA (.op 2 .now (.op 3 (.rd (.one qcI)) (.op 4 .now (.op 5 qpA (.op 6 .now (.op 7 .wu (.done)))))))))) (.seq (.reg (.op 0 .now (.op 1 qpA (.op 2 .now (.op 3 (.rd (.one qcP)) (.op 4 .now (.op 5 (.cl (.one (.at .bool))) (.done)))))))) (.seq (.reg qN1) (.leaf)))))))
theorem trie_Trie_Drop.run (R : Ending → World → Prop) (t_0 : (Option Addr)) (key_1 : Sl) (w : World) (h : trie_Trie_Drop.M R t_0 key_1 w) : Calls Tryz.prog 73 #[(.pointer t_0), (.slice key_1.base key_1.len key_1.cap)] w R := by
  refine calls_of_lift mix_eqc Tryz.func73 (c := trie_Trie_Drop.body) (by kernel_rfl) [.at .bool] (trie_Trie_Drop.ann R) 30 Tryz.ntmps73 [.tmp 4] (by kernel_rfl) (Nat.le_of_ble_eq_true (by kernel_rfl)) ?_ ?_
  · exact ⟨trivial, ⟨trivial, ⟨⟨trivial, ⟨⟨trivial, trivial⟩, trivial⟩⟩, ⟨trivial, ⟨trivial, ⟨trivial, ⟨trivial, trivial⟩⟩⟩⟩⟩⟩⟩
  · exact Eq.mp (show trie_Trie_Drop.M R t_0 key_1 w = _ by kernel_rfl) h
noncomputable def trie_fresh.body : Code := (Tryz.f74.body).getD .skip
def trie_fresh.M (R : Ending → World → Prop)  (w : World) : Prop :=
  Wr Tryz.prog (Instr.makeMap 121 none) (.one (.at .map)) (fun (x1 : (Option Nat)) w2 =>
  Wr Tryz.prog (Instr.box 123 (.agg #[(.map x1), (.bool false), (.slice none 0 0), (.int .i64 0)])) (.one (.at .addr)) (fun (x3 : Addr) w4 =>
  R (.returned (.pointer (some x3))) w4) w2) w
noncomputable def trie_fresh.ann (R : Ending → World → Prop) : Ann :=
  .seq (.reg qN1) (.seq (.reg (.op 0 (.wr (.one (.at .map))) (.op 1 .now (.op 2 (.wr (.one (.at .addr))) (.op 3 .now (.done)))))) (.leaf))
theorem trie_fresh.run (R : Ending → World → Prop)  (w : World) (h : trie_fresh.M R  w) : Calls Tryz.prog 74 #[] w R := by
  refine calls_of_lift mix_eqc Tryz.func74 (c := trie_fresh.body) (by kernel_rfl) [.at .ptr] (trie_fresh.ann R) 4 Tryz.ntmps74 [.tmp 0] (by kernel_rfl) (Nat.le_of_ble_eq_true (by kernel_rfl)) ?_ ?_
  · exact ⟨trivial, ⟨trivial, trivial⟩⟩
  · exact Eq.mp (show trie_fresh.M R  w = _ by kernel_rfl) h
noncomputable def trie_Trie_find.body : Code := (Tryz.f88.body).getD .skip
def trie_Trie_find.b1 (R : Ending → World → Prop) (k1 : ((Option Addr) × Sl × Int × Int × Unit) → World → Prop) (n_5 : (Option Addr)) (t26 : Sl) (t27 : Int) (t28 : Int) (w : World) : Prop :=
  Cd (decide (t28 < t27)) (Pu Tryz.prog (Instr.indexAt 25 (.slice t26.base t26.len t26.cap) (.int .i64 t28)) (.one (.at .addr)) (fun (x5 : Addr) w6 =>
  Rd Tryz.prog (Instr.loadAt 3 (.pointer (some x5))) (.one (.at (.int .i64))) (fun (x7 : Int) w8 =>
  Pu Tryz.prog (nilCk n_5) (.one (.at .addr)) (fun (x9 : Addr) w10 =>
  Rd Tryz.prog (Instr.loadAt 121 (.pointer (some x9))) (.one (.at .map)) (fun (x11 : (Option Nat)) w12 =>
  Rd Tryz.prog (Instr.lookup 121 (.map x11) (.int .i64 x7) false) (.one (.at .ptr)) (fun (x13 : (Option Addr)) w14 =>
  Pu Tryz.prog (do eqGuard .eql 118 (.tmp 38) (.const (.pointer none)) (.pointer x13) (.pointer none); binOp .eql 118 (.pointer x13) (.pointer none)) (.one (.at .bool)) (fun (x15 : Bool) w16 =>
  Cd x15 (R (.returned (.pointer none)) w16) (k1 (x13, t26, t27, (IntKind.wrap .i64 (t28 + 1)), ()) w16)) w14) w12) w10) w8) w6) w) (R (.returned (.pointer n_5)) w)
def trie_Trie_find.l1 (R : Ending → World → Prop) : ((Option Addr) × Sl × Int × Int × Unit) → World → Prop := loopW (fun k1 s w => trie_Trie_find.b1 R k1 s.1 s.2.1 s.2.2.1 s.2.2.2.1 w)
def trie_Trie_find.j1 (R : Ending → World → Prop)  (t_0 : (Option Addr)) (key_1 : Sl) (t21 : Bool) (w : World) : Prop :=
  Cd t21 (R (.returned (.pointer none)) w) (Pu Tryz.prog (nilCk t_0) (.one (.at .addr)) (fun (x1 : Addr) w2 =>
  Rd Tryz.prog (Instr.loadAt 118 (.pointer (some x1))) (.one (.at .ptr)) (fun (x3 : (Option Addr)) w4 =>
  trie_Trie_find.l1 R (x3, key_1, ((key_1.len : Nat) : Int), 0, ()) w4) w2) w)
def trie_Trie_find.M (R : Ending → World → Prop) (t_0 : (Option Addr)) (key_1 : Sl) (w : World) : Prop :=
  Pu Tryz.prog (do eqGuard .eql 76 (.tmp 8) (.const (.pointer none)) (.pointer t_0) (.pointer none); binOp .eql 76 (.pointer t_0) (.pointer none)) (.one (.at .bool)) (fun (x17 : Bool) w18 =>
  Cd x17 (trie_Trie_find.j1 R t_0 key_1 true w18) (Pu Tryz.prog (nilCk t_0) (.one (.at .addr)) (fun (x19 : Addr) w20 =>
  Rd Tryz.prog (Instr.loadAt 118 (.pointer (some x19))) (.one (.at .ptr)) (fun (x21 : (Option Addr)) w22 =>
  Pu Tryz.prog (do eqGuard .eql 118 (.tmp 14) (.const (.pointer none)) (.pointer x21) (.pointer none); binOp .eql 118 (.pointer x21) (.pointer none)) (.one (.at .bool)) (fun (x23 : Bool) w24 =>
  Cd x23 (trie_Trie_find.j1 R t_0 key_1 true w24) (Cl Tryz.prog 71 #[(.slice key_1.base key_1.len key_1.cap)] (.one (.at .bool)) (fun (x25 : Bool) w26 =>
  trie_Trie_find.j1 R t_0 key_1 (!x25) w26) w24)) w22) w20) w18)) w
noncomputable def trie_Trie_find.ann (R : Ending → World → Prop) : Ann :=
  .seq (.reg qN1) (.seq (.join [(0, qcP), (1, qcS), (21, .at .bool)] (fun s w => trie_Trie_find.j1 R s.1 s.2.1 s.2.2.1 w) (.reg (.op 0 .now (.op 1 (.pu (.one (.at .bool))) (.op 2 .now (.split 2 (.skip 3 (.skip 4 (.skip 5 (.skip 6 (.skip 7 (.op 8 .now (.op 9 .now (.skip 10 (.skip 11 (.skip 12 (.op 13 .now (.done)))))))))))) (.op 3 .now (.op 4 qpA (.op 5 .now (.op 6 (.rd (.one qcP)) (.op 7 (.pu (.one (.at .bool))) (.op 8 .now (.op 9 .now (.split 9 (.skip 10 (.skip 11 (.skip 12 (.op 13 .now (.done))))) (.op 10 .now (.op 11 (.cl (.one (.at .bool))) (.op 12 .now (.op 13 .now (.done)))))))))))))))))) (.cond (.seq (.reg qN1) (.leaf)) (.leaf))) (.seq (.reg (.op 0 .now (.op 1 qpA (.op 2 .now (.op 3 (.rd (.one qcP)) (.op 4 .now (.done))))))) (.seq (.seq (.reg qN3) (.block (.loop [(5, qcP), (26, qcS), (27, qcI), (28, qcI)] (fun k1 s w => trie_Trie_find.b1 R k1 s.1 s.2.1 s.2.2.1 s.2.2.2.1 w) (fun k1 => .seq (.reg qN1) (.seq (.cond (.leaf) (.leaf)) (.seq (.block (.seq (.reg (.op 0 qpA (.op 1 (.rd (.one qcI)) (.op 2 .now (.done))))) (.seq (.reg (.op 0 .now (.op 1 qpA (.op 2 .now (.op 3 (.rd (.one (.at .map))) (.op 4 .now (.op 5 (.rd (.one qcP)) (.op 6 .now (.done))))))))) (.seq (.reg (.op 0 .now (.op 1 (.pu (.one (.at .bool))) (.done)))) (.cond (.seq (.reg qN1) (.leaf)) (.leaf)))))) (.reg qN2))))))) (.seq (.reg qN2) (.leaf)))))
theorem trie_Trie_find.run (R : Ending → World → Prop) (t_0 : (Option Addr)) (key_1 : Sl) (w : World) (h : trie_Trie_find.M R t_0 key_1 w) : Calls Tryz.prog 88 #[(.pointer t_0), (.slice key_1.base key_1.len key_1.cap)] w R := by
  refine calls_of_lift mix_eqc Tryz.func88 (c := trie_Trie_find.body) (by kernel_rfl) [.at .ptr] (trie_Trie_find.ann R) 42 Tryz.ntmps88 [.tmp 4] (by kernel_rfl) (Nat.le_of_ble_eq_true (by kernel_rfl)) ?_ ?_
  · exact ⟨trivial, ⟨⟨fun s w h => Eq.mp (by kernel_rfl) h, trivial, ⟨⟨trivial, trivial⟩, trivial⟩⟩, ⟨trivial, ⟨⟨trivial, (fun k1 => ⟨fun s w h => Eq.mp (by kernel_rfl) h, ⟨trivial, ⟨⟨trivial, trivial⟩, ⟨⟨trivial, ⟨trivial, ⟨trivial, ⟨⟨trivial, trivial⟩, trivial⟩⟩⟩⟩, trivial⟩⟩⟩⟩)⟩, ⟨trivial, trivial⟩⟩⟩⟩⟩
  · exact Eq.mp (show trie_Trie_find.M R t_0 key_1 w = _ by kernel_rfl) h
end Go.Proofs.YtbiilejgfihohaaGreat
set_option linter.all false
namespace Go.Proofs.YtbiilejgfihohaaGreat
open Go Go.Cu Go.RowKit
set_option linter.unusedVariables false
set_option maxHeartbeats 4000000
set_option maxRecDepth 100000
structure SetH (w : World) (sp b kb : Nat) : Prop where
  has : Has w sp [kerV b kb, natV b] 136
  ker : KerH b kb w
  le : b ≤ 2
theorem SetH.mo {X : Nat → Prop} {w w' : World} {sp b kb : Nat} (h : SetH w sp b kb) (m : Mo X w w') (h1 : ¬ X sp) (h2 : ¬ X kb) : SetH w' sp b kb := ⟨h.has.mo m h1, h.ker.mo m h2, h.le⟩
theorem SetH.ex {w w' : World} {sp b kb : Nat} (h : SetH w sp b kb) (m : Ex w w') : SetH w' sp b kb := h.mo m id id
theorem eq_kn (t : TypeId) (u : Value) (w' : World) : ∀ {x : Tmp}, (do eqGuard .eql 132 (.tmp x) (.const .nilIface) (.iface t u) .nilIface; binOp .eql 132 (.iface t u) .nilIface : Sem Value).run Tryz.prog w' = .ok (.bool false) w' := by
  intro x; kernel_rfl
theorem Pu_kn {b kb : Nat} {x : Tmp} {k : Bool → World → Prop} {w : World} (hk : k false w) :
    Pu Tryz.prog (do eqGuard .eql 132 (.tmp x) (.const .nilIface) (kerV b kb) .nilIface; binOp .eql 132 (kerV b kb) .nilIface) (.one (.at .bool)) k w := ⟨false, fun w' => eq_kn _ _ w', hk⟩
theorem Nx_kn {b kb : Nat} {k : Value → World → Prop} {w : World} (h : k (kerV b kb) w) : Nx Tryz.prog (nilAny (kerV b kb)) (.one (.at .any)) k w := .inl ⟨_, _, rfl, h⟩
theorem Pu_setnil {x y : Operand} {a : Addr} {k : Bool → World → Prop} {w : World} (hk : k false w) :
    Pu Tryz.prog (do eqGuard .eql 75 x y (.pointer (some a)) (.pointer none); binOp .eql 75 (.pointer (some a)) (.pointer none)) (.one (.at .bool)) k w := Pu_notnil (e := 136) (by kernel_rfl) hk
theorem newSet_ok {b : Nat} (hb : b ≤ 2) (w : World) : Cl Tryz.prog 51 #[natV b] (.tup [.at .ptr, .at (.int .i64)]) (fun x w' => ∃ sp kb, x = (at0 sp, 0, ()) ∧ SetH w' sp b kb ∧ w.heap.size ≤ sp ∧ sp < w'.heap.size ∧ w.heap.size ≤ kb ∧ kb < w'.heap.size ∧ Ex w w') w := by
  refine kernel_New.run _ (b : Int) w ?_
  generalize hRR : (fun (e : Ending) (w' : World) => ∃ x : Option Addr × Int × Unit, e = .returned ((Sh.tup [.at .ptr, .at (.int .i64)]).enc x) ∧ ∃ sp kb, x = (at0 sp, 0, ()) ∧ SetH w' sp b kb ∧ w.heap.size ≤ sp ∧ sp < w'.heap.size ∧ w.heap.size ≤ kb ∧ kb < w'.heap.size ∧ Ex w w') = R
  unfold kernel_New.M
  have fin : ∀ {w1 : World} {kb : Nat}, KerH b kb w1 → w.heap.size ≤ kb → kb < w1.heap.size → Ex w w1 → kernel_New.j1 R (b : Int) (kerV b kb) w1 := by
    intro w1 kb hK h1 h2 hx1
    unfold kernel_New.j1
    refine ⟨(kerV b kb, (b : Int), ()), fun w' => by unfold kerV; kernel_rfl, ?_⟩
    refine Wr_box fun w2 hB hx2 => ?_
    subst hRR
    exact ⟨(at0 w1.heap.size, 0, ()), rfl, w1.heap.size, kb, rfl, ⟨hB, hK.mo hx2 id, hb⟩, hx1.size, hB.lt, h1, Nat.lt_of_lt_of_le h2 hx2.size, hx1.trans hx2⟩
  have h3 : b = 0 ∨ b = 1 ∨ b = 2 := by omega
  rcases h3 with rfl | rfl | rfl
  · refine Cd_eq (fun _ => ?_) (fun h => absurd rfl h)
    refine Cl_mono (tabNew_ok w) ?_
    rintro x w1 ⟨g, rfl, h1, h2, h3, h4⟩
    exact fin (fun _ => h3) h1 h2 h4
  · refine Cd_eq (fun h => by cases h) (fun _ => Cd_eq (fun _ => ?_) (fun h => absurd rfl h))
    refine Cl_mono (nibNew_ok w) ?_
    rintro x w1 ⟨g, rfl, h1, h2, h4⟩
    exact fin (kb := g) (fun h => by cases h) h1 h2 h4
  · refine Cd_eq (fun h => by cases h) (fun _ => Cd_eq (fun h => by cases h) (fun _ => Cd_eq (fun _ => ?_) (fun h => absurd rfl h)))
    refine Cl_mono (sliNew_ok w) ?_
    rintro x w1 ⟨g, rfl, h1, h2, h4⟩
    exact fin (kb := g) (fun h => by cases h) h1 h2 h4
theorem Wr_clear {w : World} {s : Sl} {g o : Nat} {cs : List Value} {l : List F8} {ty : TypeId} {K : Value → World → Prop} (h : Win w s g o cs l) (hk : ∀ w', Win w' s g o cs (List.replicate l.length 0#8) → Mo (fun b => b = g) w w' → K (.tuple #[]) w') :
    Wr Tryz.prog (Builtin.clear_ #[24] ty #[.slice s.base s.len s.cap]) (.one (.at .any)) K w := by
  obtain ⟨sb, sl, sc⟩ := s
  have hl : sl = l.length := h.len
  subst hl
  by_cases h0 : l.length = 0
  · refine ⟨.tuple #[], w, ?_, hk w ?_ (Mo.refl _ _)⟩
    · rw [h0]
      cases sb <;> simp [Builtin.clear_, run_underlying tB] <;> rfl
    · rw [h0]
      have : l = [] := List.eq_nil_of_length_eq_zero h0
      subst this
      exact h
  · have hb := h.base (by omega)
    simp only at hb
    subst hb
    have hz : (zeroValue 5).run Tryz.prog w = .ok (.int .u8 0) w := by kernel_rfl
    have hzc : (Builtin.zeroCells (Value.int .u8 0).cells l.length).toList = List.replicate l.length (.int .u8 0) := by
      have : ∀ n, (Builtin.zeroCells #[Value.int .u8 0] n).toList = List.replicate n (.int .u8 0) := by
        intro n
        unfold Builtin.zeroCells
        simp only [List.size_toArray, List.length_cons, List.length_nil]
        simp
        have e : ∀ i : Nat, ([Value.int .u8 0][i % 1]?).getD default = .int .u8 0 := fun i => by rw [Nat.mod_one]; rfl
        simp only [e, List.map_const', List.length_range]
      exact this _
    have hst := run_storeCells_at Tryz.prog g o 5 (List.replicate l.length (.int .u8 0)) 0 _ w h.has (by rw [List.length_replicate, List.size_toArray, putW_len h.le]; have := h.le; omega) (fun v hv => by rw [(List.mem_replicate.1 hv).2]; rfl)
    have eC : ((putW cs o l).toArray).toList.take (o + 0) ++ List.replicate l.length (.int .u8 0) ++ ((putW cs o l).toArray).toList.drop (o + 0 + (List.replicate l.length (Value.int .u8 0)).length) = putW cs o (List.replicate l.length 0#8) := by
      rw [Nat.add_zero, List.length_replicate]
      have e2 : putW (putW cs o l) o (List.replicate l.length 0#8) = putW cs o (List.replicate l.length 0#8) := putW_put h.le (by rw [List.length_replicate])
      rw [← e2]
      unfold putW
      rw [List.map_replicate, List.length_replicate]
      rfl
    rw [eC] at hst
    refine ⟨.tuple #[], w.setRow g (putW cs o (List.replicate l.length 0#8)).toArray, ?_, hk (w.setRow g (putW cs o (List.replicate l.length 0#8)).toArray) ⟨setRow_heap w g (putW cs o l).toArray _ 5 (0, 0) h.has, by rw [List.length_replicate]; exact h.le, by rw [List.length_replicate], h.cap, fun _ => rfl⟩ (Mo.setRow w g _)⟩
    have hne : ∃ n, l.length = n + 1 := ⟨l.length - 1, by omega⟩
    obtain ⟨n, hn⟩ := hne
    have e : (Builtin.clear_ #[24] ty #[.slice (some ⟨g, o, none⟩) l.length sc]).run Tryz.prog w = ((do storeCells ⟨g, o, none⟩ (Builtin.zeroCells (← zeroValue 5).cells l.length).toList; pure (.tuple #[]) : Sem Value)).run Tryz.prog w := by
      rw [hn]
      simp [Builtin.clear_, run_underlying tB]
    show (Builtin.clear_ #[24] ty #[.slice (some ⟨g, o, none⟩) l.length sc]).run Tryz.prog w = _
    rw [e]
    rw [run_bind, hz]
    simp only
    rw [run_bind, hzc, hst]
    rfl
end Go.Proofs.YtbiilejgfihohaaGreat
set_option linter.all false
namespace Go.Proofs.YtbiilejgfihohaaGreat
open Go Go.Cu Go.RowKit
set_option linter.unusedVariables false
set_option maxHeartbeats 4000000
set_option maxRecDepth 100000
theorem atx {α : Type} {l : List α} {i : Nat} (h : i < l.length) : ∃ x, l[i]? = some x := ⟨_, List.getElem?_eq_getElem h⟩
def cutM (a b : Nat) (S : Mtx) : Mtx := S.map (fun x => (x.take b).drop a)
def sumPre (n : Nat) (r : List F8) (S : Mtx) (i : Nat) : List F8 := ((r.take i).zip (S.take i)).foldl (fun acc p => addM p.2 p.1 acc) (List.replicate n 0#8)
theorem sumPre_all {n : Nat} {r : List F8} {S : Mtx} (h : r.length = S.length) : sumPre n r S r.length = sumRow n r S := by
  unfold sumPre sumRow
  rw [List.take_length, h, List.take_length]
theorem sumPre_len {n : Nat} {r : List F8} {S : Mtx} (i : Nat) (hs : ∀ x ∈ S, x.length = n) : (sumPre n r S i).length = n := by
  unfold sumPre
  exact fold_len n _ _ (by simp) (fun p hp => hs _ (List.mem_of_mem_take (List.of_mem_zip hp).2))
theorem sumPre_succ {n : Nat} {r x : List F8} {S : Mtx} {i : Nat} {c : F8} (hc : r[i]? = some c) (hx : S[i]? = some x) : sumPre n r S (i + 1) = addM x c (sumPre n r S i) := by
  unfold sumPre
  have h1 := (List.getElem?_eq_some_iff.1 hc).1
  have h2 := (List.getElem?_eq_some_iff.1 hx).1
  rw [List.take_add_one, List.take_add_one, hc, hx]
  rw [List.zip_append (by rw [List.length_take, List.length_take]; omega), List.foldl_append]
  rfl
theorem sum_ok {w : World} {sp b kb g o fr : Nat} {row srcs dst : Sl} {hs : List Sl} {S : Mtx} {r : List F8} {cs : List Value} {l : List F8} (hK : SetH w sp b kb) (hsp : sp ≠ g) (hkb : kb ≠ g) (hr : Rds f8v w row r) (hrg : ∀ b, SlIn row b → b ≠ g)
    (hS : MatR w srcs hs S) (hS1 : ∀ b, SlIn srcs b → b ≠ g) (hS2 : ∀ (i : Nat) (h : Sl), hs[i]? = some h → ∀ b, SlIn h b → b ≠ g) (hlen : r.length = S.length) (hrl : r.length ≤ 65536) (hn : ∀ x ∈ S, fr + l.length ≤ x.length) (hW : Win w dst g o cs l) (hm : fr + l.length ≤ 1099511627776) :
    Cl Tryz.prog 57 #[.pointer (at0 sp), .slice row.base row.len row.cap, .slice srcs.base srcs.len srcs.cap, .int .i64 (fr : Int), .slice dst.base dst.len dst.cap] (.tup []) (fun _ w' => Win w' dst g o cs (sumRow l.length r (cutM fr (fr + l.length) S)) ∧ Mo (fun b => b = g) w w') w := by
  refine kernel_Set_sum.run _ (at0 sp) row srcs (fr : Int) dst w ?_
  generalize hRR : (fun (e : Ending) (w' : World) => ∃ x : Cxs [], e = .returned ((Sh.tup []).enc x) ∧ Win w' dst g o cs (sumRow l.length r (cutM fr (fr + l.length) S)) ∧ Mo (fun b => b = g) w w') = R
  unfold kernel_Set_sum.M
  have hdl := hW.len
  have hrl2 := hr.1
  have hcl : (cutM fr (fr + l.length) S).length = S.length := by unfold cutM; rw [List.length_map]
  have hcn : ∀ x ∈ cutM fr (fr + l.length) S, x.length = l.length := by
    intro x hx
    unfold cutM at hx
    obtain ⟨y, hy, rfl⟩ := List.mem_map.1 hx
    have := hn y hy
    rw [List.length_drop, List.length_take]; omega
  refine Wr_clear hW fun w1 hW1 hm1 => ?_
  unfold kernel_Set_sum.l1
  refine loopW_of (fun st w' => ∃ i : Nat, st = (at0 sp, srcs, (fr : Int), dst, row, ((row.len : Nat) : Int), (i : Int), ()) ∧ i ≤ r.length ∧ Win w' dst g o cs (sumPre l.length r (cutM fr (fr + l.length) S) i) ∧ Mo (fun b => b = g) w w') (fun st _ => (((row.len : Nat) : Int) - st.2.2.2.2.2.2.1).toNat) ?_
    ⟨0, rfl, Nat.zero_le _, by unfold sumPre; simpa using hW1, hm1⟩
  rintro k _ w2 ⟨i, rfl, hi, hW2, hm2⟩ hk
  unfold kernel_Set_sum.b1
  dsimp only at hk ⊢
  refine Cd_dec (fun hlt => ?_) (fun hge => ?_)
  · have hir : i < r.length := by omega
    obtain ⟨c, hc⟩ := atx hir
    obtain ⟨x, hx⟩ := atx (l := S) (i := i) (by omega)
    obtain ⟨h, hgi⟩ := atx (l := hs) (i := i) (by rw [hS.len]; omega)
    have hxn := hn x (List.mem_of_getElem? hx)
    have hcx : (cutM fr (fr + l.length) S)[i]? = some ((x.take (fr + l.length)).drop fr) := by unfold cutM; rw [List.getElem?_map, hx]; rfl
    refine rd_ent (hr.mo hm2 (fun a ha => hrg _ (slin_of ha))) hc ?_
    have hm3 := hm2.ex (Ex.drew w2)
    have hS3 : MatR w2.drew srcs hs S := hS.mo hm3 hS1 hS2
    have hK3 : SetH w2.drew sp b kb := hK.mo hm3 hsp hkb
    refine Held_of (fun w' => SetH w' sp b kb ∧ MatR w' srcs hs S) ⟨hK3, hS3⟩ ?_
    refine Pu_nil ?_
    refine RdS_has (c := .any) (x := kerV b kb) (fun w' h => h.1.has) (by kernel_rfl) rfl ?_
    refine rdS_hdr hS3.hdr (fun w' h => h.2.hdr) hgi ?_
    have hrow := hS3.row i h x hgi hx
    have hhl := hrow.1
    have hhc := hrow.2.1
    rw [wrap64 (by omega) (by omega)]
    refine Pu_cut fr (fr + l.length) tB sB (.inr ⟨_, rfl⟩) (.inr ⟨.i64, by rw [hdl]; norm_cast⟩) (by omega) (by omega) ?_
    refine Nx_kn ⟨⟨hK3, hS3⟩, ?_⟩
    have hW3 := hW2.ex (Ex.drew w2)
    have hpl := sumPre_len (r := r) i hcn
    have hadd := ker_add (c := c) hK3.le hK3.ker hkb hW3 (rds_cut hrow (a := fr) (b := fr + l.length) (by omega) (by omega)) (by rw [List.length_drop, List.length_take, hpl]; omega) (fun b hb => hS2 i h hgi b (cut_in hb)) (by rw [hpl]; omega)
    have hadd' : Nx Tryz.prog (callMethod (kerV b kb) "MulAdd" #[f8v c, .slice dst.base dst.len dst.cap, .slice (cutS h fr (fr + l.length)).base (cutS h fr (fr + l.length)).len (cutS h fr (fr + l.length)).cap]) (.one (.at (.int .i64))) (fun x' w' => (SetH w' sp b kb ∧ MatR w' srcs hs S) ∧ kernel_Set_sum.j1 R k (at0 sp) srcs (fr : Int) dst row ((row.len : Nat) : Int) (i : Int) w') w2.drew := by
      have fin : ∀ (x' : Int) (w' : World), (x' = 0 ∧ Win w' dst g o cs (addM ((x.take (fr + l.length)).drop fr) c (sumPre l.length r (cutM fr (fr + l.length) S) i)) ∧ Mo (fun b => b = g) w2.drew w') → (SetH w' sp b kb ∧ MatR w' srcs hs S) ∧ kernel_Set_sum.j1 R k (at0 sp) srcs (fr : Int) dst row ((row.len : Nat) : Int) (i : Int) w' := by
        rintro x' w' ⟨_, h5, m5⟩
        refine ⟨⟨hK3.mo m5 hsp hkb, hS3.mo m5 hS1 hS2⟩, ?_⟩
        unfold kernel_Set_sum.j1
        rw [← sumPre_succ hc hcx] at h5
        rw [wrap64 (by omega) (by omega), show (i : Int) + 1 = ((i + 1 : Nat) : Int) by omega]
        exact hk _ _ ⟨i + 1, rfl, by omega, h5, Mo.trans hm3 m5 (fun _ => id) (fun _ _ => id)⟩ (by dsimp only; omega)
      rcases hadd with ⟨y, w', h1, h2⟩ | ⟨f, args, w', h1, h2⟩ | ⟨q, args, w', h1, h2⟩
      · exact .inl ⟨y, w', h1, fin y w' h2⟩
      · exact .inr (.inl ⟨f, args, w', h1, Cl_mono h2 fin⟩)
      · exact .inr (.inr ⟨q, args, w', h1, Rows.mono h2 fun v w'' ⟨y, e, hy⟩ => ⟨y, e, fin y w'' hy⟩⟩)
    exact hadd'
  · have hir : i = r.length := by omega
    subst hir
    rw [sumPre_all (by rw [hcl]; exact hlen)] at hW2
    subst hRR
    exact ⟨(), rfl, hW2, hm2⟩
theorem kwithin_gv {w : World} {fr to n : Nat} (h1 : fr ≤ to) (h2 : to ≤ n) : Gv Tryz.prog 75 #[.agg #[.int .i64 (fr : Int), .int .i64 (to : Int)], .int .i64 (n : Int)] (.int .i64 0) w := by
  refine kernel_within.run _ ((fr : Int), (to : Int), ()) (n : Int) w ?_
  unfold kernel_within.M
  refine Wr_box fun w1 hB hx => ?_
  have e : (⟨w.heap.size, 0, none⟩ : Addr).add 1 = ⟨w.heap.size, 1, none⟩ := rfl
  refine Rd_has (c := .int .i64) (x := (fr : Int)) hB (by kernel_rfl) rfl ?_
  refine Cd_dec (fun h => by omega) (fun _ => ?_)
  rw [e]
  refine Rd_has (c := .int .i64) (x := (to : Int)) hB (by kernel_rfl) rfl ?_
  refine Rd_has (c := .int .i64) (x := (fr : Int)) hB (by kernel_rfl) rfl ?_
  refine Cd_dec (fun h => by omega) (fun _ => ?_)
  refine Rd_has (c := .int .i64) (x := (to : Int)) hB (by kernel_rfl) rfl ?_
  unfold kernel_within.j1
  refine Cd_dec (fun h => by omega) (fun _ => ⟨rfl, hx⟩)
def Len (n : Nat) (hs : List Sl) : Prop := ∀ h ∈ hs, h.len = n
theorem MatR.lenS {w : World} {s : Sl} {hs : List Sl} {M : Mtx} {n : Nat} (h : MatR w s hs M) (hn : ∀ x ∈ M, x.length = n) : Len n hs := by
  intro g hg
  obtain ⟨i, hi⟩ := List.mem_iff_getElem?.1 hg
  have hl := (List.getElem?_eq_some_iff.1 hi).1
  obtain ⟨x, hx⟩ := atx (l := M) (i := i) (by rw [← h.len]; exact hl)
  have := (h.row i g _ hi hx).1
  rw [this]
  exact hn _ (List.mem_of_getElem? hx)
theorem fits_gv {w : World} {sp b kb fr to n : Nat} {rows srcs dsts : Sl} {hr hs hd : List Sl} (hK : SetH w sp b kb) (hA : Rds slV w rows hr) (hS : Rds slV w srcs hs) (hD : Rds slV w dsts hd) (hal : Len hs.length hr) (hsl : Len n hs) (hdl : Len n hd) (hrd : hr.length = hd.length) (hs1 : 1 ≤ hs.length)
    (hl1 : hr.length ≤ 65536) (hl2 : hs.length ≤ 65536) (hn : n ≤ 1099511627776) (h1 : fr ≤ to) (h2 : to ≤ n) :
    Gv Tryz.prog 56 #[.pointer (at0 sp), .slice rows.base rows.len rows.cap, .slice srcs.base srcs.len srcs.cap, .slice dsts.base dsts.len dsts.cap, .agg #[.int .i64 (fr : Int), .int .i64 (to : Int)]] (.int .i64 0) w := by
  refine kernel_Set_fits.run _ (at0 sp) rows srcs dsts ((fr : Int), (to : Int), ()) w ?_
  unfold kernel_Set_fits.M
  have e1 := hA.1
  have e2 := hS.1
  have e3 := hD.1
  refine Wr_box fun w1 hB hx1 => ?_
  refine Pu_setnil (Cd_f (Pu_nil ?_))
  refine Rd_has (c := .any) (x := kerV b kb) (hK.ex hx1).has (by kernel_rfl) rfl (Pu_kn ?_)
  unfold kernel_Set_fits.j1
  refine Cd_f (Cd_ne (fun h => by omega) (fun _ => ?_))
  generalize w.heap.size = ab at hB ⊢
  unfold kernel_Set_fits.l1
  refine loopW_of (fun st w' => ∃ i : Nat, st = (srcs, dsts, ⟨ab, 0, none⟩, rows, ((rows.len : Nat) : Int), (i : Int), ()) ∧ i ≤ hr.length ∧ w' = w1) (fun st _ => (((rows.len : Nat) : Int) - st.2.2.2.2.2.1).toNat) ?_ ⟨0, rfl, Nat.zero_le _, rfl⟩
  rintro k _ w2 ⟨i, rfl, hi, rfl⟩ hk
  unfold kernel_Set_fits.b1
  dsimp only at hk ⊢
  refine Cd_dec (fun hlt => ?_) (fun hge => ?_)
  · have hg : hr[i]? = some hr[i] := List.getElem?_eq_getElem (by omega)
    refine rd_hdr (hA.ex hx1) hg ?_
    have := hal _ (List.mem_of_getElem? hg)
    refine Cd_ne (fun h => by omega) (fun _ => ?_)
    rw [wrap64 (by omega) (by omega), show (i : Int) + 1 = ((i + 1 : Nat) : Int) by omega]
    exact hk _ _ ⟨i + 1, rfl, by omega, rfl⟩ (by dsimp only; omega)
  clear hk
  unfold kernel_Set_fits.l2
  -- j: how many of the two lists are done
  refine loopW_of (fun st w' => ∃ j : Nat, j ≤ 2 ∧ st = (⟨ab, 0, none⟩, (if j = 0 then -1 else (n : Int)), (srcs, dsts, ()), (j : Int), ()) ∧ w' = w2) (fun st _ => ((2 : Int) - st.2.2.2.1).toNat) ?_ ⟨0, by omega, rfl, rfl⟩
  rintro k _ w3 ⟨j, hj, rfl, rfl⟩ hk
  unfold kernel_Set_fits.b2
  dsimp only at hk ⊢
  refine Cd_dec (fun hlt => ?_) (fun hge => ?_)
  · -- one list
    have list : ∀ (s : Sl) (hl : List Sl), Rds slV w3 s hl → Len n hl → hl.length ≤ 65536 → (j = 0 → 1 ≤ hl.length) → kernel_Set_fits.l3 (fun e w' => e = .returned (.int .i64 0) ∧ Ex w w') k (⟨ab, 0, none⟩, (if j = 0 then -1 else (n : Int)), (srcs, dsts, ()), (j : Int), s, ((s.len : Nat) : Int), 0, ()) w3 := by
      intro s hl hR hL hll h0
      have es := hR.1
      unfold kernel_Set_fits.l3
      refine loopW_of (fun st w' => ∃ i : Nat, st = (⟨ab, 0, none⟩, (if j = 0 ∧ i = 0 then -1 else (n : Int)), (srcs, dsts, ()), (j : Int), s, ((s.len : Nat) : Int), (i : Int), ()) ∧ i ≤ hl.length ∧ w' = w3) (fun st _ => (((s.len : Nat) : Int) - st.2.2.2.2.2.2.1).toNat) ?_ ⟨0, by simp, Nat.zero_le _, rfl⟩
      rintro k3 _ w4 ⟨i, rfl, hi, rfl⟩ hk3
      unfold kernel_Set_fits.b3
      dsimp only at hk3 ⊢
      refine Cd_dec (fun hlt => ?_) (fun hge => ?_)
      · have hg : hl[i]? = some hl[i] := List.getElem?_eq_getElem (by omega)
        refine rd_hdr hR hg ?_
        have hgl := hL _ (List.mem_of_getElem? hg)
        have step : kernel_Set_fits.j2 (fun e w' => e = .returned (.int .i64 0) ∧ Ex w w') k k3 ⟨ab, 0, none⟩ (n : Int) hl[i] (srcs, dsts, ()) (j : Int) s ((s.len : Nat) : Int) (i : Int) w4 := by
          unfold kernel_Set_fits.j2
          refine Cd_ne (fun h => by omega) (fun _ => ?_)
          rw [wrap64 (by omega) (by omega), show (i : Int) + 1 = ((i + 1 : Nat) : Int) by omega]
          refine hk3 _ _ ⟨i + 1, by rw [if_neg (by omega)], by omega, rfl⟩ (by dsimp only; omega)
        refine Cd_dec (fun hneg => ?_) (fun hpos => ?_)
        · rw [hgl]; exact step
        · have hji : ¬ (j = 0 ∧ i = 0) := fun h => by rw [if_pos h] at hpos; exact hpos (by decide)
          rw [if_neg hji]; exact step
      · have hij : ¬ (j = 0 ∧ i = 0) := fun h => by have := h0 h.1; omega
        rw [if_neg hij, wrap64 (by omega) (by omega), show (j : Int) + 1 = ((j + 1 : Nat) : Int) by omega]
        exact hk _ _ ⟨j + 1, by omega, by rw [if_neg (by omega)], rfl⟩ (by dsimp only; omega)
    have h01 : j = 0 ∨ j = 1 := by omega
    rcases h01 with rfl | rfl
    · refine ⟨srcs, fun w' => by kernel_rfl, ?_⟩
      exact list srcs hs (hS.ex hx1) hsl hl2 (fun _ => hs1)
    · refine ⟨dsts, fun w' => by kernel_rfl, ?_⟩
      exact list dsts hd (hD.ex hx1) hdl (by omega) (fun h => by omega)
  · have hj2 : j = 2 := by omega
    subst hj2
    refine Rd_hasN (x := ((fr : Int), (to : Int), ())) hB (by kernel_rfl) rfl ?_
    have emax : maxI (if 2 = 0 then -1 else (n : Int)) 0 = (n : Int) := by
      rw [if_neg (by decide)]
      unfold maxI
      split <;> omega
    rw [emax]
    refine Cl_gv (d := .one (.at (.int .i64))) (x := 0) (kwithin_gv h1 h2) fun w4 hx4 => ⟨rfl, hx1.trans hx4⟩
theorem xor_ok {w : World} {g o : Nat} {d s : Sl} {cs : List Value} {l ls : List F8} (hW : Win w d g o cs l) (hr : Rds f8v w s ls) (hl : ls.length = l.length) (hg : ∀ b, SlIn s b → b ≠ g) (hm : l.length ≤ 1099511627776) :
    Cl Tryz.prog 46 #[.slice d.base d.len d.cap, .slice s.base s.len s.cap] (.one (.at (.int .i64))) (fun x w' => x = 0 ∧ Win w' d g o cs (List.zipWith (· ^^^ ·) l ls) ∧ Mo (fun b => b = g) w w') w := by
  refine kernel_Xor.run _ d s w ?_
  generalize hRR : (fun (e : Ending) (w' : World) => ∃ x : Int, e = .returned ((Sh.one (.at (.int .i64))).enc x) ∧ x = 0 ∧ Win w' d g o cs (List.zipWith (· ^^^ ·) l ls) ∧ Mo (fun b => b = g) w w') = R
  unfold kernel_Xor.M
  have e1 := hW.len
  have e2 := hr.1
  refine Cd_ne (fun h => by omega) (fun _ => ?_)
  have hA : (List.zipWith (· ^^^ ·) l ls).length = l.length := by rw [List.length_zipWith]; omega
  generalize hAe : List.zipWith (· ^^^ ·) l ls = A at hA hRR
  unfold kernel_Xor.l1
  refine loopW_of (fun st w' => ∃ i : Nat, st = (d, s, ((s.len : Nat) : Int), (i : Int), ()) ∧ i ≤ l.length ∧ Win w' d g o cs (A.take i ++ l.drop i) ∧ Mo (fun b => b = g) w w') (fun st _ => (((s.len : Nat) : Int) - st.2.2.2.1).toNat) ?_ ⟨0, rfl, Nat.zero_le _, by simpa using hW, Mo.refl _ _⟩
  rintro k _ w2 ⟨i, rfl, hi, hW2, hm2⟩ hk
  unfold kernel_Xor.b1
  dsimp only at hk ⊢
  refine Cd_dec (fun hlt => ?_) (fun hge => ?_)
  · have hil : i < l.length := by omega
    obtain ⟨x, hx⟩ := atx hil
    obtain ⟨y, hy⟩ := atx (l := ls) (i := i) (by omega)
    have hAi : A[i]? = some (x ^^^ y) := by rw [← hAe, List.getElem?_zipWith, hx, hy]
    refine rd_ent (hr.mo hm2 (fun a ha => hg _ (slin_of ha))) hy ?_
    have hcur : (A.take i ++ l.drop i).length = l.length := by rw [List.length_append, List.length_take, List.length_drop]; omega
    refine rd_ent hW2.rds (step_get hA hx) ?_
    rw [bXor_f8]
    refine Wu_win hW2 (by omega) rfl fun w3 hW3 hm3 => ?_
    rw [step_set hA hAi] at hW3
    rw [wrap64 (by omega) (by omega), show (i : Int) + 1 = ((i + 1 : Nat) : Int) by omega]
    exact hk _ _ ⟨i + 1, rfl, by omega, hW3, Mo.trans hm2 hm3 (fun _ => id) (fun _ _ => id)⟩ (by dsimp only; omega)
  · have hil : i = l.length := by omega
    subst hil
    rw [List.drop_length, List.append_nil, List.take_of_length_le (by omega)] at hW2
    subst hRR
    exact ⟨0, rfl, rfl, hW2, hm2⟩
end Go.Proofs.YtbiilejgfihohaaGreat
set_option linter.all false
namespace Go.Proofs.YtbiilejgfihohaaGreat
open Go Go.Cu Go.RowKit
set_option linter.unusedVariables false
set_option maxHeartbeats 4000000
set_option maxRecDepth 100000
def spanR (a b : Nat) (old new : List F8) : List F8 := old.take a ++ (new.take b).drop a ++ old.drop b
def applyM (a b n : Nat) (A S D : Mtx) : Mtx := List.zipWith (fun r d => spanR a b d (sumRow n r S)) A D
def spreadM (a b : Nat) (col diff : List F8) (D : Mtx) : Mtx := List.zipWith (fun c d => spanR a b d (addM diff c d)) col D
theorem spanR_len {a b : Nat} {old new : List F8} (hab : a ≤ b) (hb : b ≤ old.length) (hn : b ≤ new.length) : (spanR a b old new).length = old.length := by
  unfold spanR
  rw [List.length_append, List.length_append, List.length_take, List.length_drop, List.length_drop, List.length_take]; omega
theorem fold_cut (a b : Nat) : ∀ (l : List (F8 × List F8)) (acc : List F8), ((l.foldl (fun acc p => addM p.2 p.1 acc) acc).take b).drop a = (l.map (fun p => (p.1, (p.2.take b).drop a))).foldl (fun acc p => addM p.2 p.1 acc) ((acc.take b).drop a)
  | [], acc => rfl
  | p :: l, acc => by
    rw [List.foldl_cons, fold_cut a b l, List.map_cons, List.foldl_cons]
    congr 1
    rw [← addM_take, ← addM_drop]
theorem sumRow_cut {a b n : Nat} {r : List F8} {S : Mtx} (hab : a ≤ b) (hb : b ≤ n) : sumRow (b - a) r (cutM a b S) = ((sumRow n r S).take b).drop a := by
  unfold sumRow cutM
  rw [fold_cut, List.zip_map_right]
  congr 1
  rw [List.take_replicate, List.drop_replicate, Nat.min_eq_left hb]
theorem stepG {α : Type} {A l : List α} {i : Nat} {x : α} (h : A.length = l.length) (hx : A[i]? = some x) : (A.take i ++ l.drop i).set i x = A.take (i + 1) ++ l.drop (i + 1) := by
  have hi := (List.getElem?_eq_some_iff.1 hx).1
  rw [List.set_append_right _ _ (by rw [List.length_take]; omega), List.length_take, Nat.min_eq_left (by omega), Nat.sub_self, List.take_succ, hx, List.drop_eq_getElem_cons (by omega : i < l.length), List.set_cons_zero, List.append_assoc]
  rfl
theorem stepG_get {α : Type} {A l : List α} {i : Nat} {x : α} (h : A.length = l.length) (hx : l[i]? = some x) : (A.take i ++ l.drop i)[i]? = some x := by
  have hi := (List.getElem?_eq_some_iff.1 hx).1
  rw [List.getElem?_append_right (by rw [List.length_take]; omega), List.length_take, Nat.min_eq_left (by omega), Nat.sub_self, List.getElem?_drop]
  exact hx
def Nd (hd : List Sl) (b : Nat) : Prop := ∀ (i : Nat) (h : Sl), hd[i]? = some h → ¬ SlIn h b
structure DsSt (St : World → Mtx → Prop) (hd : List Sl) (Q : World → Prop) : Prop where
  read : ∀ {w D}, St w D → Q w
  len : ∀ {w D}, St w D → D.length = hd.length
  own : ∀ {w D} {i : Nat} {h : Sl} {r : List F8}, St w D → hd[i]? = some h → D[i]? = some r → Own f8v 5 0 w h r
  put : ∀ {w D w'} {i : Nat} {h : Sl} {r : List F8}, St w D → hd[i]? = some h → Own f8v 5 0 w' h r → Mo (SlIn h) w w' → St w' (D.set i r)
  ex : ∀ {w D w'}, St w D → Ex w w' → St w' D
theorem slin_one {s : Sl} {g b : Nat} (h : s.base = at0 g) (hb : SlIn s b) : b = g := by
  obtain ⟨a, ha, he⟩ := hb
  rw [h] at ha
  cases ha
  exact he.symm
theorem put_span {St : World → Mtx → Prop} {hd : List Sl} {Q : World → Prop} {w : World} {D : Mtx} {i fr to : Nat} {h : Sl} {d : List F8} (hSt : DsSt St hd Q) (h0 : St w D) (hh : hd[i]? = some h) (hd' : D[i]? = some d) (hd1 : 1 ≤ d.length) (h1 : fr ≤ to) (h2 : to ≤ d.length) :
    ∃ g cs, SlIn h g ∧ g < w.heap.size ∧ Win w (cutS h fr to) g (0 + fr) (putW cs 0 d) ((d.take to).drop fr) ∧ to ≤ h.cap ∧ (∀ b, SlIn h b → b = g) ∧
      ∀ (w' : World) (m : List F8), m.length = to - fr → Win w' (cutS h fr to) g (0 + fr) (putW cs 0 d) m → Mo (fun b => b = g) w w' → St w' (D.set i (d.take fr ++ m ++ d.drop to)) := by
  have ho := hSt.own h0 hh hd'
  obtain ⟨g, cs, hsb, hb, hcs, hcm, hW⟩ := win_of_own ho hd1
  have hgi : SlIn h g := ⟨_, hsb, rfl⟩
  refine ⟨g, cs, hgi, (ho.base g hgi).2, hW.cut h1 h2, by have := hW.cap; have := hW.len; omega, fun b hb => slin_one hsb hb, fun w' m hm hW' hmo => ?_⟩
  have hback := hW.back h1 h2 hm hW'
  exact hSt.put h0 hh (hback.own hsb hb hcs hcm) (hmo.weak (fun b _ hb => by rw [hb]; exact hgi))
theorem apply_ok {w : World} {St : World → Mtx → Prop} {sp b kb fr to n : Nat} {rows srcs dsts : Sl} {hr hs hd : List Sl} {A S D : Mtx} (hSt : DsSt St hd (fun w => SetH w sp b kb ∧ MatR w rows hr A ∧ MatR w srcs hs S ∧ Rds slV w dsts hd)) (h0 : St w D)
    (n1 : Nd hd sp) (n2 : Nd hd kb) (n3 : ∀ (i : Nat) (h : Sl), hr[i]? = some h → ∀ b, SlIn h b → Nd hd b) (n4 : ∀ b, SlIn srcs b → Nd hd b) (n5 : ∀ (i : Nat) (h : Sl), hs[i]? = some h → ∀ b, SlIn h b → Nd hd b)
    (hA : Shp A D.length S.length) (hS : ∀ x ∈ S, x.length = n) (hD : ∀ x ∈ D, x.length = n) (hS1 : 1 ≤ S.length) (hS2 : S.length ≤ 65536) (hD2 : D.length ≤ 65536) (hn1 : 1 ≤ n) (hn2 : n ≤ 1048576) (h1 : fr ≤ to) (h2 : to ≤ n) :
    Cl Tryz.prog 45 #[.pointer (at0 sp), .slice rows.base rows.len rows.cap, .slice srcs.base srcs.len srcs.cap, .slice dsts.base dsts.len dsts.cap, .agg #[.int .i64 (fr : Int), .int .i64 (to : Int)]] (.one (.at (.int .i64))) (fun x w' => x = 0 ∧ St w' (applyM fr to n A S D)) w := by
  refine kernel_Set_Apply.run _ (at0 sp) rows srcs dsts ((fr : Int), (to : Int), ()) w ?_
  generalize hRR : (fun (e : Ending) (w' : World) => ∃ x : Int, e = .returned ((Sh.one (.at (.int .i64))).enc x) ∧ x = 0 ∧ St w' (applyM fr to n A S D)) = R
  unfold kernel_Set_Apply.M
  obtain ⟨q1, q2, q3, q4⟩ := hSt.read h0
  have hDl := hSt.len h0
  have e1 := q2.hdr.1
  refine Wr_box fun w1 hB hx1 => ?_
  refine Rd_hasN (x := ((fr : Int), (to : Int), ())) hB (by kernel_rfl) rfl ?_
  refine Cl_gv (d := .one (.at (.int .i64))) (x := 0) (fits_gv (q1.ex hx1) (q2.hdr.ex hx1) (q3.hdr.ex hx1) (q4.ex hx1) (by rw [q3.len]; exact q2.lenS hA.2) (q3.lenS hS) (fun h hh => ?_) (by rw [q2.len, hA.1]; exact hDl) (by rw [q3.len]; exact hS1) (by rw [q2.len, hA.1]; exact hD2) (by rw [q3.len]; exact hS2) (by omega) h1 h2) fun w2 hx2 => ?_
  · obtain ⟨i, hi⟩ := List.mem_iff_getElem?.1 hh
    have hl := (List.getElem?_eq_some_iff.1 hi).1
    obtain ⟨x, hx⟩ := atx (l := D) (i := i) (by omega)
    rw [(hSt.own h0 hi hx).1]
    exact hD _ (List.mem_of_getElem? hx)
  refine Cd_f ?_
  have hB2 := hB.ex hx2
  have hab : Nd hd w.heap.size := by
    intro i h hh hb
    have hl := (List.getElem?_eq_some_iff.1 hh).1
    obtain ⟨x, hx⟩ := atx (l := D) (i := i) (by omega)
    have := ((hSt.own h0 hh hx).base _ hb).2
    omega
  generalize w.heap.size = ab at hB2 hab ⊢
  have hXl : (applyM fr to n A S D).length = D.length := by unfold applyM; rw [List.length_zipWith, hA.1, Nat.min_self]
  unfold kernel_Set_Apply.l1
  refine loopW_of (fun st w' => ∃ i : Nat, st = (at0 sp, srcs, dsts, ⟨ab, 0, none⟩, rows, ((rows.len : Nat) : Int), (i : Int), ()) ∧ i ≤ D.length ∧ St w' ((applyM fr to n A S D).take i ++ D.drop i) ∧ Has w' ab [.int .i64 (fr : Int), .int .i64 (to : Int)] 41) (fun st _ => (((rows.len : Nat) : Int) - st.2.2.2.2.2.2.1).toNat) ?_
    ⟨0, rfl, Nat.zero_le _, by simpa using hSt.ex h0 (hx1.trans hx2), hB2⟩
  rintro k _ w3 ⟨i, rfl, hi, hS3, hB3⟩ hk
  unfold kernel_Set_Apply.b1
  dsimp only at hk ⊢
  have hAl := hA.1
  have hrl := q2.len
  refine Cd_dec (fun hlt => ?_) (fun hge => ?_)
  · have hiD : i < D.length := by omega
    obtain ⟨r, hri⟩ := atx (l := A) (i := i) (by omega)
    obtain ⟨hrow, hhr⟩ := atx (l := hr) (i := i) (by omega)
    obtain ⟨h, hhd⟩ := atx (l := hd) (i := i) (by omega)
    obtain ⟨d, hdi⟩ := atx (l := D) (i := i) hiD
    have hdn := hD _ (List.mem_of_getElem? hdi)
    have hrS := hA.2 _ (List.mem_of_getElem? hri)
    obtain ⟨p1, p2, p3, p4⟩ := hSt.read hS3
    refine rd_hdr p2.hdr hhr ?_
    have hd3 := Ex.drew w3
    have hS4 := hSt.ex hS3 hd3
    have hB4 := hB3.ex hd3
    obtain ⟨o1, o2, o3, o4⟩ := hSt.read hS4
    have eadd : (⟨ab, 0, none⟩ : Addr).add 1 = ⟨ab, 1, none⟩ := rfl
    refine Held_of (fun w' => Rds slV w' dsts hd ∧ Has w' ab [.int .i64 (fr : Int), .int .i64 (to : Int)] 41) ⟨o4, hB4⟩ ?_
    refine RdS_has (c := .int .i64) (x := (fr : Int)) (fun w' h => h.2) (by kernel_rfl) rfl ?_
    refine rdS_hdr o4 (fun w' h => h.1) hhd ?_
    refine RdS_has (c := .int .i64) (x := (fr : Int)) (fun w' h => h.2) (by kernel_rfl) rfl ?_
    rw [eadd]
    refine RdS_has (c := .int .i64) (x := (to : Int)) (fun w' h => h.2) (by kernel_rfl) rfl ?_
    obtain ⟨g, cs, hgi, hgl, hW, hcap, hg1, hput⟩ := put_span hSt hS4 hhd (stepG_get hXl hdi) (by omega) h1 (by omega)
    refine Pu_cut fr to tB sB (.inr ⟨_, rfl⟩) (.inr ⟨_, rfl⟩) h1 hcap ?_
    have hlen : ((d.take to).drop fr).length = to - fr := by rw [List.length_drop, List.length_take]; omega
    have hne : ∀ {x : Nat}, Nd hd x → x ≠ g := fun hx e => hx i h hhd (e ▸ hgi)
    refine Cl_mono (sum_ok o1 (hne n1) (hne n2) (o2.row i _ _ hhr hri) (fun b hb => hne (n3 i _ hhr b hb)) o3 (fun b hb => hne (n4 b hb)) (fun j x hj b hb => hne (n5 j x hj b hb)) hrS (by omega) (fun x hx => by rw [hlen, hS x hx]; omega) hW (by rw [hlen]; omega)) ?_
    rintro _ w5 ⟨hW5, hm5⟩
    rw [hlen, show fr + (to - fr) = to by omega, sumRow_cut h1 h2] at hW5
    have hsl := sumRow_len (row := r) hS
    have hS5 := hput w5 _ (by rw [List.length_drop, List.length_take, hsl]; omega) hW5 hm5
    have hXi : (applyM fr to n A S D)[i]? = some (d.take fr ++ ((sumRow n r S).take to).drop fr ++ d.drop to) := by
      unfold applyM
      rw [List.getElem?_zipWith, hri, hdi]
      rfl
    rw [stepG hXl hXi] at hS5
    refine ⟨⟨(hSt.read hS5).2.2.2, hB4.mo hm5 (hne hab)⟩, ?_⟩
    rw [wrap64 (by omega) (by omega), show (i : Int) + 1 = ((i + 1 : Nat) : Int) by omega]
    exact hk _ _ ⟨i + 1, rfl, by omega, hS5, hB4.mo hm5 (hne hab)⟩ (by dsimp only; omega)
  · have hiD : i = D.length := by omega
    subst hiD
    rw [List.drop_length, List.append_nil, List.take_of_length_le (by omega)] at hS3
    subst hRR
    exact ⟨0, rfl, rfl, hS3⟩
theorem dot_ok {w : World} {sp b kb g o n : Nat} {row srcs dst : Sl} {hs : List Sl} {S : Mtx} {r : List F8} {cs : List Value} {l : List F8} (hK : SetH w sp b kb) (hsp : sp ≠ g) (hkb : kb ≠ g) (hr : Rds f8v w row r) (hrg : ∀ b, SlIn row b → b ≠ g)
    (hS : MatR w srcs hs S) (hS1 : ∀ b, SlIn srcs b → b ≠ g) (hS2 : ∀ (i : Nat) (h : Sl), hs[i]? = some h → ∀ b, SlIn h b → b ≠ g) (hlen : r.length = S.length) (hrl : r.length ≤ 65536) (hn : ∀ x ∈ S, x.length = n) (hl : l.length = n) (hW : Win w dst g o cs l) (hm : n ≤ 1048576) :
    Cl Tryz.prog 62 #[.pointer (at0 sp), .slice row.base row.len row.cap, .slice srcs.base srcs.len srcs.cap, .slice dst.base dst.len dst.cap] (.one (.at (.int .i64))) (fun x w' => x = 0 ∧ Win w' dst g o cs (sumRow n r S) ∧ Mo (fun b => b = g) w w') w := by
  refine kernel_Set_Dot.run _ (at0 sp) row srcs dst w ?_
  unfold kernel_Set_Dot.M
  have e1 := hr.1
  have e2 := hS.hdr.1
  have e3 := hS.len
  have e4 := hW.len
  refine Pu_setnil (Cd_f (Pu_nil ?_))
  refine Rd_has (c := .any) (x := kerV b kb) hK.has (by kernel_rfl) rfl (Pu_kn ?_)
  unfold kernel_Set_Dot.j1
  refine Cd_f (Cd_ne (fun h => by omega) (fun _ => ?_))
  unfold kernel_Set_Dot.l1
  refine loopW_of (fun st w' => ∃ i : Nat, st = (at0 sp, row, srcs, dst, srcs, ((srcs.len : Nat) : Int), (i : Int), ()) ∧ i ≤ S.length ∧ w' = w) (fun st _ => (((srcs.len : Nat) : Int) - st.2.2.2.2.2.2.1).toNat) ?_ ⟨0, rfl, Nat.zero_le _, rfl⟩
  rintro k _ w2 ⟨i, rfl, hi, rfl⟩ hk
  unfold kernel_Set_Dot.b1
  dsimp only at hk ⊢
  refine Cd_dec (fun hlt => ?_) (fun hge => ?_)
  · obtain ⟨h, hh⟩ := atx (l := hs) (i := i) (by omega)
    refine rd_hdr hS.hdr hh ?_
    have := hS.lenS hn h (List.mem_of_getElem? hh)
    refine Cd_ne (fun h => by omega) (fun _ => ?_)
    rw [wrap64 (by omega) (by omega), show (i : Int) + 1 = ((i + 1 : Nat) : Int) by omega]
    exact hk _ _ ⟨i + 1, rfl, by omega, rfl⟩ (by dsimp only; omega)
  · refine Cl_mono (sum_ok (fr := 0) hK hsp hkb hr hrg hS hS1 hS2 hlen hrl (fun x hx => by rw [hn x hx]; omega) hW (by omega)) ?_
    rintro _ w3 ⟨h3, m3⟩
    refine ⟨0, rfl, rfl, ?_, m3⟩
    have e : cutM 0 (0 + l.length) S = S := by
      unfold cutM
      refine (List.map_congr_left (g := id) fun x hx => ?_).trans (List.map_id _)
      rw [List.drop_zero, List.take_of_length_le (by rw [hn x hx]; omega)]; rfl
    rw [e, hl] at h3
    exact h3
end Go.Proofs.YtbiilejgfihohaaGreat
