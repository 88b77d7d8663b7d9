/- Lists of lists: compared, copied. -/
import Derived.Test.YtdnlnloogfnlgaaTrA
set_option linter.all false
namespace Go.Proofs.Ytdnlnloogfnlgaa
open Go Go.Cu Go.RowKit
set_option linter.unusedVariables false
set_option maxHeartbeats 2000000
def RowsLe {α : Type} (ls : List (List α)) : Prop := ls.length ≤ 5864062014634 ∧ ∀ l ∈ ls, l.length ≤ 140737488351232
theorem nest_len {α : Type} {f : α → Value} {F : Nat → Prop} {w : World} {s : Sl} {ls : List (List α)} (h : Nest f F w s ls) : s.len = ls.length := by
  obtain ⟨ss, h1, h2, _⟩ := h
  rw [h1.1, h2]
theorem sameValue_gv (s t : Sl) (l m : List (List Int)) (F G : Nat → Prop) (w : World) (hr : Nest b8 F w s l) (hq : Nest b8 G w t m) (hl : RowsLe l) :
    Gv Try.prog 21 #[slv s, slv t] (.bool (decide (l = m))) w := by
  have h1 := nest_len hr
  have h2 := nest_len hq
  obtain ⟨ss, r1, r2, _, r4⟩ := hr
  obtain ⟨ts, q1, q2, _, q4⟩ := hq
  have hl1 := hl.1
  refine culletlaw12_sameValue.run _ s t w ?_
  unfold culletlaw12_sameValue.M culletlaw12_sameValue.l1
  rw [h1, h2]
  refine Cd_ne (fun h => ⟨?_, Ex.refl w⟩) (fun h => ?_)
  · have : l ≠ m := fun e => h (by rw [e])
    simp [this]
  have hlm : l.length = m.length := by omega
  refine loopW_of (fun st w' => Ex w w' ∧ st.1 = s ∧ st.2.1 = t ∧ st.2.2.1 = (l.length : Int) ∧ ∃ i : Nat, i ≤ l.length ∧ st.2.2.2.1 = (i : Int) ∧ l.take i = m.take i) (fun st _ => l.length - st.2.2.2.1.toNat) ?_
    ⟨Ex.refl w, rfl, rfl, rfl, 0, Nat.zero_le _, rfl, rfl⟩
  rintro k ⟨s', t', n', i', u⟩ w' hI hk
  dsimp only at hI hk ⊢
  obtain ⟨hx, rfl, rfl, rfl, i, hi, rfl, he⟩ := hI
  unfold culletlaw12_sameValue.b1
  refine Cd_dec (fun h => ?_) (fun h => ?_)
  · refine Held_ex ?_
    have hxd := hx.trans (Ex.drew w')
    refine Pu_idx (r1.ex hxd) tBB sBB (by omega) (by omega) fun a x hx1 hc1 _ => ?_
    refine RdS_one (c := .sl) (x := x) oBB (fun v hv => hv.cell hc1) ?_
    refine Pu_idx (q1.ex hxd) tBB sBB (by omega) (by omega) fun a2 y hx2 hc2 _ => ?_
    refine RdS_one (c := .sl) (x := y) oBB (fun v hv => hv.cell hc2) ?_
    rw [Int.toNat_natCast] at hx1 hx2
    have hil : i < l.length := by omega
    have hl1' : l[i]? = some l[i] := List.getElem?_eq_getElem hil
    have hm1' : m[i]? = some (m[i]'(by omega)) := List.getElem?_eq_getElem (by omega)
    refine Cl_gv (sameBytes_gv x y l[i] (m[i]'(by omega)) _ ((r4 i x _ hx1 hl1').1.ex hxd) ((q4 i y _ hx2 hm1').1.ex hxd) (by have := hl.2 l[i] (List.getElem_mem hil); omega)) fun w3 hx3 => ⟨hx3, ?_⟩
    refine Cd_not (fun hf => ⟨?_, hxd.trans hx3⟩) (fun ht => ?_)
    · have hne := of_decide_eq_false hf
      have : l ≠ m := fun e => hne (by subst e; rfl)
      simp [this]
    · have heq := of_decide_eq_true ht
      rw [wrap64 (x := (i : Int) + 1) (by omega) (by omega)]
      refine hk _ _ ⟨hxd.trans hx3, rfl, rfl, rfl, i + 1, by omega, by simp, ?_⟩ (by simp only; omega)
      rw [List.take_add_one, List.take_add_one, hl1', hm1', he, heq]
  · have : i = l.length := by omega
    subst this
    rw [List.take_length, hlm, List.take_length] at he
    exact ⟨by simp [he], hx⟩
theorem sameKeys_gv (s t : Sl) (l m : List (List Int)) (F G : Nat → Prop) (w : World) (hr : Nest i64v F w s l) (hq : Nest i64v G w t m) (hl : RowsLe l) :
    Gv Try.prog 25 #[slv s, slv t] (.bool (decide (l = m))) w := by
  have h1 := nest_len hr
  have h2 := nest_len hq
  obtain ⟨ss, r1, r2, _, r4⟩ := hr
  obtain ⟨ts, q1, q2, _, q4⟩ := hq
  have hl1 := hl.1
  refine culletlaw12_sameKeys.run _ s t w ?_
  unfold culletlaw12_sameKeys.M culletlaw12_sameKeys.l1
  rw [h1, h2]
  refine Cd_ne (fun h => ⟨?_, Ex.refl w⟩) (fun h => ?_)
  · have : l ≠ m := fun e => h (by rw [e])
    simp [this]
  have hlm : l.length = m.length := by omega
  refine loopW_of (fun st w' => Ex w w' ∧ st.1 = s ∧ st.2.1 = t ∧ st.2.2.1 = (l.length : Int) ∧ ∃ i : Nat, i ≤ l.length ∧ st.2.2.2.1 = (i : Int) ∧ l.take i = m.take i) (fun st _ => l.length - st.2.2.2.1.toNat) ?_
    ⟨Ex.refl w, rfl, rfl, rfl, 0, Nat.zero_le _, rfl, rfl⟩
  rintro k ⟨s', t', n', i', u⟩ w' hI hk
  dsimp only at hI hk ⊢
  obtain ⟨hx, rfl, rfl, rfl, i, hi, rfl, he⟩ := hI
  unfold culletlaw12_sameKeys.b1
  refine Cd_dec (fun h => ?_) (fun h => ?_)
  · refine Held_ex ?_
    have hxd := hx.trans (Ex.drew w')
    refine Pu_idx (r1.ex hxd) tII sII (by omega) (by omega) fun a x hx1 hc1 _ => ?_
    refine RdS_one (c := .sl) (x := x) oII (fun v hv => hv.cell hc1) ?_
    refine Pu_idx (q1.ex hxd) tII sII (by omega) (by omega) fun a2 y hx2 hc2 _ => ?_
    refine RdS_one (c := .sl) (x := y) oII (fun v hv => hv.cell hc2) ?_
    rw [Int.toNat_natCast] at hx1 hx2
    have hil : i < l.length := by omega
    have hl1' : l[i]? = some l[i] := List.getElem?_eq_getElem hil
    have hm1' : m[i]? = some (m[i]'(by omega)) := List.getElem?_eq_getElem (by omega)
    refine Cl_gv (same_gv x y l[i] (m[i]'(by omega)) _ ((r4 i x _ hx1 hl1').1.ex hxd) ((q4 i y _ hx2 hm1').1.ex hxd) (by have := hl.2 l[i] (List.getElem_mem hil); omega)) fun w3 hx3 => ⟨hx3, ?_⟩
    refine Cd_not (fun hf => ⟨?_, hxd.trans hx3⟩) (fun ht => ?_)
    · have hne := of_decide_eq_false hf
      have : l ≠ m := fun e => hne (by subst e; rfl)
      simp [this]
    · have heq := of_decide_eq_true ht
      rw [wrap64 (x := (i : Int) + 1) (by omega) (by omega)]
      refine hk _ _ ⟨hxd.trans hx3, rfl, rfl, rfl, i + 1, by omega, by simp, ?_⟩ (by simp only; omega)
      rw [List.take_add_one, List.take_add_one, hl1', hm1', he, heq]
  · have : i = l.length := by omega
    subst this
    rw [List.take_length, hlm, List.take_length] at he
    exact ⟨by simp [he], hx⟩
/-! ### Copies -/
/-- a list of one's own, in blocks that are new -/
theorem copyKey_sl (s : Sl) (l : List Int) (w : World) (hr : Rds i64v w s l) (hl : l.length ≤ 17592186044000) : GivesSl Try.prog 16 #[slv s] i64v 3 l w := by
  refine culletref12_CopyKey.run _ s w ?_
  unfold culletref12_CopyKey.M
  refine Wr_lit (f := i64v) (e := 3) (base := w.heap.size) [] (by kernel_rfl) (Nat.le_refl _) (by simp) fun s1 w1 ho1 hx1 _ => ?_
  refine Wr_append tI iI rfl ho1 (hr.ex hx1) (fun y => rfl) (by simp; omega) (by simp; omega) hx1.size fun s2 w2 ho2 hm2 _ => ?_
  rw [List.nil_append] at ho2
  exact ⟨s2, rfl, ho2, hx1.into hm2 (fun i hi => (ho1.base i hi).1)⟩
theorem copyValue_nest (s : Sl) (ls : List (List Int)) (F : Nat → Prop) (w : World) (hr : Nest b8 F w s ls) (hl : RowsLe ls) :
    Calls Try.prog 17 #[slv s] w fun en w' => ∃ s', en = .returned (slv s') ∧ NestOwn b8 5 52 w.heap.size w' s' ls ∧ Ex w w' := by
  have h1 := nest_len hr
  obtain ⟨ss0, r1, r2, r3, r4⟩ := hr
  have hl1 := hl.1
  refine culletref12_CopyValue.run _ s w ?_
  unfold culletref12_CopyValue.M culletref12_CopyValue.l1
  rw [h1]
  refine loopW_of (fun st w' => Ex w w' ∧ st.2.1 = s ∧ st.2.2.1 = (ls.length : Int) ∧ ∃ i : Nat, i ≤ ls.length ∧ st.2.2.2.1 = (i : Int) ∧ NestOwn b8 5 52 w.heap.size w' st.1 (ls.take i)) (fun st _ => ls.length - st.2.2.2.1.toNat) ?_
    ⟨Ex.refl w, rfl, rfl, 0, Nat.zero_le _, rfl, NestOwn.nil _ _ _ _ _⟩
  rintro k ⟨out, t', n', i', u⟩ w' hI hk
  dsimp only at hI hk ⊢
  obtain ⟨hx, rfl, rfl, i, hi, rfl, hno⟩ := hI
  unfold culletref12_CopyValue.b1
  refine Cd_dec (fun h => ?_) (fun h => ?_)
  · refine Pu_idx (r1.ex hx) tBB sBB (by omega) (by omega) fun a x hx1 hc1 _ => ?_
    refine Rd_one (c := .sl) (x := x) oBB hc1 ?_
    rw [Int.toNat_natCast] at hx1
    have hil : i < ls.length := by omega
    have hl1' : ls[i]? = some ls[i] := List.getElem?_eq_getElem hil
    have hrow := (r4 i x _ hx1 hl1').1
    have hrl := hl.2 ls[i] (List.getElem_mem hil)
    refine Wr_lit (f := b8) (e := 5) (base := w'.heap.size) [] (by kernel_rfl) (Nat.le_refl _) (by simp) fun s1 w1 ho1 hx1' _ => ?_
    refine Wr_append tB iB rfl ho1 (hrow.ex (hx.trans hx1')) (fun y => rfl) (by simp; omega) (by simp; omega) hx1'.size fun s2 w2 ho2 hm2 _ => ?_
    rw [List.nil_append] at ho2
    have hx2 : Ex w' w2 := hx1'.into hm2 (fun i hi => (ho1.base i hi).1)
    refine Wr_lit (f := slv) (e := 52) (base := w2.heap.size) [s2] (by kernel_rfl) (Nat.le_refl _) (by simp) fun s3 w3 ho3 hx3 _ => ?_
    obtain ⟨ss, o1, o2, o3, o4, o5⟩ := hno
    have hlt : (ls.take i).length = i := by rw [List.length_take]; omega
    refine Wr_append tBB iBB rfl (o1.ex (hx2.trans hx3)) ho3.rds (fun y => rfl) (by simp [o2]; omega) (by simp [o2]; omega) (Nat.le_trans hx.size (hx2.trans hx3).size) fun s4 w4 ho4 hm4 hin => ?_
    rw [wrap64 (x := (i : Int) + 1) (by omega) (by omega)]
    refine hk _ _ ⟨(hx.trans (hx2.trans hx3)).into hm4 (fun i hi => (o1.base i hi).1), rfl, rfl, i + 1, by omega, by simp, ?_⟩ (by simp only; omega)
    rw [List.take_add_one, hl1']
    exact NestOwn.snoc o1 o2 o3 o4 o5 (hx2.trans hx3) ((ho2.ex hx3).weak hx.size) (fun b hb => (ho2.base b hb).1) ho4 hm4 hin
  · have : i = ls.length := by omega
    subst this
    rw [List.take_length] at hno
    exact ⟨out, rfl, hno, hx⟩
end Go.Proofs.Ytdnlnloogfnlgaa
