/- The walk of FrameFiles. -/
import Derived.Test.YtbcjimfkdjjpjaaDoorFrL
namespace Go.Proofs.YtbcjimfkdjjpjaaDoor
open Go Go.Cu
set_option linter.unusedVariables false
set_option maxHeartbeats 4000000
/-- the script: each step's eleven cells, and its bytes -/
structure Script (w : World) (s : Sl) (os : List OpT) : Prop where
  len : s.len = os.length
  cells : ∀ i o, os[i]? = some o → ∃ a, s.base = some a ∧ ∀ j v, (encAts oAts o)[j]? = some v → w.cell? ((a.add (i * 11)).add j) = some v
  bytes : ∀ o ∈ os, ∃ l, Rds b8 w (opB o) l ∧ Bytes l
  small : os.length ≤ 140737488351232
theorem op_one (o : OpT) : ∀ u ∈ (opV o).cells.toList, u.oneCell' = true := by
  intro u hu
  have hu : u ∈ encAts oAts o := hu
  simp only [oAts, encAts, List.mem_cons, List.not_mem_nil, or_false] at hu
  rcases hu with rfl | rfl | rfl | rfl | rfl | rfl | rfl | rfl | rfl | rfl | rfl <;> rfl
theorem files_law (s : Sl) (os : List OpT) (w : World) (hs : Script w s os) (ht : Tab w) : Gv Tryd.prog 4 #[.slice s.base s.len s.cap] (.bool true) w := by
  refine culletlaw25_FrameFiles.run _ s w ?_
  unfold culletlaw25_FrameFiles.M
  refine Cl_gv (awake_gv w ht) fun w1 hx1 => ?_
  refine Cd_not (fun h => by cases h) (fun _ => ?_)
  unfold culletlaw25_FrameFiles.l1
  have hsm := hs.small
  refine loopW_of (fun st w' => st.1 = s ∧ st.2.1 = (os.length : Int) ∧ ∃ i : Nat, i ≤ os.length ∧ st.2.2.1 = (i : Int) ∧ Ex w w') (fun st _ => os.length - st.2.2.1.toNat) ?_
    ⟨rfl, by rw [hs.len], 0, Nat.zero_le _, rfl, hx1⟩
  rintro k ⟨s', n', i', u⟩ w' hI hk
  dsimp only at hI hk ⊢
  obtain ⟨rfl, rfl, i, hi, rfl, hx⟩ := hI
  unfold culletlaw25_FrameFiles.b1
  refine Cd_dec (fun hlt => ?_) (fun hge => ⟨rfl, hx⟩)
  have hio : i < os.length := by omega
  obtain ⟨o, ho⟩ : ∃ o, os[i]? = some o := ⟨_, List.getElem?_eq_getElem hio⟩
  obtain ⟨a, ha, hc⟩ := hs.cells i o ho
  obtain ⟨l, hr, hb⟩ := hs.bytes o (List.mem_of_getElem? ho)
  refine ⟨a.add (i * 11), fun v => ?_, ?_⟩
  · have := run_indexAt (P := Tryd.prog) (s := s') (ik := .i64) (i := (i : Int)) (n := 11) (a := a) (w := v) (t := 23) (e := 30) (by kernel_rfl) (by kernel_rfl) ha (by omega) (by rw [hs.len]; omega)
    rw [Int.toNat_natCast] at this
    exact this
  refine ⟨o, run_load_agg (cs := encAts oAts o) (by kernel_rfl) (fun j v hj => hx.cell (hc j v hj)), ?_⟩
  refine Wr_alloc (z := opV (0, 0, 0, 0, 0, 0, 0, 0, 0, ⟨none, 0, 0⟩, 0, ())) (by kernel_rfl) fun w2 hB2 hx2 => ?_
  refine Wu_store (v := opV o) hB2 (by kernel_rfl) (op_one o) (Nat.le_of_ble_eq_true (by kernel_rfl)) fun w3 hB3 hm3 => ?_
  have hB3' : Has w3 w'.heap.size (encAts oAts o) 30 := hB3
  have hx3 : Ex w' w3 := hx2.into hm3 (fun i hi => by rw [hi]; exact Nat.le_refl _)
  refine Rd_hasN (x := o) hB3' (by kernel_rfl) rfl ?_
  refine Cl_gv (plays_gv o l w3 (hr.ex (hx.trans hx3)) hb (ht.ex (hx.trans hx3))) fun w4 hx4 => ?_
  refine Cd_not (fun h => by cases h) (fun _ => ?_)
  rw [wrap64 (x := (i : Int) + 1) (by omega) (by omega)]
  exact hk _ _ ⟨rfl, rfl, i + 1, by omega, by simp, (hx.trans hx3).trans hx4⟩ (by simp only; omega)
end Go.Proofs.YtbcjimfkdjjpjaaDoor
