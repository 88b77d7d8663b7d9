/- The walks of the functions of the frame that look at a head: whether there can be such a shard, its blocks, the length of its file. -/
import Derived.Test.YtbcjimfkdjjpjaaDoorFrA
namespace Go.Proofs.YtbcjimfkdjjpjaaDoor
open Go Go.Cu
set_option linter.unusedVariables false
/-- a head: family, data, parity, index, size, length, block, stamp -/
abbrev hAts : List At := [.int .i64, .int .i64, .int .i64, .int .i64, .int .i64, .int .i64, .int .i64, .int .u64]
abbrev Hd := Ats hAts
@[reducible] def hdV (h : Hd) : Value := .agg #[.int .i64 h.1, .int .i64 h.2.1, .int .i64 h.2.2.1, .int .i64 h.2.2.2.1, .int .i64 h.2.2.2.2.1, .int .i64 h.2.2.2.2.2.1, .int .i64 h.2.2.2.2.2.2.1, .int .u64 h.2.2.2.2.2.2.2.1]
def Hd.fam (h : Hd) : Int := h.1
def Hd.data (h : Hd) : Int := h.2.1
def Hd.par (h : Hd) : Int := h.2.2.1
def Hd.index (h : Hd) : Int := h.2.2.2.1
def Hd.size (h : Hd) : Int := h.2.2.2.2.1
def Hd.length (h : Hd) : Int := h.2.2.2.2.2.1
def Hd.block (h : Hd) : Int := h.2.2.2.2.2.2.1
def Hd.stamp (h : Hd) : Int := h.2.2.2.2.2.2.2.1
/-- how many blocks a length has -/
def spansF (l b : Int) : Int := Int.tdiv (l + b - 1) b
/-- can there be such a shard? -/
def checkF (h : Hd) : Int :=
  if (lengthF h.fam h.data h.par h.size).2 ≠ 0 ∨ (lengthF h.fam h.data h.par h.size).1 ≠ h.length then 251
  else if h.index < 0 ∨ h.data + h.par ≤ h.index then 251
  else if h.block < 1 ∨ 1048576 < h.block ∨ (h.fam = 2 ∧ Int.tmod h.block 2 = 1) then 251
  else if 65536 < spansF h.length h.block then 251
  else if Int.tdiv 67108864 (h.data + h.par) < h.length then 251 else 0
theorem length_good {f k m n : Int} (h : (lengthF f k m n).2 = 0) : paramsF f k m = 0 ∧ 1 ≤ n ∧ n ≤ 1099511627776 ∧ (lengthF f k m n).1 = lenF f k n := by
  unfold lengthF at *
  split at h
  · simp only at h; omega
  · split at h
    · simp at h
    · split at h
      · simp at h
      · rename_i h1 h2 h3
        exact ⟨by omega, by omega, by omega, by rw [if_neg h1, if_neg h2, if_neg h3]⟩
structure GoodHd (h : Hd) : Prop where
  fam0 : 0 ≤ h.fam
  fam2 : h.fam ≤ 2
  data1 : 1 ≤ h.data
  data2 : h.data ≤ 65536
  par1 : 1 ≤ h.par
  par2 : h.par ≤ 65536
  idx0 : 0 ≤ h.index
  idx1 : h.index < h.data + h.par
  size1 : 1 ≤ h.size
  size2 : h.size ≤ 1099511627776
  len1 : 1 ≤ h.length
  len2 : h.length ≤ 33554432
  blk1 : 1 ≤ h.block
  blk2 : h.block ≤ 1048576
  spans2 : spansF h.length h.block ≤ 65536
theorem tdiv_le_self' {a b : Int} (ha : 0 ≤ a) (hb : 2 ≤ b) : Int.tdiv a b ≤ a / 2 := by
  rw [Int.tdiv_eq_ediv_of_nonneg ha]
  refine Int.le_ediv_of_mul_le (by omega) ?_
  have h1 := Int.ediv_mul_le a (show b ≠ 0 by omega)
  have h2 := Int.mul_le_mul_of_nonneg_left hb (Int.ediv_nonneg ha (show 0 ≤ b by omega))
  omega
theorem check_good {h : Hd} (hc : checkF h = 0) : GoodHd h := by
  unfold checkF at hc
  split at hc
  · omega
  rename_i h1
  split at hc
  · omega
  rename_i h2
  split at hc
  · omega
  rename_i h3
  split at hc
  · omega
  rename_i h4
  split at hc
  · omega
  rename_i h5
  have hl : (lengthF h.fam h.data h.par h.size).2 = 0 := by omega
  obtain ⟨hp, hs1, hs2, hl1⟩ := length_good hl
  obtain ⟨p1, p2, p3, p4, p5, p6⟩ := params_good hp
  have hb := lenF_bound (f := h.fam) (k := h.data) hs1 p3
  have := tdiv_le_self' (show (0 : Int) ≤ 67108864 by decide) (show 2 ≤ h.data + h.par by omega)
  exact ⟨p1, p2, p3, p4, p5, p6, by omega, by omega, hs1, hs2, by omega, by omega, by omega, by omega, by omega⟩

theorem blockFits_gives (f b : Int) : Gives Tryd.prog 23 #[.int .i64 f, .int .i64 b] (.bool (decide (¬ (b < 1 ∨ 1048576 < b ∨ (f = 2 ∧ Int.tmod b 2 = 1))))) := by
  intro w
  refine frame_blockFits.run _ f b w ?_
  unfold frame_blockFits.M
  refine Cd_dec (fun h1 => Cd_dec (fun h2 => Cd_ne (fun h3 => ⟨?_, Ex.refl w⟩) (fun h3 => ⟨?_, Ex.refl w⟩)) (fun h2 => ⟨?_, Ex.refl w⟩)) (fun h1 => ⟨?_, Ex.refl w⟩)
  · congr 2; symm; rw [decide_eq_true_iff]; omega
  · congr 2
    have := tmod_bound (a := b) (b := 2) (by omega) (by omega)
    rw [Bool.eq_iff_iff]; simp; omega
  · congr 2; symm; rw [decide_eq_false_iff_not]; omega
  · congr 2; symm; rw [decide_eq_false_iff_not]; omega

theorem blocks_gives (h : Hd) (h1 : 1 ≤ h.length) (h2 : h.length ≤ 1099511627777) (h3 : 1 ≤ h.block) (h4 : h.block ≤ 1048576) : Gives Tryd.prog 19 #[hdV h] (.int .i64 (spansF h.length h.block)) := by
  intro w
  refine frame_blocks.run _ h w ?_
  unfold frame_blocks.M
  unfold Hd.length Hd.block at *
  refine Wr_box fun w1 hB1 hx1 => ?_
  refine Rd_has hB1 (by kernel_rfl) rfl ?_
  refine Rd_has hB1 (by kernel_rfl) rfl ?_
  refine Rd_has hB1 (by kernel_rfl) rfl ?_
  rw [wrap64 (x := _ + _) (by omega) (by omega), wrap64 (x := _ - _) (by omega) (by omega)]
  refine Pu_quo (by omega) ⟨?_, hx1⟩
  have := tdiv_up (n := h.2.2.2.2.2.1) (k := h.2.2.2.2.2.2.1) (by omega) (by omega)
  rw [wrap64 (by omega) (by omega)]; rfl

theorem spans_gives (l b : Int) (h1 : 1 ≤ l) (h2 : l ≤ 1099511627777) (h3 : 1 ≤ b) (h4 : b ≤ 1048576) : Gives Tryd.prog 25 #[.int .i64 l, .int .i64 b] (.int .i64 (spansF l b)) := by
  intro w
  refine culletref25_spans.run _ l b w ?_
  unfold culletref25_spans.M culletref25_spans.j1
  have hb := tdiv_nonneg' (show 0 ≤ l by omega) (show 0 < b by omega)
  refine Pu_quo (by omega) (Pu_rem (by omega) ?_)
  rw [wrap64 (x := Int.tdiv l b) (by omega) (by omega)]
  have he := tdiv_up_eq h1 h3
  refine Cd_dec (fun h => ⟨?_, Ex.refl w⟩) (fun h => ⟨?_, Ex.refl w⟩)
  · rw [wrap64 (by omega) (by omega)]; unfold spansF; rw [he, if_pos h]
  · unfold spansF; rw [he, if_neg h]

theorem whole_gives (h : Hd) (hg : GoodHd h) : Gives Tryd.prog 35 #[hdV h] (.int .i64 (48 + h.length + 4 * spansF h.length h.block)) := by
  intro w
  refine frame_whole.run _ h w ?_
  unfold frame_whole.M
  have hs := tdiv_up (n := h.length) (k := h.block) hg.len1 hg.blk1
  have hl := hg.len2
  have hl1 := hg.len1
  refine Wr_box fun w1 hB1 hx1 => ?_
  refine Held_ex ?_
  have hS : ∀ w', Ex w1.drew w' → Has w' w.heap.size (hdV h).cells.toList 38 := fun w' hx => (hB1.ex (Ex.drew w1)).ex hx
  refine RdS_has hS (by kernel_rfl) rfl ?_
  refine RdS_hasN (x := h) hS (by kernel_rfl) rfl ?_
  refine Cl_gives (blocks_gives h hl1 (by omega) hg.blk1 hg.blk2) fun w2 hx2 => ⟨hx2, ?_, (hx1.trans (Ex.drew w1)).trans hx2⟩
  have e : h.2.2.2.2.2.1 = h.length := rfl
  rw [e]
  unfold spansF at *
  rw [wrap64 (x := 48 + _) (by omega) (by omega), wrap64 (x := 4 * _) (by omega) (by omega), wrap64 (by omega) (by omega)]

theorem head_gives (h : Hd) : Gives Tryd.prog 13 #[hdV h] (hdV h) := by
  intro w
  refine culletlaw25_head.run _ h w ?_
  unfold culletlaw25_head.M
  refine Wr_box fun w1 hB1 hx1 => ?_
  refine Wr_alloc (z := hdV (0, 0, 0, 0, 0, 0, 0, 0, ())) (by kernel_rfl) fun w2 hB2 hx2 => ?_
  have hB1 := hB1.ex hx2
  refine Rd_has hB1 (by kernel_rfl) rfl ?_
  refine Rd_has hB1 (by kernel_rfl) rfl ?_
  refine Rd_has hB1 (by kernel_rfl) rfl ?_
  refine Rd_has hB1 (by kernel_rfl) rfl ?_
  refine Rd_has hB1 (by kernel_rfl) rfl ?_
  refine Rd_has hB1 (by kernel_rfl) rfl ?_
  refine Rd_has hB1 (by kernel_rfl) rfl ?_
  refine Rd_has hB1 (by kernel_rfl) rfl ?_
  refine Wu_store hB2 (by kernel_rfl) (by simp [Value.cells, Value.oneCell']) (Nat.le_of_ble_eq_true (by kernel_rfl)) fun w3 hB3 hm3 => ?_
  refine ⟨h, ?_, rfl, ?_⟩
  · exact run_load_agg (t := 38) (by kernel_rfl) (has_part (l := hAts) (x := h) (i := 0) hB3 rfl)
  · exact hx1.trans (hx2.into hm3 (fun i hi => Nat.le_of_eq hi.symm))
end Go.Proofs.YtbcjimfkdjjpjaaDoor
