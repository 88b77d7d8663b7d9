/- The walks of CheckHead and Pack, and of the document's. -/
import Derived.Test.YtbcjimfkdjjpjaaDoorFrD
namespace Go.Proofs.YtbcjimfkdjjpjaaDoor
open Go Go.Cu
set_option linter.unusedVariables false
theorem check_gives (h : Hd) : Gives Tryd.prog 12 #[hdV h] (.int .i64 (checkF h)) := by
  intro w
  refine frame_CheckHead.run _ h w ?_
  unfold frame_CheckHead.M
  refine Wr_box fun w1 hB1 hx1 => ?_
  refine Rd_has hB1 (by kernel_rfl) rfl ?_
  refine Rd_has hB1 (by kernel_rfl) rfl ?_
  refine Rd_has hB1 (by kernel_rfl) rfl ?_
  refine Rd_has hB1 (by kernel_rfl) rfl ?_
  refine Cl_gives (d := .tup [.at (.int .i64), .at (.int .i64)]) (x := ((lengthF h.1 h.2.1 h.2.2.1 h.2.2.2.2.1).1, (lengthF h.1 h.2.1 h.2.2.1 h.2.2.2.2.1).2, ())) (length_gives _ _ _ _) fun w2 hx2 => ?_
  have hB := hB1.ex hx2
  have hx := hx1.trans hx2
  dsimp only
  have e1 : lengthF h.fam h.data h.par h.size = lengthF h.1 h.2.1 h.2.2.1 h.2.2.2.2.1 := rfl
  -- the first two answers
  have j1f : ∀ b : Bool, (b = true → (lengthF h.fam h.data h.par h.size).2 ≠ 0 ∨ (lengthF h.fam h.data h.par h.size).1 ≠ h.length) →
      (b = false → (lengthF h.fam h.data h.par h.size).2 = 0 ∧ (lengthF h.fam h.data h.par h.size).1 = h.length) →
      frame_CheckHead.j1 (fun e w' => e = Ending.returned (.int .i64 (checkF h)) ∧ Ex w w') ⟨w.heap.size, 0, none⟩ (lengthF h.1 h.2.1 h.2.2.1 h.2.2.2.2.1).1 b w2 := by
    intro b hb1 hb2
    unfold frame_CheckHead.j1
    refine Cd_of (fun hb => ⟨by unfold checkF; rw [if_pos (hb1 hb)], hx⟩) (fun hb => ?_)
    obtain ⟨he, hl⟩ := hb2 hb
    have hnot : ¬ ((lengthF h.fam h.data h.par h.size).2 ≠ 0 ∨ (lengthF h.fam h.data h.par h.size).1 ≠ h.length) := by omega
    obtain ⟨hp, hs1, hs2, hl1⟩ := length_good he
    obtain ⟨p1, p2, p3, p4, p5, p6⟩ := params_good hp
    have hlb := lenF_bound (f := h.fam) (k := h.data) hs1 p3
    rw [← hl1, hl] at hlb
    have eP : h.2.1 = h.data := rfl
    have eQ : h.2.2.1 = h.par := rfl
    have j2f : ∀ b : Bool, (b = true → h.index < 0 ∨ h.data + h.par ≤ h.index) → (b = false → ¬ (h.index < 0 ∨ h.data + h.par ≤ h.index)) →
        frame_CheckHead.j2 (fun e w' => e = Ending.returned (.int .i64 (checkF h)) ∧ Ex w w') ⟨w.heap.size, 0, none⟩ (lengthF h.1 h.2.1 h.2.2.1 h.2.2.2.2.1).1 b w2 := by
      intro b hb1 hb2
      unfold frame_CheckHead.j2
      refine Cd_of (fun hb => ⟨by unfold checkF; rw [if_neg hnot, if_pos (hb1 hb)], hx⟩) (fun hb => ?_)
      have hi := hb2 hb
      refine Rd_has hB (by kernel_rfl) rfl ?_
      refine Rd_has hB (by kernel_rfl) rfl ?_
      refine Cl_gives (blockFits_gives _ _) fun w3 hx3 => ?_
      have hB3 := hB.ex hx3
      have j3f : ∀ (b : Bool) (w4 : World), Ex w2 w4 → (b = true → checkF h = 251) → (b = false → ¬ (h.block < 1 ∨ 1048576 < h.block ∨ (h.fam = 2 ∧ Int.tmod h.block 2 = 1)) ∧ ¬ 65536 < spansF h.length h.block) →
          frame_CheckHead.j3 (fun e w' => e = Ending.returned (.int .i64 (checkF h)) ∧ Ex w w') ⟨w.heap.size, 0, none⟩ (lengthF h.1 h.2.1 h.2.2.1 h.2.2.2.2.1).1 b w4 := by
        intro b w4 hx4 hb1 hb2
        unfold frame_CheckHead.j3
        refine Cd_of (fun hb => ⟨by rw [hb1 hb], hx.trans hx4⟩) (fun hb => ?_)
        obtain ⟨hbl, hsp⟩ := hb2 hb
        refine Rd_has (hB.ex hx4) (by kernel_rfl) rfl ?_
        refine Rd_has (hB.ex hx4) (by kernel_rfl) rfl ?_
        rw [← e1, hl, eP, eQ, wrap64 (x := h.data + h.par) (by omega) (by omega)]
        refine Pu_quo (by omega) ?_
        have hq := tdiv_nonneg' (show (0 : Int) ≤ 67108864 by decide) (show 0 < h.data + h.par by omega)
        rw [wrap64 (by omega) (by omega)]
        refine Cd_dec (fun h5 => ⟨?_, hx.trans hx4⟩) (fun h5 => ⟨?_, hx.trans hx4⟩)
        · unfold checkF; rw [if_neg hnot, if_neg hi, if_neg hbl, if_neg hsp, if_pos h5]
        · unfold checkF; rw [if_neg hnot, if_neg hi, if_neg hbl, if_neg hsp, if_neg h5]
      refine Cd_not (fun h3 => j3f true _ hx3 (fun _ => ?_) (fun h => by cases h)) (fun h3 => ?_)
      · have h3 : h.block < 1 ∨ 1048576 < h.block ∨ (h.fam = 2 ∧ Int.tmod h.block 2 = 1) := Decidable.not_not.1 (of_decide_eq_false h3)
        unfold checkF; rw [if_neg hnot, if_neg hi, if_pos h3]
      have h3 : ¬ (h.block < 1 ∨ 1048576 < h.block ∨ (h.fam = 2 ∧ Int.tmod h.block 2 = 1)) := of_decide_eq_true h3
      refine Rd_hasN (x := h) hB3 (by kernel_rfl) rfl ?_
      refine Cl_gives (blocks_gives h (by omega) (by omega) (by omega) (by omega)) fun w4 hx4 => ?_
      refine j3f _ _ (hx3.trans hx4) (fun h4 => ?_) (fun h4 => ⟨h3, of_decide_eq_false h4⟩)
      unfold checkF; rw [if_neg hnot, if_neg hi, if_neg h3, if_pos (of_decide_eq_true h4)]
    refine Rd_has hB (by kernel_rfl) rfl ?_
    refine Cd_dec (fun h1 => j2f _ (fun _ => .inl h1) (fun h => by cases h)) (fun h1 => ?_)
    refine Rd_has hB (by kernel_rfl) rfl ?_
    refine Rd_has hB (by kernel_rfl) rfl ?_
    refine Rd_has hB (by kernel_rfl) rfl ?_
    rw [eP, eQ, wrap64 (x := h.data + h.par) (by omega) (by omega)]
    refine j2f _ (fun h2 => .inr (of_decide_eq_true h2)) (fun h2 => ?_)
    have h2 := of_decide_eq_false h2
    rintro (h3 | h3)
    · exact h1 h3
    · exact h2 h3
  refine Cd_ne (fun h1 => j1f _ (fun _ => .inl (by rw [e1]; exact h1)) (fun h => by cases h)) (fun h1 => ?_)
  refine Rd_has hB (by kernel_rfl) rfl ?_
  refine j1f _ (fun h2 => .inr (by rw [e1]; exact bne_t h2)) (fun h2 => ⟨by rw [e1]; exact h1, by rw [e1]; exact bne_f h2⟩)

theorem rcheck_gives (h : Hd) : Gives Tryd.prog 14 #[hdV h] (.int .i64 (checkF h)) := by
  intro w
  refine culletref25_CheckHead.run _ h w ?_
  unfold culletref25_CheckHead.M
  refine Wr_box fun w1 hB1 hx1 => ?_
  refine Rd_has hB1 (by kernel_rfl) rfl ?_
  refine Rd_has hB1 (by kernel_rfl) rfl ?_
  refine Rd_has hB1 (by kernel_rfl) rfl ?_
  refine Rd_has hB1 (by kernel_rfl) rfl ?_
  refine Cl_gives (d := .tup [.at (.int .i64), .at (.int .i64)]) (x := ((lengthF h.1 h.2.1 h.2.2.1 h.2.2.2.2.1).1, (lengthF h.1 h.2.1 h.2.2.1 h.2.2.2.2.1).2, ())) (rlength_gives _ _ _ _) fun w2 hx2 => ?_
  have hB := hB1.ex hx2
  have hx := hx1.trans hx2
  dsimp only
  have e1 : lengthF h.fam h.data h.par h.size = lengthF h.1 h.2.1 h.2.2.1 h.2.2.2.2.1 := rfl
  have eP : h.2.1 = h.data := rfl
  have eQ : h.2.2.1 = h.par := rfl
  have j1f : ∀ b : Bool, (b = true → checkF h = 251) →
      (b = false → ((lengthF h.fam h.data h.par h.size).2 = 0 ∧ (lengthF h.fam h.data h.par h.size).1 = h.length) ∧ ¬ (h.index < 0 ∨ h.data + h.par ≤ h.index)) →
      culletref25_CheckHead.j1 (fun e w' => e = Ending.returned (.int .i64 (checkF h)) ∧ Ex w w') ⟨w.heap.size, 0, none⟩ (lengthF h.1 h.2.1 h.2.2.1 h.2.2.2.2.1).1 b w2 := by
    intro b hb1 hb2
    unfold culletref25_CheckHead.j1
    refine Cd_of (fun hb => ⟨by rw [hb1 hb], hx⟩) (fun hb => ?_)
    obtain ⟨⟨he, hl⟩, hi⟩ := hb2 hb
    have hnot : ¬ ((lengthF h.fam h.data h.par h.size).2 ≠ 0 ∨ (lengthF h.fam h.data h.par h.size).1 ≠ h.length) := by omega
    obtain ⟨hp, hs1, hs2, hl1⟩ := length_good he
    obtain ⟨p1, p2, p3, p4, p5, p6⟩ := params_good hp
    have hlb := lenF_bound (f := h.fam) (k := h.data) hs1 p3
    rw [← hl1, hl] at hlb
    have j2f : ∀ b : Bool, (b = true → h.block < 1 ∨ 1048576 < h.block ∨ (h.fam = 2 ∧ Int.tmod h.block 2 = 1)) → (b = false → ¬ (h.block < 1 ∨ 1048576 < h.block ∨ (h.fam = 2 ∧ Int.tmod h.block 2 = 1))) →
        culletref25_CheckHead.j2 (fun e w' => e = Ending.returned (.int .i64 (checkF h)) ∧ Ex w w') ⟨w.heap.size, 0, none⟩ (lengthF h.1 h.2.1 h.2.2.1 h.2.2.2.2.1).1 b w2 := by
      intro b hb1 hb2
      unfold culletref25_CheckHead.j2
      refine Cd_of (fun hb => ⟨by unfold checkF; rw [if_neg hnot, if_neg hi, if_pos (hb1 hb)], hx⟩) (fun hb => ?_)
      have hbl := hb2 hb
      refine Rd_has hB (by kernel_rfl) rfl ?_
      rw [← e1, hl]
      have eB : h.2.2.2.2.2.2.1 = h.block := rfl
      rw [eB]
      refine Cl_gives (spans_gives h.length h.block (by omega) (by omega) (by omega) (by omega)) fun w3 hx3 => ?_
      unfold culletref25_CheckHead.j3
      refine Cd_dec (fun h3 => Cd_t ⟨?_, hx.trans hx3⟩) (fun h3 => ?_)
      · unfold checkF; rw [if_neg hnot, if_neg hi, if_neg hbl, if_pos h3]
      refine Rd_has (hB.ex hx3) (by kernel_rfl) rfl ?_
      refine Rd_has (hB.ex hx3) (by kernel_rfl) rfl ?_
      rw [eP, eQ, wrap64 (x := h.data + h.par) (by omega) (by omega)]
      refine Pu_quo (by omega) ?_
      have hq := tdiv_nonneg' (show (0 : Int) ≤ 67108864 by decide) (show 0 < h.data + h.par by omega)
      rw [wrap64 (by omega) (by omega)]
      refine Cd_dec (fun h5 => ⟨?_, hx.trans hx3⟩) (fun h5 => ⟨?_, hx.trans hx3⟩)
      · unfold checkF; rw [if_neg hnot, if_neg hi, if_neg hbl, if_neg h3, if_pos h5]
      · unfold checkF; rw [if_neg hnot, if_neg hi, if_neg hbl, if_neg h3, if_neg h5]
    refine Rd_has hB (by kernel_rfl) rfl ?_
    refine Cd_dec (fun h1 => j2f _ (fun _ => .inl h1) (fun h => by cases h)) (fun h1 => ?_)
    refine Rd_has hB (by kernel_rfl) rfl ?_
    refine Cd_dec (fun h2 => j2f _ (fun _ => .inr (.inl h2)) (fun h => by cases h)) (fun h2 => ?_)
    refine Rd_has hB (by kernel_rfl) rfl ?_
    have n1 : ¬ h.block < 1 := h1
    have n2 : ¬ 1048576 < h.block := h2
    refine Cd_eq (fun h3 => ?_) (fun h3 => j2f _ (fun h => by cases h) (fun _ => ?_))
    · refine Rd_has hB (by kernel_rfl) rfl ?_
      refine j2f _ (fun h4 => .inr (.inr ⟨h3, ?_⟩)) (fun h4 => ?_)
      · exact beq_t h4
      · have h4 : ¬ Int.tmod h.block 2 = 1 := beq_f h4
        omega
    · have h3 : ¬ h.fam = 2 := h3
      omega
  refine Cd_ne (fun h1 => j1f _ (fun _ => ?_) (fun h => by cases h)) (fun h1 => ?_)
  · unfold checkF; rw [if_pos (.inl (by rw [e1]; exact h1))]
  refine Rd_has hB (by kernel_rfl) rfl ?_
  refine Cd_ne (fun h2 => j1f _ (fun _ => ?_) (fun h => by cases h)) (fun h2 => ?_)
  · unfold checkF; rw [if_pos (.inr (by rw [e1]; exact fun e => h2 e.symm))]
  have hl2 : (lengthF h.fam h.data h.par h.size).2 = 0 ∧ (lengthF h.fam h.data h.par h.size).1 = h.length := ⟨by rw [e1]; exact h1, by rw [e1]; exact h2.symm⟩
  have hnot : ¬ ((lengthF h.fam h.data h.par h.size).2 ≠ 0 ∨ (lengthF h.fam h.data h.par h.size).1 ≠ h.length) := by omega
  obtain ⟨hp, hs1, hs2, hl1⟩ := length_good hl2.1
  obtain ⟨p1, p2, p3, p4, p5, p6⟩ := params_good hp
  refine Rd_has hB (by kernel_rfl) rfl ?_
  refine Cd_dec (fun h3 => j1f _ (fun _ => ?_) (fun h => by cases h)) (fun h3 => ?_)
  · unfold checkF; rw [if_neg hnot, if_pos (.inl h3)]
  refine Rd_has hB (by kernel_rfl) rfl ?_
  refine Rd_has hB (by kernel_rfl) rfl ?_
  refine Rd_has hB (by kernel_rfl) rfl ?_
  rw [eP, eQ, wrap64 (x := h.data + h.par) (by omega) (by omega)]
  refine j1f _ (fun h4 => ?_) (fun h4 => ⟨hl2, ?_⟩)
  · unfold checkF; rw [if_neg hnot, if_pos (.inr (of_decide_eq_true h4))]
  · have h4 := of_decide_eq_false h4
    rintro (h5 | h5)
    · exact h3 h5
    · exact h4 h5
end Go.Proofs.YtbcjimfkdjjpjaaDoor
