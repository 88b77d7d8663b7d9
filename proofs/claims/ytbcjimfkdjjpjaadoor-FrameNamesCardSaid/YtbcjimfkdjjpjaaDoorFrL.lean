/- The walks of plays, awake, FrameNames and FrameFiles. -/
import Derived.Test.YtbcjimfkdjjpjaaDoorFrK
namespace Go.Proofs.YtbcjimfkdjjpjaaDoor
open Go Go.Cu
set_option linter.unusedVariables false
set_option maxHeartbeats 4000000
theorem packR_len (h : Hd) (l : List Int) : (packR h l).1.length ≤ 34000000 := by
  unfold packR
  split
  · simp
  · rename_i hc
    split
    · simp
    · rename_i hl
      have hc : checkF h = 0 := by omega
      obtain ⟨L, B, N, hL, hB, hN, hL1, hL2, hB1, hB2', hN2, hspan⟩ := good_sizes (check_good hc)
      simp only
      have hlL : l.length = L := by omega
      rw [hN, Int.toNat_natCast]
      have := packTo_length h l N (by
        cases N with
        | zero => exact .inl rfl
        | succ m =>
          refine .inr ?_
          rw [hB, Int.toNat_natCast, hlL]
          exact (hspan (m + 1 - 1)).1 (by omega))
      omega
theorem plays_gv (o : OpT) (l : List Int) (w : World) (hr : Rds b8 w (opB o) l) (hb : Bytes l) (ht : Tab w) : Gv Tryd.prog 6 #[opV o] (.bool true) w := by
  have hlen := hb.len
  refine culletlaw25_plays.run _ o w ?_
  unfold culletlaw25_plays.M
  refine Wr_box fun w1 hB1 hx1 => ?_
  refine Wr_lit (f := b8) (e := 5) (base := w1.heap.size) [] (by kernel_rfl) (Nat.le_refl _) (by simp) fun s2 w2 ho2 hx2 _ => ?_
  have hB12 := hB1.ex hx2
  refine Rd_has hB12 (by kernel_rfl) rfl ?_
  refine Wr_append tB iB rfl ho2 (hr.ex (hx1.trans hx2)) (fun y => rfl) (by simp; omega) (by simp; omega) hx2.size fun s3 w3 ho3 hm3 _ => ?_
  rw [List.nil_append] at ho3
  have hx13 : Ex w1 w3 := hx2.into hm3 (fun i hi => (ho2.base i hi).1)
  have hB13 := hB1.ex hx13
  have hxw3 := hx1.trans hx13
  have hr3 := hr.ex hxw3
  have ht3 := ht.ex hxw3
  have j1f : ∀ (b : Bool) (v : World), b = true → Ex w3 v → culletlaw25_plays.j1 (fun en w' => en = Ending.returned (.bool true) ∧ Ex w w') ⟨w.heap.size, 0, none⟩ s3 b v := by
    intro b v hb' hv
    subst hb'
    unfold culletlaw25_plays.j1
    refine Cd_t ?_
    have hBv := hB13.ex hv
    refine Rd_has hBv (by kernel_rfl) rfl ?_
    refine Cl_gv (sameBytes_gv s3 (opB o) l l v (ho3.ex hv).rds (hr3.ex hv) (by omega)) fun w5 hx5 => ?_
    exact ⟨by simp, (hxw3.trans hv).trans hx5⟩
  have d3 : ∀ v, Ex w3.drew v → Ex w3 v := fun v h => (Ex.drew w3).trans h
  have j2f : ∀ (b : Bool), culletlaw25_plays.j2 (fun en w' => en = Ending.returned (.bool true) ∧ Ex w w') ⟨w.heap.size, 0, none⟩ s3 true b w3 := by
    intro b
    unfold culletlaw25_plays.j2
    refine Cd_of (fun _ => ?_) (fun _ => j1f true w3 rfl (Ex.refl _))
    refine Rd_hasN (x := o) hB13 (by kernel_rfl) rfl ?_
    refine Cl_gv (files_gv o l w3 hr3 hb ht3) fun w5 hx5 => ?_
    exact j1f true w5 rfl hx5
  refine Rd_has hB13 (by kernel_rfl) rfl ?_
  refine Cd_eq (fun _ => ?_) (fun _ => Cd_eq (fun _ => ?_) (fun _ => Cd_eq (fun _ => ?_) (fun _ => Cd_eq (fun _ => ?_) (fun _ => Cd_of (fun _ => j2f _) (fun _ => j2f _)))))
  · refine Held_ex ?_
    refine RdS_has (fun v hv => hB13.ex (d3 v hv)) (by kernel_rfl) rfl ?_
    refine Cl_gv (sum_gv s3 l _ (ho3.ex (Ex.drew w3)).rds (ht3.ex (Ex.drew w3)) (by omega)) fun w4 hx4 => ⟨hx4, ?_⟩
    refine Cl_gv (rsum_gv (opB o) l _ (hr3.ex (d3 _ hx4)) (by omega)) fun w5 hx5 => ⟨hx4.trans hx5, ?_⟩
    exact j1f _ w5 (by simp) (d3 _ (hx4.trans hx5))
  · refine Held_ex ?_
    refine RdS_has (fun v hv => hB13.ex (d3 v hv)) (by kernel_rfl) rfl ?_
    refine RdS_has (fun v hv => hB13.ex (d3 v hv)) (by kernel_rfl) rfl ?_
    refine RdS_has (fun v hv => hB13.ex (d3 v hv)) (by kernel_rfl) rfl ?_
    refine Cl_gv (fold_gv (opS o) s3 l _ (ho3.ex (Ex.drew w3)).rds (ht3.ex (Ex.drew w3)) (by omega)) fun w4 hx4 => ⟨hx4, ?_⟩
    refine Cl_gv (rfold_gv (opS o) (opB o) l _ (hr3.ex (d3 _ hx4)) (by omega)) fun w5 hx5 => ⟨hx4.trans hx5, ?_⟩
    exact j1f _ w5 (by simp) (d3 _ (hx4.trans hx5))
  · refine Held_ex ?_
    refine RdS_hasN (x := opH o) (fun v hv => hB13.ex (d3 v hv)) (by kernel_rfl) rfl ?_
    refine RdS_hasN (x := opH o) (fun v hv => hB13.ex (d3 v hv)) (by kernel_rfl) rfl ?_
    refine Cl_gives (head_gives (opH o)) fun w4 hx4 => ⟨hx4, ?_⟩
    refine Cl_gives (check_gives (opH o)) fun w5 hx5 => ⟨hx4.trans hx5, ?_⟩
    refine Cl_gives (rcheck_gives (opH o)) fun w6 hx6 => ⟨(hx4.trans hx5).trans hx6, ?_⟩
    exact j1f _ w6 (by simp) (d3 _ ((hx4.trans hx5).trans hx6))
  · refine Rd_hasN (x := opH o) hB13 (by kernel_rfl) rfl ?_
    refine Cl_gives (head_gives (opH o)) fun w4 hx4 => ?_
    refine Cl_slN (pack_sl (opH o) s3 l w4 (ho3.ex hx4).rds (ht3.ex hx4)) fun sa w5 hsa hx5 => ?_
    have hx35 := hx4.trans hx5
    have hB15 := hB13.ex hx35
    refine Rd_hasN (x := opH o) hB15 (by kernel_rfl) rfl ?_
    refine Rd_has hB15 (by kernel_rfl) rfl ?_
    refine Cl_slN (rpack_sl (opH o) (opB o) l w5 (hr3.ex hx35)) fun sb w6 hsb hx6 => ?_
    refine Cd_eq (fun _ => ?_) (fun hn => absurd rfl hn)
    have := packR_len (opH o) l
    refine Cl_gv (sameBytes_gv sa sb _ _ w6 (hsa.ex hx6).rds hsb.rds (by omega)) fun w7 hx7 => ?_
    exact j1f _ w7 (by simp) ((hx35.trans hx6).trans hx7)
/-- the head of the small file that is tried first -/
def awakeHd : Hd := (0, 2, 1, 0, 3, 2, 1, 9, ())
theorem awake_pack : (packR awakeHd [7, 8]).2 = 0 ∧ (packR awakeHd [7, 8]).1.length = 58 := by
  have hc : checkF awakeHd = 0 := by decide
  have e : packR awakeHd [7, 8] = (packTo awakeHd [7, 8] 2, 0) := by
    unfold packR
    rw [if_neg (by omega), if_neg (by decide)]
    rfl
  rw [e]
  exact ⟨rfl, packTo_length awakeHd [7, 8] 2 (by decide)⟩
theorem awake_sum : foldF 0 [49, 50, 51, 52, 53, 54, 55, 56, 57] = 3421780262 := by kernel_rfl
theorem awake_gv (w : World) (ht : Tab w) : Gv Tryd.prog 5 #[] (.bool true) w := by
  refine culletlaw25_awake.run _ w ?_
  unfold culletlaw25_awake.M
  refine Wr_lit (f := b8) (e := 5) (base := w.heap.size) [7, 8] (by kernel_rfl) (Nat.le_refl _) (by simp) fun s1 w1 ho1 hx1 _ => ?_
  refine Cl_slN (pack_sl awakeHd s1 [7, 8] w1 ho1.rds (ht.ex hx1)) fun s2 w2 ho2 hx2 => ?_
  have hp := awake_pack
  refine Wr_litBytes (e := 5) (n := 9) [49, 50, 51, 52, 53, 54, 55, 56, 57] rfl tB (by kernel_rfl) (by kernel_rfl) fun s3 w3 hr3 hx3 => ?_
  refine Cl_gv (sum_gv s3 _ w3 hr3 ((ht.ex (hx1.trans hx2)).ex hx3) (by simp)) fun w4 hx4 => ?_
  refine Cd_eq (fun _ => ?_) (fun hn => absurd awake_sum hn)
  refine Cd_eq (fun _ => ?_) (fun hn => absurd hp.1 hn)
  refine ⟨?_, ((hx1.trans hx2).trans hx3).trans hx4⟩
  rw [ho2.1, hp.2]; rfl
theorem names_gv (w : World) (ht : Tab w) : Gv Tryd.prog 3 #[] (.bool true) w := by
  refine culletlaw25_FrameNames.run _ w ?_
  unfold culletlaw25_FrameNames.M
  exact Cl_gv (awake_gv w ht) fun w1 hx1 => ⟨rfl, hx1⟩
end Go.Proofs.YtbcjimfkdjjpjaaDoor
