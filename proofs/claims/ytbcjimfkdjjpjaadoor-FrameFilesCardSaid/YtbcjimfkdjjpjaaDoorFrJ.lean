/- The walk of the document's Read. -/
import Derived.Test.YtbcjimfkdjjpjaaDoorFrI
namespace Go.Proofs.YtbcjimfkdjjpjaaDoor
open Go Go.Cu
set_option linter.unusedVariables false
theorem sum_number (a : List Int) (n : Int) (m : List Int) : numF (le 4 (IntKind.wrap .u64 (blockSumF a n m))) = IntKind.wrap .u64 (blockSumF a n m) := by
  have hu := foldF_u32 (foldF (foldF 0 a) (le 4 (IntKind.wrap .u64 n))) m
  obtain ⟨v, hv⟩ := Int.eq_ofNat_of_zero_le hu.1
  have h2 : v < 4294967296 := by have := hu.2; rw [hv] at this; omega
  unfold blockSumF
  rw [hv, wrap_u64_id (x := (v : Int)) (by omega) (by omega)]
  exact numF_le 4 v h2 (by omega)
theorem rread_rd (file : Sl) (l : List Int) (w : World) (hr : Rds b8 w file l) (hrange : ∀ x ∈ l, 0 ≤ x ∧ x < 256) (hl : l.length ≤ 140737488355328) :
    GivesRd Tryd.prog 33 #[.slice file.base file.len file.cap] (readF l) w := by
  refine culletref25_Read.run _ file w ?_
  unfold culletref25_Read.M
  refine Wr_alloc (z := hdV zeroHd) (by kernel_rfl) fun w2 hB2 hx2 => ?_
  have hsT : sizeIs Tryd.prog 26 8 = true := by kernel_rfl
  have haT : isAggN Tryd.prog 26 8 = true := by kernel_rfl
  have hhd := rreadHead_hd file l w2 (hr.ex hx2) hrange hl
  have hbd := readHead_bound l
  rcases hq : readHeadF l with ⟨H, e⟩
  rw [hq] at hhd hbd
  refine Cl_hd hhd fun w4 hx4 => ?_
  refine Wr_alloc (z := hdV zeroHd) (by kernel_rfl) fun w4' hB4 hx4' => ?_
  refine Wu_hd1 (h := H) hB4 rfl hsT fun w5 hB5 hm5 => ?_
  have hx25 : Ex w2 w5 := hx4.trans (hx4'.into hm5 (fun i hi => by rw [hi]; exact Nat.le_refl _))
  have hx5 : Ex w w5 := hx2.trans hx25
  have hb4 : w2.heap.size ≤ w4.heap.size := hx4.size
  refine Cd_ne (fun he => ?_) (fun he => ?_)
  · refine Wu_hd (h := zeroHd) (hB2.ex hx25) rfl hsT haT fun w6 hm6 => ?_
    have hf : readF l = (zeroHd, [], [], e) := by unfold readF; rw [hq]; exact if_pos he
    rw [hf]
    exact ⟨⟨none, 0, 0⟩, ⟨none, 0, 0⟩, rfl, Own.nil _ _ _ _, Own.nil _ _ _ _, hx5.into hm6 (fun i hi => by rw [hi]; exact Nat.le_refl _)⟩
  have he : e = 0 := he
  obtain ⟨hH, hc, h48⟩ := hbd he
  have hH : H = hdOf l := congrArg Prod.fst hH
  subst hH
  have hg := check_good hc
  obtain ⟨L, B, N, hL, hB, hN, hL1, hL2, hB1, hB2', hN2, hspan⟩ := good_sizes hg
  have hf : readF l = if (l.length : Int) > 48 + (hdOf l).length + 4 * spansF (hdOf l).length (hdOf l).block then (zeroHd, [], [], 252)
      else (hdOf l, shardTo l L B N, badTo l L B N, 0) := by
    unfold readF; rw [hq, if_neg (fun hn => hn he), hN, hL, hB]; rfl
  have rd5 : ∀ {w' : World} {k : Int → World → Prop}, Has w' w4.heap.size (encAts hAts (hdOf l)) 26 → k (L : Int) w' → Rd Tryd.prog (Instr.loadAt 3 (.pointer (some (Addr.add ⟨w4.heap.size, 0, none⟩ 5)))) (.one (.at (.int .i64))) k w' := fun hB hk =>
    Rd_has (c := .int .i64) (x := (L : Int)) hB (by kernel_rfl) (by rw [← hL]; rfl) hk
  have rd6 : ∀ {w' : World} {k : Int → World → Prop}, Has w' w4.heap.size (encAts hAts (hdOf l)) 26 → k (B : Int) w' → Rd Tryd.prog (Instr.loadAt 3 (.pointer (some (Addr.add ⟨w4.heap.size, 0, none⟩ 6)))) (.one (.at (.int .i64))) k w' := fun hB' hk =>
    Rd_has (c := .int .i64) (x := (B : Int)) hB' (by kernel_rfl) (by rw [← hB]; rfl) hk
  have spg : Gives Tryd.prog 25 #[.int .i64 (L : Int), .int .i64 (B : Int)] (.int .i64 (N : Int)) := by
    have := spans_gives (L : Int) (B : Int) (by omega) (by omega) (by omega) (by omega)
    rw [← hL, ← hB, hN, hL, hB] at this
    exact this
  refine Held_ex ?_
  have hB5d : ∀ w' : World, Ex w5.drew w' → Has w' w4.heap.size (encAts hAts (hdOf l)) 26 := fun w' h => hB5.ex ((Ex.drew w5).trans h)
  refine RdS_has (c := .int .i64) (x := (L : Int)) hB5d (by kernel_rfl) (by rw [← hL]; rfl) ?_
  refine RdS_has (c := .int .i64) (x := (L : Int)) hB5d (by kernel_rfl) (by rw [← hL]; rfl) ?_
  refine RdS_has (c := .int .i64) (x := (B : Int)) hB5d (by kernel_rfl) (by rw [← hB]; rfl) ?_
  refine Cl_gives spg fun w11 hx11 => ⟨hx11, ?_⟩
  have hx511 : Ex w5 w11 := (Ex.drew w5).trans hx11
  have hxw11 := hx5.trans hx511
  have hB11 := hB5.ex hx511
  have hB211 := hB2.ex (hx25.trans hx511)
  unfold culletref25_Read.j1
  have hcond : decide ((file.len : Int) > IntKind.wrap .i64 (IntKind.wrap .i64 (48 + (L : Int)) + IntKind.wrap .i64 (4 * (N : Int)))) = decide ((l.length : Int) > 48 + (hdOf l).length + 4 * spansF (hdOf l).length (hdOf l).block) := by
    rw [wrap64 (x := 48 + (L : Int)) (by omega) (by omega), wrap64 (x := 4 * (N : Int)) (by omega) (by omega), wrap64 (x := 48 + (L : Int) + 4 * (N : Int)) (by omega) (by omega), hN, hL, hr.1]
  rw [hcond]
  refine Cd_dec (fun hgt => ?_) (fun hle => ?_)
  · refine Wu_hd (h := zeroHd) hB211 rfl hsT haT fun w6 hm6 => ?_
    rw [hf, if_pos hgt]
    exact ⟨⟨none, 0, 0⟩, ⟨none, 0, 0⟩, rfl, Own.nil _ _ _ _, Own.nil _ _ _ _, hxw11.into hm6 (fun i hi => by rw [hi]; exact Nat.le_refl _)⟩
  rw [hf, if_neg hle]
  refine rd5 hB11 ?_
  refine Wr_make (f := b8) (z := 0) (e := 5) (bytes := 1) tB (by kernel_rfl) rfl L (by omega) (by omega) rfl rfl fun s w17 hs17 hB17 hx17 => ?_
  unfold culletref25_Read.l1
  refine loopW_of (fun st w' => st.1 = file ∧ st.2.1 = ⟨w.heap.size, 0, none⟩ ∧ st.2.2.1 = ⟨w4.heap.size, 0, none⟩ ∧ st.2.2.2.1 = s ∧ ∃ i : Nat, i ≤ N ∧ st.2.2.2.2.2.2.1 = (i : Int) ∧ st.2.2.2.2.2.1 = ((48 + min (i * B) L + 4 * i : Nat) : Int) ∧
      Ex w11 w' ∧ Has w' w11.heap.size ((shardTo l L B i).map b8) 5 ∧ Own i64v 3 w11.heap.size w' st.2.2.2.2.1 (badTo l L B i) ∧ ∀ b, SlIn st.2.2.2.2.1 b → b ≠ w11.heap.size)
    (fun st _ => N - st.2.2.2.2.2.2.1.toNat) ?_
    ⟨rfl, rfl, rfl, rfl, 0, Nat.zero_le _, rfl, by simp, hx17, hB17, Own.nil _ _ _ _, fun b hb => by obtain ⟨a, ha, _⟩ := hb; cases ha⟩
  rintro k ⟨f', a', a2', s', b', at', i', u⟩ w0' hI hk
  dsimp only at hI hk ⊢
  obtain ⟨rfl, rfl, rfl, rfl, i, hi, rfl, rfl, hx0, hBs0, hob0, hne⟩ := hI
  unfold culletref25_Read.b1
  have hBh0 := hB11.ex hx0
  refine rd5 hBh0 (rd6 hBh0 ?_)
  refine Cl_gives spg fun w' hx0' => ?_
  have hx := hx0.trans hx0'
  have hBs := hBs0.ex hx0'
  have hob := hob0.ex hx0'
  have hBh := hB11.ex hx
  have hxw := hxw11.trans hx
  refine Cd_dec (fun hlt => ?_) (fun hge => ?_)
  · have hiN : i < N := by omega
    have hiB := (hspan i).1 hiN
    obtain ⟨q1, q2, q3, q4, q5, q6, q7, q8⟩ := blk_sizes hL2 hB1 hB2' hN2 hiN hiB
    have a1 : IntKind.wrap .i64 ((blkAt B i : Int) + (blkN L B i : Int)) = ((blkAt B i + blkN L B i : Nat) : Int) := by rw [wrap64 (by omega) (by omega)]; omega
    have a2 : IntKind.wrap .i64 (((blkAt B i + blkN L B i : Nat) : Int) + 4) = ((blkAt B i + blkN L B i + 4 : Nat) : Int) := by rw [wrap64 (by omega) (by omega)]; omega
    have hxd := hxw.trans (Ex.drew w')
    have hdr : Ex w' w'.drew := Ex.drew w'
    have j3f : ∀ (bd : Sl) (v : World), Ex w11 v → Has v w11.heap.size ((shardTo l L B (i + 1)).map b8) 5 → Own i64v 3 w11.heap.size v bd (badTo l L B (i + 1)) → (∀ b, SlIn bd b → b ≠ w11.heap.size) →
        culletref25_Read.j3 (fun en w' => ∃ s b : Sl, en = Ending.returned (.tuple #[hdV (hdOf l), .slice s.base s.len s.cap, .slice b.base b.len b.cap, .int .i64 0]) ∧ Own b8 5 w.heap.size w' s (shardTo l L B N) ∧ Own i64v 3 w.heap.size w' b (badTo l L B N) ∧ Ex w w')
          k f' ⟨w.heap.size, 0, none⟩ ⟨w4.heap.size, 0, none⟩ s' bd (blkAt B i : Int) (i : Int) (blkN L B i : Int) v := by
      intro bd v hxv hBv hov hnev
      unfold culletref25_Read.j3
      rw [a1, a2, wrap64 (x := (i : Int) + 1) (by omega) (by omega)]
      exact hk _ _ ⟨rfl, rfl, rfl, rfl, i + 1, by omega, by simp, by rw [q7], hxv, hBv, hov, hnev⟩ (by simp only; omega)
    have j4f : ∀ (b : Bool) (v : World), b = okB l L B i → Ex w' v →
        culletref25_Read.j4 (fun en w' => ∃ s b : Sl, en = Ending.returned (.tuple #[hdV (hdOf l), .slice s.base s.len s.cap, .slice b.base b.len b.cap, .int .i64 0]) ∧ Own b8 5 w.heap.size w' s (shardTo l L B N) ∧ Own i64v 3 w.heap.size w' b (badTo l L B N) ∧ Ex w w')
          k f' ⟨w.heap.size, 0, none⟩ ⟨w4.heap.size, 0, none⟩ s' b' (blkAt B i : Int) (i : Int) ((i * B : Nat) : Int) (blkN L B i : Int) b v := by
      intro b v hb hv
      unfold culletref25_Read.j4
      have hxv := hx.trans hv
      have hxd' : Ex w v.drew := (hxw11.trans hxv).trans (Ex.drew v)
      refine Cd_of (fun hbt => ?_) (fun hbf => ?_)
      · have hok : okB l L B i = true := by rw [← hb]; exact hbt
        have hle' := okB_le hok
        refine Held_of (fun _ => True) trivial ?_
        rw [a1, hs17]
        refine Pu_sub tB sB hiB ?_
        refine cut_slice (hr.ex hxd') (a := blkAt B i) (b := blkAt B i + blkN L B i) (by omega) (by omega) (.inr ⟨_, rfl⟩) ⟨_, rfl⟩ (Ex.refl _) fun s3 hs3 => ?_
        have hcl := cut_length (l := l) (a := blkAt B i) (b := blkAt B i + blkN L B i) (by omega)
        have hsl := shardTo_length l L B i (by
          cases i with
          | zero => exact .inl rfl
          | succ m => exact .inr ((hspan (m + 1 - 1)).1 (by omega)))
        refine Wr_copy tB (by kernel_rfl) ((hBs.ex hv).ex (Ex.drew v)) (hs3 _ (hr.ex hxd')) (fun y => rfl) (fun hn => by rw [hn] at hcl; simp at hcl; omega) (by omega) (by show _ ≤ L - i * B; omega) fun w6 hB6 hm6 => ?_
        refine ⟨trivial, ?_⟩
        rw [← hs17]
        have hx6 : Ex w11 w6 := (hxv.trans (Ex.drew v)).into hm6 (fun i hi => by rw [hi]; exact Nat.le_refl _)
        refine j3f b' w6 hx6 ?_ ?_ hne
        · unfold shardTo; rw [if_pos hok]
          rw [hcl] at hB6
          rw [show blkAt B i + blkN L B i - blkAt B i = blkN L B i by omega] at hB6
          exact hB6
        · unfold badTo; rw [if_pos hok]
          exact ((hob.ex hv).ex (Ex.drew v)).mo hm6 (fun b hb hn => hne b hb hn)
      · have hok : okB l L B i = false := by rw [← hb]; exact hbf
        refine Wr_lit (f := i64v) (e := 3) (base := w11.heap.size) [(i : Int)] (by kernel_rfl) hxv.size (by simp) fun s4 w4'' ho4 hx4'' _ => ?_
        have hbl := badTo_length l L B i
        refine Wr_append tI iI rfl ((hob.ex hv).ex hx4'') ho4.rds (fun y => rfl) (by simp; omega) (by simp; omega) (Nat.le_trans hxv.size hx4''.size) fun s6 w6 ho6 hm6 hin => ?_
        have hx6 : Ex w11 w6 := (hxv.trans hx4'').into hm6 (fun i hi => (hob.base i hi).1)
        refine j3f s6 w6 hx6 ?_ ?_ ?_
        · unfold shardTo; rw [if_neg (by rw [hok]; decide)]
          exact ((hBs.ex hv).ex hx4'').mo hm6 (fun hn => hne _ hn rfl)
        · unfold badTo; rw [if_neg (by rw [hok]; decide)]
          exact ho6
        · intro b hb hbn
          rcases hin b hb with h' | h'
          · exact hne b h' hbn
          · have := ((hBs.ex hv).ex hx4'').lt; omega
    have j2f : culletref25_Read.j2 (fun en w' => ∃ s b : Sl, en = Ending.returned (.tuple #[hdV (hdOf l), .slice s.base s.len s.cap, .slice b.base b.len b.cap, .int .i64 0]) ∧ Own b8 5 w.heap.size w' s (shardTo l L B N) ∧ Own i64v 3 w.heap.size w' b (badTo l L B N) ∧ Ex w w')
          k f' ⟨w.heap.size, 0, none⟩ ⟨w4.heap.size, 0, none⟩ s' b' (blkAt B i : Int) (i : Int) ((i * B : Nat) : Int) (blkN L B i : Int) w' := by
      unfold culletref25_Read.j2
      rw [a1, a2]
      refine Held_ex ?_
      refine Cd_dec (fun hfit => ?_) (fun hnofit => j4f false _ ?_ hdr)
      · rw [hr.1] at hfit
        have hr' := hr.ex hxd
        refine cut_slice hr' (a := blkAt B i + blkN L B i) (b := blkAt B i + blkN L B i + 4) (by omega) (by omega) (.inr ⟨_, rfl⟩) ⟨_, rfl⟩ (Ex.refl _) fun sa hsa => ?_
        refine cut_slice hr' (a := 0) (b := 44) (by omega) (by omega) (.inl ⟨rfl, rfl⟩) ⟨_, rfl⟩ (Ex.refl _) fun sc hsc => ?_
        refine cut_slice hr' (a := blkAt B i) (b := blkAt B i + blkN L B i) (by omega) (by omega) (.inr ⟨_, rfl⟩) ⟨_, rfl⟩ (Ex.refl _) fun sb hsb => ?_
        refine Cl_gv (number_gv _ _ _ (hsa _ hr') (by rw [cut_length (by omega)]; omega)) fun w6 hx6 => ⟨hx6, ?_⟩
        refine Cl_sl (rblockSum_sl _ _ _ _ _ w6 (hsc _ (hr'.ex hx6)) (hsb _ (hr'.ex hx6)) (by rw [cut_length (by omega)]; omega) (by rw [cut_length (by omega)]; omega)) fun s7 w7 ho7 hx7 => ⟨hx6.trans hx7, ?_⟩
        refine Cl_gv (number_gv _ _ _ ho7.rds (by rw [le_length]; omega)) fun w8 hx8 => ⟨(hx6.trans hx7).trans hx8, ?_⟩
        refine j4f _ _ ?_ (((hdr.trans hx6).trans hx7).trans hx8)
        unfold okB
        rw [sum_number, decide_eq_true (by omega), Bool.true_and]; rfl
      · rw [hr.1] at hnofit
        unfold okB
        rw [decide_eq_false (by omega), Bool.false_and]
    refine rd6 hBh (rd6 hBh (rd5 hBh ?_))
    rw [q8, q1]
    have hn' : blkN L B i = min B (L - i * B) := rfl
    rw [wrap64 (x := ((i * B : Nat) : Int) + (B : Int)) (by omega) (by omega)]
    refine Cd_dec (fun hgt => rd5 hBh ?_) (fun hle => ?_)
    · rw [show IntKind.wrap .i64 ((L : Int) - ((i * B : Nat) : Int)) = (blkN L B i : Int) by rw [wrap64 (by omega) (by omega)]; omega]
      exact j2f
    · rw [show (B : Int) = (blkN L B i : Int) by omega]
      exact j2f
  · have : i = N := by omega
    subst this
    refine Rd_hasN (x := hdOf l) hBh haT rfl ?_
    refine Wu_hd (h := hdOf l) (hB211.ex hx) rfl hsT haT fun w6 hm6 => ?_
    have hxf : Ex w w6 := hxw.into hm6 (fun i hi => by rw [hi]; exact Nat.le_refl _)
    have hlt := hB211.lt
    have hsl := shardTo_length l L B i (by
      cases i with
      | zero => exact .inl rfl
      | succ m => exact .inr ((hspan (m + 1 - 1)).1 (by omega)))
    refine ⟨s', b', rfl, ?_, ?_, hxf⟩
    · rw [hs17]
      exact own_of_has hsl (by omega) (hBs.mo hm6 (fun hn => by omega)) hxw11.size
    · exact (hob.mo hm6 (fun b hb hn => by have := (hob.base b hb).1; omega)).weak hxw11.size
end Go.Proofs.YtbcjimfkdjjpjaaDoor
