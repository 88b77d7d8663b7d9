/- The walks of Read and of the document's. -/
import Derived.Test.YtbcjimfkdjjpjaaDoorFrH
import Derived.Test.YtbcjimfkdjjpjaaDoorCopyLib
namespace Go.Proofs.YtbcjimfkdjjpjaaDoor
open Go Go.Cu
set_option linter.unusedVariables false
def blkAt (B i : Nat) : Nat := 48 + i * B + 4 * i
def blkN (L B i : Nat) : Nat := min B (L - i * B)
/-- does the block stand there whole, with its sum? -/
def okB (l : List Int) (L B i : Nat) : Bool :=
  decide (blkAt B i + blkN L B i + 4 ≤ l.length) && (numF (cut l (blkAt B i + blkN L B i) (blkAt B i + blkN L B i + 4)) == IntKind.wrap .u64 (blockSumF (l.take 44) i (cut l (blkAt B i) (blkAt B i + blkN L B i))))
def shardTo (l : List Int) (L B : Nat) : Nat → List Int
  | 0 => List.replicate L 0
  | i + 1 => if okB l L B i then (shardTo l L B i).take (i * B) ++ cut l (blkAt B i) (blkAt B i + blkN L B i) ++ (shardTo l L B i).drop (i * B + blkN L B i) else shardTo l L B i
def badTo (l : List Int) (L B : Nat) : Nat → List Int
  | 0 => []
  | i + 1 => if okB l L B i then badTo l L B i else badTo l L B i ++ [(i : Int)]
def readF (l : List Int) : Hd × List Int × List Int × Int :=
  if (readHeadF l).2 ≠ 0 then (zeroHd, [], [], (readHeadF l).2)
  else if (l.length : Int) > 48 + (hdOf l).length + 4 * spansF (hdOf l).length (hdOf l).block then (zeroHd, [], [], 252)
  else (hdOf l, shardTo l (hdOf l).length.toNat (hdOf l).block.toNat (spansF (hdOf l).length (hdOf l).block).toNat, badTo l (hdOf l).length.toNat (hdOf l).block.toNat (spansF (hdOf l).length (hdOf l).block).toNat, 0)
theorem cut_length {l : List Int} {a b : Nat} (hb : b ≤ l.length) : (cut l a b).length = b - a := by unfold cut; simp; omega
theorem okB_le {l : List Int} {L B i : Nat} (h : okB l L B i = true) : blkAt B i + blkN L B i + 4 ≤ l.length := by
  unfold okB at h; rw [Bool.and_eq_true, decide_eq_true_iff] at h; exact h.1
theorem shardTo_length (l : List Int) (L B : Nat) : ∀ i, (i = 0 ∨ (i - 1) * B < L) → (shardTo l L B i).length = L
  | 0, _ => by simp [shardTo]
  | i + 1, h => by
    have h : i * B < L := by simpa using h
    have ih := shardTo_length l L B i (by
      cases i with
      | zero => exact .inl rfl
      | succ m =>
        right
        have : (m + 1 - 1) * B ≤ (m + 1) * B := Nat.mul_le_mul_right _ (by omega)
        omega)
    unfold shardTo
    split
    · rename_i ho
      have := okB_le ho
      rw [List.length_append, List.length_append, List.length_take, List.length_drop, cut_length (by omega), ih]
      unfold blkN at *
      omega
    · exact ih
theorem badTo_length (l : List Int) (L B : Nat) : ∀ i, (badTo l L B i).length ≤ i
  | 0 => by simp [badTo]
  | i + 1 => by
    have := badTo_length l L B i
    unfold badTo
    split
    · omega
    · rw [List.length_append]; simp; omega
/-- a head is laid down -/
theorem Wu_hd1 {T : TypeId} {B : Nat} {cs : List Value} {h : Hd} {K : World → Prop} {w : World} (hB : Has w B cs T) (hlen : cs.length = 8) (hs : sizeIs Tryd.prog T 8 = true)
    (hK : ∀ w', Has w' B (encAts hAts h) T → Mo (fun b => b = B) w w' → K w') : Wu Tryd.prog (Instr.storeAt T (.pointer (some ⟨B, 0, none⟩)) (hdV h)) K w := by
  refine Wu_store hB hs (by simp [Value.cells, Value.oneCell']) (by rw [hlen]; exact Nat.le_refl 8) fun w1 hB1 hm => hK w1 ?_ hm
  have : List.drop (0 + (hdV h).cells.size) cs = [] := List.drop_of_length_le (by rw [hlen]; exact Nat.le_refl 8)
  rw [this, List.append_nil] at hB1
  exact hB1
/-- and read again -/
theorem Wu_hd {T : TypeId} {B : Nat} {cs : List Value} {h : Hd} {K : Hd → World → Prop} {w : World} (hB : Has w B cs T) (hlen : cs.length = 8) (hs : sizeIs Tryd.prog T 8 = true) (ha : isAggN Tryd.prog T 8 = true)
    (hK : ∀ w', Mo (fun b => b = B) w w' → K h w') : Wu Tryd.prog (Instr.storeAt T (.pointer (some ⟨B, 0, none⟩)) (hdV h)) (fun w1 => ∃ r : Hd, (loadVar T ⟨B, 0, none⟩).run Tryd.prog w1 = .ok (hdV r) w1 ∧ K r w1) w :=
  Wu_hd1 hB hlen hs fun w1 hB1 hm => ⟨h, run_load_agg (cs := encAts hAts h) ha (has_part (l := hAts) (x := h) (i := 0) hB1 rfl), hK w1 hm⟩
/-- what Read gives -/
def GivesRd (P : Program) (f : FuncId) (args : Array Value) (r : Hd × List Int × List Int × Int) (w : World) : Prop :=
  Calls P f args w fun en w' => ∃ s b : Sl, en = .returned (.tuple #[hdV r.1, .slice s.base s.len s.cap, .slice b.base b.len b.cap, .int .i64 r.2.2.2]) ∧ Own b8 5 w.heap.size w' s r.2.1 ∧ Own i64v 3 w.heap.size w' b r.2.2.1 ∧ Ex w w'
/-- the sizes of a good head's shard -/
theorem good_sizes {h : Hd} (hg : GoodHd h) : ∃ L B N : Nat, h.length = L ∧ h.block = B ∧ spansF h.length h.block = N ∧ 1 ≤ L ∧ L ≤ 33554432 ∧ 1 ≤ B ∧ B ≤ 1048576 ∧ N ≤ 65536 ∧ ∀ i : Nat, i < N ↔ i * B < L := by
  have hl1 := hg.len1
  have hl2 := hg.len2
  have hb1 := hg.blk1
  have hb2 := hg.blk2
  have hs2 := hg.spans2
  obtain ⟨N, hN⟩ := Int.eq_ofNat_of_zero_le (show 0 ≤ spansF h.length h.block by have := tdiv_up (n := h.length) (k := h.block) hl1 hb1; unfold spansF; omega)
  obtain ⟨B, hB⟩ := Int.eq_ofNat_of_zero_le (show 0 ≤ h.block by omega)
  obtain ⟨L, hL⟩ := Int.eq_ofNat_of_zero_le (show 0 ≤ h.length by omega)
  refine ⟨L, B, N, hL, hB, hN, by omega, by omega, by omega, by omega, by omega, fun i => ?_⟩
  have := spans_lt (L := h.length) (B := h.block) (i := i) hb1 hl1
  rw [hN, hL, hB] at this
  constructor
  · intro h'; have := this.1 (by omega); rw [← Int.natCast_mul] at this; omega
  · intro h'; have := this.2 (by rw [← Int.natCast_mul]; omega); omega
theorem blk_sizes {L B N i : Nat} (hL : L ≤ 33554432) (hB : 1 ≤ B) (hB2 : B ≤ 1048576) (hN : N ≤ 65536) (hi : i < N) (h : i * B < L) :
    IntKind.wrap .i64 ((i : Int) * B) = ((i * B : Nat) : Int) ∧ minI (B : Int) (IntKind.wrap .i64 ((L : Int) - ((i * B : Nat) : Int))) = (blkN L B i : Int) ∧ blkN L B i ≤ 1048576 ∧ 1 ≤ blkN L B i ∧ i * B + blkN L B i ≤ L ∧ blkAt B i ≤ 40000000 ∧
      (48 + min ((i + 1) * B) L + 4 * (i + 1) = blkAt B i + blkN L B i + 4) ∧ 48 + min (i * B) L + 4 * i = blkAt B i := by
  unfold blkN blkAt minI
  rw [show (i : Int) * B = ((i * B : Nat) : Int) by rw [Int.natCast_mul], wrap64 (x := ((i * B : Nat) : Int)) (by omega) (by omega), wrap64 (x := (L : Int) - ((i * B : Nat) : Int)) (by omega) (by omega)]
  refine ⟨rfl, ?_, by omega, by omega, by omega, by omega, ?_, by omega⟩
  · split <;> omega
  · rw [Nat.add_mul, Nat.one_mul]; omega
theorem read_rd (file : Sl) (l : List Int) (w : World) (hr : Rds b8 w file l) (hrange : ∀ x ∈ l, 0 ≤ x ∧ x < 256) (hl : l.length ≤ 140737488355328) (ht : Tab w) :
    GivesRd Tryd.prog 32 #[.slice file.base file.len file.cap] (readF l) w := by
  refine frame_Read.run _ file w ?_
  unfold frame_Read.M
  refine Wr_alloc (z := hdV zeroHd) (by kernel_rfl) fun w2 hB2 hx2 => ?_
  have hsT : sizeIs Tryd.prog 38 8 = true := by kernel_rfl
  have haT : isAggN Tryd.prog 38 8 = true := by kernel_rfl
  have hhd := headOf_hd file l w2 (hr.ex hx2) hrange hl (ht.ex hx2)
  have hbd := readHead_bound l
  rcases hq : readHeadF l with ⟨H, e⟩
  rw [hq] at hhd hbd
  refine Cl_hd hhd fun w4 hx4 => ?_
  refine Wu_hd1 (h := H) (hB2.ex hx4) rfl hsT fun w5 hB5 hm5 => ?_
  have hx5 : Ex w w5 := (hx2.trans hx4).into hm5 (fun i hi => by rw [hi]; exact Nat.le_refl _)
  refine Cd_ne (fun he => ?_) (fun he => ?_)
  · refine Wu_hd (h := zeroHd) hB5 rfl hsT haT fun w6 hm6 => ?_
    have hf : readF l = (zeroHd, [], [], e) := by unfold readF; rw [hq]; exact if_pos he
    rw [hf]
    exact ⟨⟨none, 0, 0⟩, ⟨none, 0, 0⟩, rfl, Own.nil _ _ _ _, Own.nil _ _ _ _, hx5.into hm6 (fun i hi => by rw [hi]; exact Nat.le_refl _)⟩
  have he : e = 0 := he
  obtain ⟨hH, hc, h48⟩ := hbd he
  have hH : H = hdOf l := congrArg Prod.fst hH
  subst hH
  have hg := check_good hc
  obtain ⟨L, B, N, hL, hB, hN, hL1, hL2, hB1, hB2', hN2, hspan⟩ := good_sizes hg
  refine Rd_hasN (x := hdOf l) hB5 haT rfl ?_
  refine Cl_gives (whole_gives (hdOf l) hg) fun w11 hx11 => ?_
  have hf : readF l = if (l.length : Int) > 48 + (hdOf l).length + 4 * spansF (hdOf l).length (hdOf l).block then (zeroHd, [], [], 252)
      else (hdOf l, shardTo l L B N, badTo l L B N, 0) := by
    unfold readF; rw [hq, if_neg (fun hn => hn he), hN, hL, hB]; rfl
  have hxw11 := hx5.trans hx11
  refine Cd_dec (fun hgt => ?_) (fun hle => ?_)
  · refine Wu_hd (h := zeroHd) (hB5.ex hx11) rfl hsT haT fun w6 hm6 => ?_
    rw [hf, if_pos (by rw [← hr.1]; exact hgt)]
    exact ⟨⟨none, 0, 0⟩, ⟨none, 0, 0⟩, rfl, Own.nil _ _ _ _, Own.nil _ _ _ _, hxw11.into hm6 (fun i hi => by rw [hi]; exact Nat.le_refl _)⟩
  rw [hf, if_neg (by rw [← hr.1]; exact hle)]
  have rd5 : ∀ {w' : World} {k : Int → World → Prop}, Has w' w.heap.size (encAts hAts (hdOf l)) 38 → k (L : Int) w' → Rd Tryd.prog (Instr.loadAt 3 (.pointer (some (Addr.add ⟨w.heap.size, 0, none⟩ 5)))) (.one (.at (.int .i64))) k w' := fun hB hk =>
    Rd_has (c := .int .i64) (x := (L : Int)) hB (by kernel_rfl) (by rw [← hL]; rfl) hk
  have rd6 : ∀ {w' : World} {k : Int → World → Prop}, Has w' w.heap.size (encAts hAts (hdOf l)) 38 → k (B : Int) w' → Rd Tryd.prog (Instr.loadAt 3 (.pointer (some (Addr.add ⟨w.heap.size, 0, none⟩ 6)))) (.one (.at (.int .i64))) k w' := fun hB' hk =>
    Rd_has (c := .int .i64) (x := (B : Int)) hB' (by kernel_rfl) (by rw [← hB]; rfl) hk
  have hB11 := hB5.ex hx11
  refine rd5 hB11 ?_
  refine Wr_make (f := b8) (z := 0) (e := 5) (bytes := 1) tB (by kernel_rfl) rfl L (by omega) (by omega) rfl rfl fun s w17 hs17 hB17 hx17 => ?_
  refine Rd_hasN (x := hdOf l) (hB11.ex hx17) haT rfl ?_
  refine Cl_gives (blocks_gives (hdOf l) (by omega) (by omega) (by omega) (by omega)) fun w21 hx21 => ?_
  rw [hN]
  unfold frame_Read.l1
  refine loopW_of (fun st w' => st.1 = file ∧ st.2.1 = ⟨w.heap.size, 0, none⟩ ∧ st.2.2.1 = s ∧ st.2.2.2.2.2.1 = (N : Int) ∧ ∃ i : Nat, i ≤ N ∧ st.2.2.2.2.2.2.1 = (i : Int) ∧ st.2.2.2.2.1 = ((48 + min (i * B) L + 4 * i : Nat) : Int) ∧
      Ex w11 w' ∧ Has w' w11.heap.size ((shardTo l L B i).map b8) 5 ∧ Own i64v 3 w11.heap.size w' st.2.2.2.1 (badTo l L B i) ∧ ∀ b, SlIn st.2.2.2.1 b → b ≠ w11.heap.size)
    (fun st _ => N - st.2.2.2.2.2.2.1.toNat) ?_
    ⟨rfl, rfl, rfl, rfl, 0, Nat.zero_le _, rfl, by simp, hx17.trans hx21, hB17.ex hx21, Own.nil _ _ _ _, fun b hb => by obtain ⟨a, ha, _⟩ := hb; cases ha⟩
  rintro k ⟨f', a', s', b', at', n', i', u⟩ w' hI hk
  dsimp only at hI hk ⊢
  obtain ⟨rfl, rfl, rfl, rfl, i, hi, rfl, rfl, hx, hBs, hob, hne⟩ := hI
  unfold frame_Read.b1
  have hBh := hB11.ex hx
  have hxw := hxw11.trans hx
  refine Cd_dec (fun hlt => ?_) (fun hge => ?_)
  · have hiN : i < N := by omega
    have hiB := (hspan i).1 hiN
    obtain ⟨q1, q2, q3, q4, q5, q6, q7, q8⟩ := blk_sizes hL2 hB1 hB2' hN2 hiN hiB
    refine rd6 hBh (rd5 hBh (rd6 hBh ?_))
    rw [q8, q1, q2]
    have a1 : IntKind.wrap .i64 ((blkAt B i : Int) + (blkN L B i : Int)) = ((blkAt B i + blkN L B i : Nat) : Int) := by rw [wrap64 (by omega) (by omega)]; omega
    have a2 : IntKind.wrap .i64 (((blkAt B i + blkN L B i : Nat) : Int) + 4) = ((blkAt B i + blkN L B i + 4 : Nat) : Int) := by rw [wrap64 (by omega) (by omega)]; omega
    rw [a1, a2]
    refine Held_ex ?_
    have hxd := hxw.trans (Ex.drew w')
    have hdr : Ex w' w'.drew := Ex.drew w'
    have j1f : ∀ (bd : Sl) (v : World), Ex w11 v → Has v w11.heap.size ((shardTo l L B (i + 1)).map b8) 5 → Own i64v 3 w11.heap.size v bd (badTo l L B (i + 1)) → (∀ b, SlIn bd b → b ≠ w11.heap.size) →
        frame_Read.j1 (fun en w' => ∃ s b : Sl, en = Ending.returned (.tuple #[hdV (hdOf l), .slice s.base s.len s.cap, .slice b.base b.len b.cap, .int .i64 0]) ∧ Own b8 5 w.heap.size w' s (shardTo l L B N) ∧ Own i64v 3 w.heap.size w' b (badTo l L B N) ∧ Ex w w')
          k f' ⟨w.heap.size, 0, none⟩ s' bd (blkAt B i : Int) (blkN L B i : Int) (N : Int) (i : Int) v := by
      intro bd v hxv hBv hov hnev
      unfold frame_Read.j1
      rw [wrap64 (x := (i : Int) + 1) (by omega) (by omega), wrap64 (x := (blkN L B i : Int) + 4) (by omega) (by omega), wrap64 (x := (blkAt B i : Int) + _) (by omega) (by omega)]
      exact hk _ _ ⟨rfl, rfl, rfl, rfl, i + 1, by omega, by simp, by rw [q7]; simp only; omega, hxv, hBv, hov, hnev⟩ (by simp only; omega)
    have j2f : ∀ (b : Bool) (v : World), b = okB l L B i → Ex w' v →
        frame_Read.j2 (fun en w' => ∃ s b : Sl, en = Ending.returned (.tuple #[hdV (hdOf l), .slice s.base s.len s.cap, .slice b.base b.len b.cap, .int .i64 0]) ∧ Own b8 5 w.heap.size w' s (shardTo l L B N) ∧ Own i64v 3 w.heap.size w' b (badTo l L B N) ∧ Ex w w')
          k f' ⟨w.heap.size, 0, none⟩ s' b' (blkAt B i : Int) (i : Int) (blkN L B i : Int) (N : Int) (i : Int) b v := by
      intro b v hb hv
      unfold frame_Read.j2
      have hxv := hx.trans hv
      have hxd' : Ex w v.drew := (hxw11.trans hxv).trans (Ex.drew v)
      refine Cd_of (fun hbt => ?_) (fun hbf => ?_)
      · have hok : okB l L B i = true := by rw [← hb]; exact hbt
        have hle' := okB_le hok
        refine Held_of (fun u => Has u w.heap.size (encAts hAts (hdOf l)) 38) ((hBh.ex hv).ex (Ex.drew v)) ?_
        refine RdS_has (c := .int .i64) (x := (B : Int)) (fun w' hS => hS) (by kernel_rfl) (by rw [← hB]; rfl) ?_
        rw [q1, a1, hs17]
        refine Pu_sub tB sB hiB ?_
        refine cut_slice (hr.ex hxd') (a := blkAt B i) (b := blkAt B i + blkN L B i) (by omega) (by omega) (.inr ⟨_, rfl⟩) ⟨_, rfl⟩ (Ex.refl _) fun s3 hs3 => ?_
        have hcl := cut_length (l := l) (a := blkAt B i) (b := blkAt B i + blkN L B i) (by omega)
        have hsl := shardTo_length l L B i (by
          cases i with
          | zero => exact .inl rfl
          | succ m => exact .inr ((hspan (m + 1 - 1)).1 (by omega)))
        refine Wr_copy tB (by kernel_rfl) ((hBs.ex hv).ex (Ex.drew v)) (hs3 _ (hr.ex hxd')) (fun y => rfl) (fun hn => by rw [hn] at hcl; simp at hcl; omega) (by omega) (by show _ ≤ L - i * B; omega) fun w6 hB6 hm6 => ?_
        refine ⟨(((hBh.ex hv).ex (Ex.drew v))).mo hm6 (fun hn => by have := hxw11.size; have := hB11.lt; omega), ?_⟩
        rw [← hs17]
        have hx6 : Ex w11 w6 := (hxv.trans (Ex.drew v)).into hm6 (fun i hi => by rw [hi]; exact Nat.le_refl _)
        refine j1f b' w6 hx6 ?_ ?_ hne
        · unfold shardTo; rw [if_pos hok]
          rw [hcl] at hB6
          rw [show blkAt B i + blkN L B i - blkAt B i = blkN L B i by omega] at hB6
          exact hB6
        · unfold badTo; rw [if_pos hok]
          exact ((hob.ex hv).ex (Ex.drew v)).mo hm6 (fun b hb hn => hne b hb hn)
      · have hok : okB l L B i = false := by rw [← hb]; exact hbf
        refine Wr_lit (f := i64v) (e := 3) (base := w11.heap.size) [(i : Int)] (by kernel_rfl) hxv.size (by simp) fun s4 w4' ho4 hx4' _ => ?_
        have hbl := badTo_length l L B i
        refine Wr_append tI iI rfl ((hob.ex hv).ex hx4') ho4.rds (fun y => rfl) (by simp; omega) (by simp; omega) (Nat.le_trans hxv.size hx4'.size) fun s6 w6 ho6 hm6 hin => ?_
        have hx6 : Ex w11 w6 := (hxv.trans hx4').into hm6 (fun i hi => (hob.base i hi).1)
        refine j1f s6 w6 hx6 ?_ ?_ ?_
        · unfold shardTo; rw [if_neg (by rw [hok]; decide)]
          exact ((hBs.ex hv).ex hx4').mo hm6 (fun hn => hne _ hn rfl)
        · unfold badTo; rw [if_neg (by rw [hok]; decide)]
          exact ho6
        · intro b hb hbn
          rcases hin b hb with h' | h'
          · exact hne b h' hbn
          · have := ((hBs.ex hv).ex hx4').lt; omega
    refine Cd_dec (fun hfit => ?_) (fun hnofit => j2f false _ ?_ hdr)
    · rw [hr.1] at hfit
      have hr' := hr.ex hxd
      refine cut_slice hr' (a := blkAt B i + blkN L B i) (b := blkAt B i + blkN L B i + 4) (by omega) (by omega) (.inr ⟨_, rfl⟩) ⟨_, rfl⟩ (Ex.refl _) fun sa hsa => ?_
      refine cut_slice hr' (a := blkAt B i) (b := blkAt B i + blkN L B i) (by omega) (by omega) (.inr ⟨_, rfl⟩) ⟨_, rfl⟩ (Ex.refl _) fun sb hsb => ?_
      refine Cl_gv (get_gv _ _ _ (hsa _ hr') (by rw [cut_length (by omega)]; omega)) fun w6 hx6 => ⟨hx6, ?_⟩
      refine Cl_gv (blockSum_gv _ _ _ _ _ _ (hr'.ex hx6) (hsb _ (hr'.ex hx6)) (ht.ex (hxd.trans hx6)) (by omega) (by omega) (by rw [cut_length (by omega)]; omega)) fun w7 hx7 => ⟨hx6.trans hx7, ?_⟩
      refine j2f _ _ ?_ ((hdr.trans hx6).trans hx7)
      unfold okB
      rw [decide_eq_true (by omega), Bool.true_and]
    · rw [hr.1] at hnofit
      unfold okB
      rw [decide_eq_false (by omega), Bool.false_and]
  · have : i = N := by omega
    subst this
    refine Rd_hasN (x := hdOf l) hBh haT rfl ?_
    refine Wu_hd (h := hdOf l) hBh rfl hsT haT fun w6 hm6 => ?_
    have hxf : Ex w w6 := hxw.into hm6 (fun i hi => by rw [hi]; exact Nat.le_refl _)
    have hlt := hB11.lt
    have hsl := shardTo_length l L B i (by
      cases i with
      | zero => exact .inl rfl
      | succ m => exact .inr ((hspan (m + 1 - 1)).1 (by omega)))
    refine ⟨s', b', rfl, ?_, ?_, hxf⟩
    · rw [hs17]
      exact own_of_has hsl (by omega) (hBs.mo hm6 (fun hn => by omega)) hxw11.size
    · exact (hob.mo hm6 (fun b hb hn => by have := (hob.base b hb).1; omega)).weak hxw11.size
end Go.Proofs.YtbcjimfkdjjpjaaDoor
