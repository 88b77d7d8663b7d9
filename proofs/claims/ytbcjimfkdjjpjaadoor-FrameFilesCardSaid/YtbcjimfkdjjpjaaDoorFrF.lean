/- The walks of Pack and of the document's. -/
import Derived.Test.YtbcjimfkdjjpjaaDoorFrE
namespace Go.Proofs.YtbcjimfkdjjpjaaDoor
open Go Go.Cu
set_option linter.unusedVariables false
theorem spans_lt {L B i : Int} (hB : 1 ≤ B) (hL : 1 ≤ L) : i < spansF L B ↔ i * B < L := by
  unfold spansF
  rw [Int.tdiv_eq_ediv_of_nonneg (by omega), Int.lt_iff_add_one_le, Int.le_ediv_iff_mul_le (by omega), Int.add_mul, Int.one_mul]
  omega
/-- the block number i of a shard -/
def blkF (B : Nat) (l : List Int) (i : Nat) : List Int := (l.take (min ((i + 1) * B) l.length)).drop (i * B)
theorem blkF_length (B : Nat) (l : List Int) (i : Nat) : (blkF B l i).length = min ((i + 1) * B) l.length - i * B := by
  unfold blkF; simp
def packTo (h : Hd) (l : List Int) : Nat → List Int
  | 0 => head48 h
  | n + 1 => packTo h l n ++ blkF h.block.toNat l n ++ le 4 (IntKind.wrap .u64 (blockSumF (head44 h) n (blkF h.block.toNat l n)))
theorem packTo_take (h : Hd) (l : List Int) : ∀ n, (packTo h l n).take 44 = head44 h
  | 0 => by unfold packTo head48; rw [List.take_append_of_le_length (by rw [head44_length]; omega), List.take_of_length_le (by rw [head44_length]; omega)]
  | n + 1 => by
    have hlen : 44 ≤ (packTo h l n).length := by
      have := congrArg List.length (packTo_take h l n)
      rw [List.length_take, head44_length] at this; omega
    unfold packTo
    rw [List.append_assoc, List.take_append_of_le_length hlen]; exact packTo_take h l n
theorem packTo_length (h : Hd) (l : List Int) : ∀ n, (n = 0 ∨ (n - 1) * h.block.toNat < l.length) → (packTo h l n).length = 48 + min (n * h.block.toNat) l.length + 4 * n
  | 0, _ => by simp [packTo, head48_length]
  | n + 1, hn => by
    have hn : n * h.block.toNat < l.length := by simpa using hn
    have ih := packTo_length h l n (by
      cases n with
      | zero => exact .inl rfl
      | succ m =>
        right
        have : (m + 1 - 1) * h.block.toNat ≤ (m + 1) * h.block.toNat := Nat.mul_le_mul_right _ (by omega)
        omega)
    unfold packTo
    rw [List.length_append, List.length_append, ih, blkF_length, le_length, Nat.add_mul, Nat.one_mul]
    omega
def packR (h : Hd) (l : List Int) : List Int × Int :=
  if checkF h ≠ 0 then ([], 251) else if (l.length : Int) ≠ h.length then ([], 6) else (packTo h l (spansF h.length h.block).toNat, 0)
/-- a slice of bytes of one's own, and a number -/
def GivesSlN (P : Program) (f : FuncId) (args : Array Value) (l : List Int) (n : Int) (w : World) : Prop :=
  Calls P f args w fun en w' => ∃ s, en = .returned (.tuple #[.slice s.base s.len s.cap, .int .i64 n]) ∧ Own b8 5 w.heap.size w' s l ∧ Ex w w'
theorem Cl_slN {f : FuncId} {args : Array Value} {l : List Int} {n : Int} {k : (Sl × Int × Unit) → World → Prop} {w : World} (h : GivesSlN Tryd.prog f args l n w)
    (hk : ∀ s w', Own b8 5 w.heap.size w' s l → Ex w w' → k (s, n, ()) w') : Cl Tryd.prog f args (.tup [.at .sl, .at (.int .i64)]) k w :=
  Calls.mono h fun _ w' ⟨s, he, ho, hx⟩ => ⟨(s, n, ()), he, hk s w' ho hx⟩
theorem check_251 {h : Hd} (hc : checkF h ≠ 0) : checkF h = 251 := by
  unfold checkF at *
  (repeat' split) <;> first | rfl | omega
theorem minI_nat (a b : Nat) : minI (a : Int) (b : Int) = ((min a b : Nat) : Int) := by unfold minI; split <;> omega
theorem pack_sl (h : Hd) (s : Sl) (l : List Int) (w : World) (hr : Rds b8 w s l) (ht : Tab w) : GivesSlN Tryd.prog 7 #[hdV h, .slice s.base s.len s.cap] (packR h l).1 (packR h l).2 w := by
  refine frame_Pack.run _ h s w ?_
  unfold frame_Pack.M
  refine Wr_box fun w1 hB1 hx1 => ?_
  refine Rd_hasN (x := h) hB1 (by kernel_rfl) rfl ?_
  refine Cl_gives (check_gives h) fun w2 hx2 => ?_
  refine Cd_ne (fun hc => ?_) (fun hc => ?_)
  · have e : packR h l = ([], 251) := by unfold packR; rw [if_pos hc]
    rw [e, check_251 hc]
    exact ⟨⟨none, 0, 0⟩, rfl, Own.nil _ _ _ _, hx1.trans hx2⟩
  refine Rd_has (hB1.ex hx2) (by kernel_rfl) rfl ?_
  rw [hr.1]
  refine Cd_ne (fun hl => ?_) (fun hl => ?_)
  · have e : packR h l = ([], 6) := by unfold packR; rw [if_neg (by omega), if_pos (show (l.length : Int) ≠ h.length from hl)]
    rw [e]
    exact ⟨⟨none, 0, 0⟩, rfl, Own.nil _ _ _ _, hx1.trans hx2⟩
  have hg := check_good hc
  have hLl : (l.length : Int) = h.length := hl
  have e : packR h l = (packTo h l (spansF h.length h.block).toNat, 0) := by unfold packR; rw [if_neg (by omega), if_neg (fun hn => hn hLl)]
  rw [e]
  have hl1 := hg.len1
  have hl2 := hg.len2
  have hb1 := hg.blk1
  have hb2 := hg.blk2
  refine Rd_hasN (x := h) (hB1.ex hx2) (by kernel_rfl) rfl ?_
  refine Cl_sl (headBytes_sl h hg w2 (ht.ex (hx1.trans hx2))) fun s3 w3 ho3 hx3 => ?_
  refine Rd_hasN (x := h) (hB1.ex (hx2.trans hx3)) (by kernel_rfl) rfl ?_
  refine Cl_gives (blocks_gives h hl1 (by omega) hb1 hb2) fun w4 hx4 => ?_
  obtain ⟨N, hN⟩ := Int.eq_ofNat_of_zero_le (show 0 ≤ spansF h.length h.block by have := tdiv_up (n := h.length) (k := h.block) hl1 hb1; unfold spansF; omega)
  obtain ⟨B, hB⟩ := Int.eq_ofNat_of_zero_le (show 0 ≤ h.block by omega)
  have hBn : h.block.toNat = B := by omega
  have hspan : ∀ i : Nat, i < N ↔ i * B < l.length := by
    intro i
    have := spans_lt (L := h.length) (B := h.block) (i := i) hb1 hl1
    rw [hN, ← hLl, hB] at this
    constructor
    · intro h'; have := this.1 (by omega); rw [← Int.natCast_mul] at this; omega
    · intro h'; have := this.2 (by rw [← Int.natCast_mul]; omega); omega
  have hs2 := hg.spans2
  rw [hN] at hs2 ⊢
  rw [Int.toNat_natCast]
  unfold frame_Pack.l1
  refine loopW_of (fun st w' => st.1 = s ∧ st.2.1 = ⟨w.heap.size, 0, none⟩ ∧ st.2.2.2.1 = (N : Int) ∧ ∃ i : Nat, i ≤ N ∧ st.2.2.2.2.1 = (i : Int) ∧ Own b8 5 w1.heap.size w' st.2.2.1 (packTo h l i) ∧ Ex w1 w') (fun st _ => N - st.2.2.2.2.1.toNat) ?_
    ⟨rfl, rfl, rfl, 0, Nat.zero_le _, rfl, (ho3.weak hx2.size).ex hx4, (hx2.trans hx3).trans hx4⟩
  rintro k ⟨s', a', b', n', t, u⟩ w' hI hk
  dsimp only at hI hk ⊢
  obtain ⟨rfl, rfl, rfl, i, hi, rfl, ho, hx⟩ := hI
  unfold frame_Pack.b1
  refine Cd_dec (fun hlt => ?_) (fun hge => ?_)
  · have hiN : i < N := by omega
    have hiB := (hspan i).1 hiN
    have hiB' : (i : Int) * (B : Int) < (l.length : Int) := by rw [← Int.natCast_mul]; omega
    have e1 : ((i : Int) + 1) * (B : Int) = (i : Int) * B + B := by rw [Int.add_mul, Int.one_mul]
    have hi0 : 0 ≤ (i : Int) * (B : Int) := by rw [← Int.natCast_mul]; omega
    refine Rd_has (hB1.ex hx) (by kernel_rfl) rfl ?_
    refine Rd_has (hB1.ex hx) (by kernel_rfl) rfl ?_
    refine Rd_has (hB1.ex hx) (by kernel_rfl) rfl ?_
    have f6 : h.2.2.2.2.2.2.1 = (B : Int) := hB
    have f5 : h.2.2.2.2.2.1 = (l.length : Int) := hLl.symm
    rw [f6, f5, wrap64 (x := (i : Int) + 1) (by omega) (by omega), wrap64 (x := (i : Int) * B) (by omega) (by omega), wrap64 (x := ((i : Int) + 1) * B) (by omega) (by omega)]
    rw [show ((i : Int) + 1) * (B : Int) = (((i + 1) * B : Nat) : Int) by rw [Int.natCast_mul]; rfl, minI_nat, show (i : Int) * (B : Int) = ((i * B : Nat) : Int) by rw [Int.natCast_mul]]
    have hxw := hx1.trans hx
    refine Pu_slice (i * B) (min ((i + 1) * B) l.length) (hr.ex hxw) tB sB (.inr ⟨_, rfl⟩) (.inr ⟨_, rfl⟩) (by rw [Nat.add_mul, Nat.one_mul]; omega) (by omega) fun s5 hr5 _ _ _ => ?_
    have hr5 : Rds b8 w' s5 (blkF B l i) := hr5 w' (hr.ex hxw)
    have hlen := packTo_length h l i (by
      cases i with
      | zero => exact .inl rfl
      | succ m =>
        right
        rw [hBn]
        have : (m + 1 - 1) * B ≤ (m + 1) * B := Nat.mul_le_mul_right _ (by omega)
        omega)
    have hblen := blkF_length B l i
    refine Cl_gv (blockSum_gv _ _ _ _ _ w' ho.rds hr5 (ht.ex hxw) (by omega) (by omega) (by omega)) fun w5 hx5 => ?_
    refine Wr_append tB iB rfl (ho.ex hx5) (hr5.ex hx5) (fun y => rfl) (by omega) (by omega) (Nat.le_trans hx.size hx5.size) fun s6 w6 ho6 hm6 _ => ?_
    have hx6 : Ex w1 w6 := (hx.trans hx5).into hm6 (fun i hi => (ho.base i hi).1)
    refine Cl_put (n := 4) ho6 (by omega) (by rw [List.length_append]; omega) hx6 rfl fun s7 w7 ho7 hx7 _ => ?_
    refine hk _ _ ⟨rfl, rfl, rfl, i + 1, by omega, by simp, ?_, hx7⟩ (by simp only; omega)
    dsimp only
    unfold packTo
    rw [packTo_take] at ho7
    rw [hBn]
    exact ho7
  · have : i = N := by omega
    subst this
    exact ⟨_, rfl, ho.weak hx1.size, hx1.trans hx⟩

theorem rpack_sl (h : Hd) (s : Sl) (l : List Int) (w : World) (hr : Rds b8 w s l) : GivesSlN Tryd.prog 15 #[hdV h, .slice s.base s.len s.cap] (packR h l).1 (packR h l).2 w := by
  refine culletref25_Pack.run _ h s w ?_
  unfold culletref25_Pack.M
  refine Wr_box fun w1 hB1 hx1 => ?_
  refine Rd_hasN (x := h) hB1 (by kernel_rfl) rfl ?_
  refine Cl_gives (rcheck_gives h) fun w2 hx2 => ?_
  refine Cd_ne (fun hc => ?_) (fun hc => ?_)
  · have e : packR h l = ([], 251) := by unfold packR; rw [if_pos hc]
    rw [e]
    exact ⟨⟨none, 0, 0⟩, rfl, Own.nil _ _ _ _, hx1.trans hx2⟩
  refine Rd_has (hB1.ex hx2) (by kernel_rfl) rfl ?_
  rw [hr.1]
  refine Cd_ne (fun hl => ?_) (fun hl => ?_)
  · have e : packR h l = ([], 6) := by unfold packR; rw [if_neg (by omega), if_pos (show (l.length : Int) ≠ h.length from hl)]
    rw [e]
    exact ⟨⟨none, 0, 0⟩, rfl, Own.nil _ _ _ _, hx1.trans hx2⟩
  have hg := check_good hc
  have hLl : (l.length : Int) = h.length := hl
  have e : packR h l = (packTo h l (spansF h.length h.block).toNat, 0) := by unfold packR; rw [if_neg (by omega), if_neg (fun hn => hn hLl)]
  rw [e]
  have hl1 := hg.len1
  have hl2 := hg.len2
  have hb1 := hg.blk1
  have hb2 := hg.blk2
  refine Rd_hasN (x := h) (hB1.ex hx2) (by kernel_rfl) rfl ?_
  refine Cl_sl (rheadBytes_sl h w2) fun s3 w3 ho3 hx3 => ?_
  have h44 := head44_length h
  have h13 := hx2.trans hx3
  refine Wr_lit (f := b8) (e := 5) (base := w3.heap.size) [] (by kernel_rfl) (Nat.le_refl _) (by simp) fun s4 w4 ho4 hx4 _ => ?_
  refine Wr_append tB iB rfl ho4 (ho3.ex hx4).rds (fun y => rfl) (by simp; omega) (by simp; omega) hx4.size fun s5 w5 ho5 hm5 _ => ?_
  have hx5 : Ex w3 w5 := hx4.into hm5 (fun i hi => (ho4.base i hi).1)
  rw [List.nil_append] at ho5
  refine Cl_gv (rsum_gv s3 _ w5 (ho3.ex hx5).rds (by omega)) fun w6 hx6 => ?_
  refine Cl_sl (little_sl _ 4 w6 (by omega)) fun s7 w7 ho7 hx7 => ?_
  have hx7' : Ex w3 w7 := (hx5.trans hx6).trans hx7
  have hll := le_length 4 (IntKind.wrap .u64 (foldF 0 (head44 h)))
  refine Wr_append tB iB rfl ((ho5.ex hx6).ex hx7) ho7.rds (fun y => rfl) (by omega) (by omega) hx7'.size fun s8 w8 ho8 hm8 _ => ?_
  have hx8 : Ex w3 w8 := hx7'.into hm8 (fun i hi => (ho5.base i hi).1)
  obtain ⟨N, hN⟩ := Int.eq_ofNat_of_zero_le (show 0 ≤ spansF h.length h.block by have := tdiv_up (n := h.length) (k := h.block) hl1 hb1; unfold spansF; omega)
  obtain ⟨B, hB⟩ := Int.eq_ofNat_of_zero_le (show 0 ≤ h.block by omega)
  have hBn : h.block.toNat = B := by omega
  have hspan : ∀ i : Nat, i < N ↔ i * B < l.length := by
    intro i
    have := spans_lt (L := h.length) (B := h.block) (i := i) hb1 hl1
    rw [hN, ← hLl, hB] at this
    constructor
    · intro h'; have := this.1 (by omega); rw [← Int.natCast_mul] at this; omega
    · intro h'; have := this.2 (by rw [← Int.natCast_mul]; omega); omega
  have hs2 := hg.spans2
  rw [hN] at hs2 ⊢
  rw [Int.toNat_natCast]
  unfold culletref25_Pack.l1
  refine loopW_of (fun st w' => st.1 = s ∧ st.2.1 = ⟨w.heap.size, 0, none⟩ ∧ st.2.2.1 = s3 ∧ ∃ i : Nat, i ≤ N ∧ st.2.2.2.2.1 = (i : Int) ∧ Own b8 5 w3.heap.size w' st.2.2.2.1 (packTo h l i) ∧ Ex w3 w') (fun st _ => N - st.2.2.2.2.1.toNat) ?_
    ⟨rfl, rfl, rfl, 0, Nat.zero_le _, rfl, ho8, hx8⟩
  rintro k ⟨s', a', hd', b', n', u⟩ w' hI hk
  dsimp only at hI hk ⊢
  obtain ⟨rfl, rfl, rfl, i, hi, rfl, ho, hx⟩ := hI
  unfold culletref25_Pack.b1
  have hxw1 := h13.trans hx
  have hxw := hx1.trans hxw1
  refine Rd_has (hB1.ex hxw1) (by kernel_rfl) rfl ?_
  refine Rd_has (hB1.ex hxw1) (by kernel_rfl) rfl ?_
  have f6 : h.2.2.2.2.2.2.1 = (B : Int) := hB
  have f5 : h.2.2.2.2.2.1 = (l.length : Int) := hLl.symm
  refine Cl_gives (spans_gives h.length h.block hl1 (by omega) hb1 hb2) fun w4' hx4' => ?_
  rw [hN]
  have hx' := hx.trans hx4'
  have hxw1' := h13.trans hx'
  have hxw' := hx1.trans hxw1'
  refine Cd_dec (fun hlt => ?_) (fun hge => ?_)
  · have hiN : i < N := by omega
    have hiB := (hspan i).1 hiN
    have hiB' : (i : Int) * (B : Int) < (l.length : Int) := by rw [← Int.natCast_mul]; omega
    have e1 : ((i : Int) + 1) * (B : Int) = (i : Int) * B + B := by rw [Int.add_mul, Int.one_mul]
    have hi0 : 0 ≤ (i : Int) * (B : Int) := by rw [← Int.natCast_mul]; omega
    refine Rd_has (hB1.ex hxw1') (by kernel_rfl) rfl ?_
    refine Rd_has (hB1.ex hxw1') (by kernel_rfl) rfl ?_
    have hlen := packTo_length h l i (by
      cases i with
      | zero => exact .inl rfl
      | succ m =>
        right
        rw [hBn]
        have : (m + 1 - 1) * B ≤ (m + 1) * B := Nat.mul_le_mul_right _ (by omega)
        omega)
    have hblen := blkF_length B l i
    have j1f : ∀ to : Int, to = ((min ((i + 1) * B) l.length : Nat) : Int) → culletref25_Pack.j1 (fun en w' => ∃ s, en = Ending.returned (.tuple #[.slice s.base s.len s.cap, .int .i64 0]) ∧ Own b8 5 w.heap.size w' s (packTo h l N) ∧ Ex w w')
        k s' ⟨w.heap.size, 0, none⟩ hd' b' (i : Int) to w4' := by
      intro to hto
      unfold culletref25_Pack.j1
      refine Rd_has (hB1.ex hxw1') (by kernel_rfl) rfl ?_
      rw [f6, hto, wrap64 (x := (i : Int) * B) (by omega) (by omega), show (i : Int) * (B : Int) = ((i * B : Nat) : Int) by rw [Int.natCast_mul]]
      refine Pu_slice (i * B) (min ((i + 1) * B) l.length) (hr.ex hxw') tB sB (.inr ⟨_, rfl⟩) (.inr ⟨_, rfl⟩) (by rw [Nat.add_mul, Nat.one_mul]; omega) (by omega) fun s5 hr5 _ _ _ => ?_
      have hsub := hr5
      have hr5 : Rds b8 w4' s5 (blkF B l i) := hr5 w4' (hr.ex hxw')
      refine Wr_append tB iB rfl (ho.ex hx4') hr5 (fun y => rfl) (by omega) (by omega) hx'.size fun s6 w6 ho6 hm6 _ => ?_
      have hx6 : Ex w3 w6 := hx'.into hm6 (fun i hi => (ho.base i hi).1)
      have hr6 : Rds b8 w6 s5 (blkF B l i) := hsub w6 (hr.ex (hx1.trans (h13.trans hx6)))
      refine Cl_sl (rblockSum_sl _ _ _ _ _ w6 (ho3.ex hx6).rds hr6 (by omega) (by omega)) fun s7 w7 ho7 hx7 => ?_
      have hll := le_length 4 (IntKind.wrap .u64 (blockSumF (head44 h) i (blkF B l i)))
      refine Wr_append tB iB rfl (ho6.ex hx7) ho7.rds (fun y => rfl) (by rw [List.length_append]; omega) (by rw [List.length_append]; omega) (Nat.le_trans hx6.size hx7.size) fun s8 w8 ho8 hm8 _ => ?_
      rw [wrap64 (x := (i : Int) + 1) (by omega) (by omega)]
      refine hk _ _ ⟨rfl, rfl, rfl, i + 1, by omega, by simp, ?_, (hx6.trans hx7).into hm8 (fun i hi => (ho6.base i hi).1)⟩ (by simp only; omega)
      dsimp only
      unfold packTo
      rw [hBn]
      exact ho8
    rw [f6, f5, wrap64 (x := (i : Int) + 1) (by omega) (by omega), wrap64 (x := ((i : Int) + 1) * B) (by omega) (by omega)]
    rw [show ((i : Int) + 1) * (B : Int) = (((i + 1) * B : Nat) : Int) by rw [Int.natCast_mul]; rfl]
    refine Cd_dec (fun hgt => ?_) (fun hle => j1f _ (by omega))
    refine Rd_has (hB1.ex hxw1') (by kernel_rfl) rfl ?_
    rw [f5]
    exact j1f _ (by omega)
  · have : i = N := by omega
    subst this
    exact ⟨_, rfl, (ho.ex hx4').weak (Nat.le_trans hx1.size h13.size), hxw'⟩
end Go.Proofs.YtbcjimfkdjjpjaaDoor
