/- The walks of the functions of the frame that write a file: heads, sums of blocks, Pack; and the law's own comparisons. -/
import Derived.Test.YtbcjimfkdjjpjaaDoorFrC
namespace Go.Proofs.YtbcjimfkdjjpjaaDoor
open Go Go.Cu
set_option linter.unusedVariables false
theorem sameBytes_gv (s t : Sl) (l m : List Int) (w : World) (hr : Rds b8 w s l) (hq : Rds b8 w t m) (hl : l.length ≤ 9223372036854775806) :
    Gv Tryd.prog 16 #[.slice s.base s.len s.cap, .slice t.base t.len t.cap] (.bool (decide (l = m))) w := by
  refine culletlaw25_sameBytes.run _ s t w ?_
  unfold culletlaw25_sameBytes.M culletlaw25_sameBytes.l1
  rw [hr.1, hq.1]
  refine Cd_ne (fun h => ⟨?_, Ex.refl w⟩) (fun h => ?_)
  · have : l ≠ m := fun e => h (by rw [e])
    simp [this]
  have hlm : l.length = m.length := by omega
  refine loopW_of (fun st w' => Ex w w' ∧ st.1 = s ∧ st.2.1 = t ∧ ∃ i : Nat, i ≤ l.length ∧ st.2.2.1 = (i : Int) ∧ l.take i = m.take i) (fun st _ => l.length - st.2.2.1.toNat) ?_
    ⟨Ex.refl w, rfl, rfl, 0, Nat.zero_le _, rfl, rfl⟩
  rintro k ⟨s', t', i', u⟩ w' hI hk
  dsimp only at hI hk ⊢
  obtain ⟨hx, rfl, rfl, i, hi, rfl, he⟩ := hI
  unfold culletlaw25_sameBytes.b1
  have hr' := (hr.ex hx).ex (Ex.drew w')
  have hq' := (hq.ex hx).ex (Ex.drew w')
  rw [hr.1]
  refine Cd_dec (fun h => ?_) (fun h => ?_)
  · rw [← hr.1]
    refine Pu_idx hr' tB sB (by omega) (by omega) fun a x hx1 hc1 _ => ?_
    refine RdS_same (Rd_one (c := .int .u8) (x := x) oB hc1 ?_)
    refine Pu_idx hq' tB sB (by omega) (by omega) fun a2 y hx2 hc2 _ => ?_
    refine RdS_same (Rd_one (c := .int .u8) (x := y) oB hc2 ?_)
    rw [Int.toNat_natCast] at hx1 hx2
    refine Cd_ne (fun hne => ⟨?_, hx.trans (Ex.drew w')⟩) (fun heq => ?_)
    · have : l ≠ m := fun e => hne (by rw [e] at hx1; rw [hx1] at hx2; exact Option.some.inj hx2)
      simp [this]
    · rw [wrap64 (x := (i : Int) + 1) (by omega) (by omega)]
      refine hk _ _ ⟨hx.trans (Ex.drew w'), rfl, rfl, i + 1, by omega, by simp, ?_⟩ (by simp only; omega)
      rw [List.take_add_one, List.take_add_one, hx1, hx2, he, heq]
  · have : i = l.length := by omega
    subst this
    rw [List.take_length, hlm, List.take_length] at he
    exact ⟨by simp [he], hx⟩
theorem tI : Tryd.prog.underlying 67 = some (.slice 3) := by kernel_rfl
theorem sI : sizeIs Tryd.prog 3 1 = true := by kernel_rfl
theorem oI : isOne Tryd.prog 3 = true := by kernel_rfl
theorem iI : (Tryd.prog.info? 3).map (fun i => (i.zero, i.size, i.bytes)) = some (some (.int .i64 0), 1, 8) := by kernel_rfl
theorem sameInts_gv (s t : Sl) (l m : List Int) (w : World) (hr : Rds i64v w s l) (hq : Rds i64v w t m) (hl : l.length ≤ 9223372036854775806) :
    Gv Tryd.prog 34 #[.slice s.base s.len s.cap, .slice t.base t.len t.cap] (.bool (decide (l = m))) w := by
  refine culletlaw25_sameInts.run _ s t w ?_
  unfold culletlaw25_sameInts.M culletlaw25_sameInts.l1
  rw [hr.1, hq.1]
  refine Cd_ne (fun h => ⟨?_, Ex.refl w⟩) (fun h => ?_)
  · have : l ≠ m := fun e => h (by rw [e])
    simp [this]
  have hlm : l.length = m.length := by omega
  refine loopW_of (fun st w' => Ex w w' ∧ st.1 = s ∧ st.2.1 = t ∧ ∃ i : Nat, i ≤ l.length ∧ st.2.2.1 = (i : Int) ∧ l.take i = m.take i) (fun st _ => l.length - st.2.2.1.toNat) ?_
    ⟨Ex.refl w, rfl, rfl, 0, Nat.zero_le _, rfl, rfl⟩
  rintro k ⟨s', t', i', u⟩ w' hI hk
  dsimp only at hI hk ⊢
  obtain ⟨hx, rfl, rfl, i, hi, rfl, he⟩ := hI
  unfold culletlaw25_sameInts.b1
  have hr' := (hr.ex hx).ex (Ex.drew w')
  have hq' := (hq.ex hx).ex (Ex.drew w')
  rw [hr.1]
  refine Cd_dec (fun h => ?_) (fun h => ?_)
  · rw [← hr.1]
    refine Pu_idx hr' tI sI (by omega) (by omega) fun a x hx1 hc1 _ => ?_
    refine RdS_same (Rd_one (c := .int .i64) (x := x) oI hc1 ?_)
    refine Pu_idx hq' tI sI (by omega) (by omega) fun a2 y hx2 hc2 _ => ?_
    refine RdS_same (Rd_one (c := .int .i64) (x := y) oI hc2 ?_)
    rw [Int.toNat_natCast] at hx1 hx2
    refine Cd_ne (fun hne => ⟨?_, hx.trans (Ex.drew w')⟩) (fun heq => ?_)
    · have : l ≠ m := fun e => hne (by rw [e] at hx1; rw [hx1] at hx2; exact Option.some.inj hx2)
      simp [this]
    · rw [wrap64 (x := (i : Int) + 1) (by omega) (by omega)]
      refine hk _ _ ⟨hx.trans (Ex.drew w'), rfl, rfl, i + 1, by omega, by simp, ?_⟩ (by simp only; omega)
      rw [List.take_add_one, List.take_add_one, hx1, hx2, he, heq]
  · have : i = l.length := by omega
    subst this
    rw [List.take_length, hlm, List.take_length] at he
    exact ⟨by simp [he], hx⟩

/-! ### Sums of blocks -/
def blockSumF (head : List Int) (n : Int) (block : List Int) : Int := foldF (foldF (foldF 0 head) (le 4 (IntKind.wrap .u64 n))) block
theorem blockSum_gv (s t : Sl) (l m : List Int) (n : Int) (w : World) (hr : Rds b8 w s l) (hq : Rds b8 w t m) (ht : Tab w) (h44 : 44 ≤ l.length) (hl : l.length ≤ 9223372036854775806) (hm : m.length ≤ 9223372036854775806) :
    Gv Tryd.prog 20 #[.slice s.base s.len s.cap, .int .i64 n, .slice t.base t.len t.cap] (.int .u32 (blockSumF (l.take 44) n m)) w := by
  refine frame_blockSum.run _ s n t w ?_
  unfold frame_blockSum.M
  refine Pu_slice 0 44 hr tB sB (.inl ⟨rfl, rfl⟩) (.inr ⟨_, rfl⟩) (by omega) h44 fun s1 hr1 _ _ _ => ?_
  have hr1 := hr1 w hr
  rw [List.drop_zero] at hr1
  refine Cl_gv (fold_gv 0 s1 _ w hr1 ht (by simp; omega)) fun w1 hx1 => ?_
  refine Calls.mono (put_ok w1.heap.size ⟨none, 0, 0⟩ [] 4 (IntKind.wrap .u64 n) w1 (Own.nil _ _ _ _) (by omega) (by simp) (Nat.le_refl _)) ?_
  rintro e w2 ⟨s2, rfl, ho2, hm2, _⟩
  refine ⟨s2, rfl, ?_⟩
  have hx2 : Ex w1 w2 := hm2.new (fun i ⟨a, ha, _⟩ => by cases ha)
  rw [List.nil_append] at ho2
  refine Cl_gv (fold_gv _ s2 _ w2 ho2.rds (ht.ex (hx1.trans hx2)) (by rw [le_length]; omega)) fun w3 hx3 => ?_
  refine Cl_gv (fold_gv _ t m w3 (hq.ex ((hx1.trans hx2).trans hx3)) (ht.ex ((hx1.trans hx2).trans hx3)) hm) fun w4 hx4 => ?_
  exact ⟨rfl, ((hx1.trans hx2).trans hx3).trans hx4⟩
theorem rblockSum_sl (s t : Sl) (l m : List Int) (n : Int) (w : World) (hr : Rds b8 w s l) (hq : Rds b8 w t m) (hl : l.length ≤ 9223372036854775806) (hm : m.length ≤ 9223372036854775806) :
    GivesSl Tryd.prog 28 #[.slice s.base s.len s.cap, .int .i64 n, .slice t.base t.len t.cap] b8 5 (le 4 (IntKind.wrap .u64 (blockSumF l n m))) w := by
  refine culletref25_blockSum.run _ s n t w ?_
  unfold culletref25_blockSum.M
  refine Cl_gv (rsum_gv s l w hr hl) fun w1 hx1 => ?_
  refine Cl_sl (little_sl _ 4 w1 (by omega)) fun s2 w2 ho2 hx2 => ?_
  refine Cl_gv (rfold_gv _ s2 _ w2 ho2.rds (by rw [le_length]; omega)) fun w3 hx3 => ?_
  refine Cl_gv (rfold_gv _ t m w3 (hq.ex ((hx1.trans hx2).trans hx3)) hm) fun w4 hx4 => ?_
  refine Cl_sl (little_sl _ 4 w4 (by omega)) fun s5 w5 ho5 hx5 => ?_
  have hx := ((hx1.trans hx2).trans hx3).trans hx4
  exact ⟨s5, rfl, ho5.weak hx.size, hx.trans hx5⟩

/-! ### Heads -/
def head44 (h : Hd) : List Int :=
  [67, 85, 76, 76, 1, IntKind.wrap .u8 h.fam] ++ le 2 (IntKind.wrap .u64 h.data) ++ le 2 (IntKind.wrap .u64 h.par) ++ le 2 (IntKind.wrap .u64 h.index) ++ le 4 (IntKind.wrap .u64 h.block) ++ le 8 (IntKind.wrap .u64 h.size) ++
    le 8 (IntKind.wrap .u64 h.length) ++ le 8 h.stamp ++ [0, 0, 0, 0]
theorem head44_length (h : Hd) : (head44 h).length = 44 := by simp [head44, le_length]
theorem le4_zero : le 4 0 = [0, 0, 0, 0] := by decide
def head48 (h : Hd) : List Int := head44 h ++ le 4 (IntKind.wrap .u64 (foldF 0 (head44 h)))
theorem head48_length (h : Hd) : (head48 h).length = 48 := by simp [head48, head44_length, le_length]
/-- put, in the middle of a function that has made the slice itself -/
theorem Cl_put {base : Nat} {s : Sl} {l : List Int} {n : Nat} {v : Int} {w w0 : World} {k : Sl → World → Prop} (ho : Own b8 5 base w s l) (hn : n ≤ 8) (hl : l.length ≤ 70368744177664) (hx : Ex w0 w) (hbase : base = w0.heap.size)
    (hk : ∀ s' w', Own b8 5 base w' s' (l ++ le n v) → Ex w0 w' → Mo (SlIn s) w w' → k s' w') : Cl Tryd.prog 21 #[.slice s.base s.len s.cap, .int .i64 (n : Int), .int .u64 v] (.one (.at .sl)) k w := by
  subst hbase
  refine Calls.mono (put_ok w0.heap.size s l n v w ho hn hl hx.size) ?_
  rintro e w2 ⟨s2, rfl, ho2, hm2, _⟩
  exact ⟨s2, rfl, hk s2 w2 ho2 (hx.into hm2 (fun i hi => (ho.base i hi).1)) hm2⟩
theorem headBytes_sl (h : Hd) (hg : GoodHd h) (w : World) (ht : Tab w) : GivesSl Tryd.prog 18 #[hdV h] b8 5 (head48 h) w := by
  refine frame_headBytes.run _ h w ?_
  unfold frame_headBytes.M
  have hs := tdiv_up (n := h.length) (k := h.block) hg.len1 hg.blk1
  have hs2 := hg.spans2
  have hl1 := hg.len1
  have hl2 := hg.len2
  unfold spansF at hs2
  refine Wr_box fun w1 hB1 hx1 => ?_
  refine Rd_hasN (x := h) hB1 (by kernel_rfl) rfl ?_
  refine Cl_gives (whole_gives h hg) fun w2 hx2 => ?_
  obtain ⟨c, hc⟩ := Int.eq_ofNat_of_zero_le (show 0 ≤ 48 + h.length + 4 * spansF h.length h.block by unfold spansF; omega)
  rw [hc]
  have hc1 : (c : Int) ≤ 67108864 := by rw [← hc]; unfold spansF; omega
  have hc2 : (53 : Int) ≤ c := by rw [← hc]; unfold spansF; omega
  refine Wr_makeCap (f := b8) tB iB c (by omega) (by omega) rfl w1.heap.size hx2.size fun s3 w3 ho3 hcap hx3 _ => ?_
  refine Wr_appendStr tB (by kernel_rfl) sB (m := [67, 85, 76, 76, 1]) (by decide) ho3 (by rw [hcap]; simp; omega) (by simp) fun s4 w4 ho4 hm4 _ _ => ?_
  have hx4 : Ex w1 w4 := (hx2.trans hx3).into hm4 (fun i hi => (ho3.base i hi).1)
  refine Rd_has (hB1.ex hx4) (by kernel_rfl) rfl ?_
  refine Wr_lit (f := b8) (e := 5) (base := 0) [IntKind.wrap .u8 h.fam] (by kernel_rfl) (Nat.zero_le _) (by simp) fun s5 w5 ho5 hx5 _ => ?_
  refine Wr_append tB iB rfl (ho4.ex hx5) ho5.rds (fun y => rfl) (by simp) (by simp) (Nat.le_trans hx4.size hx5.size) fun s6 w6 ho6 hm6 _ => ?_
  have hx6 : Ex w1 w6 := (hx4.trans hx5).into hm6 (fun i hi => (ho4.base i hi).1)
  refine Rd_has (hB1.ex hx6) (by kernel_rfl) rfl ?_
  refine Cl_put (n := 2) ho6 (by omega) (by simp) hx6 rfl fun s7 w7 ho7 hx7 _ => ?_
  refine Rd_has (hB1.ex hx7) (by kernel_rfl) rfl ?_
  refine Cl_put (n := 2) ho7 (by omega) (by simp [le_length]) hx7 rfl fun s8 w8 ho8 hx8 _ => ?_
  refine Rd_has (hB1.ex hx8) (by kernel_rfl) rfl ?_
  refine Cl_put (n := 2) ho8 (by omega) (by simp [le_length]) hx8 rfl fun s9 w9 ho9 hx9 _ => ?_
  refine Rd_has (hB1.ex hx9) (by kernel_rfl) rfl ?_
  refine Cl_put (n := 4) ho9 (by omega) (by simp [le_length]) hx9 rfl fun s10 w10 ho10 hx10 _ => ?_
  refine Rd_has (hB1.ex hx10) (by kernel_rfl) rfl ?_
  refine Cl_put (n := 8) ho10 (by omega) (by simp [le_length]) hx10 rfl fun s11 w11 ho11 hx11 _ => ?_
  refine Rd_has (hB1.ex hx11) (by kernel_rfl) rfl ?_
  refine Cl_put (n := 8) ho11 (by omega) (by simp [le_length]) hx11 rfl fun s12 w12 ho12 hx12 _ => ?_
  refine Rd_has (hB1.ex hx12) (by kernel_rfl) rfl ?_
  refine Cl_put (n := 8) ho12 (by omega) (by simp [le_length]) hx12 rfl fun s13 w13 ho13 hx13 _ => ?_
  refine Cl_put (n := 4) ho13 (by omega) (by simp [le_length]) hx13 rfl fun s14 w14 ho14 hx14 _ => ?_
  rw [le4_zero] at ho14
  have ho14 : Own b8 5 w1.heap.size w14 s14 (head44 h) := by simpa [head44, Hd.fam, Hd.data, Hd.par, Hd.index, Hd.block, Hd.size, Hd.length, Hd.stamp] using ho14
  refine Cl_gv (sum_gv s14 _ w14 ho14.rds (ht.ex (hx1.trans hx14)) (by rw [head44_length]; omega)) fun w15 hx15 => ?_
  refine Cl_put (n := 4) (ho14.ex hx15) (by omega) (by rw [head44_length]; omega) (hx14.trans hx15) rfl fun s16 w16 ho16 hx16 _ => ?_
  exact ⟨s16, rfl, ho16.weak hx1.size, hx1.trans hx16⟩
theorem rheadBytes_sl (h : Hd) (w : World) : GivesSl Tryd.prog 26 #[hdV h] b8 5 (head44 h) w := by
  refine culletref25_headBytes.run _ h w ?_
  unfold culletref25_headBytes.M
  refine Wr_box fun w1 hB1 hx1 => ?_
  refine Rd_has hB1 (by kernel_rfl) rfl ?_
  refine Wr_lit (f := b8) (e := 5) (base := w1.heap.size) [67, 85, 76, 76, 1, IntKind.wrap .u8 h.fam] (by kernel_rfl) (Nat.le_refl _) (by simp) fun s2 w2 ho2 hx2 _ => ?_
  have step : ∀ (s : Sl) (l : List Int) (n : Nat) (v : Int) (w' : World) (k : Sl → World → Prop), Own b8 5 w1.heap.size w' s l → Ex w1 w' → n ≤ 8 → l.length ≤ 100 →
      (∀ s2 w2, Own b8 5 w1.heap.size w2 s2 (l ++ le n v) → Ex w1 w2 → k s2 w2) →
      Cl Tryd.prog 27 #[.int .u64 v, .int .i64 (n : Int)] (.one (.at .sl)) (fun x w' => Wr Tryd.prog (Builtin.append_ #[27, 27] 27 #[.slice s.base s.len s.cap, .slice x.base x.len x.cap]) (.one (.at .sl)) k w') w' := by
    intro s l n v w' k ho hx hn hl hk
    refine Cl_sl (little_sl v n w' hn) fun x w2 hox hx2 => ?_
    have hll := le_length n v
    refine Wr_append tB iB rfl (ho.ex hx2) hox.rds (fun y => rfl) (by omega) (by omega) (Nat.le_trans hx.size hx2.size) fun s3 w3 ho3 hm3 _ => ?_
    exact hk s3 w3 ho3 ((hx.trans hx2).into hm3 (fun i hi => (ho.base i hi).1))
  refine Rd_has (hB1.ex hx2) (by kernel_rfl) rfl ?_
  refine step _ _ 2 _ _ _ ho2 hx2 (by omega) (by simp [le_length]) fun s3 w3 ho3 hx3 => ?_
  refine Rd_has (hB1.ex hx3) (by kernel_rfl) rfl ?_
  refine step _ _ 2 _ _ _ ho3 hx3 (by omega) (by simp [le_length]) fun s4 w4 ho4 hx4 => ?_
  refine Rd_has (hB1.ex hx4) (by kernel_rfl) rfl ?_
  refine step _ _ 2 _ _ _ ho4 hx4 (by omega) (by simp [le_length]) fun s5 w5 ho5 hx5 => ?_
  refine Rd_has (hB1.ex hx5) (by kernel_rfl) rfl ?_
  refine step _ _ 4 _ _ _ ho5 hx5 (by omega) (by simp [le_length]) fun s6 w6 ho6 hx6 => ?_
  refine Rd_has (hB1.ex hx6) (by kernel_rfl) rfl ?_
  refine step _ _ 8 _ _ _ ho6 hx6 (by omega) (by simp [le_length]) fun s7 w7 ho7 hx7 => ?_
  refine Rd_has (hB1.ex hx7) (by kernel_rfl) rfl ?_
  refine step _ _ 8 _ _ _ ho7 hx7 (by omega) (by simp [le_length]) fun s8 w8 ho8 hx8 => ?_
  refine Rd_has (hB1.ex hx8) (by kernel_rfl) rfl ?_
  refine step _ _ 8 _ _ _ ho8 hx8 (by omega) (by simp [le_length]) fun s9 w9 ho9 hx9 => ?_
  refine Wr_lit (f := b8) (e := 5) (base := 0) [0, 0, 0, 0] (by kernel_rfl) (Nat.zero_le _) (by simp) fun s10 w10 ho10 hx10 _ => ?_
  refine Wr_append tB iB rfl (ho9.ex hx10) ho10.rds (fun y => rfl) (by simp [le_length]) (by simp [le_length]) (Nat.le_trans hx9.size hx10.size) fun s11 w11 ho11 hm11 _ => ?_
  have hx11 : Ex w1 w11 := (hx9.trans hx10).into hm11 (fun i hi => (ho9.base i hi).1)
  refine ⟨s11, rfl, ?_, hx1.trans hx11⟩
  exact (show Own b8 5 w1.heap.size w11 s11 (head44 h) by simpa [head44, Hd.fam, Hd.data, Hd.par, Hd.index, Hd.block, Hd.size, Hd.length, Hd.stamp] using ho11).weak hx1.size
end Go.Proofs.YtbcjimfkdjjpjaaDoor
