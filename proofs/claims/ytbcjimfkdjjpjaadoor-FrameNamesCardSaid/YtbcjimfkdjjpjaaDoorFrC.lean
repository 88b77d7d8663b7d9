/- The walks of the functions of the frame that go over bytes: sums, numbers as bytes. -/
import Derived.Test.YtbcjimfkdjjpjaaDoorFrB
import Derived.Test.YtbcjimfkdjjpjaaDoorBytesLib
namespace Go.Proofs.YtbcjimfkdjjpjaaDoor
open Go Go.Cu
set_option linter.unusedVariables false
theorem tB : Tryd.prog.underlying 27 = some (.slice 5) := by kernel_rfl
theorem sB : sizeIs Tryd.prog 5 1 = true := by kernel_rfl
theorem oB : isOne Tryd.prog 5 = true := by kernel_rfl
theorem iB : (Tryd.prog.info? 5).map (fun i => (i.zero, i.size, i.bytes)) = some (some (.int .u8 0), 1, 1) := by kernel_rfl
theorem tH : Tryd.prog.underlying 52 = some (.array 16 28) := by kernel_rfl
theorem sH : sizeIs Tryd.prog 28 1 = true := by kernel_rfl
/-- the table of the check sum lies where it lies -/
def Tab (w : World) : Prop := ∀ i, i < 16 → w.cell? ⟨0, i, none⟩ = some (.int .u32 (halvesL.getD i 0))
theorem Tab.ex {w w' : World} (h : Tab w) (k : Ex w w') : Tab w' := fun i hi => k.cell (h i hi)
theorem Tab.mo {X : Nat → Prop} {w w' : World} (h : Tab w) (k : Mo X w w') (hx : ¬ X 0) : Tab w' := fun i hi => k.cell (h i hi) hx
theorem crcByte_half {r x : Int} : bXor .u32 (shR .u32 (bXor .u32 (shR .u32 (bXor .u32 r (IntKind.wrap .u32 x)) 4) (halvesL.getD (bAnd .u32 (bXor .u32 r (IntKind.wrap .u32 x)) 15).toNat 0)) 4)
    (halvesL.getD (bAnd .u32 (bXor .u32 (shR .u32 (bXor .u32 r (IntKind.wrap .u32 x)) 4) (halvesL.getD (bAnd .u32 (bXor .u32 r (IntKind.wrap .u32 x)) 15).toNat 0)) 15).toNat 0) = crcByte r x := by
  rw [crc_half (r := bXor .u32 r (IntKind.wrap .u32 x)) (bXor_u32 _ _), crc_half (crcBits_u32 4 (bXor_u32 _ _)), ← crcBits_add]
  rfl

theorem fold_gv (sum : Int) (s : Sl) (l : List Int) (w : World) (hr : Rds b8 w s l) (ht : Tab w) (hl : l.length ≤ 9223372036854775806) :
    Gv Tryd.prog 10 #[.int .u32 sum, .slice s.base s.len s.cap] (.int .u32 (foldF sum l)) w := by
  refine frame_Fold.run _ sum s w ?_
  unfold frame_Fold.M frame_Fold.l1
  have hlen := hr.1
  refine loopW_of (fun st w' => w' = w ∧ st.2.1 = s ∧ st.2.2.1 = (l.length : Int) ∧ ∃ i : Nat, i ≤ l.length ∧ st.2.2.2.1 = (i : Int) ∧ st.1 = crcRun (bNot .u32 sum) (l.take i)) (fun st _ => l.length - st.2.2.2.1.toNat) ?_
    ⟨rfl, rfl, by simp only; omega, 0, Nat.zero_le _, rfl, rfl⟩
  rintro k ⟨r, s', n', t, u⟩ w' hI hk
  dsimp only at hI hk ⊢
  obtain ⟨rfl, rfl, rfl, i, hi, rfl, rfl⟩ := hI
  unfold frame_Fold.b1
  refine Cd_dec (fun h => ?_) (fun h => ?_)
  · have hi' : i < l.length := by omega
    refine Pu_idx hr tB sB (by omega) (by omega) fun a x hx hc _ => ?_
    rw [Int.toNat_natCast] at hx
    refine Rd_one (c := .int .u8) (x := x) oB hc ?_
    have h15 := bAnd_15 (bXor .u32 (crcRun (bNot .u32 sum) (l.take i)) (IntKind.wrap .u32 x))
    refine Pu_idxArr tH sH h15.1 (by omega) ?_
    refine Rd_one (c := .int .u32) (by kernel_rfl) (ht _ (by omega)) ?_
    have h15' := bAnd_15 (bXor .u32 (shR .u32 (bXor .u32 (crcRun (bNot .u32 sum) (l.take i)) (IntKind.wrap .u32 x)) 4) (halvesL.getD (bAnd .u32 (bXor .u32 (crcRun (bNot .u32 sum) (l.take i)) (IntKind.wrap .u32 x)) 15).toNat 0))
    refine Pu_idxArr tH sH h15'.1 (by omega) ?_
    refine Rd_one (c := .int .u32) (by kernel_rfl) (ht _ (by omega)) ?_
    rw [wrap64 (x := (i : Int) + 1) (by omega) (by omega), crcByte_half]
    refine hk _ _ ⟨rfl, rfl, rfl, i + 1, hi', by simp, ?_⟩ (by simp only; omega)
    rw [List.take_add_one, hx]
    exact (crcRun_snoc _ _ _).symm
  · have : i = l.length := by omega
    subst this
    rw [List.take_length]
    exact ⟨rfl, Ex.refl _⟩

theorem sum_gv (s : Sl) (l : List Int) (w : World) (hr : Rds b8 w s l) (ht : Tab w) (hl : l.length ≤ 9223372036854775806) :
    Gv Tryd.prog 8 #[.slice s.base s.len s.cap] (.int .u32 (foldF 0 l)) w := by
  refine frame_Sum.run _ s w ?_
  unfold frame_Sum.M
  exact Cl_gv (fold_gv 0 s l w hr ht hl) fun w' hx => ⟨rfl, hx⟩

theorem rfold_gv (sum : Int) (s : Sl) (l : List Int) (w : World) (hr : Rds b8 w s l) (hl : l.length ≤ 9223372036854775806) :
    Gv Tryd.prog 11 #[.int .u32 sum, .slice s.base s.len s.cap] (.int .u32 (foldF sum l)) w := by
  refine culletref25_Fold.run _ sum s w ?_
  unfold culletref25_Fold.M culletref25_Fold.l1
  have hlen := hr.1
  refine loopW_of (fun st w' => w' = w ∧ st.1 = s ∧ ∃ i : Nat, i ≤ l.length ∧ st.2.2.1 = (i : Int) ∧ st.2.1 = crcRun (bNot .u32 sum) (l.take i)) (fun st _ => l.length - st.2.2.1.toNat) ?_
    ⟨rfl, rfl, 0, Nat.zero_le _, rfl, rfl⟩
  rintro k ⟨s', r, t, u⟩ w' hI hk
  dsimp only at hI hk ⊢
  obtain ⟨rfl, rfl, i, hi, rfl, rfl⟩ := hI
  unfold culletref25_Fold.b1
  rw [hlen]
  refine Cd_dec (fun h => ?_) (fun h => ?_)
  · have hi' : i < l.length := by omega
    rw [← hlen]
    refine Pu_idx hr tB sB (by omega) (by omega) fun a x hx hc _ => ?_
    rw [Int.toNat_natCast] at hx
    refine Rd_one (c := .int .u8) (x := x) oB hc ?_
    unfold culletref25_Fold.l2
    refine loopW_of (fun st w2 => w2 = w' ∧ st.1 = s' ∧ st.2.2.1 = (i : Int) ∧ ∃ j : Nat, j ≤ 8 ∧ st.2.2.2.1 = (j : Int) ∧ crcBits (8 - j) st.2.1 = crcByte (crcRun (bNot .u32 sum) (l.take i)) x) (fun st _ => 8 - st.2.2.2.1.toNat) ?_
      ⟨rfl, rfl, rfl, 0, by decide, rfl, by rw [Nat.sub_zero]; unfold crcByte; rfl⟩
    rintro k2 ⟨s2, r2, i2, j2, u2⟩ w2 hI hk2
    dsimp only at hI hk2 ⊢
    obtain ⟨rfl, rfl, rfl, j, hj, rfl, hb⟩ := hI
    unfold culletref25_Fold.b2
    refine Cd_dec (fun h8 => ?_) (fun h8 => ?_)
    · have e : crcBits (8 - (j + 1)) (crcBit r2) = crcByte (crcRun (bNot .u32 sum) (l.take i)) x := by
        rw [← hb, show 8 - j = (8 - (j + 1)) + 1 by omega]; rfl
      unfold culletref25_Fold.j1
      rw [wrap64 (x := (j : Int) + 1) (by omega) (by omega)]
      refine Cd_eq (fun h1 => hk2 _ _ ⟨rfl, rfl, rfl, j + 1, by omega, by simp, ?_⟩ (by simp only; omega)) (fun h1 => hk2 _ _ ⟨rfl, rfl, rfl, j + 1, by omega, by simp, ?_⟩ (by simp only; omega))
      · rw [← e]; unfold crcBit; rw [if_pos h1]
      · rw [← e]; unfold crcBit; rw [if_neg h1]
    · have : j = 8 := by omega
      subst this
      rw [wrap64 (x := (i : Int) + 1) (by omega) (by omega)]
      refine hk _ _ ⟨rfl, rfl, i + 1, hi', by simp, ?_⟩ (by simp only; omega)
      rw [List.take_add_one, hx]
      exact hb.trans (crcRun_snoc _ _ _).symm
  · have : i = l.length := by omega
    subst this
    rw [List.take_length]
    exact ⟨rfl, Ex.refl _⟩

theorem rsum_gv (s : Sl) (l : List Int) (w : World) (hr : Rds b8 w s l) (hl : l.length ≤ 9223372036854775806) :
    Gv Tryd.prog 9 #[.slice s.base s.len s.cap] (.int .u32 (foldF 0 l)) w := by
  refine culletref25_Sum.run _ s w ?_
  unfold culletref25_Sum.M
  exact Cl_gv (rfold_gv 0 s l w hr hl) fun w' hx => ⟨rfl, hx⟩

theorem get_gv (s : Sl) (l : List Int) (w : World) (hr : Rds b8 w s l) (hl : l.length ≤ 9223372036854775806) :
    Gv Tryd.prog 42 #[.slice s.base s.len s.cap] (.int .u64 (numF l)) w := by
  refine frame_get.run _ s w ?_
  unfold frame_get.M frame_get.l1
  have hlen := hr.1
  rw [hlen, wrap64 (by omega) (by omega)]
  refine loopW_of (fun st w' => w' = w ∧ st.1 = s ∧ ∃ i : Nat, i ≤ l.length ∧ st.2.2.1 = (i : Int) - 1 ∧ st.2.1 = numF (l.drop i)) (fun st _ => (st.2.2.1 + 1).toNat) ?_
    ⟨rfl, rfl, l.length, Nat.le_refl _, rfl, by rw [List.drop_length]; rfl⟩
  rintro k ⟨s', v, t, u⟩ w' hI hk
  dsimp only at hI hk ⊢
  obtain ⟨rfl, rfl, i, hi, rfl, rfl⟩ := hI
  unfold frame_get.b1
  refine Cd_dec (fun h => ?_) (fun h => ?_)
  · obtain ⟨j, rfl⟩ : ∃ j, i = j + 1 := ⟨i - 1, by omega⟩
    refine Pu_idx hr tB sB (by omega) (by omega) fun a x hx hc _ => ?_
    rw [show ((j + 1 : Nat) : Int) - 1 = (j : Int) by omega, Int.toNat_natCast] at hx
    refine Rd_one (c := .int .u8) (x := x) oB hc ?_
    rw [wrap64 (x := ((j + 1 : Nat) : Int) - 1 - 1) (by omega) (by omega)]
    refine hk _ _ ⟨rfl, rfl, j, by omega, by simp only; omega, ?_⟩ (by simp only; omega)
    have : l.drop j = x :: l.drop (j + 1) := by
      obtain ⟨hj, rfl⟩ := List.getElem?_eq_some_iff.1 hx
      exact (List.drop_eq_getElem_cons hj)
    simp only
    rw [this]; rfl
  · have : i = 0 := by omega
    subst this
    exact ⟨rfl, Ex.refl _⟩

theorem number_gv (s : Sl) (l : List Int) (w : World) (hr : Rds b8 w s l) (hl : l.length ≤ 9223372036854775806) :
    Gv Tryd.prog 40 #[.slice s.base s.len s.cap] (.int .u64 (numF l)) w := by
  refine culletref25_number.run _ s w ?_
  unfold culletref25_number.M culletref25_number.l1
  have hlen := hr.1
  rw [hlen, wrap64 (by omega) (by omega)]
  refine loopW_of (fun st w' => w' = w ∧ st.1 = s ∧ ∃ i : Nat, i ≤ l.length ∧ st.2.2.1 = (i : Int) - 1 ∧ st.2.1 = numF (l.drop i)) (fun st _ => (st.2.2.1 + 1).toNat) ?_
    ⟨rfl, rfl, l.length, Nat.le_refl _, rfl, by rw [List.drop_length]; rfl⟩
  rintro k ⟨s', v, t, u⟩ w' hI hk
  dsimp only at hI hk ⊢
  obtain ⟨rfl, rfl, i, hi, rfl, rfl⟩ := hI
  unfold culletref25_number.b1
  refine Cd_dec (fun h => ?_) (fun h => ?_)
  · obtain ⟨j, rfl⟩ : ∃ j, i = j + 1 := ⟨i - 1, by omega⟩
    refine Pu_idx hr tB sB (by omega) (by omega) fun a x hx hc _ => ?_
    rw [show ((j + 1 : Nat) : Int) - 1 = (j : Int) by omega, Int.toNat_natCast] at hx
    refine Rd_one (c := .int .u8) (x := x) oB hc ?_
    rw [wrap64 (x := ((j + 1 : Nat) : Int) - 1 - 1) (by omega) (by omega)]
    refine hk _ _ ⟨rfl, rfl, j, by omega, by simp only; omega, ?_⟩ (by simp only; omega)
    have : l.drop j = x :: l.drop (j + 1) := by
      obtain ⟨hj, rfl⟩ := List.getElem?_eq_some_iff.1 hx
      exact (List.drop_eq_getElem_cons hj)
    simp only
    rw [this]; rfl
  · have : i = 0 := by omega
    subst this
    exact ⟨rfl, Ex.refl _⟩

/-- what put answers: the slice with the bytes behind it -/
theorem put_ok (base : Nat) (s : Sl) (l : List Int) (n : Nat) (v : Int) (w : World) (ho : Own b8 5 base w s l) (hn : n ≤ 8) (hl : l.length ≤ 70368744177664) (hb : base ≤ w.heap.size) :
    Calls Tryd.prog 21 #[.slice s.base s.len s.cap, .int .i64 (n : Int), .int .u64 v] w fun e w' => ∃ s', e = .returned (.slice s'.base s'.len s'.cap) ∧ Own b8 5 base w' s' (l ++ le n v) ∧ Mo (SlIn s) w w' ∧
      ∀ b, SlIn s' b → SlIn s b ∨ w.heap.size ≤ b := by
  refine frame_put.run _ s n v w ?_
  unfold frame_put.M frame_put.l1
  refine loopW_of (fun st w' => st.2.2.1 = (n : Int) ∧ ∃ i : Nat, i ≤ n ∧ st.2.2.2.1 = (i : Int) ∧ st.2.1 = shrN i v ∧ Own b8 5 base w' st.1 (l ++ le i v) ∧ Mo (SlIn s) w w' ∧ ∀ b, SlIn st.1 b → SlIn s b ∨ w.heap.size ≤ b) (fun st _ => n - st.2.2.2.1.toNat) ?_
    ⟨rfl, 0, Nat.zero_le _, rfl, rfl, by simpa [le] using ho, Mo.refl _ _, fun b hb => .inl hb⟩
  rintro k ⟨s', v', n', t, u⟩ w' hI hk
  dsimp only at hI hk ⊢
  obtain ⟨rfl, i, hi, rfl, rfl, ho', hm, hloc⟩ := hI
  unfold frame_put.b1
  refine Cd_dec (fun h => ?_) (fun h => ?_)
  · refine Wr_lit (f := b8) (e := 5) (base := 0) [IntKind.wrap .u8 (shrN i v)] (by kernel_rfl) (Nat.zero_le _) (by simp) fun x w1 hx hx1 _ => ?_
    have hll := le_length i v
    refine Wr_append tB iB rfl (ho'.ex hx1) hx.rds (fun y => rfl) (by simp; omega) (by simp; omega) (Nat.le_trans hb (Nat.le_trans hm.size hx1.size)) fun s2 w2 ho2 hm2 hloc2 => ?_
    rw [wrap64 (x := (i : Int) + 1) (by omega) (by omega)]
    refine hk _ _ ⟨rfl, i + 1, by omega, by simp, (shrN_succ i v).symm, ?_, ?_, ?_⟩ (by simp only; omega)
    · simp only; rw [le_snoc, ← List.append_assoc]; exact ho2
    · exact Mo.trans (hm.ex hx1) hm2 (fun _ h => h) (fun b hb hs => (hloc b hs).resolve_right (by omega))
    · intro b hs
      rcases hloc2 b hs with h2 | h2
      · exact hloc b h2
      · exact .inr (Nat.le_trans hm.size (Nat.le_trans hx1.size h2))
  · have : i = n := by omega
    subst this
    exact ⟨s', rfl, ho', hm, hloc⟩

theorem own_has {α : Type} {f : α → Value} {e : TypeId} {base : Nat} {w : World} {s : Sl} {l : List α} (h : Own f e base w s l) (hc : s.cap = s.len) : (l = [] ∧ s.base = none) ∨ ∃ g, s.base = some ⟨g, 0, none⟩ ∧ base ≤ g ∧ Has w g (l.map f) e := by
  obtain ⟨h1, h2⟩ := h
  obtain ⟨sb, sl, sc⟩ := s
  dsimp only at h1 h2 hc
  subst hc
  rcases h2.2 with ⟨e1, e2⟩ | ⟨g, cap, cur, e1, hb, hg, _, _, hcs, htake⟩
  · cases e1; exact .inl ⟨List.eq_nil_of_length_eq_zero (by omega), rfl⟩
  · cases e1
    refine .inr ⟨g, rfl, hb, ?_⟩
    unfold Has
    rw [hg]
    rw [Nat.mul_one] at htake hcs
    rw [← htake]
    have : cur.toList.take sc = cur.toList := List.take_of_length_le (by simp; omega)
    rw [this]
theorem little_sl (v : Int) (n : Nat) (w : World) (hn : n ≤ 8) : GivesSl Tryd.prog 27 #[.int .u64 v, .int .i64 (n : Int)] b8 5 (le n v) w := by
  refine culletref25_little.run _ v n w ?_
  unfold culletref25_little.M
  refine Wr_make tB iB (f := b8) (z := 0) rfl n (by omega) (by omega) rfl rfl fun s w1 hs hg hx1 => ?_
  unfold culletref25_little.l1
  have hll := le_length n v
  refine loopW_of (fun st w' => st.2.1 = (n : Int) ∧ st.2.2.1 = s ∧ ∃ i : Nat, i ≤ n ∧ st.2.2.2.1 = (i : Int) ∧ st.1 = shrN i v ∧ Has w' w.heap.size ((le i v ++ List.replicate (n - i) 0).map b8) 5 ∧ Ex w w') (fun st _ => n - st.2.2.2.1.toNat) ?_
    ⟨rfl, rfl, 0, Nat.zero_le _, rfl, rfl, by simpa [le] using hg, hx1⟩
  rintro k ⟨v', n', s', t, u⟩ w' hI hk
  dsimp only at hI hk ⊢
  obtain ⟨rfl, rfl, i, hi, rfl, rfl, hH, hx⟩ := hI
  unfold culletref25_little.b1
  have hli := le_length i v
  refine Cd_dec (fun h => ?_) (fun h => ?_)
  · have hin : i < n := by omega
    obtain rfl := hs
    refine Pu_ix tB sB (a := ⟨w.heap.size, 0, none⟩) rfl (by omega) (by dsimp only; omega) ?_
    rw [add_lit, Int.toNat_natCast]
    refine Wu_store hH (by kernel_rfl) (by simp [Value.cells, Value.oneCell']) (by simp [Value.cells, hli]; omega) fun w2 hH2 hm2 => ?_
    rw [wrap64 (x := (i : Int) + 1) (by omega) (by omega)]
    refine hk _ _ ⟨rfl, rfl, i + 1, by omega, by simp, (shrN_succ i v).symm, ?_, hx.into hm2 (fun b hb => Nat.le_of_eq hb.symm)⟩ (by simp only; omega)
    rw [le_snoc]
    obtain ⟨m, hm⟩ : ∃ m, n - i = m + 1 := ⟨n - i - 1, by omega⟩
    rw [hm, List.replicate_succ] at hH2
    rw [show n - (i + 1) = m by omega]
    have e : (List.map b8 (le i v ++ 0 :: List.replicate m 0)).take i ++ (Value.int .u8 (IntKind.wrap .u8 (shrN i v))).cells.toList ++ (List.map b8 (le i v ++ 0 :: List.replicate m 0)).drop (i + (Value.int .u8 (IntKind.wrap .u8 (shrN i v))).cells.size) =
        List.map b8 (le i v ++ [IntKind.wrap .u8 (shrN i v)] ++ List.replicate m 0) := by
      have h1 : (List.map b8 (le i v)).length = i := by simp [hli]
      simp only [List.map_append, List.map_cons, Value.cells]
      rw [List.take_append_of_le_length (by omega), List.take_of_length_le (by omega), List.drop_append, List.drop_of_length_le (by omega)]
      simp [hli]
    rw [e] at hH2
    exact hH2
  · have : i = n := by omega
    subst this
    obtain rfl := hs
    refine ⟨_, rfl, ?_, hx⟩
    rw [Nat.sub_self, List.replicate_zero, List.append_nil] at hH
    exact own_of_has (hli) (by omega) hH (Nat.le_refl _)
end Go.Proofs.YtbcjimfkdjjpjaaDoor
