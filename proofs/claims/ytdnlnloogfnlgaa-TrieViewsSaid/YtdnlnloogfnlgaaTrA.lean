/- The trie's little functions and the law's: keys, copies, comparisons. -/
import Derived.Test.YtdnlnloogfnlgaaC
import Derived.Test.YtdnlnloogfnlgaaCb
import Derived.Test.YtdnlnloogfnlgaaStepLib
set_option linter.all false
namespace Go.Proofs.Ytdnlnloogfnlgaa
open Go Go.Cu Go.RowKit
set_option linter.unusedVariables false
set_option maxHeartbeats 2000000
theorem tI : Try.prog.underlying 29 = some (.slice 3) := by kernel_rfl
theorem sI : sizeIs Try.prog 3 1 = true := by kernel_rfl
theorem oI : isOne Try.prog 3 = true := by kernel_rfl
theorem iI : (Try.prog.info? 3).map (fun i => (i.zero, i.size, i.bytes)) = some (some (.int .i64 0), 1, 8) := by kernel_rfl
theorem tB : Try.prog.underlying 52 = some (.slice 5) := by kernel_rfl
theorem sB : sizeIs Try.prog 5 1 = true := by kernel_rfl
theorem oB : isOne Try.prog 5 = true := by kernel_rfl
theorem iB : (Try.prog.info? 5).map (fun i => (i.zero, i.size, i.bytes)) = some (some (.int .u8 0), 1, 1) := by kernel_rfl
theorem tBB : Try.prog.underlying 30 = some (.slice 52) := by kernel_rfl
theorem sBB : sizeIs Try.prog 52 1 = true := by kernel_rfl
theorem oBB : isOne Try.prog 52 = true := by kernel_rfl
theorem iBB : (Try.prog.info? 52).map (fun i => (i.zero, i.size, i.bytes)) = some (some (slv ⟨none, 0, 0⟩), 1, 24) := by kernel_rfl
theorem tII : Try.prog.underlying 45 = some (.slice 29) := by kernel_rfl
theorem sII : sizeIs Try.prog 29 1 = true := by kernel_rfl
theorem oII : isOne Try.prog 29 = true := by kernel_rfl
theorem iII : (Try.prog.info? 29).map (fun i => (i.zero, i.size, i.bytes)) = some (some (slv ⟨none, 0, 0⟩), 1, 24) := by kernel_rfl
/-! ### Keys -/
def goodFrom : Int → List Int → Bool
  | _, [] => true
  | p, x :: r => decide (p < x ∧ x ≤ 255) && goodFrom x r
def goodB (l : List Int) : Bool := goodFrom (-1) l
/-- the number ahead of place i -/
def prevI (l : List Int) (i : Nat) : Int := if i = 0 then -1 else l.getD (i - 1) 0
theorem drop_at {l : List Int} {i : Nat} {x : Int} (h : l[i]? = some x) : l.drop i = x :: l.drop (i + 1) := by
  obtain ⟨hi, he⟩ := List.getElem?_eq_some_iff.1 h
  rw [List.drop_eq_getElem_cons hi, he]
theorem prevI_succ {l : List Int} {i : Nat} {x : Int} (h : l[i]? = some x) : prevI l (i + 1) = x := by
  unfold prevI; rw [if_neg (by omega), Nat.add_sub_cancel, List.getD_eq_getElem?_getD, h]; rfl
theorem isKey_gv (s : Sl) (l : List Int) (w : World) (hr : Rds i64v w s l) (hl : l.length ≤ 9223372036854775806) : Gv Try.prog 41 #[slv s] (.bool (goodB l)) w := by
  refine trie_isKey.run _ s w ?_
  unfold trie_isKey.M trie_isKey.l1
  rw [hr.1]
  refine loopW_of (fun st w' => st.1 = s ∧ st.2.1 = s ∧ st.2.2.1 = (l.length : Int) ∧ w' = w ∧ ∃ i : Nat, i ≤ l.length ∧ st.2.2.2.1 = (i : Int) ∧ goodB l = goodFrom (prevI l i) (l.drop i) ∧ -1 ≤ prevI l i ∧ (0 < i → 0 ≤ prevI l i)) (fun st _ => l.length - st.2.2.2.1.toNat) ?_
    ⟨rfl, rfl, rfl, rfl, 0, Nat.zero_le _, rfl, rfl, Int.le_refl _, fun h => absurd h (by omega)⟩
  rintro k ⟨s', t', n', i', u⟩ w' hI hk
  dsimp only at hI hk ⊢
  obtain ⟨rfl, rfl, rfl, rfl, i, hi, rfl, hg, hp, hp0⟩ := hI
  unfold trie_isKey.b1
  refine Cd_dec (fun hlt => ?_) (fun hge => ?_)
  · refine Pu_idx hr tI sI (by omega) (by omega) fun a x hx hc _ => ?_
    rw [Int.toNat_natCast] at hx
    refine Rd_one (c := .int .i64) (x := x) oI hc ?_
    rw [drop_at hx] at hg
    have bad : ¬ (prevI l i < x ∧ x ≤ 255) → goodB l = false := fun h => by rw [hg]; unfold goodFrom; rw [decide_eq_false h]; rfl
    have j1f : ∀ b : Bool, (b = true → goodB l = false) → (b = false → prevI l i < x ∧ x ≤ 255) → trie_isKey.j1 (fun en w1 => en = Ending.returned (.bool (goodB l)) ∧ Ex w' w1) k t' t' (l.length : Int) (i : Int) b w' := by
      intro b h1 h2
      unfold trie_isKey.j1
      refine Cd_of (fun hb => ⟨by rw [h1 hb], Ex.refl _⟩) (fun hb => ?_)
      obtain ⟨q1, q2⟩ := h2 hb
      rw [wrap64 (x := (i : Int) + 1) (by omega) (by omega)]
      have hps := prevI_succ hx
      refine hk _ _ ⟨rfl, rfl, rfl, rfl, i + 1, by omega, by simp, ?_, by omega, fun _ => by omega⟩ (by simp only; omega)
      rw [hg, hps]
      show (decide (prevI l i < x ∧ x ≤ 255) && goodFrom x (l.drop (i + 1))) = _
      rw [decide_eq_true ⟨q1, q2⟩, Bool.true_and]
    refine Cd_dec (fun h => j1f true (fun _ => bad ?_) (fun h => by cases h)) (fun h0 => ?_)
    · omega
    refine Cd_dec (fun h => j1f true (fun _ => bad ?_) (fun h => by cases h)) (fun h255 => ?_)
    · omega
    refine Cd_dec (fun hi0 => ?_) (fun hi0 => j1f false (fun h => by cases h) (fun _ => ?_))
    · rw [wrap64 (x := (i : Int) - 1) (by omega) (by omega)]
      refine Pu_idx hr tI sI (by omega) (by omega) fun a2 y hy hc2 _ => ?_
      refine Rd_one (c := .int .i64) (x := y) oI hc2 ?_
      have hyp : prevI l i = y := by
        unfold prevI
        rw [if_neg (by omega), List.getD_eq_getElem?_getD, show i - 1 = ((i : Int) - 1).toNat by omega, hy]; rfl
      refine j1f _ (fun h => bad ?_) (fun h => ?_)
      · have := of_decide_eq_true h; omega
      · have := of_decide_eq_false h; omega
    · have : i = 0 := by omega
      subst this
      have : prevI l 0 = -1 := rfl
      omega
  · have : i = l.length := by omega
    subst this
    rw [List.drop_length] at hg
    exact ⟨by rw [hg]; rfl, Ex.refl _⟩
theorem good_gv (s : Sl) (l : List Int) (w : World) (hr : Rds i64v w s l) (hl : l.length ≤ 9223372036854775806) : Gv Try.prog 13 #[slv s] (.bool (goodB l)) w := by
  refine culletref12_Good.run _ s w ?_
  unfold culletref12_Good.M culletref12_Good.l1
  rw [hr.1]
  refine loopW_of (fun st w' => st.1 = s ∧ st.2.1 = s ∧ st.2.2.1 = (l.length : Int) ∧ w' = w ∧ ∃ i : Nat, i ≤ l.length ∧ st.2.2.2.1 = (i : Int) ∧ goodB l = goodFrom (prevI l i) (l.drop i) ∧ -1 ≤ prevI l i ∧ (0 < i → 0 ≤ prevI l i)) (fun st _ => l.length - st.2.2.2.1.toNat) ?_
    ⟨rfl, rfl, rfl, rfl, 0, Nat.zero_le _, rfl, rfl, Int.le_refl _, fun h => absurd h (by omega)⟩
  rintro k ⟨s', t', n', i', u⟩ w' hI hk
  dsimp only at hI hk ⊢
  obtain ⟨rfl, rfl, rfl, rfl, i, hi, rfl, hg, hp, hp0⟩ := hI
  unfold culletref12_Good.b1
  refine Cd_dec (fun hlt => ?_) (fun hge => ?_)
  · refine Pu_idx hr tI sI (by omega) (by omega) fun a x hx hc _ => ?_
    rw [Int.toNat_natCast] at hx
    refine Rd_one (c := .int .i64) (x := x) oI hc ?_
    rw [drop_at hx] at hg
    have bad : ¬ (prevI l i < x ∧ x ≤ 255) → goodB l = false := fun h => by rw [hg]; unfold goodFrom; rw [decide_eq_false h]; rfl
    have j1f : ∀ b : Bool, (b = true → goodB l = false) → (b = false → prevI l i < x ∧ x ≤ 255) → culletref12_Good.j1 (fun en w1 => en = Ending.returned (.bool (goodB l)) ∧ Ex w' w1) k t' t' (l.length : Int) (i : Int) b w' := by
      intro b h1 h2
      unfold culletref12_Good.j1
      refine Cd_of (fun hb => ⟨by rw [h1 hb], Ex.refl _⟩) (fun hb => ?_)
      obtain ⟨q1, q2⟩ := h2 hb
      rw [wrap64 (x := (i : Int) + 1) (by omega) (by omega)]
      have hps := prevI_succ hx
      refine hk _ _ ⟨rfl, rfl, rfl, rfl, i + 1, by omega, by simp, ?_, by omega, fun _ => by omega⟩ (by simp only; omega)
      rw [hg, hps]
      show (decide (prevI l i < x ∧ x ≤ 255) && goodFrom x (l.drop (i + 1))) = _
      rw [decide_eq_true ⟨q1, q2⟩, Bool.true_and]
    refine Cd_dec (fun h => j1f true (fun _ => bad ?_) (fun h => by cases h)) (fun h0 => ?_)
    · omega
    refine Cd_dec (fun h => j1f true (fun _ => bad ?_) (fun h => by cases h)) (fun h255 => ?_)
    · omega
    refine Cd_dec (fun hi0 => ?_) (fun hi0 => j1f false (fun h => by cases h) (fun _ => ?_))
    · rw [wrap64 (x := (i : Int) - 1) (by omega) (by omega)]
      refine Pu_idx hr tI sI (by omega) (by omega) fun a2 y hy hc2 _ => ?_
      refine Rd_one (c := .int .i64) (x := y) oI hc2 ?_
      have hyp : prevI l i = y := by
        unfold prevI
        rw [if_neg (by omega), List.getD_eq_getElem?_getD, show i - 1 = ((i : Int) - 1).toNat by omega, hy]; rfl
      refine j1f _ (fun h => bad ?_) (fun h => ?_)
      · have := of_decide_eq_true h; omega
      · have := of_decide_eq_false h; omega
    · have : i = 0 := by omega
      subst this
      have : prevI l 0 = -1 := rfl
      omega
  · have : i = l.length := by omega
    subst this
    rw [List.drop_length] at hg
    exact ⟨by rw [hg]; rfl, Ex.refl _⟩
/-! ### Comparisons -/
theorem same_gv (s t : Sl) (l m : List Int) (w : World) (hr : Rds i64v w s l) (hq : Rds i64v w t m) (hl : l.length ≤ 9223372036854775806) :
    Gv Try.prog 24 #[slv s, slv t] (.bool (decide (l = m))) w := by
  refine culletref12_Same.run _ s t w ?_
  unfold culletref12_Same.M culletref12_Same.l1
  rw [hr.1, hq.1]
  refine Cd_ne (fun h => ⟨?_, Ex.refl w⟩) (fun h => ?_)
  · have : l ≠ m := fun e => h (by rw [e])
    simp [this]
  have hlm : l.length = m.length := by omega
  refine loopW_of (fun st w' => Ex w w' ∧ st.1 = s ∧ st.2.1 = t ∧ st.2.2.1 = (l.length : Int) ∧ ∃ i : Nat, i ≤ l.length ∧ st.2.2.2.1 = (i : Int) ∧ l.take i = m.take i) (fun st _ => l.length - st.2.2.2.1.toNat) ?_
    ⟨Ex.refl w, rfl, rfl, rfl, 0, Nat.zero_le _, rfl, rfl⟩
  rintro k ⟨s', t', n', i', u⟩ w' hI hk
  dsimp only at hI hk ⊢
  obtain ⟨hx, rfl, rfl, rfl, i, hi, rfl, he⟩ := hI
  unfold culletref12_Same.b1
  have hr' := (hr.ex hx).ex (Ex.drew w')
  have hq' := (hq.ex hx).ex (Ex.drew w')
  refine Cd_dec (fun h => ?_) (fun h => ?_)
  · refine Pu_idx hr' tI sI (by omega) (by omega) fun a x hx1 hc1 _ => ?_
    refine RdS_same (Rd_one (c := .int .i64) (x := x) oI hc1 ?_)
    refine Pu_idx hq' tI sI (by omega) (by omega) fun a2 y hx2 hc2 _ => ?_
    refine RdS_same (Rd_one (c := .int .i64) (x := y) oI hc2 ?_)
    rw [Int.toNat_natCast] at hx1 hx2
    refine Cd_ne (fun hne => ⟨?_, hx.trans (Ex.drew w')⟩) (fun heq => ?_)
    · have : l ≠ m := fun e => hne (by rw [e] at hx1; rw [hx1] at hx2; exact Option.some.inj hx2)
      simp [this]
    · rw [wrap64 (x := (i : Int) + 1) (by omega) (by omega)]
      refine hk _ _ ⟨hx.trans (Ex.drew w'), rfl, rfl, rfl, i + 1, by omega, by simp, ?_⟩ (by simp only; omega)
      rw [List.take_add_one, List.take_add_one, hx1, hx2, he, heq]
  · have : i = l.length := by omega
    subst this
    rw [List.take_length, hlm, List.take_length] at he
    exact ⟨by simp [he], hx⟩
theorem sameBytes_gv (s t : Sl) (l m : List Int) (w : World) (hr : Rds b8 w s l) (hq : Rds b8 w t m) (hl : l.length ≤ 9223372036854775806) :
    Gv Try.prog 45 #[slv s, slv t] (.bool (decide (l = m))) w := by
  refine culletlaw12_sameBytes.run _ s t w ?_
  unfold culletlaw12_sameBytes.M culletlaw12_sameBytes.l1
  rw [hr.1, hq.1]
  refine Cd_ne (fun h => ⟨?_, Ex.refl w⟩) (fun h => ?_)
  · have : l ≠ m := fun e => h (by rw [e])
    simp [this]
  have hlm : l.length = m.length := by omega
  refine loopW_of (fun st w' => Ex w w' ∧ st.1 = s ∧ st.2.1 = t ∧ st.2.2.1 = (l.length : Int) ∧ ∃ i : Nat, i ≤ l.length ∧ st.2.2.2.1 = (i : Int) ∧ l.take i = m.take i) (fun st _ => l.length - st.2.2.2.1.toNat) ?_
    ⟨Ex.refl w, rfl, rfl, rfl, 0, Nat.zero_le _, rfl, rfl⟩
  rintro k ⟨s', t', n', i', u⟩ w' hI hk
  dsimp only at hI hk ⊢
  obtain ⟨hx, rfl, rfl, rfl, i, hi, rfl, he⟩ := hI
  unfold culletlaw12_sameBytes.b1
  have hr' := (hr.ex hx).ex (Ex.drew w')
  have hq' := (hq.ex hx).ex (Ex.drew w')
  refine Cd_dec (fun h => ?_) (fun h => ?_)
  · refine Pu_idx hr' tB sB (by omega) (by omega) fun a x hx1 hc1 _ => ?_
    refine RdS_same (Rd_one (c := .int .u8) (x := x) oB hc1 ?_)
    refine Pu_idx hq' tB sB (by omega) (by omega) fun a2 y hx2 hc2 _ => ?_
    refine RdS_same (Rd_one (c := .int .u8) (x := y) oB hc2 ?_)
    rw [Int.toNat_natCast] at hx1 hx2
    refine Cd_ne (fun hne => ⟨?_, hx.trans (Ex.drew w')⟩) (fun heq => ?_)
    · have : l ≠ m := fun e => hne (by rw [e] at hx1; rw [hx1] at hx2; exact Option.some.inj hx2)
      simp [this]
    · rw [wrap64 (x := (i : Int) + 1) (by omega) (by omega)]
      refine hk _ _ ⟨hx.trans (Ex.drew w'), rfl, rfl, rfl, i + 1, by omega, by simp, ?_⟩ (by simp only; omega)
      rw [List.take_add_one, List.take_add_one, hx1, hx2, he, heq]
  · have : i = l.length := by omega
    subst this
    rw [List.take_length, hlm, List.take_length] at he
    exact ⟨by simp [he], hx⟩
end Go.Proofs.Ytdnlnloogfnlgaa
