/- The trie's little functions and the law's: keys, copies, comparisons. -/
import Derived.Test.YtdnlnloogfnlgaaC
import Derived.Test.YtdnlnloogfnlgaaCb
import Derived.Test.YtdnlnloogfnlgaaStepLib
set_option linter.all false
namespace Go.Proofs.Ytdnlnloogfnlgaa
open Go Go.Cu Go.RowKit
set_option linter.unusedVariables false
set_option maxHeartbeats 2000000
theorem tI : Try.prog.underlying 29 = some (.slice 3) := by kernel_rfl
theorem sI : sizeIs Try.prog 3 1 = true := by kernel_rfl
theorem oI : isOne Try.prog 3 = true := by kernel_rfl
theorem iI : (Try.prog.info? 3).map (fun i => (i.zero, i.size, i.bytes)) = some (some (.int .i64 0), 1, 8) := by kernel_rfl
theorem tB : Try.prog.underlying 52 = some (.slice 5) := by kernel_rfl
theorem sB : sizeIs Try.prog 5 1 = true := by kernel_rfl
theorem oB : isOne Try.prog 5 = true := by kernel_rfl
theorem iB : (Try.prog.info? 5).map (fun i => (i.zero, i.size, i.bytes)) = some (some (.int .u8 0), 1, 1) := by kernel_rfl
theorem tBB : Try.prog.underlying 30 = some (.slice 52) := by kernel_rfl
theorem sBB : sizeIs Try.prog 52 1 = true := by kernel_rfl
theorem oBB : isOne Try.prog 52 = true := by kernel_rfl
theorem iBB : (Try.prog.info? 52).map (fun i => (i.zero, i.size, i.bytes)) = some (some (slv ⟨none, 0, 0⟩), 1, 24) := by kernel_rfl
theorem tII : Try.prog.underlying 45 = some (.slice 29) := by kernel_rfl
theorem sII : sizeIs Try.prog 29 1 = true := by kernel_rfl
theorem oII : isOne Try.prog 29 = true := by kernel_rfl
theorem iII : (Try.prog.info? 29).map (fun i => (i.zero, i.size, i.bytes)) = some (some (slv ⟨none, 0, 0⟩), 1, 24) := by kernel_rfl
/-! ### Keys -/
def goodFrom : Int → List Int → Bool
  | _, [] => true
  | p, x :: r => decide (p < x ∧ x ≤ 255) && goodFrom x r
def goodB (l : List Int) : Bool := goodFrom (-1) l
/-- the number ahead of place i -/
def prevI (l : List Int) (i : Nat) : Int := if i = 0 then -1 else l.getD (i - 1) 0
theorem drop_at {l : List Int} {i : Nat} {x : Int} (h : l[i]? = some x) : l.drop i = x :: l.drop (i + 1) := by
  obtain ⟨hi, he⟩ := List.getElem?_eq_some_iff.1 h
  rw [List.drop_eq_getElem_cons hi, he]
theorem prevI_succ {l : List Int} {i : Nat} {x : Int} (h : l[i]? = some x) : prevI l (i + 1) = x := by
  unfold prevI; rw [if_neg (by omega), Nat.add_sub_cancel, List.getD_eq_getElem?_getD, h]; rfl
theorem isKey_gv (s : Sl) (l : List Int) (w : World) (hr : Rds i64v w s l) (hl : l.length ≤ 9223372036854775806) : Gv Try.prog 41 #[slv s] (.bool (goodB l)) w := by
  refine trie_isKey.run _ s w ?_
  unfold trie_isKey.M trie_isKey.l1
  rw [hr.1]
  refine loopW_of (fun st w' => st.1 = s ∧ st.2.1 = s ∧ st.2.2.1 = (l.length : Int) ∧ w' = w ∧ ∃ i : Nat, i ≤ l.length ∧ st.2.2.2.1 = (i : Int) ∧ goodB l = goodFrom (prevI l i) (l.drop i) ∧ -1 ≤ prevI l i ∧ (0 < i → 0 ≤ prevI l i)) (fun st _ => l.length - st.2.2.2.1.toNat) ?_
    ⟨rfl, rfl, rfl, rfl, 0, Nat.zero_le _, rfl, rfl, Int.le_refl _, fun h => absurd h (by omega)⟩
  rintro k ⟨s', t', n', i', u⟩ w' hI hk
  dsimp only at hI hk ⊢
  obtain ⟨rfl, rfl, rfl, rfl, i, hi, rfl, hg, hp, hp0⟩ := hI
  unfold trie_isKey.b1
  refine Cd_dec (fun hlt => ?_) (fun hge => ?_)
  · refine Pu_idx hr tI sI (by omega) (by omega) fun a x hx hc _ => ?_
    rw [Int.toNat_natCast] at hx
    refine Rd_one (c := .int .i64) (x := x) oI hc ?_
    rw [drop_at hx] at hg
    have bad : ¬ (prevI l i < x ∧ x ≤ 255) → goodB l = false := fun h => by rw [hg]; unfold goodFrom; rw [decide_eq_false h]; rfl
    have j1f : ∀ b : Bool, (b = true → goodB l = false) → (b = false → prevI l i < x ∧ x ≤ 255) → trie_isKey.j1 (fun en w1 => en = Ending.returned (.bool (goodB l)) ∧ Ex w' w1) k t' t' (l.length : Int) (i : Int) b w' := by
      intro b h1 h2
      unfold trie_isKey.j1
      refine Cd_of (fun hb => ⟨by rw [h1 hb], Ex.refl _⟩) (fun hb => ?_)
      obtain ⟨q1, q2⟩ := h2 hb
      rw [wrap64 (x := (i : Int) + 1) (by omega) (by omega)]
      have hps := prevI_succ hx
      refine hk _ _ ⟨rfl, rfl, rfl, rfl, i + 1, by omega, by simp, ?_, by omega, fun _ => by omega⟩ (by simp only; omega)
      rw [hg, hps]
      show (decide (prevI l i < x ∧ x ≤ 255) && goodFrom x (l.drop (i + 1))) = _
      rw [decide_eq_true ⟨q1, q2⟩, Bool.true_and]
    refine Cd_dec (fun h => j1f true (fun _ => bad ?_) (fun h => by cases h)) (fun h0 => ?_)
    · omega
    refine Cd_dec (fun h => j1f true (fun _ => bad ?_) (fun h => by cases h)) (fun h255 => ?_)
    · omega
    refine Cd_dec (fun hi0 => ?_) (fun hi0 => j1f false (fun h => by cases h) (fun _ => ?_))
    · rw [wrap64 (x := (i : Int) - 1) (by omega) (by omega)]
      refine Pu_idx hr tI sI (by omega) (by omega) fun a2 y hy hc2 _ => ?_
      refine Rd_one (c := .int .i64) (x := y) oI hc2 ?_
      have hyp : prevI l i = y := by
        unfold prevI
        rw [if_neg (by omega), List.getD_eq_getElem?_getD, show i - 1 = ((i : Int) - 1).toNat by omega, hy]; rfl
      refine j1f _ (fun h => bad ?_) (fun h => ?_)
      · have := of_decide_eq_true h; omega
      · have := of_decide_eq_false h; omega
    · have : i = 0 := by omega
      subst this
      have : prevI l 0 = -1 := rfl
      omega
  · have : i = l.length := by omega
    subst this
    rw [List.drop_length] at hg
    exact ⟨by rw [hg]; rfl, Ex.refl _⟩
theorem good_gv (s : Sl) (l : List Int) (w : World) (hr : Rds i64v w s l) (hl : l.length ≤ 9223372036854775806) : Gv Try.prog 13 #[slv s] (.bool (goodB l)) w := by
  refine culletref12_Good.run _ s w ?_
  unfold culletref12_Good.M culletref12_Good.l1
  rw [hr.1]
  refine loopW_of (fun st w' => st.1 = s ∧ st.2.1 = s ∧ st.2.2.1 = (l.length : Int) ∧ w' = w ∧ ∃ i : Nat, i ≤ l.length ∧ st.2.2.2.1 = (i : Int) ∧ goodB l = goodFrom (prevI l i) (l.drop i) ∧ -1 ≤ prevI l i ∧ (0 < i → 0 ≤ prevI l i)) (fun st _ => l.length - st.2.2.2.1.toNat) ?_
    ⟨rfl, rfl, rfl, rfl, 0, Nat.zero_le _, rfl, rfl, Int.le_refl _, fun h => absurd h (by omega)⟩
  rintro k ⟨s', t', n', i', u⟩ w' hI hk
  dsimp only at hI hk ⊢
  obtain ⟨rfl, rfl, rfl, rfl, i, hi, rfl, hg, hp, hp0⟩ := hI
  unfold culletref12_Good.b1
  refine Cd_dec (fun hlt => ?_) (fun hge => ?_)
  · refine Pu_idx hr tI sI (by omega) (by omega) fun a x hx hc _ => ?_
    rw [Int.toNat_natCast] at hx
    refine Rd_one (c := .int .i64) (x := x) oI hc ?_
    rw [drop_at hx] at hg
    have bad : ¬ (prevI l i < x ∧ x ≤ 255) → goodB l = false := fun h => by rw [hg]; unfold goodFrom; rw [decide_eq_false h]; rfl
    have j1f : ∀ b : Bool, (b = true → goodB l = false) → (b = false → prevI l i < x ∧ x ≤ 255) → culletref12_Good.j1 (fun en w1 => en = Ending.returned (.bool (goodB l)) ∧ Ex w' w1) k t' t' (l.length : Int) (i : Int) b w' := by
      intro b h1 h2
      unfold culletref12_Good.j1
      refine Cd_of (fun hb => ⟨by rw [h1 hb], Ex.refl _⟩) (fun hb => ?_)
      obtain ⟨q1, q2⟩ := h2 hb
      rw [wrap64 (x := (i : Int) + 1) (by omega) (by omega)]
      have hps := prevI_succ hx
      refine hk _ _ ⟨rfl, rfl, rfl, rfl, i + 1, by omega, by simp, ?_, by omega, fun _ => by omega⟩ (by simp only; omega)
      rw [hg, hps]
      show (decide (prevI l i < x ∧ x ≤ 255) && goodFrom x (l.drop (i + 1))) = _
      rw [decide_eq_true ⟨q1, q2⟩, Bool.true_and]
    refine Cd_dec (fun h => j1f true (fun _ => bad ?_) (fun h => by cases h)) (fun h0 => ?_)
    · omega
    refine Cd_dec (fun h => j1f true (fun _ => bad ?_) (fun h => by cases h)) (fun h255 => ?_)
    · omega
    refine Cd_dec (fun hi0 => ?_) (fun hi0 => j1f false (fun h => by cases h) (fun _ => ?_))
    · rw [wrap64 (x := (i : Int) - 1) (by omega) (by omega)]
      refine Pu_idx hr tI sI (by omega) (by omega) fun a2 y hy hc2 _ => ?_
      refine Rd_one (c := .int .i64) (x := y) oI hc2 ?_
      have hyp : prevI l i = y := by
        unfold prevI
        rw [if_neg (by omega), List.getD_eq_getElem?_getD, show i - 1 = ((i : Int) - 1).toNat by omega, hy]; rfl
      refine j1f _ (fun h => bad ?_) (fun h => ?_)
      · have := of_decide_eq_true h; omega
      · have := of_decide_eq_false h; omega
    · have : i = 0 := by omega
      subst this
      have : prevI l 0 = -1 := rfl
      omega
  · have : i = l.length := by omega
    subst this
    rw [List.drop_length] at hg
    exact ⟨by rw [hg]; rfl, Ex.refl _⟩
/-! ### Comparisons -/
theorem same_gv (s t : Sl) (l m : List Int) (w : World) (hr : Rds i64v w s l) (hq : Rds i64v w t m) (hl : l.length ≤ 9223372036854775806) :
    Gv Try.prog 24 #[slv s, slv t] (.bool (decide (l = m))) w := by
  refine culletref12_Same.run _ s t w ?_
  unfold culletref12_Same.M culletref12_Same.l1
  rw [hr.1, hq.1]
  refine Cd_ne (fun h => ⟨?_, Ex.refl w⟩) (fun h => ?_)
  · have : l ≠ m := fun e => h (by rw [e])
    simp [this]
  have hlm : l.length = m.length := by omega
  refine loopW_of (fun st w' => Ex w w' ∧ st.1 = s ∧ st.2.1 = t ∧ st.2.2.1 = (l.length : Int) ∧ ∃ i : Nat, i ≤ l.length ∧ st.2.2.2.1 = (i : Int) ∧ l.take i = m.take i) (fun st _ => l.length - st.2.2.2.1.toNat) ?_
    ⟨Ex.refl w, rfl, rfl, rfl, 0, Nat.zero_le _, rfl, rfl⟩
  rintro k ⟨s', t', n', i', u⟩ w' hI hk
  dsimp only at hI hk ⊢
  obtain ⟨hx, rfl, rfl, rfl, i, hi, rfl, he⟩ := hI
  unfold culletref12_Same.b1
  have hr' := (hr.ex hx).ex (Ex.drew w')
  have hq' := (hq.ex hx).ex (Ex.drew w')
  refine Cd_dec (fun h => ?_) (fun h => ?_)
  · refine Pu_idx hr' tI sI (by omega) (by omega) fun a x hx1 hc1 _ => ?_
    refine RdS_same (Rd_one (c := .int .i64) (x := x) oI hc1 ?_)
    refine Pu_idx hq' tI sI (by omega) (by omega) fun a2 y hx2 hc2 _ => ?_
    refine RdS_same (Rd_one (c := .int .i64) (x := y) oI hc2 ?_)
    rw [Int.toNat_natCast] at hx1 hx2
    refine Cd_ne (fun hne => ⟨?_, hx.trans (Ex.drew w')⟩) (fun heq => ?_)
    · have : l ≠ m := fun e => hne (by rw [e] at hx1; rw [hx1] at hx2; exact Option.some.inj hx2)
      simp [this]
    · rw [wrap64 (x := (i : Int) + 1) (by omega) (by omega)]
      refine hk _ _ ⟨hx.trans (Ex.drew w'), rfl, rfl, rfl, i + 1, by omega, by simp, ?_⟩ (by simp only; omega)
      rw [List.take_add_one, List.take_add_one, hx1, hx2, he, heq]
  · have : i = l.length := by omega
    subst this
    rw [List.take_length, hlm, List.take_length] at he
    exact ⟨by simp [he], hx⟩
theorem sameBytes_gv (s t : Sl) (l m : List Int) (w : World) (hr : Rds b8 w s l) (hq : Rds b8 w t m) (hl : l.length ≤ 9223372036854775806) :
    Gv Try.prog 45 #[slv s, slv t] (.bool (decide (l = m))) w := by
  refine culletlaw12_sameBytes.run _ s t w ?_
  unfold culletlaw12_sameBytes.M culletlaw12_sameBytes.l1
  rw [hr.1, hq.1]
  refine Cd_ne (fun h => ⟨?_, Ex.refl w⟩) (fun h => ?_)
  · have : l ≠ m := fun e => h (by rw [e])
    simp [this]
  have hlm : l.length = m.length := by omega
  refine loopW_of (fun st w' => Ex w w' ∧ st.1 = s ∧ st.2.1 = t ∧ st.2.2.1 = (l.length : Int) ∧ ∃ i : Nat, i ≤ l.length ∧ st.2.2.2.1 = (i : Int) ∧ l.take i = m.take i) (fun st _ => l.length - st.2.2.2.1.toNat) ?_
    ⟨Ex.refl w, rfl, rfl, rfl, 0, Nat.zero_le _, rfl, rfl⟩
  rintro k ⟨s', t', n', i', u⟩ w' hI hk
  dsimp only at hI hk ⊢
  obtain ⟨hx, rfl, rfl, rfl, i, hi, rfl, he⟩ := hI
  unfold culletlaw12_sameBytes.b1
  have hr' := (hr.ex hx).ex (Ex.drew w')
  have hq' := (hq.ex hx).ex (Ex.drew w')
  refine Cd_dec (fun h => ?_) (fun h => ?_)
  · refine Pu_idx hr' tB sB (by omega) (by omega) fun a x hx1 hc1 _ => ?_
    refine RdS_same (Rd_one (c := .int .u8) (x := x) oB hc1 ?_)
    refine Pu_idx hq' tB sB (by omega) (by omega) fun a2 y hx2 hc2 _ => ?_
    refine RdS_same (Rd_one (c := .int .u8) (x := y) oB hc2 ?_)
    rw [Int.toNat_natCast] at hx1 hx2
    refine Cd_ne (fun hne => ⟨?_, hx.trans (Ex.drew w')⟩) (fun heq => ?_)
    · have : l ≠ m := fun e => hne (by rw [e] at hx1; rw [hx1] at hx2; exact Option.some.inj hx2)
      simp [this]
    · rw [wrap64 (x := (i : Int) + 1) (by omega) (by omega)]
      refine hk _ _ ⟨hx.trans (Ex.drew w'), rfl, rfl, rfl, i + 1, by omega, by simp, ?_⟩ (by simp only; omega)
      rw [List.take_add_one, List.take_add_one, hx1, hx2, he, heq]
  · have : i = l.length := by omega
    subst this
    rw [List.take_length, hlm, List.take_length] at he
    exact ⟨by simp [he], hx⟩
end Go.Proofs.Ytdnlnloogfnlgaa
/- Lists of lists: compared, copied. -/
namespace Go.Proofs.Ytdnlnloogfnlgaa
open Go Go.Cu Go.RowKit
set_option linter.unusedVariables false
set_option maxHeartbeats 2000000
def RowsLe {α : Type} (ls : List (List α)) : Prop := ls.length ≤ 5864062014634 ∧ ∀ l ∈ ls, l.length ≤ 140737488351232
theorem nest_len {α : Type} {f : α → Value} {F : Nat → Prop} {w : World} {s : Sl} {ls : List (List α)} (h : Nest f F w s ls) : s.len = ls.length := by
  obtain ⟨ss, h1, h2, _⟩ := h
  rw [h1.1, h2]
theorem sameValue_gv (s t : Sl) (l m : List (List Int)) (F G : Nat → Prop) (w : World) (hr : Nest b8 F w s l) (hq : Nest b8 G w t m) (hl : RowsLe l) :
    Gv Try.prog 21 #[slv s, slv t] (.bool (decide (l = m))) w := by
  have h1 := nest_len hr
  have h2 := nest_len hq
  obtain ⟨ss, r1, r2, _, r4⟩ := hr
  obtain ⟨ts, q1, q2, _, q4⟩ := hq
  have hl1 := hl.1
  refine culletlaw12_sameValue.run _ s t w ?_
  unfold culletlaw12_sameValue.M culletlaw12_sameValue.l1
  rw [h1, h2]
  refine Cd_ne (fun h => ⟨?_, Ex.refl w⟩) (fun h => ?_)
  · have : l ≠ m := fun e => h (by rw [e])
    simp [this]
  have hlm : l.length = m.length := by omega
  refine loopW_of (fun st w' => Ex w w' ∧ st.1 = s ∧ st.2.1 = t ∧ st.2.2.1 = (l.length : Int) ∧ ∃ i : Nat, i ≤ l.length ∧ st.2.2.2.1 = (i : Int) ∧ l.take i = m.take i) (fun st _ => l.length - st.2.2.2.1.toNat) ?_
    ⟨Ex.refl w, rfl, rfl, rfl, 0, Nat.zero_le _, rfl, rfl⟩
  rintro k ⟨s', t', n', i', u⟩ w' hI hk
  dsimp only at hI hk ⊢
  obtain ⟨hx, rfl, rfl, rfl, i, hi, rfl, he⟩ := hI
  unfold culletlaw12_sameValue.b1
  refine Cd_dec (fun h => ?_) (fun h => ?_)
  · refine Held_ex ?_
    have hxd := hx.trans (Ex.drew w')
    refine Pu_idx (r1.ex hxd) tBB sBB (by omega) (by omega) fun a x hx1 hc1 _ => ?_
    refine RdS_one (c := .sl) (x := x) oBB (fun v hv => hv.cell hc1) ?_
    refine Pu_idx (q1.ex hxd) tBB sBB (by omega) (by omega) fun a2 y hx2 hc2 _ => ?_
    refine RdS_one (c := .sl) (x := y) oBB (fun v hv => hv.cell hc2) ?_
    rw [Int.toNat_natCast] at hx1 hx2
    have hil : i < l.length := by omega
    have hl1' : l[i]? = some l[i] := List.getElem?_eq_getElem hil
    have hm1' : m[i]? = some (m[i]'(by omega)) := List.getElem?_eq_getElem (by omega)
    refine Cl_gv (sameBytes_gv x y l[i] (m[i]'(by omega)) _ ((r4 i x _ hx1 hl1').1.ex hxd) ((q4 i y _ hx2 hm1').1.ex hxd) (by have := hl.2 l[i] (List.getElem_mem hil); omega)) fun w3 hx3 => ⟨hx3, ?_⟩
    refine Cd_not (fun hf => ⟨?_, hxd.trans hx3⟩) (fun ht => ?_)
    · have hne := of_decide_eq_false hf
      have : l ≠ m := fun e => hne (by subst e; rfl)
      simp [this]
    · have heq := of_decide_eq_true ht
      rw [wrap64 (x := (i : Int) + 1) (by omega) (by omega)]
      refine hk _ _ ⟨hxd.trans hx3, rfl, rfl, rfl, i + 1, by omega, by simp, ?_⟩ (by simp only; omega)
      rw [List.take_add_one, List.take_add_one, hl1', hm1', he, heq]
  · have : i = l.length := by omega
    subst this
    rw [List.take_length, hlm, List.take_length] at he
    exact ⟨by simp [he], hx⟩
theorem sameKeys_gv (s t : Sl) (l m : List (List Int)) (F G : Nat → Prop) (w : World) (hr : Nest i64v F w s l) (hq : Nest i64v G w t m) (hl : RowsLe l) :
    Gv Try.prog 25 #[slv s, slv t] (.bool (decide (l = m))) w := by
  have h1 := nest_len hr
  have h2 := nest_len hq
  obtain ⟨ss, r1, r2, _, r4⟩ := hr
  obtain ⟨ts, q1, q2, _, q4⟩ := hq
  have hl1 := hl.1
  refine culletlaw12_sameKeys.run _ s t w ?_
  unfold culletlaw12_sameKeys.M culletlaw12_sameKeys.l1
  rw [h1, h2]
  refine Cd_ne (fun h => ⟨?_, Ex.refl w⟩) (fun h => ?_)
  · have : l ≠ m := fun e => h (by rw [e])
    simp [this]
  have hlm : l.length = m.length := by omega
  refine loopW_of (fun st w' => Ex w w' ∧ st.1 = s ∧ st.2.1 = t ∧ st.2.2.1 = (l.length : Int) ∧ ∃ i : Nat, i ≤ l.length ∧ st.2.2.2.1 = (i : Int) ∧ l.take i = m.take i) (fun st _ => l.length - st.2.2.2.1.toNat) ?_
    ⟨Ex.refl w, rfl, rfl, rfl, 0, Nat.zero_le _, rfl, rfl⟩
  rintro k ⟨s', t', n', i', u⟩ w' hI hk
  dsimp only at hI hk ⊢
  obtain ⟨hx, rfl, rfl, rfl, i, hi, rfl, he⟩ := hI
  unfold culletlaw12_sameKeys.b1
  refine Cd_dec (fun h => ?_) (fun h => ?_)
  · refine Held_ex ?_
    have hxd := hx.trans (Ex.drew w')
    refine Pu_idx (r1.ex hxd) tII sII (by omega) (by omega) fun a x hx1 hc1 _ => ?_
    refine RdS_one (c := .sl) (x := x) oII (fun v hv => hv.cell hc1) ?_
    refine Pu_idx (q1.ex hxd) tII sII (by omega) (by omega) fun a2 y hx2 hc2 _ => ?_
    refine RdS_one (c := .sl) (x := y) oII (fun v hv => hv.cell hc2) ?_
    rw [Int.toNat_natCast] at hx1 hx2
    have hil : i < l.length := by omega
    have hl1' : l[i]? = some l[i] := List.getElem?_eq_getElem hil
    have hm1' : m[i]? = some (m[i]'(by omega)) := List.getElem?_eq_getElem (by omega)
    refine Cl_gv (same_gv x y l[i] (m[i]'(by omega)) _ ((r4 i x _ hx1 hl1').1.ex hxd) ((q4 i y _ hx2 hm1').1.ex hxd) (by have := hl.2 l[i] (List.getElem_mem hil); omega)) fun w3 hx3 => ⟨hx3, ?_⟩
    refine Cd_not (fun hf => ⟨?_, hxd.trans hx3⟩) (fun ht => ?_)
    · have hne := of_decide_eq_false hf
      have : l ≠ m := fun e => hne (by subst e; rfl)
      simp [this]
    · have heq := of_decide_eq_true ht
      rw [wrap64 (x := (i : Int) + 1) (by omega) (by omega)]
      refine hk _ _ ⟨hxd.trans hx3, rfl, rfl, rfl, i + 1, by omega, by simp, ?_⟩ (by simp only; omega)
      rw [List.take_add_one, List.take_add_one, hl1', hm1', he, heq]
  · have : i = l.length := by omega
    subst this
    rw [List.take_length, hlm, List.take_length] at he
    exact ⟨by simp [he], hx⟩
/-! ### Copies -/
/-- a list of one's own, in blocks that are new -/
theorem copyKey_sl (s : Sl) (l : List Int) (w : World) (hr : Rds i64v w s l) (hl : l.length ≤ 17592186044000) : GivesSl Try.prog 16 #[slv s] i64v 3 l w := by
  refine culletref12_CopyKey.run _ s w ?_
  unfold culletref12_CopyKey.M
  refine Wr_lit (f := i64v) (e := 3) (base := w.heap.size) [] (by kernel_rfl) (Nat.le_refl _) (by simp) fun s1 w1 ho1 hx1 _ => ?_
  refine Wr_append tI iI rfl ho1 (hr.ex hx1) (fun y => rfl) (by simp; omega) (by simp; omega) hx1.size fun s2 w2 ho2 hm2 _ => ?_
  rw [List.nil_append] at ho2
  exact ⟨s2, rfl, ho2, hx1.into hm2 (fun i hi => (ho1.base i hi).1)⟩
theorem copyValue_nest (s : Sl) (ls : List (List Int)) (F : Nat → Prop) (w : World) (hr : Nest b8 F w s ls) (hl : RowsLe ls) :
    Calls Try.prog 17 #[slv s] w fun en w' => ∃ s', en = .returned (slv s') ∧ NestOwn b8 5 52 w.heap.size w' s' ls ∧ Ex w w' := by
  have h1 := nest_len hr
  obtain ⟨ss0, r1, r2, r3, r4⟩ := hr
  have hl1 := hl.1
  refine culletref12_CopyValue.run _ s w ?_
  unfold culletref12_CopyValue.M culletref12_CopyValue.l1
  rw [h1]
  refine loopW_of (fun st w' => Ex w w' ∧ st.2.1 = s ∧ st.2.2.1 = (ls.length : Int) ∧ ∃ i : Nat, i ≤ ls.length ∧ st.2.2.2.1 = (i : Int) ∧ NestOwn b8 5 52 w.heap.size w' st.1 (ls.take i)) (fun st _ => ls.length - st.2.2.2.1.toNat) ?_
    ⟨Ex.refl w, rfl, rfl, 0, Nat.zero_le _, rfl, NestOwn.nil _ _ _ _ _⟩
  rintro k ⟨out, t', n', i', u⟩ w' hI hk
  dsimp only at hI hk ⊢
  obtain ⟨hx, rfl, rfl, i, hi, rfl, hno⟩ := hI
  unfold culletref12_CopyValue.b1
  refine Cd_dec (fun h => ?_) (fun h => ?_)
  · refine Pu_idx (r1.ex hx) tBB sBB (by omega) (by omega) fun a x hx1 hc1 _ => ?_
    refine Rd_one (c := .sl) (x := x) oBB hc1 ?_
    rw [Int.toNat_natCast] at hx1
    have hil : i < ls.length := by omega
    have hl1' : ls[i]? = some ls[i] := List.getElem?_eq_getElem hil
    have hrow := (r4 i x _ hx1 hl1').1
    have hrl := hl.2 ls[i] (List.getElem_mem hil)
    refine Wr_lit (f := b8) (e := 5) (base := w'.heap.size) [] (by kernel_rfl) (Nat.le_refl _) (by simp) fun s1 w1 ho1 hx1' _ => ?_
    refine Wr_append tB iB rfl ho1 (hrow.ex (hx.trans hx1')) (fun y => rfl) (by simp; omega) (by simp; omega) hx1'.size fun s2 w2 ho2 hm2 _ => ?_
    rw [List.nil_append] at ho2
    have hx2 : Ex w' w2 := hx1'.into hm2 (fun i hi => (ho1.base i hi).1)
    refine Wr_lit (f := slv) (e := 52) (base := w2.heap.size) [s2] (by kernel_rfl) (Nat.le_refl _) (by simp) fun s3 w3 ho3 hx3 _ => ?_
    obtain ⟨ss, o1, o2, o3, o4, o5⟩ := hno
    have hlt : (ls.take i).length = i := by rw [List.length_take]; omega
    refine Wr_append tBB iBB rfl (o1.ex (hx2.trans hx3)) ho3.rds (fun y => rfl) (by simp [o2]; omega) (by simp [o2]; omega) (Nat.le_trans hx.size (hx2.trans hx3).size) fun s4 w4 ho4 hm4 hin => ?_
    rw [wrap64 (x := (i : Int) + 1) (by omega) (by omega)]
    refine hk _ _ ⟨(hx.trans (hx2.trans hx3)).into hm4 (fun i hi => (o1.base i hi).1), rfl, rfl, i + 1, by omega, by simp, ?_⟩ (by simp only; omega)
    rw [List.take_add_one, hl1']
    exact NestOwn.snoc o1 o2 o3 o4 o5 (hx2.trans hx3) ((ho2.ex hx3).weak hx.size) (fun b hb => (ho2.base b hb).1) ho4 hm4 hin
  · have : i = ls.length := by omega
    subst this
    rw [List.take_length] at hno
    exact ⟨out, rfl, hno, hx⟩
end Go.Proofs.Ytdnlnloogfnlgaa
/- The program's own copies of values and keys. -/
namespace Go.Proofs.Ytdnlnloogfnlgaa
open Go Go.Cu Go.RowKit
set_option linter.unusedVariables false
set_option maxHeartbeats 2000000
/-- rows, each a list of one's own, in blocks of their own -/
structure RowsOwn {α : Type} (f : α → Value) (e : TypeId) (base : Nat) (w : World) (ss : List Sl) (ls : List (List α)) : Prop where
  len : ss.length = ls.length
  own : ∀ (i : Nat) (s' : Sl) (l : List α), ss[i]? = some s' → ls[i]? = some l → Own f e base w s' l
  apart : ∀ (i j : Nat) (si sj : Sl) (b : Nat), ss[i]? = some si → ss[j]? = some sj → i ≠ j → SlIn si b → ¬ SlIn sj b
theorem RowsOwn.nil {α : Type} (f : α → Value) (e : TypeId) (base : Nat) (w : World) : RowsOwn f e base w [] [] := ⟨rfl, fun i s' l h => (by simp at h), fun i j si sj b h => (by simp at h)⟩
theorem RowsOwn.blk {α : Type} {f : α → Value} {e : TypeId} {base : Nat} {w : World} {ss : List Sl} {ls : List (List α)} (h : RowsOwn f e base w ss ls) {i : Nat} {si : Sl} {b : Nat} (hi : ss[i]? = some si) (hb : SlIn si b) : base ≤ b ∧ b < w.heap.size := by
  have hil : i < ls.length := by rw [← h.len]; exact (List.getElem?_eq_some_iff.1 hi).1
  exact (h.own i si _ hi (List.getElem?_eq_getElem hil)).base b hb
theorem RowsOwn.mo {α : Type} {f : α → Value} {e : TypeId} {base : Nat} {X : Nat → Prop} {w w' : World} {ss : List Sl} {ls : List (List α)} (h : RowsOwn f e base w ss ls) (k : Mo X w w') (hx : ∀ (i : Nat) (si : Sl) b, ss[i]? = some si → SlIn si b → ¬ X b) : RowsOwn f e base w' ss ls :=
  ⟨h.len, fun i s' l hs hl => (h.own i s' l hs hl).mo k (fun b hb => hx i s' b hs hb), h.apart⟩
theorem snoc_cases {α : Type} {l : List α} {x y : α} {i : Nat} (h : (l ++ [x])[i]? = some y) : (l[i]? = some y ∧ i < l.length) ∨ (i = l.length ∧ y = x) := by
  by_cases hlt : i < l.length
  · rw [List.getElem?_append_left hlt] at h; exact .inl ⟨h, hlt⟩
  · rw [List.getElem?_append_right (by omega)] at h
    have hlt2 := (List.getElem?_eq_some_iff.1 h).1
    simp at hlt2
    have : i = l.length := by omega
    subst this
    rw [Nat.sub_self] at h
    simp at h
    exact .inr ⟨rfl, h.symm⟩
/-- one row more, all of it behind what was there -/
theorem RowsOwn.snoc {α : Type} {f : α → Value} {e : TypeId} {base : Nat} {w0 w1 : World} {ss : List Sl} {ls : List (List α)} {row : Sl} {l : List α} (h : RowsOwn f e base w0 ss ls) (hx : Ex w0 w1) (hr : Own f e base w1 row l) (hnew : ∀ b, SlIn row b → w0.heap.size ≤ b) :
    RowsOwn f e base w1 (ss ++ [row]) (ls ++ [l]) := by
  refine ⟨by simp [h.len], fun i si m hi hm => ?_, fun i j si sj b hi hj hij hbi hbj => ?_⟩
  · rcases snoc_cases hi with ⟨hi', hlt⟩ | ⟨rfl, rfl⟩
    · rw [List.getElem?_append_left (by rw [← h.len]; exact hlt)] at hm
      exact (h.own i si m hi' hm).ex hx
    · rw [h.len, List.getElem?_append_right (Nat.le_refl _), Nat.sub_self] at hm
      simp at hm
      subst hm; exact hr
  · rcases snoc_cases hi with ⟨hi', _⟩ | ⟨rfl, rfl⟩
    · rcases snoc_cases hj with ⟨hj', _⟩ | ⟨rfl, rfl⟩
      · exact h.apart i j si sj b hi' hj' hij hbi hbj
      · have := (h.blk hi' hbi).2; have := hnew b hbj; omega
    · rcases snoc_cases hj with ⟨hj', _⟩ | ⟨rfl, rfl⟩
      · have := (h.blk hj' hbj).2; have := hnew b hbi; omega
      · exact hij rfl
theorem RowsOwn.nestOwn {α : Type} {f : α → Value} {e eo : TypeId} {base : Nat} {w : World} {ss : List Sl} {ls : List (List α)} {s : Sl} (h : RowsOwn f e base w ss ls) (ho : Own slv eo base w s ss) (hne : ∀ (i : Nat) (si : Sl) b, ss[i]? = some si → SlIn si b → ¬ SlIn s b) : NestOwn f e eo base w s ls :=
  ⟨ss, ho, h.len, h.own, h.apart, hne⟩
theorem set_next {α : Type} (rows : List α) (x z : α) (n : Nat) (f : α → Value) : (((rows ++ List.replicate (n + 1) z).map f).take rows.length ++ [f x] ++ ((rows ++ List.replicate (n + 1) z).map f).drop (rows.length + 1)) = (rows ++ [x] ++ List.replicate n z).map f := by
  rw [← List.map_take, ← List.map_drop, List.take_left, List.replicate_succ, List.drop_append, List.drop_of_length_le (by omega)]
  simp
theorem copied_nest (s : Sl) (ls : List (List Int)) (F : Nat → Prop) (w : World) (hr : Nest b8 F w s ls) (hl : RowsLe ls) :
    Calls Try.prog 43 #[slv s] w fun en w' => ∃ s', en = .returned (slv s') ∧ NestOwn b8 5 52 w.heap.size w' s' ls ∧ Ex w w' := by
  have h1 := nest_len hr
  obtain ⟨ss0, r1, r2, r3, r4⟩ := hr
  have hl1 := hl.1
  refine trie_copied.run _ s w ?_
  unfold trie_copied.M
  rw [h1]
  refine Wr_make (f := slv) (z := ⟨none, 0, 0⟩) (e := 52) (bytes := 24) tBB (by kernel_rfl) rfl ls.length (by omega) (by omega) rfl rfl fun so w2 hso hB2 hx2 => ?_
  unfold trie_copied.l1
  refine loopW_of (fun st w' => Ex w w' ∧ st.1 = so ∧ st.2.1 = s ∧ st.2.2.1 = (ls.length : Int) ∧ ∃ (i : Nat) (rows : List Sl), i ≤ ls.length ∧ st.2.2.2.1 = (i : Int) ∧ rows.length = i ∧ RowsOwn b8 5 w.heap.size w' rows (ls.take i) ∧ Has w' w.heap.size ((rows ++ List.replicate (ls.length - i) (⟨none, 0, 0⟩ : Sl)).map slv) 52 ∧
      ∀ (j : Nat) (si : Sl) b, rows[j]? = some si → SlIn si b → b ≠ w.heap.size) (fun st _ => ls.length - st.2.2.2.1.toNat) ?_
    ⟨hx2, rfl, rfl, rfl, 0, [], Nat.zero_le _, rfl, rfl, RowsOwn.nil _ _ _ _, by simpa using hB2, fun j si b h => by simp at h⟩
  rintro k ⟨out, t', n', i', u⟩ w' hI hk
  dsimp only at hI hk ⊢
  obtain ⟨hx, rfl, rfl, rfl, i, rows, hi, rfl, hri, hro, hB, hne⟩ := hI
  unfold trie_copied.b1
  refine Cd_dec (fun h => ?_) (fun h => ?_)
  · refine Pu_idx (r1.ex hx) tBB sBB (by omega) (by omega) fun a x hx1 hc1 _ => ?_
    refine Rd_one (c := .sl) (x := x) oBB hc1 ?_
    rw [Int.toNat_natCast] at hx1
    have hil : i < ls.length := by omega
    have hl1' : ls[i]? = some ls[i] := List.getElem?_eq_getElem hil
    have hrow := (r4 i x _ hx1 hl1').1
    have hrl := hl.2 ls[i] (List.getElem_mem hil)
    refine Wr_append (s := ⟨none, 0, 0⟩) (l := []) tB iB rfl (Own.nil b8 5 w'.heap.size w') (hrow.ex hx) (fun y => rfl) (by simp; omega) (by simp; omega) (Nat.le_refl _) fun s2 w3 ho3 hm3 hin3 => ?_
    rw [List.nil_append] at ho3
    have hx3 : Ex w' w3 := hm3.new (fun i ⟨a, ha, _⟩ => by cases ha)
    rw [hso]
    refine Pu_ix (s := ⟨some ⟨w.heap.size, 0, none⟩, ls.length, ls.length⟩) tBB sBB rfl (by omega) (by show (i : Int) < (ls.length : Int); omega) ?_
    rw [Int.toNat_natCast, add_lit]
    have hB3 := hB.ex hx3
    refine Wu_store (v := slv s2) hB3 sBB (by simp [Value.cells, Value.oneCell']) (by simp [Value.cells]; omega) fun w4 hB4 hm4 => ?_
    rw [wrap64 (x := (i : Int) + 1) (by omega) (by omega)]
    rw [← hso]
    have hx4 : Ex w w4 := (hx.trans hx3).into hm4 (fun b hb => by rw [hb]; exact Nat.le_refl _)
    have hnew : ∀ b, SlIn s2 b → w'.heap.size ≤ b := fun b hb => (ho3.base b hb).1
    have hgl : w.heap.size < w'.heap.size := hB.lt
    have hro4 : RowsOwn b8 5 w.heap.size w4 (rows ++ [s2]) (ls.take i ++ [ls[i]]) := by
      refine (hro.snoc hx3 (ho3.weak hx.size) hnew).mo hm4 fun j si b hj hb hn => ?_
      rcases snoc_cases hj with ⟨hj', _⟩ | ⟨_, rfl⟩
      · exact hne j si b hj' hb hn
      · have := hnew b hb; omega
    refine hk _ _ ⟨hx4, rfl, rfl, rfl, i + 1, rows ++ [s2], by omega, by simp, by simp [hri], ?_, ?_, ?_⟩ (by simp only; omega)
    · rw [List.take_add_one, hl1']; exact hro4
    · have hrep : ls.length - i = (ls.length - (i + 1)) + 1 := by omega
      rw [hrep] at hB4
      have := set_next rows s2 (⟨none, 0, 0⟩ : Sl) (ls.length - (i + 1)) slv
      rw [hri] at this
      rw [← this]
      exact hB4
    · intro j si b hj hb hn
      rcases snoc_cases hj with ⟨hj', _⟩ | ⟨_, rfl⟩
      · exact hne j si b hj' hb hn
      · have := hnew b hb; omega
  · have : i = ls.length := by omega
    subst this
    rw [List.take_length] at hro
    rw [Nat.sub_self, List.replicate_zero, List.append_nil] at hB
    refine ⟨out, rfl, ?_, hx⟩
    rw [hso]
    exact hro.nestOwn (own_of_has hri (by omega) hB (Nat.le_refl _)) (fun j si b hj hb hn => hne j si b hj hb hn.fresh)
theorem clone_own (s : Sl) (l : List Int) (w : World) (hr : Rds i64v w s l) (hl : l.length ≤ 17592186044000) : GivesSl Try.prog 52 #[slv s] i64v 3 l w := by
  refine slices_Clone_intint.run _ s w ?_
  unfold slices_Clone_intint.M
  refine Pu_eqnilS tI ?_
  · refine Cd_of (fun hn => ?_) (fun hn => ?_)
    · have hb : s.base = none := by simpa using hn
      have : l = [] := by
        cases l with
        | nil => rfl
        | cons y r => obtain ⟨a, ha, _⟩ := hr.2.2 0 y rfl; rw [hb] at ha; cases ha
      subst this
      exact ⟨⟨none, 0, 0⟩, rfl, Own.nil _ _ _ _, Ex.refl w⟩
    · refine Wr_lit (f := i64v) (e := 3) (base := w.heap.size) [] (by kernel_rfl) (Nat.le_refl _) (by simp) fun s1 w1 ho1 hx1 _ => ?_
      refine Wr_append tI iI rfl ho1 (hr.ex hx1) (fun y => rfl) (by simp; omega) (by simp; omega) hx1.size fun s2 w2 ho2 hm2 _ => ?_
      rw [List.nil_append] at ho2
      exact ⟨s2, rfl, ho2, hx1.into hm2 (fun i hi => (ho1.base i hi).1)⟩
end Go.Proofs.Ytdnlnloogfnlgaa
