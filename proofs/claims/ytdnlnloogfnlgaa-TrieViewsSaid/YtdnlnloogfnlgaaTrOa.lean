/- The document's order of keys, and beginnings. -/
import Derived.Test.YtdnlnloogfnlgaaTrV
set_option linter.all false
namespace Go.Proofs.Ytdnlnloogfnlgaa
open Go Go.Cu Go.RowKit
set_option linter.unusedVariables false
set_option maxHeartbeats 4000000
def lessB : Path → Path → Bool
  | _, [] => false
  | [], _ :: _ => true
  | x :: a, y :: b => if x = y then lessB a b else decide (x < y)
theorem lessB_iff : ∀ a b : Path, lessB a b = true ↔ lessP a b
  | [], [] => by simp [lessB, lessP]
  | _ :: _, [] => by simp [lessB, lessP]
  | [], _ :: _ => by simp [lessB, lessP]
  | x :: a, y :: b => by
    unfold lessB lessP
    by_cases h : x = y
    · rw [if_pos h, lessB_iff a b]; simp [h]
    · rw [if_neg h]; simp [h]
theorem lessB_drop {l m : Path} {i : Nat} {x y : Int} (hx : l[i]? = some x) (hy : m[i]? = some y) : lessB (l.drop i) (m.drop i) = if x = y then lessB (l.drop (i + 1)) (m.drop (i + 1)) else decide (x < y) := by
  rw [drop_at hx, drop_at hy]; rfl
theorem less_gv (s t : Sl) (l m : Path) (w : World) (hr : Rds i64v w s l) (hq : Rds i64v w t m) (hl : l.length ≤ 9223372036854775806) : Gv Try.prog 62 #[slv s, slv t] (.bool (lessB l m)) w := by
  refine culletref12_Less.run _ s t w ?_
  unfold culletref12_Less.M culletref12_Less.l1
  refine loopW_of (fun st w' => Ex w w' ∧ st.1 = s ∧ st.2.1 = t ∧ ∃ i : Nat, i ≤ l.length ∧ i ≤ m.length ∧ st.2.2.1 = (i : Int) ∧ lessB l m = lessB (l.drop i) (m.drop i)) (fun st _ => l.length - st.2.2.1.toNat) ?_
    ⟨Ex.refl w, rfl, rfl, 0, Nat.zero_le _, Nat.zero_le _, rfl, rfl⟩
  rintro k ⟨s', t', i', u⟩ w' hI hk
  dsimp only at hI hk ⊢
  obtain ⟨hx, rfl, rfl, i, hi, him, rfl, he⟩ := hI
  have h1 := hr.1
  have h2 := hq.1
  unfold culletref12_Less.b1
  have fin : ∀ b : Bool, (b = true → i < l.length ∧ i < m.length) → (b = false → ¬ (i < l.length ∧ i < m.length)) → culletref12_Less.j1 (fun en w1 => en = Ending.returned (.bool (lessB l m)) ∧ Ex w w1) k s' t' (i : Int) b w' := by
    intro b hb1 hb2
    unfold culletref12_Less.j1
    refine Cd_of (fun hb => ?_) (fun hb => ?_)
    · obtain ⟨hil, him⟩ := hb1 hb
      have hr' := (hr.ex hx).ex (Ex.drew w')
      have hq' := (hq.ex hx).ex (Ex.drew w')
      refine Pu_idx hr' tI sI (by omega) (by omega) fun a x hx1 hc1 _ => ?_
      refine RdS_same (Rd_one (c := .int .i64) (x := x) oI hc1 ?_)
      refine Pu_idx hq' tI sI (by omega) (by omega) fun a2 y hx2 hc2 _ => ?_
      refine RdS_same (Rd_one (c := .int .i64) (x := y) oI hc2 ?_)
      have hr2 := hr'.ex (Ex.drew w'.drew)
      have hq2 := hq'.ex (Ex.drew w'.drew)
      rw [Int.toNat_natCast] at hx1 hx2
      rw [lessB_drop hx1 hx2] at he
      refine Cd_ne (fun hne => ?_) (fun heq => ?_)
      · refine Pu_idx hr2 tI sI (by omega) (by omega) fun a3 x3 hx3 hc3 _ => ?_
        refine RdS_same (Rd_one (c := .int .i64) (x := x3) oI hc3 ?_)
        refine Pu_idx hq2 tI sI (by omega) (by omega) fun a4 y4 hx4 hc4 _ => ?_
        refine RdS_same (Rd_one (c := .int .i64) (x := y4) oI hc4 ?_)
        rw [Int.toNat_natCast] at hx3 hx4
        rw [hx1] at hx3
        rw [hx2] at hx4
        cases hx3
        cases hx4
        refine ⟨?_, (hx.trans (Ex.drew w')).trans (Ex.drew _)⟩
        rw [he, if_neg hne]
      · rw [wrap64 (x := (i : Int) + 1) (by omega) (by omega)]
        refine hk _ _ ⟨hx.trans (Ex.drew w'), rfl, rfl, i + 1, by omega, by omega, by simp, ?_⟩ (by simp only; omega)
        rw [he, if_pos heq]
    · have hn := hb2 hb
      refine ⟨?_, hx⟩
      rw [he, h1, h2]
      by_cases hil : i < l.length
      · have hm : m.drop i = [] := List.drop_of_length_le (by omega)
        rw [hm]
        have : ¬ ((l.length : Int) < (m.length : Int)) := by omega
        simp [lessB, this]
      · have hle : l.drop i = [] := List.drop_of_length_le (by omega)
        rw [hle]
        by_cases him2 : i < m.length
        · rw [List.drop_eq_getElem_cons him2]
          have : ((l.length : Int) < (m.length : Int)) := by omega
          simp [lessB, this]
        · have hme : m.drop i = [] := List.drop_of_length_le (by omega)
          rw [hme]
          have : ¬ ((l.length : Int) < (m.length : Int)) := by omega
          simp [lessB, this]
  refine Cd_dec (fun h => fin _ (fun h3 => ?_) (fun h3 => ?_)) (fun h => fin false (fun h3 => by cases h3) (fun _ => by omega))
  · have := of_decide_eq_true h3; omega
  · have := of_decide_eq_false h3; omega
theorem begins_gv (s t : Sl) (l q : Path) (w : World) (hr : Rds i64v w s l) (hq : Rds i64v w t q) (hl : l.length ≤ 9223372036854775806) : Gv Try.prog 37 #[slv s, slv t] (.bool (decide (q <+: l))) w := by
  refine culletref12_Begins.run _ s t w ?_
  unfold culletref12_Begins.M
  have h1 := hr.1
  have h2 := hq.1
  refine Cd_dec (fun h => ?_) (fun h => ?_)
  · refine Pu_take (n := t.len) hr tI sI (by omega) fun s2 hr2 => ?_
    rw [h2] at hr2
    refine Cl_gv (same_gv s2 t (l.take q.length) q w hr2 hq (by rw [List.length_take]; omega)) fun w1 hx1 => ⟨?_, hx1⟩
    have : (l.take q.length = q) ↔ q <+: l := by
      rw [List.prefix_iff_eq_take]
      exact eq_comm
    simp only [this]
  · have : ¬ q <+: l := fun hp => by have := hp.length_le; omega
    exact ⟨by simp [this], Ex.refl w⟩
end Go.Proofs.Ytdnlnloogfnlgaa
