/- What of sources and sinks stays good through a split. -/
import Derived.Test.YtmmejgneelkhkaaDoorStSpec
set_option linter.all false
namespace Go.Cu
theorem full_reads {s : Src} (hg : s.Good) (want : Nat) : Reads s want (s.full want) ∧ (s.full want).1.turns ≤ s.turns + 100 * (s.full want).2.1.length + 100 ∧ ((s.full want).2.2 = .ok → (s.full want).2.1.length = want) ∧ (want = 0 → (s.full want).1 = s) := by
  obtain ⟨a1, a2, a3, a4, a5⟩ := full_facts (want * 100 + 100) s want 0 hg (by omega)
  exact ⟨a1, a2, fun h => a3 (by omega) h, a5⟩
structure InOk (s : Src) (d : Snk) (len left i : Nat) (r : Src × Snk × Nat × Option Res) : Prop where
  like : s.Like r.1
  good : r.1.Good
  turns : r.1.turns + 200 * r.2.2.1 ≤ s.turns + 200 * left ∨ (r.2.2.2 ≠ none ∧ r.1.turns ≤ s.turns + 200 * left + 200)
  left : r.2.2.1 ≤ left
  dgood : r.2.1.Good
  dfail : r.2.1.failAt = d.failAt
  dlen : r.2.1.got.length ≤ d.got.length + len
  src : ∀ j, r.2.2.2 = some (.src j) → j = 0 ∧ 0 ≤ s.failAt
  snk : ∀ j, r.2.2.2 = some (.snk j) → j = i ∧ 0 ≤ d.failAt
theorem inF_ok {block len i : Nat} (hb : 1 ≤ block) : ∀ (f at_ left : Nat) (s : Src) (d : Snk), s.Good → d.Good → InOk s d (len - at_) left i (inF block len i f at_ left s d)
  | 0, at_, left, s, d, hs, hd => by
    simp only [inF]
    exact ⟨Src.Like.refl s, hs, .inl (Nat.le_refl _), Nat.le_refl _, hd, rfl, by simp, fun _ h => (by cases h), fun _ h => (by cases h)⟩
  | f + 1, at_, left, s, d, hs, hd => by
    simp only [inF]
    split
    · exact ⟨Src.Like.refl s, hs, .inl (Nat.le_refl _), Nat.le_refl _, hd, rfl, by simp, fun _ h => (by cases h), fun _ h => (by cases h)⟩
    rename_i hat
    have hm1 : min block (len - at_) ≤ len - at_ := Nat.min_le_right _ _
    have hm4 : len - (at_ + block) + min block (len - at_) = len - at_ := by omega
    generalize min block (len - at_) = m at hm1 hm4
    have hw1 : min left m ≤ left := Nat.min_le_left _ _
    have hw2 : min left m ≤ m := Nat.min_le_right _ _
    generalize min left m = want at hw1 hw2
    obtain ⟨h1, h2, h3, h4⟩ := full_reads hs want
    generalize s.full want = q at h1 h2 h3 h4
    have hle := h1.le
    have early : ∀ e : Res, (∀ j, e = .src j → j = 0 ∧ 0 ≤ s.failAt) → (∀ j, e ≠ .snk j) → InOk s d (len - at_) left i (q.1, d, left, some e) := fun e he hk =>
      ⟨h1.like, h1.good, .inr ⟨by simp, by simp only; omega⟩, Nat.le_refl _, hd, rfl, by simp, fun j h => he j (Option.some.inj h), fun j h => absurd (Option.some.inj h) (hk j)⟩
    cases hq : q.2.2 with
    | broken => exact early _ (fun j h => by cases h; exact ⟨rfl, h1.no hq⟩) (fun j h => by cases h)
    | fin => exact early _ (fun j h => by cases h) (fun j h => by cases h)
    | short => exact early _ (fun j h => by cases h) (fun j h => by cases h)
    | ok =>
      have hql := h3 hq
      simp only
      have hpl : (q.2.1 ++ List.replicate (m - want) (0 : Int)).length = m := by rw [List.length_append, List.length_replicate]; omega
      obtain ⟨p1, p2, p3, p4⟩ := put_facts hd (q.2.1 ++ List.replicate (m - want) (0 : Int))
      rw [hpl] at p3
      generalize d.put (q.2.1 ++ List.replicate (m - want) (0 : Int)) = e at p1 p2 p3 p4
      have hturn : q.1.turns + 200 * (left - want) ≤ s.turns + 200 * left := by
        by_cases hw0 : want = 0
        · rw [h4 hw0, hw0]; simp
        · omega
      split
      · have ih := inF_ok (len := len) (i := i) hb f (at_ + block) (left - want) q.1 e.1 h1.good p1
        refine ⟨h1.like.trans ih.like, ih.good, ?_, Nat.le_trans ih.left (Nat.sub_le _ _), ih.dgood, ih.dfail.trans p2, ?_, fun j h => ?_, fun j h => ?_⟩
        · rcases ih.turns with h | ⟨h, h'⟩
          · exact .inl (by omega)
          · exact .inr ⟨h, by omega⟩
        · have := ih.dlen; omega
        · have := ih.src j h; rw [h1.like.2.2] at this; exact this
        · have := ih.snk j h; rw [p2] at this; exact this
      · rename_i hb'
        refine ⟨h1.like, h1.good, .inl hturn, Nat.sub_le _ _, p1, p2, by simp only; omega, fun j h => (by cases h), fun j h => ?_⟩
        cases h
        exact ⟨rfl, p4 (by simpa using hb')⟩
structure OutOk (s : Src) (ds : List Snk) (len left i : Nat) (r : Src × List Snk × Res) : Prop where
  like : s.Like r.1
  good : r.1.Good
  turns : r.1.turns ≤ s.turns + 200 * left + 200
  length : r.2.1.length = ds.length
  snks : ∀ (j : Nat) (d d' : Snk), ds[j]? = some d → r.2.1[j]? = some d' → d'.Good ∧ d'.failAt = d.failAt ∧ d'.got.length ≤ d.got.length + len
  src : ∀ j, r.2.2 = .src j → j = 0 ∧ 0 ≤ s.failAt
  snk : ∀ j, r.2.2 = .snk j → ∃ (l : Nat) (d : Snk), j = i + l ∧ ds[l]? = some d ∧ 0 ≤ d.failAt
theorem outF_ok {block len : Nat} (hb : 1 ≤ block) : ∀ (ds : List Snk) (i left : Nat) (s : Src), s.Good → (∀ d ∈ ds, d.Good) → OutOk s ds len left i (outF block len i left s ds)
  | [], i, left, s, hs, hd => by
    simp only [outF]
    exact ⟨Src.Like.refl s, hs, by simp only; omega, rfl, fun j d d' h => by simp at h, fun j h => (by cases h), fun j h => (by cases h)⟩
  | d :: ds, i, left, s, hs, hd => by
    simp only [outF]
    have ih := inF_ok (len := len) (i := i) hb (len + 1) 0 left s d hs (hd d (by simp))
    rw [Nat.sub_zero] at ih
    generalize inF block len i (len + 1) 0 left s d = r at ih
    cases hr : r.2.2.2 with
    | some e =>
      simp only
      refine ⟨ih.like, ih.good, ?_, by simp, fun j x x' h h' => ?_, fun j h => ih.src j (by rw [hr]; exact congrArg some h), fun j h => ?_⟩
      · rcases ih.turns with h | ⟨_, h⟩
        · simp only; omega
        · exact h
      · cases j with
        | zero =>
          simp only [List.getElem?_cons_zero, Option.some.injEq] at h h'
          subst h h'
          exact ⟨ih.dgood, ih.dfail, ih.dlen⟩
        | succ j =>
          simp only [List.getElem?_cons_succ] at h h'
          rw [h] at h'
          cases h'
          exact ⟨hd x (List.mem_cons_of_mem _ (List.mem_of_getElem? h)), rfl, by omega⟩
      · obtain ⟨h1, h2⟩ := ih.snk j (by rw [hr]; exact congrArg some h)
        exact ⟨0, d, by omega, rfl, h2⟩
    | none =>
      simp only
      have ih2 := outF_ok (len := len) hb ds (i + 1) r.2.2.1 r.1 ih.good (fun x hx => hd x (List.mem_cons_of_mem _ hx))
      refine ⟨ih.like.trans ih2.like, ih2.good, ?_, by simp [ih2.length], fun j x x' h h' => ?_, fun j h => ?_, fun j h => ?_⟩
      · have h2 := ih2.turns
        rcases ih.turns with h | ⟨h, _⟩
        · simp only; omega
        · exact absurd hr h
      · cases j with
        | zero =>
          simp only [List.getElem?_cons_zero, Option.some.injEq] at h h'
          subst h h'
          exact ⟨ih.dgood, ih.dfail, ih.dlen⟩
        | succ j =>
          simp only [List.getElem?_cons_succ] at h h'
          exact ih2.snks j x x' h h'
      · have := ih2.src j h; rw [ih.like.2.2] at this; exact this
      · obtain ⟨l, x, h1, h2, h3⟩ := ih2.snk j h
        exact ⟨l + 1, x, by omega, h2, h3⟩
end Go.Cu
