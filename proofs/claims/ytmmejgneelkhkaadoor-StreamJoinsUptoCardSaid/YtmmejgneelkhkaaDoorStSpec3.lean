/- Joins as plain functions over plain states, and what stays good through them. -/
import Derived.Test.YtmmejgneelkhkaaDoorStSpec2
set_option linter.all false
namespace Go.Cu
/-- one source's blocks -/
def jonF (block i : Nat) : Nat → Nat → Src → Snk → Src × Snk × Nat × Option Res
  | 0, left, s, d => (s, d, left, none)
  | f + 1, left, s, d =>
    if left = 0 then (s, d, left, none)
    else
      let q := s.full (min block left)
      match q.2.2 with
      | .broken => (q.1, d, left, some (.src i))
      | .short => (q.1, d, left, some (.no 240))
      | .fin =>
        let e := d.put q.2.1
        if e.2 = true then (q.1, e.1, left - q.2.1.length, none) else (q.1, e.1, left - q.2.1.length, some (.snk 0))
      | .ok =>
        let e := d.put q.2.1
        if e.2 = true then jonF block i f (left - q.2.1.length) q.1 e.1 else (q.1, e.1, left - q.2.1.length, some (.snk 0))
/-- all sources -/
def joinF (block : Nat) : Nat → Nat → Snk → List Src → List Src × Snk × Res
  | _, left, d, [] => ([], d, if 0 < left then .no 240 else .done)
  | i, left, d, s :: ss =>
    let r := jonF block i (left + 1) left s d
    match r.2.2.2 with
    | some e => (r.1 :: ss, r.2.1, e)
    | none =>
      let q := joinF block (i + 1) r.2.2.1 r.2.1 ss
      (r.1 :: q.1, q.2.1, q.2.2)
/-- the error with which a call ends early; 0: it goes on -/
def earlyJ (made : Bool) (f k m block total : Int) (whole : Bool) (n : Nat) : Int :=
  if made = false ∨ whole = false then 1
  else if (n : Int) ≠ k then 160
  else if fitsF f k m block = false then 241
  else if total < 1 then 164
  else 0
structure JonOk (s : Src) (d : Snk) (left i : Nat) (r : Src × Snk × Nat × Option Res) : Prop where
  like : s.Like r.1
  good : r.1.Good
  turns : r.1.turns + 200 * s.pos ≤ s.turns + 200 * r.1.pos + 200
  left : r.2.2.1 ≤ left
  dgood : r.2.1.Good
  dfail : r.2.1.failAt = d.failAt
  dlen : r.2.1.got.length + s.pos ≤ d.got.length + r.1.pos
  src : ∀ j, r.2.2.2 = some (.src j) → j = i ∧ 0 ≤ s.failAt
  snk : ∀ j, r.2.2.2 = some (.snk j) → j = 0 ∧ 0 ≤ d.failAt
theorem jonF_ok {block i : Nat} (hb : 1 ≤ block) : ∀ (f left : Nat) (s : Src) (d : Snk), s.Good → d.Good → JonOk s d left i (jonF block i f left s d)
  | 0, left, s, d, hs, hd => by
    simp only [jonF]
    exact ⟨Src.Like.refl s, hs, by simp only; omega, Nat.le_refl _, hd, rfl, by simp only; omega, fun _ h => (by cases h), fun _ h => (by cases h)⟩
  | f + 1, left, s, d, hs, hd => by
    simp only [jonF]
    split
    · exact ⟨Src.Like.refl s, hs, by simp only; omega, Nat.le_refl _, hd, rfl, by simp only; omega, fun _ h => (by cases h), fun _ h => (by cases h)⟩
    rename_i hl
    have hw1 : 1 ≤ min block left := by omega
    have hw2 : min block left ≤ left := Nat.min_le_right _ _
    generalize min block left = want at hw1 hw2
    obtain ⟨h1, h2, h3, h4⟩ := full_reads hs want
    generalize s.full want = q at h1 h2 h3 h4
    have hle := h1.le
    have hpos := h1.pos
    have early : ∀ e : Res, (∀ j, e = .src j → j = i ∧ 0 ≤ s.failAt) → (∀ j, e ≠ .snk j) → JonOk s d left i (q.1, d, left, some e) := fun e he hk =>
      ⟨h1.like, h1.good, by simp only; omega, Nat.le_refl _, hd, rfl, by simp only; omega, fun j h => he j (Option.some.inj h), fun j h => absurd (Option.some.inj h) (hk j)⟩
    obtain ⟨p1, p2, p3, p4⟩ := put_facts hd q.2.1
    cases hq : q.2.2 with
    | broken => exact early _ (fun j h => by cases h; exact ⟨rfl, h1.no hq⟩) (fun j h => by cases h)
    | short => exact early _ (fun j h => by cases h) (fun j h => by cases h)
    | fin =>
      simp only
      generalize d.put q.2.1 = e at p1 p2 p3 p4
      split
      · exact ⟨h1.like, h1.good, by simp only; omega, Nat.sub_le _ _, p1, p2, by simp only; omega, fun j h => (by cases h), fun j h => (by cases h)⟩
      · rename_i hb'
        exact ⟨h1.like, h1.good, by simp only; omega, Nat.sub_le _ _, p1, p2, by simp only; omega, fun j h => (by cases h), fun j h => by cases h; exact ⟨rfl, p4 (by simpa using hb')⟩⟩
    | ok =>
      have hql := h3 hq
      simp only
      generalize d.put q.2.1 = e at p1 p2 p3 p4
      split
      · have ih := jonF_ok (i := i) hb f (left - q.2.1.length) q.1 e.1 h1.good p1
        have t1 := ih.turns
        have t2 := ih.dlen
        refine ⟨h1.like.trans ih.like, ih.good, by omega, Nat.le_trans ih.left (Nat.sub_le _ _), ih.dgood, ih.dfail.trans p2, by omega, fun j h => ?_, fun j h => ?_⟩
        · have := ih.src j h; rw [h1.like.2.2] at this; exact this
        · have := ih.snk j h; rw [p2] at this; exact this
      · rename_i hb'
        exact ⟨h1.like, h1.good, by simp only; omega, Nat.sub_le _ _, p1, p2, by simp only; omega, fun j h => (by cases h), fun j h => by cases h; exact ⟨rfl, p4 (by simpa using hb')⟩⟩
structure JoinOk (ss : List Src) (d : Snk) (i : Nat) (r : List Src × Snk × Res) : Prop where
  length : r.1.length = ss.length
  srcs : ∀ (j : Nat) (s s' : Src), ss[j]? = some s → r.1[j]? = some s' → s.Like s' ∧ s'.Good ∧ s'.turns ≤ s.turns + 200 * s.data.length + 200
  dgood : r.2.1.Good
  dfail : r.2.1.failAt = d.failAt
  dlen : r.2.1.got.length ≤ d.got.length + ss.length * 1048576
  src : ∀ j, r.2.2 = .src j → ∃ (l : Nat) (s : Src), j = i + l ∧ ss[l]? = some s ∧ 0 ≤ s.failAt
  snk : ∀ j, r.2.2 = .snk j → j = 0 ∧ 0 ≤ d.failAt
theorem joinF_ok {block : Nat} (hb : 1 ≤ block) : ∀ (ss : List Src) (i left : Nat) (d : Snk), d.Good → (∀ s ∈ ss, s.Good ∧ s.data.length ≤ 1048576) → JoinOk ss d i (joinF block i left d ss)
  | [], i, left, d, hd, hs => by
    simp only [joinF]
    refine ⟨rfl, fun j s s' h => by simp at h, hd, rfl, by simp, fun j h => ?_, fun j h => ?_⟩
    · dsimp only at h; split at h <;> cases h
    · dsimp only at h; split at h <;> cases h
  | s :: ss, i, left, d, hd, hs => by
    simp only [joinF]
    obtain ⟨hg, hlen⟩ := hs s (by simp)
    have ih := jonF_ok (i := i) hb (left + 1) left s d hg hd
    generalize jonF block i (left + 1) left s d = r at ih
    have hp := ih.good.place
    rw [ih.like.1] at hp
    have ht := ih.turns
    have hdl := ih.dlen
    have one : s.Like r.1 ∧ r.1.Good ∧ r.1.turns ≤ s.turns + 200 * s.data.length + 200 := ⟨ih.like, ih.good, by omega⟩
    cases hr : r.2.2.2 with
    | some e =>
      simp only
      refine ⟨by simp, fun j x x' h h' => ?_, ih.dgood, ih.dfail, by simp only [List.length_cons]; omega, fun j h => ?_, fun j h => ih.snk j (by rw [hr]; exact congrArg some h)⟩
      · cases j with
        | zero =>
          simp only [List.getElem?_cons_zero, Option.some.injEq] at h h'
          subst h h'
          exact one
        | succ j =>
          simp only [List.getElem?_cons_succ] at h h'
          rw [h] at h'
          cases h'
          exact ⟨Src.Like.refl _, (hs x (List.mem_cons_of_mem _ (List.mem_of_getElem? h))).1, by omega⟩
      · obtain ⟨h1, h2⟩ := ih.src j (by rw [hr]; exact congrArg some h)
        exact ⟨0, s, by omega, rfl, h2⟩
    | none =>
      simp only
      have ih2 := joinF_ok hb ss (i + 1) r.2.2.1 r.2.1 ih.dgood (fun x hx => hs x (List.mem_cons_of_mem _ hx))
      have hdl2 := ih2.dlen
      refine ⟨by simp [ih2.length], fun j x x' h h' => ?_, ih2.dgood, ih2.dfail.trans ih.dfail, by simp only [List.length_cons]; omega, fun j h => ?_, fun j h => ?_⟩
      · cases j with
        | zero =>
          simp only [List.getElem?_cons_zero, Option.some.injEq] at h h'
          subst h h'
          exact one
        | succ j =>
          simp only [List.getElem?_cons_succ] at h h'
          exact ih2.srcs j x x' h h'
      · obtain ⟨l, x, h1, h2, h3⟩ := ih2.src j h
        exact ⟨l + 1, x, by omega, h2, h3⟩
      · have := ih2.snk j h; rw [ih.dfail] at this; exact this
end Go.Cu
