/- How many lists begin a key: the plain law. -/
import Derived.Test.YtdnlnloogfnlgaaTrOa
set_option linter.all false
namespace Go.Proofs.Ytdnlnloogfnlgaa
open Go Go.Cu Go.RowKit
set_option linter.unusedVariables false
set_option maxHeartbeats 4000000
theorem less_between : ∀ (q a b c : Path), q <+: a → q <+: c → lessP a b → lessP b c → q <+: b
  | [], _, _, _, _, _, _, _ => List.nil_prefix
  | x :: q, a, b, c, h1, h2, h3, h4 => by
    obtain ⟨a', rfl⟩ := h1
    obtain ⟨c', rfl⟩ := h2
    cases b with
    | nil => exact h3.elim
    | cons y b =>
      rw [List.cons_append] at h3 h4
      have g3 : x < y ∨ (x = y ∧ lessP (q ++ a') b) := h3
      have g4 : y < x ∨ (y = x ∧ lessP b (q ++ c')) := h4
      clear h3 h4
      rcases g3 with g3 | ⟨e3, g3⟩
      · rcases g4 with g4 | ⟨e4, _⟩ <;> omega
      · rcases g4 with g4 | ⟨_, g4⟩
        · omega
        · rw [List.cons_prefix_cons]
          exact ⟨e3, less_between q _ b _ (List.prefix_append _ _) (List.prefix_append _ _) g3 g4⟩
/-- how long two lists are the same -/
def com : Path → Path → Nat
  | x :: a, y :: b => if x = y then com a b + 1 else 0
  | _, _ => 0
theorem com_le : ∀ a b : Path, com a b ≤ a.length ∧ com a b ≤ b.length
  | [], b => by simp [com]
  | _ :: _, [] => by simp [com]
  | x :: a, y :: b => by
    have := com_le a b
    unfold com
    split
    · simp only [List.length_cons]; omega
    · simp
theorem com_prefix : ∀ (q a b : Path), q <+: b → (q <+: a ↔ q.length ≤ com a b)
  | [], a, b, _ => by simp
  | x :: q, a, b, h => by
    obtain ⟨b', rfl⟩ := h
    cases a with
    | nil => simp [com]
    | cons y a =>
      rw [List.cons_append, List.cons_prefix_cons]
      unfold com
      by_cases hxy : y = x
      · subst hxy
        rw [if_pos rfl, com_prefix q a (q ++ b') (List.prefix_append _ _), List.length_cons]
        constructor
        · rintro ⟨_, h⟩; omega
        · intro h; exact ⟨rfl, by omega⟩
      · rw [if_neg hxy]
        constructor
        · rintro ⟨h, _⟩; exact absurd h.symm hxy
        · intro h; simp at h
def newP (prev k : Path) : List Path := (List.range' (com prev k + 1) (k.length - com prev k)).map fun n => k.take n
theorem newP_len (prev k : Path) : (newP prev k).length = k.length - com prev k := by simp [newP]
theorem mem_newP {prev k q : Path} : q ∈ newP prev k ↔ q <+: k ∧ ¬ q <+: prev := by
  have hc := (com_le prev k).2
  unfold newP
  rw [List.mem_map]
  constructor
  · rintro ⟨n, hn, rfl⟩
    rw [List.mem_range'_1] at hn
    refine ⟨List.take_prefix _ _, fun hp => ?_⟩
    have := (com_prefix (k.take n) prev k (List.take_prefix _ _)).1 hp
    rw [List.length_take] at this
    omega
  · rintro ⟨h1, h2⟩
    have hl := h1.length_le
    have : ¬ q.length ≤ com prev k := fun h => h2 ((com_prefix q prev k h1).2 h)
    exact ⟨q.length, List.mem_range'_1.2 (by omega), (List.prefix_iff_eq_take.1 h1).symm⟩
theorem newP_nodup (prev k : Path) : (newP prev k).Nodup := by
  have hc := (com_le prev k).2
  unfold newP List.Nodup
  rw [List.pairwise_map]
  have hp : (List.range' (com prev k + 1) (k.length - com prev k)).Pairwise (· < ·) := List.pairwise_lt_range'
  refine List.Pairwise.imp_of_mem ?_ hp
  intro a b ha hb hab he
  rw [List.mem_range'_1] at ha hb
  have := congrArg List.length he
  rw [List.length_take, List.length_take] at this
  omega
def allP : Path → List Path → List Path
  | _, [] => []
  | prev, k :: r => newP prev k ++ allP k r
theorem mem_allP : ∀ (ks : List Path) (prev q : Path), ks.Pairwise lessP → (prev = [] ∨ ∀ x ∈ ks, lessP prev x) → (q ∈ allP prev ks ↔ q ≠ [] ∧ ¬ q <+: prev ∧ ∃ k ∈ ks, q <+: k)
  | [], prev, q, _, _ => by simp [allP]
  | k :: r, prev, q, hs, hp => by
    rw [List.pairwise_cons] at hs
    unfold allP
    rw [List.mem_append, mem_newP, mem_allP r k q hs.2 (.inr hs.1)]
    constructor
    · rintro (⟨h1, h2⟩ | ⟨h1, h2, k', hk', h3⟩)
      · exact ⟨fun e => h2 (by rw [e]; exact List.nil_prefix), h2, k, List.mem_cons_self, h1⟩
      · refine ⟨h1, fun h => ?_, k', List.mem_cons_of_mem _ hk', h3⟩
        rcases hp with rfl | hp
        · exact h1 (List.prefix_nil.1 h)
        · exact h2 (less_between q prev k k' h h3 (hp k List.mem_cons_self) (hs.1 k' hk'))
    · rintro ⟨h1, h2, k', hk', h3⟩
      rcases List.mem_cons.1 hk' with rfl | hk'
      · exact .inl ⟨h3, h2⟩
      · by_cases hqk : q <+: k
        · exact .inl ⟨hqk, h2⟩
        · exact .inr ⟨h1, hqk, k', hk', h3⟩
theorem allP_nodup : ∀ (ks : List Path) (prev : Path), ks.Pairwise lessP → (prev = [] ∨ ∀ x ∈ ks, lessP prev x) → (allP prev ks).Nodup
  | [], _, _, _ => List.nodup_nil
  | k :: r, prev, hs, hp => by
    rw [List.pairwise_cons] at hs
    unfold allP
    rw [List.nodup_append]
    refine ⟨newP_nodup _ _, allP_nodup r k hs.2 (.inr hs.1), fun a ha b hb e => ?_⟩
    subst e
    exact ((mem_allP r k a hs.2 (.inr hs.1)).1 hb).2.1 (mem_newP.1 ha).1
/-- sorted keys: as many new beginnings as there are beginnings -/
theorem begun_len {ks : List Path} {L : List Path} (hs : ks.Pairwise lessP) (h : Begun ks L) : (allP [] ks).length = L.length := by
  have h1 := allP_nodup ks [] hs (.inl rfl)
  have hm : ∀ q, q ∈ allP [] ks ↔ q ∈ L := fun q => by
    rw [mem_allP ks [] q hs (.inl rfl), h.2 q]
    constructor
    · rintro ⟨a, _, b⟩; exact ⟨a, b⟩
    · rintro ⟨a, b⟩; exact ⟨a, fun h => a (List.prefix_nil.1 h), b⟩
  have a := nodup_sub_len _ _ h1 (fun q hq => (hm q).1 hq)
  have b := nodup_sub_len _ _ h.1 (fun q hq => (hm q).2 hq)
  omega
theorem Begun.congr {ks ks' L : List Path} (h : Begun ks L) (hm : ∀ k, k ∈ ks ↔ k ∈ ks') : Begun ks' L :=
  ⟨h.1, fun q => (h.2 q).trans ⟨fun ⟨a, k, b, c⟩ => ⟨a, k, (hm k).1 b, c⟩, fun ⟨a, k, b, c⟩ => ⟨a, k, (hm k).2 b, c⟩⟩⟩
theorem less_trans : ∀ a b c : Path, lessP a b → lessP b c → lessP a c
  | [], [], _, h, _ => False.elim h
  | _ :: _, [], _, h, _ => False.elim h
  | _, _ :: _, [], _, h => False.elim h
  | [], _ :: _, _ :: _, _, _ => trivial
  | x :: a, y :: b, z :: c, h1, h2 => by
    have g1 : x < y ∨ (x = y ∧ lessP a b) := h1
    have g2 : y < z ∨ (y = z ∧ lessP b c) := h2
    clear h1 h2
    show x < z ∨ (x = z ∧ lessP a c)
    rcases g1 with g1 | ⟨e1, g1⟩
    · rcases g2 with g2 | ⟨e2, g2⟩
      · exact .inl (by omega)
      · exact .inl (by omega)
    · rcases g2 with g2 | ⟨e2, g2⟩
      · exact .inl (by omega)
      · exact .inr ⟨by omega, less_trans a b c g1 g2⟩
theorem less_tri : ∀ a b : Path, ¬ lessP a b → a ≠ b → lessP b a
  | [], [], _, h => absurd rfl h
  | [], _ :: _, h, _ => absurd trivial h
  | _ :: _, [], _, _ => trivial
  | x :: a, y :: b, h, hne => by
    show y < x ∨ (y = x ∧ lessP b a)
    have g : ¬ (x < y ∨ (x = y ∧ lessP a b)) := h
    clear h
    by_cases hxy : x = y
    · subst hxy
      exact .inr ⟨rfl, less_tri a b (fun g' => g (.inr ⟨rfl, g'⟩)) (fun e => hne (by rw [e]))⟩
    · by_cases hl : y < x
      · exact .inl hl
      · exact absurd (.inl (by omega)) g
/-- sorted lists of the same keys are the same -/
theorem sorted_unique : ∀ l m : List Path, l.Pairwise lessP → m.Pairwise lessP → (∀ x, x ∈ l ↔ x ∈ m) → l = m
  | [], [], _, _, _ => rfl
  | [], y :: m, _, _, h => by have := (h y).2 List.mem_cons_self; simp at this
  | x :: l, [], _, _, h => by have := (h x).1 List.mem_cons_self; simp at this
  | x :: l, y :: m, hl, hm, h => by
    rw [List.pairwise_cons] at hl hm
    have hxy : x = y := by
      rcases List.mem_cons.1 ((h x).1 List.mem_cons_self) with e | hx
      · exact e
      · rcases List.mem_cons.1 ((h y).2 List.mem_cons_self) with e | hy
        · exact e.symm
        · exact absurd (less_trans _ _ _ (hm.1 x hx) (hl.1 y hy)) (less_irr _)
    subst hxy
    congr 1
    refine sorted_unique l m hl.2 hm.2 fun z => ?_
    constructor
    · intro hz
      rcases List.mem_cons.1 ((h z).1 (List.mem_cons_of_mem _ hz)) with e | hz'
      · subst e; exact absurd (hl.1 z hz) (less_irr _)
      · exact hz'
    · intro hz
      rcases List.mem_cons.1 ((h z).2 (List.mem_cons_of_mem _ hz)) with e | hz'
      · subst e; exact absurd (hm.1 z hz) (less_irr _)
      · exact hz'
end Go.Proofs.Ytdnlnloogfnlgaa
