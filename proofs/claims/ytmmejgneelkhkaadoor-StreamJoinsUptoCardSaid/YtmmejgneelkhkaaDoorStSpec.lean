/- Sources, sinks and splits as plain functions over plain states. -/
import Derived.Test.YtmmejgneelkhkaaDoorFrSpec
set_option linter.all false
namespace Go.Cu
structure Src where
  data : List Int
  chunks : List Int
  failAt : Int
  pos : Nat
  turns : Nat
inductive Wh where
  | ok | fin | broken | short
  deriving DecidableEq
def Src.n1 (s : Src) (n : Int) : Int := minI n ((s.data.length : Int) - (s.pos : Int))
def Src.n2 (s : Src) (n : Int) : Int := if s.failAt ≥ 0 then minI n (s.failAt - (s.pos : Int)) else n
def Src.n3 (s : Src) (n : Int) : Int := if 0 < s.chunks.length then minI n (s.chunks.getD (s.turns % s.chunks.length) 0) else n
def Src.room (s : Src) (want : Nat) : Int := s.n3 (s.n2 (s.n1 want))
def Src.step (s : Src) (n : Int) : Src × List Int × Wh :=
  if n ≤ 0 then ({ s with turns := s.turns + 1 }, [], .ok)
  else ({ s with turns := s.turns + 1, pos := s.pos + n.toNat }, (s.data.drop s.pos).take n.toNat, .ok)
def Src.read (s : Src) (want : Nat) : Src × List Int × Wh :=
  if 0 ≤ s.failAt ∧ (s.pos : Int) = s.failAt then (s, [], .broken)
  else if s.pos = s.data.length then (s, [], .fin)
  else s.step (s.room want)
def Src.fullF : Nat → Src → Nat → Nat → Src × List Int × Wh
  | 0, s, _, _ => (s, [], .ok)
  | f + 1, s, want, idle =>
    if want = 0 then (s, [], .ok)
    else
      let r := s.read want
      if r.2.2 ≠ .ok then (r.1, r.2.1, r.2.2)
      else
        let idle' := if r.2.1.length = 0 then idle + 1 else 0
        if idle' = 100 then (r.1, r.2.1, .short)
        else
          let q := Src.fullF f r.1 (want - r.2.1.length) idle'
          (q.1, r.2.1 ++ q.2.1, q.2.2)
def Src.full (s : Src) (want : Nat) : Src × List Int × Wh := Src.fullF (want * 100 + 100) s want 0
structure Src.Good (s : Src) : Prop where
  place : s.pos ≤ s.data.length
  fail : 0 ≤ s.failAt → (s.pos : Int) ≤ s.failAt
  i64 : -9223372036854775808 ≤ s.failAt ∧ s.failAt ≤ 9223372036854775807
  chk : ∀ c ∈ s.chunks, -9223372036854775808 ≤ c ∧ c ≤ 9223372036854775807
  len : s.data.length ≤ 140737488351232
  clen : s.chunks.length ≤ 140737488351232
/-- what of a source never changes -/
def Src.Like (s t : Src) : Prop := t.data = s.data ∧ t.chunks = s.chunks ∧ t.failAt = s.failAt
theorem Src.Like.refl (s : Src) : s.Like s := ⟨rfl, rfl, rfl⟩
theorem Src.Like.trans {a b c : Src} (h : a.Like b) (k : b.Like c) : a.Like c := ⟨k.1.trans h.1, k.2.1.trans h.2.1, k.2.2.trans h.2.2⟩
theorem minI_le (a b : Int) : minI a b ≤ a ∧ minI a b ≤ b := by unfold minI; split <;> omega
theorem minI_or (a b : Int) : minI a b = a ∨ minI a b = b := by unfold minI; split <;> simp
theorem room_le (s : Src) (want : Nat) : s.room want ≤ want ∧ s.room want ≤ (s.data.length : Int) - s.pos ∧ (0 ≤ s.failAt → s.room want ≤ s.failAt - s.pos) := by
  have h1 := minI_le (want : Int) ((s.data.length : Int) - (s.pos : Int))
  have h2 : s.n2 (s.n1 want) ≤ s.n1 want ∧ (0 ≤ s.failAt → s.n2 (s.n1 want) ≤ s.failAt - s.pos) := by
    unfold Src.n2
    have := minI_le (s.n1 want) (s.failAt - (s.pos : Int))
    split
    · exact ⟨this.1, fun _ => this.2⟩
    · exact ⟨Int.le_refl _, fun h => by omega⟩
  have h3 : s.room want ≤ s.n2 (s.n1 want) := by
    unfold Src.room Src.n3
    split
    · exact (minI_le _ _).1
    · exact Int.le_refl _
  have h4 : s.n1 want = minI (want : Int) ((s.data.length : Int) - (s.pos : Int)) := rfl
  exact ⟨by omega, by omega, fun h => by have := h2.2 h; omega⟩
structure Reads (s : Src) (want : Nat) (r : Src × List Int × Wh) : Prop where
  like : s.Like r.1
  good : r.1.Good
  pos : r.1.pos = s.pos + r.2.1.length
  got : r.2.1 = (s.data.drop s.pos).take r.2.1.length
  le : r.2.1.length ≤ want
  lo : s.turns ≤ r.1.turns
  no : r.2.2 = .broken → 0 ≤ s.failAt
theorem read_facts {s : Src} (hg : s.Good) (want : Nat) : Reads s want (s.read want) ∧ (s.read want).1.turns ≤ s.turns + 1 ∧ ((s.read want).2.2 ≠ .ok → (s.read want).2.1 = [] ∧ (s.read want).1 = s) ∧ (s.read want).2.2 ≠ .short := by
  unfold Src.read
  split
  · rename_i h
    exact ⟨⟨Src.Like.refl s, hg, rfl, by simp, by simp, Nat.le_refl _, fun _ => h.1⟩, by simp, fun _ => ⟨rfl, rfl⟩, by simp⟩
  · rename_i hb
    split
    · exact ⟨⟨Src.Like.refl s, hg, rfl, by simp, by simp, Nat.le_refl _, fun h => by cases h⟩, by simp, fun _ => ⟨rfl, rfl⟩, by simp⟩
    · obtain ⟨h1, h2, h3⟩ := room_le s want
      unfold Src.step
      split
      · exact ⟨⟨⟨rfl, rfl, rfl⟩, ⟨hg.place, hg.fail, hg.i64, hg.chk, hg.len, hg.clen⟩, rfl, by simp, by simp, by simp, fun h => by cases h⟩, by simp, fun h => absurd rfl h, by simp⟩
      · have hlen : ((s.data.drop s.pos).take (s.room want).toNat).length = (s.room want).toNat := by
          rw [List.length_take, List.length_drop]; omega
        refine ⟨⟨⟨rfl, rfl, rfl⟩, ⟨?_, ?_, hg.i64, hg.chk, hg.len, hg.clen⟩, ?_, ?_, ?_, by simp, fun h => by cases h⟩, by simp, fun h => absurd rfl h, by simp⟩
        · simp only; omega
        · intro h
          have := h3 h
          simp only; omega
        · simp only; rw [hlen]
        · simp only; rw [hlen]
        · simp only; rw [hlen]; omega
theorem Src.Good.of {s t : Src} (h : t.Good) : t.Good := h
theorem full_facts : ∀ (f : Nat) (s : Src) (want idle : Nat), s.Good → idle ≤ 99 →
    Reads s want (Src.fullF f s want idle) ∧ (Src.fullF f s want idle).1.turns ≤ s.turns + 100 * (Src.fullF f s want idle).2.1.length + (100 - idle) ∧
    (want * 100 + (100 - idle) ≤ f → (Src.fullF f s want idle).2.2 = .ok → (Src.fullF f s want idle).2.1.length = want) ∧
    ((Src.fullF f s want idle).2.2 ≠ .ok → (Src.fullF f s want idle).2.1.length < want) ∧ (want = 0 → (Src.fullF f s want idle).1 = s)
  | 0, s, want, idle, hg, hi => by
    simp only [Src.fullF]
    refine ⟨⟨Src.Like.refl s, hg, rfl, by simp, by simp, Nat.le_refl _, fun h => by cases h⟩, by simp, fun h => ?_, fun h => absurd rfl h, fun _ => trivial⟩
    omega
  | f + 1, s, want, idle, hg, hi => by
    by_cases hw : want = 0
    · simp only [Src.fullF, if_pos hw]
      exact ⟨⟨Src.Like.refl s, hg, rfl, by simp, by simp, Nat.le_refl _, fun h => by cases h⟩, by simp, fun _ _ => by simp [hw], fun h => absurd rfl h, fun _ => trivial⟩
    obtain ⟨hr, ht, hn, hs⟩ := read_facts hg want
    simp only [Src.fullF, if_neg hw]
    generalize s.read want = r at hr ht hn hs
    by_cases ho : r.2.2 = .ok
    · rw [if_neg (not_not_intro ho)]
      have hle := hr.le
      by_cases h0 : r.2.1.length = 0
      · rw [if_pos h0]
        have e0 : r.2.1 = [] := List.eq_nil_of_length_eq_zero h0
        by_cases h1 : idle + 1 = 100
        · rw [if_pos h1]
          refine ⟨⟨hr.like, hr.good, hr.pos, hr.got, hr.le, hr.lo, fun h => by cases h⟩, by simp only; omega, (fun _ h => by cases h), fun _ => by simp only; omega, fun h => absurd h hw⟩
        · rw [if_neg h1]
          obtain ⟨h2, h3, h4, h5, h6⟩ := full_facts f r.1 (want - r.2.1.length) (idle + 1) hr.good (by omega)
          have hp := hr.pos
          have hlo := hr.lo
          rw [e0] at h2 h3 h4 h5 h6 hp ⊢
          simp only [List.length_nil, Nat.sub_zero, Nat.add_zero, List.nil_append] at h2 h3 h4 h5 h6 hp ⊢
          refine ⟨⟨hr.like.trans h2.like, h2.good, by rw [h2.pos, hp], by rw [← hr.like.1, ← hp]; exact h2.got, h2.le, Nat.le_trans hlo h2.lo, fun h => by rw [← hr.like.2.2]; exact h2.no h⟩, by omega, fun hf ho => h4 (by omega) ho, h5, fun h => absurd h hw⟩
      · rw [if_neg h0, if_neg (by decide)]
        obtain ⟨h2, h3, h4, h5, h6⟩ := full_facts f r.1 (want - r.2.1.length) 0 hr.good (by omega)
        have hp := hr.pos
        have hlo := hr.lo
        have h2p := h2.pos
        have h2l := h2.le
        have h2o := h2.lo
        simp only
        refine ⟨⟨hr.like.trans h2.like, h2.good, ?_, ?_, ?_, by dsimp only; omega, fun h => by rw [← hr.like.2.2]; exact h2.no h⟩, ?_, fun hf ho => ?_, fun ho => ?_, fun h => absurd h hw⟩
        · simp only [List.length_append]; omega
        · have e1 := hr.got
          have e2 := h2.got
          rw [hr.like.1, hp, ← List.drop_drop] at e2
          simp only [List.length_append]
          rw [List.take_add, ← e1, ← e2]
        · simp only [List.length_append]; omega
        · simp only [List.length_append]; omega
        · have := h4 (by omega) ho
          simp only [List.length_append]; omega
        · have := h5 ho
          simp only [List.length_append]; omega
    · rw [if_pos ho]
      obtain ⟨e0, e1⟩ := hn ho
      refine ⟨⟨hr.like, hr.good, hr.pos, hr.got, hr.le, hr.lo, hr.no⟩, ?_, fun _ h => absurd h ho, fun _ => ?_, fun h => absurd h hw⟩
      · simp only; rw [e0, e1]; simp
      · simp only; rw [e0]; simp only [List.length_nil]; omega
theorem fullF_zero (f : Nat) (s : Src) (i : Nat) : Src.fullF f s 0 i = (s, [], .ok) := by cases f <;> simp [Src.fullF]
theorem fullF_stop {f : Nat} {s : Src} {want i : Nat} (hw : want ≠ 0) (ho : (s.read want).2.2 ≠ .ok) : Src.fullF (f + 1) s want i = s.read want := by
  simp only [Src.fullF, if_neg hw, if_pos ho]
theorem fullF_short {f : Nat} {s : Src} {want i : Nat} (hw : want ≠ 0) (ho : (s.read want).2.2 = .ok) (h0 : (s.read want).2.1.length = 0) (h1 : i + 1 = 100) : Src.fullF (f + 1) s want i = ((s.read want).1, (s.read want).2.1, .short) := by
  simp only [Src.fullF, if_neg hw, if_neg (not_not_intro ho), if_pos h0, if_pos h1]
theorem fullF_idle {f : Nat} {s : Src} {want i : Nat} (hw : want ≠ 0) (ho : (s.read want).2.2 = .ok) (h0 : (s.read want).2.1.length = 0) (h1 : i + 1 ≠ 100) : Src.fullF (f + 1) s want i = ((Src.fullF f (s.read want).1 want (i + 1)).1, (Src.fullF f (s.read want).1 want (i + 1)).2.1, (Src.fullF f (s.read want).1 want (i + 1)).2.2) := by
  have e : (s.read want).2.1 = [] := List.eq_nil_of_length_eq_zero h0
  simp only [Src.fullF, if_neg hw, if_neg (not_not_intro ho), if_pos h0, if_neg h1]
  rw [h0, e]; rfl
theorem fullF_go {f : Nat} {s : Src} {want i : Nat} (hw : want ≠ 0) (ho : (s.read want).2.2 = .ok) (h0 : (s.read want).2.1.length ≠ 0) : Src.fullF (f + 1) s want i =
    ((Src.fullF f (s.read want).1 (want - (s.read want).2.1.length) 0).1, (s.read want).2.1 ++ (Src.fullF f (s.read want).1 (want - (s.read want).2.1.length) 0).2.1, (Src.fullF f (s.read want).1 (want - (s.read want).2.1.length) 0).2.2) := by
  simp only [Src.fullF, if_neg hw, if_neg (not_not_intro ho), if_neg h0]
  rw [if_neg (by decide)]
structure Snk where
  failAt : Int
  got : List Int
def Snk.put (s : Snk) (p : List Int) : Snk × Bool :=
  if 0 ≤ s.failAt ∧ s.failAt - (s.got.length : Int) < (p.length : Int) then ({ s with got := s.got ++ p.take (s.failAt - (s.got.length : Int)).toNat }, false)
  else ({ s with got := s.got ++ p }, true)
structure Snk.Good (s : Snk) : Prop where
  fail : 0 ≤ s.failAt → (s.got.length : Int) ≤ s.failAt
  i64 : -9223372036854775808 ≤ s.failAt ∧ s.failAt ≤ 9223372036854775807
theorem put_facts {s : Snk} (hg : s.Good) (p : List Int) : (s.put p).1.Good ∧ (s.put p).1.failAt = s.failAt ∧ (s.put p).1.got.length ≤ s.got.length + p.length ∧ ((s.put p).2 = false → 0 ≤ s.failAt) := by
  unfold Snk.put
  split
  · rename_i h
    have := hg.fail h.1
    refine ⟨⟨fun _ => ?_, hg.i64⟩, rfl, ?_, fun _ => h.1⟩
    · simp only [List.length_append, List.length_take]; omega
    · simp only [List.length_append, List.length_take]; omega
  · rename_i h
    refine ⟨⟨fun h0 => ?_, hg.i64⟩, rfl, by simp, fun h => by cases h⟩
    have h0 : 0 ≤ s.failAt := h0
    simp only [List.length_append]; omega
inductive Res where
  | done | no (n : Int) | src (i : Nat) | snk (i : Nat)
/-- one sink's blocks -/
def inF (block len i : Nat) : Nat → Nat → Nat → Src → Snk → Src × Snk × Nat × Option Res
  | 0, _, left, s, d => (s, d, left, none)
  | f + 1, at_, left, s, d =>
    if len ≤ at_ then (s, d, left, none)
    else
      let piece := min block (len - at_)
      let want := min left piece
      let q := s.full want
      match q.2.2 with
      | .broken => (q.1, d, left, some (.src 0))
      | .fin => (q.1, d, left, some (.no 240))
      | .short => (q.1, d, left, some (.no 240))
      | .ok =>
        let e := d.put (q.2.1 ++ List.replicate (piece - want) 0)
        if e.2 = true then inF block len i f (at_ + block) (left - want) q.1 e.1 else (q.1, e.1, left - want, some (.snk i))
/-- all sinks -/
def outF (block len : Nat) : Nat → Nat → Src → List Snk → Src × List Snk × Res
  | _, _, s, [] => (s, [], .done)
  | i, left, s, d :: ds =>
    let r := inF block len i (len + 1) 0 left s d
    match r.2.2.2 with
    | some e => (r.1, r.2.1 :: ds, e)
    | none =>
      let q := outF block len (i + 1) r.2.2.1 r.1 ds
      (q.1, r.2.1 :: q.2.1, q.2.2)
def fitsF (f k m block : Int) : Bool := decide (1 ≤ block ∧ block ≤ 1048576 ∧ (f ≠ 2 ∨ Int.tmod block 2 = 0) ∧ (k + m) * block ≤ 67108864)
/-- the error with which a call ends early; 0: it goes on -/
def earlyF (made : Bool) (f k m block total : Int) (whole : Bool) (n : Nat) : Int :=
  if made = false ∨ whole = false then 1
  else if (n : Int) ≠ k then 160
  else if fitsF f k m block = false then 241
  else (lengthF f k m total).2
end Go.Cu
