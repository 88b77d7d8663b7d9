/- The document's order of keys, and beginnings. -/
import Derived.Test.YtdnlnloogfnlgaaTrU
import Derived.Test.YtdnlnloogfnlgaaSetLib
set_option linter.all false
namespace Go.Proofs.Ytdnlnloogfnlgaa
open Go Go.Cu Go.RowKit
set_option linter.unusedVariables false
set_option maxHeartbeats 4000000
def lessB : Path → Path → Bool
  | _, [] => false
  | [], _ :: _ => true
  | x :: a, y :: b => if x = y then lessB a b else decide (x < y)
theorem lessB_iff : ∀ a b : Path, lessB a b = true ↔ lessP a b
  | [], [] => by simp [lessB, lessP]
  | _ :: _, [] => by simp [lessB, lessP]
  | [], _ :: _ => by simp [lessB, lessP]
  | x :: a, y :: b => by
    unfold lessB lessP
    by_cases h : x = y
    · rw [if_pos h, lessB_iff a b]; simp [h]
    · rw [if_neg h]; simp [h]
theorem lessB_drop {l m : Path} {i : Nat} {x y : Int} (hx : l[i]? = some x) (hy : m[i]? = some y) : lessB (l.drop i) (m.drop i) = if x = y then lessB (l.drop (i + 1)) (m.drop (i + 1)) else decide (x < y) := by
  rw [drop_at hx, drop_at hy]; rfl
theorem less_gv (s t : Sl) (l m : Path) (w : World) (hr : Rds i64v w s l) (hq : Rds i64v w t m) (hl : l.length ≤ 9223372036854775806) : Gv Try.prog 62 #[slv s, slv t] (.bool (lessB l m)) w := by
  refine culletref12_Less.run _ s t w ?_
  unfold culletref12_Less.M culletref12_Less.l1
  refine loopW_of (fun st w' => Ex w w' ∧ st.1 = s ∧ st.2.1 = t ∧ ∃ i : Nat, i ≤ l.length ∧ i ≤ m.length ∧ st.2.2.1 = (i : Int) ∧ lessB l m = lessB (l.drop i) (m.drop i)) (fun st _ => l.length - st.2.2.1.toNat) ?_
    ⟨Ex.refl w, rfl, rfl, 0, Nat.zero_le _, Nat.zero_le _, rfl, rfl⟩
  rintro k ⟨s', t', i', u⟩ w' hI hk
  dsimp only at hI hk ⊢
  obtain ⟨hx, rfl, rfl, i, hi, him, rfl, he⟩ := hI
  have h1 := hr.1
  have h2 := hq.1
  unfold culletref12_Less.b1
  have fin : ∀ b : Bool, (b = true → i < l.length ∧ i < m.length) → (b = false → ¬ (i < l.length ∧ i < m.length)) → culletref12_Less.j1 (fun en w1 => en = Ending.returned (.bool (lessB l m)) ∧ Ex w w1) k s' t' (i : Int) b w' := by
    intro b hb1 hb2
    unfold culletref12_Less.j1
    refine Cd_of (fun hb => ?_) (fun hb => ?_)
    · obtain ⟨hil, him⟩ := hb1 hb
      have hr' := (hr.ex hx).ex (Ex.drew w')
      have hq' := (hq.ex hx).ex (Ex.drew w')
      refine Pu_idx hr' tI sI (by omega) (by omega) fun a x hx1 hc1 _ => ?_
      refine RdS_same (Rd_one (c := .int .i64) (x := x) oI hc1 ?_)
      refine Pu_idx hq' tI sI (by omega) (by omega) fun a2 y hx2 hc2 _ => ?_
      refine RdS_same (Rd_one (c := .int .i64) (x := y) oI hc2 ?_)
      have hr2 := hr'.ex (Ex.drew w'.drew)
      have hq2 := hq'.ex (Ex.drew w'.drew)
      rw [Int.toNat_natCast] at hx1 hx2
      rw [lessB_drop hx1 hx2] at he
      refine Cd_ne (fun hne => ?_) (fun heq => ?_)
      · refine Pu_idx hr2 tI sI (by omega) (by omega) fun a3 x3 hx3 hc3 _ => ?_
        refine RdS_same (Rd_one (c := .int .i64) (x := x3) oI hc3 ?_)
        refine Pu_idx hq2 tI sI (by omega) (by omega) fun a4 y4 hx4 hc4 _ => ?_
        refine RdS_same (Rd_one (c := .int .i64) (x := y4) oI hc4 ?_)
        rw [Int.toNat_natCast] at hx3 hx4
        rw [hx1] at hx3
        rw [hx2] at hx4
        cases hx3
        cases hx4
        refine ⟨?_, (hx.trans (Ex.drew w')).trans (Ex.drew _)⟩
        rw [he, if_neg hne]
      · rw [wrap64 (x := (i : Int) + 1) (by omega) (by omega)]
        refine hk _ _ ⟨hx.trans (Ex.drew w'), rfl, rfl, i + 1, by omega, by omega, by simp, ?_⟩ (by simp only; omega)
        rw [he, if_pos heq]
    · have hn := hb2 hb
      refine ⟨?_, hx⟩
      rw [he, h1, h2]
      by_cases hil : i < l.length
      · have hm : m.drop i = [] := List.drop_of_length_le (by omega)
        rw [hm]
        have : ¬ ((l.length : Int) < (m.length : Int)) := by omega
        simp [lessB, this]
      · have hle : l.drop i = [] := List.drop_of_length_le (by omega)
        rw [hle]
        by_cases him2 : i < m.length
        · rw [List.drop_eq_getElem_cons him2]
          have : ((l.length : Int) < (m.length : Int)) := by omega
          simp [lessB, this]
        · have hme : m.drop i = [] := List.drop_of_length_le (by omega)
          rw [hme]
          have : ¬ ((l.length : Int) < (m.length : Int)) := by omega
          simp [lessB, this]
  refine Cd_dec (fun h => fin _ (fun h3 => ?_) (fun h3 => ?_)) (fun h => fin false (fun h3 => by cases h3) (fun _ => by omega))
  · have := of_decide_eq_true h3; omega
  · have := of_decide_eq_false h3; omega
theorem begins_gv (s t : Sl) (l q : Path) (w : World) (hr : Rds i64v w s l) (hq : Rds i64v w t q) (hl : l.length ≤ 9223372036854775806) : Gv Try.prog 37 #[slv s, slv t] (.bool (decide (q <+: l))) w := by
  refine culletref12_Begins.run _ s t w ?_
  unfold culletref12_Begins.M
  have h1 := hr.1
  have h2 := hq.1
  refine Cd_dec (fun h => ?_) (fun h => ?_)
  · refine Pu_take (n := t.len) hr tI sI (by omega) fun s2 hr2 => ?_
    rw [h2] at hr2
    refine Cl_gv (same_gv s2 t (l.take q.length) q w hr2 hq (by rw [List.length_take]; omega)) fun w1 hx1 => ⟨?_, hx1⟩
    have : (l.take q.length = q) ↔ q <+: l := by
      rw [List.prefix_iff_eq_take]
      exact eq_comm
    simp only [this]
  · have : ¬ q <+: l := fun hp => by have := hp.length_le; omega
    exact ⟨by simp [this], Ex.refl w⟩
end Go.Proofs.Ytdnlnloogfnlgaa
/- How many lists begin a key: the plain law. -/
namespace Go.Proofs.Ytdnlnloogfnlgaa
open Go Go.Cu Go.RowKit
set_option linter.unusedVariables false
set_option maxHeartbeats 4000000
theorem less_between : ∀ (q a b c : Path), q <+: a → q <+: c → lessP a b → lessP b c → q <+: b
  | [], _, _, _, _, _, _, _ => List.nil_prefix
  | x :: q, a, b, c, h1, h2, h3, h4 => by
    obtain ⟨a', rfl⟩ := h1
    obtain ⟨c', rfl⟩ := h2
    cases b with
    | nil => exact h3.elim
    | cons y b =>
      rw [List.cons_append] at h3 h4
      have g3 : x < y ∨ (x = y ∧ lessP (q ++ a') b) := h3
      have g4 : y < x ∨ (y = x ∧ lessP b (q ++ c')) := h4
      clear h3 h4
      rcases g3 with g3 | ⟨e3, g3⟩
      · rcases g4 with g4 | ⟨e4, _⟩ <;> omega
      · rcases g4 with g4 | ⟨_, g4⟩
        · omega
        · rw [List.cons_prefix_cons]
          exact ⟨e3, less_between q _ b _ (List.prefix_append _ _) (List.prefix_append _ _) g3 g4⟩
/-- how long two lists are the same -/
def com : Path → Path → Nat
  | x :: a, y :: b => if x = y then com a b + 1 else 0
  | _, _ => 0
theorem com_le : ∀ a b : Path, com a b ≤ a.length ∧ com a b ≤ b.length
  | [], b => by simp [com]
  | _ :: _, [] => by simp [com]
  | x :: a, y :: b => by
    have := com_le a b
    unfold com
    split
    · simp only [List.length_cons]; omega
    · simp
theorem com_prefix : ∀ (q a b : Path), q <+: b → (q <+: a ↔ q.length ≤ com a b)
  | [], a, b, _ => by simp
  | x :: q, a, b, h => by
    obtain ⟨b', rfl⟩ := h
    cases a with
    | nil => simp [com]
    | cons y a =>
      rw [List.cons_append, List.cons_prefix_cons]
      unfold com
      by_cases hxy : y = x
      · subst hxy
        rw [if_pos rfl, com_prefix q a (q ++ b') (List.prefix_append _ _), List.length_cons]
        constructor
        · rintro ⟨_, h⟩; omega
        · intro h; exact ⟨rfl, by omega⟩
      · rw [if_neg hxy]
        constructor
        · rintro ⟨h, _⟩; exact absurd h.symm hxy
        · intro h; simp at h
def newP (prev k : Path) : List Path := (List.range' (com prev k + 1) (k.length - com prev k)).map fun n => k.take n
theorem newP_len (prev k : Path) : (newP prev k).length = k.length - com prev k := by simp [newP]
theorem mem_newP {prev k q : Path} : q ∈ newP prev k ↔ q <+: k ∧ ¬ q <+: prev := by
  have hc := (com_le prev k).2
  unfold newP
  rw [List.mem_map]
  constructor
  · rintro ⟨n, hn, rfl⟩
    rw [List.mem_range'_1] at hn
    refine ⟨List.take_prefix _ _, fun hp => ?_⟩
    have := (com_prefix (k.take n) prev k (List.take_prefix _ _)).1 hp
    rw [List.length_take] at this
    omega
  · rintro ⟨h1, h2⟩
    have hl := h1.length_le
    have : ¬ q.length ≤ com prev k := fun h => h2 ((com_prefix q prev k h1).2 h)
    exact ⟨q.length, List.mem_range'_1.2 (by omega), (List.prefix_iff_eq_take.1 h1).symm⟩
theorem newP_nodup (prev k : Path) : (newP prev k).Nodup := by
  have hc := (com_le prev k).2
  unfold newP List.Nodup
  rw [List.pairwise_map]
  have hp : (List.range' (com prev k + 1) (k.length - com prev k)).Pairwise (· < ·) := List.pairwise_lt_range'
  refine List.Pairwise.imp_of_mem ?_ hp
  intro a b ha hb hab he
  rw [List.mem_range'_1] at ha hb
  have := congrArg List.length he
  rw [List.length_take, List.length_take] at this
  omega
def allP : Path → List Path → List Path
  | _, [] => []
  | prev, k :: r => newP prev k ++ allP k r
theorem mem_allP : ∀ (ks : List Path) (prev q : Path), ks.Pairwise lessP → (prev = [] ∨ ∀ x ∈ ks, lessP prev x) → (q ∈ allP prev ks ↔ q ≠ [] ∧ ¬ q <+: prev ∧ ∃ k ∈ ks, q <+: k)
  | [], prev, q, _, _ => by simp [allP]
  | k :: r, prev, q, hs, hp => by
    rw [List.pairwise_cons] at hs
    unfold allP
    rw [List.mem_append, mem_newP, mem_allP r k q hs.2 (.inr hs.1)]
    constructor
    · rintro (⟨h1, h2⟩ | ⟨h1, h2, k', hk', h3⟩)
      · exact ⟨fun e => h2 (by rw [e]; exact List.nil_prefix), h2, k, List.mem_cons_self, h1⟩
      · refine ⟨h1, fun h => ?_, k', List.mem_cons_of_mem _ hk', h3⟩
        rcases hp with rfl | hp
        · exact h1 (List.prefix_nil.1 h)
        · exact h2 (less_between q prev k k' h h3 (hp k List.mem_cons_self) (hs.1 k' hk'))
    · rintro ⟨h1, h2, k', hk', h3⟩
      rcases List.mem_cons.1 hk' with rfl | hk'
      · exact .inl ⟨h3, h2⟩
      · by_cases hqk : q <+: k
        · exact .inl ⟨hqk, h2⟩
        · exact .inr ⟨h1, hqk, k', hk', h3⟩
theorem allP_nodup : ∀ (ks : List Path) (prev : Path), ks.Pairwise lessP → (prev = [] ∨ ∀ x ∈ ks, lessP prev x) → (allP prev ks).Nodup
  | [], _, _, _ => List.nodup_nil
  | k :: r, prev, hs, hp => by
    rw [List.pairwise_cons] at hs
    unfold allP
    rw [List.nodup_append]
    refine ⟨newP_nodup _ _, allP_nodup r k hs.2 (.inr hs.1), fun a ha b hb e => ?_⟩
    subst e
    exact ((mem_allP r k a hs.2 (.inr hs.1)).1 hb).2.1 (mem_newP.1 ha).1
/-- sorted keys: as many new beginnings as there are beginnings -/
theorem begun_len {ks : List Path} {L : List Path} (hs : ks.Pairwise lessP) (h : Begun ks L) : (allP [] ks).length = L.length := by
  have h1 := allP_nodup ks [] hs (.inl rfl)
  have hm : ∀ q, q ∈ allP [] ks ↔ q ∈ L := fun q => by
    rw [mem_allP ks [] q hs (.inl rfl), h.2 q]
    constructor
    · rintro ⟨a, _, b⟩; exact ⟨a, b⟩
    · rintro ⟨a, b⟩; exact ⟨a, fun h => a (List.prefix_nil.1 h), b⟩
  have a := nodup_sub_len _ _ h1 (fun q hq => (hm q).1 hq)
  have b := nodup_sub_len _ _ h.1 (fun q hq => (hm q).2 hq)
  omega
theorem Begun.congr {ks ks' L : List Path} (h : Begun ks L) (hm : ∀ k, k ∈ ks ↔ k ∈ ks') : Begun ks' L :=
  ⟨h.1, fun q => (h.2 q).trans ⟨fun ⟨a, k, b, c⟩ => ⟨a, k, (hm k).1 b, c⟩, fun ⟨a, k, b, c⟩ => ⟨a, k, (hm k).2 b, c⟩⟩⟩
theorem less_trans : ∀ a b c : Path, lessP a b → lessP b c → lessP a c
  | [], [], _, h, _ => False.elim h
  | _ :: _, [], _, h, _ => False.elim h
  | _, _ :: _, [], _, h => False.elim h
  | [], _ :: _, _ :: _, _, _ => trivial
  | x :: a, y :: b, z :: c, h1, h2 => by
    have g1 : x < y ∨ (x = y ∧ lessP a b) := h1
    have g2 : y < z ∨ (y = z ∧ lessP b c) := h2
    clear h1 h2
    show x < z ∨ (x = z ∧ lessP a c)
    rcases g1 with g1 | ⟨e1, g1⟩
    · rcases g2 with g2 | ⟨e2, g2⟩
      · exact .inl (by omega)
      · exact .inl (by omega)
    · rcases g2 with g2 | ⟨e2, g2⟩
      · exact .inl (by omega)
      · exact .inr ⟨by omega, less_trans a b c g1 g2⟩
theorem less_tri : ∀ a b : Path, ¬ lessP a b → a ≠ b → lessP b a
  | [], [], _, h => absurd rfl h
  | [], _ :: _, h, _ => absurd trivial h
  | _ :: _, [], _, _ => trivial
  | x :: a, y :: b, h, hne => by
    show y < x ∨ (y = x ∧ lessP b a)
    have g : ¬ (x < y ∨ (x = y ∧ lessP a b)) := h
    clear h
    by_cases hxy : x = y
    · subst hxy
      exact .inr ⟨rfl, less_tri a b (fun g' => g (.inr ⟨rfl, g'⟩)) (fun e => hne (by rw [e]))⟩
    · by_cases hl : y < x
      · exact .inl hl
      · exact absurd (.inl (by omega)) g
/-- sorted lists of the same keys are the same -/
theorem sorted_unique : ∀ l m : List Path, l.Pairwise lessP → m.Pairwise lessP → (∀ x, x ∈ l ↔ x ∈ m) → l = m
  | [], [], _, _, _ => rfl
  | [], y :: m, _, _, h => by have := (h y).2 List.mem_cons_self; simp at this
  | x :: l, [], _, _, h => by have := (h x).1 List.mem_cons_self; simp at this
  | x :: l, y :: m, hl, hm, h => by
    rw [List.pairwise_cons] at hl hm
    have hxy : x = y := by
      rcases List.mem_cons.1 ((h x).1 List.mem_cons_self) with e | hx
      · exact e
      · rcases List.mem_cons.1 ((h y).2 List.mem_cons_self) with e | hy
        · exact e.symm
        · exact absurd (less_trans _ _ _ (hm.1 x hx) (hl.1 y hy)) (less_irr _)
    subst hxy
    congr 1
    refine sorted_unique l m hl.2 hm.2 fun z => ?_
    constructor
    · intro hz
      rcases List.mem_cons.1 ((h z).1 (List.mem_cons_of_mem _ hz)) with e | hz'
      · subst e; exact absurd (hl.1 z hz) (less_irr _)
      · exact hz'
    · intro hz
      rcases List.mem_cons.1 ((h z).2 (List.mem_cons_of_mem _ hz)) with e | hz'
      · subst e; exact absurd (hm.1 z hz) (less_irr _)
      · exact hz'
end Go.Proofs.Ytdnlnloogfnlgaa
/- The document's Sorted. -/
namespace Go.Proofs.Ytdnlnloogfnlgaa
open Go Go.Cu Go.RowKit
set_option linter.unusedVariables false
set_option maxHeartbeats 4000000
theorem ins_get {α : Type} {l : List α} {x : α} {a : Nat} (i : Nat) (h : a ≤ l.length) : (l.take a ++ x :: l.drop a)[i]? = if i < a then l[i]? else if i = a then some x else l[i - 1]? := by
  have hl : (l.take a).length = a := by rw [List.length_take]; omega
  by_cases h1 : i < a
  · rw [if_pos h1, List.getElem?_append_left (by omega), List.getElem?_take, if_pos h1]
  · rw [if_neg h1, List.getElem?_append_right (by omega), hl]
    by_cases h2 : i = a
    · rw [if_pos h2, h2, Nat.sub_self]; rfl
    · rw [if_neg h2, show i - a = (i - 1 - a) + 1 by omega, List.getElem?_cons_succ, List.getElem?_drop]
      congr 1; omega
theorem ins_set {α : Type} {l : List α} {x z : α} {j : Nat} (h : j ≤ l.length) : (l.take j ++ z :: l.drop j).set j x = l.take j ++ x :: l.drop j := by
  have hl : (l.take j).length = j := by rw [List.length_take]; omega
  rw [List.set_append, if_neg (by omega), hl, Nat.sub_self]; rfl
theorem ins_step {α : Type} {l : List α} {x : α} {j : Nat} (hj : 0 < j) (h : l[j - 1]? = some x) : l.take j ++ x :: l.drop j = l.take (j - 1) ++ x :: l.drop (j - 1) := by
  obtain ⟨hlt, he⟩ := List.getElem?_eq_some_iff.1 h
  obtain ⟨m, rfl⟩ : ∃ m, j = m + 1 := ⟨j - 1, by omega⟩
  rw [Nat.add_sub_cancel] at h
  have hlt : m < l.length := hlt
  have he : l[m] = x := he
  have e1 : l.drop m = x :: l.drop (m + 1) := by rw [List.drop_eq_getElem_cons hlt, he]
  rw [Nat.add_sub_cancel, e1, List.take_add_one, h]
  simp
def SrtAt (base : Nat) (w : World) (s : Sl) (os : List Path) : Prop :=
  ∃ ss : List Sl, Own slv 29 base w s ss ∧ ss.length = os.length ∧ ∀ (i : Nat) (s' : Sl) (l : Path), ss[i]? = some s' → os[i]? = some l → Rds i64v w s' l ∧ ∀ a, s'.base = some a → base ≤ a.block ∧ a.block < w.heap.size ∧ ¬ SlIn s a.block
theorem SrtAt.ex {base : Nat} {w w' : World} {s : Sl} {os : List Path} (h : SrtAt base w s os) (k : Ex w w') : SrtAt base w' s os := by
  obtain ⟨ss, h1, h2, h3⟩ := h
  exact ⟨ss, h1.ex k, h2, fun i s' l a b => ⟨(h3 i s' l a b).1.ex k, fun c d => ⟨((h3 i s' l a b).2 c d).1, Nat.lt_of_lt_of_le ((h3 i s' l a b).2 c d).2.1 k.size, ((h3 i s' l a b).2 c d).2.2⟩⟩⟩
theorem SrtAt.nil (base : Nat) (w : World) : SrtAt base w nilS [] := ⟨[], Own.nil _ _ _ _, rfl, fun i s' l h => by simp at h⟩
theorem SrtAt.len {base : Nat} {w : World} {s : Sl} {os : List Path} (h : SrtAt base w s os) : s.len = os.length := by obtain ⟨ss, h1, h2, _⟩ := h; rw [h1.1, h2]
theorem SrtAt.nest {base : Nat} {w : World} {s : Sl} {os : List Path} (h : SrtAt base w s os) : Nest i64v (fun b => base ≤ b ∧ b < w.heap.size) w s os := by
  obtain ⟨ss, h1, h2, h3⟩ := h
  exact ⟨ss, h1.rds, h2, fun a ha => h1.base _ (slin_of ha), fun i s' l a b => ⟨(h3 i s' l a b).1, fun c d => ⟨((h3 i s' l a b).2 c d).1, ((h3 i s' l a b).2 c d).2.1⟩⟩⟩
theorem sorted_l3 {R : Ending → World → Prop} {k1 : (Sl × Sl × Int × Int × Unit) → World → Prop} {base : Nat} {w1 : World} {out kS t8 : Sl} {ss : List Sl} {os : List Path} {key : Path} {at_ : Nat} {t9 t10 : Int}
    (hbase : base ≤ w1.heap.size) (ho : Own slv 29 base w1 out (ss ++ [nilS])) (hl : ss.length = os.length) (hrows : ∀ (i : Nat) (s' : Sl) (l : Path), ss[i]? = some s' → os[i]? = some l → Rds i64v w1 s' l ∧ ∀ a, s'.base = some a → base ≤ a.block ∧ a.block < w1.heap.size ∧ ¬ SlIn out a.block)
    (hkey : Rds i64v w1 kS key) (hkb : ∀ a, kS.base = some a → ¬ SlIn out a.block) (hat : at_ ≤ ss.length) (hlen : ss.length ≤ 1024) (hkl : key.length ≤ 300)
    (hK : ∀ w', Mo (SlIn out) w1 w' → SrtAt base w' out (os.take at_ ++ key :: os.drop at_) → k1 (out, t8, t9, IntKind.wrap .i64 (t10 + 1), ()) w') :
    culletref12_Sorted.l3 R k1 (out, kS, (at_ : Int), IntKind.wrap .i64 (((out.len : Nat) : Int) - 1), t8, t9, t10, ()) w1 := by
  have hol : out.len = ss.length + 1 := by rw [ho.1]; simp
  unfold culletref12_Sorted.l3
  refine loopW_of (fun st w' => Mo (SlIn out) w1 w' ∧ st.1 = out ∧ st.2.1 = kS ∧ st.2.2.1 = (at_ : Int) ∧ st.2.2.2.2.1 = t8 ∧ st.2.2.2.2.2.1 = t9 ∧ st.2.2.2.2.2.2.1 = t10 ∧ ∃ (j : Nat) (z : Sl), at_ ≤ j ∧ j ≤ ss.length ∧ st.2.2.2.1 = (j : Int) ∧ Own slv 29 base w' out (ss.take j ++ z :: ss.drop j)) (fun st _ => st.2.2.2.1.toNat) ?_
    ⟨Mo.refl _ _, rfl, rfl, rfl, rfl, rfl, rfl, ss.length, nilS, hat, Nat.le_refl _, ?_, by rw [List.take_length, List.drop_length]; exact ho⟩
  rotate_left
  · rw [hol, wrap64 (by omega) (by omega)]; dsimp only; omega
  rintro k ⟨a1, a2, a3, j', a4, a5, a6, u⟩ w' hI hk
  dsimp only at hI hk ⊢
  obtain ⟨hm, rfl, rfl, rfl, rfl, rfl, rfl, j, z, haj, hjl, rfl, ho'⟩ := hI
  unfold culletref12_Sorted.b3
  have hclen : (ss.take j ++ z :: ss.drop j).length = ss.length + 1 := by simp [List.length_take, List.length_drop]; omega
  refine Cd_dec (fun hgt => ?_) (fun hle => ?_)
  · rw [wrap64 (x := (j : Int) - 1) (by omega) (by omega)]
    refine Pu_idx ho'.rds tII sII (by omega) (by rw [hclen]; omega) fun a x hx1 hc1 _ => ?_
    refine Rd_one (c := .sl) (x := x) oII hc1 ?_
    rw [show ((j : Int) - 1).toNat = j - 1 by omega, ins_get _ hjl, if_pos (by omega)] at hx1
    refine Wu_set (f := slv) (x := x) ho' (by rw [hclen]; omega) tII sII sII rfl rfl fun w2 ho2 hm2 => ?_
    rw [ins_set hjl, ins_step (by omega) hx1] at ho2
    refine hk _ _ ⟨hm.trans hm2 (fun _ => id) (fun _ _ => id), rfl, rfl, rfl, rfl, rfl, rfl, j - 1, x, by omega, by omega, by dsimp only; omega, ho2⟩ (by simp only; omega)
  · obtain rfl : j = at_ := by omega
    refine Cl_sl (copyKey_sl a2 key w' (hkey.mo hm hkb) (by omega)) fun s2 w2 ho2 hx2 => ?_
    refine Wu_set (f := slv) (x := s2) (ho'.ex hx2) (by rw [hclen]; omega) tII sII sII rfl rfl fun w3 ho3 hm3 => ?_
    rw [ins_set hjl] at ho3
    unfold culletref12_Sorted.j1
    have hm13 : Mo (SlIn a1) w1 w3 := (hm.ex hx2).trans hm3 (fun _ => id) (fun _ _ => id)
    have hout : ∀ b, SlIn a1 b → b < w'.heap.size := fun b hb => (ho'.base b hb).2
    have hs2 := hm.size
    have hs3 := hx2.size
    have hs4 := hm3.size
    refine hK w3 hm13 ⟨_, ho3, by simp [List.length_take, List.length_drop]; omega, fun i s' l hi hl' => ?_⟩
    rw [ins_get _ hjl] at hi
    rw [ins_get _ (by omega)] at hl'
    have old : ∀ q, ss[q]? = some s' → os[q]? = some l → Rds i64v w3 s' l ∧ ∀ a, s'.base = some a → base ≤ a.block ∧ a.block < w3.heap.size ∧ ¬ SlIn a1 a.block := fun q hq hq' => by
      obtain ⟨r1, r2⟩ := hrows q s' l hq hq'
      exact ⟨r1.mo hm13 (fun a ha => (r2 a ha).2.2), fun a ha => ⟨(r2 a ha).1, by have := (r2 a ha).2.1; omega, (r2 a ha).2.2⟩⟩
    split at hi
    · rename_i h1
      rw [if_pos h1] at hl'
      exact old i hi hl'
    · rename_i h1
      rw [if_neg h1] at hl'
      split at hi
      · rename_i h2
        rw [if_pos h2] at hl'
        cases hi
        cases hl'
        have hnew : ∀ a, s2.base = some a → w'.heap.size ≤ a.block ∧ a.block < w2.heap.size := fun a ha => ho2.base _ (slin_of ha)
        exact ⟨ho2.rds.mo hm3 (fun a ha hb => by have := hnew a ha; have := hout _ hb; omega), fun a ha => ⟨by have := hnew a ha; omega, by have := hnew a ha; omega, fun hb => by have := hnew a ha; have := hout _ hb; omega⟩⟩
      · rename_i h2
        rw [if_neg h2] at hl'
        exact old _ hi hl'
theorem ins_sorted {os : List Path} {key : Path} {at_ : Nat} (hs : os.Pairwise lessP) (h1 : ∀ x ∈ os.drop at_, lessP key x) (h2 : ∀ x ∈ os.take at_, lessP x key) : (os.take at_ ++ key :: os.drop at_).Pairwise lessP := by
  have hs' := hs
  rw [← List.take_append_drop at_ os, List.pairwise_append] at hs'
  rw [List.pairwise_append, List.pairwise_cons]
  refine ⟨hs'.1, ⟨h1, hs'.2.1⟩, fun a ha b hb => ?_⟩
  rcases List.mem_cons.1 hb with rfl | hb
  · exact h2 a ha
  · exact hs'.2.2 a ha b hb
theorem ins_mem {os : List Path} {key x : Path} {at_ : Nat} : x ∈ os.take at_ ++ key :: os.drop at_ ↔ x ∈ os ∨ x = key := by
  have : x ∈ os ↔ x ∈ os.take at_ ∨ x ∈ os.drop at_ := by rw [← List.mem_append, List.take_append_drop]
  rw [this, List.mem_append, List.mem_cons]
  constructor
  · rintro (h | h | h)
    · exact .inl (.inl h)
    · exact .inr h
    · exact .inl (.inr h)
  · rintro ((h | h) | h)
    · exact .inl h
    · exact .inr (.inr h)
    · exact .inr (.inl h)
theorem sorted_ok {F : Nat → Prop} (s : Sl) (ks : List Path) (w : World) (h : Nest i64v F w s ks) (hF : ∀ b, F b → b < w.heap.size) (hl : ks.length ≤ 1024) (hkl : ∀ k ∈ ks, k.length ≤ 300) :
    Calls Try.prog 63 #[slv s] w fun en w' => ∃ s' os, en = .returned (slv s') ∧ Nest i64v (fun b => w.heap.size ≤ b ∧ b < w'.heap.size) w' s' os ∧ os.Pairwise lessP ∧ (∀ x, x ∈ os ↔ x ∈ ks) ∧ Ex w w' := by
  have hlen := nest_len h
  obtain ⟨rs, r1, r2, _, r4⟩ := h
  refine culletref12_Sorted.run _ s w ?_
  unfold culletref12_Sorted.M culletref12_Sorted.l1
  rw [hlen]
  refine loopW_of (fun st w' => Ex w w' ∧ st.2.1 = s ∧ st.2.2.1 = (ks.length : Int) ∧ ∃ (i : Nat) (os : List Path), i ≤ ks.length ∧ st.2.2.2.1 = (i : Int) ∧ SrtAt w.heap.size w' st.1 os ∧ os.length ≤ i ∧ os.Pairwise lessP ∧ ∀ x, x ∈ os ↔ x ∈ ks.take i) (fun st _ => ks.length - st.2.2.2.1.toNat) ?_
    ⟨Ex.refl w, rfl, rfl, 0, [], Nat.zero_le _, rfl, SrtAt.nil _ _, Nat.le_refl _, List.Pairwise.nil, by simp⟩
  rintro k ⟨out, s', n', i', u⟩ w' hI hk
  dsimp only at hI hk ⊢
  obtain ⟨hx, rfl, rfl, i, os, hi, rfl, hso, hol, hsort, hmem⟩ := hI
  unfold culletref12_Sorted.b1
  refine Cd_dec (fun hlt => ?_) (fun hge => ?_)
  rotate_left
  · have : i = ks.length := by omega
    subst this
    rw [List.take_length] at hmem
    exact ⟨out, os, rfl, hso.nest, hsort, hmem, hx⟩
  have hik : i < ks.length := by omega
  refine Pu_idx (r1.ex hx) tII sII (by omega) (by omega) fun a x hx1 hc1 _ => ?_
  refine Rd_one (c := .sl) (x := x) oII hc1 ?_
  rw [Int.toNat_natCast] at hx1
  have hki : ks[i]? = some ks[i] := List.getElem?_eq_getElem hik
  obtain ⟨hxr, hxb⟩ := r4 i x _ hx1 hki
  have hkli := hkl _ (List.getElem_mem hik)
  have htk : ks.take (i + 1) = ks.take i ++ [ks[i]] := by rw [List.take_add_one, hki]; rfl
  generalize hkey : ks[i] = key at *
  unfold culletref12_Sorted.l2
  refine loopW_of (fun st w2 => Ex w w2 ∧ st.1 = out ∧ st.2.1 = x ∧ st.2.2.2.1 = s' ∧ st.2.2.2.2.1 = (ks.length : Int) ∧ st.2.2.2.2.2.1 = (i : Int) ∧ SrtAt w.heap.size w2 out os ∧ ∃ p : Nat, p ≤ os.length ∧ st.2.2.1 = (p : Int) ∧ ∀ y ∈ os.drop p, lessP key y) (fun st _ => st.2.2.1.toNat) ?_
    ⟨hx, rfl, rfl, rfl, rfl, rfl, hso, os.length, Nat.le_refl _, by rw [hso.len], by rw [List.drop_length]; simp⟩
  rintro k2 ⟨o2, x2, p', s2, n2, i2, u2⟩ w2 hI2 hk2
  dsimp only at hI2 hk2 ⊢
  obtain ⟨hx2, rfl, rfl, rfl, rfl, rfl, hso2, p, hp, rfl, hdrop⟩ := hI2
  -- what is done once the place is found
  have j3f : ∀ (b : Bool) (w3 : World), Ex w2 w3 → (b = true → key ∈ os) → (b = false → ∀ y ∈ os.take p, lessP y key) → culletref12_Sorted.j3 (fun en w' => ∃ s' os, en = Ending.returned (slv s') ∧ Nest i64v (fun b => w.heap.size ≤ b ∧ b < w'.heap.size) w' s' os ∧ os.Pairwise lessP ∧ (∀ x, x ∈ os ↔ x ∈ ks) ∧ Ex w w') k o2 x2 (p : Int) s2 (ks.length : Int) (i : Int) b w3 := by
    intro b w3 hx3 hb1 hb2
    have k3 := hx2.trans hx3
    have hso3 := hso2.ex hx3
    unfold culletref12_Sorted.j3
    refine Cd_of (fun hb => ?_) (fun hb => ?_)
    · unfold culletref12_Sorted.j1
      rw [wrap64 (x := (i : Int) + 1) (by omega) (by omega)]
      refine hk _ _ ⟨k3, rfl, rfl, i + 1, os, by omega, by simp, hso3, by omega, hsort, fun y => ?_⟩ (by simp only; omega)
      rw [hmem, htk, List.mem_append, List.mem_singleton]
      constructor
      · exact .inl
      · rintro (h | rfl)
        · exact h
        · exact (hmem _).1 (hb1 hb)
    · refine Wr_lit (f := slv) (e := 29) (base := w3.heap.size) [nilS] (by kernel_rfl) (Nat.le_refl _) (by simp) fun s4 w4 ho4 hx4 _ => ?_
      obtain ⟨ss, q1, q2, q3⟩ := hso3
      have k4 := k3.trans hx4
      refine Wr_append tII iII rfl (q1.ex hx4) ho4.rds (fun y => rfl) (by simp; omega) (by simp; omega) k4.size fun s5 w5 ho5 hm5 hin5 => ?_
      have hq1 : ∀ b, SlIn o2 b → w.heap.size ≤ b := fun b hb => (q1.base b hb).1
      have k5 : Ex w w5 := k4.into hm5 hq1
      have hs4 := hx4.size
      have hs5 := hm5.size
      refine sorted_l3 (ss := ss) (os := os) (key := key) (at_ := p) k5.size ho5 q2 (fun j s' l hj hl' => ?_) (hxr.ex k5) (fun a ha hb => ?_) (by omega) (by omega) hkli (fun w6 hm6 hso6 => ?_)
      · obtain ⟨g1, g2⟩ := q3 j s' l hj hl'
        refine ⟨(g1.ex hx4).mo hm5 (fun a ha => (g2 a ha).2.2), fun a ha => ⟨(g2 a ha).1, by have := (g2 a ha).2.1; omega, fun hb => ?_⟩⟩
        rcases hin5 _ hb with g | g
        · exact (g2 a ha).2.2 g
        · have := (g2 a ha).2.1; omega
      · have := hF _ (hxb a ha); have := (ho5.base _ hb).1; omega
      · rw [wrap64 (x := (i : Int) + 1) (by omega) (by omega)]
        have k6 : Ex w w6 := k5.into hm6 (fun b hb => (ho5.base b hb).1)
        refine hk _ _ ⟨k6, rfl, rfl, i + 1, _, by omega, by simp, hso6, ?_, ins_sorted hsort hdrop (hb2 hb), fun y => ?_⟩ (by simp only; omega)
        · simp [List.length_take, List.length_drop]; omega
        · rw [ins_mem, htk, List.mem_append, List.mem_singleton, hmem]
  have hp1 : p - 1 < os.length ∨ p = 0 := by omega
  unfold culletref12_Sorted.b2
  refine Cd_dec (fun hgt => ?_) (fun hle => ?_)
  · obtain ⟨ss, q1, q2, q3⟩ := hso2
    rw [wrap64 (x := (p : Int) - 1) (by omega) (by omega)]
    refine Pu_idx q1.rds tII sII (by omega) (by omega) fun a3 y hy1 hc3 _ => ?_
    refine Rd_one (c := .sl) (x := y) oII hc3 ?_
    rw [show ((p : Int) - 1).toNat = p - 1 by omega] at hy1
    have hpl : p - 1 < os.length := by omega
    have hop : os[p - 1]? = some os[p - 1] := List.getElem?_eq_getElem hpl
    obtain ⟨g1, g2⟩ := q3 _ y _ hy1 hop
    have hdr : os.drop (p - 1) = os[p - 1] :: os.drop p := by
      rw [List.drop_eq_getElem_cons hpl, show p - 1 + 1 = p by omega]
    have htp : os.take p = os.take (p - 1) ++ [os[p - 1]] := by
      have := List.take_add_one (l := os) (i := p - 1)
      rw [show p - 1 + 1 = p by omega, hop] at this
      exact this
    refine Cl_gv (less_gv x2 y key os[p - 1] w2 (hxr.ex hx2) g1 (by omega)) fun w3 hx3 => ?_
    unfold culletref12_Sorted.j2
    refine Cd_of (fun hb => ?_) (fun hb => ?_)
    · rw [wrap64 (x := (p : Int) - 1) (by omega) (by omega)]
      refine hk2 _ _ ⟨hx2.trans hx3, rfl, rfl, rfl, rfl, rfl, SrtAt.ex ⟨ss, q1, q2, q3⟩ hx3, p - 1, by omega, by dsimp only; omega, fun z hz => ?_⟩ (by simp only; omega)
      rw [hdr, List.mem_cons] at hz
      rcases hz with rfl | hz
      · exact (lessB_iff _ _).1 hb
      · exact hdrop z hz
    · have hnl : ¬ lessP key os[p - 1] := fun h => by rw [(lessB_iff _ _).2 h] at hb; cases hb
      refine Cd_dec (fun _ => ?_) (fun h => absurd hgt h)
      rw [wrap64 (x := (p : Int) - 1) (by omega) (by omega)]
      refine Pu_idx (q1.ex hx3).rds tII sII (by omega) (by omega) fun a4 y4 hy4 hc4 _ => ?_
      refine Rd_one (c := .sl) (x := y4) oII hc4 ?_
      rw [show ((p : Int) - 1).toNat = p - 1 by omega, hy1] at hy4
      cases hy4
      refine Cl_gv (same_gv x2 y key os[p - 1] w3 (hxr.ex (hx2.trans hx3)) (g1.ex hx3) (by omega)) fun w4 hx4 => ?_
      refine j3f _ w4 (hx3.trans hx4) (fun hb => ?_) (fun hb z hz => ?_)
      · rw [of_decide_eq_true hb]; exact List.getElem_mem hpl
      · have hne := of_decide_eq_false hb
        have hlt := less_tri _ _ hnl hne
        rw [htp, List.mem_append, List.mem_singleton] at hz
        rcases hz with hz | rfl
        · have hs2 := hsort
          rw [← List.take_append_drop (p - 1) os, List.pairwise_append] at hs2
          exact less_trans _ _ _ (hs2.2.2 z hz _ (by rw [hdr]; exact List.mem_cons_self)) hlt
        · exact hlt
  · unfold culletref12_Sorted.j2
    refine Cd_f ?_
    refine Cd_dec (fun h => absurd h hle) (fun _ => j3f false w2 (Ex.refl _) (fun h => by cases h) (fun _ y hy => ?_))
    have : p = 0 := by omega
    subst this
    simp at hy
end Go.Proofs.Ytdnlnloogfnlgaa
/- The document's Beginnings. -/
namespace Go.Proofs.Ytdnlnloogfnlgaa
open Go Go.Cu Go.RowKit
set_option linter.unusedVariables false
set_option maxHeartbeats 4000000
def prevK (ks : List Path) (i : Nat) : Path := if i = 0 then [] else ks.getD (i - 1) []
theorem allP_snoc : ∀ (l : List Path) (p k : Path), allP p (l ++ [k]) = allP p l ++ newP (l.getLastD p) k
  | [], p, k => by simp [allP]
  | x :: l, p, k => by
    rw [List.cons_append]
    unfold allP
    rw [allP_snoc l x k, List.append_assoc]
    congr 2
    cases l <;> rfl
theorem last_prev {ks : List Path} {i : Nat} (hi : i ≤ ks.length) : (ks.take i).getLastD [] = prevK ks i := by
  unfold prevK
  by_cases h : i = 0
  · subst h; rfl
  · rw [if_neg h, List.getLastD_eq_getLast?, List.getLast?_eq_getElem?, List.length_take, Nat.min_eq_left hi, List.getElem?_take, if_pos (by omega), List.getD_eq_getElem?_getD]
theorem allP_len_succ {ks : List Path} {i : Nat} (hi : i < ks.length) : (allP [] (ks.take (i + 1))).length = (allP [] (ks.take i)).length + (ks[i].length - com (prevK ks i) ks[i]) := by
  have : ks.take (i + 1) = ks.take i ++ [ks[i]] := by rw [List.take_add_one, List.getElem?_eq_getElem hi]; rfl
  rw [this, allP_snoc, List.length_append, newP_len, last_prev (by omega)]
theorem com_at {p k : Path} {c : Nat} {x y : Int} (hx : p[c]? = some x) (hy : k[c]? = some y) : com (p.drop c) (k.drop c) = if x = y then com (p.drop (c + 1)) (k.drop (c + 1)) + 1 else 0 := by
  rw [drop_at hx, drop_at hy]; rfl
theorem com_end1 (p k : Path) (c : Nat) (h : p.length ≤ c) : com (p.drop c) (k.drop c) = 0 := by rw [List.drop_of_length_le h]; rfl
theorem com_end2 (p k : Path) (c : Nat) (h : k.length ≤ c) : com (p.drop c) (k.drop c) = 0 := by
  rw [List.drop_of_length_le (l := k) h]
  cases p.drop c <;> rfl
theorem beginnings_gv {F : Nat → Prop} (s : Sl) (ks : List Path) (w : World) (h : Nest i64v F w s ks) (hl : ks.length ≤ 1024) (hkl : ∀ k ∈ ks, k.length ≤ 300) : Gv Try.prog 64 #[slv s] (.int .i64 ((allP [] ks).length : Int)) w := by
  have hlen := nest_len h
  obtain ⟨rs, r1, r2, _, r4⟩ := h
  refine culletref12_Beginnings.run _ s w ?_
  unfold culletref12_Beginnings.M culletref12_Beginnings.l1
  rw [hlen]
  refine loopW_of (fun st w' => Ex w w' ∧ st.1 = s ∧ st.2.2.1 = s ∧ st.2.2.2.1 = (ks.length : Int) ∧ ∃ i : Nat, i ≤ ks.length ∧ st.2.2.2.2.1 = (i : Int) ∧ st.2.1 = ((allP [] (ks.take i)).length : Int) ∧ (allP [] (ks.take i)).length ≤ 300 * i) (fun st _ => ks.length - st.2.2.2.2.1.toNat) ?_
    ⟨Ex.refl w, rfl, rfl, rfl, 0, Nat.zero_le _, rfl, rfl, Nat.le_refl _⟩
  rintro k ⟨a1, n', a2, a3, i', u⟩ w' hI hk
  dsimp only at hI hk ⊢
  obtain ⟨hx, rfl, rfl, rfl, i, hi, rfl, rfl, hn⟩ := hI
  unfold culletref12_Beginnings.b1
  refine Cd_dec (fun hlt => ?_) (fun hge => ?_)
  rotate_left
  · have : i = ks.length := by omega
    subst this
    rw [List.take_length]
    exact ⟨rfl, hx⟩
  have hik : i < ks.length := by omega
  refine Pu_idx (r1.ex hx) tII sII (by omega) (by omega) fun a x hx1 hc1 _ => ?_
  refine Rd_one (c := .sl) (x := x) oII hc1 ?_
  rw [Int.toNat_natCast] at hx1
  have hki : ks[i]? = some ks[i] := List.getElem?_eq_getElem hik
  obtain ⟨hxr, _⟩ := r4 i x _ hx1 hki
  have hkli := hkl _ (List.getElem_mem hik)
  have hsucc := allP_len_succ hik
  have hxl := hxr.1
  have hcl := (com_le (prevK ks i) ks[i]).2
  -- the key's share is added
  have fin : ∀ (c : Nat) (w2 : World), Ex w w2 → c = com (prevK ks i) ks[i] → culletref12_Beginnings.j1 (fun en w1 => en = Ending.returned (.int .i64 ((allP [] ks).length : Int)) ∧ Ex w w1) k a2 ((allP [] (ks.take i)).length : Int) x (c : Int) a2 (ks.length : Int) (i : Int) w2 := by
    rintro c w2 hx2 rfl
    unfold culletref12_Beginnings.j1
    rw [wrap64 (x := (i : Int) + 1) (by omega) (by omega), wrap64 (x := ((x.len : Nat) : Int) - (com (prevK ks i) ks[i] : Int)) (by omega) (by omega), wrap64 (x := ((allP [] (ks.take i)).length : Int) + (((x.len : Nat) : Int) - (com (prevK ks i) ks[i] : Int))) (by omega) (by omega)]
    refine hk _ _ ⟨hx2, rfl, rfl, rfl, i + 1, by omega, by simp, ?_, by omega⟩ (by simp only; omega)
    dsimp only
    omega
  refine Cd_dec (fun hpos => ?_) (fun hz => ?_)
  rotate_left
  · refine fin 0 w' hx ?_
    have : i = 0 := by omega
    subst this
    rfl
  have hpi : i - 1 < ks.length := by omega
  have hkp : ks[i - 1]? = some ks[i - 1] := List.getElem?_eq_getElem hpi
  have hprev : prevK ks i = ks[i - 1] := by unfold prevK; rw [if_neg (by omega), List.getD_eq_getElem?_getD, hkp]; rfl
  have hklp := hkl _ (List.getElem_mem hpi)
  rw [hprev] at fin hcl
  generalize ks[i - 1] = prev at *
  generalize ks[i] = key at *
  unfold culletref12_Beginnings.l2
  refine loopW_of (fun st w2 => Ex w w2 ∧ st.1 = a2 ∧ st.2.1 = ((allP [] (ks.take i)).length : Int) ∧ st.2.2.1 = (i : Int) ∧ st.2.2.2.1 = x ∧ st.2.2.2.2.2.1 = a2 ∧ st.2.2.2.2.2.2.1 = (ks.length : Int) ∧ st.2.2.2.2.2.2.2.1 = (i : Int) ∧ ∃ c : Nat, c ≤ key.length ∧ st.2.2.2.2.1 = (c : Int) ∧ com prev key = c + com (prev.drop c) (key.drop c)) (fun st _ => key.length - st.2.2.2.2.1.toNat) ?_
    ⟨hx, rfl, rfl, rfl, rfl, rfl, rfl, rfl, 0, Nat.zero_le _, rfl, by simp⟩
  rintro k2 ⟨b1, b2, b3, b4, c', b5, b6, b7, u2⟩ w2 hI2 hk2
  dsimp only at hI2 hk2 ⊢
  obtain ⟨hx2, rfl, rfl, rfl, rfl, rfl, rfl, rfl, c, hc, rfl, hcom⟩ := hI2
  have hxd := hx2.trans (Ex.drew w2)
  have j2f : ∀ (b : Bool), (b = true → c < key.length ∧ com prev key = (c + 1) + com (prev.drop (c + 1)) (key.drop (c + 1))) → (b = false → c = com prev key) → culletref12_Beginnings.j2 (fun en w1 => en = Ending.returned (.int .i64 ((allP [] ks).length : Int)) ∧ Ex w w1) k k2 b5 ((allP [] (ks.take i)).length : Int) (i : Int) b4 (c : Int) b5 (ks.length : Int) (i : Int) b w2.drew := by
    intro b h1 h2
    unfold culletref12_Beginnings.j2
    refine Cd_of (fun hb => ?_) (fun hb => fin c _ hxd (h2 hb))
    obtain ⟨g1, g2⟩ := h1 hb
    rw [wrap64 (x := (c : Int) + 1) (by omega) (by omega)]
    exact hk2 _ _ ⟨hxd, rfl, rfl, rfl, rfl, rfl, rfl, rfl, c + 1, by omega, by simp, g2⟩ (by simp only; omega)
  unfold culletref12_Beginnings.b2
  refine Cd_dec (fun hcl1 => ?_) (fun hcl1 => j2f false (fun h => by cases h) (fun _ => ?_))
  rotate_left
  · rw [com_end2 _ _ _ (by omega)] at hcom; omega
  have hr1d := r1.ex hxd
  rw [wrap64 (x := (i : Int) - 1) (by omega) (by omega)]
  refine Pu_idx hr1d tII sII (by omega) (by omega) fun a3 y hy1 hc3 _ => ?_
  refine RdS_same (Rd_one (c := .sl) (x := y) oII hc3 ?_)
  rw [show ((i : Int) - 1).toNat = i - 1 by omega] at hy1
  obtain ⟨hyr, _⟩ := r4 _ y _ hy1 hkp
  have hyl := hyr.1
  refine Cd_dec (fun hcl2 => ?_) (fun hcl2 => j2f false (fun h => by cases h) (fun _ => ?_))
  rotate_left
  · rw [com_end1 _ _ _ (by omega)] at hcom; omega
  refine Pu_idx (hxr.ex hxd) tI sI (by omega) (by omega) fun a4 z hz1 hc4 _ => ?_
  refine RdS_same (Rd_one (c := .int .i64) (x := z) oI hc4 ?_)
  refine Pu_idx hr1d tII sII (by omega) (by omega) fun a5 y5 hy5 hc5 _ => ?_
  refine RdS_same (Rd_one (c := .sl) (x := y5) oII hc5 ?_)
  rw [show ((i : Int) - 1).toNat = i - 1 by omega, hy1] at hy5
  cases hy5
  refine Pu_idx (hyr.ex hxd) tI sI (by omega) (by omega) fun a6 v hv1 hc6 _ => ?_
  refine RdS_same (Rd_one (c := .int .i64) (x := v) oI hc6 ?_)
  rw [Int.toNat_natCast] at hz1 hv1
  rw [com_at hv1 hz1] at hcom
  refine j2f _ (fun hb => ?_) (fun hb => ?_)
  · have : z = v := beq_t hb
    rw [if_pos this.symm] at hcom
    omega
  · have : z ≠ v := beq_f hb
    rw [if_neg (fun e => this e.symm)] at hcom
    omega
end Go.Proofs.Ytdnlnloogfnlgaa
