/- Under: the keys that begin so, in order. Len. -/
import Derived.Test.YtdnlnloogfnlgaaTrK
set_option linter.all false
namespace Go.Proofs.Ytdnlnloogfnlgaa
open Go Go.Cu Go.RowKit
set_option linter.unusedVariables false
set_option maxHeartbeats 4000000
theorem goodFrom_len : ∀ (l : List Int) (p : Int), goodFrom p l = true → (l.length : Int) ≤ 255 - p ∨ l = []
  | [], _, _ => .inr rfl
  | x :: r, p, h => by
    unfold goodFrom at h
    rw [Bool.and_eq_true, decide_eq_true_iff] at h
    left
    rcases goodFrom_len r x h.2 with g | g
    · simp only [List.length_cons]; omega
    · subst g; simp only [List.length_cons, List.length_nil]; omega
theorem good_len {l : List Int} (h : goodB l = true) : l.length ≤ 256 := by
  rcases goodFrom_len l (-1) h with g | g
  · omega
  · subst g; simp
theorem goodFrom_last : ∀ (p : Path) (x q : Int), goodFrom q (p ++ [x]) = true → q < x ∧ x ≤ 255
  | [], x, q, h => by
    simp only [List.nil_append, goodFrom, Bool.and_eq_true, decide_eq_true_iff] at h
    exact h.1
  | z :: p, x, q, h => by
    rw [List.cons_append] at h
    unfold goodFrom at h
    rw [Bool.and_eq_true, decide_eq_true_iff] at h
    have := goodFrom_last p x z h.2
    omega
/-- what the walk asks for, of what a trie keeps -/
theorem nodup_bound {lo hi : Int} : ∀ (n : Nat) (xs : List Int), xs.Nodup → (∀ x ∈ xs, lo ≤ x ∧ x ≤ hi) → hi - lo + 1 ≤ n → xs.length ≤ n
  | 0, xs, hn, hb, hle => by
    cases xs with
    | nil => simp
    | cons x r => have := hb x (by simp); omega
  | n + 1, xs, hn, hb, hle => by
    by_cases hin : hi ∈ xs
    · have h1 : (xs.erase hi).length ≤ n ∨ True := .inr trivial
      have hp := List.perm_cons_erase hin
      have hn2 : (xs.erase hi).Nodup := hn.erase hi
      have hlen := hp.length_eq
      rw [List.length_cons] at hlen
      have := nodup_bound (lo := lo) (hi := hi - 1) n (xs.erase hi) hn2 (fun x hx => by
        have hne : x ≠ hi := by
          have := (hp.nodup_iff.1 hn)
          rw [List.nodup_cons] at this
          rintro rfl; exact this.1 hx
        have := hb x (List.mem_of_mem_erase hx)
        omega) (by omega)
      omega
    · have := nodup_bound (lo := lo) (hi := hi - 1) n xs hn (fun x hx => by
        have hne : x ≠ hi := by rintro rfl; exact hin hx
        have := hb x hx
        omega) (by omega)
      omega
theorem nodup_sub_len : ∀ (l m : List Path), l.Nodup → (∀ x ∈ l, x ∈ m) → l.length ≤ m.length
  | [], _, _, _ => Nat.zero_le _
  | x :: l, m, hn, h => by
    rw [List.nodup_cons] at hn
    have hp := List.perm_cons_erase (h x (by simp))
    have := nodup_sub_len l (m.erase x) hn.2 (fun z hz => (List.mem_erase_of_ne (fun e => hn.1 (by rw [← e]; exact hz))).2 (h z (by simp [hz])))
    have hl := hp.length_eq
    rw [List.length_cons] at hl ⊢
    omega
theorem Ents.cap {es : List Ent} {ns : List Path} {y : Lay} {lim clock : Int} (h : Ents es ns y lim clock) : ∀ l : List Path, l.Nodup → (∀ k ∈ l, k ∈ ns ∧ y.here k = true) → l.length ≤ 1024 := by
  intro l hn hl
  have hsub : ∀ k ∈ l, k ∈ es.map (·.1) := fun k hk => by
    obtain ⟨e, he, hek⟩ := (h.here k (hl k hk).1).1 (hl k hk).2
    exact List.mem_map.2 ⟨e, he, hek⟩
  have h1 : l.length ≤ (es.map (·.1)).length := nodup_sub_len l _ hn hsub
  have := h.room
  have := h.lim2
  rw [List.length_map] at h1
  omega
theorem Ents.lens {es : List Ent} {ns : List Path} {y : Lay} {lim clock : Int} (h : Ents es ns y lim clock) : ∀ k ∈ ns, k.length ≤ 300 := fun k hk => by have := good_len (h.goodN k hk); omega
theorem Ents.kids {es : List Ent} {ns : List Path} {y : Lay} {lim clock : Int} (h : Ents es ns y lim clock) : ∀ (p : Path) (xs : List Int), xs.Nodup → (∀ x ∈ xs, p ++ [x] ∈ ns) → xs.length ≤ 300 := by
  intro p xs hn hx
  exact nodup_bound (lo := 0) (hi := 255) 300 xs hn (fun x hxx => by have := goodFrom_last p x (-1) (h.goodN _ (hx x hxx)); omega) (by omega)
/-- keys that begin with p, in order -/
structure KeysUnder (es : List Ent) (p : Path) (ks : List Path) : Prop where
  order : ks.Pairwise lessP
  mem : ∀ k, k ∈ ks ↔ (∃ e ∈ es, e.1 = k) ∧ p <+: k
theorem Listed.keys {es : List Ent} {ns : List Path} {y : Lay} {lim clock : Int} {p : Path} {out : List (Path × Int)} (he : Ents es ns y lim clock) (h : Listed y ns p out) : KeysUnder es p (out.map (·.1)) := by
  constructor
  · rw [List.pairwise_map]; exact h.order
  · intro k
    constructor
    · intro hk
      obtain ⟨⟨k', u⟩, hq, rfl⟩ := List.mem_map.1 hk
      obtain ⟨g1, g2, g3, _⟩ := (h.mem _ u).1 hq
      exact ⟨(he.here _ g1).1 g3, g2⟩
    · rintro ⟨⟨e, hee, rfl⟩, hp⟩
      have hin := (he.rows e hee).1
      exact List.mem_map.2 ⟨(e.1, y.used e.1), (h.mem _ _).2 ⟨hin, hp, (he.here _ hin).2 ⟨e, hee, rfl⟩, rfl⟩, rfl⟩
theorem Listed.len {es : List Ent} {ns : List Path} {y : Lay} {lim clock : Int} {p : Path} {out : List (Path × Int)} (he : Ents es ns y lim clock) (h : Listed y ns p out) : out.length ≤ 1024 ∧ ∀ k ∈ out, k.1.length ≤ 300 := by
  refine ⟨?_, fun k hk => ?_⟩
  · have := he.cap (out.map (·.1)) h.nodup (fun k hk => by
      obtain ⟨⟨k', u⟩, hq, rfl⟩ := List.mem_map.1 hk
      have := (h.mem _ u).1 hq
      exact ⟨this.1, this.2.2.1⟩)
    simpa using this
  · obtain ⟨k', u⟩ := k
    exact he.lens _ ((h.mem _ u).1 hk).1
theorem under_ok {w : World} {own : Nat → Prop} {tb : Nat} {lim clock : Int} {es : List Ent} (h : TrieSt w own tb lim es clock) (s : Sl) (l : Path) (hr : Rds i64v w s l) (hl : l.length ≤ 9223372036854775806) :
    Calls Try.prog 29 #[.pointer (some ⟨tb, 0, none⟩), slv s] w fun en w' => ∃ s' ks, en = .returned (slv s') ∧ NestOwn i64v 3 29 w.heap.size w' s' ks ∧ KeysUnder es l ks ∧ Ex w w' := by
  obtain ⟨vown, ns, y, hm, he⟩ := h
  refine trie_Trie_Under.run _ _ s w ?_
  unfold trie_Trie_Under.M
  refine Cl_gvp (find_gv hm he.goodN s l hr hl) fun w1 hx1 => ?_
  refine Pu_eqnil tN ?_
  by_cases hin : l ∈ ns
  · rw [if_pos hin]
    refine Cd_f ?_
    have hll := he.lens l hin
    refine Cl_sl (clone_own s l w1 (hr.ex hx1) (by omega)) fun s2 w2 ho2 hx2 => ?_
    have hx12 := hx1.trans hx2
    have hm2 := hm.ex hx12
    refine Calls.mono (walk_ok w2.heap.size (fun b hb => hm2.ownL b hb) he.cap he.lens he.kids 300 l s2 nilS [] w2 hm2 hin (fun x hx _ => by have := he.lens x hx; omega) ⟨ho2.rds, fun a ha => ⟨(ho2.base _ (slin_of ha)).2, fun hb => by obtain ⟨b, hb, _⟩ := hb; cases hb⟩, FoundAt.nil _ _, Nat.le_refl _, List.nodup_nil, fun k hk => by simp at hk⟩) ?_
    rintro en w3 ⟨s3, out, rfl, hf3, hmo3, _, hL⟩
    refine ⟨s3, rfl, ?_⟩
    have hx3 : Ex w2 w3 := hmo3.new (fun i ⟨a, ha, _⟩ => by cases ha)
    rw [List.nil_append] at hf3
    obtain ⟨hlen, hkl⟩ := hL.len he
    refine Calls.mono (keys_nest _ s3 out w3 hf3 hlen hkl) ?_
    rintro en w4 ⟨s4, rfl, hn4, hx4⟩
    exact ⟨s4, rfl, s4, _, rfl, hn4.weak (hx12.trans hx3).size, hL.keys he, (hx12.trans hx3).trans hx4⟩
  · rw [if_neg hin]
    refine Cd_t ?_
    refine ⟨nilS, [], rfl, NestOwn.nil _ _ _ _ _, ⟨List.Pairwise.nil, fun k => ⟨fun h => (by simp at h), fun ⟨⟨e, hee, hek⟩, t, ht⟩ => ?_⟩⟩, hx1⟩
    exfalso
    have hkin := (he.rows e hee).1
    rw [hek, ← ht] at hkin
    exact pre_take hm.pre _ l.length rfl (by rw [List.take_left]; exact hin) hkin
theorem len_gv {w : World} {own : Nat → Prop} {tb : Nat} {lim clock : Int} {es : List Ent} (h : TrieSt w own tb lim es clock) : Gv Try.prog 34 #[.pointer (some ⟨tb, 0, none⟩)] (.int .i64 es.length) w := by
  obtain ⟨vown, ns, y, hm, he⟩ := h
  refine trie_Trie_Len.run _ _ w ?_
  unfold trie_Trie_Len.M
  refine Pu_eqnil tT ?_
  refine Cd_f ?_
  refine Pu_nil ?_
  refine Rd_has hm.top (by kernel_rfl) rfl ?_
  exact ⟨rfl, Ex.refl w⟩
end Go.Proofs.Ytdnlnloogfnlgaa
