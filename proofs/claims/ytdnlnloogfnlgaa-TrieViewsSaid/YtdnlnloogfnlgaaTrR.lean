/- How many nodes lie below a node. -/
import Derived.Test.YtdnlnloogfnlgaaTrQ
set_option linter.all false
namespace Go.Proofs.Ytdnlnloogfnlgaa
open Go Go.Cu Go.RowKit
set_option linter.unusedVariables false
set_option maxHeartbeats 4000000
theorem snoc_prefix {p q : Path} {x z : Int} (h : p ++ [x] <+: q) (k : p ++ [z] <+: q) : x = z := by
  obtain ⟨s, rfl⟩ := h
  obtain ⟨t, ht⟩ := k
  simp only [List.append_assoc, List.append_cancel_left_eq, List.singleton_append, List.cons.injEq] at ht
  exact ht.1.symm
theorem prefix_snoc {p q : Path} (h : p <+: q) (hne : q ≠ p) : ∃ x, p ++ [x] <+: q := by
  obtain ⟨s, rfl⟩ := h
  match s, hne with
  | [], hne => exact absurd (List.append_nil p) hne
  | x :: s, _ => exact ⟨x, s, by simp⟩
theorem pre_all {ns : List Path} (hpre : ∀ p x, p ++ [x] ∈ ns → p ∈ ns) {p q : Path} (h : p <+: q) (hq : q ∈ ns) : p ∈ ns := by
  refine Classical.byContradiction fun hn => ?_
  have e := List.prefix_iff_eq_take.1 h
  rw [e] at hn
  exact pre_take hpre _ p.length rfl hn hq
theorem below_ok {own vown : Nat → Prop} {tb : Nat} {lim n clock : Int} {y : Lay} {ns : List Path} (hcap : ∀ L : List Path, L.Nodup → (∀ q ∈ L, q ∈ ns) → L.length ≤ 1000000) :
    ∀ (d : Nat) (p : Path) (w : World), Mem w own vown tb lim n clock ns y → p ∈ ns → (∀ x ∈ ns, p <+: x → x.length ≤ p.length + d) →
      Calls Try.prog 53 #[.pointer (ndP y p)] w fun en w' => ∃ L : List Path, L.Nodup ∧ (∀ q, q ∈ L ↔ q ∈ ns ∧ p <+: q ∧ q ≠ p) ∧ en = .returned (.int .i64 (L.length : Int)) ∧ Ex w w' := by
  intro d
  induction d using Nat.strongRecOn with
  | _ d ih =>
  intro p w h hp hd
  refine trie_node_below.run _ _ w ?_
  unfold trie_node_below.M
  refine Pu_nil ?_
  refine Rd_has (c := .map) (x := some (y.mp p)) (h.node p hp) (by kernel_rfl) rfl ?_
  obtain ⟨l, hm, hk⟩ := h.kids p hp
  have hmd : y.mp p < w.heap.size := hm.lt
  refine Wr_range tMap hm fun w1 hit1 hx1 => ?_
  unfold trie_node_below.l1
  refine loopW_of (fun st w' => st.2.1 = ⟨w.heap.size, 0, none⟩ ∧ ∃ (rem : List (Int × Value)) (L : List Path), Ex w w' ∧ IterIs w' w.heap.size (y.mp p) l rem ∧ (∀ q ∈ rem, q ∈ l) ∧ L.Nodup ∧ st.1 = (L.length : Int) ∧
      ∀ q, q ∈ L ↔ q ∈ ns ∧ ∃ x, p ++ [x] <+: q ∧ ∀ v, (x, v) ∉ rem) (fun st w' => iterLeft w' st.2.1.block) ?_
    ⟨rfl, l, [], hx1, hit1, fun _ => id, List.nodup_nil, rfl, fun q => ⟨fun h => (by simp at h), fun ⟨hq, x, hx, hv⟩ => absurd ((hk x _).2 ⟨pre_all h.pre hx hq, rfl⟩) (hv _)⟩⟩
  rintro k ⟨c', it', u⟩ w' hI hkk
  dsimp only at hI hkk ⊢
  obtain ⟨rfl, rem, L, hx, hit, hsub, hL, rfl, hmem⟩ := hI
  unfold trie_node_below.b1
  have hrm : w.heap.size ≠ y.mp p := by omega
  refine Wr_next hit hrm (fun q hq => ⟨_, ((hk q.1 q.2).1 hq).2⟩) (fun hrem => ?_) (fun x z w4 hxz hit4 hcur4 hmo4 => ?_)
  · refine Cd_f ?_
    subst hrem
    refine ⟨L, hL, fun q => ?_, rfl, hx⟩
    rw [hmem]
    constructor
    · rintro ⟨hq, x, hx, _⟩
      refine ⟨hq, (List.prefix_append p [x]).trans hx, ?_⟩
      rintro rfl
      have := hx.length_le
      rw [List.length_append, List.length_singleton] at this
      exact absurd this (Nat.not_succ_le_self _)
    · rintro ⟨hq, hpq, hne⟩
      obtain ⟨x, hx⟩ := prefix_snoc hpq hne
      exact ⟨hq, x, hx, fun v hv => by cases hv⟩
  · refine Cd_t ?_
    refine Rd_entry hcur4 ?_
    obtain ⟨hpx, hz⟩ := (hk x _).1 (hsub _ hxz)
    have hz : z = ndP y (p ++ [x]) := by cases hz; rfl
    subst hz
    have hx4 : Ex w w4 := hx.into hmo4 (fun b hb => by rw [show b = w.heap.size from hb]; exact Nat.le_refl _)
    have hdx := hd _ hpx (List.prefix_append p [x])
    rw [List.length_append, List.length_singleton] at hdx
    refine Calls.mono (ih (d - 1) (by omega) (p ++ [x]) w4 (h.ex hx4) hpx (fun q hq hpq => ?_)) ?_
    · have := hd q hq ((List.prefix_append p [x]).trans hpq)
      rw [List.length_append, List.length_singleton]
      omega
    · rintro en w5 ⟨Lx, hLx, hmx, rfl, hx5⟩
      refine ⟨_, rfl, ?_⟩
      have hnd : (L ++ (p ++ [x]) :: Lx).Nodup := by
        rw [List.nodup_append]
        refine ⟨hL, List.nodup_cons.2 ⟨fun hh => ((hmx _).1 hh).2.2 rfl, hLx⟩, fun a ha b hb hab => ?_⟩
        subst hab
        obtain ⟨_, x', hx', hv⟩ := (hmem a).1 ha
        have hpa : p ++ [x] <+: a := by
          rcases List.mem_cons.1 hb with rfl | hb
          · exact List.prefix_refl _
          · exact ((hmx a).1 hb).2.1
        rw [snoc_prefix hx' hpa] at hv
        exact hv _ hxz
      have hall : ∀ q, q ∈ L ++ (p ++ [x]) :: Lx ↔ q ∈ ns ∧ ∃ x', p ++ [x'] <+: q ∧ ∀ v, (x', v) ∉ rem.filter (fun p => decide (p.1 ≠ x)) := by
        intro q
        rw [List.mem_append, hmem, List.mem_cons, hmx]
        constructor
        · rintro (⟨hq, x', hx', hv⟩ | rfl | ⟨hq, hpq, _⟩)
          · exact ⟨hq, x', hx', fun v hh => hv v (List.mem_filter.1 hh).1⟩
          · exact ⟨hpx, x, List.prefix_refl _, fun v hh => by simpa using (List.mem_filter.1 hh).2⟩
          · exact ⟨hq, x, hpq, fun v hh => by simpa using (List.mem_filter.1 hh).2⟩
        · rintro ⟨hq, x', hx', hv⟩
          by_cases hxx : x' = x
          · subst hxx
            by_cases hqe : q = p ++ [x']
            · exact .inr (.inl hqe)
            · exact .inr (.inr ⟨hq, hx', hqe⟩)
          · exact .inl ⟨hq, x', hx', fun v hh => hv v (List.mem_filter.2 ⟨hh, by simpa using hxx⟩)⟩
      have hc := hcap _ hnd (fun q hq => ((hall q).1 hq).1)
      rw [List.length_append, List.length_cons] at hc
      dsimp only
      rw [wrap64 (x := 1 + (Lx.length : Int)) (by omega) (by omega), wrap64 (x := (L.length : Int) + (1 + (Lx.length : Int))) (by omega) (by omega)]
      have hit5 := hit4.mo hx5 id id
      refine hkk _ _ ⟨rfl, _, _, hx4.trans hx5, hit5, fun q hq => hsub q (List.mem_filter.1 hq).1, hnd, by rw [List.length_append, List.length_cons]; omega, hall⟩ ?_
      show iterLeft w5 w.heap.size < iterLeft w' w.heap.size
      rw [hit5.left, hit.left]
      exact List.length_filter_lt_length_iff_exists.2 ⟨_, hxz, by simp⟩
theorem flat_len (k : Nat) : ∀ es : List Ent, (es.flatMap fun e => (List.range k).map fun i => e.1.take i).length = es.length * k
  | [] => by simp
  | e :: es => by
    rw [List.flatMap_cons, List.length_append, flat_len k es, List.length_map, List.length_range, List.length_cons, Nat.succ_mul, Nat.add_comm]
/-- how many lists, the empty one not counted, begin a key -/
theorem Ents.few {es : List Ent} {ns : List Path} {y : Lay} {lim clock : Int} (h : Ents es ns y lim clock) : ∀ L : List Path, L.Nodup → (∀ q ∈ L, q ∈ ns) → L.length ≤ 1000000 := by
  intro L hn hs
  have hB := nodup_sub_len L ([] :: es.flatMap fun e => (List.range 258).map fun i => e.1.take i) hn (fun q hq => ?_)
  · have e : (es.flatMap fun e => (List.range 258).map fun i => e.1.take i).length = es.length * 258 := by
      exact flat_len 258 es
    rw [List.length_cons, e] at hB
    have := h.room
    have := h.lim2
    have h1 : es.length ≤ 1024 := by omega
    have := Nat.mul_le_mul_right 258 h1
    omega
  · rcases h.clean q (hs q hq) with rfl | ⟨e, he, hqe⟩
    · exact List.mem_cons_self
    · refine List.mem_cons_of_mem _ (List.mem_flatMap.2 ⟨e, he, List.mem_map.2 ⟨q.length, ?_, (List.prefix_iff_eq_take.1 hqe).symm⟩⟩)
      have := hqe.length_le
      have := good_len (h.good e he)
      exact List.mem_range.2 (by omega)
end Go.Proofs.Ytdnlnloogfnlgaa
