/- How many nodes lie below a node. -/
import Derived.Test.YtdnlnloogfnlgaaTrP
set_option linter.all false
namespace Go.Proofs.Ytdnlnloogfnlgaa
open Go Go.Cu Go.RowKit
set_option linter.unusedVariables false
set_option maxHeartbeats 4000000
theorem snoc_prefix {p q : Path} {x z : Int} (h : p ++ [x] <+: q) (k : p ++ [z] <+: q) : x = z := by
  obtain ⟨s, rfl⟩ := h
  obtain ⟨t, ht⟩ := k
  simp only [List.append_assoc, List.append_cancel_left_eq, List.singleton_append, List.cons.injEq] at ht
  exact ht.1.symm
theorem prefix_snoc {p q : Path} (h : p <+: q) (hne : q ≠ p) : ∃ x, p ++ [x] <+: q := by
  obtain ⟨s, rfl⟩ := h
  match s, hne with
  | [], hne => exact absurd (List.append_nil p) hne
  | x :: s, _ => exact ⟨x, s, by simp⟩
theorem pre_all {ns : List Path} (hpre : ∀ p x, p ++ [x] ∈ ns → p ∈ ns) {p q : Path} (h : p <+: q) (hq : q ∈ ns) : p ∈ ns := by
  refine Classical.byContradiction fun hn => ?_
  have e := List.prefix_iff_eq_take.1 h
  rw [e] at hn
  exact pre_take hpre _ p.length rfl hn hq
theorem below_ok {own vown : Nat → Prop} {tb : Nat} {lim n clock : Int} {y : Lay} {ns : List Path} (hcap : ∀ L : List Path, L.Nodup → (∀ q ∈ L, q ∈ ns) → L.length ≤ 1000000) :
    ∀ (d : Nat) (p : Path) (w : World), Mem w own vown tb lim n clock ns y → p ∈ ns → (∀ x ∈ ns, p <+: x → x.length ≤ p.length + d) →
      Calls Try.prog 53 #[.pointer (ndP y p)] w fun en w' => ∃ L : List Path, L.Nodup ∧ (∀ q, q ∈ L ↔ q ∈ ns ∧ p <+: q ∧ q ≠ p) ∧ en = .returned (.int .i64 (L.length : Int)) ∧ Ex w w' := by
  intro d
  induction d using Nat.strongRecOn with
  | _ d ih =>
  intro p w h hp hd
  refine trie_node_below.run _ _ w ?_
  unfold trie_node_below.M
  refine Pu_nil ?_
  refine Rd_has (c := .map) (x := some (y.mp p)) (h.node p hp) (by kernel_rfl) rfl ?_
  obtain ⟨l, hm, hk⟩ := h.kids p hp
  have hmd : y.mp p < w.heap.size := hm.lt
  refine Wr_range tMap hm fun w1 hit1 hx1 => ?_
  unfold trie_node_below.l1
  refine loopW_of (fun st w' => st.2.1 = ⟨w.heap.size, 0, none⟩ ∧ ∃ (rem : List (Int × Value)) (L : List Path), Ex w w' ∧ IterIs w' w.heap.size (y.mp p) l rem ∧ (∀ q ∈ rem, q ∈ l) ∧ L.Nodup ∧ st.1 = (L.length : Int) ∧
      ∀ q, q ∈ L ↔ q ∈ ns ∧ ∃ x, p ++ [x] <+: q ∧ ∀ v, (x, v) ∉ rem) (fun st w' => iterLeft w' st.2.1.block) ?_
    ⟨rfl, l, [], hx1, hit1, fun _ => id, List.nodup_nil, rfl, fun q => ⟨fun h => (by simp at h), fun ⟨hq, x, hx, hv⟩ => absurd ((hk x _).2 ⟨pre_all h.pre hx hq, rfl⟩) (hv _)⟩⟩
  rintro k ⟨c', it', u⟩ w' hI hkk
  dsimp only at hI hkk ⊢
  obtain ⟨rfl, rem, L, hx, hit, hsub, hL, rfl, hmem⟩ := hI
  unfold trie_node_below.b1
  have hrm : w.heap.size ≠ y.mp p := by omega
  refine Wr_next hit hrm (fun q hq => ⟨_, ((hk q.1 q.2).1 hq).2⟩) (fun hrem => ?_) (fun x z w4 hxz hit4 hcur4 hmo4 => ?_)
  · refine Cd_f ?_
    subst hrem
    refine ⟨L, hL, fun q => ?_, rfl, hx⟩
    rw [hmem]
    constructor
    · rintro ⟨hq, x, hx, _⟩
      refine ⟨hq, (List.prefix_append p [x]).trans hx, ?_⟩
      rintro rfl
      have := hx.length_le
      rw [List.length_append, List.length_singleton] at this
      exact absurd this (Nat.not_succ_le_self _)
    · rintro ⟨hq, hpq, hne⟩
      obtain ⟨x, hx⟩ := prefix_snoc hpq hne
      exact ⟨hq, x, hx, fun v hv => by cases hv⟩
  · refine Cd_t ?_
    refine Rd_entry hcur4 ?_
    obtain ⟨hpx, hz⟩ := (hk x _).1 (hsub _ hxz)
    have hz : z = ndP y (p ++ [x]) := by cases hz; rfl
    subst hz
    have hx4 : Ex w w4 := hx.into hmo4 (fun b hb => by rw [show b = w.heap.size from hb]; exact Nat.le_refl _)
    have hdx := hd _ hpx (List.prefix_append p [x])
    rw [List.length_append, List.length_singleton] at hdx
    refine Calls.mono (ih (d - 1) (by omega) (p ++ [x]) w4 (h.ex hx4) hpx (fun q hq hpq => ?_)) ?_
    · have := hd q hq ((List.prefix_append p [x]).trans hpq)
      rw [List.length_append, List.length_singleton]
      omega
    · rintro en w5 ⟨Lx, hLx, hmx, rfl, hx5⟩
      refine ⟨_, rfl, ?_⟩
      have hnd : (L ++ (p ++ [x]) :: Lx).Nodup := by
        rw [List.nodup_append]
        refine ⟨hL, List.nodup_cons.2 ⟨fun hh => ((hmx _).1 hh).2.2 rfl, hLx⟩, fun a ha b hb hab => ?_⟩
        subst hab
        obtain ⟨_, x', hx', hv⟩ := (hmem a).1 ha
        have hpa : p ++ [x] <+: a := by
          rcases List.mem_cons.1 hb with rfl | hb
          · exact List.prefix_refl _
          · exact ((hmx a).1 hb).2.1
        rw [snoc_prefix hx' hpa] at hv
        exact hv _ hxz
      have hall : ∀ q, q ∈ L ++ (p ++ [x]) :: Lx ↔ q ∈ ns ∧ ∃ x', p ++ [x'] <+: q ∧ ∀ v, (x', v) ∉ rem.filter (fun p => decide (p.1 ≠ x)) := by
        intro q
        rw [List.mem_append, hmem, List.mem_cons, hmx]
        constructor
        · rintro (⟨hq, x', hx', hv⟩ | rfl | ⟨hq, hpq, _⟩)
          · exact ⟨hq, x', hx', fun v hh => hv v (List.mem_filter.1 hh).1⟩
          · exact ⟨hpx, x, List.prefix_refl _, fun v hh => by simpa using (List.mem_filter.1 hh).2⟩
          · exact ⟨hq, x, hpq, fun v hh => by simpa using (List.mem_filter.1 hh).2⟩
        · rintro ⟨hq, x', hx', hv⟩
          by_cases hxx : x' = x
          · subst hxx
            by_cases hqe : q = p ++ [x']
            · exact .inr (.inl hqe)
            · exact .inr (.inr ⟨hq, hx', hqe⟩)
          · exact .inl ⟨hq, x', hx', fun v hh => hv v (List.mem_filter.2 ⟨hh, by simpa using hxx⟩)⟩
      have hc := hcap _ hnd (fun q hq => ((hall q).1 hq).1)
      rw [List.length_append, List.length_cons] at hc
      dsimp only
      rw [wrap64 (x := 1 + (Lx.length : Int)) (by omega) (by omega), wrap64 (x := (L.length : Int) + (1 + (Lx.length : Int))) (by omega) (by omega)]
      have hit5 := hit4.mo hx5 id id
      refine hkk _ _ ⟨rfl, _, _, hx4.trans hx5, hit5, fun q hq => hsub q (List.mem_filter.1 hq).1, hnd, by rw [List.length_append, List.length_cons]; omega, hall⟩ ?_
      show iterLeft w5 w.heap.size < iterLeft w' w.heap.size
      rw [hit5.left, hit.left]
      exact List.length_filter_lt_length_iff_exists.2 ⟨_, hxz, by simp⟩
theorem flat_len (k : Nat) : ∀ es : List Ent, (es.flatMap fun e => (List.range k).map fun i => e.1.take i).length = es.length * k
  | [] => by simp
  | e :: es => by
    rw [List.flatMap_cons, List.length_append, flat_len k es, List.length_map, List.length_range, List.length_cons, Nat.succ_mul, Nat.add_comm]
/-- how many lists, the empty one not counted, begin a key -/
theorem Ents.few {es : List Ent} {ns : List Path} {y : Lay} {lim clock : Int} (h : Ents es ns y lim clock) : ∀ L : List Path, L.Nodup → (∀ q ∈ L, q ∈ ns) → L.length ≤ 1000000 := by
  intro L hn hs
  have hB := nodup_sub_len L ([] :: es.flatMap fun e => (List.range 258).map fun i => e.1.take i) hn (fun q hq => ?_)
  · have e : (es.flatMap fun e => (List.range 258).map fun i => e.1.take i).length = es.length * 258 := by
      exact flat_len 258 es
    rw [List.length_cons, e] at hB
    have := h.room
    have := h.lim2
    have h1 : es.length ≤ 1024 := by omega
    have := Nat.mul_le_mul_right 258 h1
    omega
  · rcases h.clean q (hs q hq) with rfl | ⟨e, he, hqe⟩
    · exact List.mem_cons_self
    · refine List.mem_cons_of_mem _ (List.mem_flatMap.2 ⟨e, he, List.mem_map.2 ⟨q.length, ?_, (List.prefix_iff_eq_take.1 hqe).symm⟩⟩)
      have := hqe.length_le
      have := good_len (h.good e he)
      exact List.mem_range.2 (by omega)
end Go.Proofs.Ytdnlnloogfnlgaa
/- Nodes; and a trie that is known to work. -/
namespace Go.Proofs.Ytdnlnloogfnlgaa
open Go Go.Cu Go.RowKit
set_option linter.unusedVariables false
set_option maxHeartbeats 4000000
/-- the lists, the empty one not counted, that begin a key -/
def Begun (ks : List Path) (L : List Path) : Prop := L.Nodup ∧ ∀ q, q ∈ L ↔ q ≠ [] ∧ ∃ k ∈ ks, q <+: k
theorem nodes_ok {w : World} {own : Nat → Prop} {tb : Nat} {lim clock : Int} {es : List Ent} (h : TrieSt w own tb lim es clock) :
    Calls Try.prog 35 #[.pointer (some ⟨tb, 0, none⟩)] w fun en w' => ∃ L, Begun (es.map (·.1)) L ∧ L.length ≤ 1000000 ∧ en = .returned (.int .i64 (L.length : Int)) ∧ Ex w w' := by
  obtain ⟨vown, ns, y, hm, he⟩ := h
  refine trie_Trie_Nodes.run _ _ w ?_
  unfold trie_Trie_Nodes.M
  refine Pu_eqnil tT ?_
  refine Cd_f ?_
  refine Pu_nil ?_
  refine Rd_has hm.top (by kernel_rfl) rfl ?_
  refine Pu_eqnil tN ?_
  unfold trie_Trie_Nodes.j1
  refine Cd_f ?_
  refine Pu_nil ?_
  refine Rd_has hm.top (by kernel_rfl) rfl ?_
  refine Calls.mono (below_ok he.few 300 [] w hm hm.root (fun q hq _ => by have := he.lens q hq; simp only [List.length_nil]; omega)) ?_
  rintro en w1 ⟨L, h1, h2, rfl, hx⟩
  refine ⟨_, rfl, L, ⟨h1, fun q => ?_⟩, he.few L h1 (fun q hq => ((h2 q).1 hq).1), rfl, hx⟩
  rw [h2]
  constructor
  · rintro ⟨hq, _, hne⟩
    rcases he.clean q hq with h0 | ⟨e, hee, hqe⟩
    · exact absurd h0 hne
    · exact ⟨hne, e.1, List.mem_map.2 ⟨e, hee, rfl⟩, hqe⟩
  · rintro ⟨hne, k, hk, hqk⟩
    obtain ⟨e, hee, rfl⟩ := List.mem_map.1 hk
    exact ⟨pre_all hm.pre hqk (he.rows e hee).1, List.nil_prefix, hne⟩
end Go.Proofs.Ytdnlnloogfnlgaa
/- A trie that is known to work: 'fixed'. -/
namespace Go.Proofs.Ytdnlnloogfnlgaa
open Go Go.Cu Go.RowKit
set_option linter.unusedVariables false
set_option maxHeartbeats 4000000
theorem TrieSt.ownL {w : World} {own : Nat → Prop} {tb : Nat} {lim clock : Int} {es : List Ent} (h : TrieSt w own tb lim es clock) : ∀ b, own b → b < w.heap.size := by
  obtain ⟨v, ns, y, h1, _⟩ := h; exact h1.ownL
theorem nest_two {base : Nat} {w : World} {s s1 s2 : Sl} {l m : List Int} {e eo : TypeId} (h1 : Own b8 e base w s1 l) (h2 : Own b8 e base w s2 m) (h : Own slv eo base w s [s1, s2]) : Nest b8 (fun b => base ≤ b) w s [l, m] := by
  refine ⟨[s1, s2], h.rds, rfl, fun a ha => (h.base _ (slin_of ha)).1, fun i s' l' hs hl => ?_⟩
  match i, hs, hl with
  | 0, hs, hl =>
    obtain rfl : s1 = s' := by simpa using hs
    obtain rfl : l = l' := by simpa using hl
    exact ⟨h1.rds, fun a ha => (h1.base _ (slin_of ha)).1⟩
  | 1, hs, hl =>
    obtain rfl : s2 = s' := by simpa using hs
    obtain rfl : m = l' := by simpa using hl
    exact ⟨h2.rds, fun a ha => (h2.base _ (slin_of ha)).1⟩
  | n + 2, hs, hl => simp at hs
theorem begun_two {L : List Path} (h : Begun [[1, 4]] L) : L.length = 2 := by
  have h1 := nodup_sub_len L [[1], [1, 4]] h.1 (fun q hq => ?_)
  · have h2 := nodup_sub_len [[1], [1, 4]] L (by decide) (fun q hq => ?_)
    · simp only [List.length_cons, List.length_nil] at h1 h2; omega
    · rw [h.2]
      simp only [List.mem_cons, List.not_mem_nil, or_false] at hq
      rcases hq with rfl | rfl
      · exact ⟨by simp, [1, 4], by simp, by simp⟩
      · exact ⟨by simp, [1, 4], by simp, List.prefix_refl _⟩
  · obtain ⟨hne, k, hk, hqk⟩ := (h.2 q).1 hq
    simp only [List.mem_cons, List.not_mem_nil, or_false] at hk
    subst hk
    have := List.prefix_iff_eq_take.1 hqk
    have hl := hqk.length_le
    simp only [List.length_cons, List.length_nil] at hl
    match hn : q.length, hl with
    | 0, _ => exact absurd (List.eq_nil_of_length_eq_zero hn) hne
    | 1, _ => rw [hn] at this; rw [this]; simp
    | 2, _ => rw [hn] at this; rw [this]; simp
theorem fixed_gv (w : World) : Gv Try.prog 12 #[] (.bool true) w := by
  refine culletlaw12_fixed.run _ w ?_
  unfold culletlaw12_fixed.M
  refine Calls.mono (new_ok 2 w) ?_
  rintro en w1 ⟨hx1, (⟨hb, _⟩ | ⟨_, tb, rfl, htb, hst⟩)⟩
  · omega
  refine ⟨(some ⟨tb, 0, none⟩, 0, ()), rfl, ?_⟩
  refine Pu_eqnil tT ?_
  refine Cd_f ?_
  have c0 : ((0 : Int) != 0) = false := rfl
  unfold culletlaw12_fixed.j1
  refine Cd_f ?_
  refine Wr_lit (f := i64v) (e := 3) (base := w1.heap.size) [1, 4] (by kernel_rfl) (Nat.le_refl _) (by simp) fun s3 w3 ho3 hx3 _ => ?_
  refine Wr_lit (f := b8) (e := 5) (base := w1.heap.size) [7, 8] (by kernel_rfl) hx3.size (by simp) fun s5 w5 ho5 hx5 _ => ?_
  have hx15 := hx3.trans hx5
  refine Wr_lit (f := b8) (e := 5) (base := w1.heap.size) [9] (by kernel_rfl) hx15.size (by simp) fun s7 w7 ho7 hx7 _ => ?_
  have hx17 := hx15.trans hx7
  refine Wr_lit (f := slv) (e := 52) (base := w1.heap.size) [s5, s7] (by kernel_rfl) hx17.size (by simp) fun s9 w9 ho9 hx9 _ => ?_
  have hx19 := hx17.trans hx9
  have hn9 := nest_two ((ho5.ex hx7).ex hx9) (ho7.ex hx9) ho9
  have hle : RowsLe [[(7 : Int), 8], [9]] := ⟨by simp, by intro l hl; simp only [List.mem_cons, List.not_mem_nil, or_false] at hl; rcases hl with rfl | rfl <;> simp⟩
  refine Calls.mono (put_ok (hst.ex hx19) (by omega) s3 s9 [1, 4] [[7, 8], [9]] (((ho3.ex hx5).ex hx7).ex hx9).rds (by simp) (fun a ha ho => ?_) hn9 (fun b hb ho => ?_) hle) ?_
  · have := hst.ownL _ ho; have := (ho3.base _ (slin_of ha)).1; omega
  · have := hst.ownL _ ho; omega
  rintro en w12 (⟨hb, _⟩ | ⟨_, rfl, own2, a1, a2, hst2, hmo⟩)
  · cases hb
  refine ⟨0, rfl, ?_⟩
  refine Wr_lit (f := i64v) (e := 3) (base := w12.heap.size) [1, 4] (by kernel_rfl) (Nat.le_refl _) (by simp) fun s13 w13 ho13 hx13 _ => ?_
  refine Calls.mono (get_ok (hst2.ex hx13) s13 [1, 4] ho13.rds (by simp) (by omega)) ?_
  rintro en w14 (⟨hno, _⟩ | ⟨v, hv, ⟨s14, rfl, hn14⟩, hst3, hmo3⟩)
  · exact absurd rfl (hno ([1, 4], [[7, 8], [9]]) (by simp [putE, without]))
  have hv : v = [[7, 8], [9]] := by simpa [putE, without] using hv
  subst hv
  refine ⟨(s14, true, ()), rfl, ?_⟩
  refine Cd_t ?_
  refine Cd_t ?_
  refine Wr_lit (f := b8) (e := 5) (base := w14.heap.size) [7, 8] (by kernel_rfl) (Nat.le_refl _) (by simp) fun s17 w17 ho17 hx17' _ => ?_
  refine Wr_lit (f := b8) (e := 5) (base := w14.heap.size) [9] (by kernel_rfl) hx17'.size (by simp) fun s19 w19 ho19 hx19' _ => ?_
  have hxa := hx17'.trans hx19'
  refine Wr_lit (f := slv) (e := 52) (base := w14.heap.size) [s17, s19] (by kernel_rfl) hxa.size (by simp) fun s21 w21 ho21 hx21 _ => ?_
  have hn21 := nest_two ((ho17.ex hx19').ex hx21) (ho19.ex hx21) ho21
  have hxb := hxa.trans hx21
  refine Cl_gv (sameValue_gv s14 s21 _ _ _ _ w21 (hn14.nest.ex hxb) hn21 hle) fun w24 hx24 => ?_
  refine Cd_t ?_
  refine Calls.mono (nodes_ok (hst3.ex (hxb.trans hx24))) ?_
  rintro en w26 ⟨L, hL, _, rfl, hx26⟩
  refine ⟨_, rfl, ?_⟩
  have h2 := begun_two (L := L) (by simpa [putE, without, frontE] using hL)
  dsimp only
  rw [h2]
  refine ⟨rfl, ?_⟩
  have k1 : Ex w w12 := (hx1.trans hx19).into hmo (fun b hb => hb.1)
  have k2 : Ex w w14 := (k1.trans hx13).into hmo3 (fun b hb => (a2 b hb).elim (fun g => g.1) (fun g => by have := (hx1.trans hx19).size; omega))
  exact k2.trans ((hxb.trans hx24).trans hx26)
end Go.Proofs.Ytdnlnloogfnlgaa
