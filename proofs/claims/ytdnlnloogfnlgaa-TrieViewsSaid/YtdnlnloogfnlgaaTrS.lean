/- Nodes; and a trie that is known to work. -/
import Derived.Test.YtdnlnloogfnlgaaTrR
set_option linter.all false
namespace Go.Proofs.Ytdnlnloogfnlgaa
open Go Go.Cu Go.RowKit
set_option linter.unusedVariables false
set_option maxHeartbeats 4000000
/-- the lists, the empty one not counted, that begin a key -/
def Begun (ks : List Path) (L : List Path) : Prop := L.Nodup ∧ ∀ q, q ∈ L ↔ q ≠ [] ∧ ∃ k ∈ ks, q <+: k
theorem nodes_ok {w : World} {own : Nat → Prop} {tb : Nat} {lim clock : Int} {es : List Ent} (h : TrieSt w own tb lim es clock) :
    Calls Try.prog 35 #[.pointer (some ⟨tb, 0, none⟩)] w fun en w' => ∃ L, Begun (es.map (·.1)) L ∧ L.length ≤ 1000000 ∧ en = .returned (.int .i64 (L.length : Int)) ∧ Ex w w' := by
  obtain ⟨vown, ns, y, hm, he⟩ := h
  refine trie_Trie_Nodes.run _ _ w ?_
  unfold trie_Trie_Nodes.M
  refine Pu_eqnil tT ?_
  refine Cd_f ?_
  refine Pu_nil ?_
  refine Rd_has hm.top (by kernel_rfl) rfl ?_
  refine Pu_eqnil tN ?_
  unfold trie_Trie_Nodes.j1
  refine Cd_f ?_
  refine Pu_nil ?_
  refine Rd_has hm.top (by kernel_rfl) rfl ?_
  refine Calls.mono (below_ok he.few 300 [] w hm hm.root (fun q hq _ => by have := he.lens q hq; simp only [List.length_nil]; omega)) ?_
  rintro en w1 ⟨L, h1, h2, rfl, hx⟩
  refine ⟨_, rfl, L, ⟨h1, fun q => ?_⟩, he.few L h1 (fun q hq => ((h2 q).1 hq).1), rfl, hx⟩
  rw [h2]
  constructor
  · rintro ⟨hq, _, hne⟩
    rcases he.clean q hq with h0 | ⟨e, hee, hqe⟩
    · exact absurd h0 hne
    · exact ⟨hne, e.1, List.mem_map.2 ⟨e, hee, rfl⟩, hqe⟩
  · rintro ⟨hne, k, hk, hqk⟩
    obtain ⟨e, hee, rfl⟩ := List.mem_map.1 hk
    exact ⟨pre_all hm.pre hqk (he.rows e hee).1, List.nil_prefix, hne⟩
end Go.Proofs.Ytdnlnloogfnlgaa
