/- culletlaw12.TrieMemory: its calls, each on a trie beside lists. -/
import Derived.Test.YtdnlnloogfnlgaaTrMf
set_option linter.all false
namespace Go.Proofs.Ytdnlnloogfnlgaa
open Go Go.Cu Go.RowKit
set_option linter.unusedVariables false
set_option maxHeartbeats 2000000
section
variable {W w w' : World} {own : Nat → Prop} {tb : Nat} {es : List Ent} {clk : Int} {vs : List Iv} {L : List (List (List Int))}
theorem St.put {s v : Sl} {l : Path} {V : List (List Int)} {F : Nat → Prop} (h : St W w own tb es clk vs L) (hg : goodB l = true) (hc : clk < 4611686018427387904) (ho : Own i64v 3 W.heap.size w s l) (hno : ∀ b, SlIn s b → ¬ own b) (hl : l.length ≤ 17592186044000)
    (hv : Nest b8 F w v V) (hF : ∀ b, F b → ¬ own b) (hle : RowsLe V) :
    Calls Try.prog 15 #[.pointer (some ⟨tb, 0, none⟩), slv s, slv v] w fun en w' => en = .returned (.int .i64 0) ∧ Mo own w w' ∧ ∃ own', (∀ b, own' b → own b ∨ w.heap.size ≤ b) ∧ St W w' own' tb (putE es 3 l V) (clk + 1) vs L := by
  refine Calls.mono (put_ok h.tr hc s v l V ho.rds (by omega) (fun a ha => hno _ (slin_of ha)) hv hF hle) ?_
  rintro en w1 (⟨hb, _⟩ | ⟨_, rfl, own2, h1, h2, h3, h4⟩)
  · rw [hg] at hb; cases hb
  · exact ⟨rfl, h4, own2, h2, h.trie h4 h3 h2⟩
theorem St.get {s : Sl} {l : Path} {V : List (List Int)} (h : St W w own tb [(l, V)] clk vs L) (hc : clk < 4611686018427387904) (hr : Rds i64v w s l) (hl : l.length ≤ 17592186044000) :
    Calls Try.prog 19 #[.pointer (some ⟨tb, 0, none⟩), slv s] w fun en w' => ∃ s', en = .returned (.tuple #[slv s', .bool true]) ∧ NestOwn b8 5 52 w.heap.size w' s' V ∧ w.heap.size ≤ w'.heap.size ∧ (∀ b, own b → b < w.heap.size) ∧ W.heap.size ≤ w.heap.size ∧ (∀ u ∈ vs, u.up ≤ w.heap.size) ∧ St W w' own tb [(l, V)] (clk + 1) vs L := by
  refine Calls.mono (get_ok h.tr s l hr (by omega) (by omega)) ?_
  rintro en w1 (⟨hb, _⟩ | ⟨v, hm, ⟨s', rfl, hn⟩, ht, hm2⟩)
  · exact (hb (l, V) (List.mem_cons_self ..) rfl).elim
  · simp at hm
    subst hm
    have he : frontE [(l, v)] l v = [(l, v)] := by simp [frontE, without]
    rw [he] at ht
    exact ⟨s', rfl, hn, hm2.size, h.tr.ownL, h.ex.size, h.up, h.trie hm2 ht (fun b hb => .inl hb)⟩
theorem St.peek {s : Sl} {l : Path} {V : List (List Int)} (h : St W w own tb es clk vs L) (hV : (l, V) ∈ es) (hr : Rds i64v w s l) (hl : l.length ≤ 17592186044000) :
    Calls Try.prog 20 #[.pointer (some ⟨tb, 0, none⟩), slv s] w fun en w' => ∃ s' V', en = .returned (.tuple #[slv s', .bool true]) ∧ (l, V') ∈ es ∧ NestOwn b8 5 52 w.heap.size w' s' V' ∧ Ex w w' ∧ (∀ b, own b → b < w.heap.size) ∧ W.heap.size ≤ w.heap.size ∧ (∀ u ∈ vs, u.up ≤ w.heap.size) ∧ St W w' own tb es clk vs L := by
  refine Calls.mono (peek_ok h.tr s l hr (by omega)) ?_
  rintro en w1 ⟨hx, (⟨hb, _⟩ | ⟨v, hm, ⟨s', rfl, hn⟩⟩)⟩
  · exact (hb (l, V) hV rfl).elim
  · exact ⟨s', v, rfl, hm, hn, hx, h.tr.ownL, h.ex.size, h.up, h.more hx⟩
end
def Dims (a b : List (List Int)) : Prop := a.map List.length = b.map List.length
theorem Dims.len {a b : List (List Int)} (h : Dims a b) : a.length = b.length := by simpa using congrArg List.length h
theorem Dims.sm {a b : List (List Int)} (h : Dims a b) (hb : b.length ≤ 1048576 ∧ ∀ r ∈ b, r.length ≤ 140737488351232) : a.length ≤ 1048576 ∧ ∀ r ∈ a, r.length ≤ 140737488351232 := by
  refine ⟨by rw [h.len]; exact hb.1, fun r hr => ?_⟩
  have : r.length ∈ b.map List.length := by rw [← h]; exact List.mem_map_of_mem hr
  obtain ⟨q, hq, he⟩ := List.mem_map.1 this
  rw [← he]
  exact hb.2 q hq
theorem Dims.set {a b : List (List Int)} {i : Nat} {r r' : List Int} (h : Dims a b) (hr : a[i]? = some r) (hl : r'.length = r.length) : Dims (a.set i r') b := by
  unfold Dims
  rw [List.map_set, hl, ← h]
  refine List.ext_getElem? fun j => ?_
  rw [List.getElem?_set]
  split
  · rename_i hij
    subst hij
    have hi := (List.getElem?_eq_some_iff.1 hr).1
    rw [if_pos (by simpa using hi), List.getElem?_map, hr]
    rfl
  · rfl
theorem mem_j4 {s x was : Sl} {l : List Int} {W w : World} (hs : Rds i64v W s l) (hl : l.length ≤ 17592186044000) (hx : Ex W w) (hc : l ≠ [0, 255] → ∃ F G m, Nest b8 F w x m ∧ Nest b8 G w was m ∧ RowsLe m) :
    culletlaw12_TrieMemory.j4 (fun en w' => en = .returned (.bool true) ∧ Ex W w') s was x false w := by
  unfold culletlaw12_TrieMemory.j4
  refine Cd_f ?_
  refine Wr_lit (f := i64v) (e := 3) (base := w.heap.size) [0, 255] (by kernel_rfl) (Nat.le_refl _) (by simp) fun s1 w1 ho1 hx1 _ => ?_
  refine Cl_gv (d := .one (.at .bool)) (x := decide (l = [0, 255])) (same_gv s s1 l [0, 255] w1 (hs.ex (hx.trans hx1)) ho1.rds (by omega)) fun w2 hx2 => ?_
  refine Cd_of (fun h => ⟨rfl, (hx.trans hx1).trans hx2⟩) (fun h => ?_)
  obtain ⟨F, G, m, h1, h2, h3⟩ := hc (by simpa using h)
  refine Cl_gv (d := .one (.at .bool)) (x := decide (m = m)) (sameValue_gv x was m m F G w2 (h1.ex (hx1.trans hx2)) (h2.ex (hx1.trans hx2)) h3) fun w3 hx3 => ?_
  exact ⟨by rw [decide_eq_true rfl], ((hx.trans hx1).trans hx2).trans hx3⟩
end Go.Proofs.Ytdnlnloogfnlgaa
