/- A trie beside lists of lists that are no part of it. -/
import Derived.Test.YtdnlnloogfnlgaaTrMe
set_option linter.all false
namespace Go.Proofs.Ytdnlnloogfnlgaa
open Go Go.Cu Go.RowKit
set_option linter.unusedVariables false
set_option maxHeartbeats 2000000
structure St (W w : World) (own : Nat → Prop) (tb : Nat) (es : List Ent) (clk : Int) (vs : List Iv) (L : List (List (List Int))) : Prop where
  ex : Ex W w
  tr : TrieSt w own tb 3 es clk
  low : ∀ b, own b → W.heap.size ≤ b
  ls : Lists w vs L
  up : ∀ u ∈ vs, u.up ≤ w.heap.size
  vlow : ∀ u ∈ vs, W.heap.size ≤ u.lo
  off : ∀ b, own b → ¬ InIv vs b
  sm : Small L
section
variable {W w w' : World} {own : Nat → Prop} {tb : Nat} {es : List Ent} {clk : Int} {vs : List Iv} {L : List (List (List Int))}
theorem St.iv (h : St W w own tb es clk vs L) {b : Nat} (hb : InIv vs b) : W.heap.size ≤ b ∧ b < w.heap.size := by
  obtain ⟨v, hv, h1, h2⟩ := hb
  have := h.up v hv
  have := h.vlow v hv
  omega
theorem St.other {X : Nat → Prop} (h : St W w own tb es clk vs L) (k : Mo X w w') (hx : ∀ b, X b → W.heap.size ≤ b ∧ ¬ own b ∧ ¬ InIv vs b) : St W w' own tb es clk vs L :=
  ⟨h.ex.into k (fun b hb => (hx b hb).1), h.tr.mo k (fun b hb hb2 => (hx b hb2).2.1 hb), h.low, h.ls.mo k (fun b hb hb2 => (hx b hb2).2.2 hb), fun u hu => Nat.le_trans (h.up u hu) k.size, h.vlow, h.off, h.sm⟩
theorem St.more (h : St W w own tb es clk vs L) (k : Ex w w') : St W w' own tb es clk vs L := h.other k (fun _ hb => hb.elim)
theorem St.trie {own' : Nat → Prop} {es' : List Ent} {clk' : Int} (h : St W w own tb es clk vs L) (k : Mo own w w') (ht : TrieSt w' own' tb 3 es' clk') (ho : ∀ b, own' b → own b ∨ w.heap.size ≤ b) : St W w' own' tb es' clk' vs L := by
  have hs := h.ex.size
  refine ⟨h.ex.into k h.low, ht, fun b hb => ?_, h.ls.mo k (fun b hb hb2 => h.off b hb2 hb), fun u hu => Nat.le_trans (h.up u hu) k.size, h.vlow, fun b hb hb2 => ?_, h.sm⟩
  · rcases ho b hb with h1 | h1
    · exact h.low b h1
    · omega
  · rcases ho b hb with h1 | h1
    · exact h.off b h1 hb2
    · have := (h.iv hb2).2
      omega
theorem St.touch {L' : List (List (List Int))} (h : St W w own tb es clk vs L) (k : Mo (InIv vs) w w') (hl : Lists w' vs L') (hs : Small L') : St W w' own tb es clk vs L' :=
  ⟨h.ex.into k (fun b hb => (h.iv hb).1), h.tr.mo k (fun b hb hb2 => h.off b hb hb2), h.low, hl, fun u hu => Nat.le_trans (h.up u hu) k.size, h.vlow, h.off, hs⟩
theorem St.add {base : Nat} {s : Sl} {l : List (List Int)} (h : St W w own tb es clk vs L) (hn : NestOwn b8 5 52 base w s l) (h1 : ∀ u ∈ vs, u.up ≤ base) (h2 : ∀ b, own b → b < base) (h3 : W.heap.size ≤ base) (h4 : base ≤ w.heap.size) (h5 : l.length ≤ 1048576 ∧ ∀ r ∈ l, r.length ≤ 140737488351232) :
    ∃ ss, St W w own tb es clk (vs ++ [⟨base, w.heap.size, s, ss⟩]) (L ++ [l]) := by
  obtain ⟨ss, hi⟩ := NestIn.of hn
  have hlen := h.ls.len
  refine ⟨ss, h.ex, h.tr, h.low, ⟨by simp [hlen], fun j v m hv hm => ?_, fun i j u v hu hv hij => ?_, fun v hv => ?_⟩, fun u hu => ?_, fun u hu => ?_, fun b hb hb2 => ?_, fun g hg => ?_⟩
  · rcases snoc_cases hv with ⟨hv, hlt⟩ | ⟨rfl, rfl⟩
    · rw [List.getElem?_append_left (by omega)] at hm
      exact h.ls.each j v m hv hm
    · rw [hlen, List.getElem?_append_right (Nat.le_refl _), Nat.sub_self] at hm
      cases hm
      exact hi
  · rcases snoc_cases hu with ⟨hu, hlt⟩ | ⟨rfl, rfl⟩
    · rcases snoc_cases hv with ⟨hv, hlt2⟩ | ⟨rfl, rfl⟩
      · exact h.ls.apart i j u v hu hv hij
      · exact .inl (h1 u (List.mem_of_getElem? hu))
    · rcases snoc_cases hv with ⟨hv, hlt2⟩ | ⟨rfl, rfl⟩
      · exact .inr (h1 v (List.mem_of_getElem? hv))
      · exact (hij rfl).elim
  · rcases List.mem_append.1 hv with hv | hv
    · exact h.ls.le v hv
    · simp at hv
      subst hv
      exact h4
  · rcases List.mem_append.1 hu with hu | hu
    · exact h.up u hu
    · simp at hu
      subst hu
      exact Nat.le_refl _
  · rcases List.mem_append.1 hu with hu | hu
    · exact h.vlow u hu
    · simp at hu
      subst hu
      exact h3
  · obtain ⟨v, hv, h6, h7⟩ := hb2
    rcases List.mem_append.1 hv with hv | hv
    · exact h.off b hb ⟨v, hv, h6, h7⟩
    · simp at hv
      subst hv
      have := h2 b hb
      dsimp only at h6
      omega
  · rcases List.mem_append.1 hg with hg | hg
    · exact h.sm g hg
    · simp at hg
      subst hg
      exact h5
theorem St.only {j : Nat} {v : Iv} {g : List (List Int)} (h : St W w own tb es clk vs L) (hv : vs[j]? = some v) (hg : L[j]? = some g) : St W w own tb es clk [v] [g] := by
  have hm := List.mem_of_getElem? hv
  refine ⟨h.ex, h.tr, h.low, ⟨rfl, fun i u m hu hm' => ?_, fun a b u x hu hx hab => ?_, fun u hu => ?_⟩, fun u hu => ?_, fun u hu => ?_, fun b hb hb2 => ?_, fun m hm' => ?_⟩
  · cases i with
    | zero => cases hu; cases hm'; exact h.ls.each j v g hv hg
    | succ n => simp at hu
  · cases a with
    | zero => cases b with
      | zero => exact (hab rfl).elim
      | succ n => simp at hx
    | succ n => simp at hu
  · simp at hu
    subst hu
    exact h.ls.le u hm
  · simp at hu
    subst hu
    exact h.up u hm
  · simp at hu
    subst hu
    exact h.vlow u hm
  · obtain ⟨u, hu, h1⟩ := hb2
    simp at hu
    subst hu
    exact h.off b hb ⟨u, hm, h1⟩
  · simp at hm'
    subst hm'
    exact h.sm m (List.mem_of_getElem? hg)
theorem Lists.turn {v : Iv} {l : List (List Int)} (h : Lists w (v :: vs) (l :: L)) : Lists w (vs ++ [v]) (L ++ [l]) := by
  have hlen : vs.length = L.length := by have := h.len; simpa using this
  refine ⟨by simp [hlen], fun j u m hu hm => ?_, fun i j u x hu hx hij => ?_, fun u hu => h.le u (by simp at hu ⊢; exact hu.symm)⟩
  · rcases snoc_cases hu with ⟨hu, hlt⟩ | ⟨rfl, rfl⟩
    · rw [List.getElem?_append_left (by omega)] at hm
      exact h.each (j + 1) u m (by simpa using hu) (by simpa using hm)
    · rw [hlen, List.getElem?_append_right (Nat.le_refl _), Nat.sub_self] at hm
      cases hm
      exact h.each 0 u l rfl rfl
  · rcases snoc_cases hu with ⟨hu1, hlt⟩ | ⟨e1, e2⟩
    · rcases snoc_cases hx with ⟨hx1, hlt2⟩ | ⟨e3, e4⟩
      · exact h.apart (i + 1) (j + 1) u x (by simpa using hu1) (by simpa using hx1) (by omega)
      · exact h.apart (i + 1) 0 u x (by simpa using hu1) (by rw [e4]; rfl) (by omega)
    · rcases snoc_cases hx with ⟨hx1, hlt2⟩ | ⟨e3, e4⟩
      · exact h.apart 0 (j + 1) u x (by rw [e2]; rfl) (by simpa using hx1) (by omega)
      · exact (hij (by omega)).elim
theorem St.turn {v : Iv} {l : List (List Int)} (h : St W w own tb es clk (v :: vs) (l :: L)) : St W w own tb es clk (vs ++ [v]) (L ++ [l]) := by
  have hm : ∀ u, u ∈ vs ++ [v] → u ∈ v :: vs := fun u hu => by simp at hu ⊢; exact hu.symm
  exact ⟨h.ex, h.tr, h.low, h.ls.turn, fun u hu => h.up u (hm u hu), fun u hu => h.vlow u (hm u hu), fun b hb ⟨u, hu, h1⟩ => h.off b hb ⟨u, hm u hu, h1⟩, fun g hg => h.sm g (by simp at hg ⊢; exact hg.symm)⟩
end
end Go.Proofs.Ytdnlnloogfnlgaa
