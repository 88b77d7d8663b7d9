/- The walk over a trie's nodes: what it lists. -/
import Derived.Test.YtdnlnloogfnlgaaTrH
import Derived.Test.YtdnlnloogfnlgaaTrSort
import Derived.Test.YtdnlnloogfnlgaaSortLib
set_option linter.all false
namespace Go.Proofs.Ytdnlnloogfnlgaa
open Go Go.Cu Go.RowKit
set_option linter.unusedVariables false
set_option maxHeartbeats 2000000
/-- keys in order -/
def lessP : Path → Path → Prop
  | [], [] => False
  | [], _ :: _ => True
  | _ :: _, [] => False
  | x :: a, y :: b => x < y ∨ (x = y ∧ lessP a b)
theorem less_ext (p : Path) (a b : Path) : lessP (p ++ a) (p ++ b) ↔ lessP a b := by
  induction p with
  | nil => rfl
  | cons x p ih => simp [lessP, ih]
theorem less_prefix (p : Path) (x : Int) (t : Path) : lessP p (p ++ x :: t) := by
  have := (less_ext p [] (x :: t)).2 trivial
  rwa [List.append_nil] at this
abbrev fAts : List At := [.sl, .int .i64]
abbrev Fd : Type := Ats fAts
/-- a list of what was found, of one's own, each key in memory of one's own -/
def FoundAt (base : Nat) (w : World) (s : Sl) (ks : List (Path × Int)) : Prop :=
  ∃ es : List Fd, OwnA fAts 89 base w s es ∧ es.length = ks.length ∧ ∀ (i : Nat) (e : Fd) (k : Path × Int), es[i]? = some e → ks[i]? = some k → e.2.1 = k.2 ∧ Own i64v 3 base w e.1 k.1 ∧ ∀ b, SlIn e.1 b → ¬ SlIn s b
theorem FoundAt.mo {base : Nat} {X : Nat → Prop} {w w' : World} {s : Sl} {ks : List (Path × Int)} (h : FoundAt base w s ks) (k : Mo X w w') (hx : ∀ b, base ≤ b → b < w.heap.size → ¬ X b) : FoundAt base w' s ks := by
  obtain ⟨es, h1, h2, h3⟩ := h
  refine ⟨es, h1.mo k (fun b hb => hx b (h1.base b hb).1 (h1.base b hb).2), h2, fun i e q he hq => ?_⟩
  obtain ⟨g1, g2, g3⟩ := h3 i e q he hq
  exact ⟨g1, g2.mo k (fun b hb => hx b (g2.base b hb).1 (g2.base b hb).2), g3⟩
theorem FoundAt.ex {base : Nat} {w w' : World} {s : Sl} {ks : List (Path × Int)} (h : FoundAt base w s ks) (k : Ex w w') : FoundAt base w' s ks := h.mo k (fun _ _ _ => id)
theorem FoundAt.nil (base : Nat) (w : World) : FoundAt base w nilS [] := ⟨[], OwnA.nil _ _ _ _, rfl, fun i e k h => (by simp at h)⟩
theorem FoundAt.base {base : Nat} {w : World} {s : Sl} {ks : List (Path × Int)} (h : FoundAt base w s ks) : ∀ b, SlIn s b → base ≤ b ∧ b < w.heap.size := by obtain ⟨es, h1, _⟩ := h; exact h1.base
theorem FoundAt.len {base : Nat} {w : World} {s : Sl} {ks : List (Path × Int)} (h : FoundAt base w s ks) : s.len = ks.length := by obtain ⟨es, h1, h2, _⟩ := h; rw [h1.1, h2]
theorem fd_one (y : Fd) : ∀ u ∈ encAts fAts y, u.oneCell' = true := by
  intro u hu
  simp only [fAts, encAts, List.mem_cons, List.not_mem_nil, or_false] at hu
  rcases hu with rfl | rfl <;> rfl
theorem tF : Try.prog.underlying 85 = some (.slice 89) := by kernel_rfl
/-- what the walk below p lists -/
structure Listed (y : Lay) (ns : List Path) (p : Path) (out : List (Path × Int)) : Prop where
  order : out.Pairwise fun a b => lessP a.1 b.1
  mem : ∀ k u, (k, u) ∈ out ↔ (k ∈ ns ∧ p <+: k ∧ y.here k = true ∧ u = y.used k)
theorem Listed.join {y : Lay} {ns : List Path} {p : Path} {xs : List Int} {outs : List (List (Path × Int))} (hpre : ∀ p x, p ++ [x] ∈ ns → p ∈ ns) (hp : p ∈ ns) (hs : xs.Pairwise (· < ·)) (hx : ∀ x, x ∈ xs ↔ p ++ [x] ∈ ns) (hlen : outs.length = xs.length)
    (ho : ∀ (i : Nat) x o, xs[i]? = some x → outs[i]? = some o → Listed y ns (p ++ [x]) o) : Listed y ns p ((if y.here p = true then [(p, y.used p)] else []) ++ outs.flatten) := by
  have hout : ∀ o ∈ outs, ∃ x ∈ xs, Listed y ns (p ++ [x]) o := by
    intro o hoo
    obtain ⟨i, hi⟩ := List.getElem?_of_mem hoo
    have hil : i < xs.length := by rw [← hlen]; exact (List.getElem?_eq_some_iff.1 hi).1
    exact ⟨xs[i], List.getElem_mem hil, ho i _ o (List.getElem?_eq_getElem hil) hi⟩
  constructor
  · rw [List.pairwise_append]
    refine ⟨?_, ?_, ?_⟩
    · split <;> simp
    · rw [List.pairwise_flatten]
      refine ⟨fun o hoo => by obtain ⟨x, _, h⟩ := hout o hoo; exact h.order, ?_⟩
      rw [List.pairwise_iff_getElem]
      intro i j hi hj hij a ha b hb
      have hi' : i < xs.length := by omega
      have hj' : j < xs.length := by omega
      obtain ⟨ka, ua⟩ := a
      obtain ⟨kb, ub⟩ := b
      have h1 := (ho i _ _ (List.getElem?_eq_getElem hi') (List.getElem?_eq_getElem hi)).mem ka ua |>.1 ha
      have h2 := (ho j _ _ (List.getElem?_eq_getElem hj') (List.getElem?_eq_getElem hj)).mem kb ub |>.1 hb
      obtain ⟨ta, hta⟩ := h1.2.1
      obtain ⟨tb, htb⟩ := h2.2.1
      show lessP ka kb
      rw [← hta, ← htb, List.append_assoc, List.append_assoc, less_ext]
      exact .inl (List.pairwise_iff_getElem.1 hs i j hi' hj' hij)
    · intro a ha b hb
      split at ha
      · simp only [List.mem_cons, List.not_mem_nil, or_false] at ha
        subst ha
        obtain ⟨o, hoo, hbo⟩ := List.mem_flatten.1 hb
        obtain ⟨x, _, hL⟩ := hout o hoo
        obtain ⟨kb, ub⟩ := b
        obtain ⟨t, ht⟩ := ((hL.mem kb ub).1 hbo).2.1
        show lessP p kb
        rw [← ht, List.append_assoc]
        exact less_prefix p x t
      · simp at ha
  · intro k u
    rw [List.mem_append, List.mem_flatten]
    constructor
    · rintro (h | ⟨o, hoo, h⟩)
      · split at h
        · rename_i hh
          simp only [List.mem_cons, List.not_mem_nil, or_false, Prod.mk.injEq] at h
          obtain ⟨rfl, rfl⟩ := h
          exact ⟨hp, List.prefix_refl _, hh, rfl⟩
        · simp at h
      · obtain ⟨x, _, hL⟩ := hout o hoo
        obtain ⟨g1, g2, g3, g4⟩ := (hL.mem k u).1 h
        exact ⟨g1, (List.prefix_append p [x]).trans g2, g3, g4⟩
    · rintro ⟨g1, ⟨t, rfl⟩, g3, rfl⟩
      cases t with
      | nil => left; rw [List.append_nil] at g3 ⊢; rw [if_pos g3]; simp
      | cons x t =>
        right
        have htk : (p ++ x :: t).take (p.length + 1) = p ++ [x] := by
          rw [show p ++ x :: t = (p ++ [x]) ++ t by simp, show p.length + 1 = (p ++ [x]).length by simp, List.take_left]
        have hin : p ++ [x] ∈ ns := by
          refine Classical.byContradiction fun hn => ?_
          exact pre_take hpre _ (p.length + 1) rfl (by rw [htk]; exact hn) g1
        have hxm := (hx x).2 hin
        obtain ⟨i, hi⟩ := List.getElem?_of_mem hxm
        have hil : i < outs.length := by rw [hlen]; exact (List.getElem?_eq_some_iff.1 hi).1
        exact ⟨outs[i], List.getElem_mem hil, ((ho i x _ hi (List.getElem?_eq_getElem hil)).mem _ _).2 ⟨g1, ⟨t, by simp⟩, g3, rfl⟩⟩
end Go.Proofs.Ytdnlnloogfnlgaa
