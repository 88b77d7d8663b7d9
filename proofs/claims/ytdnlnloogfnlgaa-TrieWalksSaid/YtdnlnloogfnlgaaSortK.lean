/- Rows of structs, as the library's sort by a function has them. -/
import Derived.Test.YtdnlnloogfnlgaaSortLib
import Derived.Shelf.SlSortCmp.WholeK
set_option linter.all false
namespace Go.Cu
open Go Go.RowKit Go.Proofs
theorem flat_getG {α : Type} (enc : α → List Value) (k : Nat) (hk : ∀ x, (enc x).length = k) : ∀ (l : List α) (i j : Nat) (x : α), l[i]? = some x → j < k → (l.flatMap enc)[i * k + j]? = (enc x)[j]?
  | y :: l, 0, j, x, h, hj => by
    simp only [List.getElem?_cons_zero, Option.some.injEq] at h
    subst h
    rw [List.flatMap_cons, Nat.zero_mul, Nat.zero_add, List.getElem?_append_left (by rw [hk]; exact hj)]
  | y :: l, i + 1, j, x, h, hj => by
    simp only [List.getElem?_cons_succ] at h
    rw [List.flatMap_cons, List.getElem?_append_right (by rw [hk, Nat.add_mul]; omega), hk, Nat.add_mul, show i * k + 1 * k + j - k = i * k + j by omega]
    exact flat_getG enc k hk l i j x h hj
theorem flat_lenG {α : Type} (enc : α → List Value) (k : Nat) (hk : ∀ x, (enc x).length = k) : ∀ l : List α, (l.flatMap enc).length = l.length * k
  | [] => by simp
  | x :: l => by rw [List.flatMap_cons, List.length_append, hk, flat_lenG enc k hk l, List.length_cons, Nat.add_mul]; omega
theorem flatK_eq {α : Type} [Inhabited α] (enc : α → List Value) (k : Nat) (hk : ∀ x, (enc x).length = k) (l : List α) : Sort.flatK enc k l.toArray = (l.flatMap enc).toArray := by
  apply Array.ext
  · rw [Sort.size_flatK, List.size_toArray, List.size_toArray, flat_lenG enc k hk]
  · intro t h1 h2
    have ht : t < l.length * k := by rw [Sort.size_flatK, List.size_toArray] at h1; exact h1
    have hk0 : 0 < k := by
      rcases Nat.eq_zero_or_pos k with h | h
      · rw [h, Nat.mul_zero] at ht; omega
      · exact h
    have hq : t / k < l.length := Nat.div_lt_of_lt_mul (by rw [Nat.mul_comm]; exact ht)
    have hmod := Nat.mod_lt t hk0
    have hje : t / k * k + t % k = t := by rw [Nat.mul_comm]; exact Nat.div_add_mod t k
    have hf := flat_getG enc k hk l (t / k) (t % k) _ (List.getElem?_eq_getElem hq) hmod
    rw [hje] at hf
    have hg := Sort.get_flatK enc k l.toArray t (by rw [List.size_toArray]; exact ht)
    rw [getElem!_pos (Sort.flatK enc k l.toArray) t h1, getElem!_pos l.toArray (t / k) (by simpa using hq)] at hg
    rw [hg]
    have hm2 : t % k < (enc l[t / k]).length := by rw [hk]; exact hmod
    have e1 : (l.toArray[t / k]'(by simpa using hq)) = l[t / k] := by simp
    rw [e1, getElem!_pos (enc l[t / k]) (t % k) hm2]
    rw [List.getElem?_eq_getElem hm2] at hf
    have := (List.getElem?_eq_some_iff.1 hf).2
    rw [List.getElem_toArray, this]
theorem OwnA.holds {ats : List At} {α : Type} [Inhabited α] {enc : α → List Value} {e : TypeId} {base : Nat} {w : World} {s : Sl} {l : List (Ats ats)} {d : List α} (h : OwnA ats e base w s l) (hd : d.flatMap enc = l.flatMap (encAts ats)) (hk : ∀ x, (enc x).length = ats.length) {a : Addr} (ha : s.base = some a) :
    ∃ g, a = ⟨g, 0, none⟩ ∧ Sort.HoldsK enc ats.length w g 0 d.toArray ∧ g < w.heap.size := by
  have hb := h.base _ ⟨a, ha, rfl⟩
  obtain ⟨h1, h2⟩ := h
  rcases h2.2 with ⟨e1, _⟩ | ⟨g, cap, cur, e1, _, hg, _⟩
  · rw [ha] at e1; cases e1
  · have e0 := e1
    rw [ha] at e1
    injection e1 with e1
    injection e1 with e1
    refine ⟨g, e1, ?_, by rw [e1] at hb; exact hb.2⟩
    unfold Sort.HoldsK
    rw [flatK_eq enc _ hk, hd]
    intro j hj
    have hj' : j < (l.flatMap (encAts ats)).length := by simpa using hj
    have hc := h2.cells (g := g) (by rw [ha, e1]; rfl) j _ (List.getElem?_eq_getElem hj')
    rw [add_lit] at hc
    refine ⟨?_, ?_⟩
    · rw [Nat.zero_add, hc, getElem!_pos _ j hj]; simp
    · simp [World.frozen?, hg]
theorem OwnA.put {ats : List At} {α : Type} [Inhabited α] {enc : α → List Value} {e : TypeId} {base : Nat} {w : World} {s : Sl} {l l' : List (Ats ats)} {d : List α} (h : OwnA ats e base w s l) {g : Nat} (ha : s.base = some ⟨g, 0, none⟩) (hl : l'.length = l.length) (hd : d.flatMap enc = l'.flatMap (encAts ats)) (hk : ∀ x, (enc x).length = ats.length) (n : Nat) (os : Array Obj) :
    OwnA ats e base (sortWorldK enc ats.length w g 0 n d.toArray os) s l' ∧ Mo (SlIn s) w (sortWorldK enc ats.length w g 0 n d.toArray os) := by
  obtain ⟨h1, h2, h3⟩ := h
  unfold sortWorldK Sort.putRowK
  rw [flatK_eq enc _ hk, hd]
  rcases h3 with ⟨e1, _⟩ | ⟨g', cap, cur, e1, hbg, hg, hc1, hc2, hc3, htake⟩
  · rw [ha] at e1; cases e1
  · rw [ha] at e1
    injection e1 with e1 e2 e3
    injection e1 with e1
    injection e1 with e1
    subst e1
    have hsz0 : (l'.flatMap (encAts ats)).length = s.len * ats.length := by rw [flat_len, hl, h1]
    have hmul : s.len * ats.length ≤ cap * ats.length := Nat.mul_le_mul_right _ hc1
    have hsz : (l'.flatMap (encAts ats)).toArray.size ≤ cur.size := by rw [hc3, List.size_toArray, hsz0]; exact hmul
    obtain ⟨p1, p2⟩ := put_world id hg (l'.flatMap (encAts ats)).toArray hsz n os
    refine ⟨⟨by rw [h1, hl], hsz0, .inr ⟨g, cap, _, ?_, hbg, p1, hc1, hc2, ?_, ?_⟩⟩, p2.weak (fun b _ hb => ⟨_, ha, hb.symm⟩)⟩
    · rw [ha, e3]
    · simp only [List.map_id, List.size_toArray, List.length_append, List.length_drop, Array.length_toList, List.toList_toArray] at hsz ⊢
      rw [hc3] at hsz ⊢
      omega
    · simp only [List.map_id, List.toList_toArray]
      exact List.take_left' hsz0
end Go.Cu
