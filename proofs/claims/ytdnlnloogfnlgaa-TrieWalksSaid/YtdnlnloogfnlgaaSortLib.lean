/- What the library's sorts leave of the world, in our own words. -/
import Derived.Test.YtdnlnloogfnlgaaIterLib
import Derived.Sort.Grow
import Derived.Sort.Row
set_option linter.all false
namespace Go.Cu
open Go Go.RowKit
theorem put_cells {α : Type} [Inhabited α] (enc : α → Value) (d : Array α) (cur : Array Value) (h : d.size ≤ cur.size) : Sort.putCells enc 0 d cur = ((d.toList.map enc) ++ cur.toList.drop d.size).toArray := by
  apply Array.ext_getElem?
  intro k
  unfold Sort.putCells
  rw [Array.getElem?_mapIdx]
  simp only [List.getElem?_toArray]
  by_cases hk : k < d.size
  · rw [List.getElem?_append_left (by simpa using hk), List.getElem?_map, Array.getElem?_toList, Array.getElem?_eq_getElem hk, Array.getElem?_eq_getElem (by omega)]
    simp only [Option.map_some]
    rw [if_pos ⟨Nat.zero_le _, by omega⟩, Nat.sub_zero, getElem!_pos d k hk]
  · rw [List.getElem?_append_right (by simpa using Nat.le_of_not_lt hk), List.length_map, Array.length_toList, List.getElem?_drop, Array.getElem?_toList, show d.size + (k - d.size) = k by omega]
    cases cur[k]? with
    | none => rfl
    | some v => simp only [Option.map_some]; rw [if_neg (by omega)]
theorem put_world {α : Type} [Inhabited α] (enc : α → Value) {w : World} {g : Nat} {e : TypeId} {cur : Array Value} (hg : w.heap[g]? = some (.cells cur e (0, 0))) (d : Array α) (hd : d.size ≤ cur.size) (n : Nat) (os : Array Obj) :
    (Sort.grow (Sort.putRow enc (Sort.ahead w n) g 0 d) os).heap[g]? = some (.cells ((d.toList.map enc) ++ cur.toList.drop d.size).toArray e (0, 0)) ∧ Mo (fun b => b = g) w (Sort.grow (Sort.putRow enc (Sort.ahead w n) g 0 d) os) := by
  have hlt : g < w.heap.size := by
    rcases Nat.lt_or_ge g w.heap.size with h' | h'
    · exact h'
    · rw [Array.getElem?_eq_none h'] at hg; cases hg
  have hsz : (Sort.putRow enc (Sort.ahead w n) g 0 d).heap.size = w.heap.size := by rw [Sort.size_putRow]; rfl
  have hh : (Sort.putRow enc (Sort.ahead w n) g 0 d).heap = w.heap.modify g (Sort.onCells (Sort.putCells enc 0 d)) := rfl
  refine ⟨?_, rfl, rfl, rfl, ?_, fun b hb hbg => ?_⟩
  · show ((Sort.putRow enc (Sort.ahead w n) g 0 d).heap ++ os)[g]? = _
    rw [Array.getElem?_append_left (by rw [hsz]; exact hlt), hh, Array.getElem?_modify, if_pos rfl, hg, Option.map_some]
    show some (Obj.cells (Sort.putCells enc 0 d cur) e (0, 0)) = _
    rw [put_cells enc d cur hd]
  · show _ ≤ ((Sort.putRow enc (Sort.ahead w n) g 0 d).heap ++ os).size
    rw [Array.size_append, hsz]; omega
  · show ((Sort.putRow enc (Sort.ahead w n) g 0 d).heap ++ os)[b]? = _
    rw [Array.getElem?_append_left (by rw [hsz]; exact hb), hh, Array.getElem?_modify, if_neg (fun h => hbg h.symm)]
/-- a slice of one's own holds its row -/
theorem Own.holds {α : Type} [Inhabited α] {f : α → Value} {e : TypeId} {base : Nat} {w : World} {s : Sl} {l : List α} (h : Own f e base w s l) {a : Addr} (ha : s.base = some a) : ∃ g, a = ⟨g, 0, none⟩ ∧ Sort.Holds f w g 0 l.toArray ∧ g < w.heap.size ∧ base ≤ g := by
  have hb := h.base _ ⟨a, ha, rfl⟩
  have hr := h.rds
  obtain ⟨h1, h2⟩ := h
  rcases h2.2 with ⟨e1, _⟩ | ⟨g, cap, cur, e1, _, hg, _⟩
  · rw [ha] at e1; cases e1
  · rw [ha] at e1
    injection e1 with e1
    injection e1 with e1
    refine ⟨g, e1, fun j hj => ?_, by rw [e1] at hb; exact hb.2, by rw [e1] at hb; exact hb.1⟩
    have hj' : j < l.length := by simpa using hj
    obtain ⟨a', ha', hc⟩ := hr.2.2 j _ (List.getElem?_eq_getElem hj')
    rw [ha] at ha'; cases ha'
    rw [e1, add_lit] at hc
    refine ⟨?_, ?_⟩
    · rw [Nat.zero_add, hc, getElem!_pos l.toArray j hj]; simp
    · simp [World.frozen?, hg]
theorem Own.put {α : Type} [Inhabited α] {f : α → Value} {e : TypeId} {base : Nat} {w : World} {s : Sl} {l l' : List α} (h : Own f e base w s l) {g : Nat} (ha : s.base = some ⟨g, 0, none⟩) (hl : l'.length = l.length) (n : Nat) (os : Array Obj) :
    Own f e base (Sort.grow (Sort.putRow f (Sort.ahead w n) g 0 l'.toArray) os) s l' ∧ Mo (SlIn s) w (Sort.grow (Sort.putRow f (Sort.ahead w n) g 0 l'.toArray) os) := by
  obtain ⟨h1, h2, h3⟩ := h
  rcases h3 with ⟨e1, _⟩ | ⟨g', cap, cur, e1, hbg, hg, hc1, hc2, hc3, htake⟩
  · rw [ha] at e1; cases e1
  · rw [ha] at e1
    injection e1 with e1 e2 e3
    injection e1 with e1
    injection e1 with e1
    subst e1
    have hsz : l'.toArray.size ≤ cur.size := by rw [hc3]; simp; omega
    obtain ⟨p1, p2⟩ := put_world f hg l'.toArray hsz n os
    refine ⟨⟨by rw [h1, hl], by rw [List.length_map, hl, h1, Nat.mul_one], .inr ⟨g, cap, _, ?_, hbg, p1, hc1, hc2, ?_, ?_⟩⟩, p2.weak (fun b _ hb => ⟨_, ha, hb.symm⟩)⟩
    · rw [ha, e3]
    · simp [hc3]; omega
    · simp only [Nat.mul_one]
      rw [h1, ← hl]
      exact List.take_left' (by simp)
end Go.Cu
