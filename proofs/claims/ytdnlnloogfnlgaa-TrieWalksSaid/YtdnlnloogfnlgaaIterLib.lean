/- A map gone through. -/
import Derived.Test.YtdnlnloogfnlgaaAggLib
set_option linter.all false
namespace Go.Cu
open Go Go.RowKit
open Go.ChangeMaps (setBlock)
abbrev kvE (e : MapEntry) : Value × Value := (e.key, e.val)
abbrev kvP (p : Int × Value) : Value × Value := (.int .i64 p.1, p.2)
/-- the iterator in block r over the map in block b: what it has still to hand out -/
def IterIs (w : World) (r b : Nat) (l rem : List (Int × Value)) : Prop :=
  ∃ (es : Array MapEntry) (clock : Nat) (seen : Array Nat), w.heap[r]? = some (.mapIter (some b) clock seen clock) ∧ w.heap[b]? = some (.map es clock) ∧ es.toList.map kvE = l.map kvP ∧ (l.map (·.1)).Nodup ∧ (es.toList.map (·.born)).Nodup ∧ (∀ e ∈ es.toList, e.born < clock) ∧
    (leftOf es seen).toList.map kvE = rem.map kvP
/-- what it has just handed out -/
def CurIs (w : World) (r b : Nat) (x : Int) (v : Value) : Prop :=
  ∃ (es : Array MapEntry) (clock : Nat) (seen : Array Nat) (e : MapEntry), w.heap[r]? = some (.mapIter (some b) clock (seen.push e.born) clock) ∧ w.heap[b]? = some (.map es clock) ∧ e ∈ es.toList ∧ e.key = .int .i64 x ∧ e.val = v ∧ (es.toList.map (·.born)).Nodup
theorem IterIs.lt {w : World} {r b : Nat} {l rem : List (Int × Value)} (h : IterIs w r b l rem) : r < w.heap.size ∧ b < w.heap.size := by
  obtain ⟨es, clock, seen, h1, h2, _⟩ := h
  constructor
  · rcases Nat.lt_or_ge r w.heap.size with h' | h'
    · exact h'
    · rw [Array.getElem?_eq_none h'] at h1; cases h1
  · rcases Nat.lt_or_ge b w.heap.size with h' | h'
    · exact h'
    · rw [Array.getElem?_eq_none h'] at h2; cases h2
theorem IterIs.mo {X : Nat → Prop} {w w' : World} {r b : Nat} {l rem : List (Int × Value)} (h : IterIs w r b l rem) (k : Mo X w w') (hr : ¬ X r) (hb : ¬ X b) : IterIs w' r b l rem := by
  have hlt := h.lt
  obtain ⟨es, clock, seen, h1, h2, h3⟩ := h
  exact ⟨es, clock, seen, by rw [k.keep r hlt.1 hr]; exact h1, by rw [k.keep b hlt.2 hb]; exact h2, h3⟩
theorem IterIs.ex {w w' : World} {r b : Nat} {l rem : List (Int × Value)} (h : IterIs w r b l rem) (k : Ex w w') : IterIs w' r b l rem := h.mo k id id
/-- how many are still to come -/
def iterLeft (w : World) (r : Nat) : Nat := match w.heap[r]? with
  | some (.mapIter (some b) _ seen _) => match w.heap[b]? with
    | some (.map es _) => (leftOf es seen).size
    | _ => 0
  | _ => 0
theorem IterIs.left {w : World} {r b : Nat} {l rem : List (Int × Value)} (h : IterIs w r b l rem) : iterLeft w r = rem.length := by
  obtain ⟨es, clock, seen, h1, h2, _, _, _, _, h3⟩ := h
  unfold iterLeft
  rw [h1]
  simp only
  rw [h2]
  have := congrArg List.length h3
  simpa using this
theorem left_step : ∀ (L : List MapEntry) (rem : List (Int × Value)) (b0 : Nat) (x : Int), L.map kvE = rem.map kvP → (∀ e ∈ L, e.born = b0 ↔ e.key = .int .i64 x) → (L.filter fun e => decide (e.born ≠ b0)).map kvE = (rem.filter fun p => decide (p.1 ≠ x)).map kvP
  | [], [], _, _, _, _ => rfl
  | [], _ :: _, _, _, h, _ => by cases h
  | _ :: _, [], _, _, h, _ => by cases h
  | e :: L, p :: rem, b0, x, h, hb => by
    simp only [List.map_cons, List.cons.injEq, Prod.mk.injEq] at h
    obtain ⟨⟨h1, h2⟩, h3⟩ := h
    have ih := left_step L rem b0 x h3 (fun e' he' => hb e' (List.mem_cons_of_mem _ he'))
    have he := hb e (List.mem_cons_self ..)
    have hx : e.born = b0 ↔ p.1 = x := by
      rw [he, h1]
      constructor
      · intro h'; injection h'
      · intro h'; rw [h']
    by_cases hbe : e.born = b0
    · rw [List.filter_cons_of_neg (by simp [hbe]), List.filter_cons_of_neg (by simp [hx.1 hbe])]; exact ih
    · rw [List.filter_cons_of_pos (by simp [hbe]), List.filter_cons_of_pos (by simpa using fun h' => hbe (hx.2 h')), List.map_cons, List.map_cons, ih]
      show (e.key, e.val) :: _ = (Value.int .i64 p.1, p.2) :: _
      rw [h1, h2]
section
variable {P : Program}
theorem Wr_range {t kt e : TypeId} {b : Nat} {l : List (Int × Value)} {K : Addr → World → Prop} {w : World} (ht : P.underlying t = some (.map kt e)) (hm : MapIs w b l)
    (hK : ∀ w', IterIs w' w.heap.size b l l → Ex w w' → K ⟨w.heap.size, 0, none⟩ w') : Wr P (Instr.range t (.map (some b))) (.one (.at .addr)) K w := by
  have hlt := hm.lt
  obtain ⟨es, clock, h1, h2, h3, h4, h5⟩ := hm
  refine ⟨_, _, run_range_map w t kt e b es clock ht h1, hK _ ⟨es, clock, #[], heap_alloc_new w _, ?_, h2, h3, h4, h5, ?_⟩ (Ex.alloc w _)⟩
  · rw [heap_alloc_old w _ hlt]; exact h1
  · have : leftOf es #[] = es := by unfold leftOf; simp
    rw [this]; exact h2
theorem key_unique {es : List MapEntry} {l : List (Int × Value)} (h : es.map kvE = l.map kvP) (hn : (l.map (·.1)).Nodup) (hb : (es.map (·.born)).Nodup) {e e' : MapEntry} (he : e ∈ es) (he' : e' ∈ es) : e'.born = e.born ↔ e'.key = e.key := by
  obtain ⟨i, hi⟩ := List.getElem?_of_mem he
  obtain ⟨j, hj⟩ := List.getElem?_of_mem he'
  have hil : i < es.length := (List.getElem?_eq_some_iff.1 hi).1
  have hjl : j < es.length := (List.getElem?_eq_some_iff.1 hj).1
  have hlen : es.length = l.length := by have := congrArg List.length h; simpa using this
  have key : ∀ k (x : MapEntry), es[k]? = some x → x.key = .int .i64 ((l.map (·.1)).getD k 0) := by
    intro k x hk
    have hkl : k < l.length := by rw [← hlen]; exact (List.getElem?_eq_some_iff.1 hk).1
    have := congrArg (fun z => z[k]?) h
    simp only [List.getElem?_map, hk, List.getElem?_eq_getElem hkl, Option.map_some, Option.some.injEq, Prod.mk.injEq] at this
    rw [this.1, List.getD_eq_getElem?_getD, List.getElem?_map, List.getElem?_eq_getElem hkl]; rfl
  constructor
  · intro hbe
    have h1 : (es.map (·.born))[i]? = some e.born := by rw [List.getElem?_map, hi]; rfl
    have h2 : (es.map (·.born))[j]? = some e.born := by rw [List.getElem?_map, hj]; simp [hbe]
    have : i = j := (List.getElem?_inj (by simpa using hil) hb).1 (h1.trans h2.symm)
    subst this
    rw [hi] at hj; cases hj; rfl
  · intro hke
    rw [key i e hi, key j e' hj] at hke
    injection hke with _ hke
    have hi2 : i < (l.map (·.1)).length := by simpa using (by omega : i < l.length)
    have hj2 : j < (l.map (·.1)).length := by simpa using (by omega : j < l.length)
    rw [List.getD_eq_getElem?_getD, List.getD_eq_getElem?_getD, List.getElem?_eq_getElem hi2, List.getElem?_eq_getElem hj2] at hke
    simp only [Option.getD_some] at hke
    have : j = i := (List.getElem?_inj hj2 hn).1 (by rw [List.getElem?_eq_getElem hi2, List.getElem?_eq_getElem hj2, hke])
    subst this
    rw [hi] at hj; cases hj; rfl
/-- one step: nothing is left, or an entry that is left comes out -/
theorem Wr_next {ty : TypeId} {r b : Nat} {l rem : List (Int × Value)} {K : Option (Int × Option Addr) → World → Prop} {w : World} (h : IterIs w r b l rem) (hrb : r ≠ b) (hp : ∀ p ∈ l, ∃ z, p.2 = .pointer z)
    (h0 : rem = [] → K none w) (h1 : ∀ x z w', (x, Value.pointer z) ∈ rem → IterIs w' r b l (rem.filter fun p => decide (p.1 ≠ x)) → CurIs w' r b x (.pointer z) → Mo (fun c => c = r) w w' → K (some (x, z)) w') :
    Wr P (Instr.next (.pointer (some ⟨r, 0, none⟩)) false ty) (.nxt (.int .i64) .ptr) K w := by
  obtain ⟨es, clock, seen, hr, hb, hkv, hn, hbn, hlt, hleft⟩ := h
  rcases run_next_at (P := P) w ty r b clock clock seen es clock hr hb hlt (Nat.le_refl _) with ⟨hsz, hrun⟩ | ⟨e, he, w1, hw1, hrun⟩
  · refine ⟨none, w, hrun, h0 ?_⟩
    have : (leftOf es seen).toList = [] := by simpa using Array.eq_empty_of_size_eq_zero hsz
    rw [this] at hleft
    cases rem with
    | nil => rfl
    | cons a r => cases hleft
  · have hel : e ∈ es.toList := by unfold leftOf at he; rw [Array.toList_filter] at he; exact (List.mem_filter.1 he).1
    have hin : kvE e ∈ rem.map kvP := by rw [← hleft]; exact List.mem_map.2 ⟨e, he, rfl⟩
    obtain ⟨⟨x, v⟩, hxv, hxe⟩ := List.mem_map.1 hin
    simp only [kvP, kvE, Prod.mk.injEq] at hxe
    obtain ⟨hx, hv⟩ := hxe
    have hinl : kvE e ∈ l.map kvP := by rw [← hkv]; exact List.mem_map.2 ⟨e, hel, rfl⟩
    obtain ⟨⟨x', v'⟩, hxv', hxe'⟩ := List.mem_map.1 hinl
    simp only [kvP, kvE, Prod.mk.injEq] at hxe'
    obtain ⟨z, hz⟩ := hp _ hxv'
    have hvz : v = .pointer z := by rw [hv, ← hxe'.2]; exact hz
    subst hvz
    have hw1r : w1.heap[r]? = some (.mapIter (some b) clock seen clock) := by rcases hw1 with rfl | rfl <;> exact hr
    have hw1b : w1.heap[b]? = some (.map es clock) := by rcases hw1 with rfl | rfl <;> exact hb
    have hmo : Mo (fun c => c = r) w (setBlock w1 r (.mapIter (some b) clock (seen.push e.born) clock)) := by
      rcases hw1 with rfl | rfl
      · exact Mo.setBlock _ _ _
      · exact (Ex.drew w).mo (Mo.setBlock _ _ _)
    have hr' : (setBlock w1 r (.mapIter (some b) clock (seen.push e.born) clock)).heap[r]? = some (.mapIter (some b) clock (seen.push e.born) clock) := heap_set' hw1r
    have hb' : (setBlock w1 r (.mapIter (some b) clock (seen.push e.born) clock)).heap[b]? = some (.map es clock) := by rw [setBlock_heap, if_neg (fun h => hrb h.1.symm)]; exact hw1b
    refine ⟨some (x, z), _, ?_, h1 x z _ hxv ⟨es, clock, seen.push e.born, hr', hb', hkv, hn, hbn, hlt, ?_⟩ ⟨es, clock, seen, e, hr', hb', hel, hx.symm, hv.symm, hbn⟩ hmo⟩
    · rw [hrun]
      show Result.ok (Value.tuple #[.bool true, e.key, e.val]) _ = Result.ok (Value.tuple ⟨[.bool true, .int .i64 x, .pointer z]⟩) _
      rw [← hx, ← hv]
    · have := left_step (leftOf es seen).toList rem e.born x hleft (fun e' he' => by
        have he'l : e' ∈ es.toList := by unfold leftOf at he'; rw [Array.toList_filter] at he'; exact (List.mem_filter.1 he').1
        rw [hx]; exact key_unique hkv hn hbn hel he'l)
      rw [← this]
      congr 1
      unfold leftOf
      rw [Array.toList_filter, Array.toList_filter, List.filter_filter]
      apply List.filter_congr
      intro e' _
      simp [Bool.and_comm, eq_comm]
theorem Rd_entry {r b : Nat} {x : Int} {z : Option Addr} {K : (Int × Option Addr × Unit) → World → Prop} {w : World} (h : CurIs w r b x (.pointer z)) (hK : K (x, z, ()) w) : Rd P (Instr.entry (.pointer (some ⟨r, 0, none⟩))) (.tup [.at (.int .i64), .at .ptr]) K w := by
  obtain ⟨es, clock, seen, e, h1, h2, h3, h4, h5, h6⟩ := h
  refine ⟨(x, z, ()), ?_, hK⟩
  rw [run_entry_at w r b clock seen es clock e h1 h2 h3 h6, h4, h5]
  rfl
end
end Go.Cu
