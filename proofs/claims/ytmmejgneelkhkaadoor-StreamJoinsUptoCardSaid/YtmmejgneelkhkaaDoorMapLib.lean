/- Maps from numbers: looked up, written, struck, counted and gone through. -/
import Derived.Test.YtmmejgneelkhkaaDoorEqLib
import Derived.Maps.RangeRun
import Derived.ChangeMaps5
set_option linter.all false
namespace Go.Cu
open Go Go.RowKit
open Go.ChangeMaps (setBlock)
theorem setBlock_heap (w : World) (b c : Nat) (o : Obj) : (setBlock w b o).heap[c]? = if c = b ∧ b < w.heap.size then some o else w.heap[c]? := by
  show (w.heap.setIfInBounds b o)[c]? = _
  rw [Array.getElem?_setIfInBounds]
  split
  · rename_i h; subst h
    split
    · rw [if_pos ⟨rfl, by assumption⟩]
    · rw [if_neg (fun h => by omega)]
      rw [Array.getElem?_eq_none (by omega)]
  · rename_i h; rw [if_neg (fun h' => h h'.1.symm)]
theorem Mo.setBlock (w : World) (b : Nat) (o : Obj) : Mo (fun c => c = b) w (setBlock w b o) :=
  ⟨rfl, rfl, rfl, by show _ ≤ (w.heap.setIfInBounds b o).size; simp, fun c _ hc => by rw [setBlock_heap, if_neg (fun h => hc h.1)]⟩
/-- the map in block b holds just these, each key once -/
def MapIs (w : World) (b : Nat) (l : List (Int × Value)) : Prop :=
  ∃ es clock, w.heap[b]? = some (.map es clock) ∧ es.toList.map (fun e => (e.key, e.val)) = l.map (fun p => (Value.int .i64 p.1, p.2)) ∧ (l.map (·.1)).Nodup ∧ (es.toList.map (·.born)).Nodup ∧ ∀ e ∈ es.toList, e.born < clock
theorem MapIs.mo {X : Nat → Prop} {w w' : World} {b : Nat} {l : List (Int × Value)} (h : MapIs w b l) (k : Mo X w w') (hx : ¬ X b) : MapIs w' b l := by
  obtain ⟨es, clock, h1, h2⟩ := h
  refine ⟨es, clock, ?_, h2⟩
  have hlt : b < w.heap.size := by
    rcases Nat.lt_or_ge b w.heap.size with h' | h'
    · exact h'
    · rw [Array.getElem?_eq_none h'] at h1; cases h1
  rw [k.keep b hlt hx]; exact h1
theorem MapIs.ex {w w' : World} {b : Nat} {l : List (Int × Value)} (h : MapIs w b l) (k : Ex w w') : MapIs w' b l := h.mo k id
theorem MapIs.lt {w : World} {b : Nat} {l : List (Int × Value)} (h : MapIs w b l) : b < w.heap.size := by
  obtain ⟨es, clock, h1, _⟩ := h
  rcases Nat.lt_or_ge b w.heap.size with h' | h'
  · exact h'
  · rw [Array.getElem?_eq_none h'] at h1; cases h1
theorem MapIs.new (w : World) : MapIs (w.alloc (.map #[] 0)) w.heap.size [] :=
  ⟨#[], 0, by show (w.heap.push _)[_]? = _; simp, rfl, by simp, by simp, by simp⟩
/-- where a key stands -/
def lk : List (Int × Value) → Int → Nat → Option (Nat × Value)
  | [], _, _ => none
  | (y, v) :: l, x, i => if x = y then some (i, v) else lk l x (i + 1)
theorem findNow_lk {k : IntKind} : ∀ (es : List MapEntry) (l : List (Int × Value)) (x : Int) (i : Nat), es.map (fun e => (e.key, e.val)) = l.map (fun p => (Value.int .i64 p.1, p.2)) → Instr.findNow (.int k) (.int .i64 x) es i = some (lk l x i)
  | [], [], _, _, _ => rfl
  | [], _ :: _, _, _, h => by cases h
  | _ :: _, [], _, _, h => by cases h
  | e :: es, (y, v) :: l, x, i, h => by
    simp only [List.map_cons, List.cons.injEq, Prod.mk.injEq] at h
    obtain ⟨⟨h1, h2⟩, h3⟩ := h
    have ih := findNow_lk (k := k) es l x (i + 1) h3
    simp only [Instr.findNow, h1, h2, Instr.sameNow, if_true, lk]
    by_cases hxy : x = y
    · simp [hxy]
    · rw [if_neg hxy, beq_false_of_ne hxy]; exact ih
theorem lk_some : ∀ {l : List (Int × Value)} {x : Int} {i j : Nat} {v : Value}, lk l x i = some (j, v) → i ≤ j ∧ l[j - i]? = some (x, v)
  | (y, u) :: l, x, i, j, v, h => by
    unfold lk at h
    split at h
    · rename_i hxy; cases h; subst hxy; simp
    · have ih := lk_some h
      refine ⟨by omega, ?_⟩
      rw [show j - i = (j - (i + 1)) + 1 by omega, List.getElem?_cons_succ]; exact ih.2
theorem lk_none : ∀ {l : List (Int × Value)} {x : Int} {i : Nat}, lk l x i = none → ∀ p ∈ l, p.1 ≠ x
  | (y, u) :: l, x, i, h, p, hp => by
    unfold lk at h
    split at h
    · cases h
    · rename_i hxy
      rcases List.mem_cons.1 hp with rfl | hp
      · exact fun hn => hxy hn.symm
      · exact lk_none h p hp
theorem lk_of_mem : ∀ {l : List (Int × Value)} {x : Int} {v : Value} (i : Nat), (l.map (·.1)).Nodup → (x, v) ∈ l → ∃ j, lk l x i = some (j, v)
  | (y, u) :: l, x, v, i, hn, hm => by
    rw [List.map_cons, List.nodup_cons] at hn
    unfold lk
    rcases List.mem_cons.1 hm with h | h
    · cases h; exact ⟨i, by rw [if_pos rfl]⟩
    · rw [if_neg (fun hxy : x = y => hn.1 (by rw [← hxy]; exact List.mem_map.2 ⟨_, h, rfl⟩))]
      exact lk_of_mem (i + 1) hn.2 h
section
variable {P : Program}
theorem run_getObj_map {w : World} {b : Nat} {es : Array MapEntry} {c : Nat} (h : w.heap[b]? = some (.map es c)) : (getObj b).run P w = .ok (.map es c) w := by simp [getObj, Sem.run, h]
theorem run_checkKey_int {kt : TypeId} {k : IntKind} {e : Bool} {x : Int} {w : World} (hk : P.underlying kt = some (.int k)) : (Instr.checkKey e 10000 kt (.int .i64 x)).run P w = .ok () w := by
  have h : ∀ n, (Instr.checkKey e (n + 1) kt (.int .i64 x)).run P w = .ok () w := fun n => by simp [Instr.checkKey, run_underlying hk]
  exact h 9999
theorem run_findKey_int {kt : TypeId} {k : IntKind} {x : Int} {es : List MapEntry} {l : List (Int × Value)} {w : World} (hk : P.underlying kt = some (.int k)) (h : es.map (fun e => (e.key, e.val)) = l.map (fun p => (Value.int .i64 p.1, p.2))) :
    (Instr.findKey kt (.int .i64 x) es).run P w = .ok (lk l x 0) w := by
  simp [Instr.findKey, run_underlying hk, findNow_lk es l x 0 h]
def getM (z : Value) : Option (Nat × Value) → Value
  | some (_, v) => v
  | none => z
/-- a key is looked up -/
theorem run_lookup {t kt e : TypeId} {k : IntKind} {b : Nat} {l : List (Int × Value)} {x : Int} {z : Value} {w : World} (ht : P.underlying t = some (.map kt e)) (hk : P.underlying kt = some (.int k)) (hz : (P.info? e).bind (·.zero) = some z) (hm : MapIs w b l) :
    (Instr.lookup t (.map (some b)) (.int .i64 x) false).run P w = .ok (getM z (lk l x 0)) w := by
  obtain ⟨es, clock, h1, h2, _⟩ := hm
  have hzv : (zeroValue e).run P w = .ok z w := by
    cases hi : P.info? e with
    | none => rw [hi] at hz; cases hz
    | some i => rw [hi] at hz; have hz : i.zero = some z := hz; simp [zeroValue, typeInfo, hi, hz]
  simp only [Instr.lookup, Sem.run_bind, run_underlying ht, Result.andThen_ok, run_getObj_map h1, Sem.run_pure, run_checkKey_int hk, run_findKey_int hk h2]
  cases lk l x 0 with
  | none => simp [hzv, getM]
  | some y => simp [getM]
theorem erase_map {α β : Type} (f : α → β) : ∀ (l : List α) (i : Nat), (l.eraseIdx i).map f = (l.map f).eraseIdx i
  | [], _ => rfl
  | _ :: _, 0 => rfl
  | a :: l, i + 1 => by simp only [List.eraseIdx_cons_succ, List.map_cons]; rw [erase_map f l i]
def putM (l : List (Int × Value)) (x : Int) (v : Value) : List (Int × Value) := match lk l x 0 with
  | some (i, _) => l.set i (x, v)
  | none => l ++ [(x, v)]
def delM (l : List (Int × Value)) (x : Int) : List (Int × Value) := match lk l x 0 with
  | some (i, _) => l.eraseIdx i
  | none => l
theorem run_setObj {w : World} {b : Nat} {es : Array MapEntry} {c : Nat} (o : Obj) (h : w.heap[b]? = some (.map es c)) : (setObj b o).run P w = .ok () (setBlock w b o) := MapKept.run_setObj_map o h
theorem heap_set' {w : World} {b : Nat} {o o' : Obj} (h : w.heap[b]? = some o) : (setBlock w b o').heap[b]? = some o' := by
  have hlt : b < w.heap.size := by
    rcases Nat.lt_or_ge b w.heap.size with h' | h'
    · exact h'
    · rw [Array.getElem?_eq_none h'] at h; cases h
  rw [setBlock_heap, if_pos ⟨rfl, hlt⟩]
/-- a value is laid under a key -/
theorem run_update {t kt e : TypeId} {k : IntKind} {b : Nat} {l : List (Int × Value)} {x : Int} {v : Value} {w : World} (ht : P.underlying t = some (.map kt e)) (hk : P.underlying kt = some (.int k)) (hm : MapIs w b l) :
    ∃ w', (Instr.mapUpdate t (.map (some b)) (.int .i64 x) v).run P w = .ok () w' ∧ MapIs w' b (putM l x v) ∧ Mo (fun c => c = b) w w' := by
  obtain ⟨es, clock, h1, h2, h3, h4, h5⟩ := hm
  have hlen : es.size = l.length := by have := congrArg List.length h2; simpa using this
  unfold putM
  cases hlk : lk l x 0 with
  | none =>
    refine ⟨setBlock w b (.map (es.push { key := .int .i64 x, val := v, born := clock }) (clock + 1)), ?_, ⟨_, _, heap_set' h1, ?_, ?_, ?_, ?_⟩, Mo.setBlock _ _ _⟩
    · simp only [Instr.mapUpdate, Sem.run_bind, run_underlying ht, Result.andThen_ok, run_getObj_map h1, run_checkKey_int hk, run_findKey_int hk h2, hlk]
      exact run_setObj _ h1
    · simp [h2]
    · simp only [List.map_append, List.map_cons, List.map_nil]
      rw [List.nodup_append]
      refine ⟨h3, by simp, fun a ha c hc => ?_⟩
      simp only [List.mem_cons, List.not_mem_nil, or_false] at hc
      subst hc
      obtain ⟨p, hp, rfl⟩ := List.mem_map.1 ha
      exact lk_none hlk p hp
    · simp only [Array.toList_push, List.map_append, List.map_cons, List.map_nil]
      rw [List.nodup_append]
      refine ⟨h4, by simp, fun a ha c hc => ?_⟩
      simp only [List.mem_cons, List.not_mem_nil, or_false] at hc
      subst hc
      obtain ⟨p, hp, rfl⟩ := List.mem_map.1 ha
      exact Nat.ne_of_lt (h5 p hp)
    · intro en hen
      simp only [Array.toList_push, List.mem_append, List.mem_cons, List.not_mem_nil, or_false] at hen
      rcases hen with hen | rfl
      · exact Nat.lt_succ_of_lt (h5 en hen)
      · exact Nat.lt_succ_self _
  | some y =>
    obtain ⟨i, u⟩ := y
    obtain ⟨_, hi⟩ := lk_some hlk
    rw [Nat.sub_zero] at hi
    have hil : i < l.length := (List.getElem?_eq_some_iff.1 hi).1
    have hie : i < es.size := by omega
    have hkey : es[i].key = .int .i64 x := by
      have := congrArg (fun z => z[i]?) h2
      simp only [List.getElem?_map, Array.getElem?_toList] at this
      rw [hi, Array.getElem?_eq_getElem hie] at this
      simp only [Option.map_some, Option.some.injEq, Prod.mk.injEq] at this
      exact this.1
    have hks : (((es[i]?).map (·.key)).getD (.int .i64 x)) = .int .i64 x := by rw [Array.getElem?_eq_getElem hie]; simp [hkey]
    have hsb : Instr.sameBits 10000 (.int .i64 x) (.int .i64 x) = true := by
      have h : ∀ n, Instr.sameBits n (.int .i64 x) (.int .i64 x) = true := fun n => by cases n <;> simp [Instr.sameBits]
      exact h 10000
    refine ⟨setBlock w b (.map (es.modify i fun e => { e with key := .int .i64 x, val := v }) clock), ?_, ⟨_, _, heap_set' h1, ?_, ?_, ?_, ?_⟩, Mo.setBlock _ _ _⟩
    · simp only [Instr.mapUpdate, Sem.run_bind, run_underlying ht, Result.andThen_ok, run_getObj_map h1, run_checkKey_int hk, run_findKey_int hk h2, hlk, hks, Instr.keyThatStays, hsb, if_true, Sem.run_pure]
      exact run_setObj _ h1
    · apply List.ext_getElem?
      intro j
      simp only [List.getElem?_map, Array.getElem?_toList, Array.getElem?_modify, List.getElem?_set]
      by_cases hij : i = j
      · subst hij
        simp only [if_true, Array.getElem?_eq_getElem hie, Option.map_some]
        rw [if_pos hil]; rfl
      · rw [if_neg hij, if_neg hij]
        have := congrArg (fun z => z[j]?) h2
        simpa only [List.getElem?_map, Array.getElem?_toList] using this
    · have : (l.set i (x, v)).map (·.1) = l.map (·.1) := by
        apply List.ext_getElem?
        intro j
        simp only [List.getElem?_map, List.getElem?_set]
        by_cases hij : i = j
        · subst hij; rw [if_pos rfl, if_pos hil, hi]; rfl
        · rw [if_neg hij]
      rw [this]; exact h3
    · have : (es.modify i fun e => { e with key := Value.int .i64 x, val := v }).toList.map (·.born) = es.toList.map (·.born) := by
        apply List.ext_getElem?
        intro j
        simp only [List.getElem?_map, Array.getElem?_toList, Array.getElem?_modify]
        by_cases hij : i = j
        · subst hij; rw [if_pos rfl, Array.getElem?_eq_getElem hie]; rfl
        · rw [if_neg hij]
      rw [this]; exact h4
    · intro en hen
      obtain ⟨j, hj⟩ := List.getElem?_of_mem hen
      simp only [Array.getElem?_toList, Array.getElem?_modify] at hj
      by_cases hij : i = j
      · subst hij
        rw [if_pos rfl, Array.getElem?_eq_getElem hie] at hj
        cases hj
        exact h5 es[i] (by simp)
      · rw [if_neg hij] at hj
        exact h5 en (by rw [← Array.getElem?_toList] at hj; exact List.mem_of_getElem? hj)
/-- a key is struck -/
theorem run_delete {t kt e ty : TypeId} {t2 : TypeId} {k : IntKind} {b : Nat} {l : List (Int × Value)} {x : Int} {w : World} (ht : P.underlying t = some (.map kt e)) (hk : P.underlying kt = some (.int k)) (hm : MapIs w b l) :
    ∃ w', (Builtin.delete_ #[t, t2] ty #[.map (some b), .int .i64 x]).run P w = .ok (.tuple #[]) w' ∧ MapIs w' b (delM l x) ∧ Mo (fun c => c = b) w w' := by
  obtain ⟨es, clock, h1, h2, h3, h4, h5⟩ := hm
  unfold delM
  cases hlk : lk l x 0 with
  | none =>
    refine ⟨setBlock w b (.map es clock), ?_, ⟨es, clock, heap_set' h1, h2, h3, h4, h5⟩, Mo.setBlock _ _ _⟩
    simp [Builtin.delete_, run_underlying ht, run_getObj_map h1, run_checkKey_int hk, run_findKey_int hk h2, hlk, run_setObj _ h1]
  | some y =>
    obtain ⟨i, u⟩ := y
    refine ⟨setBlock w b (.map (es.eraseIdxIfInBounds i) clock), ?_, ⟨_, _, heap_set' h1, ?_, ?_, ?_, ?_⟩, Mo.setBlock _ _ _⟩
    · simp [Builtin.delete_, run_underlying ht, run_getObj_map h1, run_checkKey_int hk, run_findKey_int hk h2, hlk, run_setObj _ h1]
    · rw [Array.toList_eraseIdxIfInBounds, erase_map, h2, erase_map]
    · rw [erase_map]; exact h3.sublist (List.eraseIdx_sublist _ _)
    · rw [Array.toList_eraseIdxIfInBounds, erase_map]; exact h4.sublist (List.eraseIdx_sublist _ _)
    · intro en hen
      rw [Array.toList_eraseIdxIfInBounds] at hen
      exact h5 en (List.mem_of_mem_eraseIdx hen)
end
end Go.Cu
