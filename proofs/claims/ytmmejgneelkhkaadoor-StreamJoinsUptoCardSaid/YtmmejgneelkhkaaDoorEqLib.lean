/- Structs of plain numbers are equal to themselves; a literal of bytes that is turned into its own type. -/
import Derived.Test.YtmmejgneelkhkaaDoorCopyLib
import Derived.Laws.StructEq
import Derived.Lib.SlBytesConst
set_option linter.all false
namespace Go.Cu
open Go Go.RowKit
section
variable {P : Program}
theorem run_part_one {t : TypeId} {xs : Array Value} {o : Nat} {v : Value} {w : World} (h : isOne P t = true) (hc : xs[o]? = some v) : (part t xs o).run P w = .ok v w := by
  unfold part
  rw [run_bind, run_isAgg_one h]
  simp only [Bool.false_eq_true, if_false, hc]
  rfl
theorem run_eqFields_same {xs : Array Value} {d : Nat} {w : World} : ∀ fs : List Field, (∀ f ∈ fs, isOne P f.type = true ∧ ∃ k k' v, xs[f.offset]? = some (.int k v) ∧ P.underlying f.type = some (.int k')) → (Op.eqFields (d + 1) xs xs fs).run P w = .ok true w
  | [], _ => rfl
  | f :: fs, h => by
    obtain ⟨h1, k, k', v, h2, h3⟩ := h f (by simp)
    have ih := run_eqFields_same (d := d) (w := w) fs (fun g hg => h g (by simp [hg]))
    unfold Op.eqFields
    split
    · rw [run_bind, run_part_one h1 h2]
      show (Sem.run P _ w) = _
      rw [run_bind, run_part_one h1 h2]
      show (Sem.run P _ w) = _
      rw [run_bind, run_equalIn_int w d f.type k k' v v h3]
      simpa using ih
    · exact ih
/-- a struct of numbers is equal to itself -/
theorem run_eql_same {T : TypeId} {x y : Operand} {xs : Array Value} {w : World} (ht : P.underlying T = some (.struct (P.fieldsOf T))) (hp : P.stoodInHeld T = false) (hm : P.eqGuardType P.depth T = false)
    (hf : ∀ f ∈ (P.fieldsOf T).toList, isOne P f.type = true ∧ ∃ k k' v, xs[f.offset]? = some (.int k v) ∧ P.underlying f.type = some (.int k')) :
    (do eqGuard .eql T x y (.agg xs) (.agg xs); binOp .eql T (.agg xs) (.agg xs) : Sem Value).run P w = .ok (.bool true) w := by
  rw [run_bind, run_eqGuard_agg w .eql T x y xs xs hm]
  show (Sem.run P _ w) = _
  rw [run_eql_struct, run_equalIn_struct w 9999 T xs xs ht hp, run_eqFields_same _ hf]
  rfl
theorem RdS_eq {S : World → Prop} {T : TypeId} {x y : Operand} {xs : Array Value} {k : Bool → World → Prop} {w : World} (ht : P.underlying T = some (.struct (P.fieldsOf T))) (hp : P.stoodInHeld T = false) (hm : P.eqGuardType P.depth T = false)
    (hf : ∀ f ∈ (P.fieldsOf T).toList, isOne P f.type = true ∧ ∃ k k' v, xs[f.offset]? = some (.int k v) ∧ P.underlying f.type = some (.int k')) (hk : k true w) :
    RdS P S (do eqGuard .eql T x y (.agg xs) (.agg xs); binOp .eql T (.agg xs) (.agg xs)) (.one (.at .bool)) k w := ⟨true, fun _ _ => run_eql_same ht hp hm hf, hk⟩
theorem Rds.marked {α : Type} {f : α → Value} (w : World) (l : List α) (e : TypeId) (fr : Nat × Nat) : Rds f (w.alloc (.cells (l.map f).toArray e fr)) ⟨some ⟨w.heap.size, 0, none⟩, l.length, l.length⟩ l := by
  refine ⟨rfl, Nat.le_refl _, fun i x hi => ⟨_, rfl, ?_⟩⟩
  have h : (w.alloc (.cells (l.map f).toArray e fr)).heap[w.heap.size]? = some (.cells (l.map f).toArray e fr) := by
    show (w.heap.push _)[_]? = _; simp
  rw [add_lit]
  unfold World.cell?
  simp only [h]
  simp [hi]
/-- a literal of bytes, and that it is turned into its own type -/
theorem Wr_litBytes {t e : TypeId} {s : Sem Value} {n : Nat} {k : Sl → World → Prop} {w : World} (l : List Int) (hl : l.length = n) (ht : P.underlying t = some (.slice e)) (he : P.underlying e = some (.int .u8))
    (h : s.run P w = .ok (.slice (some ⟨w.heap.size, 0, none⟩) n n) (w.alloc (.cells (l.map b8).toArray e)))
    (hk : ∀ s' w', Rds b8 w' s' l → Ex w w' → k s' w') : Wr P s (.one (.at .sl)) (fun x w1 => Wr P (convert t t (.slice x.base x.len x.cap)) (.one (.at .sl)) k w1) w := by
  subst hl
  exact ⟨⟨some ⟨w.heap.size, 0, none⟩, l.length, l.length⟩, _, h, ⟨some ⟨w.heap.size, 0, none⟩, l.length, l.length⟩, _, Lib.run_convert_bytes_const w t e _ _ _ ht he, hk _ _ (Rds.marked w l e _) (Ex.alloc w _)⟩
end
end Go.Cu
