/- Small common things of the two laws. -/
import Derived.Test.YtmmejgneelkhkaaDoorSpU
set_option linter.all false
namespace Go.Proofs.YtmmejgneelkhkaaDoor
open Go Go.Cu Go.RowKit
set_option linter.unusedVariables false
set_option maxHeartbeats 4000000
set_option maxRecDepth 100000
theorem rds_at {α : Type} {f : α → Value} {w : World} {s : Sl} {l : List α} {i : Nat} {x : α} {a : Addr} (hr : Rds f w s l) (ha : s.base = some a) (hi : l[i]? = some x) : w.cell? (a.add i) = some (f x) := by
  obtain ⟨a', ha', hc⟩ := hr.2.2 i x hi
  rw [ha] at ha'
  cases ha'
  exact hc
theorem sep_oldHas {W0 w : World} {T : Ths} {g : Nat} {cs : List Value} {e : TypeId} (h : Sep W0 w T) (hB : Has W0 g cs e) : Has w g cs e := hB.mo h.mo (fun hx => absurd hB.lt (by omega))
abbrev i64P (x : Int) : Prop := -9223372036854775808 ≤ x ∧ x ≤ 9223372036854775807
/-- what a list of pipes and its lists hold -/
structure PipesOk (W : World) (ps : List PipeT) (dat chk : Nat → List Int) : Prop where
  rd : ∀ (i : Nat) (p : PipeT), ps[i]? = some p → Rds b8 W p.1 (dat i)
  rc : ∀ (i : Nat) (p : PipeT), ps[i]? = some p → Rds i64v W p.2.1 (chk i)
  dlen : ∀ (i : Nat) (p : PipeT), ps[i]? = some p → (dat i).length ≤ 140737488351232
  clen : ∀ (i : Nat) (p : PipeT), ps[i]? = some p → (chk i).length * 8 ≤ 140737488351232
  c64 : ∀ (i : Nat) (p : PipeT), ps[i]? = some p → ∀ c ∈ chk i, i64P c
  f64 : ∀ (i : Nat) (p : PipeT), ps[i]? = some p → i64P p.2.2.1
theorem rdA_lt {ats : List At} {w : World} {s : Sl} {l : List (Ats ats)} {a : Addr} (h : RdA ats w s l) (ha : s.base = some a) (hn : l.length ≠ 0) (hz : ats ≠ []) : a.block < w.heap.size := by
  obtain ⟨a', ha', hc⟩ := h.2.2 0 _ (List.getElem?_eq_getElem (by omega))
  rw [ha] at ha'
  cases ha'
  have hl : (encAts ats (l[0]'(by omega)))[0]? = some ((encAts ats (l[0]'(by omega)))[0]'(by rw [encAts_len]; exact List.length_pos_iff.2 hz)) := List.getElem?_eq_getElem _
  have := World.block_lt_of_cell? _ _ (hc 0 _ hl)
  rw [Addr.add_block, Addr.add_block] at this
  exact this
end Go.Proofs.YtmmejgneelkhkaaDoor
