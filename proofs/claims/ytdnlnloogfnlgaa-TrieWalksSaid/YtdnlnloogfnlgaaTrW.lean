/- The arguments of the trie's laws, opened out of their data. -/
import Derived.Test.YtdnlnloogfnlgaaTrU
import Derived.Test.YtdnlnloogfnlgaaOpen2Lib
import Derived.Test.YtdnlnloogfnlgaaRows
import Derived.WalkKit
import Derived.ProofKit
import Derived.OpenShut
set_option linter.all false
namespace Go.Proofs.Ytdnlnloogfnlgaa
open Go Go.Cu Go.ChangeShapes Go.WideShapes Go.RowKit
set_option linter.unusedVariables false
set_option maxHeartbeats 4000000
theorem ownKn : ownKnob Try.prog.godebug = none := by kernel_rfl
theorem laidOut : laidOutB Try.prog = true := by kernel_rfl
theorem uBool : Program.underlying Try.prog 4 = some .bool := by kernel_rfl
theorem cI : Program.cellsOf Try.prog 3 = 1 := by kernel_rfl
theorem cB : Program.cellsOf Try.prog 5 = 1 := by kernel_rfl
theorem cBB : Program.cellsOf Try.prog 52 = 1 := by kernel_rfl
theorem cII : Program.cellsOf Try.prog 29 = 1 := by kernel_rfl
theorem cBBB : Program.cellsOf Try.prog 30 = 1 := by kernel_rfl
theorem cOp : Program.cellsOf Try.prog 32 = 4 := by kernel_rfl
theorem bI : Program.bytesOf Try.prog 3 = 8 := by kernel_rfl
theorem bB : Program.bytesOf Try.prog 5 = 1 := by kernel_rfl
theorem bBB : Program.bytesOf Try.prog 52 = 24 := by kernel_rfl
theorem bOp : Program.bytesOf Try.prog 32 = 64 := by kernel_rfl
theorem uU8 : Program.underlying Try.prog 5 = some (.int .u8) := by kernel_rfl
theorem uOp : Program.underlying Try.prog 32 = some (.struct (Program.fieldsOf Try.prog 32)) := by kernel_rfl
theorem fOp : (Program.fieldsOf Try.prog 32).map (fun f => (f.type, f.offset)) = #[(3, 0), (3, 1), (29, 2), (30, 3)] := by kernel_rfl
theorem field_at {fs : Array Field} {l : Array (TypeId × Nat)} (h : fs.map (fun f => (f.type, f.offset)) = l) {i : Nat} {t : TypeId} {o : Nat} (hi : l[i]? = some (t, o)) : ∃ f, fs[i]? = some f ∧ f.type = t ∧ f.offset = o := by
  rw [← h, Array.getElem?_map] at hi
  cases hf : fs[i]? with
  | none => rw [hf] at hi; cases hi
  | some f =>
    rw [hf] at hi
    simp only [Option.map_some, Option.some.injEq, Prod.mk.injEq] at hi
    exact ⟨f, rfl, hi.1, hi.2⟩
section
variable {H : Type} {enc : TypeId × Value → H}
theorem open_key {W : World} {fuel : Nat} {v : Value} {x : DataW H × List MemPlace} (h : DataW.trod enc Try.prog W 0 (fun _ => true) true fuel 29 [v] = some x) (hw : okW Try.prog 29 x.1) : ∃ (s : Sl) (l : List Int), v = slv s ∧ Rds i64v W s l ∧ l.length ≤ 17592186044000 := by
  rcases open_ints tI uInt cI h with ⟨h1, rfl⟩ | ⟨a, len, cap, zs, h1, _, hl, hm, hz, rfl, hcell, hwf⟩
  · injection h1 with h1 _
    subst h1
    exact ⟨⟨none, 0, 0⟩, [], rfl, Rds.nil _ _, by simp⟩
  · injection h1 with h1 _
    subst h1
    simp only [if_true] at hz
    have hwt := (okW_slice hw tI).1
    rw [bI] at hwt
    have hlen : (zs.take len).length = len := by rw [List.length_take]; omega
    have e1 : (lits (H := H) .i64 (zs.take len)).length = len := by simp [lits]; omega
    have hr : reachBytes = 140737488351232 := rfl
    refine ⟨⟨some a, len, cap⟩, zs.take len, rfl, ⟨hlen.symm, hl, fun i x hi => ⟨a, rfl, ?_⟩⟩, by omega⟩
    rw [List.getElem?_take] at hi
    split at hi
    · have hi' : i < zs.length := (List.getElem?_eq_some_iff.1 hi).1
      rw [hcell i hi', List.getD_eq_getElem?_getD, hi]; rfl
    · cases hi
theorem open_value {W : World} {fuel : Nat} {v : Value} {x : DataW H × List MemPlace} (h : DataW.trod enc Try.prog W 0 (fun _ => true) true fuel 30 [v] = some x) (hw : okW Try.prog 30 x.1) : ∃ (s : Sl) (ls : List (List Int)), v = slv s ∧ Nest b8 (fun _ => True) W s ls ∧ RowsLe ls := by
  obtain ⟨s, ls, rfl, h1, h2, h3⟩ := open_nest tBB tB uU8 cBB cB (Nat.le_of_ble_eq_true (by kernel_rfl)) h hw
  rw [bBB] at h2
  exact ⟨s, ls, rfl, h1, by omega, fun l hl => (h3 l hl).2⟩
theorem four {α : Type} {l : List α} (h : l.length = 4) : ∃ a b c d, l = [a, b, c, d] := by
  match l, h with
  | [a, b, c, d], _ => exact ⟨a, b, c, d, rfl⟩
theorem open_op {W : World} {fuel : Nat} {cs : List Value} {x : DataW H × List MemPlace} (h : DataW.trod enc Try.prog W 0 (fun _ => true) true fuel 32 cs = some x) (hw : okW Try.prog 32 x.1) :
    ∃ o : OpK, cs = encAts oAts o.o ∧ OpOk W o := by
  obtain ⟨xs, n, _, rfl, hlen, hxs, hf⟩ := DataW.trod_struct uOp h
  rw [cOp] at hlen
  have hsz : (Program.fieldsOf Try.prog 32).size = 4 := by have := congrArg Array.size fOp; simpa using this
  obtain ⟨f0, h0, t0, o0⟩ := field_at fOp (i := 0) rfl
  obtain ⟨f1, h1, t1, o1⟩ := field_at fOp (i := 1) rfl
  obtain ⟨f2, h2, t2, o2⟩ := field_at fOp (i := 2) rfl
  obtain ⟨f3, h3, t3, o3⟩ := field_at fOp (i := 3) rfl
  obtain ⟨x2, hx2⟩ : ∃ y, xs[2]? = some y := ⟨_, List.getElem?_eq_getElem (by omega)⟩
  obtain ⟨x3, hx3⟩ : ∃ y, xs[3]? = some y := ⟨_, List.getElem?_eq_getElem (by omega)⟩
  have r0 := hf 0 f0 h0
  have r1 := hf 1 f1 h1
  have r2 := hf 2 f2 h2
  have r3 := hf 3 f3 h3
  rw [List.getElem?_eq_getElem (by omega)] at r0 r1
  rw [hx2] at r2
  rw [hx3] at r3
  rw [t0, o0] at r0
  rw [t1, o1] at r1
  rw [t2, o2, cII] at r2
  rw [t3, o3, cBBB] at r3
  obtain ⟨k, ek⟩ := trod_num uInt cI r0
  obtain ⟨on, eo⟩ := trod_num uInt cI r1
  have hw2 : okW Try.prog 29 x2.1 := by
    have := okW_struct hw uOp 2 f2 x2.1 h2 (by rw [List.getElem?_map, hx2]; rfl)
    rw [t2] at this; exact this
  have hw3 : okW Try.prog 30 x3.1 := by
    have := okW_struct hw uOp 3 f3 x3.1 h3 (by rw [List.getElem?_map, hx3]; rfl)
    rw [t3] at this; exact this
  obtain ⟨a0, a1, a2, a3, rfl⟩ := four hlen
  have r2' : DataW.trod enc Try.prog W 0 (fun _ => true) true n 29 [a2] = some x2 := r2
  have r3' : DataW.trod enc Try.prog W 0 (fun _ => true) true n 30 [a3] = some x3 := r3
  obtain ⟨sk, l, rfl, hr, hkl⟩ := open_key r2' hw2
  obtain ⟨sv, ls, rfl, hn, hle⟩ := open_value r3' hw3
  refine ⟨⟨(k, on, sk, sv, ()), l, ls⟩, ?_, hr, hkl, hn, hle⟩
  have ek2 : a0 = Value.int .i64 k := Option.some.inj ek
  have eo2 : a1 = Value.int .i64 on := Option.some.inj eo
  rw [ek2, eo2]; rfl
theorem open_script {W : World} {fuel : Nat} {v : Value} {x : DataW H × List MemPlace} (h : DataW.trod enc Try.prog W 0 (fun _ => true) true fuel 22 [v] = some x) (hw : okW Try.prog 22 x.1) :
    ∃ (s : Sl) (os : List OpK), v = slv s ∧ Script W s os := by
  have tS : Program.underlying Try.prog 22 = some (.slice 32) := by kernel_rfl
  rcases Deep.open_slice tS h with ⟨h1, _⟩ | ⟨a, len, cap, m, n, D, Pl, h1, _, hl, hm, hmm, rfl, hx⟩
  · injection h1 with h1 _
    subst h1
    exact ⟨⟨none, 0, 0⟩, [], rfl, RdA.nil _ _, fun o ho => by simp at ho, by simp⟩
  · injection h1 with h1 _
    subst h1
    simp only [if_true] at hmm
    obtain ⟨hwt, hwe⟩ := okW_slice hw tS
    rw [bOp] at hwt
    have each : ∀ i, i < len → ∃ o : OpK, (∀ j u, (encAts oAts o.o)[j]? = some u → W.cell? ((a.add (i * 4)).add j) = some u) ∧ OpOk W o := by
      intro i hi
      obtain ⟨cs', q1, q2⟩ := hx i (by omega)
      rw [cOp] at q1
      obtain ⟨_, _, q3⟩ := World.cells?_some q1
      obtain ⟨o, ho, hl'⟩ := open_op q2 (hwe i (D i) (by rw [List.getElem?_map, List.getElem?_range hi]; rfl))
      refine ⟨o, fun j u hj => ?_, hl'⟩
      have hj' : j < 4 := by
        have := (List.getElem?_eq_some_iff.1 hj).1
        exact this
      rw [q3 j hj', ho, hj]
    have inh : Inhabited OpK := ⟨⟨(0, 0, ⟨none, 0, 0⟩, ⟨none, 0, 0⟩, ()), [], []⟩⟩
    obtain ⟨f, hfi⟩ := Deep.choose_lt each
    have hlen : ((List.range len).map f).length = len := by simp
    have e1 : ((List.range len).map D).length = len := by simp
    have hr : reachBytes = 140737488351232 := rfl
    refine ⟨⟨some a, len, cap⟩, (List.range len).map f, rfl, ⟨by simp, hl, fun i o hi => ⟨a, rfl, ?_⟩⟩, fun o ho => ?_, by omega⟩
    · have hi' : i < len := by have := (List.getElem?_eq_some_iff.1 hi).1; simpa using this
      rw [List.getElem?_map, List.getElem?_map, List.getElem?_range hi'] at hi
      cases hi
      exact (hfi i hi').1
    · obtain ⟨i, hi, rfl⟩ := List.mem_map.1 ho
      exact (hfi i (List.mem_range.1 hi)).2
end
end Go.Proofs.Ytdnlnloogfnlgaa
