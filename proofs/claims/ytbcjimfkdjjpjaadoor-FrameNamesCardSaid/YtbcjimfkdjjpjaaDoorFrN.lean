/- The script opened out of its datum. -/
import Derived.Test.YtbcjimfkdjjpjaaDoorFrM
import Derived.Test.YtbcjimfkdjjpjaaDoorOpenLib
import Derived.Test.YtbcjimfkdjjpjaaDoorCards
import Derived.Test.YtbcjimfkdjjpjaaDoorTie
import Derived.WalkKit
import Derived.ProofKit
import Derived.OpenShut
namespace Go.Proofs.YtbcjimfkdjjpjaaDoor
open Go Go.Cu Go.ChangeShapes Go.WideShapes Go.RowKit
set_option linter.unusedVariables false
set_option maxHeartbeats 4000000
theorem cellsOne : Program.cellsOf Tryd.prog 3 = 1 ∧ Program.cellsOf Tryd.prog 5 = 1 ∧ Program.cellsOf Tryd.prog 24 = 1 ∧ Program.cellsOf Tryd.prog 28 = 1 ∧ Program.cellsOf Tryd.prog 27 = 1 ∧ Program.cellsOf Tryd.prog 30 = 11 ∧ Program.cellsOf Tryd.prog 26 = 8 :=
  ⟨by kernel_rfl, by kernel_rfl, by kernel_rfl, by kernel_rfl, by kernel_rfl, by kernel_rfl, by kernel_rfl⟩
theorem uInt : Program.underlying Tryd.prog 3 = some (.int .i64) := by kernel_rfl
theorem uU64 : Program.underlying Tryd.prog 24 = some (.int .u64) := by kernel_rfl
theorem uU32 : Program.underlying Tryd.prog 28 = some (.int .u32) := by kernel_rfl
theorem uU8 : Program.underlying Tryd.prog 5 = some (.int .u8) := by kernel_rfl
theorem uOp : Program.underlying Tryd.prog 30 = some (.struct (Program.fieldsOf Tryd.prog 30)) := by kernel_rfl
theorem uHead : Program.underlying Tryd.prog 26 = some (.struct (Program.fieldsOf Tryd.prog 26)) := by kernel_rfl
theorem fOp : (Program.fieldsOf Tryd.prog 30).map (fun f => (f.type, f.offset)) = #[(3, 0), (26, 1), (27, 9), (28, 10)] := by kernel_rfl
theorem fHead : (Program.fieldsOf Tryd.prog 26).map (fun f => (f.type, f.offset)) = #[(3, 0), (3, 1), (3, 2), (3, 3), (3, 4), (3, 5), (3, 6), (24, 7)] := by kernel_rfl
theorem field_at {fs : Array Field} {l : Array (TypeId × Nat)} (h : fs.map (fun f => (f.type, f.offset)) = l) {i : Nat} {t : TypeId} {o : Nat} (hi : l[i]? = some (t, o)) : ∃ f, fs[i]? = some f ∧ f.type = t ∧ f.offset = o := by
  rw [← h, Array.getElem?_map] at hi
  cases hf : fs[i]? with
  | none => rw [hf] at hi; cases hi
  | some f =>
    rw [hf] at hi
    simp only [Option.map_some, Option.some.injEq, Prod.mk.injEq] at hi
    exact ⟨f, rfl, hi.1, hi.2⟩
section
variable {H : Type} {enc : TypeId × Value → H}
theorem open_hd {W : World} {fuel : Nat} {cs : List Value} {x : DataW H × List MemPlace} (h : DataW.trod enc Tryd.prog W 0 (fun _ => true) true fuel 26 cs = some x) : ∃ hd : Hd, cs = encAts hAts hd := by
  obtain ⟨xs, n, _, _, hlen, hxs, hf⟩ := DataW.trod_struct uHead h
  obtain ⟨c1, _, c3, _, _, _, c7⟩ := cellsOne
  rw [c7] at hlen
  have hsz : (Program.fieldsOf Tryd.prog 26).size = 8 := by have := congrArg Array.size fHead; simpa using this
  have num : ∀ (i : Nat) (t : TypeId) (o : Nat) (k : IntKind), i < 8 → #[(3, 0), (3, 1), (3, 2), (3, 3), (3, 4), (3, 5), (3, 6), (24, 7)][i]? = some (t, o) → Program.underlying Tryd.prog t = some (.int k) → Program.cellsOf Tryd.prog t = 1 → ∃ z, cs[o]? = some (.int k z) := by
    intro i t o k hi hl hu hc
    obtain ⟨f, hfi, rfl, rfl⟩ := field_at fHead hl
    have := hf i f hfi
    rw [List.getElem?_eq_getElem (by omega)] at this
    exact trod_num hu hc this
  obtain ⟨z0, e0⟩ := num 0 _ 0 .i64 (by omega) rfl uInt c1
  obtain ⟨z1, e1⟩ := num 1 _ 1 .i64 (by omega) rfl uInt c1
  obtain ⟨z2, e2⟩ := num 2 _ 2 .i64 (by omega) rfl uInt c1
  obtain ⟨z3, e3⟩ := num 3 _ 3 .i64 (by omega) rfl uInt c1
  obtain ⟨z4, e4⟩ := num 4 _ 4 .i64 (by omega) rfl uInt c1
  obtain ⟨z5, e5⟩ := num 5 _ 5 .i64 (by omega) rfl uInt c1
  obtain ⟨z6, e6⟩ := num 6 _ 6 .i64 (by omega) rfl uInt c1
  obtain ⟨z7, e7⟩ := num 7 _ 7 .u64 (by omega) rfl uU64 c3
  refine ⟨(z0, z1, z2, z3, z4, z5, z6, z7, ()), ?_⟩
  match cs, hlen with
  | [a0, a1, a2, a3, a4, a5, a6, a7], _ =>
    simp only [List.getElem?_cons_zero, List.getElem?_cons_succ, Option.some.injEq] at e0 e1 e2 e3 e4 e5 e6 e7
    subst e0 e1 e2 e3 e4 e5 e6 e7
    rfl
theorem open_op {W : World} {fuel : Nat} {cs : List Value} {x : DataW H × List MemPlace} (h : DataW.trod enc Tryd.prog W 0 (fun _ => true) true fuel 30 cs = some x) (hw : okW Tryd.prog 30 x.1) :
    ∃ o : OpT, cs = encAts oAts o ∧ ∃ l, Rds b8 W (opB o) l ∧ Bytes l := by
  obtain ⟨xs, n, _, rfl, hlen, hxs, hf⟩ := DataW.trod_struct uOp h
  obtain ⟨c1, c2, c3, c4, c5, c6, c7⟩ := cellsOne
  rw [c6] at hlen
  have hsz : (Program.fieldsOf Tryd.prog 30).size = 4 := by have := congrArg Array.size fOp; simpa using this
  obtain ⟨f0, h0, t0, o0⟩ := field_at fOp (i := 0) rfl
  obtain ⟨f1, h1, t1, o1⟩ := field_at fOp (i := 1) rfl
  obtain ⟨f2, h2, t2, o2⟩ := field_at fOp (i := 2) rfl
  obtain ⟨f3, h3, t3, o3⟩ := field_at fOp (i := 3) rfl
  obtain ⟨x2, hx2⟩ : ∃ y, xs[2]? = some y := ⟨_, List.getElem?_eq_getElem (by omega)⟩
  have r0 := hf 0 f0 h0
  have r1 := hf 1 f1 h1
  have r2 := hf 2 f2 h2
  have r3 := hf 3 f3 h3
  rw [List.getElem?_eq_getElem (by omega)] at r0 r1 r3
  rw [hx2] at r2
  rw [t0, o0] at r0
  rw [t1, o1, c7] at r1
  rw [t2, o2, c5] at r2
  rw [t3, o3] at r3
  obtain ⟨k, ek⟩ := trod_num uInt c1 r0
  obtain ⟨s, es⟩ := trod_num uU32 c4 r3
  obtain ⟨hd, eh⟩ := open_hd r1
  have hw2 : okW Tryd.prog 27 x2.1 := by
    have := okW_struct hw uOp 2 f2 x2.1 h2 (by rw [List.getElem?_map, hx2]; rfl)
    rw [t2] at this; exact this
  match cs, hlen with
  | [a0, a1, a2, a3, a4, a5, a6, a7, a8, a9, a10], _ =>
    have r2' : DataW.trod enc Tryd.prog W 0 (fun _ => true) true n 27 [a9] = some x2 := r2
    obtain ⟨b, l, rfl, hr, hwf, hlen⟩ := open_nums (k := .u8) tB uU8 c2 (Nat.le_of_ble_eq_true (by kernel_rfl)) r2' hw2
    refine ⟨(k, hd.1, hd.2.1, hd.2.2.1, hd.2.2.2.1, hd.2.2.2.2.1, hd.2.2.2.2.2.1, hd.2.2.2.2.2.2.1, hd.2.2.2.2.2.2.2.1, b, s, ()), ?_, l, hr, ⟨fun y hy => ?_, hlen⟩⟩
    · have eh : [a1, a2, a3, a4, a5, a6, a7, a8] = encAts hAts hd := eh
      simp only [hAts, encAts, List.cons.injEq] at eh
      obtain ⟨q1, q2, q3, q4, q5, q6, q7, q8, _⟩ := eh
      have ek : some a0 = some (Value.int .i64 k) := ek
      have es : some a10 = some (Value.int .u32 s) := es
      injection ek with ek
      injection es with es
      rw [ek, es, q1, q2, q3, q4, q5, q6, q7, q8]
      rfl
    · have := hwf y hy
      simp only [Lit.wf, IntKind.min, IntKind.max, IntKind.signed, IntKind.bits, Bool.and_eq_true, decide_eq_true_eq] at this
      simp at this
      omega
theorem open_script {W : World} {fuel : Nat} {v : Value} {x : DataW H × List MemPlace} (h : DataW.trod enc Tryd.prog W 0 (fun _ => true) true fuel 23 [v] = some x) (hw : okW Tryd.prog 23 x.1) :
    ∃ (s : Sl) (os : List OpT), v = .slice s.base s.len s.cap ∧ Script W s os := by
  have tS : Program.underlying Tryd.prog 23 = some (.slice 30) := by kernel_rfl
  rcases Deep.open_slice tS h with ⟨h1, _⟩ | ⟨a, len, cap, m, n, D, Pl, h1, _, hl, hm, hmm, rfl, hx⟩
  · injection h1 with h1 _
    subst h1
    exact ⟨⟨none, 0, 0⟩, [], rfl, rfl, fun i o hi => by simp at hi, fun o ho => by simp at ho, by simp⟩
  · injection h1 with h1 _
    subst h1
    simp only [if_true] at hmm
    obtain ⟨hwt, hwe⟩ := okW_slice hw tS
    have each : ∀ i, i < len → ∃ o : OpT, (∀ j u, (encAts oAts o)[j]? = some u → W.cell? ((a.add (i * 11)).add j) = some u) ∧ ∃ l, Rds b8 W (opB o) l ∧ Bytes l := by
      intro i hi
      obtain ⟨cs', q1, q2⟩ := hx i (by omega)
      rw [cellsOne.2.2.2.2.2.1] at q1
      obtain ⟨_, _, q3⟩ := World.cells?_some q1
      obtain ⟨o, ho, hl'⟩ := open_op q2 (hwe i (D i) (by rw [List.getElem?_map, List.getElem?_range hi]; rfl))
      refine ⟨o, fun j u hj => ?_, hl'⟩
      have hj' : j < 11 := by
        have := (List.getElem?_eq_some_iff.1 hj).1
        exact this
      rw [q3 j hj', ho, hj]
    have inh : Inhabited OpT := ⟨(0, 0, 0, 0, 0, 0, 0, 0, 0, ⟨none, 0, 0⟩, 0, ())⟩
    obtain ⟨f, hfi⟩ := Deep.choose_lt each
    have hlen : ((List.range len).map f).length = len := by simp
    have hmul : ∀ n, n * 1 ≤ n * Program.bytesOf Tryd.prog 30 := fun n => Nat.mul_le_mul_left n (Nat.le_of_ble_eq_true (by kernel_rfl))
    have hb := hmul (((List.range len).map D).length + ((List.range (m - len)).map fun j => D (len + j)).length)
    have e1 : ((List.range len).map D).length = len := by simp
    have hr : reachBytes = 140737488351232 := rfl
    refine ⟨⟨some a, len, cap⟩, (List.range len).map f, rfl, hlen.symm, fun i o hi => ⟨a, rfl, ?_⟩, fun o ho => ?_, by omega⟩
    · have hi' : i < len := by have := (List.getElem?_eq_some_iff.1 hi).1; rw [hlen] at this; exact this
      rw [List.getElem?_map, List.getElem?_range hi'] at hi
      cases hi
      exact (hfi i hi').1
    · obtain ⟨i, hi, rfl⟩ := List.mem_map.1 ho
      exact (hfi i (List.mem_range.1 hi)).2
end
end Go.Proofs.YtbcjimfkdjjpjaaDoor
