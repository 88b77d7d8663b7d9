/- Proved here: culletlaw24.StreamSplits returns true for every job, the job reading behind the call as it read before. Condition: the package variable cullet/pipes.End holds what the program's own text lays into it (the card ties it). -/
import Derived.Test.YtmmejgneelkhkaaDoorSpY
import Derived.Stop.LaidTwo
set_option linter.all false
namespace Go.Proofs.YtmmejgneelkhkaaDoor
open Go Go.Cu Go.ChangeShapes Go.WideShapes Go.ChangeAt Go.RowKit
set_option linter.unusedVariables false
theorem own : ownKnob Tryd.prog.godebug = none := by kernel_rfl
theorem gEnd : Program.globalNamed Tryd.prog "cullet/pipes.End" = some 0 := by kernel_rfl
theorem gEndType : (Tryd.prog.globals[0]?).map (·.type) = some 50 := by kernel_rfl
noncomputable def msErr : Array (String × TypeId) := match Program.underlying Tryd.prog 50 with | some (.interface ms) => ms | _ => #[]
theorem uErr : Program.underlying Tryd.prog 50 = some (.interface msErr) := by kernel_rfl
theorem uPE : Program.underlying Tryd.prog 202 = some (.pointer 233) := by kernel_rfl
def fES : Field := { name := "s", type := 9, offset := 0, embedded := false, tag := "", pkgPath := "errors", byteOffset := 0 }
theorem uES : Program.underlying Tryd.prog 233 = some (.struct #[fES]) := by kernel_rfl
theorem uStr : Program.underlying Tryd.prog 9 = some .string := by kernel_rfl
theorem cES : Program.cellsOf Tryd.prog 233 = 1 := by kernel_rfl
theorem cStr : Program.cellsOf Tryd.prog 9 = 1 := by kernel_rfl
theorem starE : "*" ++ "errors.errorString" = "*errors.errorString" := by decide
theorem rowE (u : TypeId) (h : Program.typeName? Tryd.prog 3 u = some "*errors.errorString") : u = 202 :=
  typeName_ptr_named (nm := "errors.errorString") (by rw [starE]; kernel_rfl) (by kernel_rfl) (by decide) u (by rw [starE]; exact h)
theorem laidOut : laidOutB Tryd.prog = true := by kernel_rfl
theorem end_of {laid : List (String × DataW Unit)} (hl : laid = [("cullet/pipes.End", Rows.laid_cullet_pipes_End)]) {W : World} (h : laidMetH Tryd.prog laid W) : ∃ ea, EndIs W ea := by
  subst hl
  obtain ⟨a, s, hv, _⟩ := laid_sentinel (P := Tryd.prog) (r := []) (nm := "*errors.errorString") (text := [101, 110, 100]) h gEnd gEndType uErr rowE uPE uES rfl rfl uStr cES cStr
  refine ⟨a, ?_⟩
  have h2 := World.var?_cell gEnd hv 0
  simp only [List.getElem?_toArray, List.getElem?_cons_zero] at h2
  exact h2
abbrev endS : ByteArray := { data := #[101, 110, 100] }
noncomputable def low : Nat := (World.holding Tryd.prog default ⟨#[], #[], []⟩).heap.size
noncomputable def laidWorld (os : Os) : World :=
  let w0 := World.holding Tryd.prog os ⟨#[.cells #[.string endS] 233], #[], []⟩
  { w0 with heap := w0.heap.modify 0 fun
      | .cells _ t frozen => .cells #[.iface 202 (.pointer (some ⟨low, 0, none⟩))] t frozen
      | o => o }
noncomputable abbrev zeroJob : Value := .agg (jobV 0 0 0 0 0 0 0 false ⟨none, 0, 0⟩ 0 ⟨none, 0, 0⟩ ⟨none, 0, 0⟩ 0 0).toArray
theorem job_law {H : Type} {enc : TypeId × Value → H} {W : World} {base fuel : Nat} {v : Value} {d : DataW H} {p : List MemPlace} (hd : DataW.trod enc Tryd.prog W 0 (fun _ => true) true fuel 30 v.cells.toList = some (d, p)) (hw : okW Tryd.prog 30 d) (hL : laidMetH Tryd.prog Rows.streamSplitsRow.laid W) :
    Gv Tryd.prog 3 #[v] (.bool true) W := by
  obtain ⟨ea, he⟩ := end_of rfl hL
  obtain ⟨f, b, k, m, wo, st, ca, sc, pk, block, pp, tp, size, times, l, ps, ts, dat, chk, hcs, hpk, hl, hP, _, hT, hTn, hps, htap, _⟩ := open_job hd hw
  have hv : v = .agg (jobV f b k m wo st ca sc pk block pp tp size times).toArray := by
    cases v with
    | agg cs =>
      have : cs.toList = jobV f b k m wo st ca sc pk block pp tp size times := hcs
      rw [← this]
    | _ => exact absurd (congrArg List.length hcs) (by simp [Value.cells])
  rw [hv]
  exact splits_gv he hpk hl hP hT hTn hps htap
/-! ### StreamSplits -/
theorem laid_met_splits (os : Os) : laidMet Tryd.prog Rows.streamSplitsRow.laid ((laidWorld os).forCall (fun _ _ => 0) ⟨#[], #[zeroJob], []⟩).memory :=
  laidMet_of_run (ps := [.cell 0 0, .cell low 0]) 8 (by kernel_rfl) (by kernel_rfl) (by kernel_rfl)
theorem reads_splits (os : Os) {H : Type} (enc : TypeId × Value → H) : ∃ places, DataW.whole enc Tryd.prog ((laidWorld os).forCall (fun _ _ => 0) ⟨#[], #[zeroJob], []⟩).memory Tryd.f3.params.toList Rows.streamSplitsSpec.vars false (#[zeroJob] : Array Value).toList 8 =
    some ([.agg [.agg [.lit (.int .i64 0), .lit (.int .i64 0), .lit (.int .i64 0), .lit (.int .i64 0), .lit (.int .i64 0), .lit (.int .i64 0), .lit (.int .i64 0), .lit (.bool false), .nil], .lit (.int .i64 0), .nil, .nil, .lit (.int .i64 0), .lit (.int .i64 0)]], [], places) :=
  ⟨[], by kernel_rfl⟩
set_option maxRecDepth 100000 in
theorem lifted_splits (os : Os) (started : os.Started) (H : Type) (enc : TypeId × Value → H) (F : Stop.Interp) :
    ReturnsInHanded {} Tryd.checked os 3 .any ((OpenSpec.ofChange Rows.streamSplitsSpec).preRow enc Tryd.prog Tryd.f3 Rows.streamSplitsRow.domain false Rows.streamSplitsRow.laid) (((OpenSpec.ofChange Rows.streamSplitsSpec).at F).post enc Tryd.prog Tryd.f3 false true false false) := by
  obtain ⟨places, hx⟩ := reads_splits os enc
  refine returnsInHanded_of_row (C := Tryd.checked) (s := OpenSpec.ofChange Rows.streamSplitsSpec) own started (by kernel_rfl) Tryd.func3
    (witness_row_at (enc := enc) (C := Tryd.checked) false (laidWorld os) #[zeroJob] rfl (by kernel_rfl) (by kernel_rfl) (by kernel_rfl)
      (OpenSpec.preRow_of_cond 8 hx (by kernel_rfl) (fun k hk => by cases hk) (by kernel_rfl) (laid_met_splits os))) ?_
  intro W base args ds gs before hval hW _ _ hwt hL _ _
  exact contract_one (s := Rows.streamSplitsSpec) (fn := Tryd.f3) (t := 30) (tb := 4) (by kernel_rfl) (by kernel_rfl) uBool laidOut (by kernel_rfl) (of_decide_eq_true (by kernel_rfl)) rfl (fun _ => rfl) (fun W base v d fuel p hv hd hw hL => job_law (base := base) hd hw hL) W base args ds gs before hval hW hwt hL
theorem said_splits : Rows.StreamSplitsSaid :=
  OpenClaim.holds_of_cond 3 Tryd.f3 rfl rfl rfl rfl rfl rfl rfl ⟨rfl, rfl, rfl, rfl, rfl⟩ rfl rfl rfl rfl rfl (by kernel_rfl) Tryd.func3 (by kernel_rfl)
    (of_decide_eq_true (by kernel_rfl)) (by unfold Func.isWrapper; first | (rw [if_pos (by decide +kernel)]; kernel_rfl) | (rw [if_neg (by decide +kernel)]; exact ⟨rfl, rfl⟩))
    (fun os started H enc _ F => by rw [OpenClaim.pre_eq_preRow]; exact lifted_splits os started H enc F)
theorem plain_splits (f : FuncId) (fn : Func) (hf : Tryd.pinned.checked.prog.funcNamed "cullet/culletlaw24.StreamSplits" = some f) (hfn : Tryd.pinned.checked.prog.funcs[f]? = some fn) :
    true = Tryd.pinned.checked.prog.looks [] ∧ ∀ (j : Nat) t, fn.params[j]? = some t → Tryd.pinned.checked.prog.wantsStandIn t = false := by
  obtain rfl : f = 3 := Option.some.inj ((show Tryd.prog.funcNamed "cullet/culletlaw24.StreamSplits" = some 3 by kernel_rfl).symm.trans hf) |>.symm
  obtain rfl : fn = Tryd.f3 := (Option.some.inj (Tryd.func3.symm.trans hfn)).symm
  refine ⟨by kernel_rfl, fun j t ht => ?_⟩
  rw [show Tryd.f3.params = #[30] by kernel_rfl] at ht
  obtain rfl : t = 30 := by simpa using Array.mem_of_getElem? ht
  exact (show Tryd.prog.wantsStandIn 30 = false by kernel_rfl)
theorem card_splits : Rows.StreamSplitsCardSaid :=
  Claim7.holds_tied_plain_at   .later [] _ _ _ _ said_splits (fun _ h => by cases h) (by kernel_rfl) (fun _ h => by cases h) streamSplits_row_tie rfl ⟨rfl, rfl⟩ (by kernel_rfl) rfl plain_splits (by kernel_rfl)
#print axioms card_splits
end Go.Proofs.YtmmejgneelkhkaaDoor
