/- Proved here: culletlaw24.StreamJoins returns true for every job of bulk at most 1048576, the job reading behind the call as it read before. Condition: the package variable cullet/pipes.End holds what the program's own text lays into it (the card ties it). -/
import Derived.Test.YtmmejgneelkhkaaDoorSjF
import Derived.Test.YtmmejgneelkhkaaDoorOpen2Lib
import Derived.Test.YtmmejgneelkhkaaDoorSpY
import Derived.Stop.LaidTwo
set_option linter.all false
namespace Go.Proofs.YtmmejgneelkhkaaDoor
open Go Go.Cu Go.ChangeShapes Go.WideShapes Go.ChangeAt Go.RowKit
set_option linter.unusedVariables false
theorem own : ownKnob Tryd.prog.godebug = none := by kernel_rfl
theorem gEnd : Program.globalNamed Tryd.prog "cullet/pipes.End" = some 0 := by kernel_rfl
theorem gEndType : (Tryd.prog.globals[0]?).map (·.type) = some 50 := by kernel_rfl
noncomputable def msErr : Array (String × TypeId) := match Program.underlying Tryd.prog 50 with | some (.interface ms) => ms | _ => #[]
theorem uErr : Program.underlying Tryd.prog 50 = some (.interface msErr) := by kernel_rfl
theorem uPE : Program.underlying Tryd.prog 202 = some (.pointer 233) := by kernel_rfl
def fES : Field := { name := "s", type := 9, offset := 0, embedded := false, tag := "", pkgPath := "errors", byteOffset := 0 }
theorem uES : Program.underlying Tryd.prog 233 = some (.struct #[fES]) := by kernel_rfl
theorem uStr : Program.underlying Tryd.prog 9 = some .string := by kernel_rfl
theorem cES : Program.cellsOf Tryd.prog 233 = 1 := by kernel_rfl
theorem cStr : Program.cellsOf Tryd.prog 9 = 1 := by kernel_rfl
theorem starE : "*" ++ "errors.errorString" = "*errors.errorString" := by decide
theorem rowE (u : TypeId) (h : Program.typeName? Tryd.prog 3 u = some "*errors.errorString") : u = 202 :=
  typeName_ptr_named (nm := "errors.errorString") (by rw [starE]; kernel_rfl) (by kernel_rfl) (by decide) u (by rw [starE]; exact h)
theorem laidOut : laidOutB Tryd.prog = true := by kernel_rfl
theorem end_of {laid : List (String × DataW Unit)} (hl : laid = [("cullet/pipes.End", Rows.laid_cullet_pipes_End)]) {W : World} (h : laidMetH Tryd.prog laid W) : ∃ ea, EndIs W ea := by
  subst hl
  obtain ⟨a, s, hv, _⟩ := laid_sentinel (P := Tryd.prog) (r := []) (nm := "*errors.errorString") (text := [101, 110, 100]) h gEnd gEndType uErr rowE uPE uES rfl rfl uStr cES cStr
  refine ⟨a, ?_⟩
  have h2 := World.var?_cell gEnd hv 0
  simp only [List.getElem?_toArray, List.getElem?_cons_zero] at h2
  exact h2
abbrev endS : ByteArray := { data := #[101, 110, 100] }
noncomputable def low : Nat := (World.holding Tryd.prog default ⟨#[], #[], []⟩).heap.size
noncomputable def laidWorld (os : Os) : World :=
  let w0 := World.holding Tryd.prog os ⟨#[.cells #[.string endS] 233], #[], []⟩
  { w0 with heap := w0.heap.modify 0 fun
      | .cells _ t frozen => .cells #[.iface 202 (.pointer (some ⟨low, 0, none⟩))] t frozen
      | o => o }
noncomputable abbrev zeroJob : Value := .agg (jobV 0 0 0 0 0 0 0 false ⟨none, 0, 0⟩ 0 ⟨none, 0, 0⟩ ⟨none, 0, 0⟩ 0 0).toArray
set_option maxRecDepth 100000 in
theorem contract_small {H : Type} {enc : TypeId × Value → H} {f : FuncId} {fn : Func} {s : ChangeSpec} {ts : List TypeId} {tb : TypeId} {laid : List (String × DataW Unit)} {ds0 gs0 : List (DataW H)} (hcond : Rows.uptoSmall H (ds0 ++ gs0) = true) (hpar : fn.params.toList = ts) (hres : fn.resultTypes.toList = [tb]) (hb : Tryd.prog.underlying tb = some .bool)
    (hl : laidOutB Tryd.prog = true) (hr : ∀ t ∈ ts, Program.readableRec Tryd.prog t = true ∧ t < Tryd.prog.types.size) (hvars : s.vars = []) (hfn : ∀ ds : List (DataW H), ds.length = ts.length → s.fn H (ds ++ []) = { results := [.lit (.bool true)], args := ds })
    (hcall : ∀ (W : World) (base : Nat) (args : Array Value) (ds : List (DataW H)) (p : List MemPlace), (∀ (j : Nat) t v, ts[j]? = some t → args.toList[j]? = some v → Value.okWide Tryd.prog W .any base t v) → DataW.TrodAll enc Tryd.prog W 0 (fun _ => true) true ts args.toList ds p →
      (∀ (j : Nat) t d, ts[j]? = some t → ds[j]? = some d → okW Tryd.prog t d) → Rows.uptoBulkAll ds ≤ 1048576 → laidMetH Tryd.prog laid W → Gv Tryd.prog f args (.bool true) W)
    (W : World) (base : Nat) (args : Array Value) (before : List MemPlace) (hval : ∀ (j : Nat) t v, fn.params[j]? = some t → args[j]? = some v → Value.okWide Tryd.prog W .any base t v)
    (hW : DataW.Whole enc Tryd.prog fn.params.toList s.vars false W args.toList ds0 gs0 before)
    (hwt : (DataW.weightsEach Tryd.prog (fn.params.toList ++ (OpenSpec.ofChange s).bare.plain.varTypes Tryd.prog) (ds0 ++ gs0)).all (· ≤ reachBytes) = true) (hL : laidMetH Tryd.prog laid W) :
    Calls Tryd.prog f args W fun e W' => ∃ v, e = .returned v ∧ s.post enc Tryd.prog fn false true false false W args v W' := by
  have hW' := hW
  obtain ⟨p, q, hA, hV, hpq, _, _⟩ := hW
  rw [hpar] at hA
  rw [hvars] at hV
  obtain ⟨rfl, rfl⟩ := trodVars_none hV
  have hsm : Rows.uptoBulkAll ds0 ≤ 1048576 := by
    rw [List.append_nil] at hcond
    exact of_decide_eq_true hcond
  refine (hcall W base args ds0 p (fun j t v ht hv => hval j t v (by rw [← Array.getElem?_toList, hpar]; exact ht) (by rw [← Array.getElem?_toList]; exact hv)) hA (fun j t d ht hd => ?_) hsm hL).mono fun e W1 ⟨he, hx⟩ => ⟨_, he, ?_⟩
  · refine okW_each (j := j) hwt ?_ ?_
    · rw [hpar]
      rw [List.getElem?_append_left (List.getElem?_eq_some_iff.1 ht).1]; exact ht
    · rw [List.append_nil]; exact hd
  · have hlen := trodAll_len hA
    have hsz : fn.resultTypes.size = 1 := by rw [← Array.length_toList, hres]; rfl
    refine ⟨ds0, [], before, [], p, [], hW', ?_, ?_, ?_, hx.below.frame _, fun h => by cases h⟩
    · rw [hres, hsz, hfn ds0 hlen]; exact trodAll_mk1 (shut_bool hb true)
    · rw [hpar, hfn ds0 hlen]; exact trodAll_ex hl hx hr hA
    · rw [hvars, hfn ds0 hlen]; rfl
theorem job_law {H : Type} {enc : TypeId × Value → H} {W : World} {base fuel : Nat} {v : Value} {d : DataW H} {p : List MemPlace} (hd : DataW.trod enc Tryd.prog W 0 (fun _ => true) true fuel 30 v.cells.toList = some (d, p)) (hw : okW Tryd.prog 30 d) (hsm : Rows.uptoBulk d ≤ 1048576) (hL : laidMetH Tryd.prog Rows.streamJoinsUptoRow.laid W) :
    Gv Tryd.prog 4 #[v] (.bool true) W := by
  obtain ⟨ea, he⟩ := end_of rfl hL
  obtain ⟨f, b, k, m, wo, st, ca, sc, pk, block, pp, tp, size, times, l, ps, ts, dat, chk, hcs, hpk, hl, hP, _, hT, hTn, hps, htap, hsz, hpb, hdb⟩ := open_job hd hw
  have hv : v = .agg (jobV f b k m wo st ca sc pk block pp tp size times).toArray := by
    cases v with
    | agg cs =>
      have : cs.toList = jobV f b k m wo st ca sc pk block pp tp size times := hcs
      rw [← this]
    | _ => exact absurd (congrArg List.length hcs) (by simp [Value.cells])
  rw [hv]
  exact joins_gv he hpk hl hP (by dsimp only at hpb; omega) hT hps (fun i p hi => by have := hdb i p hi; dsimp only at this ⊢; omega) htap hsz
/-! ### StreamJoins -/
theorem laid_met_joins (os : Os) : laidMet Tryd.prog Rows.streamJoinsUptoRow.laid ((laidWorld os).forCall (fun _ _ => 0) ⟨#[], #[zeroJob], []⟩).memory :=
  laidMet_of_run (ps := [.cell 0 0, .cell low 0]) 8 (by kernel_rfl) (by kernel_rfl) (by kernel_rfl)
theorem reads_joins (os : Os) {H : Type} (enc : TypeId × Value → H) : ∃ places, DataW.whole enc Tryd.prog ((laidWorld os).forCall (fun _ _ => 0) ⟨#[], #[zeroJob], []⟩).memory Tryd.f4.params.toList Rows.streamJoinsSpec.vars false (#[zeroJob] : Array Value).toList 8 =
    some ([.agg [.agg [.lit (.int .i64 0), .lit (.int .i64 0), .lit (.int .i64 0), .lit (.int .i64 0), .lit (.int .i64 0), .lit (.int .i64 0), .lit (.int .i64 0), .lit (.bool false), .nil], .lit (.int .i64 0), .nil, .nil, .lit (.int .i64 0), .lit (.int .i64 0)]], [], places) :=
  ⟨[], by kernel_rfl⟩
theorem spec_joins {H : Type} : ∀ ds : List (DataW H), ds.length = [30].length → Rows.streamJoinsSpec.fn H (ds ++ []) = { results := [.lit (.bool true)], args := ds } := by
  intro ds hds
  match ds, hds with
  | [d1], _ => rfl
theorem reads_types : ∀ t ∈ [30], Program.readableRec Tryd.prog t = true ∧ t < Tryd.prog.types.size := by
  intro t ht
  have key : ([30]).all (fun t => Program.readableRec Tryd.prog t && decide (t < Tryd.prog.types.size)) = true := by kernel_rfl
  have := List.all_eq_true.1 key t ht
  rw [Bool.and_eq_true] at this
  exact ⟨this.1, of_decide_eq_true this.2⟩
set_option maxRecDepth 100000 in
theorem lifted_joins (os : Os) (started : os.Started) (H : Type) (enc : TypeId × Value → H) (F : Stop.Interp) :
    ReturnsInHanded {} Tryd.checked os 4 .any ((Rows.OpenSpec.upto Rows.streamJoinsSpec).preRow enc Tryd.prog Tryd.f4 Rows.streamJoinsUptoRow.domain false Rows.streamJoinsUptoRow.laid) (((Rows.OpenSpec.upto Rows.streamJoinsSpec).at F).post enc Tryd.prog Tryd.f4 false true false false) := by
  obtain ⟨places, hx⟩ := reads_joins os enc
  refine returnsInHanded_of_row (C := Tryd.checked) (s := Rows.OpenSpec.upto Rows.streamJoinsSpec) own started (by kernel_rfl) Tryd.func4
    (witness_row_at (enc := enc) (C := Tryd.checked) false (laidWorld os) #[zeroJob] rfl (by kernel_rfl) (by kernel_rfl) (by kernel_rfl)
      (OpenSpec.preRow_of_cond 8 hx (by kernel_rfl) (fun k hk => by cases hk; kernel_rfl) (by kernel_rfl) (laid_met_joins os))) ?_
  intro W base args ds gs before hval hW _ hcond hwt hL _ _
  refine contract_small (hcond _ rfl) (s := Rows.streamJoinsSpec) (fn := Tryd.f4) (ts := [30]) (tb := 4) (laid := Rows.streamJoinsUptoRow.laid) (by kernel_rfl) (by kernel_rfl) uBool laidOut reads_types rfl spec_joins (fun W base args ds p hv hA hw hsm hL => ?_) W base args before hval hW hwt hL
  obtain ⟨v0, d0, ha, rfl, h0⟩ := trodAll_one hA
  obtain ⟨fuel, hf⟩ := h0
  subst ha
  exact job_law (base := base) hf (hw 0 _ d0 rfl rfl) (by simpa [Rows.uptoBulkAll] using hsm) hL
theorem said_joins : Rows.StreamJoinsUptoSaid :=
  OpenClaim.holds_of_cond 4 Tryd.f4 rfl rfl rfl rfl rfl rfl rfl ⟨rfl, rfl, rfl, rfl, rfl⟩ rfl rfl rfl rfl rfl (by kernel_rfl) Tryd.func4 (by kernel_rfl)
    (of_decide_eq_true (by kernel_rfl)) (by unfold Func.isWrapper; first | (rw [if_pos (by decide +kernel)]; kernel_rfl) | (rw [if_neg (by decide +kernel)]; exact ⟨rfl, rfl⟩))
    (fun os started H enc _ F => by rw [OpenClaim.pre_eq_preRow]; exact lifted_joins os started H enc F)
theorem plain_joins (f : FuncId) (fn : Func) (hf : Tryd.pinned.checked.prog.funcNamed "cullet/culletlaw24.StreamJoins" = some f) (hfn : Tryd.pinned.checked.prog.funcs[f]? = some fn) :
    true = Tryd.pinned.checked.prog.looks [] ∧ ∀ (j : Nat) t, fn.params[j]? = some t → Tryd.pinned.checked.prog.wantsStandIn t = false := by
  obtain rfl : f = 4 := Option.some.inj ((show Tryd.prog.funcNamed "cullet/culletlaw24.StreamJoins" = some 4 by kernel_rfl).symm.trans hf) |>.symm
  obtain rfl : fn = Tryd.f4 := (Option.some.inj (Tryd.func4.symm.trans hfn)).symm
  refine ⟨by kernel_rfl, fun j t ht => ?_⟩
  rw [show Tryd.f4.params = #[30] by kernel_rfl] at ht
  obtain rfl : t = 30 := by simpa using Array.mem_of_getElem? ht
  exact (show Tryd.prog.wantsStandIn 30 = false by kernel_rfl)
theorem card_joins : Rows.StreamJoinsUptoCardSaid :=
  Claim7.holds_tied_plain_at   .later [] _ _ _ _ said_joins (fun _ h => by cases h) (by kernel_rfl) (fun _ h => by cases h) streamJoinsUpto_row_tie rfl ⟨rfl, rfl⟩ (by kernel_rfl) rfl plain_joins (by kernel_rfl)
#print axioms card_joins
end Go.Proofs.YtmmejgneelkhkaaDoor
