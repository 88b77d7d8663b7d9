/- Proved here: culletlaw25.FrameNames returns true, and culletlaw25.FrameFiles returns true for every script of steps, the script reading behind the call as it read before. Condition: the package variable cullet/frame.halves holds what the program's own text lays into it (the cards tie it). -/
import Derived.Test.YtbcjimfkdjjpjaaDoorFrN
namespace Go.Proofs.YtbcjimfkdjjpjaaDoor
open Go Go.Cu Go.ChangeShapes Go.WideShapes Go.ChangeAt Go.RowKit
set_option linter.unusedVariables false
theorem own : ownKnob Tryd.prog.godebug = none := by kernel_rfl
theorem gTab : Program.globalNamed Tryd.prog "cullet/frame.halves" = some 0 := by kernel_rfl
theorem gTabType : (Tryd.prog.globals[0]?).map (·.type) = some 52 := by kernel_rfl
theorem uTab : Program.underlying Tryd.prog 52 = some (.array 16 28) := by kernel_rfl
theorem laidOut : laidOutB Tryd.prog = true := by kernel_rfl
theorem uBool : Program.underlying Tryd.prog 4 = some .bool := by kernel_rfl
theorem tab_of {laid : List (String × DataW Unit)} (hl : laid = [("cullet/frame.halves", Rows.laid_cullet_frame_halves)]) {W : World} (h : laidMetH Tryd.prog laid W) : Tab W := by
  subst hl
  have ht : Lib.TabIs Tryd.prog W "cullet/frame.halves" .u32 halvesL :=
    Lib.tabIs_of_head (rest := []) gTab gTabType uTab uU32 cellsOne.2.2.2.1 (by kernel_rfl) h
  intro i hi
  rw [List.getD_eq_getElem?_getD]
  have := ht.cell gTab i hi
  simpa [hi] using this
noncomputable def laidWorld (os : Os) : World :=
  { World.holding Tryd.prog os ⟨#[], #[], []⟩ with heap := (World.holding Tryd.prog os ⟨#[], #[], []⟩).heap.modify 0 fun
      | .cells _ t frozen => .cells (halvesL.map (Value.int .u32)).toArray t frozen
      | o => o }
/-! ### FrameNames -/
theorem laid_met_names (os : Os) : laidMet Tryd.prog Rows.frameNamesRow.laid ((laidWorld os).forCall (fun _ _ => 0) ⟨#[], #[], []⟩).memory :=
  laidMet_of_run' 8 (by kernel_rfl) (by kernel_rfl)
theorem reads_names (os : Os) {H : Type} (enc : TypeId × Value → H) : ∃ places, DataW.whole enc Tryd.prog ((laidWorld os).forCall (fun _ _ => 0) ⟨#[], #[], []⟩).memory Tryd.f3.params.toList Rows.frameNamesSpec.vars false (#[] : Array Value).toList 8 = some ([], [], places) :=
  ⟨[], by kernel_rfl⟩
set_option maxRecDepth 100000 in
theorem lifted_names (os : Os) (started : os.Started) (H : Type) (enc : TypeId × Value → H) (F : Stop.Interp) :
    ReturnsInHanded {} Tryd.checked os 3 .any ((OpenSpec.ofChange Rows.frameNamesSpec).preRow enc Tryd.prog Tryd.f3 Rows.frameNamesRow.domain false Rows.frameNamesRow.laid) (((OpenSpec.ofChange Rows.frameNamesSpec).at F).post enc Tryd.prog Tryd.f3 false true false false) := by
  obtain ⟨places, hx⟩ := reads_names os enc
  refine returnsInHanded_of_row (C := Tryd.checked) (s := OpenSpec.ofChange Rows.frameNamesSpec) own started (by kernel_rfl) Tryd.func3
    (witness_row_at (enc := enc) (C := Tryd.checked) false (laidWorld os) #[] rfl (by kernel_rfl) (by kernel_rfl) (by kernel_rfl)
      (OpenSpec.preRow_of_cond 8 hx (by kernel_rfl) (fun k hk => by cases hk) (by kernel_rfl) (laid_met_names os))) ?_
  intro W base args ds gs before hval hW _ _ hwt hL _ _
  exact contract_none (s := Rows.frameNamesSpec) (fn := Tryd.f3) (by kernel_rfl) (tb := 4) (by kernel_rfl) uBool rfl rfl (fun W hL => names_gv W (tab_of rfl hL)) W args ds gs before hW hL
theorem said_names : Rows.FrameNamesSaid :=
  OpenClaim.holds_of_cond 3 Tryd.f3 rfl rfl rfl rfl rfl rfl rfl ⟨rfl, rfl, rfl, rfl, rfl⟩ rfl rfl rfl rfl rfl (by kernel_rfl) Tryd.func3 (by kernel_rfl)
    (of_decide_eq_true (by kernel_rfl)) (by unfold Func.isWrapper; first | (rw [if_pos (by decide +kernel)]; kernel_rfl) | (rw [if_neg (by decide +kernel)]; exact ⟨rfl, rfl⟩))
    (fun os started H enc _ F => by rw [OpenClaim.pre_eq_preRow]; exact lifted_names os started H enc F)
theorem plain_names (f : FuncId) (fn : Func) (hf : Tryd.pinned.checked.prog.funcNamed "cullet/culletlaw25.FrameNames" = some f) (hfn : Tryd.pinned.checked.prog.funcs[f]? = some fn) :
    false = Tryd.pinned.checked.prog.looks [] ∧ ∀ (j : Nat) t, fn.params[j]? = some t → Tryd.pinned.checked.prog.wantsStandIn t = false := by
  obtain rfl : f = 3 := Option.some.inj ((show Tryd.prog.funcNamed "cullet/culletlaw25.FrameNames" = some 3 by kernel_rfl).symm.trans hf) |>.symm
  obtain rfl : fn = Tryd.f3 := (Option.some.inj (Tryd.func3.symm.trans hfn)).symm
  refine ⟨by kernel_rfl, fun j t ht => ?_⟩
  rw [show Tryd.f3.params = #[] by kernel_rfl] at ht
  simp at ht
theorem card_names : Rows.FrameNamesCardSaid :=
  Claim7.holds_tied_plain_at .later [] _ _ _ _ said_names (fun _ h => by cases h) (by kernel_rfl) (fun _ h => by cases h) frameNames_row_tie rfl ⟨rfl, rfl⟩ (by kernel_rfl) rfl plain_names (by kernel_rfl)
/-! ### FrameFiles -/
theorem laid_met_files (os : Os) : laidMet Tryd.prog Rows.frameFilesRow.laid ((laidWorld os).forCall (fun _ _ => 0) ⟨#[], #[.slice none 0 0], []⟩).memory :=
  laidMet_of_run' 8 (by kernel_rfl) (by kernel_rfl)
theorem reads_files (os : Os) {H : Type} (enc : TypeId × Value → H) : ∃ places, DataW.whole enc Tryd.prog ((laidWorld os).forCall (fun _ _ => 0) ⟨#[], #[.slice none 0 0], []⟩).memory Tryd.f4.params.toList Rows.frameFilesSpec.vars false (#[.slice none 0 0] : Array Value).toList 8 = some ([.nil], [], places) :=
  ⟨[], by kernel_rfl⟩
set_option maxRecDepth 100000 in
theorem lifted_files (os : Os) (started : os.Started) (H : Type) (enc : TypeId × Value → H) (F : Stop.Interp) :
    ReturnsInHanded {} Tryd.checked os 4 .any ((OpenSpec.ofChange Rows.frameFilesSpec).preRow enc Tryd.prog Tryd.f4 Rows.frameFilesRow.domain false Rows.frameFilesRow.laid) (((OpenSpec.ofChange Rows.frameFilesSpec).at F).post enc Tryd.prog Tryd.f4 false true false false) := by
  obtain ⟨places, hx⟩ := reads_files os enc
  refine returnsInHanded_of_row (C := Tryd.checked) (s := OpenSpec.ofChange Rows.frameFilesSpec) own started (by kernel_rfl) Tryd.func4
    (witness_row_at (enc := enc) (C := Tryd.checked) false (laidWorld os) #[.slice none 0 0] rfl (by kernel_rfl) (by kernel_rfl) (by kernel_rfl)
      (OpenSpec.preRow_of_cond 8 hx (by kernel_rfl) (fun k hk => by cases hk) (by kernel_rfl) (laid_met_files os))) ?_
  intro W base args ds gs before hval hW _ _ hwt hL _ _
  refine contract_one (s := Rows.frameFilesSpec) (fn := Tryd.f4) (t := 23) (tb := 4) (by kernel_rfl) (by kernel_rfl) uBool laidOut (by kernel_rfl) (of_decide_eq_true (by kernel_rfl)) rfl (fun _ => rfl) (fun W base v d fuel p hv hd hw hL => ?_) W base args ds gs before hval hW hwt hL
  obtain ⟨a0, len, cap, rfl⟩ := okWide_slice (by kernel_rfl : Program.underlying Tryd.prog 23 = some (.slice 30)) hv
  obtain ⟨s, os, he, hs⟩ := open_script hd hw
  rw [he]
  exact files_law s os W hs (tab_of rfl hL)
theorem said_files : Rows.FrameFilesSaid :=
  OpenClaim.holds_of_cond 4 Tryd.f4 rfl rfl rfl rfl rfl rfl rfl ⟨rfl, rfl, rfl, rfl, rfl⟩ rfl rfl rfl rfl rfl (by kernel_rfl) Tryd.func4 (by kernel_rfl)
    (of_decide_eq_true (by kernel_rfl)) (by unfold Func.isWrapper; first | (rw [if_pos (by decide +kernel)]; kernel_rfl) | (rw [if_neg (by decide +kernel)]; exact ⟨rfl, rfl⟩))
    (fun os started H enc _ F => by rw [OpenClaim.pre_eq_preRow]; exact lifted_files os started H enc F)
theorem plain_files (f : FuncId) (fn : Func) (hf : Tryd.pinned.checked.prog.funcNamed "cullet/culletlaw25.FrameFiles" = some f) (hfn : Tryd.pinned.checked.prog.funcs[f]? = some fn) :
    false = Tryd.pinned.checked.prog.looks [] ∧ ∀ (j : Nat) t, fn.params[j]? = some t → Tryd.pinned.checked.prog.wantsStandIn t = false := by
  obtain rfl : f = 4 := Option.some.inj ((show Tryd.prog.funcNamed "cullet/culletlaw25.FrameFiles" = some 4 by kernel_rfl).symm.trans hf) |>.symm
  obtain rfl : fn = Tryd.f4 := (Option.some.inj (Tryd.func4.symm.trans hfn)).symm
  refine ⟨by kernel_rfl, fun j t ht => ?_⟩
  rw [show Tryd.f4.params = #[23] by kernel_rfl] at ht
  obtain rfl : t = 23 := by simpa using Array.mem_of_getElem? ht
  exact (show Tryd.prog.wantsStandIn 23 = false by kernel_rfl)
theorem card_files : Rows.FrameFilesCardSaid :=
  Claim7.holds_tied_plain_at .later [] _ _ _ _ said_files (fun _ h => by cases h) (by kernel_rfl) (fun _ h => by cases h) frameFiles_row_tie rfl ⟨rfl, rfl⟩ (by kernel_rfl) rfl plain_files (by kernel_rfl)
end Go.Proofs.YtbcjimfkdjjpjaaDoor
