/- Proved here: culletlaw12.TriePlays returns true for every input: every script of calls on two tries is answered as the document's list answers it; what it is handed reads behind the call as it read before. No condition. -/
import Derived.Test.YtdnlnloogfnlgaaTrYe
import Derived.Test.YtdnlnloogfnlgaaTrW
set_option linter.all false
namespace Go.Proofs.Ytdnlnloogfnlgaa
open Go Go.Cu Go.ChangeShapes Go.WideShapes Go.ChangeAt Go.RowKit
set_option linter.unusedVariables false
set_option maxRecDepth 100000
theorem reads_plays (os : Os) {H : Type} (enc : TypeId × Value → H) : ∃ places, DataW.whole enc Try.prog ((World.holding Try.prog os ⟨#[], #[], []⟩).forCall (fun _ _ => 0) ⟨#[], #[.int .i64 0, .int .i64 0, .slice none 0 0], []⟩).memory Try.f8.params.toList Rows.triePlaysSpec.vars false (#[.int .i64 0, .int .i64 0, .slice none 0 0] : Array Value).toList 8 = some ([.lit (.int .i64 0), .lit (.int .i64 0), .nil], [], places) :=
  ⟨[], by kernel_rfl⟩
theorem laid_met_plays (os : Os) : laidMet Try.prog Rows.triePlaysRow.laid ((World.holding Try.prog os ⟨#[], #[], []⟩).forCall (fun _ _ => 0) ⟨#[], #[.int .i64 0, .int .i64 0, .slice none 0 0], []⟩).memory :=
  laidMet_of_run' 8 (by kernel_rfl) (by kernel_rfl)
theorem spec_plays {H : Type} : ∀ ds : List (DataW H), ds.length = 2 + 1 → Rows.triePlaysSpec.fn H (ds ++ []) = { results := [.lit (.bool true)], args := ds } := by
  intro ds hds
  match ds, hds with
  | [d1, d2, d3], _ => rfl
theorem reads_types_plays : ∀ t ∈ [3, 3, 22], Program.readableRec Try.prog t = true ∧ t < Try.prog.types.size := by
  intro t ht
  have key : ([3, 3, 22]).all (fun t => Program.readableRec Try.prog t && decide (t < Try.prog.types.size)) = true := by kernel_rfl
  have := List.all_eq_true.1 key t ht
  rw [Bool.and_eq_true] at this
  exact ⟨this.1, of_decide_eq_true this.2⟩
theorem called_plays {H : Type} {enc : TypeId × Value → H} (W : World) (base : Nat) (args : Array Value) (ds : List (DataW H)) (p : List MemPlace) (hv : ∀ (j : Nat) t v, [3, 3, 22][j]? = some t → args.toList[j]? = some v → Value.okWide Try.prog W .any base t v) (hA : DataW.TrodAll enc Try.prog W 0 (fun _ => true) true [3, 3, 22] args.toList ds p)
    (hw : ∀ (j : Nat) t d, [3, 3, 22][j]? = some t → ds[j]? = some d → okW Try.prog t d) : Gv Try.prog 8 args (.bool true) W := by
  obtain ⟨v0, v1, v2, d0, d1, d2, p0, p1, p2, rfl, rfl, rfl, h0, h1, h2⟩ := trodAll_three hA
  obtain ⟨z, rfl⟩ := okWide_int uInt (hv 0 _ v0 rfl rfl)
  obtain ⟨y, rfl⟩ := okWide_int uInt (hv 1 _ v1 rfl rfl)
  obtain ⟨a2, l2, c2, rfl⟩ := okWide_slice tOps (hv 2 _ v2 rfl rfl)
  obtain ⟨f2, h2⟩ := h2
  obtain ⟨s, os, he, hs⟩ := open_script h2 (hw 2 _ d2 rfl rfl)
  rw [he]
  exact plays_law z y s os W hs
set_option maxRecDepth 100000 in
theorem lifted_plays (os : Os) (started : os.Started) (H : Type) (enc : TypeId × Value → H) (F : Stop.Interp) :
    ReturnsInHanded {} Try.checked os 8 .any ((OpenSpec.ofChange Rows.triePlaysSpec).preRow enc Try.prog Try.f8 Rows.triePlaysRow.domain false Rows.triePlaysRow.laid) (((OpenSpec.ofChange Rows.triePlaysSpec).at F).post enc Try.prog Try.f8 false true false false) := by
  obtain ⟨places, hx⟩ := reads_plays os enc
  refine returnsInHanded_of_row (C := Try.checked) (s := OpenSpec.ofChange Rows.triePlaysSpec) ownKn started (by kernel_rfl) Try.func8
    (witness_row_at (enc := enc) (C := Try.checked) false (World.holding Try.prog os ⟨#[], #[], []⟩) #[.int .i64 0, .int .i64 0, .slice none 0 0] rfl (by kernel_rfl) (by kernel_rfl) (by kernel_rfl)
      (OpenSpec.preRow_of_cond 8 hx (by kernel_rfl) (fun k hk => by cases hk) (by kernel_rfl) (laid_met_plays os))) ?_
  intro W base args ds gs before hval hW _ _ hwt hL _ _
  exact contract_all (s := Rows.triePlaysSpec) (fn := Try.f8) (ts := [3, 3, 22]) (tb := 4) (laid := Rows.triePlaysRow.laid) (by kernel_rfl) (by kernel_rfl) uBool laidOut reads_types_plays rfl spec_plays (fun W base args ds p hv hA hw _ => called_plays W base args ds p hv hA hw) W base args ds gs before hval hW hwt hL
theorem said_plays : Rows.TriePlaysSaid :=
  OpenClaim.holds_of_cond 8 Try.f8 rfl rfl rfl rfl rfl rfl rfl ⟨rfl, rfl, rfl, rfl, rfl⟩ rfl rfl rfl rfl rfl (by kernel_rfl) Try.func8 (by kernel_rfl)
    (of_decide_eq_true (by kernel_rfl)) (by unfold Func.isWrapper; first | (rw [if_pos (by decide +kernel)]; kernel_rfl) | (rw [if_neg (by decide +kernel)]; exact ⟨rfl, rfl⟩))
    (fun os started H enc _ F => by rw [OpenClaim.pre_eq_preRow]; exact lifted_plays os started H enc F)
end Go.Proofs.Ytdnlnloogfnlgaa
