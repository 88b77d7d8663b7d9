/- Proved here: culletlaw12.TrieWalks returns true for every input: a walk gives what was kept when All was called, again, nested, ended early, whatever is done meanwhile; what it is handed reads behind the call as it read before. No condition. -/
import Derived.Test.YtdnlnloogfnlgaaTrWi
import Derived.Test.YtdnlnloogfnlgaaTrW
set_option linter.all false
namespace Go.Proofs.Ytdnlnloogfnlgaa
open Go Go.Cu Go.ChangeShapes Go.WideShapes Go.ChangeAt Go.RowKit
set_option linter.unusedVariables false
set_option maxRecDepth 100000
theorem reads_walks (os : Os) {H : Type} (enc : TypeId × Value → H) : ∃ places, DataW.whole enc Try.prog ((World.holding Try.prog os ⟨#[], #[], []⟩).forCall (fun _ _ => 0) ⟨#[], #[.int .i64 0, .slice none 0 0, .slice none 0 0], []⟩).memory Try.f10.params.toList Rows.trieWalksSpec.vars false (#[.int .i64 0, .slice none 0 0, .slice none 0 0] : Array Value).toList 8 = some ([.lit (.int .i64 0), .nil, .nil], [], places) :=
  ⟨[], by kernel_rfl⟩
theorem laid_met_walks (os : Os) : laidMet Try.prog Rows.trieWalksRow.laid ((World.holding Try.prog os ⟨#[], #[], []⟩).forCall (fun _ _ => 0) ⟨#[], #[.int .i64 0, .slice none 0 0, .slice none 0 0], []⟩).memory :=
  laidMet_of_run' 8 (by kernel_rfl) (by kernel_rfl)
theorem spec_walks {H : Type} : ∀ ds : List (DataW H), ds.length = 2 + 1 → Rows.trieWalksSpec.fn H (ds ++ []) = { results := [.lit (.bool true)], args := ds } := by
  intro ds hds
  match ds, hds with
  | [d1, d2, d3], _ => rfl
theorem reads_types_walks : ∀ t ∈ [3, 22, 22], Program.readableRec Try.prog t = true ∧ t < Try.prog.types.size := by
  intro t ht
  have key : ([3, 22, 22]).all (fun t => Program.readableRec Try.prog t && decide (t < Try.prog.types.size)) = true := by kernel_rfl
  have := List.all_eq_true.1 key t ht
  rw [Bool.and_eq_true] at this
  exact ⟨this.1, of_decide_eq_true this.2⟩
theorem called_walks {H : Type} {enc : TypeId × Value → H} (W : World) (base : Nat) (args : Array Value) (ds : List (DataW H)) (p : List MemPlace) (hv : ∀ (j : Nat) t v, [3, 22, 22][j]? = some t → args.toList[j]? = some v → Value.okWide Try.prog W .any base t v) (hA : DataW.TrodAll enc Try.prog W 0 (fun _ => true) true [3, 22, 22] args.toList ds p)
    (hw : ∀ (j : Nat) t d, [3, 22, 22][j]? = some t → ds[j]? = some d → okW Try.prog t d) : Gv Try.prog 10 args (.bool true) W := by
  obtain ⟨v0, v1, v2, d0, d1, d2, p0, p1, p2, rfl, rfl, rfl, h0, h1, h2⟩ := trodAll_three hA
  obtain ⟨z, rfl⟩ := okWide_int uInt (hv 0 _ v0 rfl rfl)
  obtain ⟨a1, l1, c1, rfl⟩ := okWide_slice tOps (hv 1 _ v1 rfl rfl)
  obtain ⟨a2, l2, c2, rfl⟩ := okWide_slice tOps (hv 2 _ v2 rfl rfl)
  obtain ⟨f1, h1⟩ := h1
  obtain ⟨f2, h2⟩ := h2
  obtain ⟨s, os, he, hs⟩ := open_script h1 (hw 1 _ d1 rfl rfl)
  obtain ⟨s2, os2, he2, hs2⟩ := open_script h2 (hw 2 _ d2 rfl rfl)
  rw [he, he2]
  exact walks_law z s s2 os os2 W hs hs2
set_option maxRecDepth 100000 in
theorem lifted_walks (os : Os) (started : os.Started) (H : Type) (enc : TypeId × Value → H) (F : Stop.Interp) :
    ReturnsInHanded {} Try.checked os 10 .any ((OpenSpec.ofChange Rows.trieWalksSpec).preRow enc Try.prog Try.f10 Rows.trieWalksRow.domain false Rows.trieWalksRow.laid) (((OpenSpec.ofChange Rows.trieWalksSpec).at F).post enc Try.prog Try.f10 false true false false) := by
  obtain ⟨places, hx⟩ := reads_walks os enc
  refine returnsInHanded_of_row (C := Try.checked) (s := OpenSpec.ofChange Rows.trieWalksSpec) ownKn started (by kernel_rfl) Try.func10
    (witness_row_at (enc := enc) (C := Try.checked) false (World.holding Try.prog os ⟨#[], #[], []⟩) #[.int .i64 0, .slice none 0 0, .slice none 0 0] rfl (by kernel_rfl) (by kernel_rfl) (by kernel_rfl)
      (OpenSpec.preRow_of_cond 8 hx (by kernel_rfl) (fun k hk => by cases hk) (by kernel_rfl) (laid_met_walks os))) ?_
  intro W base args ds gs before hval hW _ _ hwt hL _ _
  exact contract_all (s := Rows.trieWalksSpec) (fn := Try.f10) (ts := [3, 22, 22]) (tb := 4) (laid := Rows.trieWalksRow.laid) (by kernel_rfl) (by kernel_rfl) uBool laidOut reads_types_walks rfl spec_walks (fun W base args ds p hv hA hw _ => called_walks W base args ds p hv hA hw) W base args ds gs before hval hW hwt hL
theorem said_walks : Rows.TrieWalksSaid :=
  OpenClaim.holds_of_cond 10 Try.f10 rfl rfl rfl rfl rfl rfl rfl ⟨rfl, rfl, rfl, rfl, rfl⟩ rfl rfl rfl rfl rfl (by kernel_rfl) Try.func10 (by kernel_rfl)
    (of_decide_eq_true (by kernel_rfl)) (by unfold Func.isWrapper; first | (rw [if_pos (by decide +kernel)]; kernel_rfl) | (rw [if_neg (by decide +kernel)]; exact ⟨rfl, rfl⟩))
    (fun os started H enc _ F => by rw [OpenClaim.pre_eq_preRow]; exact lifted_walks os started H enc F)
end Go.Proofs.Ytdnlnloogfnlgaa
