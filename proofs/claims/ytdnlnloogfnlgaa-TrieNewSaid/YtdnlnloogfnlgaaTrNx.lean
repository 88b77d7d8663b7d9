/- Proved here: culletlaw12.TrieNew returns true for every input: just the limits 1 to 1024 have a trie, it keeps nothing, and a nil trie keeps nothing; what it is handed reads behind the call as it read before. No condition. -/
import Derived.Test.YtdnlnloogfnlgaaTrNa
import Derived.Test.YtdnlnloogfnlgaaTrW
set_option linter.all false
namespace Go.Proofs.Ytdnlnloogfnlgaa
open Go Go.Cu Go.ChangeShapes Go.WideShapes Go.ChangeAt Go.RowKit
set_option linter.unusedVariables false
set_option maxRecDepth 100000
theorem reads_new (os : Os) {H : Type} (enc : TypeId × Value → H) : ∃ places, DataW.whole enc Try.prog ((World.holding Try.prog os ⟨#[], #[], []⟩).forCall (fun _ _ => 0) ⟨#[], #[.int .i64 0, .slice none 0 0, .slice none 0 0], []⟩).memory Try.f7.params.toList Rows.trieNewSpec.vars false (#[.int .i64 0, .slice none 0 0, .slice none 0 0] : Array Value).toList 8 = some ([.lit (.int .i64 0), .nil, .nil], [], places) :=
  ⟨[], by kernel_rfl⟩
theorem laid_met_new (os : Os) : laidMet Try.prog Rows.trieNewRow.laid ((World.holding Try.prog os ⟨#[], #[], []⟩).forCall (fun _ _ => 0) ⟨#[], #[.int .i64 0, .slice none 0 0, .slice none 0 0], []⟩).memory :=
  laidMet_of_run' 8 (by kernel_rfl) (by kernel_rfl)
theorem spec_new {H : Type} : ∀ ds : List (DataW H), ds.length = 2 + 1 → Rows.trieNewSpec.fn H (ds ++ []) = { results := [.lit (.bool true)], args := ds } := by
  intro ds hds
  match ds, hds with
  | [d1, d2, d3], _ => rfl
theorem reads_types_new : ∀ t ∈ [3, 29, 30], Program.readableRec Try.prog t = true ∧ t < Try.prog.types.size := by
  intro t ht
  have key : ([3, 29, 30]).all (fun t => Program.readableRec Try.prog t && decide (t < Try.prog.types.size)) = true := by kernel_rfl
  have := List.all_eq_true.1 key t ht
  rw [Bool.and_eq_true] at this
  exact ⟨this.1, of_decide_eq_true this.2⟩
theorem called_new {H : Type} {enc : TypeId × Value → H} (W : World) (base : Nat) (args : Array Value) (ds : List (DataW H)) (p : List MemPlace) (hv : ∀ (j : Nat) t v, [3, 29, 30][j]? = some t → args.toList[j]? = some v → Value.okWide Try.prog W .any base t v) (hA : DataW.TrodAll enc Try.prog W 0 (fun _ => true) true [3, 29, 30] args.toList ds p)
    (hw : ∀ (j : Nat) t d, [3, 29, 30][j]? = some t → ds[j]? = some d → okW Try.prog t d) : Gv Try.prog 7 args (.bool true) W := by
  obtain ⟨v0, v1, v2, d0, d1, d2, p0, p1, p2, rfl, rfl, rfl, h0, h1, h2⟩ := trodAll_three hA
  obtain ⟨z, rfl⟩ := okWide_int uInt (hv 0 _ v0 rfl rfl)
  obtain ⟨a1, l1, c1, rfl⟩ := okWide_slice tI (hv 1 _ v1 rfl rfl)
  obtain ⟨a2, l2, c2, rfl⟩ := okWide_slice tBB (hv 2 _ v2 rfl rfl)
  obtain ⟨f1, h1⟩ := h1
  obtain ⟨f2, h2⟩ := h2
  obtain ⟨s, l, he, hs, hl⟩ := open_key h1 (hw 1 _ d1 rfl rfl)
  obtain ⟨s2, ls, he2, hs2, hl2⟩ := open_value h2 (hw 2 _ d2 rfl rfl)
  rw [he, he2]
  exact new_law z s s2 l ls W hs hl hs2 hl2
set_option maxRecDepth 100000 in
theorem lifted_new (os : Os) (started : os.Started) (H : Type) (enc : TypeId × Value → H) (F : Stop.Interp) :
    ReturnsInHanded {} Try.checked os 7 .any ((OpenSpec.ofChange Rows.trieNewSpec).preRow enc Try.prog Try.f7 Rows.trieNewRow.domain false Rows.trieNewRow.laid) (((OpenSpec.ofChange Rows.trieNewSpec).at F).post enc Try.prog Try.f7 false true false false) := by
  obtain ⟨places, hx⟩ := reads_new os enc
  refine returnsInHanded_of_row (C := Try.checked) (s := OpenSpec.ofChange Rows.trieNewSpec) ownKn started (by kernel_rfl) Try.func7
    (witness_row_at (enc := enc) (C := Try.checked) false (World.holding Try.prog os ⟨#[], #[], []⟩) #[.int .i64 0, .slice none 0 0, .slice none 0 0] rfl (by kernel_rfl) (by kernel_rfl) (by kernel_rfl)
      (OpenSpec.preRow_of_cond 8 hx (by kernel_rfl) (fun k hk => by cases hk) (by kernel_rfl) (laid_met_new os))) ?_
  intro W base args ds gs before hval hW _ _ hwt hL _ _
  exact contract_all (s := Rows.trieNewSpec) (fn := Try.f7) (ts := [3, 29, 30]) (tb := 4) (laid := Rows.trieNewRow.laid) (by kernel_rfl) (by kernel_rfl) uBool laidOut reads_types_new rfl spec_new (fun W base args ds p hv hA hw _ => called_new W base args ds p hv hA hw) W base args ds gs before hval hW hwt hL
theorem said_new : Rows.TrieNewSaid :=
  OpenClaim.holds_of_cond 7 Try.f7 rfl rfl rfl rfl rfl rfl rfl ⟨rfl, rfl, rfl, rfl, rfl⟩ rfl rfl rfl rfl rfl (by kernel_rfl) Try.func7 (by kernel_rfl)
    (of_decide_eq_true (by kernel_rfl)) (by unfold Func.isWrapper; first | (rw [if_pos (by decide +kernel)]; kernel_rfl) | (rw [if_neg (by decide +kernel)]; exact ⟨rfl, rfl⟩))
    (fun os started H enc _ F => by rw [OpenClaim.pre_eq_preRow]; exact lifted_new os started H enc F)
end Go.Proofs.Ytdnlnloogfnlgaa
