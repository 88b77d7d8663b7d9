/- Proved here: culletlaw12.TrieKeysMemory returns true for every input: keys of Recent, Under and All: what is written into them or behind them changes no other answer; what it is handed reads behind the call as it read before. No condition. -/
import Derived.Test.YtdnlnloogfnlgaaTrKf
import Derived.Test.YtdnlnloogfnlgaaTrW
set_option linter.all false
namespace Go.Proofs.Ytdnlnloogfnlgaa
open Go Go.Cu Go.ChangeShapes Go.WideShapes Go.ChangeAt Go.RowKit
set_option linter.unusedVariables false
set_option maxRecDepth 100000
theorem reads_keysmem (os : Os) {H : Type} (enc : TypeId × Value → H) : ∃ places, DataW.whole enc Try.prog ((World.holding Try.prog os ⟨#[], #[], []⟩).forCall (fun _ _ => 0) ⟨#[], #[.int .i64 0, .slice none 0 0], []⟩).memory Try.f6.params.toList Rows.trieKeysMemorySpec.vars false (#[.int .i64 0, .slice none 0 0] : Array Value).toList 8 = some ([.lit (.int .i64 0), .nil], [], places) :=
  ⟨[], by kernel_rfl⟩
theorem laid_met_keysmem (os : Os) : laidMet Try.prog Rows.trieKeysMemoryRow.laid ((World.holding Try.prog os ⟨#[], #[], []⟩).forCall (fun _ _ => 0) ⟨#[], #[.int .i64 0, .slice none 0 0], []⟩).memory :=
  laidMet_of_run' 8 (by kernel_rfl) (by kernel_rfl)
theorem spec_keysmem {H : Type} : ∀ ds : List (DataW H), ds.length = 2 + 0 → Rows.trieKeysMemorySpec.fn H (ds ++ []) = { results := [.lit (.bool true)], args := ds } := by
  intro ds hds
  match ds, hds with
  | [d1, d2], _ => rfl
theorem reads_types_keysmem : ∀ t ∈ [3, 22], Program.readableRec Try.prog t = true ∧ t < Try.prog.types.size := by
  intro t ht
  have key : ([3, 22]).all (fun t => Program.readableRec Try.prog t && decide (t < Try.prog.types.size)) = true := by kernel_rfl
  have := List.all_eq_true.1 key t ht
  rw [Bool.and_eq_true] at this
  exact ⟨this.1, of_decide_eq_true this.2⟩
theorem called_keysmem {H : Type} {enc : TypeId × Value → H} (W : World) (base : Nat) (args : Array Value) (ds : List (DataW H)) (p : List MemPlace) (hv : ∀ (j : Nat) t v, [3, 22][j]? = some t → args.toList[j]? = some v → Value.okWide Try.prog W .any base t v) (hA : DataW.TrodAll enc Try.prog W 0 (fun _ => true) true [3, 22] args.toList ds p)
    (hw : ∀ (j : Nat) t d, [3, 22][j]? = some t → ds[j]? = some d → okW Try.prog t d) : Gv Try.prog 6 args (.bool true) W := by
  obtain ⟨v0, v1, d0, d1, p0, p1, rfl, rfl, rfl, h0, h1⟩ := trodAll_two hA
  obtain ⟨z, rfl⟩ := okWide_int uInt (hv 0 _ v0 rfl rfl)
  obtain ⟨a1, l1, c1, rfl⟩ := okWide_slice tOps (hv 1 _ v1 rfl rfl)
  obtain ⟨f1, h1⟩ := h1
  obtain ⟨s, os, he, hs⟩ := open_script h1 (hw 1 _ d1 rfl rfl)
  rw [he]
  exact keysmem_law z s os W hs
set_option maxRecDepth 100000 in
theorem lifted_keysmem (os : Os) (started : os.Started) (H : Type) (enc : TypeId × Value → H) (F : Stop.Interp) :
    ReturnsInHanded {} Try.checked os 6 .any ((OpenSpec.ofChange Rows.trieKeysMemorySpec).preRow enc Try.prog Try.f6 Rows.trieKeysMemoryRow.domain false Rows.trieKeysMemoryRow.laid) (((OpenSpec.ofChange Rows.trieKeysMemorySpec).at F).post enc Try.prog Try.f6 false true false false) := by
  obtain ⟨places, hx⟩ := reads_keysmem os enc
  refine returnsInHanded_of_row (C := Try.checked) (s := OpenSpec.ofChange Rows.trieKeysMemorySpec) ownKn started (by kernel_rfl) Try.func6
    (witness_row_at (enc := enc) (C := Try.checked) false (World.holding Try.prog os ⟨#[], #[], []⟩) #[.int .i64 0, .slice none 0 0] rfl (by kernel_rfl) (by kernel_rfl) (by kernel_rfl)
      (OpenSpec.preRow_of_cond 8 hx (by kernel_rfl) (fun k hk => by cases hk) (by kernel_rfl) (laid_met_keysmem os))) ?_
  intro W base args ds gs before hval hW _ _ hwt hL _ _
  exact contract_all (s := Rows.trieKeysMemorySpec) (fn := Try.f6) (ts := [3, 22]) (tb := 4) (laid := Rows.trieKeysMemoryRow.laid) (by kernel_rfl) (by kernel_rfl) uBool laidOut reads_types_keysmem rfl spec_keysmem (fun W base args ds p hv hA hw _ => called_keysmem W base args ds p hv hA hw) W base args ds gs before hval hW hwt hL
theorem said_keysmem : Rows.TrieKeysMemorySaid :=
  OpenClaim.holds_of_cond 6 Try.f6 rfl rfl rfl rfl rfl rfl rfl ⟨rfl, rfl, rfl, rfl, rfl⟩ rfl rfl rfl rfl rfl (by kernel_rfl) Try.func6 (by kernel_rfl)
    (of_decide_eq_true (by kernel_rfl)) (by unfold Func.isWrapper; first | (rw [if_pos (by decide +kernel)]; kernel_rfl) | (rw [if_neg (by decide +kernel)]; exact ⟨rfl, rfl⟩))
    (fun os started H enc _ F => by rw [OpenClaim.pre_eq_preRow]; exact lifted_keysmem os started H enc F)
end Go.Proofs.Ytdnlnloogfnlgaa
