/- Proved here: culletlaw17.McodeGives returns true for every input: reconstructing a script's shards, with and without the parity, by the codec and by the written-out codec gives the same errors and the same shards, with the memory around them as it was, and keeps as many plans; what it is handed reads behind the call as it read before. No condition. -/
import Derived.Test.YtbiilejgfihohaaGreatGivesH
set_option linter.all false
set_option maxHeartbeats 4000000
set_option maxRecDepth 100000
set_option autoImplicit false
namespace Go.Proofs.YtbiilejgfihohaaGreat
open Go Go.Cu Go.ChangeShapes Go.WideShapes Go.ChangeAt Go.RowKit
theorem reads_gives (os : Os) {H : Type} (enc : TypeId × Value → H) : ∃ places, DataW.whole enc Tryz.prog ((World.holding Tryz.prog os ⟨#[], #[], []⟩).forCall (fun _ _ => 0) ⟨#[], #[zeroCode, .slice none 0 0], []⟩).memory Tryz.f9.params.toList Rows.mcodeGivesSpec.vars false (#[zeroCode, .slice none 0 0] : Array Value).toList 8 = some ([.agg [.lit (.int .i64 0), .lit (.int .i64 0), .lit (.int .i64 0), .lit (.int .i64 0)], .nil], [], places) :=
  ⟨[], by kernel_rfl⟩
theorem laid_met_gives (os : Os) : laidMet Tryz.prog Rows.mcodeGivesRow.laid ((World.holding Tryz.prog os ⟨#[], #[], []⟩).forCall (fun _ _ => 0) ⟨#[], #[zeroCode, .slice none 0 0], []⟩).memory :=
  laidMet_of_run' 8 (by kernel_rfl) (by kernel_rfl)
theorem spec_gives {H : Type} : ∀ ds : List (DataW H), ds.length = 0 + 2 → Rows.mcodeGivesSpec.fn H (ds ++ []) = { results := [.lit (.bool true)], args := ds } := by
  intro ds hds
  match ds, hds with
  | [d1, d2], _ => rfl
theorem reads_types_gives : ∀ t ∈ [23, 64], Program.readableRec Tryz.prog t = true ∧ t < Tryz.prog.types.size := by
  intro t ht
  have key : ([23, 64]).all (fun t => Program.readableRec Tryz.prog t && decide (t < Tryz.prog.types.size)) = true := by kernel_rfl
  have := List.all_eq_true.1 key t ht
  rw [Bool.and_eq_true] at this
  exact ⟨this.1, of_decide_eq_true this.2⟩
theorem called_gives {H : Type} {enc : TypeId × Value → H} (W : World) (base : Nat) (args : Array Value) (ds : List (DataW H)) (p : List MemPlace) (hv : ∀ (j : Nat) t v, [23, 64][j]? = some t → args.toList[j]? = some v → Value.okWide Tryz.prog W .any base t v) (hA : DataW.TrodAll enc Tryz.prog W 0 (fun _ => true) true [23, 64] args.toList ds p)
    (hw : ∀ (j : Nat) t d, [23, 64][j]? = some t → ds[j]? = some d → okW Tryz.prog t d) : Gv Tryz.prog 9 args (.bool true) W := by
  obtain ⟨v0, v1, d0, d1, p0, p1, rfl, rfl, rfl, h0, h1⟩ := trodAll_two hA
  obtain ⟨f0, h0⟩ := h0
  obtain ⟨n, rfl, hn⟩ := open_code h0
  obtain ⟨f1, h1⟩ := h1
  obtain ⟨a1, l1, c1, rfl⟩ := okWide_slice tOps (hv 1 _ v1 rfl rfl)
  obtain ⟨s1, x1, e1, r1⟩ := open_ops h1 (hw 1 _ d1 rfl rfl)
  rw [e1]
  exact gives_open n hn W s1 x1 r1
set_option maxRecDepth 100000 in
theorem lifted_gives (os : Os) (started : os.Started) (H : Type) (enc : TypeId × Value → H) (F : Stop.Interp) :
    ReturnsInHanded {} Tryz.checked os 9 .any ((OpenSpec.ofChange Rows.mcodeGivesSpec).preRow enc Tryz.prog Tryz.f9 Rows.mcodeGivesRow.domain false Rows.mcodeGivesRow.laid) (((OpenSpec.ofChange Rows.mcodeGivesSpec).at F).post enc Tryz.prog Tryz.f9 false true false false) := by
  obtain ⟨places, hx⟩ := reads_gives os enc
  refine returnsInHanded_of_row (C := Tryz.checked) (s := OpenSpec.ofChange Rows.mcodeGivesSpec) ownKn started (by kernel_rfl) Tryz.func9
    (witness_row_at (enc := enc) (C := Tryz.checked) false (World.holding Tryz.prog os ⟨#[], #[], []⟩) #[zeroCode, .slice none 0 0] rfl (by kernel_rfl) (by kernel_rfl) (by kernel_rfl)
      (OpenSpec.preRow_of_cond 8 hx (by kernel_rfl) (fun k hk => by cases hk) (by kernel_rfl) (laid_met_gives os))) ?_
  intro W base args ds gs before hval hW _ _ hwt hL _ _
  exact contract_all (s := Rows.mcodeGivesSpec) (fn := Tryz.f9) (ts := [23, 64]) (tb := 4) (laid := Rows.mcodeGivesRow.laid) (by kernel_rfl) (by kernel_rfl) uBool laidOut reads_types_gives rfl spec_gives (fun W base args ds p hv hA hw _ => called_gives W base args ds p hv hA hw) W base args ds gs before hval hW hwt hL
theorem said_gives : Rows.McodeGivesSaid :=
  OpenClaim.holds_of_cond 9 Tryz.f9 rfl rfl rfl rfl rfl rfl rfl ⟨rfl, rfl, rfl, rfl, rfl⟩ rfl rfl rfl rfl rfl (by kernel_rfl) Tryz.func9 (by kernel_rfl)
    (of_decide_eq_true (by kernel_rfl)) (by unfold Func.isWrapper; first | (rw [if_pos (by decide +kernel)]; kernel_rfl) | (rw [if_neg (by decide +kernel)]; exact ⟨rfl, rfl⟩))
    (fun os started H enc _ F => by rw [OpenClaim.pre_eq_preRow]; exact lifted_gives os started H enc F)
end Go.Proofs.YtbiilejgfihohaaGreat
