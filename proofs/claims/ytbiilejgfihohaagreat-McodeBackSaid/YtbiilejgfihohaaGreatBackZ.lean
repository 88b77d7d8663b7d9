/- Proved here: culletlaw17.McodeBack returns true for every input: what was encoded and then lost, up to m shards, is given back, what is there stays; one more lost is refused; what it is handed reads behind the call as it read before. No condition. -/
import Derived.Test.YtbiilejgfihohaaGreatBackG
set_option linter.all false
set_option maxHeartbeats 4000000
set_option maxRecDepth 100000
set_option autoImplicit false
namespace Go.Proofs.YtbiilejgfihohaaGreat
open Go Go.Cu Go.ChangeShapes Go.WideShapes Go.ChangeAt Go.RowKit
theorem reads_back (os : Os) {H : Type} (enc : TypeId × Value → H) : ∃ places, DataW.whole enc Tryz.prog ((World.holding Tryz.prog os ⟨#[], #[], []⟩).forCall (fun _ _ => 0) ⟨#[], #[zeroCode, .slice none 0 0, .slice none 0 0], []⟩).memory Tryz.f7.params.toList Rows.mcodeBackSpec.vars false (#[zeroCode, .slice none 0 0, .slice none 0 0] : Array Value).toList 8 = some ([.agg [.lit (.int .i64 0), .lit (.int .i64 0), .lit (.int .i64 0), .lit (.int .i64 0)], .nil, .nil], [], places) :=
  ⟨[], by kernel_rfl⟩
theorem laid_met_back (os : Os) : laidMet Tryz.prog Rows.mcodeBackRow.laid ((World.holding Tryz.prog os ⟨#[], #[], []⟩).forCall (fun _ _ => 0) ⟨#[], #[zeroCode, .slice none 0 0, .slice none 0 0], []⟩).memory :=
  laidMet_of_run' 8 (by kernel_rfl) (by kernel_rfl)
theorem spec_back {H : Type} : ∀ ds : List (DataW H), ds.length = 0 + 3 → Rows.mcodeBackSpec.fn H (ds ++ []) = { results := [.lit (.bool true)], args := ds } := by
  intro ds hds
  match ds, hds with
  | [d1, d2, d3], _ => rfl
theorem reads_types_back : ∀ t ∈ [23, 24, 53], Program.readableRec Tryz.prog t = true ∧ t < Tryz.prog.types.size := by
  intro t ht
  have key : ([23, 24, 53]).all (fun t => Program.readableRec Tryz.prog t && decide (t < Tryz.prog.types.size)) = true := by kernel_rfl
  have := List.all_eq_true.1 key t ht
  rw [Bool.and_eq_true] at this
  exact ⟨this.1, of_decide_eq_true this.2⟩
theorem called_back {H : Type} {enc : TypeId × Value → H} (W : World) (base : Nat) (args : Array Value) (ds : List (DataW H)) (p : List MemPlace) (hv : ∀ (j : Nat) t v, [23, 24, 53][j]? = some t → args.toList[j]? = some v → Value.okWide Tryz.prog W .any base t v) (hA : DataW.TrodAll enc Tryz.prog W 0 (fun _ => true) true [23, 24, 53] args.toList ds p)
    (hw : ∀ (j : Nat) t d, [23, 24, 53][j]? = some t → ds[j]? = some d → okW Tryz.prog t d) : Gv Tryz.prog 7 args (.bool true) W := by
  obtain ⟨v0, v1, v2, d0, d1, d2, p0, p1, p2, rfl, rfl, rfl, h0, h1, h2⟩ := trodAll_three hA
  obtain ⟨f0, h0⟩ := h0
  obtain ⟨n, rfl, hn⟩ := open_code h0
  obtain ⟨f1, h1⟩ := h1
  obtain ⟨a1, l1, c1, rfl⟩ := okWide_slice tB (hv 1 _ v1 rfl rfl)
  obtain ⟨s1, x1, e1, r1⟩ := open_bytes h1 (hw 1 _ d1 rfl rfl)
  rw [e1]
  obtain ⟨f2, h2⟩ := h2
  obtain ⟨a2, l2, c2, rfl⟩ := okWide_slice tII (hv 2 _ v2 rfl rfl)
  obtain ⟨s2, x2, e2, r2⟩ := open_lists h2 (hw 2 _ d2 rfl rfl)
  rw [e2]
  exact back_open n hn W s1 x1 r1 s2 x2 r2
set_option maxRecDepth 100000 in
theorem lifted_back (os : Os) (started : os.Started) (H : Type) (enc : TypeId × Value → H) (F : Stop.Interp) :
    ReturnsInHanded {} Tryz.checked os 7 .any ((OpenSpec.ofChange Rows.mcodeBackSpec).preRow enc Tryz.prog Tryz.f7 Rows.mcodeBackRow.domain false Rows.mcodeBackRow.laid) (((OpenSpec.ofChange Rows.mcodeBackSpec).at F).post enc Tryz.prog Tryz.f7 false true false false) := by
  obtain ⟨places, hx⟩ := reads_back os enc
  refine returnsInHanded_of_row (C := Tryz.checked) (s := OpenSpec.ofChange Rows.mcodeBackSpec) ownKn started (by kernel_rfl) Tryz.func7
    (witness_row_at (enc := enc) (C := Tryz.checked) false (World.holding Tryz.prog os ⟨#[], #[], []⟩) #[zeroCode, .slice none 0 0, .slice none 0 0] rfl (by kernel_rfl) (by kernel_rfl) (by kernel_rfl)
      (OpenSpec.preRow_of_cond 8 hx (by kernel_rfl) (fun k hk => by cases hk) (by kernel_rfl) (laid_met_back os))) ?_
  intro W base args ds gs before hval hW _ _ hwt hL _ _
  exact contract_all (s := Rows.mcodeBackSpec) (fn := Tryz.f7) (ts := [23, 24, 53]) (tb := 4) (laid := Rows.mcodeBackRow.laid) (by kernel_rfl) (by kernel_rfl) uBool laidOut reads_types_back rfl spec_back (fun W base args ds p hv hA hw _ => called_back W base args ds p hv hA hw) W base args ds gs before hval hW hwt hL
theorem said_back : Rows.McodeBackSaid :=
  OpenClaim.holds_of_cond 7 Tryz.f7 rfl rfl rfl rfl rfl rfl rfl ⟨rfl, rfl, rfl, rfl, rfl⟩ rfl rfl rfl rfl rfl (by kernel_rfl) Tryz.func7 (by kernel_rfl)
    (of_decide_eq_true (by kernel_rfl)) (by unfold Func.isWrapper; first | (rw [if_pos (by decide +kernel)]; kernel_rfl) | (rw [if_neg (by decide +kernel)]; exact ⟨rfl, rfl⟩))
    (fun os started H enc _ F => by rw [OpenClaim.pre_eq_preRow]; exact lifted_back os started H enc F)
end Go.Proofs.YtbiilejgfihohaaGreat
