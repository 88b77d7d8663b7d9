/- Proved here: culletlaw17.McodeBackends returns true for every input: the three kernels give the same codeword, the same rows given back and the same update; what it is handed reads behind the call as it read before. No condition. -/
import Derived.Test.YtbiilejgfihohaaGreatBacksG
set_option linter.all false
namespace Go.Proofs.YtbiilejgfihohaaGreat
open Go Go.Cu Go.ChangeShapes Go.WideShapes Go.ChangeAt Go.RowKit
set_option linter.unusedVariables false
set_option maxRecDepth 100000
theorem reads_backs (os : Os) {H : Type} (enc : TypeId × Value → H) : ∃ places, DataW.whole enc Tryz.prog ((World.holding Tryz.prog os ⟨#[], #[], []⟩).forCall (fun _ _ => 0) ⟨#[], #[zeroCode, .slice none 0 0, .slice none 0 0, .slice none 0 0], []⟩).memory Tryz.f5.params.toList Rows.mcodeBackendsSpec.vars false (#[zeroCode, .slice none 0 0, .slice none 0 0, .slice none 0 0] : Array Value).toList 8 = some ([.agg [.lit (.int .i64 0), .lit (.int .i64 0), .lit (.int .i64 0), .lit (.int .i64 0)], .nil, .nil, .nil], [], places) :=
  ⟨[], by kernel_rfl⟩
theorem laid_met_backs (os : Os) : laidMet Tryz.prog Rows.mcodeBackendsRow.laid ((World.holding Tryz.prog os ⟨#[], #[], []⟩).forCall (fun _ _ => 0) ⟨#[], #[zeroCode, .slice none 0 0, .slice none 0 0, .slice none 0 0], []⟩).memory :=
  laidMet_of_run' 8 (by kernel_rfl) (by kernel_rfl)
theorem spec_backs {H : Type} : ∀ ds : List (DataW H), ds.length = 0 + 4 → Rows.mcodeBackendsSpec.fn H (ds ++ []) = { results := [.lit (.bool true)], args := ds } := by
  intro ds hds
  match ds, hds with
  | [d1, d2, d3, d4], _ => rfl
theorem reads_types_backs : ∀ t ∈ [23, 24, 24, 25], Program.readableRec Tryz.prog t = true ∧ t < Tryz.prog.types.size := by
  intro t ht
  have key : ([23, 24, 24, 25]).all (fun t => Program.readableRec Tryz.prog t && decide (t < Tryz.prog.types.size)) = true := by kernel_rfl
  have := List.all_eq_true.1 key t ht
  rw [Bool.and_eq_true] at this
  exact ⟨this.1, of_decide_eq_true this.2⟩
theorem called_backs {H : Type} {enc : TypeId × Value → H} (W : World) (base : Nat) (args : Array Value) (ds : List (DataW H)) (p : List MemPlace) (hv : ∀ (j : Nat) t v, [23, 24, 24, 25][j]? = some t → args.toList[j]? = some v → Value.okWide Tryz.prog W .any base t v) (hA : DataW.TrodAll enc Tryz.prog W 0 (fun _ => true) true [23, 24, 24, 25] args.toList ds p)
    (hw : ∀ (j : Nat) t d, [23, 24, 24, 25][j]? = some t → ds[j]? = some d → okW Tryz.prog t d) : Gv Tryz.prog 5 args (.bool true) W := by
  obtain ⟨v0, v1, v2, v3, d0, d1, d2, d3, p0, p1, p2, p3, rfl, rfl, rfl, h0, h1, h2, h3⟩ := trodAll_four hA
  obtain ⟨f0, h0⟩ := h0
  obtain ⟨n, rfl, hn⟩ := open_code h0
  obtain ⟨f1, h1⟩ := h1
  obtain ⟨a1, l1, c1, rfl⟩ := okWide_slice tB (hv 1 _ v1 rfl rfl)
  obtain ⟨s1, x1, e1, r1⟩ := open_bytes h1 (hw 1 _ d1 rfl rfl)
  rw [e1]
  obtain ⟨f2, h2⟩ := h2
  obtain ⟨a2, l2, c2, rfl⟩ := okWide_slice tB (hv 2 _ v2 rfl rfl)
  obtain ⟨s2, x2, e2, r2⟩ := open_bytes h2 (hw 2 _ d2 rfl rfl)
  rw [e2]
  obtain ⟨f3, h3⟩ := h3
  obtain ⟨a3, l3, c3, rfl⟩ := okWide_slice tI (hv 3 _ v3 rfl rfl)
  obtain ⟨s3, x3, e3, r3⟩ := open_i64s h3 (hw 3 _ d3 rfl rfl)
  rw [e3]
  exact backs_open n hn W s1 x1 r1 s2 x2 r2 s3 x3 r3
set_option maxRecDepth 100000 in
theorem lifted_backs (os : Os) (started : os.Started) (H : Type) (enc : TypeId × Value → H) (F : Stop.Interp) :
    ReturnsInHanded {} Tryz.checked os 5 .any ((OpenSpec.ofChange Rows.mcodeBackendsSpec).preRow enc Tryz.prog Tryz.f5 Rows.mcodeBackendsRow.domain false Rows.mcodeBackendsRow.laid) (((OpenSpec.ofChange Rows.mcodeBackendsSpec).at F).post enc Tryz.prog Tryz.f5 false true false false) := by
  obtain ⟨places, hx⟩ := reads_backs os enc
  refine returnsInHanded_of_row (C := Tryz.checked) (s := OpenSpec.ofChange Rows.mcodeBackendsSpec) ownKn started (by kernel_rfl) Tryz.func5
    (witness_row_at (enc := enc) (C := Tryz.checked) false (World.holding Tryz.prog os ⟨#[], #[], []⟩) #[zeroCode, .slice none 0 0, .slice none 0 0, .slice none 0 0] rfl (by kernel_rfl) (by kernel_rfl) (by kernel_rfl)
      (OpenSpec.preRow_of_cond 8 hx (by kernel_rfl) (fun k hk => by cases hk) (by kernel_rfl) (laid_met_backs os))) ?_
  intro W base args ds gs before hval hW _ _ hwt hL _ _
  exact contract_all (s := Rows.mcodeBackendsSpec) (fn := Tryz.f5) (ts := [23, 24, 24, 25]) (tb := 4) (laid := Rows.mcodeBackendsRow.laid) (by kernel_rfl) (by kernel_rfl) uBool laidOut reads_types_backs rfl spec_backs (fun W base args ds p hv hA hw _ => called_backs W base args ds p hv hA hw) W base args ds gs before hval hW hwt hL
theorem said_backs : Rows.McodeBackendsSaid :=
  OpenClaim.holds_of_cond 5 Tryz.f5 rfl rfl rfl rfl rfl rfl rfl ⟨rfl, rfl, rfl, rfl, rfl⟩ rfl rfl rfl rfl rfl (by kernel_rfl) Tryz.func5 (by kernel_rfl)
    (of_decide_eq_true (by kernel_rfl)) (by unfold Func.isWrapper; first | (rw [if_pos (by decide +kernel)]; kernel_rfl) | (rw [if_neg (by decide +kernel)]; exact ⟨rfl, rfl⟩))
    (fun os started H enc _ F => by rw [OpenClaim.pre_eq_preRow]; exact lifted_backs os started H enc F)
end Go.Proofs.YtbiilejgfihohaaGreat
