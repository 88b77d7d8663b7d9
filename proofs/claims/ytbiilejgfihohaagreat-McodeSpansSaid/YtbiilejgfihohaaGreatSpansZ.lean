/- Proved here: culletlaw17.McodeSpans returns true for every input: done in two spans, Encode, Update and Fill write what they write at once; Verify is true just if it is in both spans; a span behind the length is refused; what it is handed reads behind the call as it read before. No condition. -/
import Derived.Test.YtbiilejgfihohaaGreatSpansG
set_option linter.all false
set_option maxHeartbeats 4000000
set_option maxRecDepth 100000
set_option autoImplicit false
namespace Go.Proofs.YtbiilejgfihohaaGreat
open Go Go.Cu Go.ChangeShapes Go.WideShapes Go.ChangeAt Go.RowKit
theorem reads_spans (os : Os) {H : Type} (enc : TypeId × Value → H) : ∃ places, DataW.whole enc Tryz.prog ((World.holding Tryz.prog os ⟨#[], #[], []⟩).forCall (fun _ _ => 0) ⟨#[], #[zeroCode, .slice none 0 0, .slice none 0 0, .int .i64 0], []⟩).memory Tryz.f8.params.toList Rows.mcodeSpansSpec.vars false (#[zeroCode, .slice none 0 0, .slice none 0 0, .int .i64 0] : Array Value).toList 8 = some ([.agg [.lit (.int .i64 0), .lit (.int .i64 0), .lit (.int .i64 0), .lit (.int .i64 0)], .nil, .nil, .lit (.int .i64 0)], [], places) :=
  ⟨[], by kernel_rfl⟩
theorem laid_met_spans (os : Os) : laidMet Tryz.prog Rows.mcodeSpansRow.laid ((World.holding Tryz.prog os ⟨#[], #[], []⟩).forCall (fun _ _ => 0) ⟨#[], #[zeroCode, .slice none 0 0, .slice none 0 0, .int .i64 0], []⟩).memory :=
  laidMet_of_run' 8 (by kernel_rfl) (by kernel_rfl)
theorem spec_spans {H : Type} : ∀ ds : List (DataW H), ds.length = 0 + 4 → Rows.mcodeSpansSpec.fn H (ds ++ []) = { results := [.lit (.bool true)], args := ds } := by
  intro ds hds
  match ds, hds with
  | [d1, d2, d3, d4], _ => rfl
theorem reads_types_spans : ∀ t ∈ [23, 24, 25, 3], Program.readableRec Tryz.prog t = true ∧ t < Tryz.prog.types.size := by
  intro t ht
  have key : ([23, 24, 25, 3]).all (fun t => Program.readableRec Tryz.prog t && decide (t < Tryz.prog.types.size)) = true := by kernel_rfl
  have := List.all_eq_true.1 key t ht
  rw [Bool.and_eq_true] at this
  exact ⟨this.1, of_decide_eq_true this.2⟩
theorem called_spans {H : Type} {enc : TypeId × Value → H} (W : World) (base : Nat) (args : Array Value) (ds : List (DataW H)) (p : List MemPlace) (hv : ∀ (j : Nat) t v, [23, 24, 25, 3][j]? = some t → args.toList[j]? = some v → Value.okWide Tryz.prog W .any base t v) (hA : DataW.TrodAll enc Tryz.prog W 0 (fun _ => true) true [23, 24, 25, 3] args.toList ds p)
    (hw : ∀ (j : Nat) t d, [23, 24, 25, 3][j]? = some t → ds[j]? = some d → okW Tryz.prog t d) : Gv Tryz.prog 8 args (.bool true) W := by
  obtain ⟨v0, v1, v2, v3, d0, d1, d2, d3, p0, p1, p2, p3, rfl, rfl, rfl, h0, h1, h2, h3⟩ := trodAll_four hA
  obtain ⟨f0, h0⟩ := h0
  obtain ⟨n, rfl, hn⟩ := open_code h0
  obtain ⟨f1, h1⟩ := h1
  obtain ⟨a1, l1, c1, rfl⟩ := okWide_slice tB (hv 1 _ v1 rfl rfl)
  obtain ⟨s1, x1, e1, r1⟩ := open_bytes h1 (hw 1 _ d1 rfl rfl)
  rw [e1]
  obtain ⟨f2, h2⟩ := h2
  obtain ⟨a2, l2, c2, rfl⟩ := okWide_slice tI (hv 2 _ v2 rfl rfl)
  obtain ⟨s2, x2, e2, r2⟩ := open_i64s h2 (hw 2 _ d2 rfl rfl)
  rw [e2]
  obtain ⟨f3, h3⟩ := h3
  obtain ⟨z3, rfl⟩ := okWide_int uIntO (hv 3 _ v3 rfl rfl)
  obtain ⟨_, hz3, _, hw3⟩ := DataW.trod_int uIntO h3
  cases hz3
  exact spans_open n hn W s1 x1 r1 s2 x2 r2 z3 (wf_i64 hw3)
set_option maxRecDepth 100000 in
theorem lifted_spans (os : Os) (started : os.Started) (H : Type) (enc : TypeId × Value → H) (F : Stop.Interp) :
    ReturnsInHanded {} Tryz.checked os 8 .any ((OpenSpec.ofChange Rows.mcodeSpansSpec).preRow enc Tryz.prog Tryz.f8 Rows.mcodeSpansRow.domain false Rows.mcodeSpansRow.laid) (((OpenSpec.ofChange Rows.mcodeSpansSpec).at F).post enc Tryz.prog Tryz.f8 false true false false) := by
  obtain ⟨places, hx⟩ := reads_spans os enc
  refine returnsInHanded_of_row (C := Tryz.checked) (s := OpenSpec.ofChange Rows.mcodeSpansSpec) ownKn started (by kernel_rfl) Tryz.func8
    (witness_row_at (enc := enc) (C := Tryz.checked) false (World.holding Tryz.prog os ⟨#[], #[], []⟩) #[zeroCode, .slice none 0 0, .slice none 0 0, .int .i64 0] rfl (by kernel_rfl) (by kernel_rfl) (by kernel_rfl)
      (OpenSpec.preRow_of_cond 8 hx (by kernel_rfl) (fun k hk => by cases hk) (by kernel_rfl) (laid_met_spans os))) ?_
  intro W base args ds gs before hval hW _ _ hwt hL _ _
  exact contract_all (s := Rows.mcodeSpansSpec) (fn := Tryz.f8) (ts := [23, 24, 25, 3]) (tb := 4) (laid := Rows.mcodeSpansRow.laid) (by kernel_rfl) (by kernel_rfl) uBool laidOut reads_types_spans rfl spec_spans (fun W base args ds p hv hA hw _ => called_spans W base args ds p hv hA hw) W base args ds gs before hval hW hwt hL
theorem said_spans : Rows.McodeSpansSaid :=
  OpenClaim.holds_of_cond 8 Tryz.f8 rfl rfl rfl rfl rfl rfl rfl ⟨rfl, rfl, rfl, rfl, rfl⟩ rfl rfl rfl rfl rfl (by kernel_rfl) Tryz.func8 (by kernel_rfl)
    (of_decide_eq_true (by kernel_rfl)) (by unfold Func.isWrapper; first | (rw [if_pos (by decide +kernel)]; kernel_rfl) | (rw [if_neg (by decide +kernel)]; exact ⟨rfl, rfl⟩))
    (fun os started H enc _ F => by rw [OpenClaim.pre_eq_preRow]; exact lifted_spans os started H enc F)
end Go.Proofs.YtbiilejgfihohaaGreat
