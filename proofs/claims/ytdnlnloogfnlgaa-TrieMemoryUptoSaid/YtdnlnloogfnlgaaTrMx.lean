/- Proved here: culletlaw12.TrieMemory returns true for every input of bulk at most 1048576: what was handed in may be written over, what is handed out is new memory; what it is handed reads behind the call as it read before. -/
import Derived.Test.YtdnlnloogfnlgaaTrMh
import Derived.Test.YtdnlnloogfnlgaaTrW
set_option linter.all false
namespace Go.Proofs.Ytdnlnloogfnlgaa
open Go Go.Cu Go.ChangeShapes Go.WideShapes Go.ChangeAt Go.RowKit
set_option linter.unusedVariables false
set_option maxRecDepth 100000
theorem bulk_one {H : Type} (d : DataW H) : 1 ≤ Rows.uptoBulk d := by
  cases d with
  | lit l => cases l <;> simp [Rows.uptoBulk]
  | nil => simp [Rows.uptoBulk]
  | ptr d => simp [Rows.uptoBulk]
  | slice elems spare => simp [Rows.uptoBulk]
  | agg parts => simp [Rows.uptoBulk]
  | iface t d => simp [Rows.uptoBulk]
  | map entries => simp [Rows.uptoBulk]
  | held h => simp [Rows.uptoBulk]
theorem bulk_len {H : Type} : ∀ l : List (DataW H), l.length ≤ Rows.uptoBulkAll l
  | [] => by simp [Rows.uptoBulkAll]
  | x :: r => by have h1 := bulk_one x; have h2 := bulk_len r; simp only [Rows.uptoBulkAll, List.length_cons]; omega
theorem nest_bulk {H : Type} {enc : TypeId × Value → H} {W : World} {fuel : Nat} {s : Sl} {x : DataW H × List MemPlace} (h : DataW.trod enc Try.prog W 0 (fun _ => true) true fuel 30 [slv s] = some x) : s.len ≤ Rows.uptoBulk x.1 := by
  rcases Deep.open_slice1 tBB cBB h with ⟨h1, rfl⟩ | ⟨a, len, cap, m, n, V, D, Pl, h1, _, hl, hm, hmm, rfl, hx⟩
  · injection h1 with h1 _
    injection h1 with _ h2 _
    rw [h2]
    exact Nat.zero_le _
  · injection h1 with h1 _
    injection h1 with _ h2 _
    rw [h2]
    have h3 := bulk_len ((List.range len).map D)
    rw [List.length_map, List.length_range] at h3
    simp only [Rows.uptoBulk]
    omega
theorem contract_small {H : Type} {enc : TypeId × Value → H} {f : FuncId} {fn : Func} {s : ChangeSpec} {ts : List TypeId} {tb : TypeId} {laid : List (String × DataW Unit)} {ds0 gs0 : List (DataW H)} (hcond : Rows.uptoSmall H (ds0 ++ gs0) = true) (hpar : fn.params.toList = ts) (hres : fn.resultTypes.toList = [tb]) (hb : Try.prog.underlying tb = some .bool)
    (hl : laidOutB Try.prog = true) (hr : ∀ t ∈ ts, Program.readableRec Try.prog t = true ∧ t < Try.prog.types.size) (hvars : s.vars = []) (hfn : ∀ ds : List (DataW H), ds.length = ts.length → s.fn H (ds ++ []) = { results := [.lit (.bool true)], args := ds })
    (hcall : ∀ (W : World) (base : Nat) (args : Array Value) (ds : List (DataW H)) (p : List MemPlace), (∀ (j : Nat) t v, ts[j]? = some t → args.toList[j]? = some v → Value.okWide Try.prog W .any base t v) → DataW.TrodAll enc Try.prog W 0 (fun _ => true) true ts args.toList ds p →
      (∀ (j : Nat) t d, ts[j]? = some t → ds[j]? = some d → okW Try.prog t d) → Rows.uptoBulkAll ds ≤ 1048576 → laidMetH Try.prog laid W → Gv Try.prog f args (.bool true) W)
    (W : World) (base : Nat) (args : Array Value) (before : List MemPlace) (hval : ∀ (j : Nat) t v, fn.params[j]? = some t → args[j]? = some v → Value.okWide Try.prog W .any base t v)
    (hW : DataW.Whole enc Try.prog fn.params.toList s.vars false W args.toList ds0 gs0 before)
    (hwt : (DataW.weightsEach Try.prog (fn.params.toList ++ (OpenSpec.ofChange s).bare.plain.varTypes Try.prog) (ds0 ++ gs0)).all (· ≤ reachBytes) = true) (hL : laidMetH Try.prog laid W) :
    Calls Try.prog f args W fun e W' => ∃ v, e = .returned v ∧ s.post enc Try.prog fn false true false false W args v W' := by
  have hW' := hW
  obtain ⟨p, q, hA, hV, hpq, _, _⟩ := hW
  rw [hpar] at hA
  rw [hvars] at hV
  obtain ⟨rfl, rfl⟩ := trodVars_none hV
  have hsm : Rows.uptoBulkAll ds0 ≤ 1048576 := by
    rw [List.append_nil] at hcond
    simpa [Rows.uptoSmall] using hcond
  refine (hcall W base args ds0 p (fun j t v ht hv => hval j t v (by rw [← Array.getElem?_toList, hpar]; exact ht) (by rw [← Array.getElem?_toList]; exact hv)) hA (fun j t d ht hd => ?_) hsm hL).mono fun e W1 ⟨he, hx⟩ => ⟨_, he, ?_⟩
  · refine okW_each (j := j) hwt ?_ ?_
    · rw [hpar]
      rw [List.getElem?_append_left (List.getElem?_eq_some_iff.1 ht).1]; exact ht
    · rw [List.append_nil]; exact hd
  · have hlen := trodAll_len hA
    have hsz : fn.resultTypes.size = 1 := by rw [← Array.length_toList, hres]; rfl
    refine ⟨ds0, [], before, [], p, [], hW', ?_, ?_, ?_, hx.below.frame _, fun h => by cases h⟩
    · rw [hres, hsz, hfn ds0 hlen]; exact trodAll_mk1 (shut_bool hb true)
    · rw [hpar, hfn ds0 hlen]; exact trodAll_ex hl hx hr hA
    · rw [hvars, hfn ds0 hlen]; rfl
theorem reads_memory (os : Os) {H : Type} (enc : TypeId × Value → H) : ∃ places, DataW.whole enc Try.prog ((World.holding Try.prog os ⟨#[], #[], []⟩).forCall (fun _ _ => 0) ⟨#[], #[.slice none 0 0, .slice none 0 0], []⟩).memory Try.f5.params.toList Rows.trieMemorySpec.vars false (#[.slice none 0 0, .slice none 0 0] : Array Value).toList 8 = some ([.nil, .nil], [], places) :=
  ⟨[], by kernel_rfl⟩
theorem laid_met_memory (os : Os) : laidMet Try.prog Rows.trieMemoryUptoRow.laid ((World.holding Try.prog os ⟨#[], #[], []⟩).forCall (fun _ _ => 0) ⟨#[], #[.slice none 0 0, .slice none 0 0], []⟩).memory :=
  laidMet_of_run' 8 (by kernel_rfl) (by kernel_rfl)
theorem spec_memory {H : Type} : ∀ ds : List (DataW H), ds.length = 2 + 0 → Rows.trieMemorySpec.fn H (ds ++ []) = { results := [.lit (.bool true)], args := ds } := by
  intro ds hds
  match ds, hds with
  | [d1, d2], _ => rfl
theorem reads_types_memory : ∀ t ∈ [29, 30], Program.readableRec Try.prog t = true ∧ t < Try.prog.types.size := by
  intro t ht
  have key : ([29, 30]).all (fun t => Program.readableRec Try.prog t && decide (t < Try.prog.types.size)) = true := by kernel_rfl
  have := List.all_eq_true.1 key t ht
  rw [Bool.and_eq_true] at this
  exact ⟨this.1, of_decide_eq_true this.2⟩
theorem called_memory {H : Type} {enc : TypeId × Value → H} (W : World) (base : Nat) (args : Array Value) (ds : List (DataW H)) (p : List MemPlace) (hv : ∀ (j : Nat) t v, [29, 30][j]? = some t → args.toList[j]? = some v → Value.okWide Try.prog W .any base t v) (hA : DataW.TrodAll enc Try.prog W 0 (fun _ => true) true [29, 30] args.toList ds p)
    (hw : ∀ (j : Nat) t d, [29, 30][j]? = some t → ds[j]? = some d → okW Try.prog t d) (hsm : Rows.uptoBulkAll ds ≤ 1048576) : Gv Try.prog 5 args (.bool true) W := by
  obtain ⟨v0, v1, d0, d1, p0, p1, rfl, rfl, rfl, h0, h1⟩ := trodAll_two hA
  obtain ⟨a0, l0, c0, rfl⟩ := okWide_slice tI (hv 0 _ v0 rfl rfl)
  obtain ⟨a1, l1, c1, rfl⟩ := okWide_slice tBB (hv 1 _ v1 rfl rfl)
  obtain ⟨f0, h0⟩ := h0
  obtain ⟨f1, h1⟩ := h1
  obtain ⟨s, l, he, hs, hl⟩ := open_key h0 (hw 0 _ d0 rfl rfl)
  obtain ⟨s2, ls, he2, hs2, hl2⟩ := open_value h1 (hw 1 _ d1 rfl rfl)
  have hlen : s2.len ≤ Rows.uptoBulk d1 := by
    rw [he2] at h1
    exact nest_bulk h1
  have hall : Rows.uptoBulkAll [d0, d1] = Rows.uptoBulk d0 + (Rows.uptoBulk d1 + 0) := by simp [Rows.uptoBulkAll]
  rw [he, he2]
  exact memory_law s s2 l ls W hs hl hs2 hl2 (by have := nest_len hs2; omega)
set_option maxRecDepth 100000 in
theorem lifted_memory (os : Os) (started : os.Started) (H : Type) (enc : TypeId × Value → H) (F : Stop.Interp) :
    ReturnsInHanded {} Try.checked os 5 .any ((Rows.OpenSpec.upto Rows.trieMemorySpec).preRow enc Try.prog Try.f5 Rows.trieMemoryUptoRow.domain false Rows.trieMemoryUptoRow.laid) (((Rows.OpenSpec.upto Rows.trieMemorySpec).at F).post enc Try.prog Try.f5 false true false false) := by
  obtain ⟨places, hx⟩ := reads_memory os enc
  refine returnsInHanded_of_row (C := Try.checked) (s := Rows.OpenSpec.upto Rows.trieMemorySpec) ownKn started (by kernel_rfl) Try.func5
    (witness_row_at (enc := enc) (C := Try.checked) false (World.holding Try.prog os ⟨#[], #[], []⟩) #[.slice none 0 0, .slice none 0 0] rfl (by kernel_rfl) (by kernel_rfl) (by kernel_rfl)
      (OpenSpec.preRow_of_cond 8 hx (by kernel_rfl) (fun k hk => by cases hk; kernel_rfl) (by kernel_rfl) (laid_met_memory os))) ?_
  intro W base args ds gs before hval hW _ hcond hwt hL _ _
  exact contract_small (hcond _ rfl) (s := Rows.trieMemorySpec) (fn := Try.f5) (ts := [29, 30]) (tb := 4) (laid := Rows.trieMemoryUptoRow.laid) (by kernel_rfl) (by kernel_rfl) uBool laidOut reads_types_memory rfl spec_memory (fun W base args ds p hv hA hw hsm _ => called_memory W base args ds p hv hA hw hsm) W base args before hval hW hwt hL
theorem said_memory : Rows.TrieMemoryUptoSaid :=
  OpenClaim.holds_of_cond 5 Try.f5 rfl rfl rfl rfl rfl rfl rfl ⟨rfl, rfl, rfl, rfl, rfl⟩ rfl rfl rfl rfl rfl (by kernel_rfl) Try.func5 (by kernel_rfl)
    (of_decide_eq_true (by kernel_rfl)) (by unfold Func.isWrapper; first | (rw [if_pos (by decide +kernel)]; kernel_rfl) | (rw [if_neg (by decide +kernel)]; exact ⟨rfl, rfl⟩))
    (fun os started H enc _ F => by rw [OpenClaim.pre_eq_preRow]; exact lifted_memory os started H enc F)
end Go.Proofs.Ytdnlnloogfnlgaa
