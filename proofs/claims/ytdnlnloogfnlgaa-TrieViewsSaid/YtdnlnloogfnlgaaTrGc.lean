/- 'walked': the whole. -/
import Derived.Test.YtdnlnloogfnlgaaTrGb
set_option linter.all false
namespace Go.Proofs.Ytdnlnloogfnlgaa
open Go Go.Cu Go.RowKit
set_option linter.unusedVariables false
set_option maxHeartbeats 4000000
theorem wk_enter (args : Array Value) (w : World) : (callFunc 65 args).run Try.prog w = .ok (.enter 65 args) w := now_run (by kernel_rfl) w
theorem walked_ok {p : Option Addr} {w : World} {K : List Path → Prop} (h : UnderGives p w K) :
    Calls Try.prog 31 #[.pointer p] w fun en w' => ∃ s' ks, en = .returned (slv s') ∧ NestOwn i64v 3 29 w.heap.size w' s' ks ∧ K ks ∧ ks.length ≤ 1024 ∧ (∀ k ∈ ks, k.length ≤ 300) ∧ Ex w w' := by
  refine (callsIn_wide (n := 0)).1 (callsIn_of_wp_marks (F := Fence.wide) (c := wk.body) Try.func31 (by kernel_rfl) trivial ?_)
  have hn : Try.f31.ntmps = 19 := by kernel_rfl
  rw [hn]
  have hs0 : SlotsD [] 19 { tmps := #[.pointer p] ++ Array.replicate (19 - #[Value.pointer p].size) undef, defers := [] } [(0, .pointer p)] := (Slots.start (n := 19) #[.pointer p] (by simp)).toD
  rw [wk.e0]
  obtain ⟨J0, hJ0⟩ : ∃ J0 : St [(0, .at .ptr)] → World → Prop, J0 = fun st v => st = (p, ()) ∧ v = w := ⟨_, rfl⟩
  refine wpIn_piece (r := none) (ds := []) (L := [(0, .pointer p)]) [(0, .at .ptr)] J0 (.reg (.op 0 .now .done)) noQ trivial (Eq.mp (show (J0 (p, ()) w) = _ by kernel_rfl) (by rw [hJ0]; exact ⟨rfl, rfl⟩)) hs0 noQ_elim ?_
  rw [hJ0]
  rintro _ a0 w0 ⟨rfl, rfl⟩ hs0'
  rw [wk.e1]
  obtain ⟨J1, hJ1⟩ : ∃ J1 : St [(3, .at .any)] → World → Prop, J1 = fun st v => ∃ bx sl ks, st = (seqV bx, ()) ∧ Has v bx [slv sl] 45 ∧ Nest i64v (fun b => w0.heap.size ≤ b ∧ b < bx) v sl ks ∧ w0.heap.size ≤ bx ∧ K ks ∧ ks.length ≤ 1024 ∧ (∀ k ∈ ks, k.length ≤ 300) ∧ Ex w0 v := ⟨_, rfl⟩
  refine wpIn_piece (r := none) (ds := []) [(3, .at .any)] J1 (.reg (.op 0 .now (.op 1 (.cl (.one (.at .any))) (.op 2 .now .done)))) noQ trivial
    (Eq.mp (show (Cl Try.prog 39 #[.pointer p] (.one (.at .any)) (fun (x : Value) v => J1 (x, ()) v) w0) = _ by kernel_rfl) (Calls.mono (all_ok h) fun en v ⟨bx, sl, ks, he, hf⟩ => ⟨seqV bx, he, by rw [hJ1]; exact ⟨bx, sl, ks, rfl, hf⟩⟩)) hs0' noQ_elim ?_
  rw [hJ1]
  rintro _ a1 w1 ⟨bx, sl, ks, rfl, hB1, hn1, hbx, hK, hlen, hkl, hx1⟩ hs1
  rw [wk.e2]
  obtain ⟨J2, hJ2⟩ : ∃ J2 : St [(3, .at .any)] → World → Prop, J2 = fun st v => st = (seqV bx, ()) ∧ v = w1 := ⟨_, rfl⟩
  refine wpIn_piece (r := none) (ds := []) [(3, .at .any)] J2 (.seq (.reg (.op 0 .now (.op 1 (.pu (.one (.at .bool))) .done))) (.cond (.seq (.reg (.op 0 (.wr (.one (.at .sl))) (.op 1 (.wr (.one (.at .sl))) (.op 2 .now .done)))) .leaf) .leaf)) noQ ⟨trivial, ⟨⟨trivial, trivial⟩, trivial⟩⟩
    (Eq.mp (show (Pu Try.prog (do eqGuard .eql 71 (.tmp 8) (.const .nilFunc) (seqV bx) .nilFunc; binOp .eql 71 (seqV bx) .nilFunc) (.one (.at .bool)) (fun (x : Bool) v =>
      Cd x (Wr Try.prog (Instr.buildSlice 29 1 #[(0, (.int .i64 (-1)))]) (.one (.at .sl)) (fun (y : Sl) v1 => Wr Try.prog (Instr.buildSlice 45 1 #[(0, (.slice y.base y.len y.cap))]) (.one (.at .sl)) (fun (z : Sl) v2 => False) v1) v) (J2 (seqV bx, ()) v)) w1) = _ by kernel_rfl)
      (Pu_eqnilF (Cd_f (by rw [hJ2]; exact ⟨rfl, rfl⟩)))) hs1 noQ_elim ?_
  rw [hJ2]
  rintro _ a2 w2 ⟨rfl, rfl⟩ hs2
  rw [wk.e3]
  obtain ⟨J3, hJ3⟩ : ∃ J3 : St [(3, .at .any), (4, .at .addr)] → World → Prop, J3 = fun st v => st = (seqV bx, ⟨w2.heap.size, 0, none⟩, ()) ∧ Has v w2.heap.size [slv nilS] 45 ∧ Ex w2 v := ⟨_, rfl⟩
  refine wpIn_piece (r := none) (ds := []) [(3, .at .any), (4, .at .addr)] J3 (.reg (.op 0 (.wr (.one (.at .addr))) .done)) noQ trivial
    (Eq.mp (show (Wr Try.prog (Instr.alloc 45 true (.tuple #[])) (.one (.at .addr)) (fun (x : Addr) v => J3 (seqV bx, x, ()) v) w2) = _ by kernel_rfl) (Wr_alloc (z := slv nilS) (by kernel_rfl) fun v hB hx => by rw [hJ3]; exact ⟨rfl, hB, hx⟩)) hs2 noQ_elim ?_
  rw [hJ3]
  rintro _ a3 wA ⟨rfl, hBo, hx3⟩ hs3
  rw [wk.e4]
  refine wpIn_seq ?_
  obtain ⟨J4, hJ4⟩ : ∃ J4 : St [(4, .at .addr), (12, .at .any)] → World → Prop, J4 = fun st v => st = (⟨w2.heap.size, 0, none⟩, seqV bx, ()) ∧ v = wA := ⟨_, rfl⟩
  refine wpIn_piece (r := none) (ds := []) [(4, .at .addr), (12, .at .any)] J4 (.reg (.op 0 .now .done)) noQ trivial
    (Eq.mp (show (J4 (⟨w2.heap.size, 0, none⟩, seqV bx, ()) wA) = _ by kernel_rfl) (by rw [hJ4]; exact ⟨rfl, rfl⟩)) hs3 noQ_elim ?_
  rw [hJ4]
  rintro _ a4 wA' ⟨rfl, rfl⟩ hs4
  refine wpIn_block ?_
  rw [wk.er]
  refine wpIn_rangeFunc ?_
  intro fn _
  obtain ⟨rec, hrec⟩ : ∃ rec : Loop, rec = { state := .ready, pending := none, fn, tmps := a4.tmps, params := #[13], assign := cA wk.rf, body := .block 1 (cB (cF wk.rf)), defers := wA'.heap.size } := ⟨_, rfl⟩
  have hob := hBo.lt
  have hbx1 := hB1.lt
  have hg : a4.eval (.tmp 12) = seqV bx := hs4.ev rfl
  refine ⟨wA'.heap.size + 1, [{ target := .collected wA'.heap.size, args := #[] }], (wA'.alloc (.deferred (some []))).alloc (.loop rec), { target := .fn (.func 65) #[.pointer (some ⟨bx, 0, none⟩)], args := #[.func (.yield (wA'.heap.size + 1)) #[] #[]] },
    (wA'.alloc (.deferred (some []))).alloc (.loop rec), 65, #[.func (.yield (wA'.heap.size + 1)) #[] #[], .pointer (some ⟨bx, 0, none⟩)], (wA'.alloc (.deferred (some []))).alloc (.loop rec), ?_, ?_, fun _ _ => trivial, ?_, fun h => (by cases h), calls_FR ?_⟩
  · rw [hrec]; exact run_enterLoop_outer _ _ _ _ _
  · simp only [resolve, hg]
    simp [Deferred.ofValue, seqV, Act.eval]
  · exact wk_enter _ _
  have hmo1 : Ex wA' ((wA'.alloc (.deferred (some []))).alloc (.loop rec)) := (Ex.alloc _ _).trans (Ex.alloc _ _)
  have hI0 : WkI wA' w2.heap.size rec ks 0 ((wA'.alloc (.deferred (some []))).alloc (.loop rec)) := by
    refine ⟨hmo1.weak (fun _ _ g => g.elim), by simp, ?_, ?_, nilS, hBo.ex hmo1, NestOwn.nil _ _ _ _ _⟩
    · exact (Below.heap_alloc _ _ _ (by simp)).trans (World.alloc_heap_new wA' _)
    · have := World.alloc_heap_new (wA'.alloc (.deferred (some []))) (.loop rec)
      rwa [World.size_alloc] at this
  refine Calls.mono (all1_ok (sl := sl) (l := wA'.heap.size + 1) (F := fun b => w0.heap.size ≤ b ∧ b < bx) (WkI wA' w2.heap.size rec ks) (fun _ => False) hlen hkl (fun i W hi => ⟨?_, ?_⟩) (fun i hi s v1 v2 hii hx ho => ?_) _ hI0) ?_
  · exact (hB1.ex hx3).mo hi.1 (by omega)
  · exact (hn1.ex hx3).mo hi.1 (fun b hb e => by omega)
  · refine walked_round hob ?_ hi hlen hii hx ho ?_
    · rw [hrec]
    · rw [hrec]
      exact ⟨hs4.size, rfl, fun i v hv => hs4.vals i v (by
        simp only [find] at hv
        cases hb : Nat.beq 4 i with
        | true => rw [hb] at hv; simp only at hv; cases hv; have : 4 = i := Nat.eq_of_beq_eq_true hb; subst this; rfl
        | false => rw [hb] at hv; simp only at hv; cases hv)⟩
  · rintro e W2 ⟨rfl, hor⟩
    have hI := hor.elim id False.elim
    obtain ⟨k1, k2, k3, k4, so, k5, k6⟩ := hI
    rw [List.take_length] at k6
    refine ⟨none, W2.putObj (wA'.heap.size + 1) (.loop { rec with state := .exhausted }), ?_, ?_⟩
    · have hpn : rec.pending = none := by rw [hrec]
      exact (run_endLoop (P := Try.prog) k4 (by rw [hrec]; simp)).trans (congrArg (fun x => Result.ok x (W2.putObj (wA'.heap.size + 1) (.loop { rec with state := .exhausted }))) hpn)
    show Code.wpIn (FR none) 0 Try.prog wk.tail _ _ _
    have hp := Mo.putObj W2 (wA'.heap.size + 1) (.loop { rec with state := .exhausted })
    have hD3 : (W2.putObj (wA'.heap.size + 1) (.loop { rec with state := .exhausted })).heap[wA'.heap.size]? = some (.deferred (some [])) := (World.putObj_heap_other (by omega)).trans k3
    have hB3 := k5.mo hp (by omega)
    have hn3 := k6.mo hp (fun b h1 h2 e => by omega)
    have hm3 : Mo (fun b => b = w2.heap.size) wA' (W2.putObj (wA'.heap.size + 1) (.loop { rec with state := .exhausted })) := k1.trans hp (fun _ => id) (fun b hb e => by omega)
    generalize W2.putObj (wA'.heap.size + 1) (.loop { rec with state := .exhausted }) = W3 at hD3 hB3 hn3 hm3 ⊢
    have hs5 : SlotsD [{ target := .collected wA'.heap.size, args := #[] }] 19 { a4 with defers := [{ target := .collected wA'.heap.size, args := #[] }] ++ a4.defers } (Cu.encS [(4, .at .addr), (12, .at .any)] (⟨w2.heap.size, 0, none⟩, seqV bx, ())) :=
      ⟨hs4.size, by show _ ++ a4.defers = _; rw [hs4.defers]; rfl, hs4.vals⟩
    rw [wk.et]
    obtain ⟨J5, hJ5⟩ : ∃ J5 : St [(2, .at .sl)] → World → Prop, J5 = fun st v => st = (so, ()) ∧ v = W3 := ⟨_, rfl⟩
    refine wpIn_piece (r := none) [(2, .at .sl)] J5 (.reg (.op 0 (.rd (.one (.at .sl))) (.op 1 .now .done))) noQ trivial
      (Eq.mp (show (Rd Try.prog (Instr.loadAt 45 (.pointer (some ⟨w2.heap.size, 0, none⟩))) (.one (.at .sl)) (fun (x : Sl) v => J5 (x, ()) v) W3) = _ by kernel_rfl) (Rd_has (c := .sl) (x := so) hB3 (by kernel_rfl) rfl (by rw [hJ5]; exact ⟨rfl, rfl⟩))) hs5 noQ_elim ?_
    rw [hJ5]
    rintro _ a6 W4 ⟨rfl, rfl⟩ hs6
    refine wpIn_ret ?_
    show LeavesInM _ _ _ _ _ _ a6.defers .returning W4
    rw [hs6.defers]
    refine ⟨by simp, .inl ⟨wA'.heap.size, _, rfl, run_takeDeferred hD3, ?_⟩⟩
    obtain ⟨vs, q1, q2⟩ := results_run (P := Try.prog) (fn := Try.f31) (cs := [.at .sl]) (k := fun vs => vs = [slv so]) (w := W4.putObj wA'.heap.size (.deferred none)) hs6.base (by
      rw [show Try.f31.results.toList = [.tmp 2] by kernel_rfl]
      exact rfl)
    subst q2
    refine ⟨_, q1, so, ks, rfl, ?_, hK, hlen, hkl, ?_⟩
    · have hp2 := Mo.putObj W4 wA'.heap.size (.deferred none)
      exact (hn3.mo hp2 (fun b h1 h2 e => by omega)).weak (by have := hx1.size; have := hx3.size; omega)
    · have hp2 := Mo.putObj W4 wA'.heap.size (.deferred none)
      exact ((hx1.trans hx3).into hm3 (fun b e => by have := hx1.size; omega)).into hp2 (fun b e => by have := hx1.size; have := hx3.size; omega)
end Go.Proofs.Ytdnlnloogfnlgaa
