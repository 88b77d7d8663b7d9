/- 'walked': the keys that All gives. -/
import Derived.Test.YtdnlnloogfnlgaaTrGa
set_option linter.all false
namespace Go.Proofs.Ytdnlnloogfnlgaa
open Go Go.Cu Go.RowKit
set_option linter.unusedVariables false
set_option maxHeartbeats 4000000
theorem Mo.putObj (w : World) (r : Nat) (o : Obj) : Mo (fun b => b = r) w (w.putObj r o) := ⟨rfl, rfl, rfl, by simp, fun b hb hne => World.putObj_heap_other hne⟩
theorem Ex.putObj {w w' : World} (h : Ex w w') (r : Nat) (o : Obj) (hr : r < w.heap.size) : Ex (w.putObj r o) (w'.putObj r o) :=
  ⟨h.os, h.tape, h.output, by simpa using h.size, fun b hb _ => by
    have hb2 : b < w.heap.size := by simpa using hb
    by_cases e : b = r
    · subst e
      rw [World.putObj_heap_same (Nat.lt_of_lt_of_le hb2 h.size), World.putObj_heap_same hb2]
    · rw [World.putObj_heap_other e, World.putObj_heap_other e]
      exact h.keep b hb2 id⟩
noncomputable def wk.body : Code := (Try.f31.body).getD .skip
noncomputable def wk.c1 : Code := cR wk.body
noncomputable def wk.c2 : Code := cR wk.c1
noncomputable def wk.c3 : Code := cR wk.c2
noncomputable def wk.c4 : Code := cR wk.c3
noncomputable def wk.tail : Code := cR wk.c4
noncomputable def wk.rf : Code := cB (cR (cL wk.c4))
theorem wk.e0 : wk.body = .seq (cL wk.body) wk.c1 := by kernel_rfl
theorem wk.e1 : wk.c1 = .seq (cL wk.c1) wk.c2 := by kernel_rfl
theorem wk.e2 : wk.c2 = .seq (cL wk.c2) wk.c3 := by kernel_rfl
theorem wk.e3 : wk.c3 = .seq (cL wk.c3) wk.c4 := by kernel_rfl
theorem wk.e4 : wk.c4 = .seq (.seq (cL (cL wk.c4)) (.block 0 wk.rf)) wk.tail := by kernel_rfl
theorem wk.er : wk.rf = .rangeFunc (.tmp 12) #[13] (cA wk.rf) (.block 1 (cB (cF wk.rf))) := by kernel_rfl
theorem wk.et : wk.tail = .seq (cL wk.tail) .ret := by kernel_rfl
/-- the function that All gives -/
abbrev seqV (bx : Nat) : Value := .func (.func 65) #[] #[.pointer (some ⟨bx, 0, none⟩)]
theorem Pu_eqnilF {x y : Operand} {bx : Nat} {k : Bool → World → Prop} {w : World} (hk : k false w) :
    Pu Try.prog (do eqGuard .eql 71 x y (seqV bx) .nilFunc; binOp .eql 71 (seqV bx) .nilFunc) (.one (.at .bool)) k w := by
  refine ⟨false, fun w' => ?_, hk⟩
  have hg : (eqGuard .eql 71 x y (seqV bx) .nilFunc).run Try.prog w' = .ok () w' := by rfl
  rw [run_bind, hg]
  exact now_run (P := Try.prog) (by kernel_rfl) w'
/-- the state of the walk -/
def WkI (wA : World) (ob : Nat) (rec : Loop) (keys : List Path) (i : Nat) (W : World) : Prop :=
  Mo (fun b => b = ob) wA W ∧ wA.heap.size + 2 ≤ W.heap.size ∧ W.heap[wA.heap.size]? = some (.deferred (some [])) ∧ W.heap[wA.heap.size + 1]? = some (.loop rec) ∧
    ∃ so, Has W ob [slv so] 45 ∧ NestOwn i64v 3 29 (wA.heap.size + 2) W so (keys.take i)
theorem WkI.ex {wA : World} {ob : Nat} {rec : Loop} {keys : List Path} {i : Nat} {W W' : World} (h : WkI wA ob rec keys i W) (k : Ex W W') : WkI wA ob rec keys i W' := by
  obtain ⟨h1, h2, h3, h4, so, h5, h6⟩ := h
  exact ⟨h1.ex k, Nat.le_trans h2 k.size, (k.keep _ (by omega) id).trans h3, (k.keep _ (by omega) id).trans h4, so, h5.ex k, h6.ex k⟩
/-- one round's body -/
theorem walked_round {wA : World} {ob : Nat} {rec : Loop} {keys : List Path} {i : Nat} {s : Sl} {w1 w2 : World} (hob : ob < wA.heap.size) (hrec : rec = { rec with state := .ready, pending := none, params := #[13], assign := cA wk.rf, body := .block 1 (cB (cF wk.rf)) }) (hi : i < keys.length) (hlen : keys.length ≤ 1024) (hI : WkI wA ob rec keys i w1) (hx : Ex w1 w2)
    (ho : Own i64v 3 w1.heap.size w2 s keys[i]) (hs : SlotsD [] 19 { tmps := rec.tmps, defers := [] } [(4, .pointer (some ⟨ob, 0, none⟩))]) :
    Rounds (wA.heap.size + 1) (slv s) w2 fun e w' => (e = .returned (.bool true) ∧ WkI wA ob rec keys (i + 1) w') ∨ (e = .returned (.bool false) ∧ False) := by
  have hl2 := (hI.ex hx).2.2.2.1
  have hpar : rec.params = #[13] := by rw [hrec]
  have hst : rec.state = .ready := by rw [hrec]
  have hy := run_yield (P := Try.prog) (args := #[slv s]) hl2 (by rw [hpar]; rfl)
  refine ⟨_, _, _, _, hy, ?_⟩
  rw [show rec.assign = cA wk.rf by rw [hrec], show rec.body = .block 1 (cB (cF wk.rf)) by rw [hrec], hpar]
  refine roundIn_of_wpIn (F := Fence.wide) trivial ?_
  have hs1 : SlotsD [] 19 { tmps := (#[13].zip #[slv s]).foldl (fun tmps (t, a) => tmps.setIfInBounds t a) rec.tmps, defers := [] } [(13, slv s), (4, .pointer (some ⟨ob, 0, none⟩))] :=
    by
    have hz : (#[13].zip #[slv s]).foldl (fun tmps (t, a) => tmps.setIfInBounds t a) rec.tmps = rec.tmps.setIfInBounds 13 (slv s) := by first | rfl | simp
    rw [hz]
    exact hs.put (some 13) (slv s) (fun t ht => (Option.some.inj ht) ▸ (by decide))
  refine wpIn_last (r := some (wA.heap.size + 1)) (ds := []) (L := [(13, slv s), (4, .pointer (some ⟨ob, 0, none⟩))]) [(4, .at .addr), (5, .at .sl)] (fun st w => st = (⟨ob, 0, none⟩, s, ()) ∧ w = w2) (.reg (.op 0 .now .done)) noQ trivial
    (Eq.mp (show ((fun (st : St [(4, .at .addr), (5, .at .sl)]) (w : World) => st = ((⟨ob, 0, none⟩ : Addr), s, ()) ∧ w = w2) ((⟨ob, 0, none⟩ : Addr), s, ()) w2) = _ by kernel_rfl) ⟨rfl, rfl⟩) hs1 noQ_elim ?_
  rintro st a w ⟨rfl, rfl⟩ hsa
  refine ⟨_, run_beginRound hl2 hst, ?_⟩
  refine wpIn_block ?_
  obtain ⟨g1, g2, g3, g4, so, g5, g6⟩ := hI
  have hb1 : Mo (fun b => b = wA.heap.size + 1) w1 (w1.putObj (wA.heap.size + 1) (.loop { rec with state := .busy })) := Mo.putObj _ _ _
  have hx2 : Ex (w1.putObj (wA.heap.size + 1) (.loop { rec with state := .busy })) (w.putObj (wA.heap.size + 1) (.loop { rec with state := .busy })) := Ex.putObj hx _ _ (by omega)
  have g6' := g6.mo hb1 (fun b h1 h2 e => by omega)
  have hB2 := (g5.mo hb1 (by omega)).ex hx2
  have hrow := ho.mo (Mo.putObj w (wA.heap.size + 1) (.loop { rec with state := .busy })) (fun b hb e => by have := (ho.base b hb).1; omega)
  have hlb : (w1.putObj (wA.heap.size + 1) (.loop { rec with state := .busy })).heap[wA.heap.size + 1]? = some (.loop { rec with state := .busy }) := World.putObj_heap_same (by omega)
  have hlb2 := (hx2.keep _ (by rw [World.putObj_size]; omega) id).trans hlb
  have hdb2 : (w.putObj (wA.heap.size + 1) (.loop { rec with state := .busy })).heap[wA.heap.size]? = some (.deferred (some [])) := (World.putObj_heap_other (by omega)).trans ((hx.keep _ (by omega) id).trans g3)
  have hmo2 : Mo (fun b => b = ob) wA (w.putObj (wA.heap.size + 1) (.loop { rec with state := .busy })) := (g1.ex hx).trans (Mo.putObj w _ _) (fun _ => id) (fun i hi e => by omega)
  have hsz2 : w1.heap.size ≤ (w.putObj (wA.heap.size + 1) (.loop { rec with state := .busy })).heap.size := by rw [World.putObj_size]; exact hx.size
  have hbs : w1.heap.size = (w1.putObj (wA.heap.size + 1) (.loop { rec with state := .busy })).heap.size := by rw [World.putObj_size]
  generalize hW2 : w.putObj (wA.heap.size + 1) (.loop { rec with state := .busy }) = W2 at hx2 hB2 hrow hlb2 hdb2 hmo2 hsz2
  generalize hW1 : w1.putObj (wA.heap.size + 1) (.loop { rec with state := .busy }) = W1 at hx2 g6' hbs
  refine wpIn_last (r := some (wA.heap.size + 1)) (ds := []) [] (fun _ W => ∃ W4, WkI wA ob { rec with state := .busy } keys (i + 1) W4 ∧ W = W4) (.reg (.op 0 (.rd (.one (.at .sl))) (.op 1 .now (.op 2 (.wr (.one (.at .sl))) (.op 3 (.wr (.one (.at .sl))) (.op 4 .wu .done)))))) noQ trivial
    (Eq.mp (show (Rd Try.prog (Instr.loadAt 45 (.pointer (some ⟨ob, 0, none⟩))) (.one (.at .sl)) (fun (x1 : Sl) v1 =>
      Wr Try.prog (Instr.buildSlice 45 1 #[(0, (.slice s.base s.len s.cap))]) (.one (.at .sl)) (fun (x2 : Sl) v2 =>
      Wr Try.prog (Builtin.append_ #[45, 45] 45 #[(.slice x1.base x1.len x1.cap), (.slice x2.base x2.len x2.cap)]) (.one (.at .sl)) (fun (x3 : Sl) v3 =>
      Wu Try.prog (Instr.storeAt 45 (.pointer (some ⟨ob, 0, none⟩)) (.slice x3.base x3.len x3.cap)) (fun v4 => (fun (_ : St []) (W : World) => ∃ W4, WkI wA ob { rec with state := .busy } keys (i + 1) W4 ∧ W = W4) () v4) v3) v2) v1) W2) = _ by kernel_rfl) ?_) hsa noQ_elim ?_
  · refine Rd_has (c := .sl) (x := so) hB2 (by kernel_rfl) rfl ?_
    refine Wr_lit (f := slv) (e := 29) (base := W2.heap.size) [s] (by kernel_rfl) (Nat.le_refl _) (by simp) fun s3 w3 ho3 hx3 _ => ?_
    obtain ⟨ss, q1, q2, q3, q4, q5⟩ := g6'
    have hssl : ss.length ≤ 1024 := by rw [q2, List.length_take]; omega
    refine Wr_append tII iII rfl (q1.ex (hx2.trans hx3)) ho3.rds (fun y => rfl) (by simp; omega) (by simp; omega) (by have := hx3.size; omega) fun s4 w4 ho4 hm4 hin4 => ?_
    have hn4 := NestOwn.snoc q1 q2 q3 q4 q5 (hx2.trans hx3) ((hrow.ex hx3).weak (by omega)) (fun b hb => by have := (hrow.base b hb).1; omega) ho4 hm4 hin4
    have htk : keys.take i ++ [keys[i]] = keys.take (i + 1) := by rw [List.take_add_one, List.getElem?_eq_getElem hi]; rfl
    rw [htk] at hn4
    have hnob : ¬ SlIn so ob := fun hb => by have := (q1.base ob hb).1; omega
    have hB4 := (hB2.ex hx3).mo hm4 hnob
    refine Wu_store (v := slv s4) hB4 (by kernel_rfl) (by simp [Value.cells, Value.oneCell']) (Nat.le_of_ble_eq_true (by kernel_rfl)) fun w5 hB5 hm5 => ?_
    have h3 := hx3.size
    have h4 := hm4.size
    have h5 := hm5.size
    have kp : ∀ b, b < W2.heap.size → b ≠ ob → b < wA.heap.size + 2 → w5.heap[b]? = W2.heap[b]? := fun b hb hne hlt =>
      (hm5.keep b (by omega) hne).trans ((hm4.keep b (by omega) (fun hb' => by have := (q1.base b hb').1; omega)).trans (hx3.keep b hb id))
    refine ⟨w5, ⟨?_, by omega, (kp _ (by omega) (by omega) (by omega)).trans hdb2, (kp _ (by omega) (by omega) (by omega)).trans hlb2, s4, hB5, hn4.mo hm5 (fun b h1 h2 e => by omega)⟩, rfl⟩
    exact ((hmo2.ex hx3).trans hm4 (fun _ => id) (fun b hb hb' => by have := (q1.base b hb').1; omega)).trans hm5 (fun _ => id) (fun _ _ => id)
  · rintro _ a' W' ⟨W4, h4, rfl⟩ _
    obtain ⟨k1, k2, k3, k4, so4, k5, k6⟩ := h4
    refine ⟨_, _, run_endRound none k4, .inl ⟨rfl, ?_⟩⟩
    have hend : ({ { rec with state := .busy } with state := if (none : Option Code).isNone then .ready else .done, pending := none } : Loop) = rec := by rw [hrec]; rfl
    rw [hend]
    have hp := Mo.putObj W' (wA.heap.size + 1) (.loop rec)
    exact ⟨k1.trans hp (fun _ => id) (fun b hb e => by omega), by rw [World.putObj_size]; exact k2, (World.putObj_heap_other (by omega)).trans k3, World.putObj_heap_same (by omega), so4, k5.mo hp (by omega), k6.mo hp (fun b h1 h2 e => by omega)⟩
end Go.Proofs.Ytdnlnloogfnlgaa
