/- All's iterator, round by round. -/
import Derived.Test.YtdnlnloogfnlgaaTrR
import Derived.Test.YtdnlnloogfnlgaaLiftR
set_option linter.all false
namespace Go.Proofs.Ytdnlnloogfnlgaa
open Go Go.Cu Go.RowKit
set_option linter.unusedVariables false
set_option maxHeartbeats 4000000
noncomputable def all1R.body : Code := (Try.f65.body).getD .skip
def all1R.b1 (R : Ending → World → Prop) (k1 : (Value × Sl × Int × Int × Unit) → World → Prop) (yield_0 : Value) (t5 : Sl) (t6 : Int) (t7 : Int) (w : World) : Prop :=
  Cd (decide (t7 < t6)) (Pu Try.prog (Instr.indexAt 45 (.slice t5.base t5.len t5.cap) (.int .i64 t7)) (.one (.at .addr)) (fun (x3 : Addr) w4 =>
  Rd Try.prog (Instr.loadAt 29 (.pointer (some x3))) (.one (.at .sl)) (fun (x5 : Sl) w6 =>
  Wr Try.prog (Builtin.append_ #[29, 29] 29 #[(.slice none 0 0), (.slice x5.base x5.len x5.cap)]) (.one (.at .sl)) (fun (x7 : Sl) w8 =>
  Yd Try.prog (do let d ← Deferred.ofValue yield_0 #[(.slice x7.base x7.len x7.cap)]; invoke d.target d.args) (.one (.at .bool)) (fun (x9 : Bool) w10 =>
  Cd (!x9) (R (.returned (.tuple #[])) w10) (k1 (yield_0, t5, t6, (IntKind.wrap .i64 (t7 + 1)), ()) w10)) w8) w6) w4) w) (R (.returned (.tuple #[])) w)
def all1R.l1 (R : Ending → World → Prop) : (Value × Sl × Int × Int × Unit) → World → Prop := loopW (fun k1 s w => all1R.b1 R k1 s.1 s.2.1 s.2.2.1 s.2.2.2.1 w)
def all1R.M (R : Ending → World → Prop) (yield_0 : Value) (free_t1 : Addr) (w : World) : Prop :=
  Rd Try.prog (Instr.loadAt 45 (.pointer (some free_t1))) (.one (.at .sl)) (fun (x1 : Sl) w2 =>
  all1R.l1 R (yield_0, x1, ((x1.len : Nat) : Int), 0, ()) w2) w
noncomputable def all1R.ann (R : Ending → World → Prop) : Ann :=
  .seq (.reg (.op 0 (.rd (.one (.at .sl))) (.op 1 .now (.op 2 .now (.done))))) (.block (.loop [(0, .at .any), (5, .at .sl), (6, .at (.int .i64)), (7, .at (.int .i64))] (fun k1 s w => all1R.b1 R k1 s.1 s.2.1 s.2.2.1 s.2.2.2.1 w) (fun k1 => .seq (.reg (.op 0 .now (.done))) (.seq (.cond (.leaf) (.leaf)) (.seq (.block (.seq (.reg (.op 0 (.pu (.one (.at .addr))) (.op 1 (.rd (.one (.at .sl))) (.op 2 .now (.done))))) (.seq (.reg (.op 0 .now (.op 1 .now (.op 2 (.wr (.one (.at .sl))) (.op 3 (.nx (.one (.at .bool))) (.op 4 .now (.done))))))) (.cond (.leaf) (.leaf))))) (.reg (.op 0 .now (.op 1 .now (.done)))))))))
theorem all1R.run (R : Ending → World → Prop) (yield_0 : Value) (free_t1 : Addr) (w : World) (h : all1R.M R yield_0 free_t1 w) : Calls Try.prog 65 #[yield_0, (.pointer (some free_t1))] w R := by
  refine callsR_of_lift Try.func65 (c := all1R.body) (by kernel_rfl) [] (all1R.ann R) 17 (by kernel_rfl) [] (by kernel_rfl) (Nat.le_of_ble_eq_true (by kernel_rfl)) ?_ ?_
  · exact ⟨trivial, (fun k1 => ⟨fun s w h => Eq.mp (by kernel_rfl) h, ⟨trivial, ⟨⟨trivial, trivial⟩, ⟨⟨trivial, ⟨trivial, ⟨trivial, trivial⟩⟩⟩, trivial⟩⟩⟩⟩)⟩
  · exact Eq.mp (show all1R.M R yield_0 free_t1 w = _ by kernel_rfl) h
/-- a round of loop l, asked for with x -/
def Rounds (l : Nat) (v : Value) (w : World) (R : Ending → World → Prop) : Prop :=
  ∃ f tmps assign body, (Instr.yield l #[v]).run Try.prog w = .ok (.round l f tmps assign body) w ∧ RoundIn Fence.wide 0 Try.prog l f tmps assign body w R
theorem all1_ok {bx l : Nat} {sl : Sl} {keys : List Path} {F : Nat → Prop} (I : Nat → World → Prop) (J : World → Prop) (hlen : keys.length ≤ 1024) (hkl : ∀ k ∈ keys, k.length ≤ 300)
    (hI : ∀ i w, I i w → Has w bx [slv sl] 45 ∧ Nest i64v F w sl keys)
    (hround : ∀ (i : Nat) (hi : i < keys.length) (s : Sl) (w1 w2 : World), I i w1 → Ex w1 w2 → Own i64v 3 w1.heap.size w2 s keys[i] →
      Rounds l (slv s) w2 fun e w' => (e = .returned (.bool true) ∧ I (i + 1) w') ∨ (e = .returned (.bool false) ∧ J w'))
    (w : World) (h0 : I 0 w) : Calls Try.prog 65 #[.func (.yield l) #[] #[], .pointer (some ⟨bx, 0, none⟩)] w fun e w' => e = .returned (.tuple #[]) ∧ (I keys.length w' ∨ J w') := by
  refine all1R.run _ _ _ w ?_
  unfold all1R.M
  obtain ⟨hB, hn⟩ := hI 0 w h0
  refine Rd_has (c := .sl) (x := sl) hB (by kernel_rfl) rfl ?_
  unfold all1R.l1
  rw [nest_len hn]
  refine loopW_of (fun st w' => st.1 = .func (.yield l) #[] #[] ∧ st.2.1 = sl ∧ st.2.2.1 = (keys.length : Int) ∧ ∃ i : Nat, i ≤ keys.length ∧ st.2.2.2.1 = (i : Int) ∧ I i w') (fun st _ => keys.length - st.2.2.2.1.toNat) ?_
    ⟨rfl, rfl, rfl, 0, Nat.zero_le _, rfl, h0⟩
  rintro k ⟨y', s', n', i', u⟩ w' hI' hk
  dsimp only at hI' hk ⊢
  obtain ⟨rfl, rfl, rfl, i, hi, rfl, hii⟩ := hI'
  unfold all1R.b1
  refine Cd_dec (fun hlt => ?_) (fun hge => ?_)
  · have hik : i < keys.length := by omega
    obtain ⟨hB', ss, r1, r2, _, r4⟩ := hI i w' hii
    refine Pu_idx r1 tII sII (by omega) (by omega) fun a x hx1 hc1 _ => ?_
    refine Rd_one (c := .sl) (x := x) oII hc1 ?_
    rw [Int.toNat_natCast] at hx1
    obtain ⟨hxr, _⟩ := r4 i x _ hx1 (List.getElem?_eq_getElem hik)
    have hkl' := hkl _ (List.getElem_mem hik)
    refine Wr_append (s := ⟨none, 0, 0⟩) (l := []) tI iI rfl (Own.nil i64v 3 w'.heap.size w') hxr (fun y => rfl) (by simp; omega) (by simp; omega) (Nat.le_refl _) fun s2 w2 ho2 hm2 _ => ?_
    rw [List.nil_append] at ho2
    have hx2 : Ex w' w2 := hm2.new (fun i ⟨a, ha, _⟩ => by cases ha)
    obtain ⟨f, tmps, assign, body, hy, hr⟩ := hround i hik s2 w' w2 hii hx2 ho2
    refine ⟨l, f, tmps, assign, body, hy, hr.mono fun e w3 he => ?_⟩
    rcases he with ⟨rfl, hi1⟩ | ⟨rfl, hj⟩
    · refine ⟨true, rfl, Cd_f ?_⟩
      rw [wrap64 (x := (i : Int) + 1) (by omega) (by omega)]
      exact hk _ _ ⟨rfl, rfl, rfl, i + 1, by omega, by simp, hi1⟩ (by simp only; omega)
    · exact ⟨false, rfl, Cd_t ⟨rfl, .inr hj⟩⟩
  · have : i = keys.length := by omega
    subst this
    exact ⟨rfl, .inl hii⟩
/-- what Under gives, whatever the trie -/
def UnderGives (p : Option Addr) (w : World) (K : List Path → Prop) : Prop :=
  Calls Try.prog 29 #[.pointer p, slv nilS] w fun en w' => ∃ s' ks, en = .returned (slv s') ∧ NestOwn i64v 3 29 w.heap.size w' s' ks ∧ K ks ∧ ks.length ≤ 1024 ∧ (∀ k ∈ ks, k.length ≤ 300) ∧ Ex w w'
theorem all_ok {p : Option Addr} {w : World} {K : List Path → Prop} (h : UnderGives p w K) :
    Calls Try.prog 39 #[.pointer p] w fun en w' => ∃ bx sl ks, en = .returned (.func (.func 65) #[] #[.pointer (some ⟨bx, 0, none⟩)]) ∧ Has w' bx [slv sl] 45 ∧ Nest i64v (fun b => w.heap.size ≤ b ∧ b < bx) w' sl ks ∧ w.heap.size ≤ bx ∧ K ks ∧ ks.length ≤ 1024 ∧ (∀ k ∈ ks, k.length ≤ 300) ∧ Ex w w' := by
  refine trie_Trie_All.run _ _ w ?_
  unfold trie_Trie_All.M
  refine Calls.mono h ?_
  rintro en w1 ⟨s1, ks, rfl, hn1, hK, hl, hkl, hx1⟩
  refine ⟨s1, rfl, ?_⟩
  refine Wr_alloc (z := slv nilS) (by kernel_rfl) fun w2 hB2 hx2 => ?_
  refine Wu_store (v := slv s1) hB2 (by kernel_rfl) (by simp [Value.cells, Value.oneCell']) (Nat.le_of_ble_eq_true (by kernel_rfl)) fun w3 hB3 hm3 => ?_
  have hx3 : Ex w1 w3 := hx2.into hm3 (fun i hi => by rw [hi]; exact Nat.le_refl _)
  exact ⟨w1.heap.size, s1, ks, rfl, hB3, (hn1.nest.ex hx3), hx1.size, hK, hl, hkl, hx1.trans hx3⟩
end Go.Proofs.Ytdnlnloogfnlgaa
/- 'walked': the keys that All gives. -/
namespace Go.Proofs.Ytdnlnloogfnlgaa
open Go Go.Cu Go.RowKit
set_option linter.unusedVariables false
set_option maxHeartbeats 4000000
theorem Mo.putObj (w : World) (r : Nat) (o : Obj) : Mo (fun b => b = r) w (w.putObj r o) := ⟨rfl, rfl, rfl, by simp, fun b hb hne => World.putObj_heap_other hne⟩
theorem Ex.putObj {w w' : World} (h : Ex w w') (r : Nat) (o : Obj) (hr : r < w.heap.size) : Ex (w.putObj r o) (w'.putObj r o) :=
  ⟨h.os, h.tape, h.output, by simpa using h.size, fun b hb _ => by
    have hb2 : b < w.heap.size := by simpa using hb
    by_cases e : b = r
    · subst e
      rw [World.putObj_heap_same (Nat.lt_of_lt_of_le hb2 h.size), World.putObj_heap_same hb2]
    · rw [World.putObj_heap_other e, World.putObj_heap_other e]
      exact h.keep b hb2 id⟩
noncomputable def wk.body : Code := (Try.f31.body).getD .skip
noncomputable def wk.c1 : Code := cR wk.body
noncomputable def wk.c2 : Code := cR wk.c1
noncomputable def wk.c3 : Code := cR wk.c2
noncomputable def wk.c4 : Code := cR wk.c3
noncomputable def wk.tail : Code := cR wk.c4
noncomputable def wk.rf : Code := cB (cR (cL wk.c4))
theorem wk.e0 : wk.body = .seq (cL wk.body) wk.c1 := by kernel_rfl
theorem wk.e1 : wk.c1 = .seq (cL wk.c1) wk.c2 := by kernel_rfl
theorem wk.e2 : wk.c2 = .seq (cL wk.c2) wk.c3 := by kernel_rfl
theorem wk.e3 : wk.c3 = .seq (cL wk.c3) wk.c4 := by kernel_rfl
theorem wk.e4 : wk.c4 = .seq (.seq (cL (cL wk.c4)) (.block 0 wk.rf)) wk.tail := by kernel_rfl
theorem wk.er : wk.rf = .rangeFunc (.tmp 12) #[13] (cA wk.rf) (.block 1 (cB (cF wk.rf))) := by kernel_rfl
theorem wk.et : wk.tail = .seq (cL wk.tail) .ret := by kernel_rfl
/-- the function that All gives -/
abbrev seqV (bx : Nat) : Value := .func (.func 65) #[] #[.pointer (some ⟨bx, 0, none⟩)]
theorem Pu_eqnilF {x y : Operand} {bx : Nat} {k : Bool → World → Prop} {w : World} (hk : k false w) :
    Pu Try.prog (do eqGuard .eql 71 x y (seqV bx) .nilFunc; binOp .eql 71 (seqV bx) .nilFunc) (.one (.at .bool)) k w := by
  refine ⟨false, fun w' => ?_, hk⟩
  have hg : (eqGuard .eql 71 x y (seqV bx) .nilFunc).run Try.prog w' = .ok () w' := by rfl
  rw [run_bind, hg]
  exact now_run (P := Try.prog) (by kernel_rfl) w'
/-- the state of the walk -/
def WkI (wA : World) (ob : Nat) (rec : Loop) (keys : List Path) (i : Nat) (W : World) : Prop :=
  Mo (fun b => b = ob) wA W ∧ wA.heap.size + 2 ≤ W.heap.size ∧ W.heap[wA.heap.size]? = some (.deferred (some [])) ∧ W.heap[wA.heap.size + 1]? = some (.loop rec) ∧
    ∃ so, Has W ob [slv so] 45 ∧ NestOwn i64v 3 29 (wA.heap.size + 2) W so (keys.take i)
theorem WkI.ex {wA : World} {ob : Nat} {rec : Loop} {keys : List Path} {i : Nat} {W W' : World} (h : WkI wA ob rec keys i W) (k : Ex W W') : WkI wA ob rec keys i W' := by
  obtain ⟨h1, h2, h3, h4, so, h5, h6⟩ := h
  exact ⟨h1.ex k, Nat.le_trans h2 k.size, (k.keep _ (by omega) id).trans h3, (k.keep _ (by omega) id).trans h4, so, h5.ex k, h6.ex k⟩
/-- one round's body -/
theorem walked_round {wA : World} {ob : Nat} {rec : Loop} {keys : List Path} {i : Nat} {s : Sl} {w1 w2 : World} (hob : ob < wA.heap.size) (hrec : rec = { rec with state := .ready, pending := none, params := #[13], assign := cA wk.rf, body := .block 1 (cB (cF wk.rf)) }) (hi : i < keys.length) (hlen : keys.length ≤ 1024) (hI : WkI wA ob rec keys i w1) (hx : Ex w1 w2)
    (ho : Own i64v 3 w1.heap.size w2 s keys[i]) (hs : SlotsD [] 19 { tmps := rec.tmps, defers := [] } [(4, .pointer (some ⟨ob, 0, none⟩))]) :
    Rounds (wA.heap.size + 1) (slv s) w2 fun e w' => (e = .returned (.bool true) ∧ WkI wA ob rec keys (i + 1) w') ∨ (e = .returned (.bool false) ∧ False) := by
  have hl2 := (hI.ex hx).2.2.2.1
  have hpar : rec.params = #[13] := by rw [hrec]
  have hst : rec.state = .ready := by rw [hrec]
  have hy := run_yield (P := Try.prog) (args := #[slv s]) hl2 (by rw [hpar]; rfl)
  refine ⟨_, _, _, _, hy, ?_⟩
  rw [show rec.assign = cA wk.rf by rw [hrec], show rec.body = .block 1 (cB (cF wk.rf)) by rw [hrec], hpar]
  refine roundIn_of_wpIn (F := Fence.wide) trivial ?_
  have hs1 : SlotsD [] 19 { tmps := (#[13].zip #[slv s]).foldl (fun tmps (t, a) => tmps.setIfInBounds t a) rec.tmps, defers := [] } [(13, slv s), (4, .pointer (some ⟨ob, 0, none⟩))] :=
    by
    have hz : (#[13].zip #[slv s]).foldl (fun tmps (t, a) => tmps.setIfInBounds t a) rec.tmps = rec.tmps.setIfInBounds 13 (slv s) := by first | rfl | simp
    rw [hz]
    exact hs.put (some 13) (slv s) (fun t ht => (Option.some.inj ht) ▸ (by decide))
  refine wpIn_last (r := some (wA.heap.size + 1)) (ds := []) (L := [(13, slv s), (4, .pointer (some ⟨ob, 0, none⟩))]) [(4, .at .addr), (5, .at .sl)] (fun st w => st = (⟨ob, 0, none⟩, s, ()) ∧ w = w2) (.reg (.op 0 .now .done)) noQ trivial
    (Eq.mp (show ((fun (st : St [(4, .at .addr), (5, .at .sl)]) (w : World) => st = ((⟨ob, 0, none⟩ : Addr), s, ()) ∧ w = w2) ((⟨ob, 0, none⟩ : Addr), s, ()) w2) = _ by kernel_rfl) ⟨rfl, rfl⟩) hs1 noQ_elim ?_
  rintro st a w ⟨rfl, rfl⟩ hsa
  refine ⟨_, run_beginRound hl2 hst, ?_⟩
  refine wpIn_block ?_
  obtain ⟨g1, g2, g3, g4, so, g5, g6⟩ := hI
  have hb1 : Mo (fun b => b = wA.heap.size + 1) w1 (w1.putObj (wA.heap.size + 1) (.loop { rec with state := .busy })) := Mo.putObj _ _ _
  have hx2 : Ex (w1.putObj (wA.heap.size + 1) (.loop { rec with state := .busy })) (w.putObj (wA.heap.size + 1) (.loop { rec with state := .busy })) := Ex.putObj hx _ _ (by omega)
  have g6' := g6.mo hb1 (fun b h1 h2 e => by omega)
  have hB2 := (g5.mo hb1 (by omega)).ex hx2
  have hrow := ho.mo (Mo.putObj w (wA.heap.size + 1) (.loop { rec with state := .busy })) (fun b hb e => by have := (ho.base b hb).1; omega)
  have hlb : (w1.putObj (wA.heap.size + 1) (.loop { rec with state := .busy })).heap[wA.heap.size + 1]? = some (.loop { rec with state := .busy }) := World.putObj_heap_same (by omega)
  have hlb2 := (hx2.keep _ (by rw [World.putObj_size]; omega) id).trans hlb
  have hdb2 : (w.putObj (wA.heap.size + 1) (.loop { rec with state := .busy })).heap[wA.heap.size]? = some (.deferred (some [])) := (World.putObj_heap_other (by omega)).trans ((hx.keep _ (by omega) id).trans g3)
  have hmo2 : Mo (fun b => b = ob) wA (w.putObj (wA.heap.size + 1) (.loop { rec with state := .busy })) := (g1.ex hx).trans (Mo.putObj w _ _) (fun _ => id) (fun i hi e => by omega)
  have hsz2 : w1.heap.size ≤ (w.putObj (wA.heap.size + 1) (.loop { rec with state := .busy })).heap.size := by rw [World.putObj_size]; exact hx.size
  have hbs : w1.heap.size = (w1.putObj (wA.heap.size + 1) (.loop { rec with state := .busy })).heap.size := by rw [World.putObj_size]
  generalize hW2 : w.putObj (wA.heap.size + 1) (.loop { rec with state := .busy }) = W2 at hx2 hB2 hrow hlb2 hdb2 hmo2 hsz2
  generalize hW1 : w1.putObj (wA.heap.size + 1) (.loop { rec with state := .busy }) = W1 at hx2 g6' hbs
  refine wpIn_last (r := some (wA.heap.size + 1)) (ds := []) [] (fun _ W => ∃ W4, WkI wA ob { rec with state := .busy } keys (i + 1) W4 ∧ W = W4) (.reg (.op 0 (.rd (.one (.at .sl))) (.op 1 .now (.op 2 (.wr (.one (.at .sl))) (.op 3 (.wr (.one (.at .sl))) (.op 4 .wu .done)))))) noQ trivial
    (Eq.mp (show (Rd Try.prog (Instr.loadAt 45 (.pointer (some ⟨ob, 0, none⟩))) (.one (.at .sl)) (fun (x1 : Sl) v1 =>
      Wr Try.prog (Instr.buildSlice 45 1 #[(0, (.slice s.base s.len s.cap))]) (.one (.at .sl)) (fun (x2 : Sl) v2 =>
      Wr Try.prog (Builtin.append_ #[45, 45] 45 #[(.slice x1.base x1.len x1.cap), (.slice x2.base x2.len x2.cap)]) (.one (.at .sl)) (fun (x3 : Sl) v3 =>
      Wu Try.prog (Instr.storeAt 45 (.pointer (some ⟨ob, 0, none⟩)) (.slice x3.base x3.len x3.cap)) (fun v4 => (fun (_ : St []) (W : World) => ∃ W4, WkI wA ob { rec with state := .busy } keys (i + 1) W4 ∧ W = W4) () v4) v3) v2) v1) W2) = _ by kernel_rfl) ?_) hsa noQ_elim ?_
  · refine Rd_has (c := .sl) (x := so) hB2 (by kernel_rfl) rfl ?_
    refine Wr_lit (f := slv) (e := 29) (base := W2.heap.size) [s] (by kernel_rfl) (Nat.le_refl _) (by simp) fun s3 w3 ho3 hx3 _ => ?_
    obtain ⟨ss, q1, q2, q3, q4, q5⟩ := g6'
    have hssl : ss.length ≤ 1024 := by rw [q2, List.length_take]; omega
    refine Wr_append tII iII rfl (q1.ex (hx2.trans hx3)) ho3.rds (fun y => rfl) (by simp; omega) (by simp; omega) (by have := hx3.size; omega) fun s4 w4 ho4 hm4 hin4 => ?_
    have hn4 := NestOwn.snoc q1 q2 q3 q4 q5 (hx2.trans hx3) ((hrow.ex hx3).weak (by omega)) (fun b hb => by have := (hrow.base b hb).1; omega) ho4 hm4 hin4
    have htk : keys.take i ++ [keys[i]] = keys.take (i + 1) := by rw [List.take_add_one, List.getElem?_eq_getElem hi]; rfl
    rw [htk] at hn4
    have hnob : ¬ SlIn so ob := fun hb => by have := (q1.base ob hb).1; omega
    have hB4 := (hB2.ex hx3).mo hm4 hnob
    refine Wu_store (v := slv s4) hB4 (by kernel_rfl) (by simp [Value.cells, Value.oneCell']) (Nat.le_of_ble_eq_true (by kernel_rfl)) fun w5 hB5 hm5 => ?_
    have h3 := hx3.size
    have h4 := hm4.size
    have h5 := hm5.size
    have kp : ∀ b, b < W2.heap.size → b ≠ ob → b < wA.heap.size + 2 → w5.heap[b]? = W2.heap[b]? := fun b hb hne hlt =>
      (hm5.keep b (by omega) hne).trans ((hm4.keep b (by omega) (fun hb' => by have := (q1.base b hb').1; omega)).trans (hx3.keep b hb id))
    refine ⟨w5, ⟨?_, by omega, (kp _ (by omega) (by omega) (by omega)).trans hdb2, (kp _ (by omega) (by omega) (by omega)).trans hlb2, s4, hB5, hn4.mo hm5 (fun b h1 h2 e => by omega)⟩, rfl⟩
    exact ((hmo2.ex hx3).trans hm4 (fun _ => id) (fun b hb hb' => by have := (q1.base b hb').1; omega)).trans hm5 (fun _ => id) (fun _ _ => id)
  · rintro _ a' W' ⟨W4, h4, rfl⟩ _
    obtain ⟨k1, k2, k3, k4, so4, k5, k6⟩ := h4
    refine ⟨_, _, run_endRound none k4, .inl ⟨rfl, ?_⟩⟩
    have hend : ({ { rec with state := .busy } with state := if (none : Option Code).isNone then .ready else .done, pending := none } : Loop) = rec := by rw [hrec]; rfl
    rw [hend]
    have hp := Mo.putObj W' (wA.heap.size + 1) (.loop rec)
    exact ⟨k1.trans hp (fun _ => id) (fun b hb e => by omega), by rw [World.putObj_size]; exact k2, (World.putObj_heap_other (by omega)).trans k3, World.putObj_heap_same (by omega), so4, k5.mo hp (by omega), k6.mo hp (fun b h1 h2 e => by omega)⟩
end Go.Proofs.Ytdnlnloogfnlgaa
/- 'walked': the whole. -/
namespace Go.Proofs.Ytdnlnloogfnlgaa
open Go Go.Cu Go.RowKit
set_option linter.unusedVariables false
set_option maxHeartbeats 4000000
theorem wk_enter (args : Array Value) (w : World) : (callFunc 65 args).run Try.prog w = .ok (.enter 65 args) w := now_run (by kernel_rfl) w
theorem walked_ok {p : Option Addr} {w : World} {K : List Path → Prop} (h : UnderGives p w K) :
    Calls Try.prog 31 #[.pointer p] w fun en w' => ∃ s' ks, en = .returned (slv s') ∧ NestOwn i64v 3 29 w.heap.size w' s' ks ∧ K ks ∧ ks.length ≤ 1024 ∧ (∀ k ∈ ks, k.length ≤ 300) ∧ Ex w w' := by
  refine (callsIn_wide (n := 0)).1 (callsIn_of_wp_marks (F := Fence.wide) (c := wk.body) Try.func31 (by kernel_rfl) trivial ?_)
  have hn : Try.f31.ntmps = 19 := by kernel_rfl
  rw [hn]
  have hs0 : SlotsD [] 19 { tmps := #[.pointer p] ++ Array.replicate (19 - #[Value.pointer p].size) undef, defers := [] } [(0, .pointer p)] := (Slots.start (n := 19) #[.pointer p] (by simp)).toD
  rw [wk.e0]
  obtain ⟨J0, hJ0⟩ : ∃ J0 : St [(0, .at .ptr)] → World → Prop, J0 = fun st v => st = (p, ()) ∧ v = w := ⟨_, rfl⟩
  refine wpIn_piece (r := none) (ds := []) (L := [(0, .pointer p)]) [(0, .at .ptr)] J0 (.reg (.op 0 .now .done)) noQ trivial (Eq.mp (show (J0 (p, ()) w) = _ by kernel_rfl) (by rw [hJ0]; exact ⟨rfl, rfl⟩)) hs0 noQ_elim ?_
  rw [hJ0]
  rintro _ a0 w0 ⟨rfl, rfl⟩ hs0'
  rw [wk.e1]
  obtain ⟨J1, hJ1⟩ : ∃ J1 : St [(3, .at .any)] → World → Prop, J1 = fun st v => ∃ bx sl ks, st = (seqV bx, ()) ∧ Has v bx [slv sl] 45 ∧ Nest i64v (fun b => w0.heap.size ≤ b ∧ b < bx) v sl ks ∧ w0.heap.size ≤ bx ∧ K ks ∧ ks.length ≤ 1024 ∧ (∀ k ∈ ks, k.length ≤ 300) ∧ Ex w0 v := ⟨_, rfl⟩
  refine wpIn_piece (r := none) (ds := []) [(3, .at .any)] J1 (.reg (.op 0 .now (.op 1 (.cl (.one (.at .any))) (.op 2 .now .done)))) noQ trivial
    (Eq.mp (show (Cl Try.prog 39 #[.pointer p] (.one (.at .any)) (fun (x : Value) v => J1 (x, ()) v) w0) = _ by kernel_rfl) (Calls.mono (all_ok h) fun en v ⟨bx, sl, ks, he, hf⟩ => ⟨seqV bx, he, by rw [hJ1]; exact ⟨bx, sl, ks, rfl, hf⟩⟩)) hs0' noQ_elim ?_
  rw [hJ1]
  rintro _ a1 w1 ⟨bx, sl, ks, rfl, hB1, hn1, hbx, hK, hlen, hkl, hx1⟩ hs1
  rw [wk.e2]
  obtain ⟨J2, hJ2⟩ : ∃ J2 : St [(3, .at .any)] → World → Prop, J2 = fun st v => st = (seqV bx, ()) ∧ v = w1 := ⟨_, rfl⟩
  refine wpIn_piece (r := none) (ds := []) [(3, .at .any)] J2 (.seq (.reg (.op 0 .now (.op 1 (.pu (.one (.at .bool))) .done))) (.cond (.seq (.reg (.op 0 (.wr (.one (.at .sl))) (.op 1 (.wr (.one (.at .sl))) (.op 2 .now .done)))) .leaf) .leaf)) noQ ⟨trivial, ⟨⟨trivial, trivial⟩, trivial⟩⟩
    (Eq.mp (show (Pu Try.prog (do eqGuard .eql 71 (.tmp 8) (.const .nilFunc) (seqV bx) .nilFunc; binOp .eql 71 (seqV bx) .nilFunc) (.one (.at .bool)) (fun (x : Bool) v =>
      Cd x (Wr Try.prog (Instr.buildSlice 29 1 #[(0, (.int .i64 (-1)))]) (.one (.at .sl)) (fun (y : Sl) v1 => Wr Try.prog (Instr.buildSlice 45 1 #[(0, (.slice y.base y.len y.cap))]) (.one (.at .sl)) (fun (z : Sl) v2 => False) v1) v) (J2 (seqV bx, ()) v)) w1) = _ by kernel_rfl)
      (Pu_eqnilF (Cd_f (by rw [hJ2]; exact ⟨rfl, rfl⟩)))) hs1 noQ_elim ?_
  rw [hJ2]
  rintro _ a2 w2 ⟨rfl, rfl⟩ hs2
  rw [wk.e3]
  obtain ⟨J3, hJ3⟩ : ∃ J3 : St [(3, .at .any), (4, .at .addr)] → World → Prop, J3 = fun st v => st = (seqV bx, ⟨w2.heap.size, 0, none⟩, ()) ∧ Has v w2.heap.size [slv nilS] 45 ∧ Ex w2 v := ⟨_, rfl⟩
  refine wpIn_piece (r := none) (ds := []) [(3, .at .any), (4, .at .addr)] J3 (.reg (.op 0 (.wr (.one (.at .addr))) .done)) noQ trivial
    (Eq.mp (show (Wr Try.prog (Instr.alloc 45 true (.tuple #[])) (.one (.at .addr)) (fun (x : Addr) v => J3 (seqV bx, x, ()) v) w2) = _ by kernel_rfl) (Wr_alloc (z := slv nilS) (by kernel_rfl) fun v hB hx => by rw [hJ3]; exact ⟨rfl, hB, hx⟩)) hs2 noQ_elim ?_
  rw [hJ3]
  rintro _ a3 wA ⟨rfl, hBo, hx3⟩ hs3
  rw [wk.e4]
  refine wpIn_seq ?_
  obtain ⟨J4, hJ4⟩ : ∃ J4 : St [(4, .at .addr), (12, .at .any)] → World → Prop, J4 = fun st v => st = (⟨w2.heap.size, 0, none⟩, seqV bx, ()) ∧ v = wA := ⟨_, rfl⟩
  refine wpIn_piece (r := none) (ds := []) [(4, .at .addr), (12, .at .any)] J4 (.reg (.op 0 .now .done)) noQ trivial
    (Eq.mp (show (J4 (⟨w2.heap.size, 0, none⟩, seqV bx, ()) wA) = _ by kernel_rfl) (by rw [hJ4]; exact ⟨rfl, rfl⟩)) hs3 noQ_elim ?_
  rw [hJ4]
  rintro _ a4 wA' ⟨rfl, rfl⟩ hs4
  refine wpIn_block ?_
  rw [wk.er]
  refine wpIn_rangeFunc ?_
  intro fn _
  obtain ⟨rec, hrec⟩ : ∃ rec : Loop, rec = { state := .ready, pending := none, fn, tmps := a4.tmps, params := #[13], assign := cA wk.rf, body := .block 1 (cB (cF wk.rf)), defers := wA'.heap.size } := ⟨_, rfl⟩
  have hob := hBo.lt
  have hbx1 := hB1.lt
  have hg : a4.eval (.tmp 12) = seqV bx := hs4.ev rfl
  refine ⟨wA'.heap.size + 1, [{ target := .collected wA'.heap.size, args := #[] }], (wA'.alloc (.deferred (some []))).alloc (.loop rec), { target := .fn (.func 65) #[.pointer (some ⟨bx, 0, none⟩)], args := #[.func (.yield (wA'.heap.size + 1)) #[] #[]] },
    (wA'.alloc (.deferred (some []))).alloc (.loop rec), 65, #[.func (.yield (wA'.heap.size + 1)) #[] #[], .pointer (some ⟨bx, 0, none⟩)], (wA'.alloc (.deferred (some []))).alloc (.loop rec), ?_, ?_, fun _ _ => trivial, ?_, fun h => (by cases h), calls_FR ?_⟩
  · rw [hrec]; exact run_enterLoop_outer _ _ _ _ _
  · simp only [resolve, hg]
    simp [Deferred.ofValue, seqV, Act.eval]
  · exact wk_enter _ _
  have hmo1 : Ex wA' ((wA'.alloc (.deferred (some []))).alloc (.loop rec)) := (Ex.alloc _ _).trans (Ex.alloc _ _)
  have hI0 : WkI wA' w2.heap.size rec ks 0 ((wA'.alloc (.deferred (some []))).alloc (.loop rec)) := by
    refine ⟨hmo1.weak (fun _ _ g => g.elim), by simp, ?_, ?_, nilS, hBo.ex hmo1, NestOwn.nil _ _ _ _ _⟩
    · exact (Below.heap_alloc _ _ _ (by simp)).trans (World.alloc_heap_new wA' _)
    · have := World.alloc_heap_new (wA'.alloc (.deferred (some []))) (.loop rec)
      rwa [World.size_alloc] at this
  refine Calls.mono (all1_ok (sl := sl) (l := wA'.heap.size + 1) (F := fun b => w0.heap.size ≤ b ∧ b < bx) (WkI wA' w2.heap.size rec ks) (fun _ => False) hlen hkl (fun i W hi => ⟨?_, ?_⟩) (fun i hi s v1 v2 hii hx ho => ?_) _ hI0) ?_
  · exact (hB1.ex hx3).mo hi.1 (by omega)
  · exact (hn1.ex hx3).mo hi.1 (fun b hb e => by omega)
  · refine walked_round hob ?_ hi hlen hii hx ho ?_
    · rw [hrec]
    · rw [hrec]
      exact ⟨hs4.size, rfl, fun i v hv => hs4.vals i v (by
        simp only [find] at hv
        cases hb : Nat.beq 4 i with
        | true => rw [hb] at hv; simp only at hv; cases hv; have : 4 = i := Nat.eq_of_beq_eq_true hb; subst this; rfl
        | false => rw [hb] at hv; simp only at hv; cases hv)⟩
  · rintro e W2 ⟨rfl, hor⟩
    have hI := hor.elim id False.elim
    obtain ⟨k1, k2, k3, k4, so, k5, k6⟩ := hI
    rw [List.take_length] at k6
    refine ⟨none, W2.putObj (wA'.heap.size + 1) (.loop { rec with state := .exhausted }), ?_, ?_⟩
    · have hpn : rec.pending = none := by rw [hrec]
      exact (run_endLoop (P := Try.prog) k4 (by rw [hrec]; simp)).trans (congrArg (fun x => Result.ok x (W2.putObj (wA'.heap.size + 1) (.loop { rec with state := .exhausted }))) hpn)
    show Code.wpIn (FR none) 0 Try.prog wk.tail _ _ _
    have hp := Mo.putObj W2 (wA'.heap.size + 1) (.loop { rec with state := .exhausted })
    have hD3 : (W2.putObj (wA'.heap.size + 1) (.loop { rec with state := .exhausted })).heap[wA'.heap.size]? = some (.deferred (some [])) := (World.putObj_heap_other (by omega)).trans k3
    have hB3 := k5.mo hp (by omega)
    have hn3 := k6.mo hp (fun b h1 h2 e => by omega)
    have hm3 : Mo (fun b => b = w2.heap.size) wA' (W2.putObj (wA'.heap.size + 1) (.loop { rec with state := .exhausted })) := k1.trans hp (fun _ => id) (fun b hb e => by omega)
    generalize W2.putObj (wA'.heap.size + 1) (.loop { rec with state := .exhausted }) = W3 at hD3 hB3 hn3 hm3 ⊢
    have hs5 : SlotsD [{ target := .collected wA'.heap.size, args := #[] }] 19 { a4 with defers := [{ target := .collected wA'.heap.size, args := #[] }] ++ a4.defers } (Cu.encS [(4, .at .addr), (12, .at .any)] (⟨w2.heap.size, 0, none⟩, seqV bx, ())) :=
      ⟨hs4.size, by show _ ++ a4.defers = _; rw [hs4.defers]; rfl, hs4.vals⟩
    rw [wk.et]
    obtain ⟨J5, hJ5⟩ : ∃ J5 : St [(2, .at .sl)] → World → Prop, J5 = fun st v => st = (so, ()) ∧ v = W3 := ⟨_, rfl⟩
    refine wpIn_piece (r := none) [(2, .at .sl)] J5 (.reg (.op 0 (.rd (.one (.at .sl))) (.op 1 .now .done))) noQ trivial
      (Eq.mp (show (Rd Try.prog (Instr.loadAt 45 (.pointer (some ⟨w2.heap.size, 0, none⟩))) (.one (.at .sl)) (fun (x : Sl) v => J5 (x, ()) v) W3) = _ by kernel_rfl) (Rd_has (c := .sl) (x := so) hB3 (by kernel_rfl) rfl (by rw [hJ5]; exact ⟨rfl, rfl⟩))) hs5 noQ_elim ?_
    rw [hJ5]
    rintro _ a6 W4 ⟨rfl, rfl⟩ hs6
    refine wpIn_ret ?_
    show LeavesInM _ _ _ _ _ _ a6.defers .returning W4
    rw [hs6.defers]
    refine ⟨by simp, .inl ⟨wA'.heap.size, _, rfl, run_takeDeferred hD3, ?_⟩⟩
    obtain ⟨vs, q1, q2⟩ := results_run (P := Try.prog) (fn := Try.f31) (cs := [.at .sl]) (k := fun vs => vs = [slv so]) (w := W4.putObj wA'.heap.size (.deferred none)) hs6.base (by
      rw [show Try.f31.results.toList = [.tmp 2] by kernel_rfl]
      exact rfl)
    subst q2
    refine ⟨_, q1, so, ks, rfl, ?_, hK, hlen, hkl, ?_⟩
    · have hp2 := Mo.putObj W4 wA'.heap.size (.deferred none)
      exact (hn3.mo hp2 (fun b h1 h2 e => by omega)).weak (by have := hx1.size; have := hx3.size; omega)
    · have hp2 := Mo.putObj W4 wA'.heap.size (.deferred none)
      exact ((hx1.trans hx3).into hm3 (fun b e => by have := hx1.size; omega)).into hp2 (fun b e => by have := hx1.size; have := hx3.size; omega)
end Go.Proofs.Ytdnlnloogfnlgaa
