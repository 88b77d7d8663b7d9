/- culletlaw12.TrieWalks: the outer range. -/
import Derived.Test.YtdnlnloogfnlgaaTrWe
set_option linter.all false
namespace Go.Proofs.Ytdnlnloogfnlgaa
open Go Go.Cu Go.RowKit
set_option linter.unusedVariables false
set_option maxHeartbeats 4000000
theorem outer_round {W : World} {lim clk : Int} {Res : Nat → Prop} {os : List OpK} {c : Cs} {l1 bn i B : Nat} {rec : Loop} {k : Sl} {l : Path} {w : World} {R : Ending → World → Prop}
    (hrec : rec = { rec with state := .ready, pending := none, params := #[65], assign := cA tw.RF, body := .block 5 tw.OB })
    (hl1 : w.heap[l1]? = some (.loop rec)) (hcon : Con c w) (hS : Sw W c.tb lim Res w clk) (hc : clk < 4611686018427387903) (hsc : Script W c.s os) (hbn : Has w bn [.int .i64 (i : Int)] 3) (hl : c.ks[i]? = some l) (hlen : c.ks.length ≤ 1024) (hkl : ∀ l ∈ c.ks, l.length ≤ 300) (hk : Cu.Own i64v 3 B w k l)
    (hrc : ∀ b, Cst c b → Res b) (hrn : Res bn ∧ W.heap.size ≤ bn ∧ ¬ Cst c bn) (hrl : Res l1 ∧ W.heap.size ≤ l1) (hcl : ¬ Cst c l1) (hrk : ∀ b, SlIn k b → Res b ∧ W.heap.size ≤ b ∧ ¬ Cst c b ∧ b ≠ bn ∧ b ≠ l1)
    (hs : SlotsD [] 146 { tmps := rec.tmps, defers := [] } (Cu.encS tw.L6 (st6 c bn)))
    (hK : ∀ w', Mo (fun b => (W.heap.size ≤ b ∧ ¬ Res b) ∨ SlIn k b ∨ b = bn ∨ b = l1) w w' → Sw W c.tb lim Res w' (clk + 1) → Con c w' → Has w' bn [.int .i64 ((i + 1 : Nat) : Int)] 3 → w'.heap[l1]? = some (.loop rec) → R (.returned (.bool true)) w') :
    Rounds l1 (slv k) w R := by
  have hpar : rec.params = #[65] := by rw [hrec]
  have hst : rec.state = .ready := by rw [hrec]
  have hll1 : l1 < w.heap.size := (Array.getElem?_eq_some_iff.1 hl1).1
  have hy := run_yield (P := Try.prog) (args := #[slv k]) hl1 (by rw [hpar]; rfl)
  refine ⟨_, _, _, _, hy, ?_⟩
  rw [show rec.assign = cA tw.RF by rw [hrec], show rec.body = .block 5 tw.OB by rw [hrec], hpar]
  refine roundIn_of_wpIn (F := Fence.wide) trivial ?_
  have hs1 : SlotsD [] 146 { tmps := (#[65].zip #[slv k]).foldl (fun tmps (t, a) => tmps.setIfInBounds t a) rec.tmps, defers := [] } (Cu.encS ((65, .at .sl) :: tw.L6) (k, st6 c bn)) := by
    have hz : (#[65].zip #[slv k]).foldl (fun tmps (t, a) => tmps.setIfInBounds t a) rec.tmps = rec.tmps.setIfInBounds 65 (slv k) := by first | rfl | simp
    rw [hz]
    exact hs.put (some 65) (slv k) (fun t ht => (Option.some.inj ht) ▸ (by decide))
  obtain ⟨J0, hJ0⟩ : ∃ J0 : St tw.L7 → World → Prop, J0 = fun st v => st = st7 c bn k ∧ v = w := ⟨_, rfl⟩
  refine wpIn_last (r := some l1) (ds := []) tw.L7 J0 _ _ (culletlaw12_TrieWalks.q0.oks (fun _ _ => False) J0) (culletlaw12_TrieWalks.q0.run (fun _ _ => False) J0 k _ _ _ _ _ _ w (by unfold culletlaw12_TrieWalks.q0.M; rw [hJ0]; exact ⟨rfl, rfl⟩)) hs1 (fun e a w he hq => (endQ_elim (fun _ _ h => h) he hq).elim) ?_
  rw [hJ0]
  rintro _ a w0 ⟨rfl, rfl⟩ hsa
  refine ⟨_, run_beginRound hl1 hst, ?_⟩
  refine wpIn_block ?_
  have hmb : Mo (fun b => b = l1) w0 (w0.putObj l1 (.loop { rec with state := .busy })) := Mo.putObj _ _ _
  have hlb : (w0.putObj l1 (.loop { rec with state := .busy })).heap[l1]? = some (.loop { rec with state := .busy }) := World.putObj_heap_same hll1
  have hbn' := hbn.mo hmb (has_ne_loop hbn hl1)
  have hcon' := hcon.mo hmb (fun b hb e => hcl (e ▸ hb))
  have hS' := hS.mo hmb (fun b _ e => e ▸ hrl)
  have hk' := hk.mo hmb (fun b hb => (hrk b hb).2.2.2.2)
  generalize w0.putObj l1 (.loop { rec with state := .busy }) = W1 at hmb hlb hbn' hcon' hS' hk' ⊢
  refine outer_body hlb hcon' hS' hc hsc hbn' hl hlen hkl hk' hrc hrn hrl hrk hsa fun w' a' hm hSw hcw hbw hlw => ?_
  refine ⟨_, _, run_endRound none hlw, ?_⟩
  have hend : ({ { rec with state := .busy } with state := if (none : Option Code).isNone then .ready else .done, pending := none } : Loop) = rec := by rw [hrec]; rfl
  rw [hend]
  have hp := Mo.putObj w' l1 (.loop rec)
  have hl1w : l1 < w'.heap.size := (Array.getElem?_eq_some_iff.1 hlw).1
  refine hK _ ((hmb.trans hm (Z := fun b => (W.heap.size ≤ b ∧ ¬ Res b) ∨ SlIn k b ∨ b = bn ∨ b = l1) (fun b h => .inr (.inr (.inr h))) (fun b _ h => h.elim .inl (fun h => h.elim (fun h => .inr (.inl h)) (fun h => .inr (.inr (.inl h)))))).trans hp (fun _ => id) (fun b _ h => .inr (.inr (.inr h)))) (hSw.mo hp (fun b _ e => e ▸ hrl)) (hcw.mo hp (fun b hb e => hcl (e ▸ hb))) (hbw.mo hp (has_ne_loop hbw hlw)) (World.putObj_heap_same hl1w)
def markD (D : Nat) : Deferred := { target := .collected D, args := #[] }
def MarksOk (W : World) (Res : Nat → Prop) (w : World) (marks : List Nat) : Prop := marks.Nodup ∧ ∀ D ∈ marks, w.heap[D]? = some (.deferred (some [])) ∧ Res D ∧ W.heap.size ≤ D
theorem MarksOk.mo {W w w' : World} {Res X : Nat → Prop} {marks : List Nat} (h : MarksOk W Res w marks) (k : Mo X w w') (hx : ∀ D, D ∈ marks → ¬ X D) : MarksOk W Res w' marks :=
  ⟨h.1, fun D hD => ⟨(k.keep D (Array.getElem?_eq_some_iff.1 (h.2 D hD).1).1 (hx D hD)).trans (h.2 D hD).1, (h.2 D hD).2⟩⟩
abbrev tw.LM : List (Nat × Cx) := [(0, .at (.int .i64)), (5, .at .addr), (6, .at .addr), (7, .at .addr), (11, .at .addr), (12, .at .addr), (13, .at (.int .i64)), (14, .at .addr)]
abbrev stM (c : Cs) (lim q : Int) (bn : Nat) : St tw.LM := (lim, ⟨c.b5, 0, none⟩, ⟨c.b6, 0, none⟩, ⟨c.b7, 0, none⟩, ⟨c.b11, 0, none⟩, ⟨c.b12, 0, none⟩, q, ⟨bn, 0, none⟩, ())
def OuI (W w : World) (c : Cs) (lim clk : Int) (Res : Nat → Prop) (marks : List Nat) (rec : Loop) (bn : Nat) (i : Nat) (v : World) : Prop :=
  Sw W c.tb lim (fun b => Res b ∨ b = bn ∨ b = w.heap.size ∨ b = w.heap.size + 1) v (clk + i) ∧ Con c v ∧ Has v bn [.int .i64 (i : Int)] 3 ∧ v.heap[w.heap.size]? = some (.deferred (some [])) ∧ v.heap[w.heap.size + 1]? = some (.loop rec) ∧ MarksOk W Res v marks ∧ w.heap.size + 2 ≤ v.heap.size
theorem outer_range {W : World} {lim clk q : Int} {Res : Nat → Prop} {os : List OpK} {c : Cs} {m bn : Nat} {marks : List Nat} {w : World} {a : Act} {Q : Exit → Act → World → Prop}
    (hcon : Con c w) (hS : Sw W c.tb lim (fun b => Res b ∨ b = bn) w clk) (hc : clk < 4611686018427380000) (hsc : Script W c.s os) (hbn : Has w bn [.int .i64 0] 3) (hlen : c.ks.length ≤ 1024) (hkl : ∀ l ∈ c.ks, l.length ≤ 300)
    (hrc : ∀ b, Cst c b → Res b) (hrn : W.heap.size ≤ bn ∧ ¬ Res bn) (hmk : MarksOk W Res w marks)
    (hs : SlotsD (marks.map markD) 146 a (Cu.encS (tw.LM ++ [(64, .at .any)]) (lim, ⟨c.b5, 0, none⟩, ⟨c.b6, 0, none⟩, ⟨c.b7, 0, none⟩, ⟨c.b11, 0, none⟩, ⟨c.b12, 0, none⟩, q, ⟨bn, 0, none⟩, seqV c.bx, ())))
    (hK : ∀ w' a', Sw W c.tb lim (fun b => Res b ∨ b = w.heap.size) w' (clk + c.ks.length) → Con c w' → Has w' bn [.int .i64 (c.ks.length : Int)] 3 → MarksOk W (fun b => Res b ∨ b = w.heap.size) w' (w.heap.size :: marks) → SlotsD ((w.heap.size :: marks).map markD) 146 a' (Cu.encS tw.LM (stM c lim q bn)) → Q .normal a' w') :
    (Code.block 4 tw.RF).wpIn (FR none) m Try.prog Q a w := by
  refine wpIn_block ?_
  rw [tw.er]
  refine wpIn_rangeFunc ?_
  intro fn _
  obtain ⟨rec, hrec⟩ : ∃ rec : Loop, rec = { state := .ready, pending := none, fn, tmps := a.tmps, params := #[65], assign := cA tw.RF, body := .block 5 tw.OB, defers := w.heap.size } := ⟨_, rfl⟩
  have hg : a.eval (.tmp 64) = seqV c.bx := hs.ev rfl
  refine ⟨w.heap.size + 1, [{ target := .collected w.heap.size, args := #[] }], (w.alloc (.deferred (some []))).alloc (.loop rec), { target := .fn (.func 65) #[.pointer (some ⟨c.bx, 0, none⟩)], args := #[.func (.yield (w.heap.size + 1)) #[] #[]] },
    (w.alloc (.deferred (some []))).alloc (.loop rec), 65, #[.func (.yield (w.heap.size + 1)) #[] #[], .pointer (some ⟨c.bx, 0, none⟩)], (w.alloc (.deferred (some []))).alloc (.loop rec), ?_, ?_, fun _ _ => trivial, ?_, fun h => (by cases h), calls_FR ?_⟩
  · rw [hrec]; exact run_enterLoop_outer _ _ _ _ _
  · simp only [resolve, hg]
    simp [Deferred.ofValue, seqV, Act.eval]
  · exact wk_enter _ _
  have hx1 : Ex w ((w.alloc (.deferred (some []))).alloc (.loop rec)) := (Ex.alloc _ _).trans (Ex.alloc _ _)
  have hWs := hS.ex.size
  have hres : ∀ b, Res b → b < w.heap.size := fun b hb => hS.res b (.inl hb)
  have hbnl : bn < w.heap.size := hS.res bn (.inr rfl)
  have hI0 : OuI W w c lim clk Res marks rec bn 0 ((w.alloc (.deferred (some []))).alloc (.loop rec)) := by
    refine ⟨(hS.grow hx1 (fun b hb => ?_)).late (by omega), hcon.ex hx1, hbn.ex hx1, ?_, ?_, hmk.mo hx1 (fun _ _ h => h), by simp⟩
    · rcases hb with hb | hb | hb | hb
      · exact .inl (.inl hb)
      · exact .inl (.inr hb)
      · exact .inr ⟨by omega, by simp; omega⟩
      · exact .inr ⟨by omega, by simp; omega⟩
    · exact (Below.heap_alloc _ _ _ (by simp)).trans (World.alloc_heap_new w _)
    · have := World.alloc_heap_new (w.alloc (.deferred (some []))) (.loop rec)
      rwa [World.size_alloc] at this
  refine Calls.mono (all1_ok (sl := c.sl) (keys := c.ks) (l := w.heap.size + 1) (F := c.F) (OuI W w c lim clk Res marks rec bn) (fun _ => False) hlen hkl (fun i v hi => ⟨hi.2.1.hx, hi.2.1.n2⟩) (fun i hi s v1 v2 hii hx ho => ?_) _ hI0) ?_
  · obtain ⟨k1, k2, k3, k4, k5, k6, k7⟩ := hii
    have hsz := hx.size
    have hxb : ∀ b, SlIn s b → v1.heap.size ≤ b ∧ b < v2.heap.size := fun b hb => ho.base b hb
    have hS2 : Sw W c.tb lim (fun b => (Res b ∨ b = bn ∨ b = w.heap.size ∨ b = w.heap.size + 1) ∨ SlIn s b) v2 (clk + i) := k1.grow hx (fun b hb => hb.imp id (fun h => hxb b h))
    refine outer_round (l := c.ks[i]) (by rw [hrec]) ((hx.keep _ (by omega) id).trans k5) (k2.ex hx) hS2 (by omega) hsc (k3.ex hx) (List.getElem?_eq_getElem hi) hlen hkl ho (fun b hb => .inl (.inl (hrc b hb))) ⟨.inl (.inr (.inl rfl)), hrn.1, fun h => hrn.2 (hrc _ h)⟩ ⟨.inl (.inr (.inr (.inr rfl))), by omega⟩ (fun h => by have := hres _ (hrc _ h); omega) (fun b hb => ?_) ?_ fun v hv hSv hcv hbv hlv => ?_
    · have h1 := hxb b hb
      exact ⟨.inr hb, by omega, fun h => by have := hres _ (hrc _ h); omega, by omega, by omega⟩
    · rw [hrec]
      refine ⟨hs.size, rfl, fun t v hv => hs.vals t v ?_⟩
      have hq : find (Cu.encS tw.L6 (st6 c bn)) t = some v := hv
      simp only [Cu.encS, find] at hq
      show find (Cu.encS (tw.LM ++ [(64, .at .any)]) _) t = some v
      by_cases q5 : t = 5
      · subst q5; exact hq
      by_cases q6 : t = 6
      · subst q6; exact hq
      by_cases q7 : t = 7
      · subst q7; exact hq
      by_cases q11 : t = 11
      · subst q11; exact hq
      by_cases q12 : t = 12
      · subst q12; exact hq
      by_cases q14 : t = 14
      · subst q14; exact hq
      exfalso
      rw [beq_no (fun e => q5 e.symm), beq_no (fun e => q6 e.symm), beq_no (fun e => q7 e.symm), beq_no (fun e => q11 e.symm), beq_no (fun e => q12 e.symm), beq_no (fun e => q14 e.symm)] at hq
      cases hq
    · have hvs := hv.size
      have keepD : ∀ D, D < v1.heap.size → (Res D ∨ D = w.heap.size) → v.heap[D]? = v2.heap[D]? := fun D hD hr => hv.keep D (by omega) (fun h => by
        rcases h with h | h | h | h
        · exact h.2 (hr.elim (fun h => .inl (.inl h)) (fun h => .inl (.inr (.inr (.inl h)))))
        · have := hxb D h; omega
        · rcases hr with hr | hr
          · exact hrn.2 (h ▸ hr)
          · omega
        · rcases hr with hr | hr
          · have := hres D hr; omega
          · omega)
      refine .inl ⟨rfl, (hSv.less (fun b hb => .inl hb)).late (by omega), hcv, hbv, ?_, hlv, ⟨k6.1, fun D hD => ⟨?_, (k6.2 D hD).2⟩⟩, by omega⟩
      · exact (keepD _ (by omega) (.inr rfl)).trans ((hx.keep _ (by omega) id).trans k4)
      · have h9 := (Array.getElem?_eq_some_iff.1 (k6.2 D hD).1).1
        exact (keepD D h9 (.inl (k6.2 D hD).2.1)).trans ((hx.keep D h9 id).trans (k6.2 D hD).1)
  · rintro e W2 ⟨rfl, hor⟩
    obtain ⟨k1, k2, k3, k4, k5, k6, k7⟩ := hor.elim id False.elim
    refine ⟨none, W2.putObj (w.heap.size + 1) (.loop { rec with state := .exhausted }), ?_, ?_⟩
    · have hpn : rec.pending = none := by rw [hrec]
      exact (run_endLoop (P := Try.prog) k5 (by rw [hrec]; simp)).trans (congrArg (fun x => Result.ok x (W2.putObj (w.heap.size + 1) (.loop { rec with state := .exhausted }))) hpn)
    have hp := Mo.putObj W2 (w.heap.size + 1) (.loop { rec with state := .exhausted })
    show Q .normal _ _
    refine hK _ _ ((k1.mo hp (fun b _ e => ⟨.inr (.inr (.inr e)), by omega⟩)).less (fun b hb => hb.elim .inl (fun h => .inr (.inr (.inl h))))) (k2.mo hp (fun b hb e => by have := hres _ (hrc b hb); omega)) (k3.mo hp (by omega)) ⟨List.nodup_cons.2 ⟨fun h => by have := hres _ (hmk.2 _ h).2.1; omega, k6.1⟩, fun D hD => ?_⟩ ?_
    · rcases List.mem_cons.1 hD with rfl | hD
      · exact ⟨(World.putObj_heap_other (by omega)).trans k4, .inr rfl, by omega⟩
      · have h1 := hres D (k6.2 D hD).2.1
        exact ⟨(World.putObj_heap_other (by omega)).trans (k6.2 D hD).1, .inl (k6.2 D hD).2.1, (k6.2 D hD).2.2⟩
    · have hs9 : SlotsD (marks.map markD) 146 a (Cu.encS tw.LM (stM c lim q bn)) := SlotsD.cut (M := [(64, seqV c.bx)]) hs
      exact ⟨hs9.size, by show _ ++ a.defers = _; rw [hs9.defers]; rfl, hs9.vals⟩
end Go.Proofs.Ytdnlnloogfnlgaa
