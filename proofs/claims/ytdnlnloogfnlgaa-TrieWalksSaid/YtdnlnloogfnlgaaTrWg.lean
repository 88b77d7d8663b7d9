/- culletlaw12.TrieWalks: the loop over both walks. -/
import Derived.Test.YtdnlnloogfnlgaaTrWf
import Derived.Sort.LoopGhostIn
set_option linter.all false
namespace Go.Proofs.Ytdnlnloogfnlgaa
open Go Go.Cu Go.RowKit
set_option linter.unusedVariables false
set_option maxHeartbeats 4000000
theorem walks_p13 {W : World} {lim clk q : Int} {Res : Nat → Prop} {os : List OpK} {c : Cs} {w : World} {K : (Int × Addr × Addr × Addr × Addr × Addr × Int × Unit) → World → Prop} (hcon : Con c w) (hS : Sw W c.tb lim Res w clk) (hc : clk < 4000000000000000000) (hsc : Script W c.s os) (hrc : ∀ b, Cst c b → Res b)
    (hK : ∀ w', Mo (fun b => W.heap.size ≤ b ∧ ¬ Res b) w w' → Sw W c.tb lim Res w' (clk + os.length) → K (lim, ⟨c.b5, 0, none⟩, ⟨c.b6, 0, none⟩, ⟨c.b7, 0, none⟩, ⟨c.b11, 0, none⟩, ⟨c.b12, 0, none⟩, q, ()) w') :
    culletlaw12_TrieWalks.p13.M (fun _ _ => False) K lim ⟨c.b5, 0, none⟩ ⟨c.b6, 0, none⟩ ⟨c.b7, 0, none⟩ ⟨c.b11, 0, none⟩ ⟨c.b12, 0, none⟩ q w := by
  obtain ⟨hra, hops, hsm⟩ := hsc
  unfold culletlaw12_TrieWalks.p13.M
  refine Rd_has (c := .sl) (x := c.s) hcon.h5 (by kernel_rfl) rfl ?_
  unfold culletlaw12_TrieWalks.p13.l1
  have hlen : c.s.len = os.length := by rw [hra.1, List.length_map]
  rw [hlen]
  refine loopW_of (fun st w' => st.1 = lim ∧ st.2.1 = ⟨c.b5, 0, none⟩ ∧ st.2.2.1 = ⟨c.b6, 0, none⟩ ∧ st.2.2.2.1 = ⟨c.b7, 0, none⟩ ∧ st.2.2.2.2.1 = ⟨c.b11, 0, none⟩ ∧ st.2.2.2.2.2.1 = ⟨c.b12, 0, none⟩ ∧ st.2.2.2.2.2.2.1 = q ∧ st.2.2.2.2.2.2.2.1 = c.s ∧ st.2.2.2.2.2.2.2.2.1 = (os.length : Int) ∧ ∃ i : Nat, i ≤ os.length ∧ st.2.2.2.2.2.2.2.2.2.1 = (i : Int) ∧ Mo (fun b => W.heap.size ≤ b ∧ ¬ Res b) w w' ∧ Sw W c.tb lim Res w' (clk + i)) (fun st _ => os.length - st.2.2.2.2.2.2.2.2.2.1.toNat) ?_
    ⟨rfl, rfl, rfl, rfl, rfl, rfl, rfl, rfl, rfl, 0, Nat.zero_le _, rfl, Mo.refl _ _, hS.late (by omega)⟩
  rintro k ⟨a1, a2, a3, a4, a5, a6, a7, a8, a9, i', u⟩ w' hI hk
  dsimp only at hI hk ⊢
  obtain ⟨rfl, rfl, rfl, rfl, rfl, rfl, rfl, rfl, rfl, i, hi, rfl, hm, hSw⟩ := hI
  unfold culletlaw12_TrieWalks.p13.b1
  refine Cd_dec (fun hlt => ?_) (fun hge => ?_)
  · have hlt' : i < os.length := by omega
    refine Pu_idxA (hra.ex hSw.ex) tOps (by kernel_rfl) (by omega) (by rw [List.length_map]; omega) fun a ov hov hc' hbk => ?_
    rw [Int.toNat_natCast, List.getElem?_map, List.getElem?_eq_getElem hlt'] at hov
    have hov : os[i].o = ov := by simpa using hov
    subst hov
    have hop := hops os[i] (List.getElem_mem hlt')
    generalize os[i] = o at *
    refine Rd_agg (x := o.o) (by kernel_rfl) hc' ?_
    refine Wr_alloc (z := .agg (encAts oAts ((0, 0, nilS, nilS, ()) : OpT)).toArray) (by kernel_rfl) fun w3 hB3 hx3 => ?_
    refine Wu_store (v := .agg (encAts oAts o.o).toArray) hB3 (by kernel_rfl) (op_one o.o) (Nat.le_of_ble_eq_true (by kernel_rfl)) fun w4 hB4 hm4 => ?_
    have hB4' : Has w4 w'.heap.size (opV o.o) 32 := hB4
    have hx4 : Ex w' w4 := hx3.into hm4 (fun i hi => by rw [hi]; exact Nat.le_refl _)
    have h7 : Has w4 c.b7 [.pointer (some ⟨c.tb, 0, none⟩)] 23 := (hcon.h7.mo hm (fun h => h.2 (hrc _ (.inr (.inr (.inl rfl)))))).ex hx4
    refine Rd_has (c := .ptr) (x := some ⟨c.tb, 0, none⟩) h7 (by kernel_rfl) rfl ?_
    refine Rd_agg (x := o.o) (by kernel_rfl) (load_op hB4') ?_
    refine Cl_of ((hSw.more hx4).done (by omega) o hop) ?_
    rintro en w5 ⟨rfl, hm5, hS5⟩
    refine ⟨(), rfl, ?_⟩
    rw [wrap64 (x := (i : Int) + 1) (by omega) (by omega)]
    exact hk _ _ ⟨rfl, rfl, rfl, rfl, rfl, rfl, rfl, rfl, rfl, i + 1, by omega, by dsimp only; omega, hm.trans (hx4.mo hm5) (fun _ => id) (fun _ _ => id), hS5.late (by omega)⟩ (by simp only; omega)
  · obtain rfl : i = os.length := by omega
    exact hK w' hm hSw
noncomputable abbrev tw.c8 : Code := (cR (cR (cR (cR (cR (cR (cR (cR culletlaw12_TrieWalks.code))))))))
theorem tw.e8 : tw.c8 = .seq (.seq (cL (cL tw.c8)) (.block 2 (.loop tw.LB))) (.seq (cL (cR tw.c8)) .ret) := by kernel_rfl
theorem tw.lb : tw.LB = .seq (cL tw.LB) (.seq (.block 3 tw.BODY) (cR (cR tw.LB))) := by kernel_rfl
theorem tw.bd : tw.BODY = .seq (cL tw.BODY) (.seq (.seq (cL (cL (cR tw.BODY))) (.block 4 tw.RF)) (.seq (cL (cR (cR tw.BODY))) (cR (cR (cR tw.BODY))))) := by kernel_rfl
abbrev tw.LC : List (Nat × Cx) := [(0, .at (.int .i64)), (5, .at .addr), (6, .at .addr), (7, .at .addr), (11, .at .addr), (12, .at .addr)]
abbrev tw.LD : List (Nat × Cx) := [(0, .at (.int .i64)), (5, .at .addr), (6, .at .addr), (7, .at .addr), (11, .at .addr), (12, .at .addr), (13, .at (.int .i64))]
abbrev stC (c : Cs) (lim : Int) : St tw.LC := (lim, ⟨c.b5, 0, none⟩, ⟨c.b6, 0, none⟩, ⟨c.b7, 0, none⟩, ⟨c.b11, 0, none⟩, ⟨c.b12, 0, none⟩, ())
abbrev stD (c : Cs) (lim q : Int) : St tw.LD := (lim, ⟨c.b5, 0, none⟩, ⟨c.b6, 0, none⟩, ⟨c.b7, 0, none⟩, ⟨c.b11, 0, none⟩, ⟨c.b12, 0, none⟩, q, ())
def LoI (W : World) (c : Cs) (lim clk : Int) (q : Nat) (marks : List Nat) (v : World) : Prop := ∃ Res : Nat → Prop, (∀ b, Cst c b → Res b) ∧ Sw W c.tb lim Res v (clk + q * 3000000000000) ∧ Con c v ∧ MarksOk W Res v marks
theorem walks_body {W : World} {lim clk : Int} {os : List OpK} {c : Cs} {m q : Nat} {marks : List Nat} {w : World} {a : Act} {Q : Exit → Act → World → Prop}
    (hI : LoI W c lim clk q marks w) (hc : clk ≤ 3000000000000) (hq : q < 2) (hsc : Script W c.s os) (hlen : c.ks.length ≤ 1024) (hkl : ∀ l ∈ c.ks, l.length ≤ 300)
    (hs : SlotsD (marks.map markD) 146 a (Cu.encS tw.LD (stD c lim q)))
    (hK : ∀ w' a' marks', LoI W c lim clk (q + 1) marks' w' → SlotsD (marks'.map markD) 146 a' (Cu.encS tw.LD (stD c lim q)) → Q .normal a' w') :
    tw.BODY.wpIn (FR none) m Try.prog Q a w := by
  obtain ⟨Res, hrc, hS, hcon, hmk⟩ := hI
  have noR : ∀ {ds : List Deferred} {n : Nat} {rs : List ResultVar} {cs : List Cx} {Q' : Exit → Act → World → Prop} (e : Exit) (a : Act) (w : World), e ≠ .normal → semQD ds n (endQ Try.prog rs cs fun _ _ => False) e a w → Q' e a w := fun e a w he hq => (endQ_elim (fun _ _ h => h) he hq).elim
  rw [tw.bd]
  obtain ⟨J1, hJ1⟩ : ∃ J1 : St tw.LM → World → Prop, J1 = fun st v => st = stM c lim q w.heap.size ∧ Ex w v ∧ Has v w.heap.size [.int .i64 0] 3 := ⟨_, rfl⟩
  refine wpIn_piece (r := none) (ds := marks.map markD) tw.LM J1 _ _ (culletlaw12_TrieWalks.p10.oks (fun _ _ => False) J1) (culletlaw12_TrieWalks.p10.run (fun _ _ => False) J1 _ _ _ _ _ _ _ w ?_) hs (noR) ?_
  · unfold culletlaw12_TrieWalks.p10.M
    refine Wr_alloc (z := .int .i64 0) (by kernel_rfl) fun v1 hB1 hv1 => ?_
    refine Wu_store (v := .int .i64 0) hB1 (by kernel_rfl) (by simp [Value.cells, Value.oneCell']) (Nat.le_of_ble_eq_true (by kernel_rfl)) fun v2 hB2 hm2 => ?_
    have hB2 : Has v2 w.heap.size [.int .i64 0] 3 := hB2
    rw [hJ1]
    exact ⟨rfl, hv1.into hm2 (fun b h => by rw [h]; exact Nat.le_refl _), hB2⟩
  rw [hJ1]
  rintro _ a1 w1 ⟨rfl, hx1, hbn⟩ hs1
  have hcon1 := hcon.ex hx1
  have hbl := hbn.lt
  have hS1 : Sw W c.tb lim (fun b => Res b ∨ b = w.heap.size) w1 (clk + q * 3000000000000) := hS.grow hx1 (fun b hb => hb.imp id (fun h => by omega))
  refine wpIn_seq ?_
  refine wpIn_seq ?_
  obtain ⟨J2, hJ2⟩ : ∃ J2 : St (tw.LM ++ [(64, .at .any)]) → World → Prop, J2 = fun st v => st = (lim, ⟨c.b5, 0, none⟩, ⟨c.b6, 0, none⟩, ⟨c.b7, 0, none⟩, ⟨c.b11, 0, none⟩, ⟨c.b12, 0, none⟩, (q : Int), ⟨w.heap.size, 0, none⟩, seqV c.bx, ()) ∧ v = w1 := ⟨_, rfl⟩
  refine wpIn_last (r := none) (ds := marks.map markD) (tw.LM ++ [(64, .at .any)]) J2 _ _ (culletlaw12_TrieWalks.p11.oks (fun _ _ => False) J2) (culletlaw12_TrieWalks.p11.run (fun _ _ => False) J2 _ _ _ _ _ _ _ _ w1 ?_) hs1 (noR) ?_
  · unfold culletlaw12_TrieWalks.p11.M
    refine Rd_has (c := .any) (x := seqV c.bx) hcon1.h12 (by kernel_rfl) rfl ?_
    rw [hJ2]
    exact ⟨rfl, rfl⟩
  rw [hJ2]
  rintro _ a2 w2 ⟨rfl, rfl⟩ hs2
  show (Code.block 4 tw.RF).wpIn (FR none) m Try.prog _ a2 w2
  have hWs := hS.ex.size
  refine outer_range hcon1 hS1 (by omega) hsc hbn hlen hkl hrc ⟨hWs, fun h => by have := hS.res _ h; omega⟩ (hmk.mo hx1 (fun _ _ h => h)) hs2 fun w3 a3 hS3 hcon3 hbn3 hmk3 hs3 => ?_
  show (Code.seq _ _).wpIn (FR none) m Try.prog Q a3 w3
  obtain ⟨J3, hJ3⟩ : ∃ J3 : St tw.LD → World → Prop, J3 = fun st v => st = stD c lim q ∧ v = w3 := ⟨_, rfl⟩
  refine wpIn_piece (r := none) (ds := (w2.heap.size :: marks).map markD) tw.LD J3 _ _ (culletlaw12_TrieWalks.p12.oks (fun _ _ => False) J3) (culletlaw12_TrieWalks.p12.run (fun _ _ => False) J3 _ _ _ _ _ _ _ _ w3 ?_) hs3 (noR) ?_
  · unfold culletlaw12_TrieWalks.p12.M
    refine Rd_has (c := .int .i64) (x := (c.ks.length : Int)) hbn3 (by kernel_rfl) rfl ?_
    refine Rd_has (c := .sl) (x := c.want) hcon3.h11 (by kernel_rfl) rfl ?_
    have := nest_len hcon3.n1
    refine Cd_ne (fun h => (h (by omega)).elim) (fun _ => ?_)
    rw [hJ3]
    exact ⟨rfl, rfl⟩
  rw [hJ3]
  rintro _ a4 w4 ⟨rfl, rfl⟩ hs4
  obtain ⟨J4, hJ4⟩ : ∃ J4 : St tw.LD → World → Prop, J4 = fun st v => st = stD c lim q ∧ Mo (fun b => W.heap.size ≤ b ∧ ¬ (Res b ∨ b = w2.heap.size)) w4 v ∧ Sw W c.tb lim (fun b => Res b ∨ b = w2.heap.size) v (clk + q * 3000000000000 + c.ks.length + os.length) := ⟨_, rfl⟩
  refine wpIn_last (r := none) (ds := (w2.heap.size :: marks).map markD) tw.LD J4 _ _ (culletlaw12_TrieWalks.p13.oks (fun _ _ => False) J4) (culletlaw12_TrieWalks.p13.run (fun _ _ => False) J4 _ _ _ _ _ _ _ w4 (walks_p13 hcon3 hS3 (by omega) hsc (fun b hb => .inl (hrc b hb)) fun v hv hSv => by rw [hJ4]; exact ⟨rfl, hv, hSv⟩)) hs4 (noR) ?_
  rw [hJ4]
  rintro _ a5 w5 ⟨rfl, hm5, hS5⟩ hs5
  have hos := hsc.2.2
  exact hK w5 a5 (w2.heap.size :: marks) ⟨_, fun b hb => .inl (hrc b hb), hS5.late (by omega), hcon3.mo hm5 (fun b hb h => h.2 (.inl (hrc b hb))), hmk3.mo hm5 (fun D hD h => h.2 (hmk3.2 D hD).2.1)⟩ hs5
theorem walks_loop {W : World} {lim clk : Int} {os : List OpK} {c : Cs} {m : Nat} {w : World} {a : Act} {Q : Exit → Act → World → Prop}
    (hI : LoI W c lim clk 0 [] w) (hc : clk ≤ 3000000000000) (hsc : Script W c.s os) (hlen : c.ks.length ≤ 1024) (hkl : ∀ l ∈ c.ks, l.length ≤ 300)
    (hs : SlotsD [] 146 a (Cu.encS tw.LD (stD c lim 0)))
    (hK : ∀ w' a' marks', LoI W c lim clk 2 marks' w' → SlotsD (marks'.map markD) 146 a' (Cu.encS tw.LC (stC c lim)) → Q .normal a' w') :
    (Code.block 2 (.loop tw.LB)).wpIn (FR none) m Try.prog Q a w := by
  refine wpIn_block ?_
  refine wpIn_loop_ghost (fun r a v => ∃ (q : Nat) (marks : List Nat), q ≤ 2 ∧ r = 2 - q ∧ LoI W c lim clk q marks v ∧ SlotsD (marks.map markD) 146 a (Cu.encS tw.LD (stD c lim q))) 2 ⟨0, [], by omega, rfl, hI, hs⟩ ?_
  rintro r a1 w1 ⟨q, marks, hq, rfl, hI1, hs1⟩
  have noR : ∀ {ds : List Deferred} {n : Nat} {rs : List ResultVar} {cs : List Cx} {Q' : Exit → Act → World → Prop} (e : Exit) (a : Act) (w : World), e ≠ .normal → semQD ds n (endQ Try.prog rs cs fun _ _ => False) e a w → Q' e a w := fun e a w he hq => (endQ_elim (fun _ _ h => h) he hq).elim
  rw [tw.lb]
  obtain ⟨J1, hJ1⟩ : ∃ J1 : St tw.LD → World → Prop, J1 = fun st v => st = stD c lim q ∧ v = w1 ∧ q < 2 := ⟨_, rfl⟩
  obtain ⟨X1, hX1⟩ : ∃ X1 : St tw.LC → World → Prop, X1 = fun st v => st = stC c lim ∧ v = w1 ∧ ¬ q < 2 := ⟨_, rfl⟩
  refine wpIn_piece (r := none) (ds := marks.map markD) tw.LD J1 _ _ (culletlaw12_TrieWalks.p9.oks (fun _ _ => False) J1 X1) (culletlaw12_TrieWalks.p9.run (fun _ _ => False) J1 X1 _ _ _ _ _ _ _ w1 ?_) hs1 (fun e a2 w2 he hq2 => ?_) ?_
  · unfold culletlaw12_TrieWalks.p9.M
    refine Cd_dec (fun h => ?_) (fun h => ?_)
    · rw [hJ1]; exact ⟨rfl, rfl, by omega⟩
    · rw [hX1]; exact ⟨rfl, rfl, by omega⟩
  · obtain ⟨rfl, st, hX, hsx⟩ := exitQ_elim (fun _ _ h => h) he hq2
    rw [hX1] at hX
    obtain ⟨rfl, rfl, hn⟩ := hX
    obtain rfl : q = 2 := by omega
    simp only [Exit.then, Exit.inBlock, if_true]
    exact hK w2 a2 marks hI1 hsx
  rw [hJ1]
  rintro _ a2 w2 ⟨rfl, rfl, hq2⟩ hs2
  refine wpIn_seq (wpIn_block ?_)
  refine walks_body hI1 hc hq2 hsc hlen hkl hs2 fun w3 a3 marks3 hI3 hs3 => ?_
  show (cR (cR tw.LB)).wpIn (FR none) m Try.prog _ a3 w3
  obtain ⟨J2, hJ2⟩ : ∃ J2 : St tw.LD → World → Prop, J2 = fun st v => st = stD c lim ((q + 1 : Nat) : Int) ∧ v = w3 := ⟨_, rfl⟩
  refine wpIn_last (r := none) (ds := marks3.map markD) tw.LD J2 _ _ (culletlaw12_TrieWalks.p14.oks (fun _ _ => False) J2) (culletlaw12_TrieWalks.p14.run (fun _ _ => False) J2 _ _ _ _ _ _ _ w3 ?_) hs3 (noR) ?_
  · unfold culletlaw12_TrieWalks.p14.M
    rw [hJ2, wrap64 (x := (q : Int) + 1) (by omega) (by omega)]
    exact ⟨rfl, rfl⟩
  rw [hJ2]
  rintro _ a4 w4 ⟨rfl, rfl⟩ hs4
  exact ⟨2 - (q + 1), by omega, q + 1, marks3, by omega, rfl, hI3, hs4⟩
end Go.Proofs.Ytdnlnloogfnlgaa
