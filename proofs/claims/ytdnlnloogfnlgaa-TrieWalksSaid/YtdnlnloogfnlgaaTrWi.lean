/- culletlaw12.TrieWalks: the whole. -/
import Derived.Test.YtdnlnloogfnlgaaTrWh
set_option linter.all false
namespace Go.Proofs.Ytdnlnloogfnlgaa
open Go Go.Cu Go.RowKit
set_option linter.unusedVariables false
set_option maxHeartbeats 4000000
set_option maxRecDepth 100000
noncomputable abbrev tw.c0 : Code := culletlaw12_TrieWalks.code
theorem tw.e0 : tw.c0 = .seq (cL tw.c0) (cR tw.c0) := by kernel_rfl
theorem tw.e1 : cR tw.c0 = .seq (cL (cR tw.c0)) (cR (cR tw.c0)) := by kernel_rfl
theorem tw.e2 : cR (cR tw.c0) = .seq (cL (cR (cR tw.c0))) (cR (cR (cR tw.c0))) := by kernel_rfl
theorem tw.e3 : cR (cR (cR tw.c0)) = .seq (cL (cR (cR (cR tw.c0)))) (cR (cR (cR (cR tw.c0)))) := by kernel_rfl
theorem tw.e4 : cR (cR (cR (cR tw.c0))) = .seq (cL (cR (cR (cR (cR tw.c0))))) (cR (cR (cR (cR (cR tw.c0))))) := by kernel_rfl
theorem tw.e5 : cR (cR (cR (cR (cR tw.c0)))) = .seq (cL (cR (cR (cR (cR (cR tw.c0)))))) (cR (cR (cR (cR (cR (cR tw.c0)))))) := by kernel_rfl
theorem tw.e6 : cR (cR (cR (cR (cR (cR tw.c0))))) = .seq (cL (cR (cR (cR (cR (cR (cR tw.c0))))))) (cR (cR (cR (cR (cR (cR (cR tw.c0))))))) := by kernel_rfl
theorem tw.e7 : cR (cR (cR (cR (cR (cR (cR tw.c0)))))) = .seq (cL (cR (cR (cR (cR (cR (cR (cR tw.c0)))))))) tw.c8 := by kernel_rfl
theorem walks_end {W : World} {lim clk : Int} {os : List OpK} {c : Cs} {w : World} {a : Act}
    (hI : LoI W c lim clk 0 [] w) (hc : clk ≤ 3000000000000) (hsc : Script W c.s os) (hlen : c.ks.length ≤ 1024) (hkl : ∀ l ∈ c.ks, l.length ≤ 300) (h6 : W.heap.size ≤ c.b6)
    (hs : SlotsD [] 146 a (Cu.encS tw.LC (stC c lim))) :
    tw.c8.wpIn Fence.wide 0 Try.prog (bodyPostM Fence.wide 0 Try.prog Try.f10 (fun en w' => en = .returned (.bool true) ∧ Ex W w')) a w := by
  have noR : ∀ {ds : List Deferred} {n : Nat} {rs : List ResultVar} {cs : List Cx} {Q' : Exit → Act → World → Prop} (e : Exit) (a : Act) (w : World), e ≠ .normal → semQD ds n (endQ Try.prog rs cs fun _ _ => False) e a w → Q' e a w := fun e a w he hq => (endQ_elim (fun _ _ h => h) he hq).elim
  rw [tw.e8, ← FR_none]
  refine wpIn_seq ?_
  obtain ⟨J1, hJ1⟩ : ∃ J1 : St tw.LD → World → Prop, J1 = fun st v => st = stD c lim 0 ∧ v = w := ⟨_, rfl⟩
  refine wpIn_piece (r := none) (ds := []) tw.LD J1 _ _ (culletlaw12_TrieWalks.p8.oks (fun _ _ => False) J1) (culletlaw12_TrieWalks.p8.run (fun _ _ => False) J1 _ _ _ _ _ _ w (by unfold culletlaw12_TrieWalks.p8.M; rw [hJ1]; exact ⟨rfl, rfl⟩)) hs (noR) ?_
  rw [hJ1]
  rintro _ a1 w1 ⟨rfl, rfl⟩ hs1
  refine walks_loop hI hc hsc hlen hkl hs1 fun w2 a2 marks hI2 hs2 => ?_
  show (Code.seq (cL (cR tw.c8)) .ret).wpIn (FR none) 0 Try.prog _ a2 w2
  obtain ⟨Res, hrc, hS, hcon, hmk⟩ := hI2
  obtain ⟨J2, hJ2⟩ : ∃ J2 : St [(6, .at .addr)] → World → Prop, J2 = fun st v => st = (⟨c.b6, 0, none⟩, ()) ∧ Has v c.b6 [.bool true] 4 ∧ Mo (fun b => b = c.b6) w2 v := ⟨_, rfl⟩
  refine wpIn_piece (r := none) (ds := marks.map markD) [(6, .at .addr)] J2 _ _ (culletlaw12_TrieWalks.p15.oks (fun _ _ => False) J2) (culletlaw12_TrieWalks.p15.run (fun _ _ => False) J2 _ _ _ _ _ _ w2 ?_) hs2 (noR) ?_
  · unfold culletlaw12_TrieWalks.p15.M
    refine Rd_has (c := .ptr) (x := some ⟨c.tb, 0, none⟩) hcon.h7 (by kernel_rfl) rfl ?_
    obtain ⟨own, es, clock, k1, k2, k3⟩ := hS.tri
    refine Cl_gv (d := .one (.at .bool)) (x := true) (view_gv k2 (by omega)) fun v hv => ?_
    refine Wu_store (v := .bool true) (hcon.h6.ex hv) (by kernel_rfl) (by simp [Value.cells, Value.oneCell']) (Nat.le_of_ble_eq_true (by kernel_rfl)) fun v2 hB2 hm2 => ?_
    rw [hJ2]
    exact ⟨rfl, hB2, hv.mo hm2⟩
  rw [hJ2]
  rintro _ a3 w3 ⟨rfl, hb6, hm3⟩ hs3
  refine wpIn_ret ?_
  show LeavesInM _ _ _ _ _ _ a3.defers .returning w3
  rw [hs3.defers]
  have hmk3 := hmk.mo hm3 (fun D hD e => by
    have h1 := (hmk.2 D hD).1
    have h2 := hcon.h6
    unfold Has at h2
    rw [e, h2] at h1
    cases h1)
  exact leaves_marks hs3.base rfl marks w3 hmk3.1 (fun D hD => ⟨(hmk3.2 D hD).1, (hmk3.2 D hD).2.2⟩) hb6 (hS.ex.into hm3 (fun b e => e ▸ h6))
theorem walks_law (lim : Int) (s s2 : Sl) (os os2 : List OpK) (W : World) (hs : Script W s os) (hs2 : Script W s2 os2) : Gv Try.prog 10 #[.int .i64 lim, slv s, slv s2] (.bool true) W := by
  refine (callsIn_wide (n := 0)).1 (callsIn_of_wp_marks (F := Fence.wide) (c := tw.c0) Try.func10 (by kernel_rfl) trivial ?_)
  have hn : Try.f10.ntmps = 146 := by kernel_rfl
  rw [hn]
  have hos := hs.2.2
  have noR : ∀ {ds : List Deferred} {n : Nat} {rs : List ResultVar} {cs : List Cx} {Q' : Exit → Act → World → Prop} (e : Exit) (a : Act) (w : World), e ≠ .normal → semQD ds n (endQ Try.prog rs cs fun _ _ => False) e a w → Q' e a w := fun e a w he hq => (endQ_elim (fun _ _ h => h) he hq).elim
  have hs0 : SlotsD [] 146 { tmps := #[.int .i64 lim, slv s, slv s2] ++ Array.replicate (146 - #[Value.int .i64 lim, slv s, slv s2].size) undef, defers := [] } (Cu.encS [(0, .at (.int .i64)), (1, .at .sl), (2, .at .sl)] (lim, s, s2, ())) := (Slots.start (n := 146) #[.int .i64 lim, slv s, slv s2] (by simp)).toD
  rw [tw.e0, ← FR_none]
  obtain ⟨J0, hJ0⟩ : ∃ J0 : St [(0, .at (.int .i64)), (1, .at .sl), (5, .at .addr), (6, .at .addr)] → World → Prop, J0 = fun st v => ∃ b5 b6, st = (lim, s, ⟨b5, 0, none⟩, ⟨b6, 0, none⟩, ()) ∧ Has v b5 [slv s2] 22 ∧ Has v b6 [.bool false] 4 ∧ Ex W v ∧ W.heap.size ≤ b5 ∧ W.heap.size ≤ b6 := ⟨_, rfl⟩
  refine wpIn_piece (r := none) (ds := []) _ J0 _ _ (culletlaw12_TrieWalks.p0.oks (fun _ _ => False) J0) (culletlaw12_TrieWalks.p0.run (fun _ _ => False) J0 lim s s2 W ?_) hs0 (noR) ?_
  · unfold culletlaw12_TrieWalks.p0.M
    refine Wr_box fun v1 hB1 hv1 => ?_
    refine Wr_alloc (z := .bool false) (by kernel_rfl) fun v2 hB2 hv2 => ?_
    rw [hJ0]
    exact ⟨_, _, rfl, Has.ex hB1 hv2, hB2, hv1.trans hv2, Nat.le_refl _, hv1.size⟩
  rw [hJ0]
  rintro _ a0 w0 ⟨b5, b6, rfl, h5, h6, hx0, l5, l6⟩ hs0'
  rw [tw.e1]
  obtain ⟨J1, hJ1⟩ : ∃ J1 : St [(0, .at (.int .i64)), (1, .at .sl), (5, .at .addr), (6, .at .addr), (7, .at .addr), (8, .at (.int .i64))] → World → Prop, J1 = fun st v => ∃ b7 p e, st = (lim, s, ⟨b5, 0, none⟩, ⟨b6, 0, none⟩, ⟨b7, 0, none⟩, e, ()) ∧ Has v b7 [.pointer p] 23 ∧ w0.heap.size ≤ b7 ∧ Ex w0 v ∧
      ((lim < 1 ∨ lim > 1024) ∧ p = none ∧ e = 7 ∨ ¬ (lim < 1 ∨ lim > 1024) ∧ e = 0 ∧ ∃ tb, p = some ⟨tb, 0, none⟩ ∧ TrieSt v (fun b => w0.heap.size ≤ b ∧ b < b7) tb lim [] 0) := ⟨_, rfl⟩
  refine wpIn_piece (r := none) (ds := []) _ J1 _ _ (culletlaw12_TrieWalks.p1.oks (fun _ _ => False) J1) (culletlaw12_TrieWalks.p1.run (fun _ _ => False) J1 _ _ _ _ w0 ?_) hs0' (noR) ?_
  · unfold culletlaw12_TrieWalks.p1.M
    refine Cl_of (new_ok lim w0) ?_
    rintro en v1 ⟨hv1, (⟨hb, rfl⟩ | ⟨hb, tb, rfl, htb, hst⟩)⟩
    · refine ⟨(none, 7, ()), rfl, ?_⟩
      refine Wr_alloc (z := .pointer none) (by kernel_rfl) fun v2 hB2 hv2 => ?_
      refine Wu_store (v := .pointer none) hB2 (by kernel_rfl) (by simp [Value.cells, Value.oneCell']) (Nat.le_of_ble_eq_true (by kernel_rfl)) fun v3 hB3 hm3 => ?_
      rw [hJ1]
      exact ⟨_, _, _, rfl, hB3, hv1.size, hv1.trans (hv2.into hm3 (fun b e => by rw [e]; exact Nat.le_refl _)), .inl ⟨hb, rfl, rfl⟩⟩
    · refine ⟨(some ⟨tb, 0, none⟩, 0, ()), rfl, ?_⟩
      refine Wr_alloc (z := .pointer none) (by kernel_rfl) fun v2 hB2 hv2 => ?_
      refine Wu_store (v := .pointer (some ⟨tb, 0, none⟩)) hB2 (by kernel_rfl) (by simp [Value.cells, Value.oneCell']) (Nat.le_of_ble_eq_true (by kernel_rfl)) fun v3 hB3 hm3 => ?_
      have hv3 : Ex v1 v3 := hv2.into hm3 (fun b e => by rw [e]; exact Nat.le_refl _)
      rw [hJ1]
      exact ⟨_, _, _, rfl, hB3, hv1.size, hv1.trans hv3, .inr ⟨hb, rfl, tb, rfl, hst.ex hv3⟩⟩
  rw [hJ1]
  rintro _ a1 w1 ⟨b7, p, e, rfl, h7, l7, hx1, hcase⟩ hs1
  have hx01 := hx0.trans hx1
  rw [tw.e2]
  obtain ⟨J2, hJ2⟩ : ∃ J2 : St [(0, .at (.int .i64)), (1, .at .sl), (5, .at .addr), (6, .at .addr), (7, .at .addr), (8, .at (.int .i64))] → World → Prop, J2 = fun st v => st = (lim, s, ⟨b5, 0, none⟩, ⟨b6, 0, none⟩, ⟨b7, 0, none⟩, e, ()) ∧ Ex w1 v := ⟨_, rfl⟩
  refine wpIn_piece (r := none) (ds := []) _ J2 _ _ (culletlaw12_TrieWalks.p2.oks (fun _ _ => False) J2) (culletlaw12_TrieWalks.p2.run (fun _ _ => False) J2 _ _ _ _ _ _ w1 ?_) hs1 (noR) ?_
  · unfold culletlaw12_TrieWalks.p2.M
    refine Cl_gv (d := .one (.at .bool)) (x := true) (fixed_gv w1) fun v hv => ?_
    have fin : ∀ b, b = false → culletlaw12_TrieWalks.p2.j1 (fun _ _ => False) J2 lim s ⟨b5, 0, none⟩ ⟨b6, 0, none⟩ ⟨b7, 0, none⟩ e b v := by
      rintro b rfl
      unfold culletlaw12_TrieWalks.p2.j1
      refine Cd_f ?_
      rw [hJ2]
      exact ⟨rfl, hv⟩
    refine Cd_f ?_
    rcases hcase with ⟨hb, _, rfl⟩ | ⟨hb, rfl, _⟩
    · refine Cd_dec (fun h => fin _ ?_) (fun _ => fin _ rfl)
      have : ¬ lim ≤ 1024 := by omega
      simp [this]
    · have hl2 : lim ≤ 1024 := by omega
      refine Cd_dec (fun _ => fin _ ?_) (fun h => absurd (by omega) h)
      simp [hl2]
  rw [hJ2]
  rintro _ a2 w2 ⟨rfl, hx2⟩ hs2'
  rw [tw.e3]
  obtain ⟨J3, hJ3⟩ : ∃ J3 : St [(0, .at (.int .i64)), (1, .at .sl), (5, .at .addr), (6, .at .addr), (7, .at .addr)] → World → Prop, J3 = fun st v => st = (lim, s, ⟨b5, 0, none⟩, ⟨b6, 0, none⟩, ⟨b7, 0, none⟩, ()) ∧ v = w2 ∧ e = 0 := ⟨_, rfl⟩
  refine wpIn_piece (r := none) (ds := []) _ J3 _ _ (culletlaw12_TrieWalks.p3.oks (fun en w' => en = .returned (.bool true) ∧ Ex W w') J3) (culletlaw12_TrieWalks.p3.run (fun en w' => en = .returned (.bool true) ∧ Ex W w') J3 _ _ _ _ _ _ w2 ?_) hs2' (fun en a3 w3 he hq => ?_) ?_
  · unfold culletlaw12_TrieWalks.p3.M
    refine Cd_ne (fun hne => ?_) (fun h0 => ?_)
    · rcases hcase with ⟨hb, rfl, rfl⟩ | ⟨hb, rfl, _⟩
      · refine Rd_has (c := .ptr) (x := none) (h7.ex hx2) (by kernel_rfl) rfl ?_
        refine Pu_eqnil tT ?_
        refine Wu_store (v := .bool true) ((h6.ex hx1).ex hx2) (by kernel_rfl) (by simp [Value.cells, Value.oneCell']) (Nat.le_of_ble_eq_true (by kernel_rfl)) fun v hB hm => ?_
        exact ⟨true, load_bool hB, rfl, (hx01.trans hx2).into hm (fun b e => e ▸ l6)⟩
      · exact (hne rfl).elim
    · rw [hJ3]; exact ⟨rfl, rfl, h0⟩
  · cases en <;> simp only [semQD, endQ] at hq
    case normal => exact (he rfl).elim
    case ret =>
      obtain ⟨L, hsl, hl⟩ := hq
      obtain ⟨vs, q1, q2⟩ := results_run (fn := Try.f10) hsl.base (cs := [.at .bool]) (by rw [show Try.f10.results.toList = [.cell 6 4] by kernel_rfl]; exact hl)
      show LeavesInM _ _ _ _ _ _ a3.defers .returning w3
      rw [hsl.defers]
      exact ⟨_, q1, q2⟩
    all_goals first | exact hq.elim | (obtain ⟨_, _, hq⟩ := hq; exact hq.elim)
  rw [hJ3]
  rintro _ a3 w3 ⟨rfl, rfl, rfl⟩ hs3
  obtain ⟨hb, _, tb, rfl, hst⟩ : ¬ (lim < 1 ∨ lim > 1024) ∧ (0 : Int) = 0 ∧ ∃ tb, p = some ⟨tb, 0, none⟩ ∧ TrieSt w1 (fun b => w0.heap.size ≤ b ∧ b < b7) tb lim [] 0 := by
    rcases hcase with ⟨_, _, h⟩ | h
    · cases h
    · exact h
  have b7l := h7.lt
  have hW0 := hx0.size
  have b5l := h5.lt
  have b6l := h6.lt
  obtain ⟨Res, hRes⟩ : ∃ Res : Nat → Prop, Res = fun b => b = b5 ∨ b = b6 ∨ b = b7 := ⟨_, rfl⟩
  have hS1 : Sw W tb lim Res w1 0 := by
    rw [hRes]
    exact ⟨hx01, fun b hb => by have := hx1.size; omega, _, [], 0, fun b hb => ⟨by omega, by omega⟩, hst, Int.le_refl _⟩
  have hS3 := hS1.more hx2
  have hr7 : Res b7 := by rw [hRes]; exact .inr (.inr rfl)
  rw [tw.e4]
  obtain ⟨J4, hJ4⟩ : ∃ J4 : St [(0, .at (.int .i64)), (5, .at .addr), (6, .at .addr), (7, .at .addr)] → World → Prop, J4 = fun st v => st = (lim, ⟨b5, 0, none⟩, ⟨b6, 0, none⟩, ⟨b7, 0, none⟩, ()) ∧ Mo (fun b => W.heap.size ≤ b ∧ ¬ Res b) w3 v ∧ Sw W tb lim Res v (0 + os.length) := ⟨_, rfl⟩
  refine wpIn_piece (r := none) (ds := []) _ J4 _ _ (culletlaw12_TrieWalks.p4.oks (fun _ _ => False) J4) (culletlaw12_TrieWalks.p4.run (fun _ _ => False) J4 _ _ _ _ _ w3 (walks_p4 (h7.ex hx2) hS3 (by omega) hs hr7 fun v hv hSv => by rw [hJ4]; exact ⟨rfl, hv, hSv⟩)) hs3 (noR) ?_
  rw [hJ4]
  rintro _ a4 w4 ⟨rfl, hm4, hS4⟩ hs4
  have g7 : Has w4 b7 [.pointer (some ⟨tb, 0, none⟩)] 23 := (h7.ex hx2).mo hm4 (fun h => h.2 hr7)
  have g5 : Has w4 b5 [slv s2] 22 := ((h5.ex hx1).ex hx2).mo hm4 (fun h => h.2 (by rw [hRes]; exact .inl rfl))
  have g6 : Has w4 b6 [.bool false] 4 := ((h6.ex hx1).ex hx2).mo hm4 (fun h => h.2 (by rw [hRes]; exact .inr (.inl rfl)))
  obtain ⟨own, es, clock, t1, t2, t3⟩ := hS4.tri
  rw [tw.e5]
  obtain ⟨J5, hJ5⟩ : ∃ J5 : St [(0, .at (.int .i64)), (5, .at .addr), (6, .at .addr), (7, .at .addr), (11, .at .addr)] → World → Prop, J5 = fun st v => ∃ b11 want ks, st = (lim, ⟨b5, 0, none⟩, ⟨b6, 0, none⟩, ⟨b7, 0, none⟩, ⟨b11, 0, none⟩, ()) ∧ Has v b11 [slv want] 45 ∧ Nest i64v (fun b => w4.heap.size ≤ b ∧ b < b11) v want ks ∧ w4.heap.size ≤ b11 ∧ KeysUnder es [] ks ∧ ks.length ≤ 1024 ∧ (∀ k ∈ ks, k.length ≤ 300) ∧ Ex w4 v := ⟨_, rfl⟩
  refine wpIn_piece (r := none) (ds := []) _ J5 _ _ (culletlaw12_TrieWalks.p5.oks (fun _ _ => False) J5) (culletlaw12_TrieWalks.p5.run (fun _ _ => False) J5 _ _ _ _ w4 ?_) hs4 (noR) ?_
  · unfold culletlaw12_TrieWalks.p5.M
    refine Rd_has (c := .ptr) (x := some ⟨tb, 0, none⟩) g7 (by kernel_rfl) rfl ?_
    refine Cl_of (gives_some t2) ?_
    rintro en v1 ⟨s1, ks, rfl, hn1, hku, hl1, hll1, hv1⟩
    refine ⟨s1, rfl, ?_⟩
    refine Wr_alloc (z := slv nilS) (by kernel_rfl) fun v2 hB2 hv2 => ?_
    refine Wu_store (v := slv s1) hB2 (by kernel_rfl) (by simp [Value.cells, Value.oneCell']) (Nat.le_of_ble_eq_true (by kernel_rfl)) fun v3 hB3 hm3 => ?_
    have hv3 : Ex v1 v3 := hv2.into hm3 (fun b e => by rw [e]; exact Nat.le_refl _)
    rw [hJ5]
    exact ⟨_, s1, ks, rfl, hB3, hn1.nest.ex hv3, hv1.size, hku, hl1, hll1, hv1.trans hv3⟩
  rw [hJ5]
  rintro _ a5 w5 ⟨b11, want, ks, rfl, g11, gn1, l11, hku, hkl, hkk, hx5⟩ hs5
  rw [tw.e6]
  obtain ⟨J6, hJ6⟩ : ∃ J6 : St [(0, .at (.int .i64)), (5, .at .addr), (6, .at .addr), (7, .at .addr), (11, .at .addr), (12, .at .addr)] → World → Prop, J6 = fun st v => ∃ b12 bx sl, st = (lim, ⟨b5, 0, none⟩, ⟨b6, 0, none⟩, ⟨b7, 0, none⟩, ⟨b11, 0, none⟩, ⟨b12, 0, none⟩, ()) ∧ Has v b12 [seqV bx] 71 ∧ Has v bx [slv sl] 45 ∧ Nest i64v (fun b => w5.heap.size ≤ b ∧ b < bx) v sl ks ∧ w5.heap.size ≤ bx ∧ bx < b12 ∧ Ex w5 v := ⟨_, rfl⟩
  refine wpIn_piece (r := none) (ds := []) _ J6 _ _ (culletlaw12_TrieWalks.p6.oks (fun _ _ => False) J6) (culletlaw12_TrieWalks.p6.run (fun _ _ => False) J6 _ _ _ _ _ w5 ?_) hs5 (noR) ?_
  · unfold culletlaw12_TrieWalks.p6.M
    refine Rd_has (c := .ptr) (x := some ⟨tb, 0, none⟩) (g7.ex hx5) (by kernel_rfl) rfl ?_
    refine Cl_of (all_ok (gives_some (t2.ex hx5))) ?_
    rintro en v1 ⟨bx, sl, ks2, rfl, hB1, hn1, hbx, hku2, _, _, hv1⟩
    refine ⟨seqV bx, rfl, ?_⟩
    have heq : ks2 = ks := sorted_unique _ _ hku2.order hku.order fun x => by rw [hku2.mem, hku.mem]
    rw [heq] at hn1
    refine Wr_alloc (z := .nilFunc) (by kernel_rfl) fun v2 hB2 hv2 => ?_
    refine Wu_store (v := seqV bx) hB2 (by kernel_rfl) (by simp [Value.cells, Value.oneCell']) (Nat.le_of_ble_eq_true (by kernel_rfl)) fun v3 hB3 hm3 => ?_
    have hv3 : Ex v1 v3 := hv2.into hm3 (fun b e => by rw [e]; exact Nat.le_refl _)
    rw [hJ6]
    exact ⟨_, bx, sl, rfl, hB3, hB1.ex hv3, hn1.ex hv3, hbx, hB1.lt, hv1.trans hv3⟩
  rw [hJ6]
  rintro _ a6 w6 ⟨b12, bx, sl, rfl, g12, gx, gn2, lbx, l12, hx6⟩ hs6
  rw [tw.e7]
  obtain ⟨J7, hJ7⟩ : ∃ J7 : St tw.LC → World → Prop, J7 = fun st v => st = (lim, ⟨b5, 0, none⟩, ⟨b6, 0, none⟩, ⟨b7, 0, none⟩, ⟨b11, 0, none⟩, ⟨b12, 0, none⟩, ()) ∧ v = w6 := ⟨_, rfl⟩
  refine wpIn_piece (r := none) (ds := []) tw.LC J7 _ _ (culletlaw12_TrieWalks.p7.oks (fun _ _ => False) J7) (culletlaw12_TrieWalks.p7.run (fun _ _ => False) J7 _ _ _ _ _ _ w6 ?_) hs6 (noR) ?_
  · unfold culletlaw12_TrieWalks.p7.M
    refine Rd_has (c := .any) (x := seqV bx) g12 (by kernel_rfl) rfl ?_
    refine Pu_eqnilF (Cd_f ?_)
    rw [hJ7]
    exact ⟨rfl, rfl⟩
  rw [hJ7]
  rintro _ a7 w7 ⟨rfl, rfl⟩ hs7
  have hx56 := hx5.trans hx6
  have l12l := g12.lt
  have z5 := hx5.size
  have z6 := hx6.size
  have l11l := g11.lt
  obtain ⟨c, hcd⟩ : ∃ c : Cs, c = ⟨b5, b6, b7, b11, b12, bx, s2, want, sl, ks, fun b => (w4.heap.size ≤ b ∧ b < b11) ∨ (w5.heap.size ≤ b ∧ b < bx), tb⟩ := ⟨_, rfl⟩
  have hcon : Con c w7 := by
    rw [hcd]
    exact ⟨g5.ex hx56, g6.ex hx56, g7.ex hx56, g11.ex hx6, g12, gx, (gn1.ex hx6).weak (fun b hb => .inl hb), gn2.weak (fun b hb => .inr hb)⟩
  have hS7 : Sw W tb lim (Cst c) w7 (0 + os.length) := hS4.grow hx56 (fun b hb => by
    rw [hcd] at hb
    rw [hRes]
    rcases hb with hb | hb | hb | hb | hb | hb | hb
    · exact .inl (.inl hb)
    · exact .inl (.inr (.inl hb))
    · exact .inl (.inr (.inr hb))
    · dsimp only at hb; exact .inr ⟨by omega, by omega⟩
    · dsimp only at hb; exact .inr ⟨by omega, by omega⟩
    · dsimp only at hb; exact .inr ⟨by omega, by omega⟩
    · dsimp only at hb; exact .inr ⟨by omega, by omega⟩)
  rw [FR_none]
  have hes : SlotsD [] 146 a7 (Cu.encS tw.LC (stC c lim)) := by rw [hcd]; exact hs7
  refine walks_end (c := c) (clk := os.length) (os := os2) ⟨Cst c, fun _ h => h, ?_, hcon, List.nodup_nil, fun D hD => by cases hD⟩ (by omega) (by rw [hcd]; exact hs2) (by rw [hcd]; exact hkl) (by rw [hcd]; exact hkk) (by rw [hcd]; exact l6) hes
  have htb : c.tb = tb := by rw [hcd]
  rw [htb]
  exact hS7.late (by omega)
end Go.Proofs.Ytdnlnloogfnlgaa
