/- The document's codes are made without a fault: the long family's tables; the code of any parameters. -/
import Derived.Test.YtmmejgneelkhkaaDoorSpL
set_option linter.all false
namespace Go.Proofs.YtmmejgneelkhkaaDoor
open Go Go.Cu Go.RowKit
set_option linter.unusedVariables false
set_option maxHeartbeats 2000000
set_option maxRecDepth 100000
theorem wrap_u16 (x : Int) : 0 ≤ IntKind.wrap .u16 x ∧ IntKind.wrap .u16 x < 65536 := by
  unfold IntKind.wrap
  simp [IntKind.bits, IntKind.signed]
  omega
theorem exps_sf (w : World) : Cl Tryd.prog 60 #[] (.one (.at .sl)) (fun s w' => (∃ l : List Int, l.length = 65535 ∧ (∀ v ∈ l, 0 ≤ v ∧ v < 65536) ∧ Cu.Own u16v 187 w.heap.size w' s l) ∧ Ex w w') w := by
  refine culletref03_Exps.run _ w ?_
  unfold culletref03_Exps.M
  refine Wr_make (f := u16v) (z := 0) tW iW rfl 65535 (by omega) (by omega) rfl rfl fun s w1 hs hB1 hx1 => ?_
  have ho : Cu.Own u16v 187 w.heap.size w1 s (List.replicate 65535 0) := by
    rw [hs]; exact own_of_has (List.length_replicate ..) (by omega) hB1 (Nat.le_refl _)
  have hL : ∃ l : List Int, l = List.replicate 65535 0 := ⟨_, rfl⟩
  obtain ⟨l0, hl0⟩ := hL
  rw [← hl0] at ho
  have h0l : l0.length = 65535 := by rw [hl0, List.length_replicate]
  have h0v : ∀ v ∈ l0, 0 ≤ v ∧ v < 65536 := fun v hv => by rw [hl0] at hv; rw [List.eq_of_mem_replicate hv]; decide
  clear hl0
  unfold culletref03_Exps.l1
  refine loopW_of (fun st w' => ∃ (x : Int) (e : Nat) (l : List Int), st = (s, x, (e : Int), ()) ∧ e ≤ 65535 ∧ l.length = 65535 ∧ (∀ v ∈ l, 0 ≤ v ∧ v < 65536) ∧ Cu.Own u16v 187 w.heap.size w' s l ∧ Ex w w') (fun st _ => (65535 - st.2.2.1).toNat) ?_ ⟨1, 0, l0, rfl, Nat.zero_le _, h0l, h0v, ho, hx1⟩
  rintro k _ w2 ⟨x, e, l, rfl, he, hl, hv, ho2, hx2⟩ hk
  unfold culletref03_Exps.b1
  dsimp only at hk ⊢
  refine Cd_dec (fun hlt => ?_) (fun _ => ⟨s, rfl, ⟨l, hl, hv, ho2⟩, hx2⟩)
  refine Wu_set (f := u16v) (x := IntKind.wrap .u16 x) ho2 (by omega) tW sW sW rfl rfl fun w3 ho3 hm3 => ?_
  have nxt : ∀ x' : Int, culletref03_Exps.j1 (fun e w' => ∃ s : Sl, e = Ending.returned ((Sh.one (.at .sl)).enc s) ∧ (∃ l : List Int, l.length = 65535 ∧ (∀ v ∈ l, 0 ≤ v ∧ v < 65536) ∧ Cu.Own u16v 187 w.heap.size w' s l) ∧ Ex w w') k s x' (e : Int) w3 := by
    intro x'
    unfold culletref03_Exps.j1
    rw [wrap64 (by omega) (by omega), show (e : Int) + 1 = ((e + 1 : Nat) : Int) by omega]
    refine hk _ _ ⟨x', e + 1, _, rfl, by omega, by rw [List.length_set]; exact hl, fun v hv' => ?_, ho3, hx2.into hm3 (fun b hb => (ho2.base b hb).1)⟩ (by dsimp only; omega)
    rcases List.mem_or_eq_of_mem_set hv' with h | h
    · exact hv v h
    · rw [h]; exact wrap_u16 x
  exact Cd_dec (fun _ => nxt _) (fun _ => nxt _)
theorem loglist_sf (w : World) : Cl Tryd.prog 59 #[] (.one (.at .sl)) (fun s w' => Ex w w') w := by
  refine culletref03_LogList.run _ w ?_
  unfold culletref03_LogList.M
  refine Wr_make (f := i64v) (z := 0) tI iI rfl 65536 (by omega) (by omega) rfl rfl fun s w1 hs hB1 hx1 => ?_
  have ho : Cu.Own i64v 3 w.heap.size w1 s (List.replicate 65536 0) := by
    rw [hs]; exact own_of_has (List.length_replicate ..) (by omega) hB1 (Nat.le_refl _)
  have hL : ∃ l : List Int, l = List.replicate 65536 0 := ⟨_, rfl⟩
  obtain ⟨l0, hl0⟩ := hL
  rw [← hl0] at ho
  have h0l : l0.length = 65536 := by rw [hl0, List.length_replicate]
  clear hl0 hB1
  refine Wu_set (f := i64v) (x := (-1 : Int)) (i := 0) ho (by omega) tI sI sI rfl rfl fun w2 ho2 hm2 => ?_
  have hx2 : Ex w w2 := hx1.into hm2 (fun b hb => (ho.base b hb).1)
  refine Cl_mono (exps_sf w2) ?_
  rintro es w3 ⟨⟨el, hel, hev, heo⟩, hx3⟩
  have h1l : (l0.set 0 (-1)).length = 65536 := by rw [List.length_set]; exact h0l
  have ho3 := ho2.ex hx3
  generalize l0.set 0 (-1) = l1 at h1l ho3
  unfold culletref03_LogList.l1
  have hesl : es.len = 65535 := by rw [← hel]; exact heo.1
  refine loopW_of (fun st w' => ∃ (i : Nat) (l : List Int), st = (s, es, ((es.len : Nat) : Int), (i : Int), ()) ∧ i ≤ 65535 ∧ l.length = 65536 ∧ Cu.Own i64v 3 w.heap.size w' s l ∧ Rds u16v w' es el ∧ Ex w w') (fun st _ => (65535 - st.2.2.2.1).toNat) ?_ ⟨0, l1, rfl, Nat.zero_le _, h1l, ho3, heo.rds, hx2.trans hx3⟩
  rintro k _ w4 ⟨i, l, rfl, hi, hl, ho4, he4, hx4⟩ hk
  unfold culletref03_LogList.b1
  dsimp only at hk ⊢
  refine Cd_dec (fun hlt => ?_) (fun _ => ⟨s, rfl, hx4⟩)
  have hlt : i < 65535 := by omega
  refine Pu_idx he4 tW sW (by omega) (by omega) fun a x hx hcell _ => ?_
  refine Rd_one (c := .int .u16) (x := x) (by kernel_rfl) hcell ?_
  obtain ⟨hv0, hv1⟩ := hev x (List.mem_of_getElem? hx)
  obtain ⟨xn, rfl⟩ : ∃ xn : Nat, x = (xn : Int) := ⟨x.toNat, by omega⟩
  refine Wu_set (f := i64v) (x := (i : Int)) ho4 (by omega) tI sI sI rfl rfl fun w5 ho5 hm5 => ?_
  rw [wrap64 (by omega) (by omega), show (i : Int) + 1 = ((i + 1 : Nat) : Int) by omega]
  refine hk _ _ ⟨i + 1, _, rfl, by omega, by rw [List.length_set]; exact hl, ho5, ?_, hx4.into hm5 (fun b hb => (ho4.base b hb).1)⟩ (by dsimp only; omega)
  exact he4.mo hm5 (fun a ha hb => by
    have h1 := (heo.base _ (slin_of ha)).1
    have h2 := (ho2.base _ hb).2
    omega)
theorem power_cl (n : Int) (h0 : 1 ≤ n) (h : n ≤ 65536) (w : World) : Cl Tryd.prog 57 #[.int .i64 n] (.tup [.at (.int .i64), .at (.int .i64)]) (fun x w' => (∃ e : Nat, e ≤ 16 ∧ x = (pow2F n, (e : Int), ())) ∧ Ex w w') w := by
  refine culletref18_power.run _ n w ?_
  unfold culletref18_power.M culletref18_power.l1
  have pw : ∀ e : Nat, e ≤ 16 → ((2 ^ e : Nat) : Int) ≤ 65536 ∧ 1 ≤ ((2 ^ e : Nat) : Int) := by
    intro e he
    have h1 : 2 ^ e ≤ 2 ^ 16 := Nat.pow_le_pow_right (by decide) he
    have h2 : 0 < 2 ^ e := Nat.pow_pos (by decide)
    have h3 : (2 : Nat) ^ 16 = 65536 := by decide
    omega
  refine loopW_of (fun st w' => ∃ e : Nat, st = (n, ((2 ^ e : Nat) : Int), (e : Int), ()) ∧ e ≤ 16 ∧ pwF (17 - e) ((2 ^ e : Nat) : Int) n = pow2F n ∧ w' = w) (fun st _ => (65536 * 2 - st.2.1).toNat) ?_ ⟨0, rfl, by decide, rfl, rfl⟩
  rintro k _ w' ⟨e, rfl, he, hp, rfl⟩ hk
  unfold culletref18_power.b1
  dsimp only at hk ⊢
  obtain ⟨hp1, hp2⟩ := pw e he
  refine Cd_dec (fun hlt => ?_) (fun hge => ?_)
  · have he15 : e ≤ 15 := by
      rcases Nat.lt_or_ge e 16 with h' | h'
      · omega
      · have : e = 16 := by omega
        subst this
        have : ((2 ^ 16 : Nat) : Int) = 65536 := by decide
        omega
    obtain ⟨hp3, hp4⟩ := pw (e + 1) (by omega)
    have e2 : ((2 ^ e : Nat) : Int) * 2 = ((2 ^ (e + 1) : Nat) : Int) := by rw [Nat.pow_succ, Int.natCast_mul]; rfl
    rw [e2, wrap64 (by omega) (by omega), wrap64 (by omega) (by omega), show (e : Int) + 1 = ((e + 1 : Nat) : Int) by omega]
    refine hk _ _ ⟨e + 1, rfl, by omega, ?_, rfl⟩ (by dsimp only; omega)
    rw [← hp, show 17 - e = (17 - (e + 1)) + 1 by omega]
    simp only [pwF]
    rw [if_pos hlt, ← e2, Int.mul_comm]
  · have : pow2F n = ((2 ^ e : Nat) : Int) := by
      rw [← hp, show 17 - e = (17 - (e + 1)) + 1 by omega]
      simp only [pwF]
      rw [if_neg hge]
    exact ⟨(((2 ^ e : Nat) : Int), (e : Int), ()), rfl, ⟨e, he, by rw [this]⟩, Ex.refl _⟩
theorem own_makeLC {n c : Nat} {g base : Nat} {w : World} (hnc : n ≤ c) (hc : c ≤ 131072) (hB : Has w g ((List.replicate c (0 : Int)).map u16v) 187) (hb : base ≤ g) : Cu.Own u16v 187 base w ⟨at0 g, n, c⟩ (List.replicate n 0) :=
  Own.mk (cs := (List.replicate c (0 : Int)).map u16v) rfl hb hB (by simp) hnc (by show c ≤ 9223372036854775807; omega) (by simp) (by rw [← List.map_take, List.length_replicate, List.take_replicate, Nat.min_eq_left hnc])
theorem Wr_makeLC {n c : Nat} {a b : Int} {k : Sl → World → Prop} {w : World} (hnc : n ≤ c) (hc : c ≤ 131072) (ha : a = n) (hb : b = c)
    (hk : ∀ s w', s = ⟨at0 w.heap.size, n, c⟩ → Cu.Own u16v 187 w.heap.size w' s (List.replicate n 0) → Ex w w' → k s w') : Wr Tryd.prog (Instr.makeSlice 34 (.int .i64 a) (.int .i64 b)) (.one (.at .sl)) k w := by
  obtain ⟨i, hi0, hz0, hs0, hb0⟩ := info_parts iW
  subst ha hb
  have hr := run_make (P := Tryd.prog) w 34 187 i (u16v 0) tW hi0 hz0 .i64 .i64 n c (by omega) (by omega) (by rw [hb0]; omega) (by omega)
  rw [Int.toNat_natCast, Int.toNat_natCast, hs0, Nat.mul_one] at hr
  have e : madeCells (u16v 0).cells c = ((List.replicate c (0 : Int)).map u16v).toArray := by
    rw [List.map_replicate]; exact made_one (u16v 0) c
  rw [e] at hr
  refine ⟨⟨at0 w.heap.size, n, c⟩, _, hr, hk _ _ rfl (own_makeLC hnc hc (Has.alloc w _ _) (Nat.le_refl _)) (Ex.alloc w _)⟩
theorem elems_sf (r : Nat) (hr : r ≤ 16) (w : World) : Cl Tryd.prog 58 #[.int .i64 (r : Int)] (.one (.at .sl)) (fun _ w' => Ex w w') w := by
  refine culletref03_ElementsTo.run _ (r : Int) w ?_
  unfold culletref03_ElementsTo.M
  refine Cl_mono (basis_sf w) ?_
  rintro bs w1 ⟨⟨bl, hbl, hbo⟩, hx1⟩
  have pw : ∀ e : Nat, e ≤ 16 → 2 ^ e ≤ 65536 ∧ 1 ≤ 2 ^ e := by
    intro e he
    have h1 : 2 ^ e ≤ 2 ^ 16 := Nat.pow_le_pow_right (by decide) he
    have h2 : 0 < 2 ^ e := Nat.pow_pos (by decide)
    have h3 : (2 : Nat) ^ 16 = 65536 := by decide
    omega
  refine Pu_shl (wrapU_nonneg _) ?_
  have esh : shL .i64 1 (IntKind.wrap .u64 (r : Int)) = ((2 ^ r : Nat) : Int) := by
    unfold shL
    rw [wrap_u64_id (by omega) (by omega), Int.toNat_natCast]
    have : min r (IntKind.bits .i64) = r := Nat.min_eq_left (by show r ≤ 64; omega)
    rw [this, Int.one_mul]
    have h := pw r hr
    have e2 : (2 : Int) ^ r = ((2 ^ r : Nat) : Int) := by rw [Int.natCast_pow]; rfl
    rw [e2, wrap64 (by omega) (by omega)]
  rw [esh]
  obtain ⟨hp1, hp2⟩ := pw r hr
  refine Wr_makeLC (n := 1) (c := 2 ^ r) hp2 (by omega) rfl rfl fun s w2 hs ho2 hx2 => ?_
  unfold culletref03_ElementsTo.l1
  refine loopW_of (fun st w' => ∃ (ws : Sl) (l : List Int) (t : Nat), st = ((r : Int), bs, ws, (t : Int), ()) ∧ t ≤ r ∧ l.length = 2 ^ t ∧ Cu.Own u16v 187 w1.heap.size w' ws l ∧ Ex w1 w') (fun st _ => ((r : Int) - st.2.2.2.1).toNat) ?_ ⟨s, _, 0, rfl, Nat.zero_le _, by simp, ho2, hx2⟩
  rintro k1 _ w3 ⟨ws, l, t, rfl, ht, hl, ho3, hx3⟩ hk1
  unfold culletref03_ElementsTo.b1
  dsimp only at hk1 ⊢
  refine Cd_dec (fun hlt => ?_) (fun _ => ⟨ws, rfl, hx1.trans hx3⟩)
  have hlt : t < r := by omega
  obtain ⟨hq1, hq2⟩ := pw t (by omega)
  have hwl : ws.len = 2 ^ t := by rw [← hl]; exact ho3.1
  unfold culletref03_ElementsTo.l2
  refine loopW_of (fun st w' => ∃ (w5 : Sl) (m : List Int) (i : Nat), st = ((r : Int), bs, w5, (t : Int), ((ws.len : Nat) : Int), (i : Int), ()) ∧ i ≤ 2 ^ t ∧ m.length = 2 ^ t + i ∧ Cu.Own u16v 187 w1.heap.size w' w5 m ∧ Ex w1 w') (fun st _ => ((ws.len : Int) - st.2.2.2.2.2.1).toNat) ?_ ⟨ws, l, 0, rfl, Nat.zero_le _, by simpa using hl, ho3, hx3⟩
  rintro k2 _ w4 ⟨w5, m, i, rfl, hi, hm, ho4, hx4⟩ hk2
  unfold culletref03_ElementsTo.b2
  dsimp only at hk2 ⊢
  refine Cd_dec (fun hil => ?_) (fun hige => ?_)
  · have hil : i < 2 ^ t := by omega
    have hxd := Ex.drew w4
    have ho4d := ho4.ex hxd
    have hbd := (hbo.ex (hx4.trans hxd)).rds
    obtain ⟨v1, hv1⟩ : ∃ v, m[i]? = some v := ⟨_, List.getElem?_eq_getElem (by omega)⟩
    obtain ⟨b1, hb1, hc1⟩ := ho4d.rds.2.2 i v1 hv1
    obtain ⟨v2, hv2⟩ : ∃ v, bl[t]? = some v := ⟨_, List.getElem?_eq_getElem (by omega)⟩
    obtain ⟨b2, hb2, hc2⟩ := hbd.2.2 t v2 hv2
    refine Held_of (fun w' => w'.cell? (b1.add i) = some (u16v v1) ∧ w'.cell? (b2.add t) = some (u16v v2)) ⟨hc1, hc2⟩ ?_
    refine Pu_ix (s := w5) (i := (i : Int)) tW sW hb1 (by omega) (by have := ho4.1; omega) ?_
    rw [Int.toNat_natCast]
    refine RdS_one (c := .int .u16) (x := v1) (by kernel_rfl) (fun w' h => h.1) ?_
    refine Pu_ix (s := bs) (i := (t : Int)) tW sW hb2 (by omega) (by have := hbo.1; omega) ?_
    rw [Int.toNat_natCast]
    refine RdS_one (c := .int .u16) (x := v2) (by kernel_rfl) (fun w' h => h.2) ?_
    refine Wr_lit (f := u16v) (e := 187) (base := w4.drew.heap.size) [bXor .u16 v1 v2] (by kernel_rfl) (Nat.le_refl _) (by simp) fun s6 w6 ho6 hx6 _ => ?_
    have hx46 := hxd.trans hx6
    refine ⟨⟨hx6.cell hc1, hx6.cell hc2⟩, ?_⟩
    have ho46 := ho4.ex hx46
    refine Wr_append2 (base := w1.heap.size) tW iW rfl ho46 ho6.rds (fun _ => rfl) (by simp; omega) (by simp; omega) (hx4.trans hx46).size fun s7 w7 ho7 hm7 hin7 hor => ?_
    have hb2n : ¬ SlIn w5 b2.block := fun h => by
      have h1 := (ho4.base _ h).1
      have h2 := (hbo.base _ (slin_of hb2)).2
      omega
    refine ⟨⟨?_, hm7.cell (hx6.cell hc2) (by rw [Addr.add_block]; exact hb2n)⟩, ?_⟩
    · rcases hor with hx7 | ⟨e1, e2⟩
      · exact hx7.cell (hx6.cell hc1)
      · obtain ⟨a, ha, hca⟩ := ho7.rds.2.2 i v1 (by rw [List.getElem?_append_left (by omega)]; exact hv1)
        rw [e1, hb1] at ha
        cases ha
        exact hca
    · unfold culletref03_ElementsTo.j1
      rw [wrap64 (by omega) (by omega), show (i : Int) + 1 = ((i + 1 : Nat) : Int) by omega]
      exact hk2 _ _ ⟨s7, _, i + 1, rfl, by omega, by simp [hm]; omega, ho7, (hx4.trans hx46).into hm7 (fun b hb => (ho4.base b hb).1)⟩ (by dsimp only; omega)
  · have hi' : i = 2 ^ t := by omega
    rw [wrap64 (by omega) (by omega), show (t : Int) + 1 = ((t + 1 : Nat) : Int) by omega]
    exact hk1 _ _ ⟨w5, m, t + 1, rfl, by omega, by rw [hm, hi', Nat.pow_succ]; omega, ho4, hx4⟩ (by dsimp only; omega)
end Go.Proofs.YtmmejgneelkhkaaDoor
