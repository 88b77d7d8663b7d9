/- The document's codes are made without a fault: over bytes. -/
import Derived.Test.YtmmejgneelkhkaaDoorSpI
set_option linter.all false
namespace Go.Proofs.YtmmejgneelkhkaaDoor
open Go Go.Cu Go.RowKit
set_option linter.unusedVariables false
set_option maxHeartbeats 2000000
set_option maxRecDepth 100000
theorem wrapU_nonneg (x : Int) : 0 ≤ IntKind.wrap .u64 x := by
  unfold IntKind.wrap
  simp [IntKind.bits, IntKind.signed]
  omega
theorem Pu_shl {t : TypeId} {x y : Operand} {k yk : IntKind} {a b : Int} {K : Int → World → Prop} {w : World} (hb : 0 ≤ b) (hk : K (shL k a b) w) : Pu Tryd.prog (do eqGuard .shl t x y (.int k a) (.int yk b); binOp .shl t (.int k a) (.int yk b)) (.one (.at (.int k))) K w := by
  refine ⟨shL k a b, fun w' => ?_, hk⟩
  have : ¬ b < 0 := by omega
  simp [eqGuard, binOp, Op.shift, this, shL, Sh.enc, Cx.enc, At.enc]
theorem Pu_shr {t : TypeId} {x y : Operand} {k yk : IntKind} {a b : Int} {K : Int → World → Prop} {w : World} (hb : 0 ≤ b) (hk : K (shR k a b) w) : Pu Tryd.prog (do eqGuard .shr t x y (.int k a) (.int yk b); binOp .shr t (.int k a) (.int yk b)) (.one (.at (.int k))) K w := by
  refine ⟨shR k a b, fun w' => ?_, hk⟩
  have : ¬ b < 0 := by omega
  simp [eqGuard, binOp, Op.shift, this, shR, Sh.enc, Cx.enc, At.enc]
theorem mul8_sf (a b : Int) (w : World) : Cl Tryd.prog 73 #[.int .u8 a, .int .u8 b] (.one (.at (.int .u8))) (fun _ w' => Ex w w') w := by
  refine culletref02_Mul.run _ a b w ?_
  unfold culletref02_Mul.M culletref02_Mul.l1
  refine loopW_of (fun st w' => ∃ i : Int, st.2.2.2.1 = i ∧ w' = w ∧ 0 ≤ i ∧ i ≤ 8) (fun st _ => (8 - st.2.2.2.1).toNat) ?_ ⟨0, rfl, rfl, by decide, by decide⟩
  rintro k ⟨a', b', p, i, _⟩ w' ⟨_, rfl, rfl, h0, h8⟩ hk
  unfold culletref02_Mul.b1
  dsimp only at hk h0 h8 ⊢
  have h0 : 0 ≤ i := h0
  have h8 : i ≤ 8 := h8
  have nxt : ∀ p' : Int, i < 8 → culletref02_Mul.j1 (fun e w2 => ∃ x : Int, e = Ending.returned ((Sh.one (.at (.int .u8))).enc x) ∧ Ex w' w2) k a' b' p' i w' := by
    intro p' hlt
    unfold culletref02_Mul.j1
    rw [wrap64 (by omega) (by omega)]
    exact hk _ _ ⟨i + 1, rfl, rfl, by omega, by omega⟩ (by dsimp only; omega)
  refine Cd_dec (fun hlt => ?_) (fun _ => ?_)
  · refine Pu_shr (wrapU_nonneg _) (Cd_eq (fun _ => Pu_shl (wrapU_nonneg _) (nxt _ hlt)) (fun _ => nxt _ hlt))
  · unfold culletref02_Mul.l2
    refine loopW_of (fun st w2 => ∃ i : Int, st.2.1 = i ∧ w2 = w' ∧ 7 ≤ i ∧ i ≤ 14) (fun st _ => (st.2.1).toNat) ?_ ⟨14, rfl, rfl, by decide, by decide⟩
    rintro k2 ⟨p2, i2, _⟩ w3 ⟨_, rfl, rfl, h0, h8⟩ hk2
    have h0 : 7 ≤ i2 := h0
    have h8 : i2 ≤ 14 := h8
    unfold culletref02_Mul.b2
    dsimp only at hk2 ⊢
    have nx2 : ∀ p' : Int, i2 ≥ 8 → culletref02_Mul.j2 (fun e w2 => ∃ x : Int, e = Ending.returned ((Sh.one (.at (.int .u8))).enc x) ∧ Ex w3 w2) k2 p' i2 w3 := by
      intro p' hlt
      unfold culletref02_Mul.j2
      rw [wrap64 (by omega) (by omega)]
      exact hk2 _ _ ⟨i2 - 1, rfl, rfl, by omega, by omega⟩ (by dsimp only; omega)
    refine Cd_dec (fun hlt => ?_) (fun _ => ⟨_, rfl, Ex.refl _⟩)
    exact Pu_shr (wrapU_nonneg _) (Cd_eq (fun _ => Pu_shl (wrapU_nonneg _) (nx2 _ hlt)) (fun _ => nx2 _ hlt))
theorem inv8_sf (a : Int) (w : World) : Cl Tryd.prog 71 #[.int .u8 a] (.tup [.at (.int .u8), .at (.int .i64)]) (fun _ w' => Ex w w') w := by
  refine culletref02_Inv.run _ a w ?_
  unfold culletref02_Inv.M
  refine Cd_eq (fun _ => ⟨(0, 20, ()), rfl, Ex.refl _⟩) (fun _ => ?_)
  refine Cl_mono (mul8_sf a a w) fun x w1 hx1 => ?_
  unfold culletref02_Inv.l1
  refine loopW_of (fun st w' => ∃ i : Int, st.2.2.1 = i ∧ Ex w w' ∧ 0 ≤ i ∧ i ≤ 7) (fun st _ => (7 - st.2.2.1).toNat) ?_ ⟨0, rfl, hx1, by decide, by decide⟩
  rintro k ⟨two, p, i, _⟩ w' ⟨_, rfl, hx, h0, h7⟩ hk
  have h0 : 0 ≤ i := h0
  have h7 : i ≤ 7 := h7
  unfold culletref02_Inv.b1
  dsimp only at hk ⊢
  refine Cd_dec (fun hlt => ?_) (fun _ => ⟨(p, 0, ()), rfl, hx⟩)
  refine Cl_mono (mul8_sf p two w') fun x2 w2 hx2 => ?_
  refine Cl_mono (mul8_sf two two w2) fun x3 w3 hx3 => ?_
  rw [wrap64 (by omega) (by omega)]
  exact hk _ _ ⟨i + 1, rfl, (hx.trans hx2).trans hx3, by omega, by omega⟩ (by dsimp only; omega)
theorem div8_sf (a b : Int) (w : World) : Cl Tryd.prog 74 #[.int .u8 a, .int .u8 b] (.tup [.at (.int .u8), .at (.int .i64)]) (fun _ w' => Ex w w') w := by
  refine culletref02_Div.run _ a b w ?_
  unfold culletref02_Div.M
  refine Cl_mono (inv8_sf b w) fun x w1 hx1 => ?_
  refine Cd_ne (fun _ => ⟨(0, x.2.1, ()), rfl, hx1⟩) (fun _ => ?_)
  refine Cl_mono (mul8_sf a x.1 w1) fun x2 w2 hx2 => ?_
  exact ⟨(x2, 0, ()), rfl, hx1.trans hx2⟩
theorem weight_sf (f k s : Int) (w : World) (hk0 : k ≤ 256) : Cl Tryd.prog 72 #[.int .i64 f, .int .i64 k, .int .i64 s] (.one (.at (.int .u8))) (fun _ w' => Ex w w') w := by
  refine culletref11_weight.run _ f k s w ?_
  unfold culletref11_weight.M
  refine Cd_eq (fun _ => ?_) (fun _ => ⟨1, rfl, Ex.refl _⟩)
  unfold culletref11_weight.l1
  refine loopW_of (fun st w' => ∃ u i : Int, st = (k, s, u, i, ()) ∧ Ex w w' ∧ 0 ≤ i) (fun st _ => (k - st.2.2.2.1).toNat) ?_ ⟨1, 0, rfl, Ex.refl _, by decide⟩
  rintro K _ w' ⟨u, i, rfl, hx, h0⟩ hk
  unfold culletref11_weight.b1
  dsimp only at hk ⊢
  refine Cd_dec (fun hlt => ?_) (fun _ => ⟨u, rfl, hx⟩)
  have nxt : ∀ (u' : Int) (w1 : World), Ex w w1 → culletref11_weight.j2 (fun e w' => ∃ x : Int, e = Ending.returned ((Sh.one (.at (.int .u8))).enc x) ∧ Ex w w') K k s u' i w1 := by
    intro u' w1 hx1
    unfold culletref11_weight.j2
    rw [wrap64 (by omega) (by omega)]
    exact hk _ _ ⟨u', i + 1, rfl, hx1, by omega⟩ (by dsimp only; omega)
  exact Cd_ne (fun _ => Cl_mono (mul8_sf u _ w') fun x w1 hx1 => nxt x w1 (hx.trans hx1)) (fun _ => nxt u w' hx)
theorem upTo_sf (n : Nat) (hn : n ≤ 256) (w : World) : Cl Tryd.prog 68 #[.int .i64 (n : Int)] (.one (.at .sl)) (fun s w' => (∃ l : List Int, l.length = n ∧ Cu.Own i64v 3 w.heap.size w' s l) ∧ Ex w w') w := by
  refine culletref11_upTo.run _ (n : Int) w ?_
  unfold culletref11_upTo.M
  refine Wr_make (f := i64v) (z := 0) tI iI rfl n (by omega) (by omega) rfl rfl fun s w1 hs hB1 hx1 => ?_
  unfold culletref11_upTo.l1
  have ho : Cu.Own i64v 3 w.heap.size w1 s (List.replicate n 0) := by
    rw [hs]; exact own_of_has (by simp) (by omega) hB1 (Nat.le_refl _)
  refine loopW_of (fun st w' => ∃ (i : Nat) (l : List Int), st = ((n : Int), s, (i : Int), ()) ∧ l.length = n ∧ i ≤ n ∧ Cu.Own i64v 3 w.heap.size w' s l ∧ Ex w w') (fun st _ => ((n : Int) - st.2.2.1).toNat) ?_ ⟨0, _, rfl, by simp, Nat.zero_le _, ho, hx1⟩
  rintro k _ w' ⟨i, l, rfl, hl, hi, ho, hx⟩ hk
  unfold culletref11_upTo.b1
  dsimp only at hk ⊢
  refine Cd_dec (fun hlt => ?_) (fun _ => ⟨s, rfl, ⟨l, hl, ho⟩, hx⟩)
  refine Wu_set (f := i64v) (x := (i : Int)) ho (by omega) tI sI sI rfl rfl fun w2 ho2 hm2 => ?_
  rw [wrap64 (by omega) (by omega), show (i : Int) + 1 = ((i + 1 : Nat) : Int) by omega]
  exact hk _ _ ⟨i + 1, _, rfl, by simpa using hl, by omega, ho2, hx.into hm2 (fun b hb => (ho.base b hb).1)⟩ (by dsimp only; omega)
theorem row_sf (f wk : Int) (used : Sl) (ul : List Int) (k : Nat) (hk : k ≤ 256) (w : World) (hu : Rds i64v w used ul) (hul : ul.length = k) :
    Cl Tryd.prog 69 #[.int .i64 f, .int .i64 (k : Int), .slice used.base used.len used.cap, .int .i64 wk] (.one (.at .sl)) (fun _ w' => Ex w w') w := by
  refine culletref11_Row.run _ f (k : Int) used wk w ?_
  unfold culletref11_Row.M
  refine Wr_make (f := b8) (z := 0) tB iB rfl k (by omega) (by omega) rfl rfl fun s w1 hs hB1 hx1 => ?_
  have ho : Cu.Own b8 5 w.heap.size w1 s (List.replicate k 0) := by
    rw [hs]; exact own_of_has (by simp) (by omega) hB1 (Nat.le_refl _)
  refine Cl_mono (weight_sf f k wk w1 (by omega)) fun x w2 hx2 => ?_
  refine Cl_mono (inv8_sf x w2) fun x3 w3 hx3 => ?_
  have hx13 := hx2.trans hx3
  unfold culletref11_Row.l1
  refine loopW_of (fun st w' => ∃ (over : Int) (i : Nat) (l : List Int), st = (f, (k : Int), used, wk, s, over, (i : Int), ()) ∧ l.length = k ∧ i ≤ k ∧ Cu.Own b8 5 w.heap.size w' s l ∧ Ex w w') (fun st _ => ((k : Int) - st.2.2.2.2.2.2.1).toNat) ?_ ⟨_, 0, _, rfl, by simp, Nat.zero_le _, ho.ex hx13, hx1.trans hx13⟩
  rintro K1 _ w4 ⟨over, i, l, rfl, hl, hi, ho4, hx4⟩ hk1
  unfold culletref11_Row.b1
  dsimp only at hk1 ⊢
  refine Cd_dec (fun hlt => ?_) (fun _ => ⟨s, rfl, hx4⟩)
  have hlt : i < k := by omega
  refine Pu_idx (hu.ex hx4) tI sI (by omega) (by omega) fun a ui hui hcell _ => ?_
  refine Rd_one (c := .int .i64) (x := ui) (by kernel_rfl) hcell ?_
  refine Cl_mono (weight_sf f k ui w4 (by omega)) fun x5 w5 hx5 => ?_
  refine Cl_mono (mul8_sf x5 over w5) fun x6 w6 hx6 => ?_
  have hx46 := hx5.trans hx6
  unfold culletref11_Row.l2
  refine loopW_of (fun st w' => ∃ (top low : Int) (j : Nat), st = (f, (k : Int), used, wk, s, over, (i : Int), top, low, (j : Int), ()) ∧ j ≤ k ∧ Ex w4 w') (fun st _ => ((k : Int) - st.2.2.2.2.2.2.2.2.2.1).toNat) ?_ ⟨_, _, 0, rfl, Nat.zero_le _, hx46⟩
  rintro K2 _ w7 ⟨top, low, j, rfl, hj, hx7⟩ hk2
  unfold culletref11_Row.b2
  dsimp only at hk2 ⊢
  have hu7 := hu.ex (hx4.trans hx7)
  refine Cd_dec (fun hjl => ?_) (fun _ => ?_)
  · have hjl : j < k := by omega
    have nxt : ∀ (t' l' : Int) (w8 : World), Ex w4 w8 → culletref11_Row.j1 (fun e w' => ∃ x : Sl, e = Ending.returned ((Sh.one (.at .sl)).enc x) ∧ Ex w w') K1 K2 f (k : Int) used wk s over (i : Int) t' l' (j : Int) w8 := by
      intro t' l' w8 hx8
      unfold culletref11_Row.j1
      rw [wrap64 (by omega) (by omega), show (j : Int) + 1 = ((j + 1 : Nat) : Int) by omega]
      exact hk2 _ _ ⟨t', l', j + 1, rfl, by omega, hx8⟩ (by dsimp only; omega)
    refine Cd_ne (fun _ => ?_) (fun _ => nxt _ _ _ hx7)
    refine Pu_idx hu7 tI sI (by omega) (by omega) fun a uj huj hcell _ => ?_
    refine Rd_one (c := .int .i64) (x := uj) (by kernel_rfl) hcell ?_
    refine Cl_mono (mul8_sf _ _ w7) fun x8 w8 hx8 => ?_
    have hx48 := (hx7.trans hx8).trans (Ex.drew w8)
    have hu8 := hu.ex (hx4.trans hx48)
    refine Held_ex ?_
    refine Pu_idx hu8 tI sI (by omega) (by omega) fun a1 u1 hu1 hcell1 _ => ?_
    refine RdS_one (c := .int .i64) (x := u1) (by kernel_rfl) (fun w' h => h.cell hcell1) ?_
    refine Pu_idx hu8 tI sI (by omega) (by omega) fun a2 u2 hu2 hcell2 _ => ?_
    refine RdS_one (c := .int .i64) (x := u2) (by kernel_rfl) (fun w' h => h.cell hcell2) ?_
    refine Cl_mono (mul8_sf _ _ w8.drew) fun x9 w9 hx9 => ⟨hx9, nxt _ _ _ (hx48.trans hx9)⟩
  · refine Cl_mono (div8_sf top low w7) fun x8 w8 hx8 => ?_
    have ho8 := ho4.ex (hx7.trans hx8)
    refine Wu_set (f := b8) (x := x8.1) ho8 (by omega) tB sB sB rfl rfl fun w9 ho9 hm9 => ?_
    rw [wrap64 (by omega) (by omega), show (i : Int) + 1 = ((i + 1 : Nat) : Int) by omega]
    exact hk1 _ _ ⟨over, i + 1, _, rfl, by simpa using hl, by omega, ho9, (hx4.trans (hx7.trans hx8)).into hm9 (fun b hb => (ho8.base b hb).1)⟩ (by dsimp only; omega)
end Go.Proofs.YtmmejgneelkhkaaDoor
