/- The document's codes are made without a fault: Parity, and the field of words. -/
import Derived.Test.YtmmejgneelkhkaaDoorSpK
set_option linter.all false
namespace Go.Proofs.YtmmejgneelkhkaaDoor
open Go Go.Cu Go.RowKit
set_option linter.unusedVariables false
set_option maxHeartbeats 2000000
set_option maxRecDepth 100000
theorem tBB : Tryd.prog.underlying 91 = some (.slice 67) := by kernel_rfl
theorem iBB : (Tryd.prog.info? 67).map (fun i => (i.zero, i.size, i.bytes)) = some (some (.slice none 0 0), 1, 24) := by kernel_rfl
theorem rparams11 (f k m : Int) (h : f = 0 ∨ f = 1) (hk : 1 ≤ k) (hm : 1 ≤ m) (hkm : k + m ≤ 256) (w : World) : Gv Tryd.prog 61 #[.int .i64 f, .int .i64 k, .int .i64 m] (.int .i64 0) w := by
  refine culletref11_Params.run _ f k m w ?_
  unfold culletref11_Params.M
  have j1f : culletref11_Params.j1 (fun e w' => e = Ending.returned (.int .i64 0) ∧ Ex w w') k m false w := by
    unfold culletref11_Params.j1
    refine Cd_f (Cd_dec (fun h => by omega) (fun _ => Cd_dec (fun h => by omega) (fun _ => Cd_dec (fun h => by omega) (fun _ => Cd_dec (fun h => by omega) (fun _ => ?_)))))
    unfold culletref11_Params.j2
    rw [wrap64 (by omega) (by omega)]
    exact Cd_dec (fun h => by omega) (fun _ => ⟨rfl, Ex.refl w⟩)
  refine Cd_ne (fun h0 => ?_) (fun _ => j1f)
  rw [show (f != 1) = false by simp; omega]
  exact j1f
theorem parity_sf (f : Int) (k m : Nat) (h : f = 0 ∨ f = 1) (hk : 1 ≤ k) (hm : 1 ≤ m) (hkm : k + m ≤ 256) (w : World) : Cl Tryd.prog 62 #[.int .i64 f, .int .i64 (k : Int), .int .i64 (m : Int)] (.tup [.at .sl, .at (.int .i64)]) (fun _ w' => Ex w w') w := by
  refine culletref11_Parity.run _ f (k : Int) (m : Int) w ?_
  unfold culletref11_Parity.M
  refine Cl_gv (d := .one (.at (.int .i64))) (x := (0 : Int)) (rparams11 f k m h (by omega) (by omega) (by omega) w) fun w1 hx1 => ?_
  refine Cd_ne (fun h => absurd rfl h) (fun _ => ?_)
  refine Cl_mono (upTo_sf k (by omega) w1) ?_
  rintro data w2 ⟨⟨dl, hdl, hdo⟩, hx2⟩
  unfold culletref11_Parity.l1
  refine loopW_of (fun st w' => ∃ (rows : Sl) (rl : List Sl) (j : Nat), st = (f, (k : Int), (m : Int), rows, data, (j : Int), ()) ∧ j ≤ m ∧ rl.length = j ∧ Cu.Own slv 67 w2.heap.size w' rows rl ∧ Ex w2 w') (fun st _ => ((m : Int) - st.2.2.2.2.2.1).toNat) ?_ ⟨⟨none, 0, 0⟩, [], 0, rfl, Nat.zero_le _, rfl, Own.nil _ _ _ _, Ex.refl _⟩
  rintro K _ w3 ⟨rows, rl, j, rfl, hj, hrl, ho, hx3⟩ hk1
  unfold culletref11_Parity.b1
  dsimp only at hk1 ⊢
  have hx03 := (hx1.trans hx2).trans hx3
  refine Cd_dec (fun hlt => ?_) (fun _ => ⟨(rows, 0, ()), rfl, hx03⟩)
  have hlt : j < m := by omega
  refine Cl_mono (row_sf f _ data dl k (by omega) w3 (hdo.rds.ex hx3) hdl) fun row w4 hx4 => ?_
  refine Wr_lit (f := slv) (e := 67) (base := w4.heap.size) [row] (by kernel_rfl) (Nat.le_refl _) (by simp) fun s5 w5 ho5 hx5 _ => ?_
  have hx45 := hx4.trans hx5
  have hle : w2.heap.size ≤ w5.heap.size := Nat.le_trans hx3.size hx45.size
  refine Wr_append (f := slv) (base := w2.heap.size) tBB iBB rfl (ho.ex hx45) ho5.rds (fun _ => rfl) (by simp; omega) (by simp; omega) hle fun rows' w6 ho6 hm6 hin6 => ?_
  rw [wrap64 (by omega) (by omega), show (j : Int) + 1 = ((j + 1 : Nat) : Int) by omega]
  exact hk1 _ _ ⟨rows', rl ++ [row], j + 1, rfl, by omega, by simp [hrl], ho6, (hx3.trans hx45).into hm6 (fun b hb => (ho.base b hb).1)⟩ (by dsimp only; omega)
theorem new17_sf (f : Int) (k m : Nat) (h : f = 0 ∨ f = 1) (hk : 1 ≤ k) (hm : 1 ≤ m) (hkm : k + m ≤ 256) (w : World) : Cl Tryd.prog 44 #[.int .i64 f, .int .i64 0, .int .i64 (k : Int), .int .i64 (m : Int)] (.tup [.at .ptr, .at (.int .i64)]) (fun _ w' => Ex w w') w := by
  refine culletref17_New.run _ f 0 (k : Int) (m : Int) w ?_
  unfold culletref17_New.M
  have j1f : culletref17_New.j1 (fun e w' => ∃ x : (Option Addr) × Int × Unit, e = Ending.returned ((Sh.tup [.at .ptr, .at (.int .i64)]).enc x) ∧ Ex w w') f 0 (k : Int) (m : Int) none false w := by
    unfold culletref17_New.j1
    refine Cd_f (Cd_dec (fun h => absurd h (by decide)) (fun _ => ?_))
    unfold culletref17_New.j2
    refine Cd_dec (fun h => absurd h (by decide)) (fun _ => ?_)
    refine Cl_gv (d := .one (.at (.int .i64))) (x := (0 : Int)) (rparams11 f k m h (by omega) (by omega) (by omega) w) fun w1 hx1 => ?_
    refine Cd_ne (fun h => absurd rfl h) (fun _ => ?_)
    refine Cl_mono (parity_sf f k m h hk hm hkm w1) fun x w2 hx2 => ?_
    refine Wr_box fun w3 hB3 hx3 => ?_
    exact ⟨(some ⟨w2.heap.size, 0, none⟩, 0, ()), rfl, (hx1.trans hx2).trans hx3⟩
  refine Cd_ne (fun h0 => ?_) (fun _ => j1f)
  rw [show (f != 1) = false by simp; omega]
  exact j1f
/-! ### Words -/
abbrev u16v : Int → Value := .int .u16
theorem tW : Tryd.prog.underlying 34 = some (.slice 187) := by kernel_rfl
theorem sW : sizeIs Tryd.prog 187 1 = true := by kernel_rfl
theorem iW : (Tryd.prog.info? 187).map (fun i => (i.zero, i.size, i.bytes)) = some (some (.int .u16 0), 1, 2) := by kernel_rfl
theorem tArr : Tryd.prog.underlying 200 = some (.array 16 187) := by kernel_rfl
theorem mul16_sf (a b : Int) (w : World) : Cl Tryd.prog 75 #[.int .u16 a, .int .u16 b] (.one (.at (.int .u16))) (fun _ w' => Ex w w') w := by
  refine culletref03_Mul.run _ a b w ?_
  unfold culletref03_Mul.M culletref03_Mul.l1
  refine loopW_of (fun st w' => ∃ i : Int, st.2.2.2.1 = i ∧ w' = w ∧ 0 ≤ i ∧ i ≤ 16) (fun st _ => (16 - st.2.2.2.1).toNat) ?_ ⟨0, rfl, rfl, by decide, by decide⟩
  rintro k ⟨a', b', p, i, _⟩ w' ⟨_, rfl, rfl, h0, h8⟩ hk
  unfold culletref03_Mul.b1
  dsimp only at hk h0 h8 ⊢
  have h0 : 0 ≤ i := h0
  have h8 : i ≤ 16 := h8
  have nxt : ∀ p' : Int, i < 16 → culletref03_Mul.j1 (fun e w2 => ∃ x : Int, e = Ending.returned ((Sh.one (.at (.int .u16))).enc x) ∧ Ex w' w2) k a' b' p' i w' := by
    intro p' hlt
    unfold culletref03_Mul.j1
    rw [wrap64 (by omega) (by omega)]
    exact hk _ _ ⟨i + 1, rfl, rfl, by omega, by omega⟩ (by dsimp only; omega)
  refine Cd_dec (fun hlt => ?_) (fun _ => ?_)
  · refine Pu_shr (wrapU_nonneg _) (Cd_eq (fun _ => Pu_shl (wrapU_nonneg _) (nxt _ hlt)) (fun _ => nxt _ hlt))
  · unfold culletref03_Mul.l2
    refine loopW_of (fun st w2 => ∃ i : Int, st.2.1 = i ∧ w2 = w' ∧ 15 ≤ i ∧ i ≤ 30) (fun st _ => (st.2.1).toNat) ?_ ⟨30, rfl, rfl, by decide, by decide⟩
    rintro k2 ⟨p2, i2, _⟩ w3 ⟨_, rfl, rfl, h0, h8⟩ hk2
    have h0 : 15 ≤ i2 := h0
    have h8 : i2 ≤ 30 := h8
    unfold culletref03_Mul.b2
    dsimp only at hk2 ⊢
    have nx2 : ∀ p' : Int, i2 ≥ 16 → culletref03_Mul.j2 (fun e w2 => ∃ x : Int, e = Ending.returned ((Sh.one (.at (.int .u16))).enc x) ∧ Ex w3 w2) k2 p' i2 w3 := by
      intro p' hlt
      unfold culletref03_Mul.j2
      rw [wrap64 (by omega) (by omega)]
      exact hk2 _ _ ⟨i2 - 1, rfl, rfl, by omega, by omega⟩ (by dsimp only; omega)
    refine Cd_dec (fun hlt => ?_) (fun _ => ⟨_, rfl, Ex.refl _⟩)
    exact Pu_shr (wrapU_nonneg _) (Cd_eq (fun _ => Pu_shl (wrapU_nonneg _) (nx2 _ hlt)) (fun _ => nx2 _ hlt))
theorem zArr : (Tryd.prog.info? 200).bind (·.zero) = some (.agg ((List.replicate 16 0).map u16v).toArray) := by kernel_rfl
/-- an array of sixteen words: a new one -/
def Arr (w : World) (g : Nat) : Prop := ∃ l : List Int, l.length = 16 ∧ Has w g (l.map u16v) 200
theorem Arr.mo {X : Nat → Prop} {w w' : World} {g : Nat} (h : Arr w g) (k : Mo X w w') (hx : ¬ X g) : Arr w' g := by
  obtain ⟨l, hl, hB⟩ := h
  exact ⟨l, hl, hB.mo k hx⟩
theorem arr_ld {w : World} {g : Nat} {ik : IntKind} {i : Int} {K : Int → World → Prop} (h : Arr w g) (h0 : 0 ≤ i) (h1 : i < 16) (hk : ∀ x, K x w) :
    Pu Tryd.prog (Instr.indexAt 200 (.pointer (some ⟨g, 0, none⟩)) (.int ik i)) (.one (.at .addr)) (fun a w1 => Rd Tryd.prog (Instr.loadAt 187 (.pointer (some a))) (.one (.at (.int .u16))) K w1) w := by
  obtain ⟨l, hl, hB⟩ := h
  refine Pu_idxArr tArr sW h0 (by omega) ?_
  have hi : i.toNat < l.length := by omega
  exact Rd_has (c := .int .u16) (x := l[i.toNat]) hB (by kernel_rfl) (by rw [List.getElem?_map, List.getElem?_eq_getElem hi]; rfl) (hk _)
theorem arr_st {w : World} {g : Nat} {ik : IntKind} {i v : Int} {K : World → Prop} (h : Arr w g) (h0 : 0 ≤ i) (h1 : i < 16) (hk : ∀ w', Arr w' g → Mo (fun b => b = g) w w' → K w') :
    Pu Tryd.prog (Instr.indexAt 200 (.pointer (some ⟨g, 0, none⟩)) (.int ik i)) (.one (.at .addr)) (fun a w1 => Wu Tryd.prog (Instr.storeAt 187 (.pointer (some a)) (.int .u16 v)) K w1) w := by
  obtain ⟨l, hl, hB⟩ := h
  refine Pu_idxArr tArr sW h0 (by omega) ?_
  refine Wu_store hB (by kernel_rfl) (by simp [Value.cells, Value.oneCell']) (by simp [Value.cells]; omega) fun w' hB' hm' => hk w' ⟨l.take i.toNat ++ [v] ++ l.drop (i.toNat + 1), by simp; omega, ?_⟩ hm'
  have e1 : (Value.int .u16 v).cells.toList = [u16v v] := rfl
  have e2 : (Value.int .u16 v).cells.size = 1 := rfl
  rw [e1, e2] at hB'
  rw [List.map_append, List.map_append, List.map_take, List.map_drop]
  exact hB'
theorem root_sf (a : Int) (w : World) : Cl Tryd.prog 70 #[.int .u16 a] (.tup [.at (.int .u16), .at (.int .i64)]) (fun _ w' => Ex w w') w := by
  refine culletref03_Root.run _ a w ?_
  generalize hR : (fun (e : Ending) (w' : World) => ∃ x : Int × Int × Unit, e = .returned ((Sh.tup [.at (.int .u16), .at (.int .i64)]).enc x) ∧ Ex w w') = R
  have ret : ∀ (x y : Int) (w' : World), Ex w w' → R (.returned (.tuple #[.int .u16 x, .int .i64 y])) w' := fun x y w' h => by subst hR; exact ⟨(x, y, ()), rfl, h⟩
  clear hR
  unfold culletref03_Root.M
  have one16 : ∀ u ∈ (List.replicate 16 (0 : Int)).map u16v, u.oneCell' = true := fun u hu => by obtain ⟨y, _, rfl⟩ := List.mem_map.1 hu; rfl
  refine Wr_alloc zArr fun w1 hB1 hx1 => ?_
  refine Wu_all (ds := (List.replicate 16 0).map u16v) hB1 (by kernel_rfl) one16 (by simp [Value.cells]) fun w2 hB2 hm2 => ?_
  have hx2 : Ex w w2 := hx1.into hm2 (fun i hi => Nat.le_of_eq (Eq.symm hi))
  refine Wr_alloc zArr fun w3 hB3 hx3 => ?_
  refine Wu_all (ds := (List.replicate 16 0).map u16v) hB3 (by kernel_rfl) one16 (by simp [Value.cells]) fun w4 hB4 hm4 => ?_
  have hx4 : Ex w2 w4 := hx3.into hm4 (fun i hi => Nat.le_of_eq (Eq.symm hi))
  have a1 : Arr w4 w.heap.size := ⟨_, by simp, hB2.ex hx4⟩
  have a2 : Arr w4 w2.heap.size := ⟨_, by simp, hB4⟩
  have hgf : w.heap.size ≠ w2.heap.size := by have := hB2.lt; omega
  have hg0 : w.heap.size ≤ w2.heap.size := hx2.size
  have hx04 := hx2.trans hx4
  generalize hgi : w.heap.size = gi at a1 hgf hg0 ⊢
  generalize w2.heap.size = gf at a2 hgf hg0 ⊢
  unfold culletref03_Root.l1
  refine loopW_of (fun st w' => ∃ j : Nat, st = (a, (⟨gi, 0, none⟩ : Addr), (⟨gf, 0, none⟩ : Addr), (j : Int), ()) ∧ j ≤ 16 ∧ Arr w' gi ∧ Arr w' gf ∧ Ex w w') (fun st _ => (16 - st.2.2.2.1).toNat) ?_ ⟨1, rfl, by decide, a1, a2, hx04⟩
  rintro k1 _ w5 ⟨j, rfl, hj, b1, b2, hx5⟩ hk1
  unfold culletref03_Root.b1
  dsimp only at hk1 ⊢
  refine Cd_dec (fun hlt => ?_) (fun _ => ?_)
  · have hlt : j < 16 := by omega
    refine Pu_shl (wrapU_nonneg _) ?_
    refine Cl_mono (mul16_sf _ _ w5) fun x w6 hx6 => ?_
    have nxt : ∀ w', Arr w' gi → Arr w' gf → Ex w w' → culletref03_Root.j1 R k1 a ⟨gi, 0, none⟩ ⟨gf, 0, none⟩ (j : Int) w' := by
      intro w' c1 c2 hx
      unfold culletref03_Root.j1
      rw [wrap64 (by omega) (by omega), show (j : Int) + 1 = ((j + 1 : Nat) : Int) by omega]
      exact hk1 _ _ ⟨j + 1, rfl, by omega, c1, c2, hx⟩ (by dsimp only; omega)
    unfold culletref03_Root.l2
    refine loopW_of (fun st w' => ∃ (y v h : Int), st = (a, (⟨gi, 0, none⟩ : Addr), (⟨gf, 0, none⟩ : Addr), (j : Int), y, v, h, ()) ∧ -1 ≤ h ∧ h ≤ 15 ∧ Arr w' gi ∧ Arr w' gf ∧ Ex w w') (fun st _ => (st.2.2.2.2.2.2.1 + 1).toNat) ?_ ⟨_, _, 15, rfl, by decide, by decide, b1.mo hx6 id, b2.mo hx6 id, hx5.trans hx6⟩
    rintro k2 _ w7 ⟨y, v, h, rfl, hh0, hh1, c1, c2, hx7⟩ hk2
    unfold culletref03_Root.b2
    dsimp only at hk2 ⊢
    have nx2 : ∀ y' v' : Int, 0 ≤ h → culletref03_Root.j2 R k1 k2 a ⟨gi, 0, none⟩ ⟨gf, 0, none⟩ (j : Int) y' v' h w7 := by
      intro y' v' h0
      unfold culletref03_Root.j2
      rw [wrap64 (by omega) (by omega)]
      exact hk2 _ _ ⟨y', v', h - 1, rfl, by omega, by omega, c1, c2, hx7⟩ (by dsimp only; omega)
    refine Cd_dec (fun h0 => ?_) (fun _ => nxt w7 c1 c2 hx7)
    refine Pu_shr (wrapU_nonneg _) (Cd_eq (fun _ => nx2 _ _ h0) (fun _ => ?_))
    refine arr_ld c1 (by omega) (by omega) fun z => Cd_eq (fun _ => ?_) (fun _ => ?_)
    · refine arr_st c1 (by omega) (by omega) fun w8 d1 hm8 => ?_
      have d2 := c2.mo hm8 (fun e => hgf e.symm)
      refine arr_st d2 (by omega) (by omega) fun w9 e2 hm9 => ?_
      exact nxt w9 (d1.mo hm9 hgf) e2 ((hx7.into hm8 (fun i hi => by omega)).into hm9 (fun i hi => by omega))
    · exact arr_ld c1 (by omega) (by omega) fun z1 => arr_ld c2 (by omega) (by omega) fun z2 => nx2 _ _ h0
  · unfold culletref03_Root.l3
    refine loopW_of (fun st w' => ∃ (a' root h : Int), st = (a', (⟨gi, 0, none⟩ : Addr), (⟨gf, 0, none⟩ : Addr), root, h, ()) ∧ -1 ≤ h ∧ h ≤ 15 ∧ Arr w' gi ∧ Arr w' gf ∧ Ex w w') (fun st _ => (st.2.2.2.2.1 + 1).toNat) ?_ ⟨a, 0, 15, rfl, by decide, by decide, b1, b2, hx5⟩
    rintro k3 _ w7 ⟨a', root, h, rfl, hh0, hh1, c1, c2, hx7⟩ hk3
    unfold culletref03_Root.b3
    dsimp only at hk3 ⊢
    have nx3 : ∀ y' v' : Int, 0 ≤ h → culletref03_Root.j3 R k3 y' ⟨gi, 0, none⟩ ⟨gf, 0, none⟩ v' h w7 := by
      intro y' v' h0
      unfold culletref03_Root.j3
      rw [wrap64 (by omega) (by omega)]
      exact hk3 _ _ ⟨y', v', h - 1, rfl, by omega, by omega, c1, c2, hx7⟩ (by dsimp only; omega)
    refine Cd_dec (fun h0 => ?_) (fun _ => ret _ _ _ hx7)
    refine Pu_shr (wrapU_nonneg _) (Cd_eq (fun _ => ?_) (fun _ => nx3 _ _ h0))
    refine arr_ld c1 (by omega) (by omega) fun z => Cd_eq (fun _ => ret _ _ _ hx7) (fun _ => ?_)
    exact arr_ld c1 (by omega) (by omega) fun z1 => arr_ld c2 (by omega) (by omega) fun z2 => nx3 _ _ h0
theorem basis_sf (w : World) : Cl Tryd.prog 67 #[] (.one (.at .sl)) (fun s w' => (∃ l : List Int, l.length = 16 ∧ Cu.Own u16v 187 w.heap.size w' s l) ∧ Ex w w') w := by
  refine culletref03_Basis.run _ w ?_
  unfold culletref03_Basis.M
  refine Wr_lit (f := u16v) (e := 187) (base := w.heap.size) [1] (by kernel_rfl) (Nat.le_refl _) (by simp) fun s1 w1 ho1 hx1 _ => ?_
  unfold culletref03_Basis.l1
  refine loopW_of (fun st w' => ∃ (b : Sl) (l : List Int) (i : Nat), st = (b, (i : Int), ()) ∧ 1 ≤ i ∧ i ≤ 16 ∧ l.length = i ∧ Cu.Own u16v 187 w.heap.size w' b l ∧ Ex w w') (fun st _ => (16 - st.2.1).toNat) ?_ ⟨s1, [1], 1, rfl, by decide, by decide, rfl, ho1, hx1⟩
  rintro k _ w2 ⟨b, l, i, rfl, hi1, hi2, hl, ho, hx2⟩ hk
  unfold culletref03_Basis.b1
  dsimp only at hk ⊢
  refine Cd_dec (fun hlt => ?_) (fun hge => ⟨b, rfl, ⟨l, by omega, ho⟩, hx2⟩)
  have hlt : i < 16 := by omega
  rw [wrap64 (by omega) (by omega), show (i : Int) - 1 = ((i - 1 : Nat) : Int) by omega]
  refine Pu_idx ho.rds tW sW (by omega) (by omega) fun a x hx hcell _ => ?_
  refine Rd_one (c := .int .u16) (x := x) (by kernel_rfl) hcell ?_
  refine Cl_mono (root_sf x w2) fun y w3 hx3 => ?_
  refine Wr_lit (f := u16v) (e := 187) (base := w3.heap.size) [y.1] (by kernel_rfl) (Nat.le_refl _) (by simp) fun s4 w4 ho4 hx4 _ => ?_
  have hx34 := hx3.trans hx4
  refine Wr_append (base := w.heap.size) tW iW rfl (ho.ex hx34) ho4.rds (fun _ => rfl) (by simp; omega) (by simp; omega) (hx2.trans hx34).size fun b' w5 ho5 hm5 hin5 => ?_
  rw [wrap64 (by omega) (by omega), show (i : Int) + 1 = ((i + 1 : Nat) : Int) by omega]
  exact hk _ _ ⟨b', l ++ [y.1], i + 1, rfl, by omega, by omega, by simp [hl], ho5, (hx2.trans hx34).into hm5 (fun b hb => (ho.base b hb).1)⟩ (by dsimp only; omega)
end Go.Proofs.YtmmejgneelkhkaaDoor
