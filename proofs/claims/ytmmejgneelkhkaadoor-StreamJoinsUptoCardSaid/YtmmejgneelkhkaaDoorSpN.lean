/- The document's code of any parameters; the engine, made. -/
import Derived.Test.YtmmejgneelkhkaaDoorSpM
import Derived.Test.YtmmejgneelkhkaaDoorSpJ
set_option linter.all false
namespace Go.Proofs.YtmmejgneelkhkaaDoor
open Go Go.Cu Go.RowKit
set_option linter.unusedVariables false
set_option maxHeartbeats 2000000
set_option maxRecDepth 100000
abbrev wideAts : List At := [.int .i64, .int .i64, .int .i64, .int .i64, .int .i64, .int .i64, .sl, .sl, .sl]
abbrev wideV (k m p u z r : Int) (a b c : Sl) : List Value := [.int .i64 k, .int .i64 m, .int .i64 p, .int .i64 u, .int .i64 z, .int .i64 r, slv a, slv b, slv c]
theorem wide_one (k m p u z r : Int) (a b c : Sl) : ∀ x ∈ wideV k m p u z r a b c, x.oneCell' = true := by
  intro x hx
  simp only [List.mem_cons, List.not_mem_nil, or_false] at hx
  rcases hx with rfl | rfl | rfl | rfl | rfl | rfl | rfl | rfl | rfl <;> rfl
theorem zWide : (Tryd.prog.info? 36).bind (·.zero) = some (.agg (wideV 0 0 0 0 0 0 ⟨none, 0, 0⟩ ⟨none, 0, 0⟩ ⟨none, 0, 0⟩).toArray) := by kernel_rfl
/-- a cell of a known block is written -/
theorem Wu_cell {t e : TypeId} {B i : Nat} {cs ds : List Value} {v : Value} {k : World → Prop} {w : World} (hB : Has w B cs e) (hs : sizeIs Tryd.prog t 1 = true) (hv : v.cells = #[v]) (h1 : v.oneCell' = true) (hi : i + 1 ≤ cs.length) (hds : cs.take i ++ [v] ++ cs.drop (i + 1) = ds)
    (hk : ∀ w', Has w' B ds e → Mo (fun b => b = B) w w' → k w') : Wu Tryd.prog (Instr.storeAt t (.pointer (some ⟨B, i, none⟩)) v) k w := by
  refine Wu_store hB (by rw [hv]; exact hs) (by rw [hv]; simpa using h1) (by rw [hv]; exact hi) fun w' hB' hm' => hk w' ?_ hm'
  rw [hv] at hB'
  rw [← hds]
  exact hB'
theorem new18_sf (k m : Int) (h : paramsF 2 k m = 0) (w : World) : Cl Tryd.prog 43 #[.int .i64 k, .int .i64 m] (.one (.agg wideAts)) (fun _ w' => Ex w w') w := by
  have hg := params_good h
  have hsum : k + pow2F m ≤ 65536 := by
    unfold paramsF at h
    rw [if_neg (by omega), if_neg (by omega), if_neg (by omega)] at h
    split at h
    · cases h
    · omega
  have hpb := pwF_bound 17 1 m (by decide) (by decide) (by omega)
  have hpb : 1 ≤ pow2F m ∧ pow2F m ≤ 65536 * 2 := hpb
  refine culletref18_New.run _ k m w ?_
  unfold culletref18_New.M
  refine Wr_alloc zWide fun w1 hB1 hx1 => ?_
  refine Wr_alloc zWide fun w2 hB2 hx2 => ?_
  have hx02 := hx1.trans hx2
  refine Wu_all (ds := wideV k m 0 0 0 0 ⟨none, 0, 0⟩ ⟨none, 0, 0⟩ ⟨none, 0, 0⟩) hB2 (by kernel_rfl) (wide_one _ _ _ _ _ _ _ _ _) rfl fun w3 hB3 hm3 => ?_
  have hx3 : Ex w1 w3 := hx2.into hm3 (fun i hi => Nat.le_of_eq (Eq.symm hi))
  refine Cl_mono (power_cl m (by omega) (by omega) w3) ?_
  rintro _ w4 ⟨⟨e, he, rfl⟩, hx4⟩
  dsimp only
  have hB4 := hB3.ex hx4
  have hx14 := hx3.trans hx4
  generalize hgc : w1.heap.size = gc at hB4 ⊢
  refine Wu_cell (ds := wideV k m (pow2F m) 0 0 0 ⟨none, 0, 0⟩ ⟨none, 0, 0⟩ ⟨none, 0, 0⟩) hB4 (by kernel_rfl) rfl rfl (by simp) rfl fun w5 hB5 hm5 => ?_
  have hx5 : Ex w1 w5 := hx14.into hm5 (fun i hi => Nat.le_of_eq (hgc.trans (Eq.symm hi)))
  refine Wu_cell (ds := wideV k m (pow2F m) e 0 0 ⟨none, 0, 0⟩ ⟨none, 0, 0⟩ ⟨none, 0, 0⟩) hB5 (by kernel_rfl) rfl rfl (by simp) rfl fun w6 hB6 hm6 => ?_
  have hx6 : Ex w1 w6 := hx5.into hm6 (fun i hi => Nat.le_of_eq (hgc.trans (Eq.symm hi)))
  refine Rd_has (c := .int .i64) (x := pow2F m) hB6 (by kernel_rfl) rfl ?_
  rw [wrap64 (by omega) (by omega)]
  refine Cl_mono (power_cl (pow2F m + k) (by omega) (by omega) w6) ?_
  rintro _ w7 ⟨⟨e2, he2, rfl⟩, hx7⟩
  dsimp only
  generalize pow2F (pow2F m + k) = z
  have hB7 := hB6.ex hx7
  have hx17 := hx6.trans hx7
  refine Wu_cell (ds := wideV k m (pow2F m) e z 0 ⟨none, 0, 0⟩ ⟨none, 0, 0⟩ ⟨none, 0, 0⟩) hB7 (by kernel_rfl) rfl rfl (by simp) rfl fun w8 hB8 hm8 => ?_
  have hx8 : Ex w1 w8 := hx17.into hm8 (fun i hi => Nat.le_of_eq (hgc.trans (Eq.symm hi)))
  refine Wu_cell (ds := wideV k m (pow2F m) e z e2 ⟨none, 0, 0⟩ ⟨none, 0, 0⟩ ⟨none, 0, 0⟩) hB8 (by kernel_rfl) rfl rfl (by simp) rfl fun w9 hB9 hm9 => ?_
  have hx9 : Ex w1 w9 := hx8.into hm9 (fun i hi => Nat.le_of_eq (hgc.trans (Eq.symm hi)))
  refine Rd_has (c := .int .i64) (x := (e2 : Int)) hB9 (by kernel_rfl) rfl ?_
  refine Cl_mono (elems_sf e2 he2 w9) fun s1 w10 hx10 => ?_
  refine Wu_cell (ds := wideV k m (pow2F m) e z e2 s1 ⟨none, 0, 0⟩ ⟨none, 0, 0⟩) (hB9.ex hx10) (by kernel_rfl) rfl rfl (by simp) rfl fun w11 hB11 hm11 => ?_
  have hx11 : Ex w1 w11 := (hx9.trans hx10).into hm11 (fun i hi => Nat.le_of_eq (hgc.trans (Eq.symm hi)))
  refine Cl_mono (loglist_sf w11) fun s2 w12 hx12 => ?_
  refine Wu_cell (ds := wideV k m (pow2F m) e z e2 s1 s2 ⟨none, 0, 0⟩) (hB11.ex hx12) (by kernel_rfl) rfl rfl (by simp) rfl fun w13 hB13 hm13 => ?_
  have hx13 : Ex w1 w13 := (hx11.trans hx12).into hm13 (fun i hi => Nat.le_of_eq (hgc.trans (Eq.symm hi)))
  refine Cl_mono (exps_sf w13) ?_
  rintro s3 w14 ⟨_, hx14'⟩
  refine Wu_cell (ds := wideV k m (pow2F m) e z e2 s1 s2 s3) (hB13.ex hx14') (by kernel_rfl) rfl rfl (by simp) rfl fun w15 hB15 hm15 => ?_
  have hx15 : Ex w1 w15 := (hx13.trans hx14').into hm15 (fun i hi => Nat.le_of_eq (hgc.trans (Eq.symm hi)))
  refine Rd_hasN (l := wideAts) (x := (k, m, pow2F m, (e : Int), z, (e2 : Int), s1, s2, s3, ())) hB15 (by kernel_rfl) rfl ?_
  refine Wu_all (ds := wideV k m (pow2F m) e z e2 s1 s2 s3) (hB1.ex hx15) (by kernel_rfl) (wide_one _ _ _ _ _ _ _ _ _) rfl fun w16 hB16 hm16 => ?_
  exact ⟨(k, m, pow2F m, (e : Int), z, (e2 : Int), s1, s2, s3, ()), run_loadVar_has hB16 (by kernel_rfl), (k, m, pow2F m, (e : Int), z, (e2 : Int), s1, s2, s3, ()), rfl, (hx1.trans hx15).into hm16 (fun i hi => Nat.le_of_eq (Eq.symm hi))⟩
/-! ### The code -/
theorem code_one (c : CodeT) : ∀ x ∈ codeV c, x.oneCell' = true := by
  intro x hx
  simp only [List.mem_cons, List.not_mem_nil, or_false] at hx
  rcases hx with rfl | rfl | rfl | rfl | rfl | rfl | rfl | rfl | rfl | rfl | rfl | rfl | rfl <;> rfl
abbrev code0 (f k m : Int) : CodeT := (f, k, m, none, 0, 0, 0, 0, 0, 0, ⟨none, 0, 0⟩, ⟨none, 0, 0⟩, ⟨none, 0, 0⟩, ())
theorem zCode : (Tryd.prog.info? 38).bind (·.zero) = some (.agg (codeV (code0 0 0 0)).toArray) := by kernel_rfl
theorem new24_ok (f k m : Int) (made : Bool) (h : made = true → paramsF f k m = 0) (w : World) : Cl Tryd.prog 16 #[.int .i64 f, .int .i64 k, .int .i64 m, .bool made] (.one (.agg codeAts)) (fun c w' => (c.1 = f ∧ c.2.1 = k ∧ c.2.2.1 = m) ∧ Ex w w') w := by
  refine culletref24_New.run _ f k m made w ?_
  unfold culletref24_New.M
  refine Wr_alloc zCode fun w1 hB1 hx1 => ?_
  refine Wr_alloc zCode fun w2 hB2 hx2 => ?_
  refine Wu_all (ds := codeV (code0 f k m)) hB2 (by kernel_rfl) (code_one _) rfl fun w3 hB3 hm3 => ?_
  have hx3 : Ex w1 w3 := hx2.into hm3 (fun i hi => Nat.le_of_eq (Eq.symm hi))
  refine Cd_not (fun hm => ?_) (fun hm => ?_)
  · refine Rd_hasN (l := codeAts) (x := code0 f k m) hB3 (by kernel_rfl) rfl ?_
    refine Wu_all (ds := codeV (code0 f k m)) (hB1.ex hx3) (by kernel_rfl) (code_one _) rfl fun w4 hB4 hm4 => ?_
    exact ⟨code0 f k m, run_loadVar_has hB4 (by kernel_rfl), code0 f k m, rfl, ⟨rfl, rfl, rfl⟩, (hx1.trans hx3).into hm4 (fun i hi => Nat.le_of_eq (Eq.symm hi))⟩
  · have hpar := h hm
    have hg := params_good hpar
    have last : ∀ (c : CodeT) (w4 : World), c.1 = f → c.2.1 = k → c.2.2.1 = m → Has w4 w1.heap.size (codeV c) 38 → Ex w1 w4 →
        culletref24_New.j1 (fun e w' => ∃ x : CodeT, e = Ending.returned ((Sh.one (.agg codeAts)).enc x) ∧ (x.1 = f ∧ x.2.1 = k ∧ x.2.2.1 = m) ∧ Ex w w') ⟨w.heap.size, 0, none⟩ ⟨w1.heap.size, 0, none⟩ w4 := by
      intro c w4 h1 h2 h3 hB4 hx4
      unfold culletref24_New.j1
      refine Rd_hasN (l := codeAts) (x := c) hB4 (by kernel_rfl) rfl ?_
      refine Wu_all (ds := codeV c) (hB1.ex hx4) (by kernel_rfl) (code_one _) rfl fun w5 hB5 hm5 => ?_
      exact ⟨c, run_loadVar_has hB5 (by kernel_rfl), c, rfl, ⟨h1, h2, h3⟩, (hx1.trans hx4).into hm5 (fun i hi => Nat.le_of_eq (Eq.symm hi))⟩
    refine Cd_eq (fun hf => ?_) (fun hf => ?_)
    · subst hf
      refine Cl_mono (new18_sf k m hpar w3) fun x w4 hx4 => ?_
      refine Wu_store (hB3.ex hx4) (by kernel_rfl) (by simp [Value.cells, Value.oneCell']) (by simp [Value.cells]) fun w5 hB5 hm5 => ?_
      refine last ((2, k, m, none, x.1, x.2.1, x.2.2.1, x.2.2.2.1, x.2.2.2.2.1, x.2.2.2.2.2.1, x.2.2.2.2.2.2.1, x.2.2.2.2.2.2.2.1, x.2.2.2.2.2.2.2.2.1, ()) : CodeT) w5 rfl rfl rfl ?_ ((hx3.trans hx4).into hm5 (fun i hi => Nat.le_of_eq (Eq.symm hi)))
      exact hB5
    · have hsmall : k + m ≤ 256 := by
        unfold paramsF at hpar
        rw [if_neg (by omega), if_neg (by omega), if_pos hf] at hpar
        split at hpar
        · cases hpar
        · omega
      obtain ⟨kn, rfl⟩ : ∃ kn : Nat, k = (kn : Int) := ⟨k.toNat, by omega⟩
      obtain ⟨mn, rfl⟩ : ∃ mn : Nat, m = (mn : Int) := ⟨m.toNat, by omega⟩
      refine Cl_mono (new17_sf f kn mn (by omega) (by omega) (by omega) (by omega) w3) fun x w4 hx4 => ?_
      refine Wu_cell (ds := codeV ((f, (kn : Int), (mn : Int), x.1, 0, 0, 0, 0, 0, 0, ⟨none, 0, 0⟩, ⟨none, 0, 0⟩, ⟨none, 0, 0⟩, ()) : CodeT)) (hB3.ex hx4) (by kernel_rfl) rfl rfl (by simp) rfl fun w5 hB5 hm5 => ?_
      exact last _ w5 rfl rfl rfl hB5 ((hx3.trans hx4).into hm5 (fun i hi => Nat.le_of_eq (Eq.symm hi)))
end Go.Proofs.YtmmejgneelkhkaaDoor
