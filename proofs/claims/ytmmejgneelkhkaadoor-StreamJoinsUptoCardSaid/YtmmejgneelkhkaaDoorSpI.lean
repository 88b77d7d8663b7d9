/- An engine's options; does the block fit? -/
import Derived.Test.YtmmejgneelkhkaaDoorSpH
import Derived.Test.YtmmejgneelkhkaaDoorFrA
set_option linter.all false
namespace Go.Proofs.YtmmejgneelkhkaaDoor
open Go Go.Cu Go.RowKit
set_option linter.unusedVariables false
set_option maxHeartbeats 2000000
set_option maxRecDepth 100000
abbrev engV (f b k m wo st ca : Int) (sc : Bool) (pk : Sl) (tr : Option Addr) : List Value :=
  [.int .i64 f, .int .i64 b, .int .i64 k, .int .i64 m, .int .i64 wo, .int .i64 st, .int .i64 ca, .bool sc, slv pk, .int .u32 0, .int .i32 0, .int .u32 0, .nilIface, .int .i32 0, .int .u32 0, .pointer tr]
abbrev optV (f b k m wo st ca : Int) (sc : Bool) (pk : Sl) : List Value := [.int .i64 f, .int .i64 b, .int .i64 k, .int .i64 m, .int .i64 wo, .int .i64 st, .int .i64 ca, .bool sc, slv pk]
def Eng (g : Nat) (f b k m wo st ca : Int) (sc : Bool) (pk : Sl) (l : List Int) (tr : Option Addr) : Th :=
  ⟨fun w F => Has w g (engV f b k m wo st ca sc pk tr) 140 ∧ Rds i64v w pk l ∧ F g ∧ ∀ x, SlIn pk x → F x,
   fun h mo hx => ⟨h.1.mo mo (hx _ h.2.2.1), h.2.1.mo mo (fun a ha => hx _ (h.2.2.2 _ (slin_of ha))), h.2.2⟩⟩
abbrev oAts : List At := [.int .i64, .int .i64, .int .i64, .int .i64, .int .i64, .int .i64, .int .i64, .bool, .sl]
theorem eng_has {W0 w : World} {T : Ths} {key : Ky} {g : Nat} {f b k m wo st ca : Int} {sc : Bool} {pk : Sl} {l : List Int} {tr : Option Addr} (hS : Sep W0 w T) (hk : T key = Eng g f b k m wo st ca sc pk l tr) : Has w g (engV f b k m wo st ca sc pk tr) 140 ∧ Rds i64v w pk l := by
  obtain ⟨F, ht, _⟩ := hS.get key hk
  exact ⟨ht.1, ht.2.1⟩
theorem zOpt : (Tryd.prog.info? 26).bind (·.zero) = some (.agg (optV 0 0 0 0 0 0 0 false ⟨none, 0, 0⟩).toArray) := by kernel_rfl
theorem run_loadVar_has {t : TypeId} {g : Nat} {cs : List Value} {w : World} (hB : Has w g cs t) (h : isAggN Tryd.prog t cs.length = true) : (loadVar t ⟨g, 0, none⟩).run Tryd.prog w = .ok (.agg cs.toArray) w :=
  run_load_agg (P := Tryd.prog) (t := t) (a := ⟨g, 0, none⟩) (cs := cs) (w := w) h (fun j v hj => by rw [add_lit, hB.cell]; exact hj)
theorem Wu_all {t : TypeId} {g : Nat} {cs ds : List Value} {k : World → Prop} {w : World} (hB : Has w g cs t) (hs : sizeIs Tryd.prog t ds.length = true) (h1 : ∀ u ∈ ds, u.oneCell' = true) (hl : ds.length = cs.length)
    (hk : ∀ w', Has w' g ds t → Mo (fun b => b = g) w w' → k w') : Wu Tryd.prog (Instr.storeAt t (.pointer (at0 g)) (.agg ds.toArray)) k w := by
  refine Wu_store hB (by simpa [Value.cells] using hs) (by simpa [Value.cells] using h1) (by simp [Value.cells, hl]) fun w' hB' hm' => hk w' ?_ hm'
  simpa [Value.cells, hl] using hB'
theorem opt_one (f b k m wo st ca : Int) (sc : Bool) (pk : Sl) : ∀ u ∈ optV f b k m wo st ca sc pk, u.oneCell' = true := by
  intro u hu
  simp only [List.mem_cons, List.not_mem_nil, or_false] at hu
  rcases hu with rfl | rfl | rfl | rfl | rfl | rfl | rfl | rfl | rfl <;> rfl
theorem options_ok {W0 w : World} {T : Ths} {key : Ky} {g : Nat} {f b k m wo st ca : Int} {sc : Bool} {pk : Sl} {l : List Int} {tr : Option Addr} (hS : Sep W0 w T) (hk : T key = Eng g f b k m wo st ca sc pk l tr) (hl : l.length * 8 ≤ 140737488355328) :
    Cl Tryd.prog 48 #[.pointer (at0 g)] (.tup [.agg oAts, .at (.int .i64)]) (fun x w' => (∃ p', x = ((f, b, k, m, wo, st, ca, sc, p', ()), 0, ())) ∧ Ex w w') w := by
  obtain ⟨hB, hpk⟩ := eng_has hS hk
  refine engine_Engine_Options.run _ (at0 g) w ?_
  unfold engine_Engine_Options.M
  refine Wr_alloc zOpt fun w1 hB1 hx1 => ?_
  refine Pu_eqnil tEn (Cd_f (Pu_nil ?_))
  refine Rd_hasN (x := (f, b, k, m, wo, st, ca, sc, pk, ())) (hB.ex hx1) (by kernel_rfl) rfl ?_
  refine Wr_alloc zOpt fun w2 hB2 hx2 => ?_
  have hx12 := hx1.trans hx2
  refine Wu_all (ds := optV f b k m wo st ca sc pk) hB2 (by kernel_rfl) (opt_one _ _ _ _ _ _ _ _ _) rfl fun w3 hB3 hm3 => ?_
  have hx3 : Ex w1 w3 := hx2.into hm3 (fun i hi => Nat.le_of_eq (Eq.symm hi))
  refine Rd_has (c := .sl) (x := pk) hB3 (by kernel_rfl) rfl ?_
  refine Wr_append (s := ⟨none, 0, 0⟩) (l := []) (base := 0) tI iI rfl (Own.nil _ _ _ _) (hpk.ex (hx1.trans hx3)) (fun _ => rfl) (by simp; omega) (by simpa using hl) (Nat.zero_le _) fun p' w4 ho4 hm4 hin4 => ?_
  have hx4 : Ex w3 w4 := hm4.weak (fun b _ hb => by obtain ⟨a, ha, _⟩ := hb; cases ha)
  refine Wu_store (hB3.ex hx4) (by kernel_rfl) (by simp [Value.cells, Value.oneCell']) (by simp [Value.cells]) fun w5 hB5 hm5 => ?_
  have hB5' : Has w5 w1.heap.size (optV f b k m wo st ca sc p') 26 := hB5
  have hx5 : Ex w1 w5 := (hx3.trans hx4).into hm5 (fun i hi => Nat.le_of_eq (Eq.symm hi))
  refine Rd_hasN (x := (f, b, k, m, wo, st, ca, sc, p', ())) hB5' (by kernel_rfl) rfl ?_
  refine Wu_all (ds := optV f b k m wo st ca sc p') (hB1.ex hx5) (by kernel_rfl) (opt_one _ _ _ _ _ _ _ _ _) rfl fun w6 hB6 hm6 => ?_
  have hx6 : Ex w w6 := (hx1.trans hx5).into hm6 (fun i hi => Nat.le_of_eq (Eq.symm hi))
  exact ⟨(f, b, k, m, wo, st, ca, sc, p', ()), run_loadVar_has hB6 (by kernel_rfl), ((f, b, k, m, wo, st, ca, sc, p', ()), 0, ()), rfl, ⟨p', rfl⟩, hx6⟩
theorem options_nil (w : World) : Cl Tryd.prog 48 #[.pointer none] (.tup [.agg oAts, .at (.int .i64)]) (fun x w' => x.2.1 = 1 ∧ Ex w w') w := by
  refine engine_Engine_Options.run _ none w ?_
  unfold engine_Engine_Options.M
  refine Wr_alloc zOpt fun w1 hB1 hx1 => ?_
  refine Pu_eqnil tEn (Cd_t ?_)
  refine Wu_all (ds := optV 0 0 0 0 0 0 0 false ⟨none, 0, 0⟩) hB1 (by kernel_rfl) (opt_one _ _ _ _ _ _ _ _ _) rfl fun w2 hB2 hm2 => ?_
  exact ⟨(0, 0, 0, 0, 0, 0, 0, false, ⟨none, 0, 0⟩, ()), run_loadVar_has hB2 (by kernel_rfl), ((0, 0, 0, 0, 0, 0, 0, false, ⟨none, 0, 0⟩, ()), 1, ()), rfl, rfl, hx1.into hm2 (fun i hi => Nat.le_of_eq (Eq.symm hi))⟩
abbrev blkV (ge : Nat) (f b k m wo st ca : Int) (sc : Bool) (pk : Sl) (size : Int) : List Value :=
  [.pointer (at0 ge), .int .i64 f, .int .i64 b, .int .i64 k, .int .i64 m, .int .i64 wo, .int .i64 st, .int .i64 ca, .bool sc, slv pk, .int .i64 size, .slice none 0 0]
theorem begin_ok {W0 w : World} {T : Ths} {key : Ky} {g : Nat} {f b k m wo st ca size : Int} {sc : Bool} {pk : Sl} {l : List Int} {tr : Option Addr} (hS : Sep W0 w T) (hk : T key = Eng g f b k m wo st ca sc pk l tr) (hl : l.length * 8 ≤ 140737488355328) :
    Cl Tryd.prog 24 #[.pointer (at0 g), .int .i64 size] (.one (.at .ptr)) (fun x w' => ∃ gb p', x = at0 gb ∧ Sep W0 w' (T.up (.tm 0) (Cel gb (blkV g f b k m wo st ca sc p' size) 93))) w := by
  refine stream_begin.run _ (at0 g) size w ?_
  unfold stream_begin.M
  refine Cl_mono (options_ok hS hk hl) ?_
  rintro x w1 ⟨⟨p', rfl⟩, hx1⟩
  refine Wr_alloc zOpt fun w2 hB2 hx2 => ?_
  refine Wu_all (ds := optV f b k m wo st ca sc p') hB2 (by kernel_rfl) (opt_one _ _ _ _ _ _ _ _ _) rfl fun w3 hB3 hm3 => ?_
  refine Cd_f ?_
  refine Rd_hasN (x := (f, b, k, m, wo, st, ca, sc, p', ())) hB3 (by kernel_rfl) rfl ?_
  have hx3 : Ex w w3 := (hx1.trans hx2).into hm3 (fun i hi => Nat.le_trans hx1.size (Nat.le_of_eq (Eq.symm hi)))
  refine Wr_box fun w4 hB4 hx4 => ?_
  exact ⟨_, rfl, w3.heap.size, p', rfl, (hS.exx hx3).box (.tm 0) hx4 hB4⟩
theorem begin_nil (size : Int) (w : World) : Gv Tryd.prog 24 #[.pointer none, .int .i64 size] (.pointer none) w := by
  refine stream_begin.run _ none size w ?_
  unfold stream_begin.M
  refine Cl_mono (options_nil w) ?_
  rintro ⟨⟨a, b, c, d, e, f, g, h, i, _⟩, j, _⟩ w1 ⟨hx, hx1⟩
  have hx : j = 1 := hx
  subst hx
  refine Wr_alloc zOpt fun w2 hB2 hx2 => ?_
  refine Wu_all (ds := optV a b c d e f g h i) hB2 (by kernel_rfl) (opt_one _ _ _ _ _ _ _ _ _) rfl fun w3 hB3 hm3 => ?_
  exact Cd_t ⟨rfl, (hx1.trans hx2).into hm3 (fun i hi => Nat.le_trans hx1.size (Nat.le_of_eq (Eq.symm hi)))⟩
/-! ### Does the block fit? -/
theorem fits_iff {d block : Int} (hd : 1 ≤ d) (hb : 0 ≤ block) : block ≤ Int.tdiv 67108864 d ↔ d * block ≤ 67108864 := by
  rw [Int.tdiv_eq_ediv_of_nonneg (by decide), Int.le_ediv_iff_mul_le (by omega), Int.mul_comm]
theorem fits_gv {w : World} {gb ge : Nat} {f b k m wo st ca size : Int} {sc : Bool} {pk : Sl} (hB : Has w gb (blkV ge f b k m wo st ca sc pk size) 93) (hk : 1 ≤ k) (hk2 : k ≤ 65536) (hm : 1 ≤ m) (hm2 : m ≤ 65536) :
    Gv Tryd.prog 26 #[.pointer (at0 gb)] (.bool (fitsF f k m size)) w := by
  refine stream_block_fits.run _ (at0 gb) w ?_
  generalize hR : (fun (e : Ending) (w' : World) => e = .returned (.bool (fitsF f k m size)) ∧ Ex w w') = R
  have j1f : ∀ b : Bool, (b = true ↔ (size < 1 ∨ size > 1048576 ∨ (f = 2 ∧ Int.tmod size 2 = 1))) → stream_block_fits.j1 R (at0 gb) b w := by
    intro b hb
    unfold stream_block_fits.j1
    subst hR
    refine Cd_of (fun h => ⟨?_, Ex.refl w⟩) (fun h => ?_)
    · have := hb.1 h
      have e : fitsF f k m size = false := by
        unfold fitsF
        rw [decide_eq_false]
        intro h'
        rcases h'.2.2.1 with h2 | h2 <;> omega
      rw [e]
    · have hn : ¬ (size < 1 ∨ size > 1048576 ∨ (f = 2 ∧ Int.tmod size 2 = 1)) := fun h' => by rw [hb.2 h'] at h; cases h
      have hx := Ex.drew w
      refine Pu_nil (RdS_same (Rd_has (c := .int .i64) (x := size) (hB.ex hx) (by kernel_rfl) rfl ?_))
      refine Pu_nil (RdS_same (Rd_has (c := .int .i64) (x := k) (hB.ex hx) (by kernel_rfl) rfl ?_))
      refine Pu_nil (RdS_same (Rd_has (c := .int .i64) (x := m) (hB.ex hx) (by kernel_rfl) rfl ?_))
      rw [wrap64 (by omega) (by omega)]
      refine Pu_quo (by omega) ⟨?_, hx⟩
      have hq0 : 0 ≤ Int.tdiv 67108864 (k + m) ∧ Int.tdiv 67108864 (k + m) ≤ 67108864 := tdiv_nonneg' (by decide) (by omega)
      rw [wrap64 (by omega) (by omega)]
      have e : decide (size ≤ Int.tdiv 67108864 (k + m)) = fitsF f k m size := by
        unfold fitsF
        have h2 := fits_iff (d := k + m) (block := size) (by omega) (by omega)
        have h3 : f ≠ 2 ∨ Int.tmod size 2 = 0 := by
          have := tmod_bound (a := size) (b := 2) (by omega) (by decide)
          omega
        rw [Bool.eq_iff_iff, decide_eq_true_iff, decide_eq_true_iff, h2]
        exact ⟨fun h => ⟨by omega, by omega, h3, h⟩, fun h => h.2.2.2⟩
      rw [e]
  unfold stream_block_fits.M
  refine Pu_nil (Rd_has (c := .int .i64) (x := size) hB (by kernel_rfl) rfl ?_)
  refine Cd_dec (fun h => j1f _ (by simp; omega)) (fun h => ?_)
  refine Pu_nil (Rd_has (c := .int .i64) (x := size) hB (by kernel_rfl) rfl ?_)
  refine Cd_dec (fun h2 => j1f _ (by simp; omega)) (fun h2 => ?_)
  refine Pu_nil (Rd_has (c := .int .i64) (x := f) hB (by kernel_rfl) rfl ?_)
  refine Cd_eq (fun h3 => ?_) (fun h3 => j1f _ (by simp; omega))
  refine Pu_nil (Rd_has (c := .int .i64) (x := size) hB (by kernel_rfl) rfl ?_)
  refine j1f _ ?_
  rw [beq_iff_eq]
  constructor
  · intro h4; exact .inr (.inr ⟨h3, h4⟩)
  · intro h4; omega
abbrev CodeT : Type := Int × Int × Int × (Option Addr) × Int × Int × Int × Int × Int × Int × Sl × Sl × Sl × Unit
abbrev codeAts : List At := [.int .i64, .int .i64, .int .i64, .ptr, .int .i64, .int .i64, .int .i64, .int .i64, .int .i64, .int .i64, .sl, .sl, .sl]
abbrev codeV (c : CodeT) : List Value := [.int .i64 c.1, .int .i64 c.2.1, .int .i64 c.2.2.1, .pointer c.2.2.2.1, .int .i64 c.2.2.2.2.1, .int .i64 c.2.2.2.2.2.1, .int .i64 c.2.2.2.2.2.2.1, .int .i64 c.2.2.2.2.2.2.2.1, .int .i64 c.2.2.2.2.2.2.2.2.1, .int .i64 c.2.2.2.2.2.2.2.2.2.1, slv c.2.2.2.2.2.2.2.2.2.2.1, slv c.2.2.2.2.2.2.2.2.2.2.2.1, slv c.2.2.2.2.2.2.2.2.2.2.2.2.1]
theorem block_gv (c : CodeT) (n : Int) (w : World) (hk : 1 ≤ c.2.1) (hk2 : c.2.1 ≤ 65536) (hm : 1 ≤ c.2.2.1) (hm2 : c.2.2.1 ≤ 65536) : Gv Tryd.prog 31 #[.agg (codeV c).toArray, .int .i64 n] (.bool (fitsF c.1 c.2.1 c.2.2.1 n)) w := by
  refine culletref24_Code_block.run _ c n w ?_
  unfold culletref24_Code_block.M
  refine Wr_box fun w1 hB1 hx1 => ?_
  have hB1' : Has w1 w.heap.size (codeV c) 38 := hB1
  generalize hR : (fun (e : Ending) (w' : World) => e = .returned (.bool (fitsF c.1 c.2.1 c.2.2.1 n)) ∧ Ex w w') = R
  have no : fitsF c.1 c.2.1 c.2.2.1 n = false → R (.returned (.bool false)) w1 := fun h => by subst hR; exact ⟨by rw [h], hx1⟩
  have last : 1 ≤ n → n ≤ 1048576 → (c.1 ≠ 2 ∨ Int.tmod n 2 = 0) → R (.returned (.bool (decide ((IntKind.wrap .i64 ((IntKind.wrap .i64 (c.2.1 + c.2.2.1)) * n)) ≤ 67108864)))) w1 := by
    intro h1 h2 h3
    subst hR
    refine ⟨?_, hx1⟩
    have hb : (c.2.1 + c.2.2.1) * n ≤ 131072 * 1048576 := Int.mul_le_mul (by omega) h2 (by omega) (by omega)
    have hb0 : 0 ≤ (c.2.1 + c.2.2.1) * n := Int.mul_nonneg (by omega) (by omega)
    rw [wrap64 (x := c.2.1 + c.2.2.1) (by omega) (by omega), wrap64 (by omega) (by omega)]
    have e : decide ((c.2.1 + c.2.2.1) * n ≤ 67108864) = fitsF c.1 c.2.1 c.2.2.1 n := by
      unfold fitsF
      rw [Bool.eq_iff_iff, decide_eq_true_iff, decide_eq_true_iff]
      exact ⟨fun h => ⟨h1, h2, h3, h⟩, fun h => h.2.2.2⟩
    rw [e]
  refine Cd_dec (fun h1 => Cd_dec (fun h2 => ?_) (fun h2 => no ?_)) (fun h1 => no ?_)
  · refine Rd_has (c := .int .i64) (x := c.1) hB1' (by kernel_rfl) rfl ?_
    refine Cd_ne (fun h3 => ?_) (fun h3 => Cd_eq (fun h4 => ?_) (fun h4 => no ?_))
    · refine Rd_has (c := .int .i64) (x := c.2.1) hB1' (by kernel_rfl) rfl ?_
      refine Rd_has (c := .int .i64) (x := c.2.2.1) hB1' (by kernel_rfl) rfl ?_
      exact last h1 h2 (.inl h3)
    · refine Rd_has (c := .int .i64) (x := c.2.1) hB1' (by kernel_rfl) rfl ?_
      refine Rd_has (c := .int .i64) (x := c.2.2.1) hB1' (by kernel_rfl) rfl ?_
      exact last h1 h2 (.inr h4)
    · unfold fitsF; rw [decide_eq_false]; intro h'; rcases h'.2.2.1 with h | h
      · exact h h3
      · exact h4 h
  · unfold fitsF; rw [decide_eq_false]; intro h'; omega
  · unfold fitsF; rw [decide_eq_false]; intro h'; omega
end Go.Proofs.YtmmejgneelkhkaaDoor
