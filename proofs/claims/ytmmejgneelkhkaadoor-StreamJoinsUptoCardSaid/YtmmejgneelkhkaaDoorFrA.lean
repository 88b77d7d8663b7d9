/- The walks of the functions of the frame that look at numbers alone: each answers as the plain functions say. -/
import Derived.Test.YtmmejgneelkhkaaDoorC
import Derived.Test.YtmmejgneelkhkaaDoorFrSpec
set_option linter.all false
namespace Go.Proofs.YtmmejgneelkhkaaDoor
open Go Go.Cu
set_option linter.unusedVariables false
theorem fin {R : Ending → World → Prop} {v : Value} {w w' : World} (hR : ∀ e w', (e = Ending.returned v ∧ Ex w w') → R e w') (h : Ex w w') : R (.returned v) w' := hR _ _ ⟨rfl, h⟩

theorem family_gives (f : Int) : Gives Tryd.prog 63 #[.int .i64 f] (.bool (famOk f)) := by
  intro w
  refine shape_family.run _ f w ?_
  unfold shape_family.M
  refine Cd_dec (fun h => ⟨?_, Ex.refl w⟩) (fun h => ⟨?_, Ex.refl w⟩)
  · rw [show decide (f ≤ 2) = famOk f by unfold famOk; rw [Bool.eq_iff_iff]; simp; omega]
  · rw [show famOk f = false by unfold famOk; simp; omega]

theorem pow2_gives (n : Int) (h : n ≤ 65536) : Gives Tryd.prog 64 #[.int .i64 n] (.int .i64 (pow2F n)) := by
  intro w
  refine shape_pow2.run _ n w ?_
  unfold shape_pow2.M shape_pow2.l1 pow2F
  refine loopW_of (fun s w' => w' = w ∧ s.1 = n ∧ ∃ k, 65536 * 2 ≤ s.2.1 * 2 ^ k ∧ k ≤ 17 ∧ 1 ≤ s.2.1 ∧ s.2.1 ≤ 65536 * 2 ∧ pwF k s.2.1 n = pwF 17 1 n) (fun s _ => (65536 * 2 - s.2.1).toNat) ?_ ⟨rfl, rfl, 17, (show (65536 * 2 : Int) ≤ 1 * 2 ^ 17 by decide), by decide, (show (1 : Int) ≤ 1 by decide), (show (1 : Int) ≤ 65536 * 2 by decide), rfl⟩
  rintro k ⟨n', p, u⟩ w' ⟨rfl, rfl, j, hj1, hj2, hp1, hp2, hpw⟩ hk
  simp only at hj1 hj2 hp1 hp2 hpw ⊢
  unfold shape_pow2.b1
  refine Cd_dec (fun h1 => ?_) (fun h1 => ⟨?_, Ex.refl _⟩)
  · have hs : shL .i64 p 1 = 2 * p := by
      have : shL .i64 p 1 = IntKind.wrap .i64 (p * 2) := rfl
      rw [this, wrap64 (by omega) (by omega)]; omega
    rw [hs]
    cases j with
    | zero => simp at hj1; omega
    | succ j =>
      refine hk _ _ ⟨rfl, rfl, j, ?_, by omega, by simp only; omega, by simp only; omega, ?_⟩ (by simp only; omega)
      · simp only; rw [Int.pow_succ] at hj1; rw [Int.mul_comm 2 p, Int.mul_assoc, Int.mul_comm 2]; exact hj1
      · rw [← hpw]; simp only [pwF]; rw [if_pos h1]
  · rw [← hpw]
    cases j with
    | zero => rfl
    | succ j => simp only [pwF]; rw [if_neg h1]

theorem rpow2_gives (n : Int) (h0 : 1 ≤ n) (h : n ≤ 65536) : Gives Tryd.prog 56 #[.int .i64 n] (.tuple #[.int .i64 (pow2F n), .int .i64 0]) := by
  intro w
  refine culletref16_Pow2.run _ n w ?_
  unfold culletref16_Pow2.M culletref16_Pow2.j1
  refine Cd_dec (fun h1 => absurd h1 (by omega)) (fun _ => Cd_dec (fun h1 => absurd h1 (by omega)) (fun _ => ?_))
  unfold culletref16_Pow2.l1 pow2F
  refine loopW_of (fun s w' => w' = w ∧ s.1 = n ∧ ∃ k, 65536 * 2 ≤ s.2.1 * 2 ^ k ∧ k ≤ 17 ∧ 1 ≤ s.2.1 ∧ s.2.1 ≤ 65536 * 2 ∧ pwF k s.2.1 n = pwF 17 1 n) (fun s _ => (65536 * 2 - s.2.1).toNat) ?_ ⟨rfl, rfl, 17, (show (65536 * 2 : Int) ≤ 1 * 2 ^ 17 by decide), by decide, (show (1 : Int) ≤ 1 by decide), (show (1 : Int) ≤ 65536 * 2 by decide), rfl⟩
  rintro k ⟨n', p, u⟩ w' ⟨rfl, rfl, j, hj1, hj2, hp1, hp2, hpw⟩ hk
  simp only at hj1 hj2 hp1 hp2 hpw ⊢
  unfold culletref16_Pow2.b1
  refine Cd_dec (fun h1 => ?_) (fun h1 => ⟨?_, Ex.refl _⟩)
  · rw [wrap64 (by omega) (by omega)]
    cases j with
    | zero => simp at hj1; omega
    | succ j =>
      refine hk _ _ ⟨rfl, rfl, j, ?_, by omega, by simp only; omega, by simp only; omega, ?_⟩ (by simp only; omega)
      · simp only; rw [Int.pow_succ] at hj1; rw [Int.mul_comm 2 p, Int.mul_assoc, Int.mul_comm 2]; exact hj1
      · rw [← hpw]; simp only [pwF]; rw [if_pos h1]
  · rw [← hpw]
    cases j with
    | zero => rfl
    | succ j => simp only [pwF]; rw [if_neg h1]

theorem params_gives (f k m : Int) : Gives Tryd.prog 46 #[.int .i64 f, .int .i64 k, .int .i64 m] (.int .i64 (paramsF f k m)) := by
  intro w
  refine shape_Params.run _ f k m w ?_
  unfold shape_Params.M
  refine Cl_gives (family_gives f) fun w1 hx1 => ?_
  refine Cd_not (fun h => ⟨?_, hx1⟩) (fun h => ?_)
  · unfold famOk at h; unfold paramsF; rw [if_pos (by simpa using h)]
  have hf : 0 ≤ f ∧ f ≤ 2 := by unfold famOk at h; simpa using h
  -- the second case
  have bad : (k < 1 ∨ m < 1 ∨ k > 65536 ∨ m > 65536) → (fun e w' => e = Ending.returned (.int .i64 (paramsF f k m)) ∧ Ex w w') (.returned (.int .i64 4)) w1 := fun hb =>
    ⟨by unfold paramsF; rw [if_neg (by omega), if_pos hb], hx1⟩
  have j1f : ∀ b : Bool, (b = true → k < 1 ∨ m < 1 ∨ k > 65536 ∨ m > 65536) → (b = false → ¬ (k < 1 ∨ m < 1 ∨ k > 65536 ∨ m > 65536)) →
      shape_Params.j1 (fun e w' => e = Ending.returned (.int .i64 (paramsF f k m)) ∧ Ex w w') f k m b w1 := by
    intro b hb1 hb2
    unfold shape_Params.j1
    refine Cd_of (fun hb => bad (hb1 hb)) (fun hb => ?_)
    have hg := hb2 hb
    refine Cd_ne (fun hne => ?_) (fun he => ?_)
    · rw [wrap64 (by omega) (by omega)]
      unfold shape_Params.j2
      refine Cd_dec (fun h2 => ⟨?_, hx1⟩) (fun h2 => ?_)
      · unfold paramsF; rw [if_neg (by omega), if_neg hg, if_pos hne, if_pos h2]
      · refine Cd_eq (fun h3 => absurd h3 hne) (fun _ => ?_)
        unfold shape_Params.j3
        refine Cd_f ⟨?_, hx1⟩
        unfold paramsF; rw [if_neg (by omega), if_neg hg, if_pos hne, if_neg h2]
    · unfold shape_Params.j2
      refine Cd_f (Cd_eq (fun _ => ?_) (fun h3 => absurd he h3))
      refine Cl_gives (pow2_gives m (by omega)) fun w2 hx2 => ?_
      have hp := pwF_bound 17 1 m (by decide) (by decide) (by omega)
      unfold shape_Params.j3 pow2F
      rw [wrap64 (by omega) (by omega)]
      refine Cd_dec (fun h4 => ⟨?_, hx1.trans hx2⟩) (fun h4 => ⟨?_, hx1.trans hx2⟩)
      · unfold paramsF pow2F; rw [if_neg (by omega), if_neg hg, if_neg (by omega), if_pos h4]
      · unfold paramsF pow2F; rw [if_neg (by omega), if_neg hg, if_neg (by omega), if_neg h4]
  refine Cd_dec (fun h1 => j1f _ (fun _ => by omega) (fun h => by cases h)) (fun h1 => Cd_dec (fun h2 => j1f _ (fun _ => by omega) (fun h => by cases h)) (fun h2 => Cd_dec (fun h3 => j1f _ (fun _ => by omega) (fun h => by cases h)) (fun h3 => j1f _ (fun h => ?_) (fun h => ?_))))
  · have := of_decide_eq_true h; omega
  · have := of_decide_eq_false h; omega

theorem rparams_gives (f k m : Int) : Gives Tryd.prog 42 #[.int .i64 f, .int .i64 k, .int .i64 m] (.int .i64 (paramsF f k m)) := by
  intro w
  refine culletref16_Params.run _ f k m w ?_
  unfold culletref16_Params.M
  have j2f : ∀ b : Bool, 0 ≤ f ∧ f ≤ 2 → (b = true → k < 1 ∨ m < 1 ∨ k > 65536 ∨ m > 65536) → (b = false → ¬ (k < 1 ∨ m < 1 ∨ k > 65536 ∨ m > 65536)) →
      culletref16_Params.j2 (fun e w' => e = Ending.returned (.int .i64 (paramsF f k m)) ∧ Ex w w') f k m b w := by
    intro b hf hb1 hb2
    unfold culletref16_Params.j2
    refine Cd_of (fun hb => ⟨?_, Ex.refl w⟩) (fun hb => ?_)
    · unfold paramsF; rw [if_neg (by omega), if_pos (hb1 hb)]
    have hg := hb2 hb
    refine Cd_ne (fun hne => ?_) (fun he => ?_)
    · rw [wrap64 (by omega) (by omega)]
      refine Cd_dec (fun h2 => ⟨?_, Ex.refl w⟩) (fun h2 => ⟨?_, Ex.refl w⟩)
      · unfold paramsF; rw [if_neg (by omega), if_neg hg, if_pos hne, if_pos h2]
      · unfold paramsF; rw [if_neg (by omega), if_neg hg, if_pos hne, if_neg h2]
    · refine Cl_gives (d := .tup [.at (.int .i64), .at (.int .i64)]) (x := (pow2F m, 0, ())) (rpow2_gives m (by omega) (by omega)) fun w2 hx2 => ?_
      have hp := pwF_bound 17 1 m (by decide) (by decide) (by omega)
      simp only
      unfold pow2F
      rw [wrap64 (by omega) (by omega), Int.add_comm]
      refine Cd_dec (fun h4 => ⟨?_, hx2⟩) (fun h4 => ⟨?_, hx2⟩)
      · unfold paramsF pow2F; rw [if_neg (by omega), if_neg hg, if_neg (by omega), if_pos h4]
      · unfold paramsF pow2F; rw [if_neg (by omega), if_neg hg, if_neg (by omega), if_neg h4]
  have j1f : ∀ b : Bool, (b = true → ¬ (0 ≤ f ∧ f ≤ 2)) → (b = false → 0 ≤ f ∧ f ≤ 2) → culletref16_Params.j1 (fun e w' => e = Ending.returned (.int .i64 (paramsF f k m)) ∧ Ex w w') f k m b w := by
    intro b hb1 hb2
    unfold culletref16_Params.j1
    refine Cd_of (fun hb => ⟨?_, Ex.refl w⟩) (fun hb => ?_)
    · unfold paramsF; rw [if_pos (hb1 hb)]
    have hf := hb2 hb
    refine Cd_dec (fun h1 => j2f _ hf (fun _ => by omega) (fun h => by cases h)) (fun h1 => Cd_dec (fun h2 => j2f _ hf (fun _ => by omega) (fun h => by cases h)) (fun h2 => Cd_dec (fun h3 => j2f _ hf (fun _ => by omega) (fun h => by cases h)) (fun h3 => j2f _ hf (fun h => ?_) (fun h => ?_))))
    · have := of_decide_eq_true h; omega
    · have := of_decide_eq_false h; omega
  refine Cd_ne (fun h0 => Cd_ne (fun h1 => j1f _ (fun h => ?_) (fun h => ?_)) (fun h1 => j1f _ (fun h => by cases h) (fun _ => by omega))) (fun h0 => j1f _ (fun h => by cases h) (fun _ => by omega))
  · have : f ≠ 2 := by simpa using h
    omega
  · have : f = 2 := by simpa using h
    omega

theorem odd_gives (f l : Int) : Gives Tryd.prog 49 #[.int .i64 f, .int .i64 l] (.bool (decide (f = 2 ∧ Int.tmod l 2 = 1))) := by
  intro w
  refine shape_odd.run _ f l w ?_
  unfold shape_odd.M
  refine Cd_eq (fun h => ⟨?_, Ex.refl w⟩) (fun h => ⟨?_, Ex.refl w⟩)
  · congr 2; rw [Bool.eq_iff_iff]; simp [h]
  · congr 2; simp [h]

theorem length_gives (f k m n : Int) : Gives Tryd.prog 27 #[.int .i64 f, .int .i64 k, .int .i64 m, .int .i64 n] (.tuple #[.int .i64 (lengthF f k m n).1, .int .i64 (lengthF f k m n).2]) := by
  intro w
  refine shape_Length.run _ f k m n w ?_
  unfold shape_Length.M
  refine Cl_gives (params_gives f k m) fun w1 hx1 => ?_
  refine Cd_ne (fun h => ⟨?_, hx1⟩) (fun h => ?_)
  · unfold lengthF; rw [if_pos h]
  obtain ⟨hf0, hf2, hk1, hk2, hm1, hm2⟩ := params_good h
  refine Cd_dec (fun h1 => ⟨?_, hx1⟩) (fun h1 => Cd_dec (fun h2 => ⟨?_, hx1⟩) (fun h2 => ?_))
  · unfold lengthF; rw [if_neg (by omega), if_pos h1]
  · unfold lengthF; rw [if_neg (by omega), if_neg h1, if_pos h2]
  rw [wrap64 (x := n + k) (by omega) (by omega), wrap64 (x := n + k - 1) (by omega) (by omega)]
  have hl := tdiv_up (n := n) (k := k) (by omega) hk1
  refine Pu_quo (by omega) ?_
  rw [wrap64 (by omega) (by omega)]
  refine Cl_gives (odd_gives f _) fun w2 hx2 => ?_
  unfold shape_Length.j1
  refine Cd_dec (fun h3 => ⟨?_, hx1.trans hx2⟩) (fun h3 => ⟨?_, hx1.trans hx2⟩)
  · unfold lengthF lenF; rw [if_neg (by omega), if_neg h1, if_neg h2, if_pos h3, wrap64 (by omega) (by omega)]
  · unfold lengthF lenF; rw [if_neg (by omega), if_neg h1, if_neg h2, if_neg h3]

theorem rlen_gives (f k n : Int) (hk : 1 ≤ k) (hk2 : k ≤ 65536) (hn : 1 ≤ n) (hn2 : n ≤ 1099511627776) : Gives Tryd.prog 52 #[.int .i64 f, .int .i64 k, .int .i64 n] (.int .i64 (lenF f k n)) := by
  intro w
  refine culletref16_length.run _ f k n w ?_
  unfold culletref16_length.M
  have hb := tdiv_nonneg' (show 0 ≤ n by omega) (show 0 < k by omega)
  have hup := tdiv_up hn hk
  refine Pu_quo (by omega) (Pu_rem (by omega) ?_)
  rw [wrap64 (x := Int.tdiv n k) (by omega) (by omega)]
  have j1f : ∀ l, l = Int.tdiv (n + k - 1) k → culletref16_length.j1 (fun e w' => e = Ending.returned (.int .i64 (lenF f k n)) ∧ Ex w w') f l w := by
    intro l hl
    unfold culletref16_length.j1
    have j3f : ∀ b : Bool, b = decide (f = 2 ∧ Int.tmod l 2 = 1) → culletref16_length.j3 (fun e w' => e = Ending.returned (.int .i64 (lenF f k n)) ∧ Ex w w') l b w := by
      intro b hb
      unfold culletref16_length.j3 culletref16_length.j2
      subst hb
      refine Cd_dec (fun h => ⟨?_, Ex.refl w⟩) (fun h => ⟨?_, Ex.refl w⟩)
      · rw [wrap64 (by omega) (by omega)]; unfold lenF; simp only; rw [← hl, if_pos h]
      · unfold lenF; simp only; rw [← hl, if_neg h]
    refine Cd_eq (fun h => j3f _ ?_) (fun h => j3f _ ?_)
    · rw [Bool.eq_iff_iff]; simp [h]
    · simp [h]
  have he := tdiv_up_eq hn hk
  refine Cd_dec (fun h => ?_) (fun h => ?_)
  · rw [if_pos h] at he
    rw [wrap64 (by omega) (by omega)]
    exact j1f _ he.symm
  · rw [if_neg h] at he
    exact j1f _ he.symm

theorem rlength_gives (f k m n : Int) : Gives Tryd.prog 32 #[.int .i64 f, .int .i64 k, .int .i64 m, .int .i64 n] (.tuple #[.int .i64 (lengthF f k m n).1, .int .i64 (lengthF f k m n).2]) := by
  intro w
  refine culletref16_Length.run _ f k m n w ?_
  unfold culletref16_Length.M
  refine Cl_gives (rparams_gives f k m) fun w1 hx1 => ?_
  refine Cd_ne (fun h => ⟨?_, hx1⟩) (fun h => ?_)
  · unfold lengthF; rw [if_pos h]
  obtain ⟨hf0, hf2, hk1, hk2, hm1, hm2⟩ := params_good h
  refine Cd_dec (fun h1 => ⟨?_, hx1⟩) (fun h1 => Cd_dec (fun h2 => ⟨?_, hx1⟩) (fun h2 => ?_))
  · unfold lengthF; rw [if_neg (by omega), if_pos h1]
  · unfold lengthF; rw [if_neg (by omega), if_neg h1, if_pos h2]
  refine Cl_gives (rlen_gives f k n hk1 hk2 (by omega) (by omega)) fun w2 hx2 => ⟨?_, hx1.trans hx2⟩
  unfold lengthF; rw [if_neg (by omega), if_neg h1, if_neg h2]
end Go.Proofs.YtmmejgneelkhkaaDoor
