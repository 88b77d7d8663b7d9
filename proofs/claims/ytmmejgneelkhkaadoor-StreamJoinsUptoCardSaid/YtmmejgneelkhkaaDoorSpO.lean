/- Options that are good; a new engine, a new sink, a new source; equal lists. -/
import Derived.Test.YtmmejgneelkhkaaDoorSpN
set_option linter.all false
namespace Go.Proofs.YtmmejgneelkhkaaDoor
open Go Go.Cu Go.RowKit
set_option linter.unusedVariables false
set_option maxHeartbeats 2000000
set_option maxRecDepth 100000
def usesF (f b : Int) : Int := if ¬ (0 ≤ f ∧ f ≤ 2) then 2 else if (f ≠ 2 ∧ (b = 0 ∨ b = 1 ∨ b = 2)) ∨ (f = 2 ∧ (b = 3 ∨ b = 4)) then 0 else 3
theorem uses_gives (f b : Int) : Gives Tryd.prog 45 #[.int .i64 f, .int .i64 b] (.int .i64 (usesF f b)) := by
  intro w
  refine shape_Uses.run _ f b w ?_
  unfold shape_Uses.M
  refine Cl_gives (family_gives f) fun w1 hx1 => ?_
  refine Cd_not (fun h => ⟨?_, hx1⟩) (fun h => ?_)
  · unfold famOk at h; unfold usesF; rw [if_pos (by simpa using h)]
  have hf : 0 ≤ f ∧ f ≤ 2 := by unfold famOk at h; simpa using h
  have j2f : ∀ c : Bool, (c = true ↔ ((f ≠ 2 ∧ (b = 0 ∨ b = 1 ∨ b = 2)) ∨ (f = 2 ∧ (b = 3 ∨ b = 4)))) → shape_Uses.j2 (fun e w' => e = Ending.returned (.int .i64 (usesF f b)) ∧ Ex w w') c w1 := by
    intro c hc
    unfold shape_Uses.j2
    refine Cd_not (fun h => ⟨?_, hx1⟩) (fun h => ⟨?_, hx1⟩)
    · unfold usesF; rw [if_neg (not_not_intro hf), if_neg (fun h' => by rw [hc.2 h'] at h; cases h)]
    · unfold usesF; rw [if_neg (not_not_intro hf), if_pos (hc.1 h)]
  have j1f : ∀ c : Bool, (c = true ↔ (b = 3 ∨ b = 4)) → shape_Uses.j1 (fun e w' => e = Ending.returned (.int .i64 (usesF f b)) ∧ Ex w w') f b c w1 := by
    intro c hc
    unfold shape_Uses.j1
    refine Cd_ne (fun h2 => ?_) (fun h2 => j2f c (by rw [hc]; omega))
    exact Cd_eq (fun h3 => j2f _ (by simp; omega)) (fun h3 => Cd_eq (fun h4 => j2f _ (by simp; omega)) (fun h4 => j2f _ (by rw [beq_iff_eq]; omega)))
  exact Cd_eq (fun h3 => j1f _ (by simp; omega)) (fun h3 => j1f _ (by rw [beq_iff_eq]; omega))
theorem ruses_gives (f b : Int) : Gives Tryd.prog 41 #[.int .i64 f, .int .i64 b] (.int .i64 (usesF f b)) := by
  intro w
  refine culletref16_Uses.run _ f b w ?_
  unfold culletref16_Uses.M
  have fin : ∀ v : Int, v = usesF f b → (fun e w' => e = Ending.returned (.int .i64 (usesF f b)) ∧ Ex w w') (.returned (.int .i64 v)) w := fun v h => ⟨by rw [h], Ex.refl w⟩
  have j1f : ∀ c : Bool, (c = true ↔ (f = 0 ∨ f = 1)) → culletref16_Uses.j1 (fun e w' => e = Ending.returned (.int .i64 (usesF f b)) ∧ Ex w w') b f c w := by
    intro c hc
    unfold culletref16_Uses.j1
    have j2f : ∀ d : Bool, (f = 0 ∨ f = 1) → (d = true ↔ (b = 0 ∨ b = 1 ∨ b = 2)) → culletref16_Uses.j2 (fun e w' => e = Ending.returned (.int .i64 (usesF f b)) ∧ Ex w w') d w := by
      intro d hf hd
      unfold culletref16_Uses.j2
      refine Cd_of (fun h => fin _ ?_) (fun h => fin _ ?_)
      · have := hd.1 h; unfold usesF; rw [if_neg (by omega), if_pos (by omega)]
      · have : ¬ (b = 0 ∨ b = 1 ∨ b = 2) := fun h' => by rw [hd.2 h'] at h; cases h
        unfold usesF; rw [if_neg (by omega), if_neg (by omega)]
    have j3f : ∀ d : Bool, f = 2 → (d = true ↔ (b = 3 ∨ b = 4)) → culletref16_Uses.j3 (fun e w' => e = Ending.returned (.int .i64 (usesF f b)) ∧ Ex w w') d w := by
      intro d hf hd
      unfold culletref16_Uses.j3
      refine Cd_of (fun h => fin _ ?_) (fun h => fin _ ?_)
      · have := hd.1 h; unfold usesF; rw [if_neg (by omega), if_pos (by omega)]
      · have : ¬ (b = 3 ∨ b = 4) := fun h' => by rw [hd.2 h'] at h; cases h
        unfold usesF; rw [if_neg (by omega), if_neg (by omega)]
    refine Cd_of (fun h => ?_) (fun h => ?_)
    · have hf := hc.1 h
      exact Cd_eq (fun h3 => j2f _ hf (by simp; omega)) (fun h3 => Cd_eq (fun h4 => j2f _ hf (by simp; omega)) (fun h4 => j2f _ hf (by rw [beq_iff_eq]; omega)))
    · have hf : ¬ (f = 0 ∨ f = 1) := fun h' => by rw [hc.2 h'] at h; cases h
      refine Cd_eq (fun h2 => ?_) (fun h2 => fin _ (by unfold usesF; rw [if_pos (by omega)]))
      exact Cd_eq (fun h3 => j3f _ h2 (by simp; omega)) (fun h3 => j3f _ h2 (by rw [beq_iff_eq]; omega))
  exact Cd_eq (fun h0 => j1f _ (by rw [beq_iff_eq]; omega)) (fun h0 => j1f _ (by rw [beq_iff_eq]; omega))
def okOpt (f b k m wo st ca : Int) : Bool := decide (usesF f b = 0 ∧ paramsF f k m = 0 ∧ (1 ≤ wo ∧ wo ≤ 64) ∧ (1 ≤ st ∧ st ≤ 16777216) ∧ 1 ≤ ca ∧ ca ≤ 1024)
theorem valid_gv (f b k m wo st ca : Int) (sc : Bool) (pk : Sl) (w : World) : Gv Tryd.prog 15 #[.agg (optV f b k m wo st ca sc pk).toArray] (.bool (okOpt f b k m wo st ca)) w := by
  refine culletlaw24_valid.run _ (f, b, k, m, wo, st, ca, sc, pk, ()) w ?_
  unfold culletlaw24_valid.M
  refine Wr_box fun w1 hB1 hx1 => ?_
  have hB1' : Has w1 w.heap.size (optV f b k m wo st ca sc pk) 26 := hB1
  have no : ∀ w', Ex w w' → ¬ (usesF f b = 0 ∧ paramsF f k m = 0 ∧ (1 ≤ wo ∧ wo ≤ 64) ∧ (1 ≤ st ∧ st ≤ 16777216) ∧ 1 ≤ ca ∧ ca ≤ 1024) → (fun e w' => e = Ending.returned (.bool (okOpt f b k m wo st ca)) ∧ Ex w w') (.returned (.bool false)) w' := by
    intro w' hx h
    refine ⟨?_, hx⟩
    unfold okOpt
    rw [decide_eq_false h]
  refine Rd_has (c := .int .i64) (x := f) hB1' (by kernel_rfl) rfl ?_
  refine Rd_has (c := .int .i64) (x := b) hB1' (by kernel_rfl) rfl ?_
  refine Cl_gives (ruses_gives f b) fun w2 hx2 => ?_
  have hx2' := hx1.trans hx2
  refine Cd_eq (fun hu => ?_) (fun hu => no _ hx2' (by omega))
  refine Rd_has (c := .int .i64) (x := f) (hB1'.ex hx2) (by kernel_rfl) rfl ?_
  refine Rd_has (c := .int .i64) (x := k) (hB1'.ex hx2) (by kernel_rfl) rfl ?_
  refine Rd_has (c := .int .i64) (x := m) (hB1'.ex hx2) (by kernel_rfl) rfl ?_
  refine Cl_gives (rparams_gives f k m) fun w3 hx3 => ?_
  have hB3 := hB1'.ex (hx2.trans hx3)
  have hx3' := hx2'.trans hx3
  refine Cd_eq (fun hp => ?_) (fun hp => no _ hx3' (by omega))
  refine Rd_has (c := .int .i64) (x := wo) hB3 (by kernel_rfl) rfl (Cd_dec (fun h1 => ?_) (fun h1 => no _ hx3' (by omega)))
  refine Rd_has (c := .int .i64) (x := wo) hB3 (by kernel_rfl) rfl (Cd_dec (fun h2 => ?_) (fun h2 => no _ hx3' (by omega)))
  refine Rd_has (c := .int .i64) (x := st) hB3 (by kernel_rfl) rfl (Cd_dec (fun h3 => ?_) (fun h3 => no _ hx3' (by omega)))
  refine Rd_has (c := .int .i64) (x := st) hB3 (by kernel_rfl) rfl (Cd_dec (fun h4 => ?_) (fun h4 => no _ hx3' (by omega)))
  refine Rd_has (c := .int .i64) (x := ca) hB3 (by kernel_rfl) rfl (Cd_dec (fun h5 => ?_) (fun h5 => no _ hx3' (by omega)))
  refine Rd_has (c := .int .i64) (x := ca) hB3 (by kernel_rfl) rfl ⟨?_, hx3'⟩
  have : decide (ca ≤ 1024) = okOpt f b k m wo st ca := by
    unfold okOpt
    rw [Bool.eq_iff_iff, decide_eq_true_iff, decide_eq_true_iff]
    omega
  rw [this]
theorem trieNew_sf (n : Int) (h1 : 1 ≤ n) (h2 : n ≤ 1024) (w : World) : Cl Tryd.prog 47 #[.int .i64 n] (.tup [.at .ptr, .at (.int .i64)]) (fun _ w' => Ex w w') w := by
  refine trie_New.run _ n w ?_
  unfold trie_New.M
  refine Cd_dec (fun h => by omega) (fun _ => ?_)
  unfold trie_New.j1
  refine Cd_dec (fun h => by omega) (fun _ => ?_)
  refine Calls.mono (trie_fresh.run (fun e w' => (∃ x : Option Addr, e = .returned (.pointer x)) ∧ Ex w w') w ?_) ?_
  · unfold trie_fresh.M
    refine Wr_makeMap fun w1 hm1 hx1 => ?_
    refine Wr_box fun w2 hB2 hx2 => ⟨⟨_, rfl⟩, hx1.trans hx2⟩
  · rintro e w1 ⟨⟨x, rfl⟩, hx1⟩
    refine ⟨x, rfl, ?_⟩
    refine Wr_box fun w2 hB2 hx2 => ?_
    exact ⟨(some ⟨w1.heap.size, 0, none⟩, 0, ()), rfl, hx1.trans hx2⟩
theorem engineNew_ok {W0 w : World} {T : Ths} (key : Ky) {f b k m wo st ca : Int} {sc : Bool} {pk : Sl} {l : List Int} (hS : Sep W0 w T) (hpk : Rds i64v w pk l) (hl : l.length * 8 ≤ 140737488355328) :
    Cl Tryd.prog 17 #[.agg (optV f b k m wo st ca sc pk).toArray] (.tup [.at .ptr, .at (.int .i64)])
      (fun x w' => (okOpt f b k m wo st ca = false ∧ (∃ e, e ≠ 0 ∧ x = (none, e, ())) ∧ Ex w w') ∨ (okOpt f b k m wo st ca = true ∧ ∃ ge pk' tr, x = (at0 ge, 0, ()) ∧ Sep W0 w' (T.up key (Eng ge f b k m wo st ca sc pk' l tr)) ∧ Ex w w')) w := by
  refine engine_New.run _ (f, b, k, m, wo, st, ca, sc, pk, ()) w ?_
  generalize hR : (fun (e : Ending) (w' : World) => ∃ x : (Option Addr) × Int × Unit, e = .returned ((Sh.tup [.at .ptr, .at (.int .i64)]).enc x) ∧ ((okOpt f b k m wo st ca = false ∧ (∃ e, e ≠ 0 ∧ x = (none, e, ())) ∧ Ex w w') ∨ (okOpt f b k m wo st ca = true ∧ ∃ ge pk' tr, x = (at0 ge, 0, ()) ∧ Sep W0 w' (T.up key (Eng ge f b k m wo st ca sc pk' l tr)) ∧ Ex w w'))) = R
  have no : ∀ (e : Int) w', e ≠ 0 → ¬ (usesF f b = 0 ∧ paramsF f k m = 0 ∧ (1 ≤ wo ∧ wo ≤ 64) ∧ (1 ≤ st ∧ st ≤ 16777216) ∧ 1 ≤ ca ∧ ca ≤ 1024) → Ex w w' → R (.returned (.tuple #[.pointer none, .int .i64 e])) w' := by
    intro e w' h0 h hx
    subst hR
    exact ⟨(none, e, ()), rfl, .inl ⟨decide_eq_false h, ⟨e, h0, rfl⟩, hx⟩⟩
  have yes : ∀ ge w' pk' tr, (usesF f b = 0 ∧ paramsF f k m = 0 ∧ (1 ≤ wo ∧ wo ≤ 64) ∧ (1 ≤ st ∧ st ≤ 16777216) ∧ 1 ≤ ca ∧ ca ≤ 1024) → Sep W0 w' (T.up key (Eng ge f b k m wo st ca sc pk' l tr)) → Ex w w' → R (.returned (.tuple #[.pointer (at0 ge), .int .i64 0])) w' := by
    intro ge w' pk' tr h hs hx
    subst hR
    exact ⟨(at0 ge, 0, ()), rfl, .inr ⟨decide_eq_true h, ge, pk', tr, rfl, hs, hx⟩⟩
  clear hR
  unfold engine_New.M
  refine Wr_box fun w1 hB1 hx1 => ?_
  have hB1' : Has w1 w.heap.size (optV f b k m wo st ca sc pk) 26 := hB1
  refine Rd_has (c := .int .i64) (x := f) hB1' (by kernel_rfl) rfl ?_
  refine Rd_has (c := .int .i64) (x := b) hB1' (by kernel_rfl) rfl ?_
  refine Cl_gives (uses_gives f b) fun w2 hx2 => ?_
  have hx2' := hx1.trans hx2
  refine Cd_ne (fun hu => no _ _ hu (by omega) hx2') (fun hu => ?_)
  refine Rd_has (c := .int .i64) (x := f) (hB1'.ex hx2) (by kernel_rfl) rfl ?_
  refine Rd_has (c := .int .i64) (x := k) (hB1'.ex hx2) (by kernel_rfl) rfl ?_
  refine Rd_has (c := .int .i64) (x := m) (hB1'.ex hx2) (by kernel_rfl) rfl ?_
  refine Cl_gives (params_gives f k m) fun w3 hx3 => ?_
  have hB3 := hB1'.ex (hx2.trans hx3)
  have hx3' := hx2'.trans hx3
  refine Cd_ne (fun hp => no _ _ hp (by omega) hx3') (fun hp => ?_)
  have hx13 : Ex w1 w3 := hx2.trans hx3
  have j3f : ∀ c : Bool, (1 ≤ wo ∧ wo ≤ 64) → (1 ≤ st ∧ st ≤ 16777216) → (c = true ↔ (ca < 1 ∨ ca > 1024)) → engine_New.j3 R ⟨w.heap.size, 0, none⟩ c w3 := by
    intro c h1 h2 hc
    unfold engine_New.j3
    refine Cd_of (fun h => no 7 _ (by decide) (by have := hc.1 h; omega) hx3') (fun h => ?_)
    have hca : ¬ (ca < 1 ∨ ca > 1024) := fun h' => by rw [hc.2 h'] at h; cases h
    refine Rd_has (c := .sl) (x := pk) hB3 (by kernel_rfl) rfl ?_
    refine Wr_append (s := ⟨none, 0, 0⟩) (l := []) (base := w.heap.size) tI iI rfl (Own.nil _ _ _ _) (hpk.ex hx3') (fun _ => rfl) (by simp; omega) (by simpa using hl) hx3'.size fun p' w4 ho4 hm4 hin4 => ?_
    have hx4 : Ex w3 w4 := hm4.weak (fun b _ hb => by obtain ⟨a, ha, _⟩ := hb; cases ha)
    have ho4' : Cu.Own i64v 3 w.heap.size w4 p' l := ho4
    refine Wu_cell (ds := optV f b k m wo st ca sc p') (hB3.ex hx4) (by kernel_rfl) rfl rfl (by simp) rfl fun w5 hB5 hm5 => ?_
    have hx5 : Ex w w5 := (hx3'.trans hx4).into hm5 (fun i hi => Nat.le_of_eq (Eq.symm hi))
    have hgp : ∀ x, SlIn p' x → x ≠ w.heap.size := by
      intro x hx e
      rcases hin4 x hx with h | h
      · obtain ⟨a, ha, _⟩ := h; cases ha
      · have := hB3.lt; omega
    have ho5 := ho4'.mo hm5 (fun x hx e => hgp x hx e)
    refine Rd_hasN (l := oAts) (x := (f, b, k, m, wo, st, ca, sc, p', ())) hB5 (by kernel_rfl) rfl ?_
    refine Wr_box fun w6 hB6 hx6 => ?_
    have hB6' : Has w6 w5.heap.size (engV f b k m wo st ca sc p' none) 140 := hB6
    have hx6' := hx5.trans hx6
    have close : ∀ tr w7, Ex w6 w7 ∨ Mo (fun b => b = w5.heap.size) w6 w7 → Has w7 w5.heap.size (engV f b k m wo st ca sc p' tr) 140 → Ex w w7 → Sep W0 w7 (T.up key (Eng w5.heap.size f b k m wo st ca sc p' l tr)) := by
      intro tr w7 hor hB7 hx7
      have hne : ∀ x, SlIn p' x → x ≠ w5.heap.size := fun x hx e => by have := (ho5.base x hx).2; omega
      have ho7 : Cu.Own i64v 3 w.heap.size w7 p' l := by
        rcases hor with h | h
        · exact (ho5.ex hx6).ex h
        · exact (ho5.ex hx6).mo h hne
      refine hS.new key (G := fun x => x = w5.heap.size ∨ SlIn p' x) hx7 ⟨hB7, ho7.rds, .inl rfl, fun x hx => .inr hx⟩ ?_
      rintro x (rfl | hx)
      · exact ⟨hx5.size, hB7.lt⟩
      · exact ho7.base x hx
    refine Rd_has (c := .int .i64) (x := f) (hB5.ex hx6) (by kernel_rfl) rfl ?_
    have good : (usesF f b = 0 ∧ paramsF f k m = 0 ∧ (1 ≤ wo ∧ wo ≤ 64) ∧ (1 ≤ st ∧ st ≤ 16777216) ∧ 1 ≤ ca ∧ ca ≤ 1024) := ⟨hu, hp, h1, h2, by omega, by omega⟩
    refine Cd_ne (fun hf => ?_) (fun hf => ?_)
    · refine Rd_has (c := .int .i64) (x := ca) (hB5.ex hx6) (by kernel_rfl) rfl ?_
      refine Cl_mono (trieNew_sf ca (by omega) (by omega) w6) fun x w7 hx7 => ?_
      refine Wu_cell (ds := engV f b k m wo st ca sc p' x.1) (hB6'.ex hx7) (by kernel_rfl) rfl rfl (by simp) rfl fun w8 hB8 hm8 => ?_
      have hm68 : Mo (fun b => b = w5.heap.size) w6 w8 := Mo.trans hx7 hm8 (fun _ h => h.elim) (fun _ _ h => h)
      unfold engine_New.j4
      have hx8 : Ex w w8 := (hx6'.trans hx7).into hm8 (fun i hi => Nat.le_trans hx5.size (Nat.le_of_eq (Eq.symm hi)))
      exact yes _ _ p' x.1 good (close _ _ (.inr hm68) hB8 hx8) hx8
    · unfold engine_New.j4
      exact yes _ _ p' none good (close _ _ (.inl (Ex.refl _)) hB6' hx6') hx6'
  have j2f : ∀ c : Bool, (1 ≤ wo ∧ wo ≤ 64) → (c = true ↔ (st < 1 ∨ st > 16777216)) → engine_New.j2 R ⟨w.heap.size, 0, none⟩ c w3 := by
    intro c h1 hc
    unfold engine_New.j2
    refine Cd_of (fun h => no 211 _ (by decide) (by have := hc.1 h; omega) hx3') (fun h => ?_)
    have hst : ¬ (st < 1 ∨ st > 16777216) := fun h' => by rw [hc.2 h'] at h; cases h
    refine Rd_has (c := .int .i64) (x := ca) hB3 (by kernel_rfl) rfl (Cd_dec (fun h5 => j3f _ h1 (by omega) (by simp; omega)) (fun h5 => ?_))
    refine Rd_has (c := .int .i64) (x := ca) hB3 (by kernel_rfl) rfl (j3f _ h1 (by omega) (by rw [decide_eq_true_iff]; omega))
  have j1f : ∀ c : Bool, (c = true ↔ (wo < 1 ∨ wo > 64)) → engine_New.j1 R ⟨w.heap.size, 0, none⟩ c w3 := by
    intro c hc
    unfold engine_New.j1
    refine Cd_of (fun h => no 210 _ (by decide) (by have := hc.1 h; omega) hx3') (fun h => ?_)
    have hwo : ¬ (wo < 1 ∨ wo > 64) := fun h' => by rw [hc.2 h'] at h; cases h
    refine Rd_has (c := .int .i64) (x := st) hB3 (by kernel_rfl) rfl (Cd_dec (fun h5 => j2f _ (by omega) (by simp; omega)) (fun h5 => ?_))
    refine Rd_has (c := .int .i64) (x := st) hB3 (by kernel_rfl) rfl (j2f _ (by omega) (by rw [decide_eq_true_iff]; omega))
  refine Rd_has (c := .int .i64) (x := wo) hB3 (by kernel_rfl) rfl (Cd_dec (fun h5 => j1f _ (by simp; omega)) (fun h5 => ?_))
  exact Rd_has (c := .int .i64) (x := wo) hB3 (by kernel_rfl) rfl (j1f _ (by rw [decide_eq_true_iff]; omega))
theorem newSink_ok {W0 w : World} {T : Ths} (key : Ky) {fa code : Int} (hS : Sep W0 w T) : Cl Tryd.prog 20 #[.agg #[.int .i64 fa, .int .i64 code]] (.one (.at .ptr)) (fun x w' => (∃ g br, x = at0 g ∧ Sep W0 w' (T.up key (PSnk g br ⟨fa, []⟩))) ∧ Ex w w') w := by
  refine pipes_NewSink.run _ (fa, code, ()) w ?_
  unfold pipes_NewSink.M
  refine Wr_box fun w1 hB1 hx1 => ?_
  have hB1' : Has w1 w.heap.size [.int .i64 fa, .int .i64 code] 60 := hB1
  refine Rd_has (c := .int .i64) (x := fa) hB1' (by kernel_rfl) rfl ?_
  refine Rd_has (c := .int .i64) (x := code) hB1' (by kernel_rfl) rfl ?_
  refine Wr_box fun w2 hB2 hx2 => ?_
  refine Wr_box fun w3 hB3 hx3 => ?_
  have hx := (hx1.trans hx2).trans hx3
  refine ⟨at0 w2.heap.size, rfl, ⟨w2.heap.size, ⟨w1.heap.size, 0, none⟩, rfl, ?_⟩, hx⟩
  refine hS.new key (G := fun b => b = w2.heap.size) hx ⟨⟨none, 0, 0⟩, hB3, Own.nil _ _ _ _, rfl, fun b hb => by obtain ⟨a, ha, _⟩ := hb; cases ha⟩ (fun b hb => ?_)
  subst hb
  exact ⟨(hx1.trans hx2).size, hB3.lt⟩
abbrev src0 (d c : List Int) (fa : Int) : Src := ⟨d, c, fa, 0, 0⟩
theorem newSource_ok {W0 w : World} {T : Ths} (key : Ky) {ds cs : Sl} {d c : List Int} {fa code : Int} (hS : Sep W0 w T) (hd : Rds b8 w ds d) (hc : Rds i64v w cs c) (hdl : d.length ≤ 140737488355328) (hcl : c.length * 8 ≤ 140737488355328) :
    Cl Tryd.prog 21 #[.slice ds.base ds.len ds.cap, .agg #[.slice cs.base cs.len cs.cap, .int .i64 fa, .int .i64 code]] (.one (.at .ptr)) (fun x w' => (∃ g br d' c', x = at0 g ∧ Sep W0 w' (T.up key (PSrc g br d' c' (src0 d c fa)))) ∧ Ex w w') w := by
  refine pipes_NewSource.run _ ds (cs, fa, code, ()) w ?_
  unfold pipes_NewSource.M
  refine Wr_box fun w1 hB1 hx1 => ?_
  have hB1' : Has w1 w.heap.size [slv cs, .int .i64 fa, .int .i64 code] 69 := hB1
  have hx0 := hx1.trans (Ex.drew w1)
  refine Held_of (fun w' => Has w' w.heap.size [slv cs, .int .i64 fa, .int .i64 code] 69) (hB1'.ex (Ex.drew w1)) ?_
  refine RdS_has (c := .sl) (x := cs) (fun _ h => h) (by kernel_rfl) rfl ?_
  refine RdS_has (c := .int .i64) (x := fa) (fun _ h => h) (by kernel_rfl) rfl ?_
  refine RdS_has (c := .int .i64) (x := code) (fun _ h => h) (by kernel_rfl) rfl ?_
  have hBd : Has w1.drew w.heap.size [slv cs, .int .i64 fa, .int .i64 code] 69 := hB1'.ex (Ex.drew w1)
  generalize w1.drew = u0 at hx0 hBd
  -- each of the three steps, wherever it stands
  have apD : ∀ (u : World) (K : Sl → World → Prop), Ex u0 u → (∀ s u', Ex u u' → Cu.Own b8 5 w.heap.size u' s d → Has u' w.heap.size [slv cs, .int .i64 fa, .int .i64 code] 69 ∧ K s u' ∨ K s u' ∧ False → (Has u' w.heap.size [slv cs, .int .i64 fa, .int .i64 code] 69 ∧ K s u')) → True := fun _ _ _ _ => trivial
  have stepD : ∀ (u : World) (K : Sl → World → Prop), Ex u0 u → (∀ s u', Ex u u' → Cu.Own b8 5 w.heap.size u' s d → K s u') → Wr Tryd.prog (Builtin.append_ #[67, 67] 67 #[.slice none 0 0, .slice ds.base ds.len ds.cap]) (.one (.at .sl)) K u := by
    intro u K hu hK
    refine Wr_append (s := ⟨none, 0, 0⟩) (l := []) (base := w.heap.size) tB iB rfl (Own.nil _ _ _ _) (hd.ex (hx0.trans hu)) (fun _ => rfl) (by simpa using hdl) (by simpa using hdl) (hx0.trans hu).size fun s u' ho hm _ => hK s u' (hm.weak (fun b _ hb => by obtain ⟨a, ha, _⟩ := hb; cases ha)) ho
  have stepC : ∀ (u : World) (K : Sl → World → Prop), Ex u0 u → (∀ s u', Ex u u' → Cu.Own i64v 3 w.heap.size u' s c → K s u') → Wr Tryd.prog (Builtin.append_ #[24, 24] 24 #[.slice none 0 0, .slice cs.base cs.len cs.cap]) (.one (.at .sl)) K u := by
    intro u K hu hK
    refine Wr_append (s := ⟨none, 0, 0⟩) (l := []) (base := w.heap.size) tI iI rfl (Own.nil _ _ _ _) (hc.ex (hx0.trans hu)) (fun _ => rfl) (by simp; omega) (by simpa using hcl) (hx0.trans hu).size fun s u' ho hm _ => hK s u' (hm.weak (fun b _ hb => by obtain ⟨a, ha, _⟩ := hb; cases ha)) ho
  have fin : ∀ (u : World) (x y : Sl) (br : Addr), Ex u0 u → Cu.Own b8 5 w.heap.size u x d → Cu.Own i64v 3 w.heap.size u y c →
      Wr Tryd.prog (Instr.box 115 (.agg #[.slice x.base x.len x.cap, .slice y.base y.len y.cap, .int .i64 fa, .pointer (some br), .int .i64 0, .int .i64 0])) (.one (.at .addr)) (fun a u' => Has u' w.heap.size [slv cs, .int .i64 fa, .int .i64 code] 69 ∧ (fun e w' => ∃ z : Option Addr, e = Ending.returned ((Sh.one (.at .ptr)).enc z) ∧ (∃ g br d' c', z = at0 g ∧ Sep W0 w' (T.up key (PSrc g br d' c' (src0 d c fa)))) ∧ Ex w w') (.returned (.pointer (some a))) u') u := by
    intro u x y br hu hox hoy
    refine Wr_box fun u' hB' hx' => ⟨hBd.ex (hu.trans hx'), at0 u.heap.size, rfl, ⟨u.heap.size, br, x, y, rfl, ?_⟩, (hx0.trans hu).trans hx'⟩
    have hxx := (hx0.trans hu).trans hx'
    refine hS.new key (G := fun b => b = u.heap.size ∨ SlIn x b ∨ SlIn y b) hxx ⟨hB', (hox.ex hx').rds, (hoy.ex hx').rds, .inl rfl, fun b hb => ⟨.inr hb, ?_⟩⟩ ?_
    · rintro rfl
      rcases hb with h | h
      · have := (hox.base _ h).2; omega
      · have := (hoy.base _ h).2; omega
    · rintro b (rfl | h | h)
      · exact ⟨(hx0.trans hu).size, hB'.lt⟩
      · exact ⟨(hox.base b h).1, Nat.lt_of_lt_of_le (hox.base b h).2 hx'.size⟩
      · exact ⟨(hoy.base b h).1, Nat.lt_of_lt_of_le (hoy.base b h).2 hx'.size⟩
  refine ⟨?_, ?_⟩
  · refine stepD _ _ (Ex.refl _) fun x u1 hu1 hox => ⟨hBd.ex hu1, ?_, ?_⟩
    · refine stepC _ _ hu1 fun y u2 hu2 hoy => ⟨hBd.ex (hu1.trans hu2), ?_⟩
      refine Wr_box fun u3 hB3 hu3 => ⟨hBd.ex ((hu1.trans hu2).trans hu3), ?_⟩
      exact fin u3 x y _ ((hu1.trans hu2).trans hu3) (hox.ex (hu2.trans hu3)) (hoy.ex hu3)
    · refine Wr_box fun u2 hB2 hu2 => ⟨hBd.ex (hu1.trans hu2), ?_⟩
      refine stepC _ _ (hu1.trans hu2) fun y u3 hu3 hoy => ⟨hBd.ex ((hu1.trans hu2).trans hu3), ?_⟩
      exact fin u3 x y _ ((hu1.trans hu2).trans hu3) (hox.ex (hu2.trans hu3)) hoy
  · refine Wr_box fun u1 hB1' hu1 => ⟨hBd.ex hu1, ?_⟩
    refine stepD _ _ hu1 fun x u2 hu2 hox => ⟨hBd.ex (hu1.trans hu2), ?_⟩
    refine stepC _ _ (hu1.trans hu2) fun y u3 hu3 hoy => ⟨hBd.ex ((hu1.trans hu2).trans hu3), ?_⟩
    exact fin u3 x y _ ((hu1.trans hu2).trans hu3) (hox.ex hu3) hoy
theorem equal_gv (a b : Sl) (l m : List Int) (w : World) (ha : Rds b8 w a l) (hb : Rds b8 w b m) (hl : l.length ≤ 9223372036854775806) (hm : m.length ≤ 9223372036854775806) : Gv Tryd.prog 22 #[.slice a.base a.len a.cap, .slice b.base b.len b.cap] (.bool (decide (l = m))) w := by
  refine culletlaw24_equal.run _ a b w ?_
  unfold culletlaw24_equal.M
  have hal := ha.1
  have hbl := hb.1
  refine Cd_ne (fun h => ⟨?_, Ex.refl w⟩) (fun h => ?_)
  · rw [decide_eq_false (fun e => h (by rw [hal, hbl, e]))]
  have hlen : l.length = m.length := by omega
  unfold culletlaw24_equal.l1
  refine loopW_of (fun st w' => ∃ i : Nat, st = (a, b, ((a.len : Nat) : Int), (i : Int), ()) ∧ Ex w w' ∧ i ≤ l.length ∧ l.take i = m.take i) (fun st _ => ((l.length : Int) - st.2.2.2.1).toNat) ?_ ⟨0, rfl, Ex.refl w, Nat.zero_le _, rfl⟩
  rintro k _ w' ⟨i, rfl, hx, hi, htk⟩ hk
  unfold culletlaw24_equal.b1
  dsimp only at hk ⊢
  refine Cd_dec (fun hlt => ?_) (fun hge => ⟨?_, hx⟩)
  · have hx' := hx.trans (Ex.drew w')
    refine Pu_idx (ha.ex hx') tB sB (by omega) (by omega) fun a1 x1 hx1 hc1 _ => RdS_same (Rd_one (c := .int .u8) (x := x1) (by kernel_rfl) hc1 ?_)
    refine Pu_idx (hb.ex hx') tB sB (by omega) (by omega) fun a2 x2 hx2 hc2 _ => RdS_same (Rd_one (c := .int .u8) (x := x2) (by kernel_rfl) hc2 ?_)
    rw [Int.toNat_natCast] at hx1 hx2
    refine Cd_ne (fun hne => ⟨?_, hx'⟩) (fun he => ?_)
    · rw [decide_eq_false]
      intro e
      rw [e, hx2] at hx1
      exact hne (Option.some.inj hx1).symm
    · rw [wrap64 (by omega) (by omega), show (i : Int) + 1 = ((i + 1 : Nat) : Int) by omega]
      refine hk _ _ ⟨i + 1, rfl, hx', by omega, ?_⟩ (by dsimp only; omega)
      rw [List.take_add_one, List.take_add_one, hx1, hx2, htk, he]
  · rw [List.take_of_length_le (by omega), List.take_of_length_le (by omega)] at htk
    rw [decide_eq_true htk]
end Go.Proofs.YtmmejgneelkhkaaDoor
