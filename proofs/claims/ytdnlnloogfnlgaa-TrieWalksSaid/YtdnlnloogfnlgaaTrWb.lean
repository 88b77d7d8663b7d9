/- culletlaw12.TrieWalks: the inner round. -/
import Derived.Test.YtdnlnloogfnlgaaTrWa
set_option linter.all false
namespace Go.Proofs.Ytdnlnloogfnlgaa
open Go Go.Cu Go.RowKit
set_option linter.unusedVariables false
set_option maxHeartbeats 4000000
theorem endQ_elim {ds : List Deferred} {n : Nat} {rs : List ResultVar} {cs : List Cx} {k : Value → World → Prop} (hk : ∀ v w, ¬ k v w) {e : Exit} {a : Act} {w : World} (he : e ≠ .normal) (h : semQD ds n (endQ Try.prog rs cs k) e a w) : False := by
  cases e <;> simp only [semQD, endQ] at h
  case normal => exact he rfl
  case ret =>
    obtain ⟨L, hs, hl⟩ := h
    obtain ⟨vs, h1, h2⟩ := resL_run hs.base _ cs _ hl
    exact hk _ _ h2
  all_goals first | exact h | (obtain ⟨_, _, h⟩ := h; exact h)
theorem exitQ_elim {ds : List Deferred} {n id : Nat} {l : List (Nat × Cx)} {X : St l → World → Prop} {rs : List ResultVar} {cs : List Cx} {k : Value → World → Prop} (hk : ∀ v w, ¬ k v w) {e : Exit} {a : Act} {w : World} (he : e ≠ .normal) (h : semQD ds n (exitQ id l X (endQ Try.prog rs cs k)) e a w) : e = .exit id ∧ ∃ st, X st w ∧ SlotsD ds n a (Cu.encS l st) := by
  cases e <;> simp only [semQD, exitQ, endQ] at h
  case normal => exact (he rfl).elim
  case exit j =>
    obtain ⟨L, hs, h⟩ := h
    cases hb : Nat.beq j id with
    | false => rw [hb] at h; exact h.elim
    | true =>
      rw [hb] at h
      simp only [projK] at h
      cases hp : projS l L with
      | none => rw [hp] at h; exact h.elim
      | some st => rw [hp] at h; exact ⟨by rw [Nat.eq_of_beq_eq_true hb], st, h, hs.proj hp⟩
  case ret =>
    obtain ⟨L, hs, hl⟩ := h
    obtain ⟨vs, h1, h2⟩ := resL_run hs.base _ cs _ hl
    exact (hk _ _ h2).elim
  all_goals first | exact h.elim | (obtain ⟨_, _, h⟩ := h; exact h.elim)
noncomputable abbrev tw.LB : Code := (cP (cB (cR (cL (cR (cR (cR (cR (cR (cR (cR (cR culletlaw12_TrieWalks.code))))))))))))
noncomputable abbrev tw.BODY : Code := cB (cL (cR tw.LB))
noncomputable abbrev tw.RF : Code := cB (cR (cL (cR tw.BODY)))
noncomputable abbrev tw.OB : Code := cB (cF tw.RF)
noncomputable abbrev tw.RF2 : Code := cB (cR (cL (cR (cR (cR tw.OB)))))
theorem tw.er : tw.RF = .rangeFunc (.tmp 64) #[65] (cA tw.RF) (.block 5 tw.OB) := by kernel_rfl
theorem tw.er2 : tw.RF2 = .rangeFunc (.tmp 89) #[90] (cA tw.RF2) (.block 7 (cB (cF tw.RF2))) := by kernel_rfl
theorem has_ne_loop {w : World} {b l : Nat} {cs : List Value} {t : TypeId} {r : Loop} (h : Has w b cs t) (hl : w.heap[l]? = some (.loop r)) : b ≠ l := by
  rintro rfl
  unfold Has at h
  rw [h] at hl
  cases hl
theorem inner_round {R : Ending → World → Prop} {rec : Loop} {l2 b11 bn bm n j B : Nat} {t6 : Addr} {x want : Sl} {ks : List Path} {l : Path} {F : Nat → Prop} {w : World}
    (hrec : rec = { rec with state := .ready, pending := none, params := #[90], assign := cA tw.RF2, body := .block 7 (cB (cF tw.RF2)) }) (hl2 : w.heap[l2]? = some (.loop rec))
    (hs : SlotsD [] 146 { tmps := rec.tmps, defers := [] } (Cu.encS [(6, .at .addr), (11, .at .addr), (14, .at .addr), (16, .at .addr)] (t6, ⟨b11, 0, none⟩, ⟨bn, 0, none⟩, ⟨bm, 0, none⟩, ())))
    (hB : Has w b11 [slv want] 45) (hnw : Nest i64v F w want ks) (hF : ∀ b, F b → b ≠ l2) (hbn : Has w bn [.int .i64 (n : Int)] 3) (hbm : Has w bm [.int .i64 (j : Int)] 3) (hl : ks[j]? = some l) (hlen : ks.length ≤ 1024) (hll : l.length ≤ 300) (hx : Own i64v 3 B w x l)
    (hx1 : ∀ b, SlIn x b → b ≠ bn ∧ b ≠ bm ∧ b ≠ l2) (hnm : bn ≠ bm)
    (hK1 : ∀ w', Mo (fun b => SlIn x b ∨ b = bm ∨ b = l2) w w' → Has w' bm [.int .i64 ((j + 1 : Nat) : Int)] 3 → w'.heap[l2]? = some (.loop rec) → j + 1 ≤ n → R (.returned (.bool true)) w')
    (hK2 : ∀ w', Mo (fun b => SlIn x b ∨ b = bm ∨ b = l2) w w' → w'.heap[l2]? = some (.loop { rec with state := .done, pending := some (.exit 6) }) → n < j + 1 → R (.returned (.bool false)) w') :
    Rounds l2 (slv x) w R := by
  have hpar : rec.params = #[90] := by rw [hrec]
  have hst : rec.state = .ready := by rw [hrec]
  have hll2 : l2 < w.heap.size := (Array.getElem?_eq_some_iff.1 hl2).1
  have hy := run_yield (P := Try.prog) (args := #[slv x]) hl2 (by rw [hpar]; rfl)
  refine ⟨_, _, _, _, hy, ?_⟩
  rw [show rec.assign = cA tw.RF2 by rw [hrec], show rec.body = .block 7 (cB (cF tw.RF2)) by rw [hrec], hpar]
  refine roundIn_of_wpIn (F := Fence.wide) trivial ?_
  have hs1 : SlotsD [] 146 { tmps := (#[90].zip #[slv x]).foldl (fun tmps (t, a) => tmps.setIfInBounds t a) rec.tmps, defers := [] } (Cu.encS [(90, .at .sl), (6, .at .addr), (11, .at .addr), (14, .at .addr), (16, .at .addr)] (x, t6, ⟨b11, 0, none⟩, ⟨bn, 0, none⟩, ⟨bm, 0, none⟩, ())) := by
    have hz : (#[90].zip #[slv x]).foldl (fun tmps (t, a) => tmps.setIfInBounds t a) rec.tmps = rec.tmps.setIfInBounds 90 (slv x) := by first | rfl | simp
    rw [hz]
    exact hs.put (some 90) (slv x) (fun t ht => (Option.some.inj ht) ▸ (by decide))
  obtain ⟨J0, hJ0⟩ : ∃ J0 : St [(6, .at .addr), (11, .at .addr), (14, .at .addr), (16, .at .addr), (17, .at .sl)] → World → Prop, J0 = fun st v => st = (t6, ⟨b11, 0, none⟩, ⟨bn, 0, none⟩, ⟨bm, 0, none⟩, x, ()) ∧ v = w := ⟨_, rfl⟩
  refine wpIn_last (r := some l2) (ds := []) _ J0 _ _ (culletlaw12_TrieWalks.r0.oks (fun _ _ => False) J0) (culletlaw12_TrieWalks.r0.run (fun _ _ => False) J0 x t6 ⟨b11, 0, none⟩ ⟨bn, 0, none⟩ ⟨bm, 0, none⟩ w (by unfold culletlaw12_TrieWalks.r0.M; rw [hJ0]; exact ⟨rfl, rfl⟩)) hs1 (fun e a w he hq => (endQ_elim (fun _ _ h => h) he hq).elim) ?_
  rw [hJ0]
  rintro _ a w0 ⟨rfl, rfl⟩ hsa
  refine ⟨_, run_beginRound hl2 hst, ?_⟩
  refine wpIn_block ?_
  have hmb : Mo (fun b => b = l2) w0 (w0.putObj l2 (.loop { rec with state := .busy })) := Mo.putObj _ _ _
  have hlb : (w0.putObj l2 (.loop { rec with state := .busy })).heap[l2]? = some (.loop { rec with state := .busy }) := World.putObj_heap_same hll2
  have hB' := hB.mo hmb (has_ne_loop hB hl2)
  have hbn' := hbn.mo hmb (has_ne_loop hbn hl2)
  have hbm' := hbm.mo hmb (has_ne_loop hbm hl2)
  have hml : bm ≠ l2 := has_ne_loop hbm hl2
  have hnw' := hnw.mo hmb hF
  have hx' := hx.mo hmb (fun b hb => (hx1 b hb).2.2)
  generalize w0.putObj l2 (.loop { rec with state := .busy }) = W1 at hmb hlb hB' hbn' hbm' hnw' hx' ⊢
  obtain ⟨K, hKd⟩ : ∃ K : St [(6, .at .addr), (11, .at .addr), (14, .at .addr), (16, .at .addr)] → World → Prop, K = fun _ v => Mo (fun b => SlIn x b ∨ b = bm) W1 v ∧ Has v bm [.int .i64 ((j + 1 : Nat) : Int)] 3 ∧ j + 1 ≤ n := ⟨_, rfl⟩
  obtain ⟨X, hXd⟩ : ∃ X : St [(6, .at .addr), (11, .at .addr), (14, .at .addr), (16, .at .addr)] → World → Prop, X = fun _ v => Mo (fun b => SlIn x b ∨ b = bm) W1 v ∧ n < j + 1 := ⟨_, rfl⟩
  have hloop : ∀ v, Mo (fun b => SlIn x b ∨ b = bm) W1 v → v.heap[l2]? = some (.loop { rec with state := .busy }) := fun v hv => (hv.keep l2 (Array.getElem?_eq_some_iff.1 hlb).1 (fun h => h.elim (fun h => (hx1 _ h).2.2 rfl) (fun h => hml h.symm))).trans hlb
  have hall : ∀ v o, Mo (fun b => SlIn x b ∨ b = bm) W1 v → Mo (fun b => SlIn x b ∨ b = bm ∨ b = l2) w0 (v.putObj l2 o) := fun v o hv =>
    ((hmb.trans hv (Z := fun b => SlIn x b ∨ b = bm ∨ b = l2) (fun b h => .inr (.inr h)) (fun b _ h => h.elim .inl (fun h => .inr (.inl h)))).trans (Mo.putObj v l2 o) (fun _ => id) (fun b _ h => .inr (.inr h)))
  refine wpIn_last (r := some l2) (ds := []) _ K _ _ (culletlaw12_TrieWalks.r1.oks (fun _ _ => False) K X) (culletlaw12_TrieWalks.r1.run (fun _ _ => False) K X t6 ⟨b11, 0, none⟩ ⟨bn, 0, none⟩ ⟨bm, 0, none⟩ x W1 ?_) hsa (fun e a v he hq => ?_) ?_
  · refine walks_r1 hB' hnw' hbn' hbm' hl hlen hll hx' (fun b hb => ⟨(hx1 b hb).1, (hx1 b hb).2.1⟩) hnm fun v hv hbv => ⟨fun h => ?_, fun h => ?_⟩
    · rw [hKd]; exact ⟨hv, hbv, h⟩
    · rw [hXd]; exact ⟨hv, h⟩
  · obtain ⟨rfl, st, hX, _⟩ := exitQ_elim (fun _ _ h => h) he hq
    rw [hXd] at hX
    obtain ⟨hv, hn⟩ := hX
    exact ⟨_, _, run_endRound (some (.exit 6)) (hloop v hv), hK2 _ (hall v _ hv) (World.putObj_heap_same (Nat.lt_of_lt_of_le (Array.getElem?_eq_some_iff.1 hlb).1 hv.size)) hn⟩
  · rw [hKd]
    rintro st a' v ⟨hv, hbv, hn⟩ _
    refine ⟨_, _, run_endRound none (hloop v hv), ?_⟩
    have hend : ({ { rec with state := .busy } with state := if (none : Option Code).isNone then .ready else .done, pending := none } : Loop) = rec := by rw [hrec]; rfl
    rw [hend]
    exact hK1 _ (hall v _ hv) (hbv.mo (Mo.putObj v l2 _) hml) (World.putObj_heap_same (Nat.lt_of_lt_of_le (Array.getElem?_eq_some_iff.1 hlb).1 hv.size)) hn
end Go.Proofs.Ytdnlnloogfnlgaa
