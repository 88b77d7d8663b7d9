/- A trie that is known to work: 'fixed'. -/
import Derived.Test.YtdnlnloogfnlgaaTrS
set_option linter.all false
namespace Go.Proofs.Ytdnlnloogfnlgaa
open Go Go.Cu Go.RowKit
set_option linter.unusedVariables false
set_option maxHeartbeats 4000000
theorem TrieSt.ownL {w : World} {own : Nat → Prop} {tb : Nat} {lim clock : Int} {es : List Ent} (h : TrieSt w own tb lim es clock) : ∀ b, own b → b < w.heap.size := by
  obtain ⟨v, ns, y, h1, _⟩ := h; exact h1.ownL
theorem nest_two {base : Nat} {w : World} {s s1 s2 : Sl} {l m : List Int} {e eo : TypeId} (h1 : Own b8 e base w s1 l) (h2 : Own b8 e base w s2 m) (h : Own slv eo base w s [s1, s2]) : Nest b8 (fun b => base ≤ b) w s [l, m] := by
  refine ⟨[s1, s2], h.rds, rfl, fun a ha => (h.base _ (slin_of ha)).1, fun i s' l' hs hl => ?_⟩
  match i, hs, hl with
  | 0, hs, hl =>
    obtain rfl : s1 = s' := by simpa using hs
    obtain rfl : l = l' := by simpa using hl
    exact ⟨h1.rds, fun a ha => (h1.base _ (slin_of ha)).1⟩
  | 1, hs, hl =>
    obtain rfl : s2 = s' := by simpa using hs
    obtain rfl : m = l' := by simpa using hl
    exact ⟨h2.rds, fun a ha => (h2.base _ (slin_of ha)).1⟩
  | n + 2, hs, hl => simp at hs
theorem begun_two {L : List Path} (h : Begun [[1, 4]] L) : L.length = 2 := by
  have h1 := nodup_sub_len L [[1], [1, 4]] h.1 (fun q hq => ?_)
  · have h2 := nodup_sub_len [[1], [1, 4]] L (by decide) (fun q hq => ?_)
    · simp only [List.length_cons, List.length_nil] at h1 h2; omega
    · rw [h.2]
      simp only [List.mem_cons, List.not_mem_nil, or_false] at hq
      rcases hq with rfl | rfl
      · exact ⟨by simp, [1, 4], by simp, by simp⟩
      · exact ⟨by simp, [1, 4], by simp, List.prefix_refl _⟩
  · obtain ⟨hne, k, hk, hqk⟩ := (h.2 q).1 hq
    simp only [List.mem_cons, List.not_mem_nil, or_false] at hk
    subst hk
    have := List.prefix_iff_eq_take.1 hqk
    have hl := hqk.length_le
    simp only [List.length_cons, List.length_nil] at hl
    match hn : q.length, hl with
    | 0, _ => exact absurd (List.eq_nil_of_length_eq_zero hn) hne
    | 1, _ => rw [hn] at this; rw [this]; simp
    | 2, _ => rw [hn] at this; rw [this]; simp
theorem fixed_gv (w : World) : Gv Try.prog 12 #[] (.bool true) w := by
  refine culletlaw12_fixed.run _ w ?_
  unfold culletlaw12_fixed.M
  refine Calls.mono (new_ok 2 w) ?_
  rintro en w1 ⟨hx1, (⟨hb, _⟩ | ⟨_, tb, rfl, htb, hst⟩)⟩
  · omega
  refine ⟨(some ⟨tb, 0, none⟩, 0, ()), rfl, ?_⟩
  refine Pu_eqnil tT ?_
  refine Cd_f ?_
  have c0 : ((0 : Int) != 0) = false := rfl
  unfold culletlaw12_fixed.j1
  refine Cd_f ?_
  refine Wr_lit (f := i64v) (e := 3) (base := w1.heap.size) [1, 4] (by kernel_rfl) (Nat.le_refl _) (by simp) fun s3 w3 ho3 hx3 _ => ?_
  refine Wr_lit (f := b8) (e := 5) (base := w1.heap.size) [7, 8] (by kernel_rfl) hx3.size (by simp) fun s5 w5 ho5 hx5 _ => ?_
  have hx15 := hx3.trans hx5
  refine Wr_lit (f := b8) (e := 5) (base := w1.heap.size) [9] (by kernel_rfl) hx15.size (by simp) fun s7 w7 ho7 hx7 _ => ?_
  have hx17 := hx15.trans hx7
  refine Wr_lit (f := slv) (e := 52) (base := w1.heap.size) [s5, s7] (by kernel_rfl) hx17.size (by simp) fun s9 w9 ho9 hx9 _ => ?_
  have hx19 := hx17.trans hx9
  have hn9 := nest_two ((ho5.ex hx7).ex hx9) (ho7.ex hx9) ho9
  have hle : RowsLe [[(7 : Int), 8], [9]] := ⟨by simp, by intro l hl; simp only [List.mem_cons, List.not_mem_nil, or_false] at hl; rcases hl with rfl | rfl <;> simp⟩
  refine Calls.mono (put_ok (hst.ex hx19) (by omega) s3 s9 [1, 4] [[7, 8], [9]] (((ho3.ex hx5).ex hx7).ex hx9).rds (by simp) (fun a ha ho => ?_) hn9 (fun b hb ho => ?_) hle) ?_
  · have := hst.ownL _ ho; have := (ho3.base _ (slin_of ha)).1; omega
  · have := hst.ownL _ ho; omega
  rintro en w12 (⟨hb, _⟩ | ⟨_, rfl, own2, a1, a2, hst2, hmo⟩)
  · cases hb
  refine ⟨0, rfl, ?_⟩
  refine Wr_lit (f := i64v) (e := 3) (base := w12.heap.size) [1, 4] (by kernel_rfl) (Nat.le_refl _) (by simp) fun s13 w13 ho13 hx13 _ => ?_
  refine Calls.mono (get_ok (hst2.ex hx13) s13 [1, 4] ho13.rds (by simp) (by omega)) ?_
  rintro en w14 (⟨hno, _⟩ | ⟨v, hv, ⟨s14, rfl, hn14⟩, hst3, hmo3⟩)
  · exact absurd rfl (hno ([1, 4], [[7, 8], [9]]) (by simp [putE, without]))
  have hv : v = [[7, 8], [9]] := by simpa [putE, without] using hv
  subst hv
  refine ⟨(s14, true, ()), rfl, ?_⟩
  refine Cd_t ?_
  refine Cd_t ?_
  refine Wr_lit (f := b8) (e := 5) (base := w14.heap.size) [7, 8] (by kernel_rfl) (Nat.le_refl _) (by simp) fun s17 w17 ho17 hx17' _ => ?_
  refine Wr_lit (f := b8) (e := 5) (base := w14.heap.size) [9] (by kernel_rfl) hx17'.size (by simp) fun s19 w19 ho19 hx19' _ => ?_
  have hxa := hx17'.trans hx19'
  refine Wr_lit (f := slv) (e := 52) (base := w14.heap.size) [s17, s19] (by kernel_rfl) hxa.size (by simp) fun s21 w21 ho21 hx21 _ => ?_
  have hn21 := nest_two ((ho17.ex hx19').ex hx21) (ho19.ex hx21) ho21
  have hxb := hxa.trans hx21
  refine Cl_gv (sameValue_gv s14 s21 _ _ _ _ w21 (hn14.nest.ex hxb) hn21 hle) fun w24 hx24 => ?_
  refine Cd_t ?_
  refine Calls.mono (nodes_ok (hst3.ex (hxb.trans hx24))) ?_
  rintro en w26 ⟨L, hL, _, rfl, hx26⟩
  refine ⟨_, rfl, ?_⟩
  have h2 := begun_two (L := L) (by simpa [putE, without, frontE] using hL)
  dsimp only
  rw [h2]
  refine ⟨rfl, ?_⟩
  have k1 : Ex w w12 := (hx1.trans hx19).into hmo (fun b hb => hb.1)
  have k2 : Ex w w14 := (k1.trans hx13).into hmo3 (fun b hb => (a2 b hb).elim (fun g => g.1) (fun g => by have := (hx1.trans hx19).size; omega))
  exact k2.trans ((hxb.trans hx24).trans hx26)
end Go.Proofs.Ytdnlnloogfnlgaa
