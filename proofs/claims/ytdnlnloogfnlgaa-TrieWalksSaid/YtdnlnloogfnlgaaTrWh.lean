/- culletlaw12.TrieWalks: the law. -/
import Derived.Test.YtdnlnloogfnlgaaTrWg
set_option linter.all false
namespace Go.Proofs.Ytdnlnloogfnlgaa
open Go Go.Cu Go.RowKit
set_option linter.unusedVariables false
set_option maxHeartbeats 4000000
theorem walks_p4 {W : World} {lim clk : Int} {Res : Nat → Prop} {os : List OpK} {b5 b6 b7 tb : Nat} {s : Sl} {w : World} {K : (Int × Addr × Addr × Addr × Unit) → World → Prop} (h7 : Has w b7 [.pointer (some ⟨tb, 0, none⟩)] 23) (hS : Sw W tb lim Res w clk) (hc : clk < 4000000000000000000) (hsc : Script W s os) (hr7 : Res b7)
    (hK : ∀ w', Mo (fun b => W.heap.size ≤ b ∧ ¬ Res b) w w' → Sw W tb lim Res w' (clk + os.length) → K (lim, ⟨b5, 0, none⟩, ⟨b6, 0, none⟩, ⟨b7, 0, none⟩, ()) w') :
    culletlaw12_TrieWalks.p4.M (fun _ _ => False) K lim s ⟨b5, 0, none⟩ ⟨b6, 0, none⟩ ⟨b7, 0, none⟩ w := by
  obtain ⟨hra, hops, hsm⟩ := hsc
  unfold culletlaw12_TrieWalks.p4.M culletlaw12_TrieWalks.p4.l1
  have hlen : s.len = os.length := by rw [hra.1, List.length_map]
  rw [hlen]
  refine loopW_of (fun st w' => st.1 = lim ∧ st.2.1 = ⟨b5, 0, none⟩ ∧ st.2.2.1 = ⟨b6, 0, none⟩ ∧ st.2.2.2.1 = ⟨b7, 0, none⟩ ∧ st.2.2.2.2.1 = s ∧ st.2.2.2.2.2.1 = (os.length : Int) ∧ ∃ i : Nat, i ≤ os.length ∧ st.2.2.2.2.2.2.1 = (i : Int) ∧ Mo (fun b => W.heap.size ≤ b ∧ ¬ Res b) w w' ∧ Sw W tb lim Res w' (clk + i)) (fun st _ => os.length - st.2.2.2.2.2.2.1.toNat) ?_
    ⟨rfl, rfl, rfl, rfl, rfl, rfl, 0, Nat.zero_le _, rfl, Mo.refl _ _, hS.late (by omega)⟩
  rintro k ⟨a1, a2, a3, a4, a8, a9, i', u⟩ w' hI hk
  dsimp only at hI hk ⊢
  obtain ⟨rfl, rfl, rfl, rfl, rfl, rfl, i, hi, rfl, hm, hSw⟩ := hI
  unfold culletlaw12_TrieWalks.p4.b1
  refine Cd_dec (fun hlt => ?_) (fun hge => ?_)
  · have hlt' : i < os.length := by omega
    refine Pu_idxA (hra.ex hSw.ex) tOps (by kernel_rfl) (by omega) (by rw [List.length_map]; omega) fun a ov hov hc' hbk => ?_
    rw [Int.toNat_natCast, List.getElem?_map, List.getElem?_eq_getElem hlt'] at hov
    have hov : os[i].o = ov := by simpa using hov
    subst hov
    have hop := hops os[i] (List.getElem_mem hlt')
    generalize os[i] = o at *
    refine Rd_agg (x := o.o) (by kernel_rfl) hc' ?_
    refine Wr_alloc (z := .agg (encAts oAts ((0, 0, nilS, nilS, ()) : OpT)).toArray) (by kernel_rfl) fun w3 hB3 hx3 => ?_
    refine Wu_store (v := .agg (encAts oAts o.o).toArray) hB3 (by kernel_rfl) (op_one o.o) (Nat.le_of_ble_eq_true (by kernel_rfl)) fun w4 hB4 hm4 => ?_
    have hB4' : Has w4 w'.heap.size (opV o.o) 32 := hB4
    have hx4 : Ex w' w4 := hx3.into hm4 (fun i hi => by rw [hi]; exact Nat.le_refl _)
    have h7' : Has w4 b7 [.pointer (some ⟨tb, 0, none⟩)] 23 := (h7.mo hm (fun h => h.2 hr7)).ex hx4
    refine Rd_has (c := .ptr) (x := some ⟨tb, 0, none⟩) h7' (by kernel_rfl) rfl ?_
    refine Rd_agg (x := o.o) (by kernel_rfl) (load_op hB4') ?_
    refine Cl_of ((hSw.more hx4).done (by omega) o hop) ?_
    rintro en w5 ⟨rfl, hm5, hS5⟩
    refine ⟨(), rfl, ?_⟩
    rw [wrap64 (x := (i : Int) + 1) (by omega) (by omega)]
    exact hk _ _ ⟨rfl, rfl, rfl, rfl, rfl, rfl, i + 1, by omega, by dsimp only; omega, hm.trans (hx4.mo hm5) (fun _ => id) (fun _ _ => id), hS5.late (by omega)⟩ (by simp only; omega)
  · obtain rfl : i = os.length := by omega
    exact hK w' hm hSw
theorem load_bool {w : World} {b : Nat} {x : Bool} (h : Has w b [.bool x] 4) : (loadVar 4 ⟨b, 0, none⟩).run Try.prog w = .ok (.bool x) w :=
  run_load_one (P := Try.prog) (t := 4) (a := ⟨b, 0, none⟩) (v := .bool x) (by kernel_rfl) (by rw [h.cell]; rfl)
theorem leaves_marks {W : World} {b6 n m : Nat} {a : Act} {L : Env} (hs : Slots n { a with defers := [] } L) (h6 : find L 6 = some (.pointer (some ⟨b6, 0, none⟩))) : ∀ (marks : List Nat) (w : World), marks.Nodup → (∀ D ∈ marks, w.heap[D]? = some (.deferred (some [])) ∧ W.heap.size ≤ D) → Has w b6 [.bool true] 4 → Ex W w →
    LeavesInM Fence.wide m Try.prog Try.f10 a.tmps (fun en w' => en = .returned (.bool true) ∧ Ex W w') (marks.map markD) .returning w
  | [], w, _, _, hb, hx => by
    obtain ⟨vs, q1, q2⟩ := results_run (P := Try.prog) (fn := Try.f10) (cs := [.at .bool]) (k := fun vs => vs = [.bool true]) (w := w) hs (by
      rw [show Try.f10.results.toList = [.cell 6 4] by kernel_rfl]
      simp only [resL, h6]
      exact ⟨true, load_bool hb, rfl⟩)
    subst q2
    exact ⟨_, q1, rfl, hx⟩
  | D :: r, w, hn, hm, hb, hx => by
    obtain ⟨h1, h2⟩ := hm D (List.mem_cons_self ..)
    have hp := Mo.putObj w D (.deferred none)
    have hne : b6 ≠ D := by
      rintro rfl
      unfold Has at hb
      rw [hb] at h1
      cases h1
    have hnd := List.nodup_cons.1 hn
    refine ⟨by simp, .inl ⟨D, _, rfl, run_takeDeferred h1, leaves_marks hs h6 r _ hnd.2 (fun E hE => ⟨?_, (hm E (List.mem_cons_of_mem _ hE)).2⟩) (hb.mo hp hne) (hx.into hp (fun b e => e ▸ h2))⟩⟩
    exact (World.putObj_heap_other (by rintro rfl; exact hnd.1 hE)).trans (hm E (List.mem_cons_of_mem _ hE)).1
end Go.Proofs.Ytdnlnloogfnlgaa
