/- grownOver answers true: rows appended to never show in one another. -/
import Derived.Test.YtdnlnloogfnlgaaTrMd
set_option linter.all false
namespace Go.Proofs.Ytdnlnloogfnlgaa
open Go Go.Cu Go.RowKit
set_option linter.unusedVariables false
set_option maxHeartbeats 2000000
def fillG (k : Nat) (L : List (List (List Int))) : List (List (List Int)) := L.mapIdx fun j l => if j < k then fillL (xJ j) l else l
theorem fillG_zero (L : List (List (List Int))) : fillG 0 L = L := by
  refine List.ext_getElem? fun j => ?_
  unfold fillG
  rw [List.getElem?_mapIdx]
  cases L[j]? <;> simp
theorem fillG_len (k : Nat) (L : List (List (List Int))) : (fillG k L).length = L.length := by simp [fillG]
theorem fillG_at {k : Nat} {L : List (List (List Int))} {l : List (List Int)} (h : L[k]? = some l) : (fillG k L)[k]? = some l := by
  unfold fillG
  rw [List.getElem?_mapIdx, h]
  simp
theorem fillG_next {k : Nat} {L : List (List (List Int))} {l : List (List Int)} (h : L[k]? = some l) : (fillG k L).set k (fillL (xJ k) l) = fillG (k + 1) L := by
  refine List.ext_getElem? fun j => ?_
  have hk := (List.getElem?_eq_some_iff.1 h).1
  rw [List.getElem?_set]
  unfold fillG
  rw [List.length_mapIdx, List.getElem?_mapIdx, List.getElem?_mapIdx]
  by_cases hj : k = j
  · subst hj
    rw [if_pos rfl, if_pos hk, h]
    simp
  · rw [if_neg hj]
    cases L[j]? with
    | none => rfl
    | some m =>
      by_cases h2 : j < k
      · simp [h2, show j < k + 1 by omega]
      · simp [h2, show ¬ j < k + 1 by omega]
theorem fillG_filled (L : List (List (List Int))) : Filled (fillG L.length L) := by
  intro j i g l hg hl
  unfold fillG at hg
  rw [List.getElem?_mapIdx] at hg
  obtain ⟨g0, hg0, rfl⟩ := Option.map_eq_some_iff.1 hg
  rw [if_pos (List.getElem?_eq_some_iff.1 hg0).1] at hl
  unfold fillL at hl
  rw [List.getElem?_mapIdx] at hl
  obtain ⟨l0, hl0, rfl⟩ := Option.map_eq_some_iff.1 hl
  rw [List.length_replicate]
def Small (L : List (List (List Int))) : Prop := ∀ g ∈ L, g.length ≤ 1048576 ∧ ∀ l ∈ g, l.length ≤ 140737488351232
theorem small_rows {g : List (List Int)} (h : g.length ≤ 1048576 ∧ ∀ l ∈ g, l.length ≤ 140737488351232) : RowsLe g := ⟨by omega, h.2⟩
theorem small_fill (x : Int) {g : List (List Int)} (h : g.length ≤ 1048576 ∧ ∀ l ∈ g, l.length ≤ 140737488351232) : (fillL x g).length ≤ 1048576 ∧ ∀ l ∈ fillL x g, l.length ≤ 140737488351232 :=
  ⟨by rw [fillL_len]; exact h.1, (fillL_mem (small_rows h)).2⟩
theorem Small.fill {L : List (List (List Int))} (h : Small L) (k : Nat) : Small (fillG k L) := by
  intro g hg
  obtain ⟨j, hj⟩ := List.mem_iff_getElem?.1 hg
  unfold fillG at hj
  rw [List.getElem?_mapIdx] at hj
  obtain ⟨g0, hg0, rfl⟩ := Option.map_eq_some_iff.1 hj
  have h0 := h g0 (List.mem_of_getElem? hg0)
  split
  · exact small_fill _ h0
  · exact h0
theorem grownOver_ok {vs : List Iv} {L : List (List (List Int))} {B : Nat} {values : Sl} {w : World} (hL : Lists w vs L) (hup : ∀ u ∈ vs, u.up ≤ w.heap.size)
    (hval : Own slv 30 B w values (vs.map (·.s))) (hval2 : ∀ b, SlIn values b → ¬ InIv vs b) (hll : Small L) (hGl : L.length ≤ 7) :
    Calls Try.prog 27 #[slv values] w fun en w' => en = .returned (.bool true) ∧ Lists w' vs (fillG L.length L) ∧ Mo (InIv vs) w w' := by
  have hvl : values.len = L.length := by rw [hval.1, List.length_map, hL.len]
  refine culletlaw12_grownOver.run _ values w ?_
  unfold culletlaw12_grownOver.M culletlaw12_grownOver.l1
  rw [hvl]
  refine loopW_of (fun st w' => st.1 = values ∧ st.2.1 = values ∧ st.2.2.1 = (L.length : Int) ∧ ∃ j : Nat, j ≤ L.length ∧ st.2.2.2.1 = (j : Int) ∧ Mo (InIv vs) w w' ∧ Lists w' vs (fillG j L) ∧ Own slv 30 B w' values (vs.map (·.s))) (fun st _ => L.length - st.2.2.2.1.toNat) ?_
    ⟨rfl, rfl, rfl, 0, Nat.zero_le _, rfl, Mo.refl _ _, by rw [fillG_zero]; exact hL, hval⟩
  rintro k ⟨a1, a2, a3, j', u⟩ w1 hI hk
  dsimp only at hI hk ⊢
  obtain ⟨rfl, rfl, rfl, j, hj, rfl, hm, hL1, hval1⟩ := hI
  have hs1 := hm.size
  unfold culletlaw12_grownOver.b1
  refine Cd_dec (fun hlt => ?_) (fun hge => ?_)
  · have hjl : j < L.length := by omega
    have hg := List.getElem?_eq_getElem hjl
    have hlen := hll _ (List.getElem_mem hjl)
    generalize L[j] = g at hg hlen
    refine Pu_idx hval1.rds tBBB sBBB (by omega) (by rw [List.length_map, hL.len]; omega) fun a x hx hc _ => ?_
    rw [Int.toNat_natCast, List.getElem?_map] at hx
    obtain ⟨v, hv, rfl⟩ := Option.map_eq_some_iff.1 hx
    refine Rd_one (c := .sl) (x := v.s) oBBB hc ?_
    refine Cl_of (filled_ok (xJ j) (hL1.each j v g hv (fillG_at hg)) (small_rows hlen)) ?_
    rintro e w2 ⟨rfl, hn2, hm2⟩
    refine ⟨(), rfl, ?_⟩
    rw [wrap64 (x := (j : Int) + 1) (by omega) (by omega)]
    refine hk _ _ ⟨rfl, rfl, rfl, j + 1, by omega, by dsimp only; omega, hm.trans hm2 (fun _ => id) (fun b _ hb => in_of hv hb.1 hb.2), ?_, hval1.mo hm2 (fun b hb hb2 => hval2 b hb (in_of hv hb2.1 hb2.2))⟩ (by simp only; omega)
    rw [← fillG_next hg]
    exact hL1.set hv hn2 hm2
  · obtain rfl : j = L.length := by omega
    refine grown_l2 (N := w.heap.size) hL1 hup hs1 hval1 (fun b hb => ⟨(hval.base b hb).2, hval2 b hb⟩) (hll.fill _) (by rw [fillG_len]; exact hGl) fun w2 tails2 T2 hm2 hL2 hval2' hT2 => ?_
    exact grown_l5 hL2 hval2' hT2 (fillG_filled L) (hll.fill _) (by rw [fillG_len]; exact hGl) ⟨rfl, hL2, (hm.trans hm2 (Z := fun b => InIv vs b ∨ w.heap.size ≤ b) (fun _ => .inl) (fun _ _ => id)).weak (fun b hb h => h.elim id (fun h => by omega))⟩
end Go.Proofs.Ytdnlnloogfnlgaa
