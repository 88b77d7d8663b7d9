/- All sinks of the document's Split; lists without nil pointers. -/
import Derived.Test.YtmmejgneelkhkaaDoorSpG
set_option linter.all false
namespace Go.Proofs.YtmmejgneelkhkaaDoor
open Go Go.Cu Go.RowKit
set_option linter.unusedVariables false
set_option maxHeartbeats 2000000
set_option maxRecDepth 100000
theorem rsplit_out {R : Ending → World → Prop} {W0 : World} {T : Ths} {gs gt size len total jd : Nat} {gd : Nat → Nat} {dd cc dst : Sl} {cs : List Value} {s : Src} {sn : List Snk} {w : World}
    (hS : Sep W0 w T) (hs : T (.rs 0) = RSrc gs dd cc s) (hd : ∀ j d, sn[j]? = some d → T (.rk j) = RSnk (gd j) d) (hdst : T (.bx jd) = Rdo ptrV dst ((List.range sn.length).map fun j => some (gd j))) (hg : s.Good) (hgd : ∀ d ∈ sn, d.Good ∧ d.got.length + len ≤ 140737488355328)
    (hsize : 1 ≤ size) (hsize2 : size ≤ 1048576) (hlen : len ≤ 2199023255552) (hleft : total ≤ 2199023255552) (hn : sn.length ≤ 140737488355328) (ht : s.turns + 200 * total + 200 ≤ 4611686018427387904) (hgt : T (.tm 2) = Cel gt cs 54) (hcs : cs.length = 2) (hd0 : Rds b8 W0 dd s.data) (hc0 : Rds i64v W0 cc s.chunks)
    (hend : ∀ (w' : World) (T' : Ths), Sep W0 w' T' → KeepP T T' → T' (.rs 0) = RSrc gs dd cc (outF size len 0 total s sn).1 → (∀ j d, (outF size len 0 total s sn).2.1[j]? = some d → T' (.rk j) = RSnk (gd j) d) → (∀ j, sn.length ≤ j → T' (.rk j) = T (.rk j)) →
      R (.returned (.agg #[.int .i64 (resN (outF size len 0 total s sn).2.2).1, .int .i64 (resN (outF size len 0 total s sn).2.2).2])) w') :
    culletref24_Code_Split.l1 R ((size : Int), at0 gs, ⟨gt, 0, none⟩, (len : Int), (total : Int), dst, ((dst.len : Nat) : Int), 0, ()) w := by
  unfold culletref24_Code_Split.l1
  generalize hq0 : outF size len 0 total s sn = q0 at hend
  have hdl : dst.len = sn.length := by
    have := (hS.rds hdst).1
    simpa using this
  refine loopW_of (fun st w1 => ∃ (i left1 : Nat) (s1 : Src) (pre rest : List Snk) (T1 : Ths), st = ((size : Int), at0 gs, ⟨gt, 0, none⟩, (len : Int), (left1 : Int), dst, ((dst.len : Nat) : Int), (i : Int), ()) ∧ pre.length = i ∧ i + rest.length = sn.length ∧ (∀ d ∈ rest, d ∈ sn) ∧ Sep W0 w1 T1 ∧ KeepP T T1 ∧ T1 (.tm 2) = T (.tm 2) ∧ s.Like s1 ∧ T1 (.rs 0) = RSrc gs dd cc s1 ∧
      (∀ j d, (pre ++ rest)[j]? = some d → T1 (.rk j) = RSnk (gd j) d) ∧ (∀ j, sn.length ≤ j → T1 (.rk j) = T (.rk j)) ∧ s1.Good ∧ left1 ≤ total ∧ s1.turns + 200 * left1 ≤ s.turns + 200 * total ∧
      q0 = ((outF size len i left1 s1 rest).1, pre ++ (outF size len i left1 s1 rest).2.1, (outF size len i left1 s1 rest).2.2))
    (fun st _ => ((dst.len : Int) - st.2.2.2.2.2.2.2.1).toNat) ?_ ⟨0, total, s, [], sn, T, rfl, rfl, by simp, fun _ h => h, hS, KeepP.refl T, rfl, Src.Like.refl s, hs, hd, fun _ _ => rfl, hg, Nat.le_refl _, Nat.le_refl _, by rw [← hq0]; simp⟩
  rintro k1 _ w1 ⟨i, left1, s1, pre, rest, T1, rfl, hpre, hrest, hmem, hS1, hK1, hgt1, hl1, hs1, hd1, ho1, hg1, hle1, ht1, hq⟩ hk1
  unfold culletref24_Code_Split.b1
  dsimp only at hk1 ⊢
  refine Cd_dec (fun hlt => ?_) (fun hge => ?_)
  · cases rest with
    | nil => simp at hrest; omega
    | cons d rest =>
      simp only [List.length_cons] at hrest
      have hdst1 : Rds ptrV w1 dst ((List.range sn.length).map fun j => some (gd j)) := hS1.rds (k := .bx jd) ((hK1.2.2 jd).trans hdst)
      refine Pu_idx hdst1 (e := 66) (by kernel_rfl) (by kernel_rfl) (by omega) (by simp; omega) fun a x hx hcell _ => ?_
      have hx' : x = some (gd i) := by
        rw [Int.toNat_natCast, List.getElem?_map, List.getElem?_range (by omega)] at hx
        exact (Option.some.inj hx).symm
      subst hx'
      refine Rd_one (c := .ptr) (x := at0 (gd i)) (by kernel_rfl) hcell ?_
      have hdi := hd1 i d (by rw [← hpre]; simp)
      obtain ⟨hgd1, hgd2⟩ := hgd d (hmem d (by simp))
      simp only [outF] at hq
      refine rsplit_in hS1 hs1 hdi (hgt1.trans hgt) hcs (by rw [hl1.1]; exact hd0) (by rw [hl1.2.1]; exact hc0) hg1 hgd1 hsize hsize2 hlen (by omega) (by omega) hgd2 ?_ ?_
      · intro w' T' hS' hK' hgt' hs' hd' ho' hnone hl' hg' hle' ht'
        rw [hnone] at hq
        dsimp only at hq
        rw [wrap64 (by omega) (by omega), show (i : Int) + 1 = ((i + 1 : Nat) : Int) by omega]
        refine hk1 _ _ ⟨i + 1, _, _, pre ++ [(inF size len i (len + 1) 0 left1 s1 d).2.1], rest, T', rfl, by simp [hpre], by omega, fun d' h => hmem d' (by simp [h]), hS', hK1.trans hK', hgt'.trans hgt1, hl1.trans hl', hs', ?_, fun j hj => (ho' j (by omega)).trans (ho1 j hj), hg', by omega, by omega, ?_⟩ (by dsimp only; omega)
        · intro j d' hj
          generalize (inF size len i (len + 1) 0 left1 s1 d).2.1 = rr at hj hd'
          by_cases hji : j = i
          · subst hji
            rw [← hpre, List.append_assoc, List.getElem?_append_right (Nat.le_refl _), Nat.sub_self] at hj
            simp only [List.cons_append, List.nil_append, List.getElem?_cons_zero, Option.some.injEq] at hj
            rw [← hj]
            exact hd'
          · rw [ho' j hji]
            refine hd1 j d' ?_
            rw [← hj, List.append_assoc]
            rcases Nat.lt_or_ge j pre.length with h | h
            · rw [List.getElem?_append_left h, List.getElem?_append_left h]
            · rw [List.getElem?_append_right h, List.getElem?_append_right h]
              have : j - pre.length ≠ 0 := by omega
              obtain ⟨m, hm⟩ := Nat.exists_eq_succ_of_ne_zero this
              rw [hm]; rfl
        · rw [hq]; simp
      · intro w' T' e hS' hK' hs' hd' ho' hsome
        rw [hsome] at hq
        dsimp only at hq
        have := hend w' T' hS' (hK1.trans hK') (by rw [hq]; exact hs') ?_ (fun j hj => (ho' j (by omega)).trans (ho1 j hj))
        · rw [hq] at this; exact this
        · intro j d' hj
          rw [hq] at hj
          dsimp only at hj
          generalize (inF size len i (len + 1) 0 left1 s1 d).2.1 = rr at hj hd'
          by_cases hji : j = i
          · subst hji
            rw [← hpre, List.getElem?_append_right (Nat.le_refl _), Nat.sub_self] at hj
            simp only [List.getElem?_cons_zero, Option.some.injEq] at hj
            rw [← hj]
            exact hd'
          · rw [ho' j hji]
            refine hd1 j d' ?_
            rw [← hj]
            rcases Nat.lt_or_ge j pre.length with h | h
            · rw [List.getElem?_append_left h, List.getElem?_append_left h]
            · rw [List.getElem?_append_right h, List.getElem?_append_right h]
              have : j - pre.length ≠ 0 := by omega
              obtain ⟨m, hm⟩ := Nat.exists_eq_succ_of_ne_zero this
              rw [hm]; rfl
  · have hnil : rest = [] := List.eq_nil_of_length_eq_zero (by omega)
    subst hnil
    simp only [outF, List.append_nil] at hq
    refine ret2 hS1 (hgt1.trans hgt) hcs fun w2 hS2 => ?_
    have := hend w2 _ hS2 (hK1.tm 2 _) (by rw [hq, Ths.up_ne _ _ (by simp)]; exact hs1) (fun j d hj => by rw [hq] at hj; rw [Ths.up_ne _ _ (by simp)]; exact hd1 j d (by simpa using hj)) (fun j hj => by rw [Ths.up_ne _ _ (by simp)]; exact ho1 j hj)
    rw [hq] at this
    exact this
theorem stream_whole_pipesSink_gv (s : Sl) (l : List (Option Nat)) (w : World) (hr : Rds ptrV w s l) (hl : l.length ≤ 9223372036854775806) : Gv Tryd.prog 25 #[.slice s.base s.len s.cap] (.bool (l.all Option.isSome)) w := by
  refine stream_whole_pipesSink.run _ s w ?_
  unfold stream_whole_pipesSink.M stream_whole_pipesSink.l1
  have hsl := hr.1
  refine loopW_of (fun st w' => ∃ i : Nat, st = (s, ((s.len : Nat) : Int), (i : Int), ()) ∧ w' = w ∧ i ≤ l.length ∧ (l.take i).all Option.isSome = true) (fun st _ => ((l.length : Int) - st.2.2.1).toNat) ?_ ⟨0, rfl, rfl, Nat.zero_le _, by simp⟩
  rintro k _ w' ⟨i, rfl, rfl, hi, hall⟩ hk
  unfold stream_whole_pipesSink.b1
  dsimp only at hk ⊢
  refine Cd_dec (fun hlt => ?_) (fun hge => ?_)
  · have hlt : i < l.length := by omega
    refine Pu_idx hr (t := 40) (e := 64) (by kernel_rfl) (by kernel_rfl) (by omega) (by omega) fun a x hx hcell _ => ?_
    rw [Int.toNat_natCast] at hx
    rw [ptrV_eq] at hcell
    refine Rd_one (c := .ptr) (x := x.map fun g => ⟨g, 0, none⟩) (by kernel_rfl) hcell ?_
    refine Pu_eqnil tPK ?_
    refine Cd_of (fun h => ?_) (fun h => ?_)
    · have hx0 : x = none := by cases x with
        | none => rfl
        | some g => cases h
      refine ⟨?_, Ex.refl _⟩
      have : l.all Option.isSome = false := by
        rw [List.all_eq_false]
        exact ⟨x, List.mem_of_getElem? hx, by rw [hx0]; simp⟩
      rw [this]
    · have hx1 : x.isSome = true := by cases x with
        | none => cases h
        | some g => rfl
      rw [wrap64 (by omega) (by omega), show (i : Int) + 1 = ((i + 1 : Nat) : Int) by omega]
      refine hk _ _ ⟨i + 1, rfl, rfl, by omega, ?_⟩ (by dsimp only; omega)
      rw [List.take_add_one, hx, List.all_append, hall]
      simp [hx1]
  · refine ⟨?_, Ex.refl _⟩
    rw [List.take_of_length_le (by omega)] at hall
    rw [hall]
theorem stream_whole_pipesSource_gv (s : Sl) (l : List (Option Nat)) (w : World) (hr : Rds ptrV w s l) (hl : l.length ≤ 9223372036854775806) : Gv Tryd.prog 39 #[.slice s.base s.len s.cap] (.bool (l.all Option.isSome)) w := by
  refine stream_whole_pipesSource.run _ s w ?_
  unfold stream_whole_pipesSource.M stream_whole_pipesSource.l1
  have hsl := hr.1
  refine loopW_of (fun st w' => ∃ i : Nat, st = (s, ((s.len : Nat) : Int), (i : Int), ()) ∧ w' = w ∧ i ≤ l.length ∧ (l.take i).all Option.isSome = true) (fun st _ => ((l.length : Int) - st.2.2.1).toNat) ?_ ⟨0, rfl, rfl, Nat.zero_le _, by simp⟩
  rintro k _ w' ⟨i, rfl, rfl, hi, hall⟩ hk
  unfold stream_whole_pipesSource.b1
  dsimp only at hk ⊢
  refine Cd_dec (fun hlt => ?_) (fun hge => ?_)
  · have hlt : i < l.length := by omega
    refine Pu_idx hr (t := 39) (e := 52) (by kernel_rfl) (by kernel_rfl) (by omega) (by omega) fun a x hx hcell _ => ?_
    rw [Int.toNat_natCast] at hx
    rw [ptrV_eq] at hcell
    refine Rd_one (c := .ptr) (x := x.map fun g => ⟨g, 0, none⟩) (by kernel_rfl) hcell ?_
    refine Pu_eqnil tPS ?_
    refine Cd_of (fun h => ?_) (fun h => ?_)
    · have hx0 : x = none := by cases x with
        | none => rfl
        | some g => cases h
      refine ⟨?_, Ex.refl _⟩
      have : l.all Option.isSome = false := by
        rw [List.all_eq_false]
        exact ⟨x, List.mem_of_getElem? hx, by rw [hx0]; simp⟩
      rw [this]
    · have hx1 : x.isSome = true := by cases x with
        | none => cases h
        | some g => rfl
      rw [wrap64 (by omega) (by omega), show (i : Int) + 1 = ((i + 1 : Nat) : Int) by omega]
      refine hk _ _ ⟨i + 1, rfl, rfl, by omega, ?_⟩ (by dsimp only; omega)
      rw [List.take_add_one, hx, List.all_append, hall]
      simp [hx1]
  · refine ⟨?_, Ex.refl _⟩
    rw [List.take_of_length_le (by omega)] at hall
    rw [hall]
theorem culletref24_sinks_gv (s : Sl) (l : List (Option Nat)) (w : World) (hr : Rds ptrV w s l) (hl : l.length ≤ 9223372036854775806) : Gv Tryd.prog 30 #[.slice s.base s.len s.cap] (.bool (l.all Option.isSome)) w := by
  refine culletref24_sinks.run _ s w ?_
  unfold culletref24_sinks.M culletref24_sinks.l1
  have hsl := hr.1
  refine loopW_of (fun st w' => ∃ i : Nat, st = (s, ((s.len : Nat) : Int), (i : Int), ()) ∧ w' = w ∧ i ≤ l.length ∧ (l.take i).all Option.isSome = true) (fun st _ => ((l.length : Int) - st.2.2.1).toNat) ?_ ⟨0, rfl, rfl, Nat.zero_le _, by simp⟩
  rintro k _ w' ⟨i, rfl, rfl, hi, hall⟩ hk
  unfold culletref24_sinks.b1
  dsimp only at hk ⊢
  refine Cd_dec (fun hlt => ?_) (fun hge => ?_)
  · have hlt : i < l.length := by omega
    refine Pu_idx hr (t := 42) (e := 66) (by kernel_rfl) (by kernel_rfl) (by omega) (by omega) fun a x hx hcell _ => ?_
    rw [Int.toNat_natCast] at hx
    rw [ptrV_eq] at hcell
    refine Rd_one (c := .ptr) (x := x.map fun g => ⟨g, 0, none⟩) (by kernel_rfl) hcell ?_
    refine Pu_eqnil tRK ?_
    refine Cd_of (fun h => ?_) (fun h => ?_)
    · have hx0 : x = none := by cases x with
        | none => rfl
        | some g => cases h
      refine ⟨?_, Ex.refl _⟩
      have : l.all Option.isSome = false := by
        rw [List.all_eq_false]
        exact ⟨x, List.mem_of_getElem? hx, by rw [hx0]; simp⟩
      rw [this]
    · have hx1 : x.isSome = true := by cases x with
        | none => cases h
        | some g => rfl
      rw [wrap64 (by omega) (by omega), show (i : Int) + 1 = ((i + 1 : Nat) : Int) by omega]
      refine hk _ _ ⟨i + 1, rfl, rfl, by omega, ?_⟩ (by dsimp only; omega)
      rw [List.take_add_one, hx, List.all_append, hall]
      simp [hx1]
  · refine ⟨?_, Ex.refl _⟩
    rw [List.take_of_length_le (by omega)] at hall
    rw [hall]
theorem culletref24_sources_gv (s : Sl) (l : List (Option Nat)) (w : World) (hr : Rds ptrV w s l) (hl : l.length ≤ 9223372036854775806) : Gv Tryd.prog 40 #[.slice s.base s.len s.cap] (.bool (l.all Option.isSome)) w := by
  refine culletref24_sources.run _ s w ?_
  unfold culletref24_sources.M culletref24_sources.l1
  have hsl := hr.1
  refine loopW_of (fun st w' => ∃ i : Nat, st = (s, ((s.len : Nat) : Int), (i : Int), ()) ∧ w' = w ∧ i ≤ l.length ∧ (l.take i).all Option.isSome = true) (fun st _ => ((l.length : Int) - st.2.2.1).toNat) ?_ ⟨0, rfl, rfl, Nat.zero_le _, by simp⟩
  rintro k _ w' ⟨i, rfl, rfl, hi, hall⟩ hk
  unfold culletref24_sources.b1
  dsimp only at hk ⊢
  refine Cd_dec (fun hlt => ?_) (fun hge => ?_)
  · have hlt : i < l.length := by omega
    refine Pu_idx hr (t := 41) (e := 56) (by kernel_rfl) (by kernel_rfl) (by omega) (by omega) fun a x hx hcell _ => ?_
    rw [Int.toNat_natCast] at hx
    rw [ptrV_eq] at hcell
    refine Rd_one (c := .ptr) (x := x.map fun g => ⟨g, 0, none⟩) (by kernel_rfl) hcell ?_
    refine Pu_eqnil tRS ?_
    refine Cd_of (fun h => ?_) (fun h => ?_)
    · have hx0 : x = none := by cases x with
        | none => rfl
        | some g => cases h
      refine ⟨?_, Ex.refl _⟩
      have : l.all Option.isSome = false := by
        rw [List.all_eq_false]
        exact ⟨x, List.mem_of_getElem? hx, by rw [hx0]; simp⟩
      rw [this]
    · have hx1 : x.isSome = true := by cases x with
        | none => cases h
        | some g => rfl
      rw [wrap64 (by omega) (by omega), show (i : Int) + 1 = ((i + 1 : Nat) : Int) by omega]
      refine hk _ _ ⟨i + 1, rfl, rfl, by omega, ?_⟩ (by dsimp only; omega)
      rw [List.take_add_one, hx, List.all_append, hall]
      simp [hx1]
  · refine ⟨?_, Ex.refl _⟩
    rw [List.take_of_length_le (by omega)] at hall
    rw [hall]
end Go.Proofs.YtmmejgneelkhkaaDoor
