/- 'view': all views of a trie tell one and the same. -/
import Derived.Test.YtdnlnloogfnlgaaTrOa
import Derived.Test.YtdnlnloogfnlgaaTrNa
set_option linter.all false
namespace Go.Proofs.Ytdnlnloogfnlgaa
open Go Go.Cu Go.RowKit
set_option linter.unusedVariables false
set_option maxHeartbeats 4000000
theorem Rds.at {α : Type} {f : α → Value} {w : World} {s : Sl} {l : List α} (h : Rds f w s l) {b : Addr} (hb : s.base = some b) {i : Nat} {x : α} (hi : l[i]? = some x) : w.cell? (b.add i) = some (f x) := by
  obtain ⟨a, ha, hc⟩ := h.2.2 i x hi
  rw [hb] at ha
  cases ha
  exact hc
theorem TrieSt.good {w : World} {own : Nat → Prop} {tb : Nat} {lim clock : Int} {es : List Ent} (h : TrieSt w own tb lim es clock) : ∀ e ∈ es, goodB e.1 = true := by
  obtain ⟨v, ns, y, _, he⟩ := h; exact he.good
theorem TrieSt.clk0 {w : World} {own : Nat → Prop} {tb : Nat} {lim clock : Int} {es : List Ent} (h : TrieSt w own tb lim es clock) : 0 ≤ clock := by
  obtain ⟨v, ns, y, _, he⟩ := h; exact he.clk0
theorem same_length {ks ls : List Path} (h1 : ks.Nodup) (h2 : ls.Nodup) (hm : ∀ x, x ∈ ks ↔ x ∈ ls) : ks.length = ls.length := by
  have a := nodup_sub_len ks ls h1 (fun x hx => (hm x).1 hx)
  have b := nodup_sub_len ls ks h2 (fun x hx => (hm x).2 hx)
  omega
theorem KeysUnder.all {es : List Ent} {ks : List Path} (h : KeysUnder es [] ks) (x : Path) : x ∈ ks ↔ x ∈ es.map (·.1) := by
  rw [h.mem, List.mem_map]
  simp [List.nil_prefix]
theorem view_gv {w : World} {own : Nat → Prop} {tb : Nat} {lim clock : Int} {es : List Ent} (h : TrieSt w own tb lim es clock) (hc : clock < 4611686018427387904) : Gv Try.prog 38 #[.pointer (some ⟨tb, 0, none⟩), .int .i64 lim] (.bool true) w := by
  obtain ⟨hnd, hr1, hr2, hr3, hr4⟩ := h.lens
  have hgood := h.good
  refine culletlaw12_view.run _ _ lim w ?_
  unfold culletlaw12_view.M
  refine Calls.mono (recent_ok h hc) ?_
  rintro en w1 ⟨s1, rfl, hn1, hx1⟩
  refine ⟨s1, rfl, ?_⟩
  have h1 := h.ex hx1
  refine Calls.mono (gives_some h1) ?_
  rintro en w2 ⟨s2, ks, rfl, hn2, hku, hkl, hkk, hx2⟩
  refine ⟨s2, rfl, ?_⟩
  have k2 := hx1.trans hx2
  have h2 := h.ex k2
  refine Cl_gv (len_gv h2) fun w3 hx3 => ?_
  have k3 := k2.trans hx3
  have hl1 := nest_len hn1.nest
  have hl2 := nest_len hn2.nest
  rw [List.length_map] at hl1
  have hkeq : ks.length = es.length := by
    have := same_length hku.nodup hnd hku.all
    rwa [List.length_map] at this
  refine Cd_ne (fun h => absurd (by omega) h) (fun _ => ?_)
  refine Cd_ne (fun h => absurd (by omega) h) (fun _ => ?_)
  have hnl : decide (((s1.len : Nat) : Int) > lim) = false := decide_eq_false (by omega)
  rw [hnl]
  unfold culletlaw12_view.j1
  refine Cd_f ?_
  unfold culletlaw12_view.l1
  rw [hl2]
  have hn2' := hn2.nest.ex hx3
  obtain ⟨rs, r1, r2, r3, r4⟩ := id hn2'
  refine loopW_of (fun st w' => Ex w3 w' ∧ st.1 = some ⟨tb, 0, none⟩ ∧ st.2.1 = s1 ∧ st.2.2.1 = s2 ∧ st.2.2.2.1 = (ks.length : Int) ∧ ∃ i : Nat, i ≤ ks.length ∧ st.2.2.2.2.1 = (i : Int)) (fun st _ => ks.length - st.2.2.2.2.1.toNat) ?_
    ⟨Ex.refl _, rfl, rfl, rfl, rfl, 0, Nat.zero_le _, rfl⟩
  rintro k ⟨a1, a2, a3, a4, i', u⟩ w' hI hk
  dsimp only at hI hk ⊢
  obtain ⟨hx, rfl, rfl, rfl, rfl, i, hi, rfl⟩ := hI
  unfold culletlaw12_view.b1
  have key_good : ∀ q ∈ ks, goodB q = true ∧ ∃ v, (q, v) ∈ es := fun q hq => by
    obtain ⟨e, he, rfl⟩ := List.mem_map.1 ((hku.all q).1 hq)
    exact ⟨hgood e he, e.2, he⟩
  refine Cd_dec (fun hlt => ?_) (fun hge => ?_)
  · have hik : i < ks.length := by omega
    have hki : ks[i]? = some ks[i] := List.getElem?_eq_getElem hik
    have hkli := hkk _ (List.getElem_mem hik)
    obtain ⟨hg, v, hv⟩ := key_good _ (List.getElem_mem hik)
    -- the end of a step
    have fin : ∀ w4, Ex w' w4 → culletlaw12_view.j2 (fun en w' => en = Ending.returned (.bool true) ∧ Ex w w') k (some ⟨tb, 0, none⟩) a2 a3 (i : Int) (ks.length : Int) (i : Int) false w4 := by
      intro w4 hx4
      have k4 := hx.trans hx4
      unfold culletlaw12_view.j2
      refine Cd_f ?_
      refine Pu_idx (r1.ex k4) tII sII (by omega) (by omega) fun a x hx1 hc1 _ => ?_
      refine Rd_one (c := .sl) (x := x) oII hc1 ?_
      rw [Int.toNat_natCast] at hx1
      obtain ⟨hxr, _⟩ := r4 i x _ hx1 hki
      refine Cl_sl (copyKey_sl x ks[i] w4 (hxr.ex k4) (by omega)) fun s5 w5 ho5 hx5 => ?_
      have k5 := k4.trans hx5
      refine Calls.mono (peek_ok (h.ex (k3.trans k5)) s5 ks[i] ho5.rds (by omega)) ?_
      rintro en w6 ⟨hx6, (⟨hno, rfl⟩ | ⟨v2, hv2, s6, rfl, _⟩)⟩
      · exact absurd rfl (hno _ hv)
      · refine ⟨(s6, true, ()), rfl, Cd_f ?_⟩
        rw [wrap64 (x := (i : Int) + 1) (by omega) (by omega)]
        exact hk _ _ ⟨k5.trans hx6, rfl, rfl, rfl, rfl, i + 1, by omega, by simp⟩ (by simp only; omega)
    refine Held_ex ?_
    have hxd := hx.trans (Ex.drew w')
    refine Pu_idx (r1.ex hxd) tII sII (by omega) (by omega) fun a x hx1 hc1 _ => ?_
    refine RdS_one (c := .sl) (x := x) oII (fun v hv => hv.cell hc1) ?_
    rw [Int.toNat_natCast] at hx1
    obtain ⟨hxr, _⟩ := r4 i x _ hx1 hki
    refine Cl_gv (good_gv x ks[i] _ (hxr.ex hxd) (by omega)) fun w4 hx4 => ⟨hx4, ?_⟩
    rw [hg]
    refine Cd_f ?_
    have hx4' := (Ex.drew w').trans hx4
    refine Cd_dec (fun hpos => ?_) (fun _ => fin w4 hx4')
    have hxd4 := hx.trans hx4'
    have hpi : i - 1 < ks.length := by omega
    rw [wrap64 (x := (i : Int) - 1) (by omega) (by omega)]
    refine Pu_idxB (r1.ex hxd4) tII sII (by omega) (by omega) fun b2 y hb2 hy1 => ?_
    refine RdS_one (c := .sl) (x := y) oII (fun v hv => Rds.at (r1.ex (hxd.trans hv)) hb2 hy1) ?_
    refine Pu_idxB (r1.ex hxd4) tII sII (by omega) (by omega) fun b3 z hb3 hz1 => ?_
    refine RdS_one (c := .sl) (x := z) oII (fun v hv => Rds.at (r1.ex (hxd.trans hv)) hb3 hz1) ?_
    rw [show ((i : Int) - 1).toNat = i - 1 by omega] at hy1
    rw [Int.toNat_natCast] at hz1
    have hkp : ks[i - 1]? = some ks[i - 1] := List.getElem?_eq_getElem hpi
    have hklp := hkk _ (List.getElem_mem hpi)
    obtain ⟨hyr, _⟩ := r4 _ y _ hy1 hkp
    obtain ⟨hzr, _⟩ := r4 _ z _ hz1 hki
    refine Cl_gv (less_gv y z ks[i - 1] ks[i] w4 (hyr.ex hxd4) (hzr.ex hxd4) (by omega)) fun w5 hx5 => ⟨hx4.trans hx5, ?_⟩
    have hless : lessP ks[i - 1] ks[i] := List.pairwise_iff_getElem.1 hku.order (i - 1) i hpi hik (by omega)
    rw [(lessB_iff _ _).2 hless]
    exact fin w5 (hx4'.trans hx5)
  · have k4 := k3.trans hx
    have hn1' := hn1.nest.ex ((hx2.trans hx3).trans hx)
    have hsz1 := hx2.size
    refine Calls.mono (sorted_ok a2 (es.map (·.1)) w' hn1' (fun b hb => by have := hb.2; have := hx2.size; have := hx3.size; have := hx.size; omega) (by rw [List.length_map]; omega) (fun k hk => by have := hr4 k hk; omega)) ?_
    rintro en w4 ⟨s4, os, rfl, hn4, hos, hom, hx4⟩
    refine ⟨s4, rfl, ?_⟩
    have heq : os = ks := sorted_unique _ _ hos hku.order (fun x => by rw [hom, hku.all])
    subst heq
    have kle : RowsLe os := ⟨by omega, fun l hl => by have := hkk l hl; omega⟩
    have hn2'' := (hn2.nest.ex hx3).ex hx
    refine Cl_gv (sameKeys_gv s4 a3 os os _ _ w4 hn4 (hn2''.ex hx4) kle) fun w5 hx5 => ?_
    refine Cd_dec (fun _ => ?_) (fun h => absurd rfl h)
    have k5 := (k4.trans hx4).trans hx5
    refine Calls.mono (walked_ok (gives_some (h.ex k5))) ?_
    rintro en w6 ⟨s6, ks6, rfl, hn6, hk6, hl6, hkl6, hx6⟩
    refine ⟨s6, rfl, ?_⟩
    have heq6 : ks6 = os := sorted_unique _ _ hk6.order hku.order (fun x => by rw [hk6.all, hku.all])
    subst heq6
    refine Cl_gv (sameKeys_gv s6 a3 ks6 ks6 _ _ w6 hn6.nest (((hn2''.ex hx4).ex hx5).ex hx6) kle) fun w7 hx7 => ?_
    refine Cd_dec (fun _ => ?_) (fun h => absurd rfl h)
    have k7 := (k5.trans hx6).trans hx7
    refine Calls.mono (nodes_ok (h.ex k7)) ?_
    rintro en w8 ⟨L, hL, hLl, rfl, hx8⟩
    refine ⟨_, rfl, ?_⟩
    have k78 := (((hx4.trans hx5).trans hx6).trans hx7).trans hx8
    refine Cl_gv (beginnings_gv a3 ks6 w8 (hn2''.ex k78) hkl hkk) fun w9 hx9 => ?_
    have hbl := begun_len hku.order (hL.congr (fun x => (hku.all x).symm))
    refine Cd_eq (fun _ => ?_) (fun h => absurd (by rw [hbl]) h)
    have k9 := (k7.trans hx8).trans hx9
    refine Calls.mono (recent_ok (h.ex k9) hc) ?_
    rintro en w10 ⟨s10, rfl, hn10, hx10⟩
    refine ⟨s10, rfl, ?_⟩
    refine Cl_gv (sameKeys_gv s10 a2 (es.map (·.1)) (es.map (·.1)) _ _ w10 hn10.nest (((hn1'.ex k78).ex hx9).ex hx10) ⟨by rw [List.length_map]; omega, fun l hl => by have := hr4 l hl; omega⟩) fun w11 hx11 => ?_
    exact ⟨by simp, (k9.trans hx10).trans hx11⟩
end Go.Proofs.Ytdnlnloogfnlgaa
