/- The document's Sorted. -/
import Derived.Test.YtdnlnloogfnlgaaTrOc
import Derived.Test.YtdnlnloogfnlgaaSetLib
set_option linter.all false
namespace Go.Proofs.Ytdnlnloogfnlgaa
open Go Go.Cu Go.RowKit
set_option linter.unusedVariables false
set_option maxHeartbeats 4000000
theorem ins_get {α : Type} {l : List α} {x : α} {a : Nat} (i : Nat) (h : a ≤ l.length) : (l.take a ++ x :: l.drop a)[i]? = if i < a then l[i]? else if i = a then some x else l[i - 1]? := by
  have hl : (l.take a).length = a := by rw [List.length_take]; omega
  by_cases h1 : i < a
  · rw [if_pos h1, List.getElem?_append_left (by omega), List.getElem?_take, if_pos h1]
  · rw [if_neg h1, List.getElem?_append_right (by omega), hl]
    by_cases h2 : i = a
    · rw [if_pos h2, h2, Nat.sub_self]; rfl
    · rw [if_neg h2, show i - a = (i - 1 - a) + 1 by omega, List.getElem?_cons_succ, List.getElem?_drop]
      congr 1; omega
theorem ins_set {α : Type} {l : List α} {x z : α} {j : Nat} (h : j ≤ l.length) : (l.take j ++ z :: l.drop j).set j x = l.take j ++ x :: l.drop j := by
  have hl : (l.take j).length = j := by rw [List.length_take]; omega
  rw [List.set_append, if_neg (by omega), hl, Nat.sub_self]; rfl
theorem ins_step {α : Type} {l : List α} {x : α} {j : Nat} (hj : 0 < j) (h : l[j - 1]? = some x) : l.take j ++ x :: l.drop j = l.take (j - 1) ++ x :: l.drop (j - 1) := by
  obtain ⟨hlt, he⟩ := List.getElem?_eq_some_iff.1 h
  obtain ⟨m, rfl⟩ : ∃ m, j = m + 1 := ⟨j - 1, by omega⟩
  rw [Nat.add_sub_cancel] at h
  have hlt : m < l.length := hlt
  have he : l[m] = x := he
  have e1 : l.drop m = x :: l.drop (m + 1) := by rw [List.drop_eq_getElem_cons hlt, he]
  rw [Nat.add_sub_cancel, e1, List.take_add_one, h]
  simp
def SrtAt (base : Nat) (w : World) (s : Sl) (os : List Path) : Prop :=
  ∃ ss : List Sl, Own slv 29 base w s ss ∧ ss.length = os.length ∧ ∀ (i : Nat) (s' : Sl) (l : Path), ss[i]? = some s' → os[i]? = some l → Rds i64v w s' l ∧ ∀ a, s'.base = some a → base ≤ a.block ∧ a.block < w.heap.size ∧ ¬ SlIn s a.block
theorem SrtAt.ex {base : Nat} {w w' : World} {s : Sl} {os : List Path} (h : SrtAt base w s os) (k : Ex w w') : SrtAt base w' s os := by
  obtain ⟨ss, h1, h2, h3⟩ := h
  exact ⟨ss, h1.ex k, h2, fun i s' l a b => ⟨(h3 i s' l a b).1.ex k, fun c d => ⟨((h3 i s' l a b).2 c d).1, Nat.lt_of_lt_of_le ((h3 i s' l a b).2 c d).2.1 k.size, ((h3 i s' l a b).2 c d).2.2⟩⟩⟩
theorem SrtAt.nil (base : Nat) (w : World) : SrtAt base w nilS [] := ⟨[], Own.nil _ _ _ _, rfl, fun i s' l h => by simp at h⟩
theorem SrtAt.len {base : Nat} {w : World} {s : Sl} {os : List Path} (h : SrtAt base w s os) : s.len = os.length := by obtain ⟨ss, h1, h2, _⟩ := h; rw [h1.1, h2]
theorem SrtAt.nest {base : Nat} {w : World} {s : Sl} {os : List Path} (h : SrtAt base w s os) : Nest i64v (fun b => base ≤ b ∧ b < w.heap.size) w s os := by
  obtain ⟨ss, h1, h2, h3⟩ := h
  exact ⟨ss, h1.rds, h2, fun a ha => h1.base _ (slin_of ha), fun i s' l a b => ⟨(h3 i s' l a b).1, fun c d => ⟨((h3 i s' l a b).2 c d).1, ((h3 i s' l a b).2 c d).2.1⟩⟩⟩
theorem sorted_l3 {R : Ending → World → Prop} {k1 : (Sl × Sl × Int × Int × Unit) → World → Prop} {base : Nat} {w1 : World} {out kS t8 : Sl} {ss : List Sl} {os : List Path} {key : Path} {at_ : Nat} {t9 t10 : Int}
    (hbase : base ≤ w1.heap.size) (ho : Own slv 29 base w1 out (ss ++ [nilS])) (hl : ss.length = os.length) (hrows : ∀ (i : Nat) (s' : Sl) (l : Path), ss[i]? = some s' → os[i]? = some l → Rds i64v w1 s' l ∧ ∀ a, s'.base = some a → base ≤ a.block ∧ a.block < w1.heap.size ∧ ¬ SlIn out a.block)
    (hkey : Rds i64v w1 kS key) (hkb : ∀ a, kS.base = some a → ¬ SlIn out a.block) (hat : at_ ≤ ss.length) (hlen : ss.length ≤ 1024) (hkl : key.length ≤ 300)
    (hK : ∀ w', Mo (SlIn out) w1 w' → SrtAt base w' out (os.take at_ ++ key :: os.drop at_) → k1 (out, t8, t9, IntKind.wrap .i64 (t10 + 1), ()) w') :
    culletref12_Sorted.l3 R k1 (out, kS, (at_ : Int), IntKind.wrap .i64 (((out.len : Nat) : Int) - 1), t8, t9, t10, ()) w1 := by
  have hol : out.len = ss.length + 1 := by rw [ho.1]; simp
  unfold culletref12_Sorted.l3
  refine loopW_of (fun st w' => Mo (SlIn out) w1 w' ∧ st.1 = out ∧ st.2.1 = kS ∧ st.2.2.1 = (at_ : Int) ∧ st.2.2.2.2.1 = t8 ∧ st.2.2.2.2.2.1 = t9 ∧ st.2.2.2.2.2.2.1 = t10 ∧ ∃ (j : Nat) (z : Sl), at_ ≤ j ∧ j ≤ ss.length ∧ st.2.2.2.1 = (j : Int) ∧ Own slv 29 base w' out (ss.take j ++ z :: ss.drop j)) (fun st _ => st.2.2.2.1.toNat) ?_
    ⟨Mo.refl _ _, rfl, rfl, rfl, rfl, rfl, rfl, ss.length, nilS, hat, Nat.le_refl _, ?_, by rw [List.take_length, List.drop_length]; exact ho⟩
  rotate_left
  · rw [hol, wrap64 (by omega) (by omega)]; dsimp only; omega
  rintro k ⟨a1, a2, a3, j', a4, a5, a6, u⟩ w' hI hk
  dsimp only at hI hk ⊢
  obtain ⟨hm, rfl, rfl, rfl, rfl, rfl, rfl, j, z, haj, hjl, rfl, ho'⟩ := hI
  unfold culletref12_Sorted.b3
  have hclen : (ss.take j ++ z :: ss.drop j).length = ss.length + 1 := by simp [List.length_take, List.length_drop]; omega
  refine Cd_dec (fun hgt => ?_) (fun hle => ?_)
  · rw [wrap64 (x := (j : Int) - 1) (by omega) (by omega)]
    refine Pu_idx ho'.rds tII sII (by omega) (by rw [hclen]; omega) fun a x hx1 hc1 _ => ?_
    refine Rd_one (c := .sl) (x := x) oII hc1 ?_
    rw [show ((j : Int) - 1).toNat = j - 1 by omega, ins_get _ hjl, if_pos (by omega)] at hx1
    refine Wu_set (f := slv) (x := x) ho' (by rw [hclen]; omega) tII sII sII rfl rfl fun w2 ho2 hm2 => ?_
    rw [ins_set hjl, ins_step (by omega) hx1] at ho2
    refine hk _ _ ⟨hm.trans hm2 (fun _ => id) (fun _ _ => id), rfl, rfl, rfl, rfl, rfl, rfl, j - 1, x, by omega, by omega, by dsimp only; omega, ho2⟩ (by simp only; omega)
  · obtain rfl : j = at_ := by omega
    refine Cl_sl (copyKey_sl a2 key w' (hkey.mo hm hkb) (by omega)) fun s2 w2 ho2 hx2 => ?_
    refine Wu_set (f := slv) (x := s2) (ho'.ex hx2) (by rw [hclen]; omega) tII sII sII rfl rfl fun w3 ho3 hm3 => ?_
    rw [ins_set hjl] at ho3
    unfold culletref12_Sorted.j1
    have hm13 : Mo (SlIn a1) w1 w3 := (hm.ex hx2).trans hm3 (fun _ => id) (fun _ _ => id)
    have hout : ∀ b, SlIn a1 b → b < w'.heap.size := fun b hb => (ho'.base b hb).2
    have hs2 := hm.size
    have hs3 := hx2.size
    have hs4 := hm3.size
    refine hK w3 hm13 ⟨_, ho3, by simp [List.length_take, List.length_drop]; omega, fun i s' l hi hl' => ?_⟩
    rw [ins_get _ hjl] at hi
    rw [ins_get _ (by omega)] at hl'
    have old : ∀ q, ss[q]? = some s' → os[q]? = some l → Rds i64v w3 s' l ∧ ∀ a, s'.base = some a → base ≤ a.block ∧ a.block < w3.heap.size ∧ ¬ SlIn a1 a.block := fun q hq hq' => by
      obtain ⟨r1, r2⟩ := hrows q s' l hq hq'
      exact ⟨r1.mo hm13 (fun a ha => (r2 a ha).2.2), fun a ha => ⟨(r2 a ha).1, by have := (r2 a ha).2.1; omega, (r2 a ha).2.2⟩⟩
    split at hi
    · rename_i h1
      rw [if_pos h1] at hl'
      exact old i hi hl'
    · rename_i h1
      rw [if_neg h1] at hl'
      split at hi
      · rename_i h2
        rw [if_pos h2] at hl'
        cases hi
        cases hl'
        have hnew : ∀ a, s2.base = some a → w'.heap.size ≤ a.block ∧ a.block < w2.heap.size := fun a ha => ho2.base _ (slin_of ha)
        exact ⟨ho2.rds.mo hm3 (fun a ha hb => by have := hnew a ha; have := hout _ hb; omega), fun a ha => ⟨by have := hnew a ha; omega, by have := hnew a ha; omega, fun hb => by have := hnew a ha; have := hout _ hb; omega⟩⟩
      · rename_i h2
        rw [if_neg h2] at hl'
        exact old _ hi hl'
theorem ins_sorted {os : List Path} {key : Path} {at_ : Nat} (hs : os.Pairwise lessP) (h1 : ∀ x ∈ os.drop at_, lessP key x) (h2 : ∀ x ∈ os.take at_, lessP x key) : (os.take at_ ++ key :: os.drop at_).Pairwise lessP := by
  have hs' := hs
  rw [← List.take_append_drop at_ os, List.pairwise_append] at hs'
  rw [List.pairwise_append, List.pairwise_cons]
  refine ⟨hs'.1, ⟨h1, hs'.2.1⟩, fun a ha b hb => ?_⟩
  rcases List.mem_cons.1 hb with rfl | hb
  · exact h2 a ha
  · exact hs'.2.2 a ha b hb
theorem ins_mem {os : List Path} {key x : Path} {at_ : Nat} : x ∈ os.take at_ ++ key :: os.drop at_ ↔ x ∈ os ∨ x = key := by
  have : x ∈ os ↔ x ∈ os.take at_ ∨ x ∈ os.drop at_ := by rw [← List.mem_append, List.take_append_drop]
  rw [this, List.mem_append, List.mem_cons]
  constructor
  · rintro (h | h | h)
    · exact .inl (.inl h)
    · exact .inr h
    · exact .inl (.inr h)
  · rintro ((h | h) | h)
    · exact .inl h
    · exact .inr (.inr h)
    · exact .inr (.inl h)
theorem sorted_ok {F : Nat → Prop} (s : Sl) (ks : List Path) (w : World) (h : Nest i64v F w s ks) (hF : ∀ b, F b → b < w.heap.size) (hl : ks.length ≤ 1024) (hkl : ∀ k ∈ ks, k.length ≤ 300) :
    Calls Try.prog 63 #[slv s] w fun en w' => ∃ s' os, en = .returned (slv s') ∧ Nest i64v (fun b => w.heap.size ≤ b ∧ b < w'.heap.size) w' s' os ∧ os.Pairwise lessP ∧ (∀ x, x ∈ os ↔ x ∈ ks) ∧ Ex w w' := by
  have hlen := nest_len h
  obtain ⟨rs, r1, r2, _, r4⟩ := h
  refine culletref12_Sorted.run _ s w ?_
  unfold culletref12_Sorted.M culletref12_Sorted.l1
  rw [hlen]
  refine loopW_of (fun st w' => Ex w w' ∧ st.2.1 = s ∧ st.2.2.1 = (ks.length : Int) ∧ ∃ (i : Nat) (os : List Path), i ≤ ks.length ∧ st.2.2.2.1 = (i : Int) ∧ SrtAt w.heap.size w' st.1 os ∧ os.length ≤ i ∧ os.Pairwise lessP ∧ ∀ x, x ∈ os ↔ x ∈ ks.take i) (fun st _ => ks.length - st.2.2.2.1.toNat) ?_
    ⟨Ex.refl w, rfl, rfl, 0, [], Nat.zero_le _, rfl, SrtAt.nil _ _, Nat.le_refl _, List.Pairwise.nil, by simp⟩
  rintro k ⟨out, s', n', i', u⟩ w' hI hk
  dsimp only at hI hk ⊢
  obtain ⟨hx, rfl, rfl, i, os, hi, rfl, hso, hol, hsort, hmem⟩ := hI
  unfold culletref12_Sorted.b1
  refine Cd_dec (fun hlt => ?_) (fun hge => ?_)
  rotate_left
  · have : i = ks.length := by omega
    subst this
    rw [List.take_length] at hmem
    exact ⟨out, os, rfl, hso.nest, hsort, hmem, hx⟩
  have hik : i < ks.length := by omega
  refine Pu_idx (r1.ex hx) tII sII (by omega) (by omega) fun a x hx1 hc1 _ => ?_
  refine Rd_one (c := .sl) (x := x) oII hc1 ?_
  rw [Int.toNat_natCast] at hx1
  have hki : ks[i]? = some ks[i] := List.getElem?_eq_getElem hik
  obtain ⟨hxr, hxb⟩ := r4 i x _ hx1 hki
  have hkli := hkl _ (List.getElem_mem hik)
  have htk : ks.take (i + 1) = ks.take i ++ [ks[i]] := by rw [List.take_add_one, hki]; rfl
  generalize hkey : ks[i] = key at *
  unfold culletref12_Sorted.l2
  refine loopW_of (fun st w2 => Ex w w2 ∧ st.1 = out ∧ st.2.1 = x ∧ st.2.2.2.1 = s' ∧ st.2.2.2.2.1 = (ks.length : Int) ∧ st.2.2.2.2.2.1 = (i : Int) ∧ SrtAt w.heap.size w2 out os ∧ ∃ p : Nat, p ≤ os.length ∧ st.2.2.1 = (p : Int) ∧ ∀ y ∈ os.drop p, lessP key y) (fun st _ => st.2.2.1.toNat) ?_
    ⟨hx, rfl, rfl, rfl, rfl, rfl, hso, os.length, Nat.le_refl _, by rw [hso.len], by rw [List.drop_length]; simp⟩
  rintro k2 ⟨o2, x2, p', s2, n2, i2, u2⟩ w2 hI2 hk2
  dsimp only at hI2 hk2 ⊢
  obtain ⟨hx2, rfl, rfl, rfl, rfl, rfl, hso2, p, hp, rfl, hdrop⟩ := hI2
  -- what is done once the place is found
  have j3f : ∀ (b : Bool) (w3 : World), Ex w2 w3 → (b = true → key ∈ os) → (b = false → ∀ y ∈ os.take p, lessP y key) → culletref12_Sorted.j3 (fun en w' => ∃ s' os, en = Ending.returned (slv s') ∧ Nest i64v (fun b => w.heap.size ≤ b ∧ b < w'.heap.size) w' s' os ∧ os.Pairwise lessP ∧ (∀ x, x ∈ os ↔ x ∈ ks) ∧ Ex w w') k o2 x2 (p : Int) s2 (ks.length : Int) (i : Int) b w3 := by
    intro b w3 hx3 hb1 hb2
    have k3 := hx2.trans hx3
    have hso3 := hso2.ex hx3
    unfold culletref12_Sorted.j3
    refine Cd_of (fun hb => ?_) (fun hb => ?_)
    · unfold culletref12_Sorted.j1
      rw [wrap64 (x := (i : Int) + 1) (by omega) (by omega)]
      refine hk _ _ ⟨k3, rfl, rfl, i + 1, os, by omega, by simp, hso3, by omega, hsort, fun y => ?_⟩ (by simp only; omega)
      rw [hmem, htk, List.mem_append, List.mem_singleton]
      constructor
      · exact .inl
      · rintro (h | rfl)
        · exact h
        · exact (hmem _).1 (hb1 hb)
    · refine Wr_lit (f := slv) (e := 29) (base := w3.heap.size) [nilS] (by kernel_rfl) (Nat.le_refl _) (by simp) fun s4 w4 ho4 hx4 _ => ?_
      obtain ⟨ss, q1, q2, q3⟩ := hso3
      have k4 := k3.trans hx4
      refine Wr_append tII iII rfl (q1.ex hx4) ho4.rds (fun y => rfl) (by simp; omega) (by simp; omega) k4.size fun s5 w5 ho5 hm5 hin5 => ?_
      have hq1 : ∀ b, SlIn o2 b → w.heap.size ≤ b := fun b hb => (q1.base b hb).1
      have k5 : Ex w w5 := k4.into hm5 hq1
      have hs4 := hx4.size
      have hs5 := hm5.size
      refine sorted_l3 (ss := ss) (os := os) (key := key) (at_ := p) k5.size ho5 q2 (fun j s' l hj hl' => ?_) (hxr.ex k5) (fun a ha hb => ?_) (by omega) (by omega) hkli (fun w6 hm6 hso6 => ?_)
      · obtain ⟨g1, g2⟩ := q3 j s' l hj hl'
        refine ⟨(g1.ex hx4).mo hm5 (fun a ha => (g2 a ha).2.2), fun a ha => ⟨(g2 a ha).1, by have := (g2 a ha).2.1; omega, fun hb => ?_⟩⟩
        rcases hin5 _ hb with g | g
        · exact (g2 a ha).2.2 g
        · have := (g2 a ha).2.1; omega
      · have := hF _ (hxb a ha); have := (ho5.base _ hb).1; omega
      · rw [wrap64 (x := (i : Int) + 1) (by omega) (by omega)]
        have k6 : Ex w w6 := k5.into hm6 (fun b hb => (ho5.base b hb).1)
        refine hk _ _ ⟨k6, rfl, rfl, i + 1, _, by omega, by simp, hso6, ?_, ins_sorted hsort hdrop (hb2 hb), fun y => ?_⟩ (by simp only; omega)
        · simp [List.length_take, List.length_drop]; omega
        · rw [ins_mem, htk, List.mem_append, List.mem_singleton, hmem]
  have hp1 : p - 1 < os.length ∨ p = 0 := by omega
  unfold culletref12_Sorted.b2
  refine Cd_dec (fun hgt => ?_) (fun hle => ?_)
  · obtain ⟨ss, q1, q2, q3⟩ := hso2
    rw [wrap64 (x := (p : Int) - 1) (by omega) (by omega)]
    refine Pu_idx q1.rds tII sII (by omega) (by omega) fun a3 y hy1 hc3 _ => ?_
    refine Rd_one (c := .sl) (x := y) oII hc3 ?_
    rw [show ((p : Int) - 1).toNat = p - 1 by omega] at hy1
    have hpl : p - 1 < os.length := by omega
    have hop : os[p - 1]? = some os[p - 1] := List.getElem?_eq_getElem hpl
    obtain ⟨g1, g2⟩ := q3 _ y _ hy1 hop
    have hdr : os.drop (p - 1) = os[p - 1] :: os.drop p := by
      rw [List.drop_eq_getElem_cons hpl, show p - 1 + 1 = p by omega]
    have htp : os.take p = os.take (p - 1) ++ [os[p - 1]] := by
      have := List.take_add_one (l := os) (i := p - 1)
      rw [show p - 1 + 1 = p by omega, hop] at this
      exact this
    refine Cl_gv (less_gv x2 y key os[p - 1] w2 (hxr.ex hx2) g1 (by omega)) fun w3 hx3 => ?_
    unfold culletref12_Sorted.j2
    refine Cd_of (fun hb => ?_) (fun hb => ?_)
    · rw [wrap64 (x := (p : Int) - 1) (by omega) (by omega)]
      refine hk2 _ _ ⟨hx2.trans hx3, rfl, rfl, rfl, rfl, rfl, SrtAt.ex ⟨ss, q1, q2, q3⟩ hx3, p - 1, by omega, by dsimp only; omega, fun z hz => ?_⟩ (by simp only; omega)
      rw [hdr, List.mem_cons] at hz
      rcases hz with rfl | hz
      · exact (lessB_iff _ _).1 hb
      · exact hdrop z hz
    · have hnl : ¬ lessP key os[p - 1] := fun h => by rw [(lessB_iff _ _).2 h] at hb; cases hb
      refine Cd_dec (fun _ => ?_) (fun h => absurd hgt h)
      rw [wrap64 (x := (p : Int) - 1) (by omega) (by omega)]
      refine Pu_idx (q1.ex hx3).rds tII sII (by omega) (by omega) fun a4 y4 hy4 hc4 _ => ?_
      refine Rd_one (c := .sl) (x := y4) oII hc4 ?_
      rw [show ((p : Int) - 1).toNat = p - 1 by omega, hy1] at hy4
      cases hy4
      refine Cl_gv (same_gv x2 y key os[p - 1] w3 (hxr.ex (hx2.trans hx3)) (g1.ex hx3) (by omega)) fun w4 hx4 => ?_
      refine j3f _ w4 (hx3.trans hx4) (fun hb => ?_) (fun hb z hz => ?_)
      · rw [of_decide_eq_true hb]; exact List.getElem_mem hpl
      · have hne := of_decide_eq_false hb
        have hlt := less_tri _ _ hnl hne
        rw [htp, List.mem_append, List.mem_singleton] at hz
        rcases hz with hz | rfl
        · have hs2 := hsort
          rw [← List.take_append_drop (p - 1) os, List.pairwise_append] at hs2
          exact less_trans _ _ _ (hs2.2.2 z hz _ (by rw [hdr]; exact List.mem_cons_self)) hlt
        · exact hlt
  · unfold culletref12_Sorted.j2
    refine Cd_f ?_
    refine Cd_dec (fun h => absurd h hle) (fun _ => j3f false w2 (Ex.refl _) (fun h => by cases h) (fun _ y hy => ?_))
    have : p = 0 := by omega
    subst this
    simp at hy
end Go.Proofs.Ytdnlnloogfnlgaa
