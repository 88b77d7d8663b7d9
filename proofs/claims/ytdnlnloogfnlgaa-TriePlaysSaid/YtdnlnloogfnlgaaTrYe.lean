/- TriePlays: the law's walk. -/
import Derived.Test.YtdnlnloogfnlgaaTrYd
set_option linter.all false
namespace Go.Proofs.Ytdnlnloogfnlgaa
open Go Go.Cu Go.RowKit
set_option linter.unusedVariables false
set_option maxHeartbeats 4000000
/-- one of the two pairs; X: the blocks that it owns -/
def Side (w w' : World) (X : Nat → Prop) (t : Option Addr) (r : Addr) (g : Int) (n : Int) : Prop :=
  g = 7 ∨ g = 0 ∧ ∃ own ro tb rb lim clock es s bk, t = some ⟨tb, 0, none⟩ ∧ r = ⟨rb, 0, none⟩ ∧ PSt own ro w' tb rb lim clock es s bk ∧ clock ≤ n ∧ ∀ b, PX own ro rb b → X b
theorem Side.mo {w w' w'' : World} {X Y : Nat → Prop} {t : Option Addr} {r : Addr} {g n m : Int} (h : Side w w' X t r g n) (k : Mo Y w' w'') (hx : ∀ b, X b → ¬ Y b) (hn : n ≤ m) : Side w w'' X t r g m := by
  rcases h with h | ⟨h, own, ro, tb, rb, lim, clock, es, s, bk, h1, h2, h3, h4, h5⟩
  · exact .inl h
  · exact .inr ⟨h, own, ro, tb, rb, lim, clock, es, s, bk, h1, h2, h3.mo k (fun b hb => hx b (h5 b hb)), by omega, h5⟩
/-- what New and the document's New lay, side by side -/
def Made (w w' : World) (t : Option Addr) (g : Int) (lim : Int) : Prop :=
  (g = 7 ∧ t = none) ∨ g = 0 ∧ ∃ own tb, t = some ⟨tb, 0, none⟩ ∧ TrieSt w' own tb lim [] 0 ∧ (∀ b, own b → w.heap.size ≤ b ∧ b < w'.heap.size)
theorem side_of {w w1 w2 w3 w' : World} {t : Option Addr} {g lim : Int} {rb : Nat} {s : Sl} (h : Made w w1 t g lim) (hx : Ex w1 w') (hB : Has w' rb [.int .i64 lim, slv nilS] 61) (hrb : w1.heap.size ≤ rb) :
    Side w w' (fun b => (w.heap.size ≤ b ∧ b < w1.heap.size) ∨ b = rb) t ⟨rb, 0, none⟩ g 0 := by
  rcases h with ⟨rfl, _⟩ | ⟨rfl, own, tb, rfl, hst, hown⟩
  · exact .inl rfl
  · refine .inr ⟨rfl, own, fun _ => False, tb, rb, lim, 0, [], nilS, [], rfl, rfl, ⟨hst.ex hx, ⟨hB, id, fun b hb => hb.elim, ⟨RdA.nil _ _, fun a ha => (by cases ha), by simp, by simp, by simp⟩, rfl⟩, fun b hb => ⟨id, fun e => by have := hown b hb; omega⟩⟩, Int.le_refl _, fun b hb => ?_⟩
    rcases hb with hb | hb | hb
    · exact .inl (hown b hb)
    · exact hb.elim
    · exact .inr hb
theorem plays_law (lim other : Int) (s : Sl) (os : List OpK) (w : World) (hs : Script w s os) : Gv Try.prog 8 #[.int .i64 lim, .int .i64 other, slv s] (.bool true) w := by
  obtain ⟨hra, hops, hsm⟩ := hs
  refine culletlaw12_TriePlays.run _ lim other s w ?_
  unfold culletlaw12_TriePlays.M
  refine Cl_gv (fixed_gv w) fun w0 hx0 => ?_
  refine Cd_f ?_
  -- New, twice
  have made : ∀ (lim : Int) (v : World), Calls Try.prog 11 #[.int .i64 lim] v fun en v' => ∃ t g, en = .returned (.tuple #[.pointer t, .int .i64 g]) ∧ Ex v v' ∧ Made v v' t g lim ∧ (g = 7 ↔ lim < 1 ∨ lim > 1024) ∧ t.isSome = (g == 0) := by
    intro lim v
    refine Calls.mono (new_ok lim v) ?_
    rintro en v' ⟨hx, (⟨hb, rfl⟩ | ⟨hb, tb, rfl, htb, hst⟩)⟩
    · exact ⟨none, 7, rfl, hx, .inl ⟨rfl, rfl⟩, ⟨fun _ => hb, fun _ => rfl⟩, rfl⟩
    · exact ⟨_, 0, rfl, hx, .inr ⟨rfl, _, tb, rfl, hst, fun b hb => hb⟩, ⟨fun h => by omega, fun h => absurd h hb⟩, rfl⟩
  have ref : ∀ (lim : Int) (v : World), Calls Try.prog 33 #[.int .i64 lim] v fun en v' => ∃ (x : RT) (g : Int), en = .returned (.tuple #[.agg (encAts rAts x).toArray, .int .i64 g]) ∧ Ex v v' ∧ (g = 7 ∨ g = 0 ∧ x = (lim, nilS, ())) ∧ (g = 7 ↔ lim < 1 ∨ lim > 1024) := by
    intro lim v
    refine Calls.mono (newR_ok lim v) ?_
    rintro en v' ⟨hx, (⟨hb, rfl⟩ | ⟨hb, rfl⟩)⟩
    · exact ⟨(0, nilS, ()), 7, rfl, hx, .inl rfl, ⟨fun _ => hb, fun _ => rfl⟩⟩
    · exact ⟨(lim, nilS, ()), 0, rfl, hx, .inr ⟨rfl, rfl⟩, ⟨fun h => by omega, fun h => absurd h hb⟩⟩
  refine Calls.mono (made lim w0) ?_
  rintro en w1 ⟨t, g, rfl, hx1, hm1, hg1, ht1⟩
  refine ⟨(t, g, ()), rfl, ?_⟩
  refine Calls.mono (made other w1) ?_
  rintro en w2 ⟨u, f, rfl, hx2, hm2, hg2, hu2⟩
  refine ⟨(u, f, ()), rfl, ?_⟩
  refine Calls.mono (ref lim w2) ?_
  rintro en w3 ⟨x3, g', rfl, hx3, hr3, hg3⟩
  refine ⟨(x3, g', ()), rfl, ?_⟩
  refine Wr_alloc (z := .agg (encAts rAts ((0, nilS, ()) : RT)).toArray) (by kernel_rfl) fun w4 hB4 hx4 => ?_
  refine Wu_store (v := .agg (encAts rAts x3).toArray) hB4 (by kernel_rfl) (ref_one _) (Nat.le_of_ble_eq_true (by kernel_rfl)) fun w5 hB5 hm5 => ?_
  have hx5 : Ex w3 w5 := hx4.into hm5 (fun i hi => by rw [hi]; exact Nat.le_refl _)
  refine Calls.mono (ref other w5) ?_
  rintro en w6 ⟨x6, f', rfl, hx6, hr6, hg6⟩
  refine ⟨(x6, f', ()), rfl, ?_⟩
  refine Wr_alloc (z := .agg (encAts rAts ((0, nilS, ()) : RT)).toArray) (by kernel_rfl) fun w7 hB7 hx7 => ?_
  refine Wu_store (v := .agg (encAts rAts x6).toArray) hB7 (by kernel_rfl) (ref_one _) (Nat.le_of_ble_eq_true (by kernel_rfl)) fun w8 hB8 hm8 => ?_
  have hx8 : Ex w6 w8 := hx7.into hm8 (fun i hi => by rw [hi]; exact Nat.le_refl _)
  have eg : g = g' := by
    rcases hr3 with h | ⟨h, _⟩ <;> rcases hm1 with ⟨h', _⟩ | ⟨h', _⟩ <;> omega
  have ef : f = f' := by
    rcases hr6 with h | ⟨h, _⟩ <;> rcases hm2 with ⟨h', _⟩ | ⟨h', _⟩ <;> omega
  subst eg ef
  refine Cd_ne (fun h => absurd rfl h) (fun _ => ?_)
  refine Cd_ne (fun h => absurd rfl h) (fun _ => ?_)
  refine Pu_nenil tT ?_
  rw [ht1]
  rw [show (!((g == 0) == (g == 0))) = false by simp]
  refine Cd_f ?_
  refine Pu_nenil tT ?_
  rw [hu2]
  rw [show (!((f == 0) == (f == 0))) = false by simp]
  unfold culletlaw12_TriePlays.j1
  refine Cd_f ?_
  have a0 := hx0.size
  have a1 := hx1.size
  have a2 := hx2.size
  have a3 := hx3.size
  have a5 := hx5.size
  have a6 := hx6.size
  have hk18 : Ex w1 w8 := (((hx2.trans hx3).trans hx5).trans hx6).trans hx8
  have hk28 : Ex w2 w8 := ((hx3.trans hx5).trans hx6).trans hx8
  have hr3lt : w3.heap.size < w5.heap.size := by
    have hB5' : Has w5 w3.heap.size (encAts rAts x3) 61 := hB5
    exact hB5'.lt
  have side1 : Side w0 w8 (fun b => (w0.heap.size ≤ b ∧ b < w1.heap.size) ∨ b = w3.heap.size) t ⟨w3.heap.size, 0, none⟩ g 0 := by
    rcases hr3 with h | ⟨h, rfl⟩
    · exact .inl h
    · have hB5' : Has w5 w3.heap.size [.int .i64 lim, slv nilS] 61 := hB5
      exact side_of (w2 := w0) (w3 := w0) (s := nilS) hm1 hk18 (hB5'.ex (hx6.trans hx8)) (by omega)
  have side2 : Side w1 w8 (fun b => (w1.heap.size ≤ b ∧ b < w2.heap.size) ∨ b = w6.heap.size) u ⟨w6.heap.size, 0, none⟩ f 0 := by
    rcases hr6 with h | ⟨h, rfl⟩
    · exact .inl h
    · have hB8' : Has w8 w6.heap.size [.int .i64 other, slv nilS] 61 := hB8
      exact side_of (w2 := w0) (w3 := w0) (s := nilS) hm2 hk28 hB8' (by omega)
  have hr6lt : w6.heap.size < w8.heap.size := by
    have hB8' : Has w8 w6.heap.size (encAts rAts x6) 61 := hB8
    exact hB8'.lt
  have k8 : Ex w w8 := ((hx0.trans hx1).trans hk18)
  unfold culletlaw12_TriePlays.l1
  have hlen : s.len = os.length := by rw [hra.1, List.length_map]
  dsimp only
  rw [hlen]
  refine loopW_of (fun st w' => st.1 = t ∧ st.2.1 = u ∧ st.2.2.1 = ⟨w3.heap.size, 0, none⟩ ∧ st.2.2.2.1 = g ∧ st.2.2.2.2.1 = ⟨w6.heap.size, 0, none⟩ ∧ st.2.2.2.2.2.1 = f ∧ st.2.2.2.2.2.2.1 = s ∧ st.2.2.2.2.2.2.2.1 = (os.length : Int) ∧ ∃ i : Nat, i ≤ os.length ∧ st.2.2.2.2.2.2.2.2.1 = (i : Int) ∧ Ex w w' ∧
      ∃ X1 X2 : Nat → Prop, Side w w' X1 t ⟨w3.heap.size, 0, none⟩ g i ∧ Side w w' X2 u ⟨w6.heap.size, 0, none⟩ f i ∧ (∀ b, X1 b → ¬ X2 b) ∧ (∀ b, X1 b → w.heap.size ≤ b ∧ b < w'.heap.size) ∧ ∀ b, X2 b → w.heap.size ≤ b ∧ b < w'.heap.size) (fun st _ => os.length - st.2.2.2.2.2.2.2.2.1.toNat) ?_
    ⟨rfl, rfl, rfl, rfl, rfl, rfl, rfl, rfl, 0, Nat.zero_le _, rfl, k8, _, _, side1, side2, fun b hb hb' => by omega, fun b hb => by omega, fun b hb => by omega⟩
  rintro k ⟨b1, b2, b3, b4, b5, b6, b7, b8, i', uu⟩ w' hI hk
  dsimp only at hI hk ⊢
  obtain ⟨rfl, rfl, rfl, rfl, rfl, rfl, rfl, rfl, i, hi, rfl, hx, X1, X2, hs1, hs2, hd12, hX1, hX2⟩ := hI
  unfold culletlaw12_TriePlays.b1
  refine Cd_dec (fun hlt => ?_) (fun hge => ⟨rfl, hx⟩)
  have hio : i < os.length := by omega
  refine Pu_idxA (hra.ex hx) tOps (by kernel_rfl) (by omega) (by rw [List.length_map]; omega) fun a ov hov hc hbk => ?_
  rw [Int.toNat_natCast, List.getElem?_map, List.getElem?_eq_getElem hio] at hov
  have hov : os[i].o = ov := by simpa using hov
  subst hov
  have hop := hops os[i] (List.getElem_mem hio)
  generalize os[i] = o at *
  refine Rd_agg (x := o.o) (by kernel_rfl) hc ?_
  refine Wr_alloc (z := .agg (encAts oAts ((0, 0, nilS, nilS, ()) : OpT)).toArray) (by kernel_rfl) fun v3 hB3 hv3 => ?_
  refine Wu_store (v := .agg (encAts oAts o.o).toArray) hB3 (by kernel_rfl) (op_one o.o) (Nat.le_of_ble_eq_true (by kernel_rfl)) fun v4 hB4' hmv4 => ?_
  have hB4 : Has v4 w'.heap.size (opV o.o) 32 := hB4'
  have hv4 : Ex w' v4 := hv3.into hmv4 (fun i hi => by rw [hi]; exact Nat.le_refl _)
  have hxv4 := hx.trans hv4
  have c4 := hv4.size
  have next : ∀ v X1' X2', Ex w v → Side w v X1' b1 ⟨w3.heap.size, 0, none⟩ b4 ((i : Int) + 1) → Side w v X2' b2 ⟨w6.heap.size, 0, none⟩ b6 ((i : Int) + 1) → (∀ b, X1' b → ¬ X2' b) → (∀ b, X1' b → w.heap.size ≤ b ∧ b < v.heap.size) → (∀ b, X2' b → w.heap.size ≤ b ∧ b < v.heap.size) →
      k (b1, b2, ⟨w3.heap.size, 0, none⟩, b4, ⟨w6.heap.size, 0, none⟩, b6, b7, (os.length : Int), IntKind.wrap .i64 ((i : Int) + 1), ()) v := by
    intro v X1' X2' n1 n2 n3 n4 n5 n6
    rw [wrap64 (x := (i : Int) + 1) (by omega) (by omega)]
    exact hk _ _ ⟨rfl, rfl, rfl, rfl, rfl, rfl, rfl, rfl, i + 1, by omega, by simp, n1, X1', X2', n2, n3, n4, n5, n6⟩ (by simp only; omega)
  have same : ∀ v, Ex v4 v → k (b1, b2, ⟨w3.heap.size, 0, none⟩, b4, ⟨w6.heap.size, 0, none⟩, b6, b7, (os.length : Int), IntKind.wrap .i64 ((i : Int) + 1), ()) v := by
    intro v hv
    have hwv := hv4.trans hv
    have c5 := hv.size
    exact next v X1 X2 (hxv4.trans hv) (hs1.mo hwv (fun _ _ => id) (by omega)) (hs2.mo hwv (fun _ _ => id) (by omega)) hd12 (fun b hb => by have := hX1 b hb; omega) (fun b hb => by have := hX2 b hb; omega)
  refine Rd_has (c := .int .i64) (x := o.o.2.1) hB4 (by kernel_rfl) rfl ?_
  unfold culletlaw12_TriePlays.j3 culletlaw12_TriePlays.j4 culletlaw12_TriePlays.j2
  refine Cd_eq (fun _ => ?_) (fun _ => ?_)
  · refine Cd_eq (fun hg0 => ?_) (fun _ => Cd_f (same v4 (Ex.refl _)))
    refine Rd_hasN (x := o.o) hB4 (by kernel_rfl) rfl ?_
    rcases hs1 with h | ⟨_, own, ro, tb, rb, lm, clock, es, s', bk, rfl, hrb, hp, hcl, hpx⟩
    · omega
    have hrb : w3.heap.size = rb := by injection hrb
    subst hrb
    refine Calls.mono (asked_ok (hp.ex hv4) (by omega) hxv4 (fun b hb => (hX1 b (hpx b hb)).1) hop) ?_
    rintro en v5 ⟨rfl, own', ro', c', es', s'', bk', n1, n2, n3, n4⟩
    refine ⟨true, rfl, Cd_f ?_⟩
    have c5 := n4.size
    refine next v5 (fun b => X1 b ∨ v4.heap.size ≤ b ∧ b < v5.heap.size) X2 (hxv4.into n4 (fun b hb => (hX1 b (hpx b hb)).1)) (.inr ⟨hg0, own', ro', tb, _, lm, c', es', s'', bk', rfl, rfl, n1, by omega, fun b hb => ?_⟩) ((hs2.mo hv4 (fun _ _ => id) (Int.le_refl _)).mo n4 (fun b hb hb' => hd12 b (hpx b hb') hb) (by omega)) (fun b hb hb' => ?_) (fun b hb => ?_) (fun b hb => by have := hX2 b hb; omega)
    · rcases n3 b hb with g' | g'
      · exact .inl (hpx b g')
      · exact .inr ⟨g', n1.low b hb⟩
    · rcases hb with hb | hb
      · exact hd12 b hb hb'
      · have := hX2 b hb'; omega
    · rcases hb with hb | hb
      · have := hX1 b hb; omega
      · have := hxv4.size; omega
  · refine Cd_eq (fun hg0 => ?_) (fun _ => Cd_f (same v4 (Ex.refl _)))
    refine Rd_hasN (x := o.o) hB4 (by kernel_rfl) rfl ?_
    rcases hs2 with h | ⟨_, own, ro, tb, rb, lm, clock, es, s', bk, rfl, hrb, hp, hcl, hpx⟩
    · omega
    have hrb : w6.heap.size = rb := by injection hrb
    subst hrb
    refine Calls.mono (asked_ok (hp.ex hv4) (by omega) hxv4 (fun b hb => (hX2 b (hpx b hb)).1) hop) ?_
    rintro en v5 ⟨rfl, own', ro', c', es', s'', bk', n1, n2, n3, n4⟩
    refine ⟨true, rfl, Cd_f ?_⟩
    have c5 := n4.size
    refine next v5 X1 (fun b => X2 b ∨ v4.heap.size ≤ b ∧ b < v5.heap.size) (hxv4.into n4 (fun b hb => (hX2 b (hpx b hb)).1)) ((hs1.mo hv4 (fun _ _ => id) (Int.le_refl _)).mo n4 (fun b hb hb' => hd12 b hb (hpx b hb')) (by omega)) (.inr ⟨hg0, own', ro', tb, _, lm, c', es', s'', bk', rfl, rfl, n1, by omega, fun b hb => ?_⟩) (fun b hb hb' => ?_) (fun b hb => by have := hX1 b hb; omega) (fun b hb => ?_)
    · rcases n3 b hb with g' | g'
      · exact .inl (hpx b g')
      · exact .inr ⟨g', n1.low b hb⟩
    · rcases hb' with hb' | hb'
      · exact hd12 b hb hb'
      · have := hX1 b hb; omega
    · rcases hb with hb | hb
      · have := hX2 b hb; omega
      · have := hxv4.size; omega
end Go.Proofs.Ytdnlnloogfnlgaa
