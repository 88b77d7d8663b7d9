/- culletlaw12.TrieKeysMemory: what is read afterwards, the outer lists emptied. -/
import Derived.Test.YtdnlnloogfnlgaaTrKc
set_option linter.all false
namespace Go.Proofs.Ytdnlnloogfnlgaa
open Go Go.Cu Go.RowKit
set_option linter.unusedVariables false
set_option maxHeartbeats 4000000
def OutB (vs : List Iv) (b : Nat) : Prop := ∃ v ∈ vs, SlIn v.s b
theorem KLists.outIn {w : World} {vs : List Iv} {G : List (List (List Int))} (h : KLists w vs G) {b : Nat} (hb : OutB vs b) : InIv vs b := by
  obtain ⟨v, hv, hb⟩ := hb
  obtain ⟨j, hj⟩ := List.mem_iff_getElem?.1 hv
  have hlen := h.len
  have hjl := (List.getElem?_eq_some_iff.1 hj).1
  have hn := h.each j v _ hj (List.getElem?_eq_getElem (by omega))
  exact ⟨v, hv, (hn.out.base b hb).1, hn.top b hb⟩
theorem KLists.rowOut {w : World} {vs : List Iv} {G : List (List (List Int))} (h : KLists w vs G) {j i : Nat} {v : Iv} {r : Sl} {b : Nat} (hv : vs[j]? = some v) (hr : v.ss[i]? = some r) (hb : SlIn r b) : ¬ OutB vs b := by
  rintro ⟨u, hu, hb2⟩
  obtain ⟨q, hq⟩ := List.mem_iff_getElem?.1 hu
  have hlen := h.len
  have hjl := (List.getElem?_eq_some_iff.1 hv).1
  have hql := (List.getElem?_eq_some_iff.1 hq).1
  have hn := h.each j v _ hv (List.getElem?_eq_getElem (by omega))
  have hn2 := h.each q u _ hq (List.getElem?_eq_getElem (by omega))
  by_cases hjq : j = q
  · subst hjq
    rw [hv] at hq
    cases hq
    exact hn.sep i r b hr hb hb2
  · have h1 := h.apart j q v u hv hq hjq
    have h2 := hn.low hr hb
    have h3 := (hn2.out.base b hb2).1
    have h4 := hn2.top b hb2
    omega
def keysRest (R : Ending → World → Prop) (t_5 : Option Addr) (want_11 order_12 : Sl) (w : World) : Prop :=
  (Cl Try.prog 23 #[(.pointer t_5)] (.one (.at .sl)) (fun (x88 : Sl) w89 =>
  Cl Try.prog 25 #[(.slice x88.base x88.len x88.cap), (.slice want_11.base want_11.len want_11.cap)] (.one (.at .bool)) (fun (x90 : Bool) w91 =>
  Cd x90 (Cl Try.prog 29 #[(.pointer t_5), (.slice none 0 0)] (.one (.at .sl)) (fun (x92 : Sl) w93 =>
  Cl Try.prog 25 #[(.slice x92.base x92.len x92.cap), (.slice order_12.base order_12.len order_12.cap)] (.one (.at .bool)) (fun (x94 : Bool) w95 =>
  Cd x94 (Cl Try.prog 31 #[(.pointer t_5)] (.one (.at .sl)) (fun (x96 : Sl) w97 =>
  Cl Try.prog 25 #[(.slice x96.base x96.len x96.cap), (.slice order_12.base order_12.len order_12.cap)] (.one (.at .bool)) (fun (x98 : Bool) w99 =>
  R (.returned (.bool x98)) w99) w97) w95) (R (.returned (.bool false)) w95)) w93) w91) (R (.returned (.bool false)) w91)) w89) w)
section
variable {R : Ending → World → Prop} {t5 : Option Addr} {want order tails t148 : Sl} {t149 t150 : Int}
theorem keys_l11 {k8 : ((Option Addr) × Sl × Sl × Sl × Int × Sl × Int × Int × Unit) → World → Prop} {k9 : ((Option Addr) × Sl × Sl × Sl × Int × Int × Sl × Sl × Int × Int × Sl × Int × Int × Unit) → World → Prop} {D : Nat → Prop} {N lo j i q : Nat} {list row t155 : Sl} {t156 : Int} {l : List Int} {out : List Sl} {T : List Sl} {cs : List (List Int)} {w : World}
    (hT : KTails D N w tails T cs) (hq : cs[q]? = some (l ++ List.replicate 20 (cN j i))) (hrl : row.len = l.length) (hll : l.length ≤ 300) (ho : Own slv 29 lo w list out) (hi : i < out.length)
    (hK : ∀ w', Own slv 29 lo w' list (out.set i nilS) → Mo (SlIn list) w w' → k9 (t5, want, order, tails, IntKind.wrap .i64 ((q : Int) + 1), (j : Int), list, t148, t149, t150, t155, t156, IntKind.wrap .i64 ((i : Int) + 1), ()) w') :
    culletlaw12_TrieKeysMemory.l11 R k8 k9 (t5, want, order, tails, (q : Int), (j : Int), list, (i : Int), row, 0, t148, t149, t150, t155, t156, (i : Int), ()) w := by
  unfold culletlaw12_TrieKeysMemory.l11
  refine loopW_of (fun st w' => w' = w ∧ st.1 = t5 ∧ st.2.1 = want ∧ st.2.2.1 = order ∧ st.2.2.2.1 = tails ∧ st.2.2.2.2.1 = (q : Int) ∧ st.2.2.2.2.2.1 = (j : Int) ∧ st.2.2.2.2.2.2.1 = list ∧ st.2.2.2.2.2.2.2.1 = (i : Int) ∧ st.2.2.2.2.2.2.2.2.1 = row ∧ st.2.2.2.2.2.2.2.2.2.2.1 = t148 ∧ st.2.2.2.2.2.2.2.2.2.2.2.1 = t149 ∧ st.2.2.2.2.2.2.2.2.2.2.2.2.1 = t150 ∧ st.2.2.2.2.2.2.2.2.2.2.2.2.2.1 = t155 ∧ st.2.2.2.2.2.2.2.2.2.2.2.2.2.2.1 = t156 ∧ st.2.2.2.2.2.2.2.2.2.2.2.2.2.2.2.1 = (i : Int) ∧
      ∃ p : Nat, p ≤ 20 ∧ st.2.2.2.2.2.2.2.2.2.1 = (p : Int)) (fun st _ => 20 - st.2.2.2.2.2.2.2.2.2.1.toNat) ?_
    ⟨rfl, rfl, rfl, rfl, rfl, rfl, rfl, rfl, rfl, rfl, rfl, rfl, rfl, rfl, rfl, rfl, 0, by omega, rfl⟩
  rintro k ⟨a1, a2, a3, a4, a5, a6, a7, a8, a9, p', a10, a11, a12, a13, a14, a15, u⟩ w1 hI hk
  dsimp only at hI hk ⊢
  obtain ⟨rfl, rfl, rfl, rfl, rfl, rfl, rfl, rfl, rfl, rfl, rfl, rfl, rfl, rfl, rfl, rfl, p, hp, rfl⟩ := hI
  unfold culletlaw12_TrieKeysMemory.b11
  have hqc := (List.getElem?_eq_some_iff.1 hq).1
  refine Cd_dec (fun hlt => ?_) (fun hge => ?_)
  · refine Pu_idx hT.out.rds tII sII (by omega) (by rw [hT.len]; omega) fun a t ht hc _ => ?_
    rw [Int.toNat_natCast] at ht
    refine Rd_one (c := .sl) (x := t) oII hc ?_
    have hrt := hT.row q t _ ht hq
    rw [hrl, wrap64 (x := ((l.length : Nat) : Int) + (p : Int)) (by omega) (by omega)]
    refine Pu_idx hrt tI sI (by omega) (by simp; omega) fun a2 x hx hc2 _ => ?_
    refine Rd_one (c := .int .i64) (x := x) oI hc2 ?_
    rw [show ((l.length : Int) + (p : Int)).toNat = l.length + p by omega, List.getElem?_append_right (by omega), List.getElem?_replicate, if_pos (by omega)] at hx
    cases hx
    refine Cd_ne (fun h => (h rfl).elim) (fun _ => ?_)
    rw [wrap64 (x := (p : Int) + 1) (by omega) (by omega)]
    exact hk _ _ ⟨rfl, rfl, rfl, rfl, rfl, rfl, rfl, rfl, rfl, rfl, rfl, rfl, rfl, rfl, rfl, rfl, p + 1, by omega, by dsimp only; omega⟩ (by simp only; omega)
  · refine Wu_set (f := slv) (x := nilS) ho hi tII sII sII rfl rfl fun w2 ho2 hm2 => ?_
    exact hK w2 ho2 hm2
theorem keys_l10 {k8 : ((Option Addr) × Sl × Sl × Sl × Int × Sl × Int × Int × Unit) → World → Prop} {k9 : ((Option Addr) × Sl × Sl × Sl × Int × Int × Sl × Sl × Int × Int × Sl × Int × Int × Unit) → World → Prop} {D : Nat → Prop} {N lo j i q : Nat} {list row t155 : Sl} {t156 : Int} {l : List Int} {out : List Sl} {T : List Sl} {cs : List (List Int)} {w : World}
    (hT : KTails D N w tails T cs) (hq : cs[q]? = some (l ++ List.replicate 20 (cN j i))) (hr : Rds i64v w row l) (hf : l = kk j i l.length) (hll : l.length ≤ 300) (ho : Own slv 29 lo w list out) (hi : i < out.length)
    (hK : ∀ w', Own slv 29 lo w' list (out.set i nilS) → Mo (SlIn list) w w' → k9 (t5, want, order, tails, IntKind.wrap .i64 ((q : Int) + 1), (j : Int), list, t148, t149, t150, t155, t156, IntKind.wrap .i64 ((i : Int) + 1), ()) w') :
    culletlaw12_TrieKeysMemory.l10 R k8 k9 (t5, want, order, tails, (q : Int), (j : Int), list, (i : Int), row, t148, t149, t150, t155, t156, (i : Int), ((row.len : Nat) : Int), 0, ()) w := by
  have hrl : row.len = l.length := hr.1
  rw [hrl]
  unfold culletlaw12_TrieKeysMemory.l10
  refine loopW_of (fun st w' => w' = w ∧ st.1 = t5 ∧ st.2.1 = want ∧ st.2.2.1 = order ∧ st.2.2.2.1 = tails ∧ st.2.2.2.2.1 = (q : Int) ∧ st.2.2.2.2.2.1 = (j : Int) ∧ st.2.2.2.2.2.2.1 = list ∧ st.2.2.2.2.2.2.2.1 = (i : Int) ∧ st.2.2.2.2.2.2.2.2.1 = row ∧ st.2.2.2.2.2.2.2.2.2.1 = t148 ∧ st.2.2.2.2.2.2.2.2.2.2.1 = t149 ∧ st.2.2.2.2.2.2.2.2.2.2.2.1 = t150 ∧ st.2.2.2.2.2.2.2.2.2.2.2.2.1 = t155 ∧ st.2.2.2.2.2.2.2.2.2.2.2.2.2.1 = t156 ∧ st.2.2.2.2.2.2.2.2.2.2.2.2.2.2.1 = (i : Int) ∧ st.2.2.2.2.2.2.2.2.2.2.2.2.2.2.2.1 = (l.length : Int) ∧
      ∃ p : Nat, p ≤ l.length ∧ st.2.2.2.2.2.2.2.2.2.2.2.2.2.2.2.2.1 = (p : Int)) (fun st _ => l.length - st.2.2.2.2.2.2.2.2.2.2.2.2.2.2.2.2.1.toNat) ?_
    ⟨rfl, rfl, rfl, rfl, rfl, rfl, rfl, rfl, rfl, rfl, rfl, rfl, rfl, rfl, rfl, rfl, rfl, 0, Nat.zero_le _, rfl⟩
  rintro k ⟨a1, a2, a3, a4, a5, a6, a7, a8, a9, a10, a11, a12, a13, a14, a15, a16, p', u⟩ w1 hI hk
  dsimp only at hI hk ⊢
  obtain ⟨rfl, rfl, rfl, rfl, rfl, rfl, rfl, rfl, rfl, rfl, rfl, rfl, rfl, rfl, rfl, rfl, rfl, p, hp, rfl⟩ := hI
  unfold culletlaw12_TrieKeysMemory.b10
  have hqc := (List.getElem?_eq_some_iff.1 hq).1
  refine Cd_dec (fun hlt => ?_) (fun hge => ?_)
  · refine Pu_idx hr tI sI (by omega) (by omega) fun a x hx hc _ => ?_
    refine Rd_one (c := .int .i64) (x := x) oI hc ?_
    rw [Int.toNat_natCast, hf, kk_at (by omega)] at hx
    cases hx
    refine Cd_ne (fun h => (h rfl).elim) (fun _ => ?_)
    refine Pu_idx hT.out.rds tII sII (by omega) (by rw [hT.len]; omega) fun a t ht hc _ => ?_
    rw [Int.toNat_natCast] at ht
    refine Rd_one (c := .sl) (x := t) oII hc ?_
    have hrt := hT.row q t _ ht hq
    have htl : t.len = l.length + 20 := by rw [hrt.1]; simp
    rw [htl, hrl, wrap64 (x := ((l.length : Nat) : Int) + 20) (by omega) (by omega)]
    unfold culletlaw12_TrieKeysMemory.j2
    refine Cd_ne (fun h => (h (by omega)).elim) (fun _ => ?_)
    rw [wrap64 (x := (p : Int) + 1) (by omega) (by omega)]
    exact hk _ _ ⟨rfl, rfl, rfl, rfl, rfl, rfl, rfl, rfl, rfl, rfl, rfl, rfl, rfl, rfl, rfl, rfl, rfl, p + 1, by omega, by dsimp only; omega⟩ (by simp only; omega)
  · exact keys_l11 hT hq hrl hll ho hi hK
theorem keys_l9 {k8 : ((Option Addr) × Sl × Sl × Sl × Int × Sl × Int × Int × Unit) → World → Prop} {D : Nat → Prop} {N lo j q : Nat} {list : Sl} {g : List (List Int)} {ss T : List Sl} {cs : List (List Int)} {w : World}
    (hT : KTails D N w tails T cs) (hD : ∀ b, D b → ¬ SlIn list b) (hDN : ∀ b, N ≤ b → ¬ SlIn list b) (hq : ∀ i, i < g.length → cs[q + i]? = (tlK j g)[i]?) (hql : q + g.length ≤ 8388608) (hsl : ss.length = g.length)
    (hrow : ∀ (i : Nat) (r : Sl) (l : List Int), ss[i]? = some r → g[i]? = some l → Rds i64v w r l ∧ (∀ a, r.base = some a → ¬ SlIn list a.block) ∧ l = kk j i l.length) (hll : g.length ≤ 1024 ∧ ∀ l ∈ g, l.length ≤ 300) (ho : Own slv 29 lo w list ss)
    (hK : ∀ w', Mo (SlIn list) w w' → k8 (t5, want, order, tails, ((q + g.length : Nat) : Int), t148, t149, IntKind.wrap .i64 (t150 + 1), ()) w') :
    culletlaw12_TrieKeysMemory.l9 R k8 (t5, want, order, tails, (q : Int), (j : Int), list, t148, t149, t150, list, ((list.len : Nat) : Int), 0, ()) w := by
  have hvs : list.len = g.length := by rw [ho.1, hsl]
  have hg1 := hll.1
  rw [hvs]
  unfold culletlaw12_TrieKeysMemory.l9
  refine loopW_of (fun st w' => st.1 = t5 ∧ st.2.1 = want ∧ st.2.2.1 = order ∧ st.2.2.2.1 = tails ∧ st.2.2.2.2.2.1 = (j : Int) ∧ st.2.2.2.2.2.2.1 = list ∧ st.2.2.2.2.2.2.2.1 = t148 ∧ st.2.2.2.2.2.2.2.2.1 = t149 ∧ st.2.2.2.2.2.2.2.2.2.1 = t150 ∧ st.2.2.2.2.2.2.2.2.2.2.1 = list ∧ st.2.2.2.2.2.2.2.2.2.2.2.1 = (g.length : Int) ∧
      ∃ i : Nat, i ≤ g.length ∧ st.2.2.2.2.2.2.2.2.2.2.2.2.1 = (i : Int) ∧ st.2.2.2.2.1 = ((q + i : Nat) : Int) ∧ Mo (SlIn list) w w' ∧ Own slv 29 lo w' list (List.replicate i nilS ++ ss.drop i)) (fun st _ => g.length - st.2.2.2.2.2.2.2.2.2.2.2.2.1.toNat) ?_
    ⟨rfl, rfl, rfl, rfl, rfl, rfl, rfl, rfl, rfl, rfl, rfl, 0, Nat.zero_le _, rfl, rfl, Mo.refl _ _, ho⟩
  rintro k ⟨a1, a2, a3, a4, at', a5, a6, a7, a8, a9, a10, a11, i', u⟩ w1 hI hk
  dsimp only at hI hk ⊢
  obtain ⟨rfl, rfl, rfl, rfl, rfl, h6, rfl, rfl, rfl, rfl, rfl, i, hi, rfl, rfl, hm, ho1⟩ := hI
  subst h6
  unfold culletlaw12_TrieKeysMemory.b9
  refine Cd_dec (fun hlt => ?_) (fun hge => ?_)
  · have hil : i < g.length := by omega
    have hl := List.getElem?_eq_getElem hil
    have hlen := hll.2 _ (List.getElem_mem hil)
    generalize g[i] = l at hl hlen
    refine Pu_idx ho1.rds tII sII (by omega) (by simp; omega) fun a r hr hc _ => ?_
    rw [Int.toNat_natCast, List.getElem?_append_right (by simp), List.length_replicate, Nat.sub_self, List.getElem?_drop, Nat.add_zero] at hr
    refine Rd_one (c := .sl) (x := r) oII hc ?_
    have hcs : cs[q + i]? = some (l ++ List.replicate 20 (cN j i)) := by
      rw [hq i hil]
      unfold tlK
      rw [List.getElem?_mapIdx, hl]
      rfl
    obtain ⟨r1, r2, r3⟩ := hrow i r l hr hl
    refine keys_l10 (q := q + i) (hT.mo hm hD (fun b hb _ => hDN b hb)) hcs (r1.mo hm r2) r3 hlen ho1 (by simp; omega) fun w2 ho2 hm2 => ?_
    rw [fill_step _ _ (by omega)] at ho2
    rw [wrap64 (x := (i : Int) + 1) (by omega) (by omega), wrap64 (x := ((q + i : Nat) : Int) + 1) (by omega) (by omega)]
    exact hk _ _ ⟨rfl, rfl, rfl, rfl, rfl, rfl, rfl, rfl, rfl, rfl, rfl, i + 1, by omega, by dsimp only; omega, by dsimp only; omega, hm.trans hm2 (fun _ => id) (fun _ _ => id), ho2⟩ (by simp only; omega)
  · obtain rfl : i = g.length := by omega
    exact hK w1 hm
theorem keys_l8 {vs : List Iv} {G : List (List (List Int))} {N B : Nat} {lists : Sl} {w : World} {T : List Sl}
    (hL : KLists w vs G) (htop : ∀ u ∈ vs, u.up ≤ N) (hval : Own slv 45 B w lists (vs.map (·.s))) (hval2 : ∀ b, SlIn lists b → ¬ InIv vs b) (hT : KTails (RowB vs) N w tails T (tlKA G).flatten) (hf : FilledK G) (hll : SmallK G) (hGl : G.length ≤ 8)
    (hK : ∀ w', Mo (InIv vs) w w' → keysRest R t5 want order w') :
    culletlaw12_TrieKeysMemory.l8 R (t5, want, order, tails, 0, lists, ((lists.len : Nat) : Int), 0, ()) w := by
  have hvl : lists.len = G.length := by rw [hval.1, List.length_map, hL.len]
  rw [hvl]
  unfold culletlaw12_TrieKeysMemory.l8
  refine loopW_of (fun st w' => st.1 = t5 ∧ st.2.1 = want ∧ st.2.2.1 = order ∧ st.2.2.2.1 = tails ∧ st.2.2.2.2.2.1 = lists ∧ st.2.2.2.2.2.2.1 = (G.length : Int) ∧ ∃ j : Nat, j ≤ G.length ∧ st.2.2.2.2.2.2.2.1 = (j : Int) ∧ st.2.2.2.2.1 = (((tlKA G).take j).flatten.length : Int) ∧ Mo (OutB vs) w w' ∧ ∀ (q : Nat) (v : Iv), j ≤ q → vs[q]? = some v → Own slv 29 v.lo w' v.s v.ss) (fun st _ => G.length - st.2.2.2.2.2.2.2.1.toNat) ?_
    ⟨rfl, rfl, rfl, rfl, rfl, rfl, 0, Nat.zero_le _, rfl, rfl, Mo.refl _ _, fun q v _ hv => (hL.each q v _ hv (List.getElem?_eq_getElem (by have := (List.getElem?_eq_some_iff.1 hv).1; have := hL.len; omega))).out⟩
  rintro k ⟨a1, a2, a3, a4, at', a5, a6, j', u⟩ w1 hI hk
  dsimp only at hI hk ⊢
  obtain ⟨rfl, rfl, rfl, rfl, rfl, rfl, j, hj, rfl, rfl, hm, hout⟩ := hI
  have hval1 := hval.mo hm (fun b hb hb2 => hval2 b hb (hL.outIn hb2))
  have hT1 : KTails (RowB vs) N w1 a4 T (tlKA G).flatten := hT.mo hm (fun b ⟨v, hv, r, hr, hb⟩ => by
    obtain ⟨q, hq⟩ := List.mem_iff_getElem?.1 hv
    obtain ⟨i, hi⟩ := List.mem_iff_getElem?.1 hr
    exact hL.rowOut hq hi hb) (fun b h1 _ h2 => by
    obtain ⟨v, hv, h3, h4⟩ := hL.outIn h2
    have := htop v hv
    omega)
  unfold culletlaw12_TrieKeysMemory.b8
  refine Cd_dec (fun hlt => ?_) (fun hge => ?_)
  · have hjl : j < G.length := by omega
    have hg := List.getElem?_eq_getElem hjl
    have hlen := hll _ (List.getElem_mem hjl)
    generalize G[j] = g at hg hlen
    refine Pu_idx hval1.rds tIII sIII (by omega) (by rw [List.length_map, hL.len]; omega) fun a x hx hc _ => ?_
    rw [Int.toNat_natCast, List.getElem?_map] at hx
    obtain ⟨v, hv, rfl⟩ := Option.map_eq_some_iff.1 hx
    refine Rd_one (c := .sl) (x := v.s) oIII hc ?_
    have hn := hL.each j v g hv hg
    have hcl := tlKA_few hll hGl j
    have hvm := List.mem_of_getElem? hv
    refine keys_l9 (g := g) (ss := v.ss) (lo := v.lo) hT1 (fun b ⟨u, hu, r, hr, hb⟩ hb2 => ?_) (fun b h1 h2 => ?_) (fun i hi => flat_at _ _ _ _ (tlKA_at hg) (by rw [tlK_len]; exact hi)) (by have := hlen.1; omega) hn.len (fun i r l hr hl => ⟨?_, fun a ha hb => hn.sep i r _ hr (slin_of ha) hb, hf j i g l hg hl⟩) hlen (hout j v (Nat.le_refl _) hv) fun w2 hm2 => ?_
    · obtain ⟨q, hq⟩ := List.mem_iff_getElem?.1 hu
      obtain ⟨i, hi⟩ := List.mem_iff_getElem?.1 hr
      exact hL.rowOut hq hi hb ⟨v, hvm, hb2⟩
    · have := hn.top b h2
      have := htop v hvm
      omega
    · exact (hn.row i r l hr hl).rds.mo hm (fun a ha hb => hL.rowOut hv hr (slin_of ha) hb)
    · rw [wrap64 (x := (j : Int) + 1) (by omega) (by omega)]
      refine hk _ _ ⟨rfl, rfl, rfl, rfl, rfl, rfl, j + 1, by omega, by dsimp only; omega, by dsimp only; rw [tlKA_next hg, List.length_append, tlK_len], hm.trans hm2 (fun _ => id) (fun b _ hb => ⟨v, hvm, hb⟩), fun q u hqj hu => ?_⟩ (by simp only; omega)
      refine (hout q u (by omega) hu).mo hm2 (fun b hb hb2 => ?_)
      have h1 := hL.apart j q v u hv hu (by omega)
      have h2 := hn.out.base b hb2
      have h3 := hn.top b hb2
      obtain ⟨gq, hgq⟩ : ∃ gq, G[q]? = some gq := ⟨_, List.getElem?_eq_getElem (by have := (List.getElem?_eq_some_iff.1 hu).1; have := hL.len; omega)⟩
      have hnu := hL.each q u gq hu hgq
      have h4 := hnu.out.base b hb
      have h5 := hnu.top b hb
      omega
  · exact hK w1 (hm.weak (fun b _ hb => hL.outIn hb))
end
end Go.Proofs.Ytdnlnloogfnlgaa
