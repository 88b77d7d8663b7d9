/- culletlaw12.TrieKeysMemory: every key is grown over. -/
import Derived.Test.YtdnlnloogfnlgaaTrKb
set_option linter.all false
namespace Go.Proofs.Ytdnlnloogfnlgaa
open Go Go.Cu Go.RowKit
set_option linter.unusedVariables false
set_option maxHeartbeats 4000000
def RowB (vs : List Iv) (b : Nat) : Prop := ∃ v ∈ vs, ∃ r ∈ v.ss, SlIn r b
section
variable {R : Ending → World → Prop} {t5 : Option Addr} {want order lists t115 : Sl} {t116 t117 : Int}
theorem keys_l7 {k5 : ((Option Addr) × Sl × Sl × Sl × Sl × Sl × Int × Int × Unit) → World → Prop} {k6 : ((Option Addr) × Sl × Sl × Sl × Sl × Int × Sl × Int × Int × Sl × Int × Int × Unit) → World → Prop} {vs : List Iv} {G : List (List (List Int))} {N j i B : Nat} {v : Iv} {g : List (List Int)} {l : List Int} {r tails t122 : Sl} {t123 : Int} {T : List Sl} {cs : List (List Int)} {w : World} {D : Nat → Prop}
    (hL : KLists w vs G) (hv : vs[j]? = some v) (hg : G[j]? = some g) (hr : v.ss[i]? = some r) (hl : g[i]? = some l) (htop : ∀ u ∈ vs, u.up ≤ N) (hN : N ≤ w.heap.size)
    (hval : Own slv 45 B w lists (vs.map (·.s))) (hval2 : ∀ b, SlIn lists b → b < N ∧ ¬ InIv vs b)
    (hT : KTails D N w tails T cs) (hD : ∀ b, D b → b < N ∧ ¬ SlIn r b) (hll : l.length ≤ 300) (hTl : T.length ≤ 8388608)
    (hK : ∀ w' tails' row, Mo (fun b => InIv vs b ∨ N ≤ b) w w' → KLists w' vs G → Own slv 45 B w' lists (vs.map (·.s)) → KTails (fun b => D b ∨ SlIn r b) N w' tails' (T ++ [row]) (cs ++ [l ++ List.replicate 20 (cN j i)]) →
      k6 (t5, want, order, lists, tails', (j : Int), t115, t116, t117, t122, t123, IntKind.wrap .i64 ((i : Int) + 1), ()) w') :
    culletlaw12_TrieKeysMemory.l7 R k5 k6 (t5, want, order, lists, tails, (j : Int), (i : Int), r, 0, t115, t116, t117, t122, t123, (i : Int), ()) w := by
  have hn := hL.each j v g hv hg
  have hrow0 := hn.row i r l hr hl
  have hvN := htop v (List.mem_of_getElem? hv)
  have hvl := hL.le v (List.mem_of_getElem? hv)
  have hrN : ∀ b, SlIn r b → v.lo ≤ b ∧ b < v.up := fun b hb => hn.low hr hb
  unfold culletlaw12_TrieKeysMemory.l7
  refine loopW_of (fun st w' => st.1 = t5 ∧ st.2.1 = want ∧ st.2.2.1 = order ∧ st.2.2.2.1 = lists ∧ st.2.2.2.2.1 = tails ∧ st.2.2.2.2.2.1 = (j : Int) ∧ st.2.2.2.2.2.2.1 = (i : Int) ∧ st.2.2.2.2.2.2.2.2.2.1 = t115 ∧ st.2.2.2.2.2.2.2.2.2.2.1 = t116 ∧ st.2.2.2.2.2.2.2.2.2.2.2.1 = t117 ∧ st.2.2.2.2.2.2.2.2.2.2.2.2.1 = t122 ∧ st.2.2.2.2.2.2.2.2.2.2.2.2.2.1 = t123 ∧ st.2.2.2.2.2.2.2.2.2.2.2.2.2.2.1 = (i : Int) ∧
      ∃ p : Nat, p ≤ 20 ∧ st.2.2.2.2.2.2.2.2.1 = (p : Int) ∧ Mo (SlIn r) w w' ∧ KLists w' vs G ∧ Own i64v 3 v.lo w' st.2.2.2.2.2.2.2.1 (l ++ List.replicate p (cN j i)) ∧ ∀ b, SlIn st.2.2.2.2.2.2.2.1 b → SlIn r b ∨ w.heap.size ≤ b) (fun st _ => 20 - st.2.2.2.2.2.2.2.2.1.toNat) ?_
    ⟨rfl, rfl, rfl, rfl, rfl, rfl, rfl, rfl, rfl, rfl, rfl, rfl, rfl, 0, by omega, rfl, Mo.refl _ _, hL, by simpa using hrow0, fun b hb => .inl hb⟩
  rintro k ⟨a1, a2, a3, a4, a5, a6, a7, row, p', a8, a9, a10, a11, a12, a13, u⟩ w1 hI hk
  dsimp only at hI hk ⊢
  obtain ⟨rfl, rfl, rfl, rfl, rfl, rfl, rfl, rfl, rfl, rfl, rfl, rfl, rfl, p, hp, rfl, hm, hL1, ho1, hb1⟩ := hI
  have hs1 := hm.size
  unfold culletlaw12_TrieKeysMemory.b7
  refine Cd_dec (fun hlt => ?_) (fun hge => ?_)
  · refine Wr_lit (f := i64v) (e := 3) (base := w1.heap.size) [cN j i] (by kernel_rfl) (Nat.le_refl _) (by simp) fun s2 w2 ho2 hx2 _ => ?_
    have hs2 := hx2.size
    refine Wr_append2 tI iI rfl (ho1.ex hx2) ho2.rds (fun y => rfl) (by simp; omega) (by simp; omega) (by omega) fun row2 w3 ho3 hm3 hin3 hor3 => ?_
    have hL3 := (hL1.ex hx2).grow (M := N) hv hg hr hl htop (ho1.ex hx2) (by simp) (fun b hb => (hb1 b hb).imp id (fun h => by omega)) ho3 hm3 hor3
    rw [wrap64 (x := (p : Int) + 1) (by omega) (by omega)]
    refine hk _ _ ⟨rfl, rfl, rfl, rfl, rfl, rfl, rfl, rfl, rfl, rfl, rfl, rfl, rfl, p + 1, by omega, by dsimp only; omega, (hm.ex hx2).trans hm3 (fun _ => id) (fun b hb hb2 => ?_), hL3, ?_, fun b hb => ?_⟩ (by simp only; omega)
    · rcases hb1 b hb2 with h | h
      · exact h
      · omega
    · rw [List.replicate_succ', ← List.append_assoc]; exact ho3
    · rcases hin3 b hb with h | h
      · exact hb1 b h
      · exact .inr (by omega)
  · obtain rfl : p = 20 := by omega
    refine Wr_lit (f := slv) (e := 29) (base := w1.heap.size) [row] (by kernel_rfl) (Nat.le_refl _) (by simp) fun s2 w2 ho2 hx2 _ => ?_
    have hs2 := hx2.size
    have hT2 : KTails D N w2 a5 T cs := hT.mo (hm.ex hx2) (fun b hb => (hD b hb).2) (fun b h1 h2 h3 => by have := hrN b h3; omega)
    refine Wr_append tII iII rfl hT2.out ho2.rds (fun y => rfl) (by simp; omega) (by simp; omega) (by omega) fun tails3 w3 ho3 hm3 hin3 => ?_
    have hs3 := hm3.size
    have htb : ∀ b, SlIn a5 b → N ≤ b ∧ b < w.heap.size := fun b hb => hT.out.base b hb
    have hro := ho1.ex hx2
    have hrowb := ho1.base
    refine hK w3 tails3 row (((hm.ex hx2).trans hm3 (Z := fun b => InIv vs b ∨ N ≤ b) (fun b hb => .inl (in_of hv (hrN b hb).1 (hrN b hb).2)) (fun b _ hb => .inr (htb b hb).1))) ((hL1.ex hx2).mo hm3 (fun b hb hb2 => ?_)) (((hval.mo hm (fun b hb hb2 => ?_)).ex hx2).mo hm3 (fun b hb hb2 => ?_)) ⟨ho3, by simp [hT.len], fun q s m hq hm' => ?_, fun q s b hq hb => ?_, fun q s b hq hb hb2 => ?_⟩
    · obtain ⟨u, hu, h1, h2⟩ := hb
      have := htop u hu
      have := htb b hb2
      omega
    · exact (hval2 b hb).2 (in_of hv (hrN b hb2).1 (hrN b hb2).2)
    · have := (hval2 b hb).1
      have := htb b hb2
      omega
    · rcases snoc_cases hq with ⟨hq, hlt⟩ | ⟨rfl, rfl⟩
      · rw [List.getElem?_append_left (by rw [← hT.len]; exact hlt)] at hm'
        exact (hT2.row q s m hq hm').mo hm3 (fun a ha hb => hT2.sep q s _ hq (slin_of ha) hb)
      · rw [hT.len, List.getElem?_append_right (Nat.le_refl _), Nat.sub_self] at hm'
        cases hm'
        refine hro.rds.mo hm3 (fun a ha hb => ?_)
        have h5 := htb _ hb
        rcases hb1 _ (slin_of ha) with h | h
        · have := hrN _ h
          omega
        · omega
    · rcases snoc_cases hq with ⟨hq, hlt⟩ | ⟨rfl, rfl⟩
      · rcases hT2.blk q s b hq hb with h | h
        · exact .inl (.inl h)
        · exact .inr ⟨h.1, by omega⟩
      · have h6 := hrowb b hb
        rcases hb1 b hb with h | h
        · exact .inl (.inr h)
        · exact .inr ⟨by omega, by omega⟩
    · rcases snoc_cases hq with ⟨hq, hlt⟩ | ⟨rfl, rfl⟩
      · rcases hin3 b hb2 with h | h
        · exact hT2.sep q s b hq hb h
        · rcases hT2.blk q s b hq hb with h2 | h2
          · have := (hD b h2).1
            omega
          · omega
      · have h6 := hrowb b hb
        rcases hin3 b hb2 with h | h
        · have h5 := htb b h
          rcases hb1 b hb with h | h
          · have := hrN b h
            omega
          · omega
        · omega
theorem keys_l6 {k5 : ((Option Addr) × Sl × Sl × Sl × Sl × Sl × Int × Int × Unit) → World → Prop} {vs : List Iv} {G : List (List (List Int))} {N j B : Nat} {v : Iv} {g : List (List Int)} {tails : Sl} {T : List Sl} {cs : List (List Int)} {w : World} {D : Nat → Prop}
    (hL : KLists w vs G) (hv : vs[j]? = some v) (hg : G[j]? = some g) (htop : ∀ u ∈ vs, u.up ≤ N) (hN : N ≤ w.heap.size)
    (hval : Own slv 45 B w lists (vs.map (·.s))) (hval2 : ∀ b, SlIn lists b → b < N ∧ ¬ InIv vs b)
    (hT : KTails D N w tails T cs) (hD : ∀ b, D b → b < N ∧ ¬ (v.lo ≤ b ∧ b < v.up)) (hll : g.length ≤ 1024 ∧ ∀ l ∈ g, l.length ≤ 300) (hTl : cs.length + g.length ≤ 8388608)
    (hK : ∀ w' tails' T', Mo (fun b => InIv vs b ∨ N ≤ b) w w' → KLists w' vs G → Own slv 45 B w' lists (vs.map (·.s)) → KTails (fun b => D b ∨ ∃ r ∈ v.ss, SlIn r b) N w' tails' T' (cs ++ tlK j g) →
      k5 (t5, want, order, lists, tails', t115, t116, IntKind.wrap .i64 (t117 + 1), ()) w') :
    culletlaw12_TrieKeysMemory.l6 R k5 (t5, want, order, lists, tails, (j : Int), t115, t116, t117, v.s, ((v.s.len : Nat) : Int), 0, ()) w := by
  have hn0 := hL.each j v g hv hg
  have hvN := htop v (List.mem_of_getElem? hv)
  have hvs : v.s.len = g.length := by rw [hn0.out.1, hn0.len]
  rw [hvs]
  unfold culletlaw12_TrieKeysMemory.l6
  refine loopW_of (fun st w' => st.1 = t5 ∧ st.2.1 = want ∧ st.2.2.1 = order ∧ st.2.2.2.1 = lists ∧ st.2.2.2.2.2.1 = (j : Int) ∧ st.2.2.2.2.2.2.1 = t115 ∧ st.2.2.2.2.2.2.2.1 = t116 ∧ st.2.2.2.2.2.2.2.2.1 = t117 ∧ st.2.2.2.2.2.2.2.2.2.1 = v.s ∧ st.2.2.2.2.2.2.2.2.2.2.1 = (g.length : Int) ∧
      ∃ i : Nat, i ≤ g.length ∧ st.2.2.2.2.2.2.2.2.2.2.2.1 = (i : Int) ∧ Mo (fun b => InIv vs b ∨ N ≤ b) w w' ∧ KLists w' vs G ∧ Own slv 45 B w' lists (vs.map (·.s)) ∧ ∃ T', KTails (fun b => D b ∨ ∃ (i' : Nat) (r : Sl), i' < i ∧ v.ss[i']? = some r ∧ SlIn r b) N w' st.2.2.2.2.1 T' (cs ++ (tlK j g).take i)) (fun st _ => g.length - st.2.2.2.2.2.2.2.2.2.2.2.1.toNat) ?_
    ⟨rfl, rfl, rfl, rfl, rfl, rfl, rfl, rfl, rfl, rfl, 0, Nat.zero_le _, rfl, Mo.refl _ _, hL, hval, T, by rw [List.take_zero, List.append_nil]; exact hT.weak (fun b hb => Or.inl hb)⟩
  rintro k ⟨a1, a2, a3, a4, tl, a5, a6, a7, a8, a9, a10, i', u⟩ w1 hI hk
  dsimp only at hI hk ⊢
  obtain ⟨rfl, rfl, rfl, rfl, rfl, rfl, rfl, rfl, rfl, rfl, i, hi, rfl, hm, hL1, hval1, T1, hT1⟩ := hI
  have hs1 := hm.size
  have hn := hL1.each j v g hv hg
  unfold culletlaw12_TrieKeysMemory.b6
  refine Cd_dec (fun hlt => ?_) (fun hge => ?_)
  · have hil : i < g.length := by omega
    have hl := List.getElem?_eq_getElem hil
    have hlen := hll.2 _ (List.getElem_mem hil)
    generalize g[i] = l at hl hlen
    refine Pu_idx hn.out.rds tII sII (by omega) (by have := hn.len; omega) fun a r hr hc _ => ?_
    rw [Int.toNat_natCast] at hr
    refine Rd_one (c := .sl) (x := r) oII hc ?_
    have hcl : (cs ++ (tlK j g).take i).length = cs.length + i := by rw [List.length_append, List.length_take, tlK_len]; omega
    refine keys_l7 (D := fun b => D b ∨ ∃ (i' : Nat) (r : Sl), i' < i ∧ v.ss[i']? = some r ∧ SlIn r b) hL1 hv hg hr hl htop (by omega) hval1 hval2 hT1 (fun b hb => ?_) hlen (by rw [hT1.len, hcl]; omega) fun w2 tails2 row2 hm2 hL2 hval2' hT2 => ?_
    · rcases hb with hb | ⟨i2, r2, h1, h2, h3⟩
      · exact ⟨(hD b hb).1, fun h => (hD b hb).2 (hn.low hr h)⟩
      · exact ⟨by have := hn.low h2 h3; omega, fun h => hn.apart i2 i r2 r b h2 hr (by omega) h3 h⟩
    · have hg1 := hll.1
      rw [wrap64 (x := (i : Int) + 1) (by omega) (by omega)]
      refine hk _ _ ⟨rfl, rfl, rfl, rfl, rfl, rfl, rfl, rfl, rfl, rfl, i + 1, by omega, by dsimp only; omega, hm.trans hm2 (fun _ => id) (fun _ _ => id), hL2, hval2', T1 ++ [row2], ?_⟩ (by simp only; omega)
      rw [tlK_next hl, ← List.append_assoc]
      exact hT2.weak (fun b hb => by
        rcases hb with (hb | ⟨i2, r2, h1, h2, h3⟩) | hb
        · exact .inl hb
        · exact .inr ⟨i2, r2, by omega, h2, h3⟩
        · exact .inr ⟨i, r, by omega, hr, hb⟩)
  · obtain rfl : i = g.length := by omega
    rw [List.take_of_length_le (by rw [tlK_len]; exact Nat.le_refl _)] at hT1
    exact hK _ _ _ hm hL1 hval1 (hT1.weak (fun b hb => by
      rcases hb with hb | ⟨i2, r2, h1, h2, h3⟩
      · exact .inl hb
      · exact .inr ⟨r2, List.mem_of_getElem? h2, h3⟩))
theorem keys_l5 {vs : List Iv} {G : List (List (List Int))} {N B : Nat} {w : World}
    (hL : KLists w vs G) (htop : ∀ u ∈ vs, u.up ≤ N) (hN : N ≤ w.heap.size)
    (hval : Own slv 45 B w lists (vs.map (·.s))) (hval2 : ∀ b, SlIn lists b → b < N ∧ ¬ InIv vs b) (hll : SmallK G) (hGl : G.length ≤ 8)
    (hK : ∀ w' tails' T', Mo (fun b => InIv vs b ∨ N ≤ b) w w' → KLists w' vs G → Own slv 45 B w' lists (vs.map (·.s)) → KTails (RowB vs) N w' tails' T' (tlKA G).flatten →
      culletlaw12_TrieKeysMemory.l8 R (t5, want, order, tails', 0, lists, ((lists.len : Nat) : Int), 0, ()) w') :
    culletlaw12_TrieKeysMemory.l5 R (t5, want, order, lists, nilS, lists, ((lists.len : Nat) : Int), 0, ()) w := by
  have hvl : lists.len = G.length := by rw [hval.1, List.length_map, hL.len]
  rw [hvl]
  unfold culletlaw12_TrieKeysMemory.l5
  refine loopW_of (fun st w' => st.1 = t5 ∧ st.2.1 = want ∧ st.2.2.1 = order ∧ st.2.2.2.1 = lists ∧ st.2.2.2.2.2.1 = lists ∧ st.2.2.2.2.2.2.1 = (G.length : Int) ∧
      ∃ j : Nat, j ≤ G.length ∧ st.2.2.2.2.2.2.2.1 = (j : Int) ∧ Mo (fun b => InIv vs b ∨ N ≤ b) w w' ∧ KLists w' vs G ∧ Own slv 45 B w' lists (vs.map (·.s)) ∧ ∃ T', KTails (fun b => ∃ (j' : Nat) (v : Iv), j' < j ∧ vs[j']? = some v ∧ ∃ r ∈ v.ss, SlIn r b) N w' st.2.2.2.2.1 T' ((tlKA G).take j).flatten) (fun st _ => G.length - st.2.2.2.2.2.2.2.1.toNat) ?_
    ⟨rfl, rfl, rfl, rfl, rfl, rfl, 0, Nat.zero_le _, rfl, Mo.refl _ _, hL, hval, [], KTails.nil _ _ _⟩
  rintro k ⟨a1, a2, a3, a4, tl, a5, a6, j', u⟩ w1 hI hk
  dsimp only at hI hk ⊢
  obtain ⟨rfl, rfl, rfl, h4, rfl, rfl, j, hj, rfl, hm, hL1, hval1, T1, hT1⟩ := hI
  subst h4
  have hs1 := hm.size
  unfold culletlaw12_TrieKeysMemory.b5
  refine Cd_dec (fun hlt => ?_) (fun hge => ?_)
  · have hjl : j < G.length := by omega
    have hg := List.getElem?_eq_getElem hjl
    have hlen := hll _ (List.getElem_mem hjl)
    generalize G[j] = g at hg hlen
    refine Pu_idx hval1.rds tIII sIII (by omega) (by rw [List.length_map, hL.len]; omega) fun a x hx hc _ => ?_
    rw [Int.toNat_natCast, List.getElem?_map] at hx
    obtain ⟨v, hv, rfl⟩ := Option.map_eq_some_iff.1 hx
    refine Rd_one (c := .sl) (x := v.s) oIII hc ?_
    have hcl := tlKA_few hll hGl j
    refine keys_l6 hL1 hv hg htop (by omega) hval1 hval2 hT1 (fun b hb => ?_) hlen (by have := hlen.1; omega) fun w2 tails2 T2 hm2 hL2 hval2' hT2 => ?_
    · obtain ⟨j2, v2, h1, h2, r, hr, h4⟩ := hb
      have h5 := hL.apart j2 j v2 v h2 hv (by omega)
      have h6 := htop v2 (List.mem_of_getElem? h2)
      obtain ⟨i2, hi2⟩ := List.mem_iff_getElem?.1 hr
      obtain ⟨g2, hg2⟩ : ∃ g2, G[j2]? = some g2 := ⟨_, List.getElem?_eq_getElem (by omega)⟩
      have h7 := (hL1.each j2 v2 g2 h2 hg2).low hi2 h4
      exact ⟨by omega, by omega⟩
    · rw [wrap64 (x := (j : Int) + 1) (by omega) (by omega)]
      refine hk _ _ ⟨rfl, rfl, rfl, rfl, rfl, rfl, j + 1, by omega, by dsimp only; omega, hm.trans hm2 (fun _ => id) (fun _ _ => id), hL2, hval2', T2, ?_⟩ (by simp only; omega)
      rw [tlKA_next hg]
      exact hT2.weak (fun b hb => by
        rcases hb with ⟨j2, v2, h1, h2, h3⟩ | hb
        · exact ⟨j2, v2, by omega, h2, h3⟩
        · exact ⟨j, v, by omega, hv, hb⟩)
  · obtain rfl : j = G.length := by omega
    rw [List.take_of_length_le (by simp [tlKA])] at hT1
    exact hK _ _ _ hm hL1 hval1 (hT1.weak fun b ⟨j2, v2, h1, h2, h3⟩ => ⟨v2, List.mem_of_getElem? h2, h3⟩)
end
end Go.Proofs.Ytdnlnloogfnlgaa
