/- Lists of lists side by side, each row grown over: the loops. -/
import Derived.Test.YtdnlnloogfnlgaaTrMb
set_option linter.all false
namespace Go.Proofs.Ytdnlnloogfnlgaa
open Go Go.Cu Go.RowKit
set_option linter.unusedVariables false
set_option maxHeartbeats 2000000
def tlR (j : Nat) (g : List (List Int)) : List (List Int) := g.mapIdx fun i l => l ++ List.replicate 20 (cT j i)
def tlA (G : List (List (List Int))) : List (List (List Int)) := G.mapIdx tlR
theorem tlR_len (j : Nat) (g : List (List Int)) : (tlR j g).length = g.length := by simp [tlR]
theorem tlR_next {j i : Nat} {g : List (List Int)} {l : List Int} (h : g[i]? = some l) : (tlR j g).take (i + 1) = (tlR j g).take i ++ [l ++ List.replicate 20 (cT j i)] := by
  rw [List.take_add_one]
  unfold tlR
  rw [List.getElem?_mapIdx, h]
  rfl
theorem tlA_at {j : Nat} {G : List (List (List Int))} {g : List (List Int)} (h : G[j]? = some g) : (tlA G)[j]? = some (tlR j g) := by
  unfold tlA
  rw [List.getElem?_mapIdx, h]
  rfl
theorem tlA_next {j : Nat} {G : List (List (List Int))} {g : List (List Int)} (h : G[j]? = some g) : ((tlA G).take (j + 1)).flatten = ((tlA G).take j).flatten ++ tlR j g := by
  rw [List.take_add_one, tlA_at h]
  simp
theorem flat_at {α : Type} : ∀ (L : List (List α)) (j i : Nat) (g : List α), L[j]? = some g → i < g.length → L.flatten[(L.take j).flatten.length + i]? = g[i]?
  | [], j, i, g, h, _ => by simp at h
  | x :: L, 0, i, g, h, hi => by
    simp at h
    subst h
    simp [List.getElem?_append_left hi]
  | x :: L, j + 1, i, g, h, hi => by
    simp at h
    have := flat_at L j i g h hi
    simp only [List.flatten_cons, List.take_succ_cons, List.length_append]
    rw [List.getElem?_append_right (by omega), ← this]
    congr 1
    omega
theorem flat_few {α : Type} {B : Nat} : ∀ (L : List (List α)), (∀ l ∈ L, l.length ≤ B) → L.flatten.length ≤ L.length * B
  | [], _ => by simp
  | x :: L, h => by
    have h1 := h x (List.mem_cons_self ..)
    have h2 := flat_few L (fun l hl => h l (List.mem_cons_of_mem _ hl))
    rw [List.flatten_cons, List.length_append, List.length_cons, Nat.add_mul, Nat.one_mul]
    omega
theorem grown_l3 {R : Ending → World → Prop} {k2 : (Sl × Sl × Sl × Int × Int × Unit) → World → Prop} {vs : List Iv} {G : List (List (List Int))} {N j B : Nat} {v : Iv} {g : List (List Int)} {values tails t32 : Sl} {t33 t34 : Int} {T : List Sl} {cs : List (List Int)} {w : World} {D : Nat → Prop}
    (hL : Lists w vs G) (hv : vs[j]? = some v) (hg : G[j]? = some g) (htop : ∀ u ∈ vs, u.up ≤ N) (hN : N ≤ w.heap.size)
    (hval : Own slv 30 B w values (vs.map (·.s))) (hval2 : ∀ b, SlIn values b → b < N ∧ ¬ InIv vs b)
    (hT : Tails D N w tails T cs) (hD : ∀ b, D b → b < N ∧ ¬ (v.lo ≤ b ∧ b < v.up)) (hll : ∀ l ∈ g, l.length ≤ 140737488351232) (hTl : cs.length + g.length ≤ 8388608)
    (hK : ∀ w' tails' T', Mo (fun b => InIv vs b ∨ N ≤ b) w w' → Lists w' vs G → Own slv 30 B w' values (vs.map (·.s)) → Tails (fun b => D b ∨ v.lo ≤ b ∧ b < v.up) N w' tails' T' (cs ++ tlR j g) →
      k2 (values, tails', t32, t33, IntKind.wrap .i64 (t34 + 1), ()) w') :
    culletlaw12_grownOver.l3 R k2 (values, tails, (j : Int), t32, t33, t34, v.s, ((v.s.len : Nat) : Int), 0, ()) w := by
  have hn0 := hL.each j v g hv hg
  have hvN := htop v (List.mem_of_getElem? hv)
  have hvs : v.s.len = g.length := by rw [hn0.out.1, hn0.len]
  rw [hvs]
  unfold culletlaw12_grownOver.l3
  refine loopW_of (fun st w' => st.1 = values ∧ st.2.2.1 = (j : Int) ∧ st.2.2.2.1 = t32 ∧ st.2.2.2.2.1 = t33 ∧ st.2.2.2.2.2.1 = t34 ∧ st.2.2.2.2.2.2.1 = v.s ∧ st.2.2.2.2.2.2.2.1 = (g.length : Int) ∧
      ∃ i : Nat, i ≤ g.length ∧ st.2.2.2.2.2.2.2.2.1 = (i : Int) ∧ Mo (fun b => InIv vs b ∨ N ≤ b) w w' ∧ Lists w' vs G ∧ Own slv 30 B w' values (vs.map (·.s)) ∧ ∃ T', Tails (fun b => D b ∨ ∃ (i' : Nat) (r : Sl), i' < i ∧ v.ss[i']? = some r ∧ SlIn r b) N w' st.2.1 T' (cs ++ (tlR j g).take i)) (fun st _ => g.length - st.2.2.2.2.2.2.2.2.1.toNat) ?_
    ⟨rfl, rfl, rfl, rfl, rfl, rfl, rfl, 0, Nat.zero_le _, rfl, Mo.refl _ _, hL, hval, T, by rw [List.take_zero, List.append_nil]; exact hT.weak (fun b hb => Or.inl hb)⟩
  rintro k ⟨a1, tl, a2, a3, a4, a5, a6, a7, i', u⟩ w1 hI hk
  dsimp only at hI hk ⊢
  obtain ⟨rfl, rfl, rfl, rfl, rfl, rfl, rfl, i, hi, rfl, hm, hL1, hval1, T1, hT1⟩ := hI
  have hs1 := hm.size
  have hn := hL1.each j v g hv hg
  unfold culletlaw12_grownOver.b3
  refine Cd_dec (fun hlt => ?_) (fun hge => ?_)
  · have hil : i < g.length := by omega
    have hl := List.getElem?_eq_getElem hil
    have hlen := hll _ (List.getElem_mem hil)
    generalize g[i] = l at hl hlen
    refine Pu_idx hn.out.rds tBB sBB (by omega) (by have := hn.len; omega) fun a r hr hc _ => ?_
    rw [Int.toNat_natCast] at hr
    refine Rd_one (c := .sl) (x := r) oBB hc ?_
    have hcl : (cs ++ (tlR j g).take i).length = cs.length + i := by rw [List.length_append, List.length_take, tlR_len]; omega
    refine grown_l4 (D := fun b => D b ∨ ∃ (i' : Nat) (r : Sl), i' < i ∧ v.ss[i']? = some r ∧ SlIn r b) hL1 hv hg hr hl htop (by omega) hval1 hval2 hT1 (fun b hb => ?_) hlen (by rw [hT1.len, hcl]; omega) fun w2 tails2 row2 hm2 hL2 hval2' hT2 => ?_
    · rcases hb with hb | ⟨i2, r2, h1, h2, h3⟩
      · exact ⟨(hD b hb).1, fun h => (hD b hb).2 (hn.low hr h)⟩
      · exact ⟨by have := hn.low h2 h3; omega, fun h => hn.apart i2 i r2 r b h2 hr (by omega) h3 h⟩
    · rw [wrap64 (x := (i : Int) + 1) (by omega) (by omega)]
      refine hk _ _ ⟨rfl, rfl, rfl, rfl, rfl, rfl, rfl, i + 1, by omega, by dsimp only; omega, hm.trans hm2 (fun _ => id) (fun _ _ => id), hL2, hval2', T1 ++ [row2], ?_⟩ (by simp only; omega)
      rw [tlR_next hl, ← List.append_assoc]
      exact hT2.weak (fun b hb => by
        rcases hb with (hb | ⟨i2, r2, h1, h2, h3⟩) | hb
        · exact .inl hb
        · exact .inr ⟨i2, r2, by omega, h2, h3⟩
        · exact .inr ⟨i, r, by omega, hr, hb⟩)
  · obtain rfl : i = g.length := by omega
    rw [List.take_of_length_le (by rw [tlR_len]; exact Nat.le_refl _)] at hT1
    exact hK _ _ _ hm hL1 hval1 (hT1.weak (fun b hb => by
      rcases hb with hb | ⟨i2, r2, h1, h2, h3⟩
      · exact .inl hb
      · exact .inr (hn.low h2 h3)))
theorem grown_l2 {R : Ending → World → Prop} {vs : List Iv} {G : List (List (List Int))} {N B : Nat} {values : Sl} {w : World}
    (hL : Lists w vs G) (htop : ∀ u ∈ vs, u.up ≤ N) (hN : N ≤ w.heap.size)
    (hval : Own slv 30 B w values (vs.map (·.s))) (hval2 : ∀ b, SlIn values b → b < N ∧ ¬ InIv vs b)
    (hll : ∀ g ∈ G, g.length ≤ 1048576 ∧ ∀ l ∈ g, l.length ≤ 140737488351232) (hGl : G.length ≤ 7)
    (hK : ∀ w' tails' T', Mo (fun b => InIv vs b ∨ N ≤ b) w w' → Lists w' vs G → Own slv 30 B w' values (vs.map (·.s)) → Tails (fun _ => True) N w' tails' T' (tlA G).flatten →
      culletlaw12_grownOver.l5 R (tails', 0, values, ((values.len : Nat) : Int), 0, ()) w') :
    culletlaw12_grownOver.l2 R (values, nilS, values, ((values.len : Nat) : Int), 0, ()) w := by
  have hvl : values.len = G.length := by rw [hval.1, List.length_map, hL.len]
  rw [hvl]
  unfold culletlaw12_grownOver.l2
  refine loopW_of (fun st w' => st.1 = values ∧ st.2.2.1 = values ∧ st.2.2.2.1 = (G.length : Int) ∧
      ∃ j : Nat, j ≤ G.length ∧ st.2.2.2.2.1 = (j : Int) ∧ Mo (fun b => InIv vs b ∨ N ≤ b) w w' ∧ Lists w' vs G ∧ Own slv 30 B w' values (vs.map (·.s)) ∧ ∃ T', Tails (fun b => ∃ (j' : Nat) (v : Iv), j' < j ∧ vs[j']? = some v ∧ v.lo ≤ b ∧ b < v.up) N w' st.2.1 T' ((tlA G).take j).flatten) (fun st _ => G.length - st.2.2.2.2.1.toNat) ?_
    ⟨rfl, rfl, rfl, 0, Nat.zero_le _, rfl, Mo.refl _ _, hL, hval, [], Tails.nil _ _ _⟩
  rintro k ⟨a1, tl, a2, a3, j', u⟩ w1 hI hk
  dsimp only at hI hk ⊢
  obtain ⟨rfl, rfl, rfl, j, hj, rfl, hm, hL1, hval1, T1, hT1⟩ := hI
  have hs1 := hm.size
  unfold culletlaw12_grownOver.b2
  refine Cd_dec (fun hlt => ?_) (fun hge => ?_)
  · have hjl : j < G.length := by omega
    have hg := List.getElem?_eq_getElem hjl
    have hlen := hll _ (List.getElem_mem hjl)
    generalize G[j] = g at hg hlen
    refine Pu_idx hval1.rds tBBB sBBB (by omega) (by rw [List.length_map, hL.len]; omega) fun a x hx hc _ => ?_
    rw [Int.toNat_natCast, List.getElem?_map] at hx
    obtain ⟨v, hv, rfl⟩ := Option.map_eq_some_iff.1 hx
    refine Rd_one (c := .sl) (x := v.s) oBBB hc ?_
    have hcl : ((tlA G).take j).flatten.length ≤ 7340032 := by
      have h1 := flat_few (B := 1048576) ((tlA G).take j) (fun l hl => by
        obtain ⟨q, hq⟩ := List.mem_iff_getElem?.1 (List.mem_of_mem_take hl)
        unfold tlA at hq
        rw [List.getElem?_mapIdx] at hq
        obtain ⟨g2, hg2, rfl⟩ := Option.map_eq_some_iff.1 hq
        rw [tlR_len]
        exact (hll g2 (List.mem_of_getElem? hg2)).1)
      rw [List.length_take] at h1
      have : min j (tlA G).length * 1048576 ≤ 7 * 1048576 := Nat.mul_le_mul_right _ (by omega)
      omega
    refine grown_l3 hL1 hv hg htop (by omega) hval1 hval2 hT1 (fun b hb => ?_) hlen.2 (by have := hlen.1; omega) fun w2 tails2 T2 hm2 hL2 hval2' hT2 => ?_
    · obtain ⟨j2, v2, h1, h2, h3, h4⟩ := hb
      have h5 := hL.apart j2 j v2 v h2 hv (by omega)
      have h6 := htop v2 (List.mem_of_getElem? h2)
      exact ⟨by omega, by omega⟩
    · rw [wrap64 (x := (j : Int) + 1) (by omega) (by omega)]
      refine hk _ _ ⟨rfl, rfl, rfl, j + 1, by omega, by dsimp only; omega, hm.trans hm2 (fun _ => id) (fun _ _ => id), hL2, hval2', T2, ?_⟩ (by simp only; omega)
      rw [tlA_next hg]
      exact hT2.weak (fun b hb => by
        rcases hb with ⟨j2, v2, h1, h2, h3⟩ | hb
        · exact ⟨j2, v2, by omega, h2, h3⟩
        · exact ⟨j, v, by omega, hv, hb⟩)
  · obtain rfl : j = G.length := by omega
    rw [List.take_of_length_le (by simp [tlA])] at hT1
    exact hK _ _ _ hm hL1 hval1 (hT1.weak fun _ _ => trivial)
end Go.Proofs.Ytdnlnloogfnlgaa
