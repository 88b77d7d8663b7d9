/- Lists of lists side by side, each row grown over: what is read afterwards. -/
import Derived.Test.YtdnlnloogfnlgaaTrMc
set_option linter.all false
namespace Go.Proofs.Ytdnlnloogfnlgaa
open Go Go.Cu Go.RowKit
set_option linter.unusedVariables false
set_option maxHeartbeats 2000000
def xJ (j : Nat) : Int := IntKind.wrap .u8 (IntKind.wrap .i64 (20 * (j : Int)))
def Filled (G : List (List (List Int))) : Prop := ∀ (j i : Nat) (g : List (List Int)) (l : List Int), G[j]? = some g → g[i]? = some l → l = List.replicate l.length (cellF (xJ j) i)
theorem grown_l8 {R : Ending → World → Prop} {k5 : (Sl × Int × Sl × Int × Int × Unit) → World → Prop} {k6 : (Sl × Int × Int × Sl × Int × Int × Sl × Int × Int × Unit) → World → Prop} {tails t t64 t71 : Sl} {at_ t65 t66 t72 t73 : Int} {j i : Nat} {l : List Int} {w : World}
    (hr : Rds b8 w t (l ++ List.replicate 20 (cT j i))) (hll : l.length ≤ 140737488351232) (hK : k6 (tails, at_, (j : Int), t64, t65, t66, t71, t72, IntKind.wrap .i64 (t73 + 1), ()) w) :
    culletlaw12_grownOver.l8 R k5 k6 (tails, at_, (j : Int), (i : Int), t, ((l.length : Nat) : Int), t64, t65, t66, t71, t72, t73, ()) w := by
  unfold culletlaw12_grownOver.l8
  refine loopW_of (fun st w' => w' = w ∧ st.1 = tails ∧ st.2.1 = at_ ∧ st.2.2.1 = (j : Int) ∧ st.2.2.2.1 = (i : Int) ∧ st.2.2.2.2.1 = t ∧ st.2.2.2.2.2.2.1 = t64 ∧ st.2.2.2.2.2.2.2.1 = t65 ∧ st.2.2.2.2.2.2.2.2.1 = t66 ∧ st.2.2.2.2.2.2.2.2.2.1 = t71 ∧ st.2.2.2.2.2.2.2.2.2.2.1 = t72 ∧ st.2.2.2.2.2.2.2.2.2.2.2.1 = t73 ∧
      ∃ p : Nat, l.length ≤ p ∧ p ≤ l.length + 20 ∧ st.2.2.2.2.2.1 = (p : Int)) (fun st _ => l.length + 20 - st.2.2.2.2.2.1.toNat) ?_
    ⟨rfl, rfl, rfl, rfl, rfl, rfl, rfl, rfl, rfl, rfl, rfl, rfl, l.length, Nat.le_refl _, by omega, rfl⟩
  rintro k ⟨a1, a2, a3, a4, a5, p', a6, a7, a8, a9, a10, a11, u⟩ w1 hI hk
  dsimp only at hI hk ⊢
  obtain ⟨rfl, rfl, rfl, rfl, rfl, rfl, rfl, rfl, rfl, rfl, rfl, rfl, p, hp1, hp2, rfl⟩ := hI
  have htl : a5.len = l.length + 20 := by rw [hr.1]; simp
  unfold culletlaw12_grownOver.b8
  refine Cd_dec (fun hlt => ?_) (fun hge => ?_)
  · refine Pu_idx hr tB sB (by omega) (by simp; omega) fun a x hx hc _ => ?_
    refine Rd_one (c := .int .u8) (x := x) oB hc ?_
    rw [Int.toNat_natCast, List.getElem?_append_right hp1, List.getElem?_replicate, if_pos (by omega)] at hx
    cases hx
    refine Cd_ne (fun h => (h rfl).elim) (fun _ => ?_)
    rw [wrap64 (x := (p : Int) + 1) (by omega) (by omega)]
    exact hk _ _ ⟨rfl, rfl, rfl, rfl, rfl, rfl, rfl, rfl, rfl, rfl, rfl, rfl, p + 1, by omega, by omega, by dsimp only; omega⟩ (by simp only; omega)
  · exact hK
theorem grown_l7 {R : Ending → World → Prop} {k5 : (Sl × Int × Sl × Int × Int × Unit) → World → Prop} {k6 : (Sl × Int × Int × Sl × Int × Int × Sl × Int × Int × Unit) → World → Prop} {N : Nat} {D : Nat → Prop} {tails row t64 t71 : Sl} {t65 t66 t72 t73 : Int} {j i q : Nat} {l : List Int} {w : World} {T : List Sl} {cs : List (List Int)}
    (hT : Tails D N w tails T cs) (hq : cs[q]? = some (l ++ List.replicate 20 (cT j i))) (hql : q ≤ 8388608) (hr : Rds b8 w row l) (hf : l = List.replicate l.length (cellF (xJ j) i)) (hll : l.length ≤ 140737488351232)
    (hK : k6 (tails, IntKind.wrap .i64 ((q : Int) + 1), (j : Int), t64, t65, t66, t71, t72, IntKind.wrap .i64 (t73 + 1), ()) w) :
    culletlaw12_grownOver.l7 R k5 k6 (tails, (q : Int), (j : Int), (i : Int), row, t64, t65, t66, t71, t72, t73, ((row.len : Nat) : Int), 0, ()) w := by
  have hrl : row.len = l.length := hr.1
  rw [hrl]
  unfold culletlaw12_grownOver.l7
  refine loopW_of (fun st w' => w' = w ∧ st.1 = tails ∧ st.2.1 = (q : Int) ∧ st.2.2.1 = (j : Int) ∧ st.2.2.2.1 = (i : Int) ∧ st.2.2.2.2.1 = row ∧ st.2.2.2.2.2.1 = t64 ∧ st.2.2.2.2.2.2.1 = t65 ∧ st.2.2.2.2.2.2.2.1 = t66 ∧ st.2.2.2.2.2.2.2.2.1 = t71 ∧ st.2.2.2.2.2.2.2.2.2.1 = t72 ∧ st.2.2.2.2.2.2.2.2.2.2.1 = t73 ∧ st.2.2.2.2.2.2.2.2.2.2.2.1 = (l.length : Int) ∧
      ∃ p : Nat, p ≤ l.length ∧ st.2.2.2.2.2.2.2.2.2.2.2.2.1 = (p : Int)) (fun st _ => l.length - st.2.2.2.2.2.2.2.2.2.2.2.2.1.toNat) ?_
    ⟨rfl, rfl, rfl, rfl, rfl, rfl, rfl, rfl, rfl, rfl, rfl, rfl, rfl, 0, Nat.zero_le _, rfl⟩
  rintro k ⟨a1, a2, a3, a4, a5, a6, a7, a8, a9, a10, a11, a12, p', u⟩ w1 hI hk
  dsimp only at hI hk ⊢
  obtain ⟨rfl, rfl, rfl, rfl, rfl, rfl, rfl, rfl, rfl, rfl, rfl, rfl, rfl, p, hp1, rfl⟩ := hI
  unfold culletlaw12_grownOver.b7
  refine Cd_dec (fun hlt => ?_) (fun hge => ?_)
  · refine Pu_idx hr tB sB (by omega) (by omega) fun a x hx hc _ => ?_
    refine Rd_one (c := .int .u8) (x := x) oB hc ?_
    rw [Int.toNat_natCast, hf, List.getElem?_replicate, if_pos (by omega)] at hx
    cases hx
    refine Cd_ne (fun h => (h rfl).elim) (fun _ => ?_)
    rw [wrap64 (x := (p : Int) + 1) (by omega) (by omega)]
    exact hk _ _ ⟨rfl, rfl, rfl, rfl, rfl, rfl, rfl, rfl, rfl, rfl, rfl, rfl, rfl, p + 1, by omega, by dsimp only; omega⟩ (by simp only; omega)
  · have hqc := (List.getElem?_eq_some_iff.1 hq).1
    refine Pu_idx hT.out.rds tBB sBB (by omega) (by rw [hT.len]; omega) fun a t ht hc _ => ?_
    rw [Int.toNat_natCast] at ht
    refine Rd_one (c := .sl) (x := t) oBB hc ?_
    have hrt := hT.row q t _ ht hq
    have htl : t.len = l.length + 20 := by rw [hrt.1]; simp
    rw [htl, hrl, wrap64 (x := ((l.length : Nat) : Int) + 20) (by omega) (by omega)]
    refine Cd_ne (fun h => (h (by omega)).elim) (fun _ => ?_)
    exact grown_l8 hrt hll hK
theorem grown_l6 {R : Ending → World → Prop} {k5 : (Sl × Int × Sl × Int × Int × Unit) → World → Prop} {vs : List Iv} {G : List (List (List Int))} {N : Nat} {D : Nat → Prop} {tails t64 : Sl} {t65 t66 : Int} {j q : Nat} {v : Iv} {g : List (List Int)} {w : World} {T : List Sl} {cs : List (List Int)}
    (hL : Lists w vs G) (hv : vs[j]? = some v) (hg : G[j]? = some g) (hT : Tails D N w tails T cs) (hq : ∀ i, i < g.length → cs[q + i]? = (tlR j g)[i]?) (hql : q + g.length ≤ 8388608) (hf : Filled G) (hll : ∀ l ∈ g, l.length ≤ 140737488351232)
    (hK : k5 (tails, ((q + g.length : Nat) : Int), t64, t65, IntKind.wrap .i64 (t66 + 1), ()) w) :
    culletlaw12_grownOver.l6 R k5 (tails, (q : Int), (j : Int), t64, t65, t66, v.s, ((v.s.len : Nat) : Int), 0, ()) w := by
  have hn := hL.each j v g hv hg
  have hvs : v.s.len = g.length := by rw [hn.out.1, hn.len]
  rw [hvs]
  unfold culletlaw12_grownOver.l6
  refine loopW_of (fun st w' => w' = w ∧ st.1 = tails ∧ st.2.2.1 = (j : Int) ∧ st.2.2.2.1 = t64 ∧ st.2.2.2.2.1 = t65 ∧ st.2.2.2.2.2.1 = t66 ∧ st.2.2.2.2.2.2.1 = v.s ∧ st.2.2.2.2.2.2.2.1 = (g.length : Int) ∧
      ∃ i : Nat, i ≤ g.length ∧ st.2.2.2.2.2.2.2.2.1 = (i : Int) ∧ st.2.1 = ((q + i : Nat) : Int)) (fun st _ => g.length - st.2.2.2.2.2.2.2.2.1.toNat) ?_
    ⟨rfl, rfl, rfl, rfl, rfl, rfl, rfl, rfl, 0, Nat.zero_le _, rfl, rfl⟩
  rintro k ⟨a1, q', a2, a3, a4, a5, a6, a7, i', u⟩ w1 hI hk
  dsimp only at hI hk ⊢
  obtain ⟨rfl, rfl, rfl, rfl, rfl, rfl, rfl, rfl, i, hi, rfl, rfl⟩ := hI
  unfold culletlaw12_grownOver.b6
  refine Cd_dec (fun hlt => ?_) (fun hge => ?_)
  · have hil : i < g.length := by omega
    have hl := List.getElem?_eq_getElem hil
    have hlen := hll _ (List.getElem_mem hil)
    generalize g[i] = l at hl hlen
    refine Pu_idx hn.out.rds tBB sBB (by omega) (by have := hn.len; omega) fun a r hr hc _ => ?_
    rw [Int.toNat_natCast] at hr
    refine Rd_one (c := .sl) (x := r) oBB hc ?_
    have hcs : cs[q + i]? = some (l ++ List.replicate 20 (cT j i)) := by
      rw [hq i hil]
      unfold tlR
      rw [List.getElem?_mapIdx, hl]
      rfl
    refine grown_l7 hT hcs (by omega) (hn.row i r l hr hl).rds (hf j i g l hg hl) hlen ?_
    rw [wrap64 (x := (i : Int) + 1) (by omega) (by omega), wrap64 (x := ((q + i : Nat) : Int) + 1) (by omega) (by omega)]
    exact hk _ _ ⟨rfl, rfl, rfl, rfl, rfl, rfl, rfl, rfl, i + 1, by omega, by dsimp only; omega, by dsimp only; omega⟩ (by simp only; omega)
  · obtain rfl : i = g.length := by omega
    exact hK
theorem grown_l5 {R : Ending → World → Prop} {vs : List Iv} {G : List (List (List Int))} {N B : Nat} {D : Nat → Prop} {tails values : Sl} {w : World} {T : List Sl}
    (hL : Lists w vs G) (hval : Own slv 30 B w values (vs.map (·.s))) (hT : Tails D N w tails T (tlA G).flatten) (hf : Filled G)
    (hll : ∀ g ∈ G, g.length ≤ 1048576 ∧ ∀ l ∈ g, l.length ≤ 140737488351232) (hGl : G.length ≤ 7) (hK : R (.returned (.bool true)) w) :
    culletlaw12_grownOver.l5 R (tails, 0, values, ((values.len : Nat) : Int), 0, ()) w := by
  have hvl : values.len = G.length := by rw [hval.1, List.length_map, hL.len]
  rw [hvl]
  unfold culletlaw12_grownOver.l5
  refine loopW_of (fun st w' => w' = w ∧ st.1 = tails ∧ st.2.2.1 = values ∧ st.2.2.2.1 = (G.length : Int) ∧ ∃ j : Nat, j ≤ G.length ∧ st.2.2.2.2.1 = (j : Int) ∧ st.2.1 = (((tlA G).take j).flatten.length : Int)) (fun st _ => G.length - st.2.2.2.2.1.toNat) ?_
    ⟨rfl, rfl, rfl, rfl, 0, Nat.zero_le _, rfl, rfl⟩
  rintro k ⟨a1, q', a2, a3, j', u⟩ w1 hI hk
  dsimp only at hI hk ⊢
  obtain ⟨rfl, rfl, rfl, rfl, j, hj, rfl, rfl⟩ := hI
  unfold culletlaw12_grownOver.b5
  refine Cd_dec (fun hlt => ?_) (fun hge => ?_)
  · have hjl : j < G.length := by omega
    have hg := List.getElem?_eq_getElem hjl
    have hlen := hll _ (List.getElem_mem hjl)
    generalize G[j] = g at hg hlen
    refine Pu_idx hval.rds tBBB sBBB (by omega) (by rw [List.length_map, hL.len]; omega) fun a x hx hc _ => ?_
    rw [Int.toNat_natCast, List.getElem?_map] at hx
    obtain ⟨v, hv, rfl⟩ := Option.map_eq_some_iff.1 hx
    refine Rd_one (c := .sl) (x := v.s) oBBB hc ?_
    have hcl : ((tlA G).take j).flatten.length ≤ 7340032 := by
      have h1 := flat_few (B := 1048576) ((tlA G).take j) (fun l hl => by
        obtain ⟨q, hq⟩ := List.mem_iff_getElem?.1 (List.mem_of_mem_take hl)
        unfold tlA at hq
        rw [List.getElem?_mapIdx] at hq
        obtain ⟨g2, hg2, rfl⟩ := Option.map_eq_some_iff.1 hq
        rw [tlR_len]
        exact (hll g2 (List.mem_of_getElem? hg2)).1)
      rw [List.length_take] at h1
      have : min j (tlA G).length * 1048576 ≤ 7 * 1048576 := Nat.mul_le_mul_right _ (by omega)
      omega
    refine grown_l6 hL hv hg hT (fun i hi => flat_at _ _ _ _ (tlA_at hg) (by rw [tlR_len]; exact hi)) (by have := hlen.1; omega) hf hlen.2 ?_
    rw [wrap64 (x := (j : Int) + 1) (by omega) (by omega)]
    exact hk _ _ ⟨rfl, rfl, rfl, rfl, j + 1, by omega, by dsimp only; omega, by dsimp only; rw [tlA_next hg, List.length_append, tlR_len]⟩ (by simp only; omega)
  · exact hK
end Go.Proofs.Ytdnlnloogfnlgaa
