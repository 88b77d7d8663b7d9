/- Lists of lists side by side; what is appended to every row shows in no other. -/
import Derived.Test.YtdnlnloogfnlgaaTrMa
set_option linter.all false
namespace Go.Proofs.Ytdnlnloogfnlgaa
open Go Go.Cu Go.RowKit
set_option linter.unusedVariables false
set_option maxHeartbeats 2000000
theorem tBBB : Try.prog.underlying 51 = some (.slice 30) := by kernel_rfl
theorem sBBB : sizeIs Try.prog 30 1 = true := by kernel_rfl
theorem oBBB : isOne Try.prog 30 = true := by kernel_rfl
structure Iv where
  lo : Nat
  up : Nat
  s : Sl
  ss : List Sl
def InIv (vs : List Iv) (b : Nat) : Prop := ∃ v ∈ vs, v.lo ≤ b ∧ b < v.up
structure Lists (w : World) (vs : List Iv) (L : List (List (List Int))) : Prop where
  len : vs.length = L.length
  each : ∀ (j : Nat) (v : Iv) (l : List (List Int)), vs[j]? = some v → L[j]? = some l → NestIn b8 5 52 v.lo v.up w v.s v.ss l
  apart : ∀ (i j : Nat) (u v : Iv), vs[i]? = some u → vs[j]? = some v → i ≠ j → u.up ≤ v.lo ∨ v.up ≤ u.lo
  le : ∀ v ∈ vs, v.lo ≤ v.up
theorem in_of {vs : List Iv} {j : Nat} {v : Iv} {b : Nat} (h : vs[j]? = some v) (h1 : v.lo ≤ b) (h2 : b < v.up) : InIv vs b := ⟨v, List.mem_of_getElem? h, h1, h2⟩
theorem Lists.mo {w w' : World} {vs : List Iv} {L : List (List (List Int))} {X : Nat → Prop} (h : Lists w vs L) (k : Mo X w w') (hx : ∀ b, InIv vs b → ¬ X b) : Lists w' vs L :=
  ⟨h.len, fun j v l hv hl => (h.each j v l hv hl).mo k (fun b h1 h2 => hx b (in_of hv h1 h2)), h.apart, h.le⟩
theorem Lists.ex {w w' : World} {vs : List Iv} {L : List (List (List Int))} (h : Lists w vs L) (k : Ex w w') : Lists w' vs L := h.mo k (fun _ _ => id)
theorem Lists.set {w w' : World} {vs : List Iv} {L : List (List (List Int))} {j : Nat} {v : Iv} {l : List (List Int)} (h : Lists w vs L) (hv : vs[j]? = some v) (hn : NestIn b8 5 52 v.lo v.up w' v.s v.ss l) (k : Mo (fun b => v.lo ≤ b ∧ b < v.up) w w') : Lists w' vs (L.set j l) := by
  have hj := (List.getElem?_eq_some_iff.1 hv).1
  have hlen := h.len
  refine ⟨by rw [List.length_set]; exact h.len, fun i u m hu hm => ?_, h.apart, h.le⟩
  rw [List.getElem?_set] at hm
  by_cases hij : j = i
  · subst hij
    rw [if_pos rfl, if_pos (by omega)] at hm
    rw [hv] at hu
    cases hu
    cases hm
    exact hn
  · rw [if_neg hij] at hm
    refine (h.each i u m hu hm).mo k (fun b h1 h2 h3 => ?_)
    have := h.apart j i v u hv hu hij
    omega
/-- one row is appended to: all others, and what stood, stay -/
theorem Lists.grow {w w' : World} {vs : List Iv} {L : List (List (List Int))} {j i M : Nat} {v : Iv} {g : List (List Int)} {l m : List Int} {c : List Int} {r row row' : Sl} (h : Lists w vs L) (hv : vs[j]? = some v) (hg : L[j]? = some g) (hr : v.ss[i]? = some r) (hl : g[i]? = some l)
    (htop : ∀ u ∈ vs, u.up ≤ M) (ho : Own b8 5 v.lo w row m) (hlm : l.length ≤ m.length) (hb : ∀ b, SlIn row b → SlIn r b ∨ M ≤ b) (ho' : Own b8 5 v.lo w' row' (m ++ c)) (hm : Mo (SlIn row) w w') (hor : Ex w w' ∨ row'.base = row.base ∧ row'.cap = row.cap) : Lists w' vs L := by
  have hnv := h.each j v g hv hg
  refine ⟨h.len, fun j2 v2 l2 hv2 hl2 => ?_, h.apart, h.le⟩
  have hn := h.each j2 v2 l2 hv2 hl2
  have hup := htop v2 (List.mem_of_getElem? hv2)
  have far : ∀ b, v2.lo ≤ b → b < v2.up → SlIn row b → j2 = j ∧ SlIn r b := fun b h1 h2 h3 => by
    rcases hb b h3 with h4 | h4
    · have h5 := hnv.low hr h4
      by_cases hjj : j2 = j
      · exact ⟨hjj, h4⟩
      · have := h.apart j2 j v2 v hv2 hv hjj
        omega
    · omega
  refine ⟨hn.out.mo hm (fun b hb1 hb2 => ?_), hn.len, fun i2 s2 m2 hs2 hm2 => ?_, hn.apart, hn.sep, hn.top, hn.tops⟩
  · obtain ⟨rfl, h4⟩ := far b (hn.out.base b hb1).1 (hn.top b hb1) hb2
    rw [hv] at hv2
    cases hv2
    exact hnv.sep i r b hr h4 hb1
  · refine Own.kept ho ho' hm hor (hn.row i2 s2 m2 hs2 hm2) (fun b hb1 hb2 => ?_)
    have hlow := hn.low hs2 hb1
    obtain ⟨rfl, h4⟩ := far b hlow.1 hlow.2 hb2
    rw [hv] at hv2
    cases hv2
    rw [hg] at hl2
    cases hl2
    by_cases hii : i2 = i
    · subst hii
      rw [hl] at hm2
      cases hm2
      exact hlm
    · exact (hnv.apart i2 i s2 r b hs2 hr hii hb1 h4).elim
structure Tails (D : Nat → Prop) (N : Nat) (w : World) (tails : Sl) (T : List Sl) (cs : List (List Int)) : Prop where
  out : Own slv 52 N w tails T
  len : T.length = cs.length
  row : ∀ (q : Nat) (s : Sl) (l : List Int), T[q]? = some s → cs[q]? = some l → Rds b8 w s l
  blk : ∀ (q : Nat) (s : Sl) (b : Nat), T[q]? = some s → SlIn s b → D b ∨ N ≤ b ∧ b < w.heap.size
  sep : ∀ (q : Nat) (s : Sl) (b : Nat), T[q]? = some s → SlIn s b → ¬ SlIn tails b
theorem Tails.mo {D X : Nat → Prop} {N : Nat} {w w' : World} {tails : Sl} {T : List Sl} {cs : List (List Int)} (h : Tails D N w tails T cs) (k : Mo X w w') (h1 : ∀ b, D b → ¬ X b) (h2 : ∀ b, N ≤ b → b < w.heap.size → ¬ X b) : Tails D N w' tails T cs := by
  have hs := k.size
  refine ⟨h.out.mo k (fun b hb => h2 b (h.out.base b hb).1 (h.out.base b hb).2), h.len, fun q s l hq hl => (h.row q s l hq hl).mo k (fun a ha => ?_), fun q s b hq hb => ?_, h.sep⟩
  · rcases h.blk q s _ hq (slin_of ha) with hd | hd
    · exact h1 _ hd
    · exact h2 _ hd.1 hd.2
  · rcases h.blk q s b hq hb with hd | hd
    · exact .inl hd
    · exact .inr ⟨hd.1, by omega⟩
theorem Tails.weak {D D' : Nat → Prop} {N : Nat} {w : World} {tails : Sl} {T : List Sl} {cs : List (List Int)} (h : Tails D N w tails T cs) (hd : ∀ b, D b → D' b) : Tails D' N w tails T cs :=
  ⟨h.out, h.len, h.row, fun q s b hq hb => (h.blk q s b hq hb).imp (hd b) id, h.sep⟩
theorem Tails.nil (D : Nat → Prop) (N : Nat) (w : World) : Tails D N w nilS [] [] := ⟨Own.nil _ _ _ _, rfl, fun q s l h => (by simp at h), fun q s b h => (by simp at h), fun q s b h => (by simp at h)⟩
def cT (j i : Nat) : Int := IntKind.wrap .u8 (IntKind.wrap .i64 ((IntKind.wrap .i64 (200 + (i : Int))) + (j : Int)))
theorem grown_l4 {R : Ending → World → Prop} {k2 : (Sl × Sl × Sl × Int × Int × Unit) → World → Prop} {k3 : (Sl × Sl × Int × Sl × Int × Int × Sl × Int × Int × Unit) → World → Prop} {vs : List Iv} {G : List (List (List Int))} {N j i B : Nat} {v : Iv} {g : List (List Int)} {l : List Int} {r values tails t32 t39 : Sl} {t33 t34 t40 : Int} {T : List Sl} {cs : List (List Int)} {w : World} {D : Nat → Prop}
    (hL : Lists w vs G) (hv : vs[j]? = some v) (hg : G[j]? = some g) (hr : v.ss[i]? = some r) (hl : g[i]? = some l) (htop : ∀ u ∈ vs, u.up ≤ N) (hN : N ≤ w.heap.size)
    (hval : Own slv 30 B w values (vs.map (·.s))) (hval2 : ∀ b, SlIn values b → b < N ∧ ¬ InIv vs b)
    (hT : Tails D N w tails T cs) (hD : ∀ b, D b → b < N ∧ ¬ SlIn r b) (hll : l.length ≤ 140737488351232) (hTl : T.length ≤ 8388608)
    (hK : ∀ w' tails' row, Mo (fun b => InIv vs b ∨ N ≤ b) w w' → Lists w' vs G → Own slv 30 B w' values (vs.map (·.s)) → Tails (fun b => D b ∨ SlIn r b) N w' tails' (T ++ [row]) (cs ++ [l ++ List.replicate 20 (cT j i)]) →
      k3 (values, tails', (j : Int), t32, t33, t34, t39, t40, IntKind.wrap .i64 ((i : Int) + 1), ()) w') :
    culletlaw12_grownOver.l4 R k2 k3 (values, tails, (j : Int), (i : Int), r, 0, t32, t33, t34, t39, t40, (i : Int), ()) w := by
  have hn := hL.each j v g hv hg
  have hrow0 := hn.row i r l hr hl
  have hvN := htop v (List.mem_of_getElem? hv)
  have hvl := hL.le v (List.mem_of_getElem? hv)
  have hrN : ∀ b, SlIn r b → v.lo ≤ b ∧ b < v.up := fun b hb => hn.low hr hb
  unfold culletlaw12_grownOver.l4
  refine loopW_of (fun st w' => st.1 = values ∧ st.2.1 = tails ∧ st.2.2.1 = (j : Int) ∧ st.2.2.2.1 = (i : Int) ∧ st.2.2.2.2.2.2.1 = t32 ∧ st.2.2.2.2.2.2.2.1 = t33 ∧ st.2.2.2.2.2.2.2.2.1 = t34 ∧ st.2.2.2.2.2.2.2.2.2.1 = t39 ∧ st.2.2.2.2.2.2.2.2.2.2.1 = t40 ∧ st.2.2.2.2.2.2.2.2.2.2.2.1 = (i : Int) ∧
      ∃ p : Nat, p ≤ 20 ∧ st.2.2.2.2.2.1 = (p : Int) ∧ Mo (SlIn r) w w' ∧ Lists w' vs G ∧ Own b8 5 v.lo w' st.2.2.2.2.1 (l ++ List.replicate p (cT j i)) ∧ ∀ b, SlIn st.2.2.2.2.1 b → SlIn r b ∨ w.heap.size ≤ b) (fun st _ => 20 - st.2.2.2.2.2.1.toNat) ?_
    ⟨rfl, rfl, rfl, rfl, rfl, rfl, rfl, rfl, rfl, rfl, 0, by omega, rfl, Mo.refl _ _, hL, by simpa using hrow0, fun b hb => .inl hb⟩
  rintro k ⟨a1, a2, a3, a4, row, p', a5, a6, a7, a8, a9, a10, u⟩ w1 hI hk
  dsimp only at hI hk ⊢
  obtain ⟨rfl, rfl, rfl, rfl, rfl, rfl, rfl, rfl, rfl, rfl, p, hp, rfl, hm, hL1, ho1, hb1⟩ := hI
  have hs1 := hm.size
  unfold culletlaw12_grownOver.b4
  refine Cd_dec (fun hlt => ?_) (fun hge => ?_)
  · refine Wr_lit (f := b8) (e := 5) (base := w1.heap.size) [cT j i] (by kernel_rfl) (Nat.le_refl _) (by simp) fun s2 w2 ho2 hx2 _ => ?_
    have hs2 := hx2.size
    refine Wr_append2 tB iB rfl (ho1.ex hx2) ho2.rds (fun y => rfl) (by simp; omega) (by simp; omega) (by omega) fun row2 w3 ho3 hm3 hin3 hor3 => ?_
    have hL3 := (hL1.ex hx2).grow (M := N) hv hg hr hl htop (ho1.ex hx2) (by simp) (fun b hb => (hb1 b hb).imp id (fun h => by omega)) ho3 hm3 hor3
    rw [wrap64 (x := (p : Int) + 1) (by omega) (by omega)]
    refine hk _ _ ⟨rfl, rfl, rfl, rfl, rfl, rfl, rfl, rfl, rfl, rfl, p + 1, by omega, by dsimp only; omega, (hm.ex hx2).trans hm3 (fun _ => id) (fun b hb hb2 => ?_), hL3, ?_, fun b hb => ?_⟩ (by simp only; omega)
    · rcases hb1 b hb2 with h | h
      · exact h
      · omega
    · rw [List.replicate_succ', ← List.append_assoc]; exact ho3
    · rcases hin3 b hb with h | h
      · exact hb1 b h
      · exact .inr (by omega)
  · obtain rfl : p = 20 := by omega
    refine Wr_lit (f := slv) (e := 52) (base := w1.heap.size) [row] (by kernel_rfl) (Nat.le_refl _) (by simp) fun s2 w2 ho2 hx2 _ => ?_
    have hs2 := hx2.size
    have hT2 : Tails D N w2 a2 T cs := hT.mo (hm.ex hx2) (fun b hb => (hD b hb).2) (fun b h1 h2 h3 => by have := hrN b h3; omega)
    refine Wr_append tBB iBB rfl hT2.out ho2.rds (fun y => rfl) (by simp; omega) (by simp; omega) (by omega) fun tails3 w3 ho3 hm3 hin3 => ?_
    have hs3 := hm3.size
    have htb : ∀ b, SlIn a2 b → N ≤ b ∧ b < w.heap.size := fun b hb => hT.out.base b hb
    have hro := ho1.ex hx2
    have hrowb := ho1.base
    refine hK w3 tails3 row (((hm.ex hx2).trans hm3 (Z := fun b => InIv vs b ∨ N ≤ b) (fun b hb => .inl (in_of hv (hrN b hb).1 (hrN b hb).2)) (fun b _ hb => .inr (htb b hb).1))) ((hL1.ex hx2).mo hm3 (fun b hb hb2 => ?_)) (((hval.mo hm (fun b hb hb2 => ?_)).ex hx2).mo hm3 (fun b hb hb2 => ?_)) ⟨ho3, by simp [hT.len], fun q s m hq hm' => ?_, fun q s b hq hb => ?_, fun q s b hq hb hb2 => ?_⟩
    · obtain ⟨u, hu, h1, h2⟩ := hb
      have := htop u hu
      have := htb b hb2
      omega
    · exact (hval2 b hb).2 (in_of hv (hrN b hb2).1 (hrN b hb2).2)
    · have := (hval2 b hb).1
      have := htb b hb2
      omega
    · rcases snoc_cases hq with ⟨hq, hlt⟩ | ⟨rfl, rfl⟩
      · rw [List.getElem?_append_left (by rw [← hT.len]; exact hlt)] at hm'
        exact (hT2.row q s m hq hm').mo hm3 (fun a ha hb => hT2.sep q s _ hq (slin_of ha) hb)
      · rw [hT.len, List.getElem?_append_right (Nat.le_refl _), Nat.sub_self] at hm'
        cases hm'
        refine hro.rds.mo hm3 (fun a ha hb => ?_)
        have h5 := htb _ hb
        rcases hb1 _ (slin_of ha) with h | h
        · have := hrN _ h
          omega
        · omega
    · rcases snoc_cases hq with ⟨hq, hlt⟩ | ⟨rfl, rfl⟩
      · rcases hT2.blk q s b hq hb with h | h
        · exact .inl (.inl h)
        · exact .inr ⟨h.1, by omega⟩
      · have h6 := hrowb b hb
        rcases hb1 b hb with h | h
        · exact .inl (.inr h)
        · exact .inr ⟨by omega, by omega⟩
    · rcases snoc_cases hq with ⟨hq, hlt⟩ | ⟨rfl, rfl⟩
      · rcases hin3 b hb2 with h | h
        · exact hT2.sep q s b hq hb h
        · rcases hT2.blk q s b hq hb with h2 | h2
          · have := (hD b h2).1
            omega
          · omega
      · have h6 := hrowb b hb
        rcases hin3 b hb2 with h | h
        · have h5 := htb b h
          rcases hb1 b hb with h | h
          · have := hrN b h
            omega
          · omega
        · omega
end Go.Proofs.Ytdnlnloogfnlgaa
