/- Lists of keys side by side: each row written over and grown over. -/
import Derived.Test.YtdnlnloogfnlgaaTrMe
set_option linter.all false
namespace Go.Proofs.Ytdnlnloogfnlgaa
open Go Go.Cu Go.RowKit
set_option linter.unusedVariables false
set_option maxHeartbeats 4000000
theorem tIII : Try.prog.underlying 58 = some (.slice 45) := by kernel_rfl
theorem sIII : sizeIs Try.prog 45 1 = true := by kernel_rfl
theorem oIII : isOne Try.prog 45 = true := by kernel_rfl
structure KLists (w : World) (vs : List Iv) (L : List (List (List Int))) : Prop where
  len : vs.length = L.length
  each : ∀ (j : Nat) (v : Iv) (l : List (List Int)), vs[j]? = some v → L[j]? = some l → NestIn i64v 3 29 v.lo v.up w v.s v.ss l
  apart : ∀ (i j : Nat) (u v : Iv), vs[i]? = some u → vs[j]? = some v → i ≠ j → u.up ≤ v.lo ∨ v.up ≤ u.lo
  le : ∀ v ∈ vs, v.lo ≤ v.up
theorem KLists.mo {w w' : World} {vs : List Iv} {L : List (List (List Int))} {X : Nat → Prop} (h : KLists w vs L) (k : Mo X w w') (hx : ∀ b, InIv vs b → ¬ X b) : KLists w' vs L :=
  ⟨h.len, fun j v l hv hl => (h.each j v l hv hl).mo k (fun b h1 h2 => hx b (in_of hv h1 h2)), h.apart, h.le⟩
theorem KLists.ex {w w' : World} {vs : List Iv} {L : List (List (List Int))} (h : KLists w vs L) (k : Ex w w') : KLists w' vs L := h.mo k (fun _ _ => id)
theorem KLists.set {w w' : World} {vs : List Iv} {L : List (List (List Int))} {j : Nat} {v : Iv} {l : List (List Int)} (h : KLists w vs L) (hv : vs[j]? = some v) (hn : NestIn i64v 3 29 v.lo v.up w' v.s v.ss l) (k : Mo (fun b => v.lo ≤ b ∧ b < v.up) w w') : KLists w' vs (L.set j l) := by
  have hj := (List.getElem?_eq_some_iff.1 hv).1
  have hlen := h.len
  refine ⟨by rw [List.length_set]; exact h.len, fun i u m hu hm => ?_, h.apart, h.le⟩
  rw [List.getElem?_set] at hm
  by_cases hij : j = i
  · subst hij
    rw [if_pos rfl, if_pos (by omega)] at hm
    rw [hv] at hu
    cases hu
    cases hm
    exact hn
  · rw [if_neg hij] at hm
    refine (h.each i u m hu hm).mo k (fun b h1 h2 h3 => ?_)
    have := h.apart j i v u hv hu hij
    omega
theorem KLists.grow {w w' : World} {vs : List Iv} {L : List (List (List Int))} {j i M : Nat} {v : Iv} {g : List (List Int)} {l m : List Int} {c : List Int} {r row row' : Sl} (h : KLists w vs L) (hv : vs[j]? = some v) (hg : L[j]? = some g) (hr : v.ss[i]? = some r) (hl : g[i]? = some l)
    (htop : ∀ u ∈ vs, u.up ≤ M) (ho : Own i64v 3 v.lo w row m) (hlm : l.length ≤ m.length) (hb : ∀ b, SlIn row b → SlIn r b ∨ M ≤ b) (ho' : Own i64v 3 v.lo w' row' (m ++ c)) (hm : Mo (SlIn row) w w') (hor : Ex w w' ∨ row'.base = row.base ∧ row'.cap = row.cap) : KLists w' vs L := by
  have hnv := h.each j v g hv hg
  refine ⟨h.len, fun j2 v2 l2 hv2 hl2 => ?_, h.apart, h.le⟩
  have hn := h.each j2 v2 l2 hv2 hl2
  have hup := htop v2 (List.mem_of_getElem? hv2)
  have far : ∀ b, v2.lo ≤ b → b < v2.up → SlIn row b → j2 = j ∧ SlIn r b := fun b h1 h2 h3 => by
    rcases hb b h3 with h4 | h4
    · have h5 := hnv.low hr h4
      by_cases hjj : j2 = j
      · exact ⟨hjj, h4⟩
      · have := h.apart j2 j v2 v hv2 hv hjj
        omega
    · omega
  refine ⟨hn.out.mo hm (fun b hb1 hb2 => ?_), hn.len, fun i2 s2 m2 hs2 hm2 => ?_, hn.apart, hn.sep, hn.top, hn.tops⟩
  · obtain ⟨rfl, h4⟩ := far b (hn.out.base b hb1).1 (hn.top b hb1) hb2
    rw [hv] at hv2
    cases hv2
    exact hnv.sep i r b hr h4 hb1
  · refine Own.kept ho ho' hm hor (hn.row i2 s2 m2 hs2 hm2) (fun b hb1 hb2 => ?_)
    have hlow := hn.low hs2 hb1
    obtain ⟨rfl, h4⟩ := far b hlow.1 hlow.2 hb2
    rw [hv] at hv2
    cases hv2
    rw [hg] at hl2
    cases hl2
    by_cases hii : i2 = i
    · subst hii
      rw [hl] at hm2
      cases hm2
      exact hlm
    · exact (hnv.apart i2 i s2 r b hs2 hr hii hb1 h4).elim
structure KTails (D : Nat → Prop) (N : Nat) (w : World) (tails : Sl) (T : List Sl) (cs : List (List Int)) : Prop where
  out : Own slv 29 N w tails T
  len : T.length = cs.length
  row : ∀ (q : Nat) (s : Sl) (l : List Int), T[q]? = some s → cs[q]? = some l → Rds i64v w s l
  blk : ∀ (q : Nat) (s : Sl) (b : Nat), T[q]? = some s → SlIn s b → D b ∨ N ≤ b ∧ b < w.heap.size
  sep : ∀ (q : Nat) (s : Sl) (b : Nat), T[q]? = some s → SlIn s b → ¬ SlIn tails b
theorem KTails.mo {D X : Nat → Prop} {N : Nat} {w w' : World} {tails : Sl} {T : List Sl} {cs : List (List Int)} (h : KTails D N w tails T cs) (k : Mo X w w') (h1 : ∀ b, D b → ¬ X b) (h2 : ∀ b, N ≤ b → b < w.heap.size → ¬ X b) : KTails D N w' tails T cs := by
  have hs := k.size
  refine ⟨h.out.mo k (fun b hb => h2 b (h.out.base b hb).1 (h.out.base b hb).2), h.len, fun q s l hq hl => (h.row q s l hq hl).mo k (fun a ha => ?_), fun q s b hq hb => ?_, h.sep⟩
  · rcases h.blk q s _ hq (slin_of ha) with hd | hd
    · exact h1 _ hd
    · exact h2 _ hd.1 hd.2
  · rcases h.blk q s b hq hb with hd | hd
    · exact .inl hd
    · exact .inr ⟨hd.1, by omega⟩
theorem KTails.weak {D D' : Nat → Prop} {N : Nat} {w : World} {tails : Sl} {T : List Sl} {cs : List (List Int)} (h : KTails D N w tails T cs) (hd : ∀ b, D b → D' b) : KTails D' N w tails T cs :=
  ⟨h.out, h.len, h.row, fun q s b hq hb => (h.blk q s b hq hb).imp (hd b) id, h.sep⟩
theorem KTails.nil (D : Nat → Prop) (N : Nat) (w : World) : KTails D N w nilS [] [] := ⟨Own.nil _ _ _ _, rfl, fun q s l h => (by simp at h), fun q s b h => (by simp at h), fun q s b h => (by simp at h)⟩
theorem KLists.nil (w : World) : KLists w [] [] := ⟨rfl, fun j v l h => (by simp at h), fun i j u v h => (by simp at h), fun v h => (by simp at h)⟩
theorem KLists.cons {w : World} {vs : List Iv} {L : List (List (List Int))} {v : Iv} {l : List (List Int)} (h : KLists w vs L) (hn : NestIn i64v 3 29 v.lo v.up w v.s v.ss l) (ha : ∀ u ∈ vs, v.up ≤ u.lo ∨ u.up ≤ v.lo) (hl : v.lo ≤ v.up) : KLists w (v :: vs) (l :: L) := by
  refine ⟨by simp [h.len], fun j u m hu hm => ?_, fun i j u x hu hx hij => ?_, fun u hu => ?_⟩
  · cases j with
    | zero => simp at hu hm; subst hu; subst hm; exact hn
    | succ n => exact h.each n u m (by simpa using hu) (by simpa using hm)
  · cases i with
    | zero =>
      simp at hu
      subst hu
      cases j with
      | zero => exact (hij rfl).elim
      | succ n => exact ha x (List.mem_of_getElem? (by simpa using hx))
    | succ m =>
      cases j with
      | zero =>
        simp at hx
        subst hx
        exact (ha u (List.mem_of_getElem? (by simpa using hu))).symm
      | succ n => exact h.apart m n u x (by simpa using hu) (by simpa using hx) (by omega)
  · rcases List.mem_cons.1 hu with rfl | hu
    · exact hl
    · exact h.le u hu
def cK (j i : Nat) (p : Nat) : Int := IntKind.wrap .i64 ((IntKind.wrap .i64 ((IntKind.wrap .i64 (1000 * (j : Int))) + (IntKind.wrap .i64 (10 * (i : Int))))) + (p : Int))
def kk (j i n : Nat) : List Int := (List.range n).map (cK j i)
theorem kk_len (j i n : Nat) : (kk j i n).length = n := by simp [kk]
theorem kk_at {j i n p : Nat} (h : p < n) : (kk j i n)[p]? = some (cK j i p) := by
  unfold kk
  rw [List.getElem?_map, List.getElem?_range h]
  rfl
theorem kk_step {j i p : Nat} {l : List Int} (h : p < l.length) : ((kk j i l.length).take p ++ l.drop p).set p (cK j i p) = (kk j i l.length).take (p + 1) ++ l.drop (p + 1) := by
  have h1 : ((kk j i l.length).take p).length = p := by rw [List.length_take, kk_len]; omega
  rw [List.take_add_one, kk_at h, List.drop_eq_getElem_cons h]
  conv => lhs; arg 2; rw [← h1]
  rw [List.set_append_right _ _ (Nat.le_refl _), Nat.sub_self, List.set_cons_zero, List.append_assoc]
  rfl
def mixK (j k : Nat) (ls : List (List Int)) : List (List Int) := ls.mapIdx fun i l => if i < k then kk j i l.length else l
def fillK (j : Nat) (ls : List (List Int)) : List (List Int) := ls.mapIdx fun i l => kk j i l.length
theorem mixK_zero (j : Nat) (ls : List (List Int)) : mixK j 0 ls = ls := by
  refine List.ext_getElem? fun q => ?_
  unfold mixK
  rw [List.getElem?_mapIdx]
  cases ls[q]? <;> simp
theorem mixK_all (j : Nat) (ls : List (List Int)) : mixK j ls.length ls = fillK j ls := by
  refine List.ext_getElem? fun q => ?_
  unfold mixK fillK
  rw [List.getElem?_mapIdx, List.getElem?_mapIdx]
  cases h : ls[q]? with
  | none => rfl
  | some l =>
    have := (List.getElem?_eq_some_iff.1 h).1
    simp [this]
theorem mixK_len (j k : Nat) (ls : List (List Int)) : (mixK j k ls).length = ls.length := by simp [mixK]
theorem fillK_len (j : Nat) (ls : List (List Int)) : (fillK j ls).length = ls.length := by simp [fillK]
theorem mixK_at {j k : Nat} {ls : List (List Int)} {l : List Int} (h : ls[k]? = some l) : (mixK j k ls)[k]? = some l := by
  unfold mixK
  rw [List.getElem?_mapIdx, h]
  simp
theorem mixK_next {j k : Nat} {ls : List (List Int)} {l : List Int} (h : ls[k]? = some l) : (mixK j k ls).set k (kk j k l.length) = mixK j (k + 1) ls := by
  refine List.ext_getElem? fun q => ?_
  have hk := (List.getElem?_eq_some_iff.1 h).1
  rw [List.getElem?_set]
  unfold mixK
  rw [List.length_mapIdx, List.getElem?_mapIdx, List.getElem?_mapIdx]
  by_cases hj : k = q
  · subst hj
    rw [if_pos rfl, if_pos hk, h]
    simp
  · rw [if_neg hj]
    cases ls[q]? with
    | none => rfl
    | some m =>
      by_cases h2 : q < k
      · simp [h2, show q < k + 1 by omega]
      · simp [h2, show ¬ q < k + 1 by omega]
theorem mixK_same {j k : Nat} {ls : List (List Int)} {l : List Int} (h : ls[k]? = some l) : (mixK j k ls).set k l = mixK j k ls := by
  refine List.ext_getElem? fun q => ?_
  have hk := (List.getElem?_eq_some_iff.1 h).1
  rw [List.getElem?_set, mixK_len]
  by_cases hj : k = q
  · subst hj
    rw [if_pos rfl, if_pos hk, mixK_at h]
  · rw [if_neg hj]
def fillKG (k : Nat) (L : List (List (List Int))) : List (List (List Int)) := L.mapIdx fun j l => if j < k then fillK j l else l
theorem fillKG_zero (L : List (List (List Int))) : fillKG 0 L = L := by
  refine List.ext_getElem? fun j => ?_
  unfold fillKG
  rw [List.getElem?_mapIdx]
  cases L[j]? <;> simp
theorem fillKG_len (k : Nat) (L : List (List (List Int))) : (fillKG k L).length = L.length := by simp [fillKG]
theorem fillKG_at {k : Nat} {L : List (List (List Int))} {l : List (List Int)} (h : L[k]? = some l) : (fillKG k L)[k]? = some l := by
  unfold fillKG
  rw [List.getElem?_mapIdx, h]
  simp
theorem fillKG_next {k : Nat} {L : List (List (List Int))} {l : List (List Int)} (h : L[k]? = some l) : (fillKG k L).set k (fillK k l) = fillKG (k + 1) L := by
  refine List.ext_getElem? fun j => ?_
  have hk := (List.getElem?_eq_some_iff.1 h).1
  rw [List.getElem?_set]
  unfold fillKG
  rw [List.length_mapIdx, List.getElem?_mapIdx, List.getElem?_mapIdx]
  by_cases hj : k = j
  · subst hj
    rw [if_pos rfl, if_pos hk, h]
    simp
  · rw [if_neg hj]
    cases L[j]? with
    | none => rfl
    | some m =>
      by_cases h2 : j < k
      · simp [h2, show j < k + 1 by omega]
      · simp [h2, show ¬ j < k + 1 by omega]
def FilledK (G : List (List (List Int))) : Prop := ∀ (j i : Nat) (g : List (List Int)) (l : List Int), G[j]? = some g → g[i]? = some l → l = kk j i l.length
theorem fillKG_filled (L : List (List (List Int))) : FilledK (fillKG L.length L) := by
  intro j i g l hg hl
  unfold fillKG at hg
  rw [List.getElem?_mapIdx] at hg
  obtain ⟨g0, hg0, rfl⟩ := Option.map_eq_some_iff.1 hg
  rw [if_pos (List.getElem?_eq_some_iff.1 hg0).1] at hl
  unfold fillK at hl
  rw [List.getElem?_mapIdx] at hl
  obtain ⟨l0, hl0, rfl⟩ := Option.map_eq_some_iff.1 hl
  rw [kk_len]
def SmallK (L : List (List (List Int))) : Prop := ∀ g ∈ L, g.length ≤ 1024 ∧ ∀ l ∈ g, l.length ≤ 300
theorem smallK_fill (j : Nat) {g : List (List Int)} (h : g.length ≤ 1024 ∧ ∀ l ∈ g, l.length ≤ 300) : (fillK j g).length ≤ 1024 ∧ ∀ l ∈ fillK j g, l.length ≤ 300 := by
  refine ⟨by rw [fillK_len]; exact h.1, fun l hl => ?_⟩
  obtain ⟨i, hi⟩ := List.mem_iff_getElem?.1 hl
  unfold fillK at hi
  rw [List.getElem?_mapIdx] at hi
  obtain ⟨m, hm, rfl⟩ := Option.map_eq_some_iff.1 hi
  rw [kk_len]
  exact h.2 m (List.mem_of_getElem? hm)
theorem SmallK.fill {L : List (List (List Int))} (h : SmallK L) (k : Nat) : SmallK (fillKG k L) := by
  intro g hg
  obtain ⟨j, hj⟩ := List.mem_iff_getElem?.1 hg
  unfold fillKG at hj
  rw [List.getElem?_mapIdx] at hj
  obtain ⟨g0, hg0, rfl⟩ := Option.map_eq_some_iff.1 hj
  have h0 := h g0 (List.mem_of_getElem? hg0)
  split
  · exact smallK_fill _ h0
  · exact h0
def cN (j i : Nat) : Int := IntKind.wrap .i64 ((IntKind.wrap .i64 ((IntKind.wrap .i64 ((-1000) * (j : Int))) - (IntKind.wrap .i64 (10 * (i : Int))))) - 1)
def tlK (j : Nat) (g : List (List Int)) : List (List Int) := g.mapIdx fun i l => l ++ List.replicate 20 (cN j i)
def tlKA (G : List (List (List Int))) : List (List (List Int)) := G.mapIdx tlK
theorem tlK_len (j : Nat) (g : List (List Int)) : (tlK j g).length = g.length := by simp [tlK]
theorem tlK_next {j i : Nat} {g : List (List Int)} {l : List Int} (h : g[i]? = some l) : (tlK j g).take (i + 1) = (tlK j g).take i ++ [l ++ List.replicate 20 (cN j i)] := by
  rw [List.take_add_one]
  unfold tlK
  rw [List.getElem?_mapIdx, h]
  rfl
theorem tlKA_at {j : Nat} {G : List (List (List Int))} {g : List (List Int)} (h : G[j]? = some g) : (tlKA G)[j]? = some (tlK j g) := by
  unfold tlKA
  rw [List.getElem?_mapIdx, h]
  rfl
theorem tlKA_next {j : Nat} {G : List (List (List Int))} {g : List (List Int)} (h : G[j]? = some g) : ((tlKA G).take (j + 1)).flatten = ((tlKA G).take j).flatten ++ tlK j g := by
  rw [List.take_add_one, tlKA_at h]
  simp
theorem tlKA_few {G : List (List (List Int))} (h : SmallK G) (hG : G.length ≤ 8) (j : Nat) : ((tlKA G).take j).flatten.length ≤ 8192 := by
  have h1 := flat_few (B := 1024) ((tlKA G).take j) (fun l hl => by
    obtain ⟨q, hq⟩ := List.mem_iff_getElem?.1 (List.mem_of_mem_take hl)
    unfold tlKA at hq
    rw [List.getElem?_mapIdx] at hq
    obtain ⟨g2, hg2, rfl⟩ := Option.map_eq_some_iff.1 hq
    rw [tlK_len]
    exact (h g2 (List.mem_of_getElem? hg2)).1)
  rw [List.length_take] at h1
  have h2 : (tlKA G).length = G.length := by simp [tlKA]
  have : min j (tlKA G).length * 1024 ≤ 8 * 1024 := Nat.mul_le_mul_right _ (by omega)
  omega
end Go.Proofs.Ytdnlnloogfnlgaa
