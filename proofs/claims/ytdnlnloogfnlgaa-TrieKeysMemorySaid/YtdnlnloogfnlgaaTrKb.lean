/- culletlaw12.TrieKeysMemory: every number of every key is written over. -/
import Derived.Test.YtdnlnloogfnlgaaTrKa
set_option linter.all false
namespace Go.Proofs.Ytdnlnloogfnlgaa
open Go Go.Cu Go.RowKit
set_option linter.unusedVariables false
set_option maxHeartbeats 4000000
section
variable {R : Ending → World → Prop} {t5 : Option Addr} {want order lists t83 : Sl} {t84 t85 : Int}
theorem keys_l3 {k2 : ((Option Addr) × Sl × Sl × Sl × Sl × Int × Int × Unit) → World → Prop} {j lo up : Nat} {w : World} {v : Sl} {ss : List Sl} {ls : List (List Int)} (h : NestIn i64v 3 29 lo up w v ss ls) (hle : ls.length ≤ 1024 ∧ ∀ l ∈ ls, l.length ≤ 300)
    (hK : ∀ w', NestIn i64v 3 29 lo up w' v ss (fillK j ls) → Mo (fun b => lo ≤ b ∧ b < up) w w' → k2 (t5, want, order, lists, t83, t84, IntKind.wrap .i64 (t85 + 1), ()) w') :
    culletlaw12_TrieKeysMemory.l3 R k2 (t5, want, order, lists, (j : Int), t83, t84, t85, v, ((v.len : Nat) : Int), 0, ()) w := by
  have hvl : v.len = ls.length := by rw [h.out.1, h.len]
  have h1 := hle.1
  rw [hvl]
  unfold culletlaw12_TrieKeysMemory.l3
  refine loopW_of (fun st w' => st.1 = t5 ∧ st.2.1 = want ∧ st.2.2.1 = order ∧ st.2.2.2.1 = lists ∧ st.2.2.2.2.1 = (j : Int) ∧ st.2.2.2.2.2.1 = t83 ∧ st.2.2.2.2.2.2.1 = t84 ∧ st.2.2.2.2.2.2.2.1 = t85 ∧ st.2.2.2.2.2.2.2.2.1 = v ∧ st.2.2.2.2.2.2.2.2.2.1 = (ls.length : Int) ∧
      ∃ i : Nat, i ≤ ls.length ∧ st.2.2.2.2.2.2.2.2.2.2.1 = (i : Int) ∧ Mo (fun b => lo ≤ b ∧ b < up) w w' ∧ NestIn i64v 3 29 lo up w' v ss (mixK j i ls)) (fun st _ => ls.length - st.2.2.2.2.2.2.2.2.2.2.1.toNat) ?_
    ⟨rfl, rfl, rfl, rfl, rfl, rfl, rfl, rfl, rfl, rfl, 0, Nat.zero_le _, rfl, Mo.refl _ _, by rw [mixK_zero]; exact h⟩
  rintro k ⟨a1, a2, a3, a4, a5, a6, a7, a8, a9, a10, i', u⟩ w1 hI hk
  dsimp only at hI hk ⊢
  obtain ⟨rfl, rfl, rfl, rfl, rfl, rfl, rfl, rfl, rfl, rfl, i, hi, rfl, hm, hn⟩ := hI
  unfold culletlaw12_TrieKeysMemory.b3
  refine Cd_dec (fun hlt => ?_) (fun hge => ?_)
  · have hil : i < ls.length := by omega
    have hl := List.getElem?_eq_getElem hil
    have hlen := hle.2 _ (List.getElem_mem hil)
    generalize ls[i] = l at hl hlen
    refine Pu_idx hn.out.rds tII sII (by omega) (by have := hn.len; rw [mixK_len] at this; omega) fun a r hr hc _ => ?_
    rw [Int.toNat_natCast] at hr
    refine Rd_one (c := .sl) (x := r) oII hc ?_
    have hrl : r.len = l.length := (hn.row i r l hr (mixK_at hl)).1
    unfold culletlaw12_TrieKeysMemory.l4
    rw [hrl]
    refine loopW_of (fun st w' => st.1 = a1 ∧ st.2.1 = a2 ∧ st.2.2.1 = a3 ∧ st.2.2.2.1 = a4 ∧ st.2.2.2.2.1 = (j : Int) ∧ st.2.2.2.2.2.1 = (i : Int) ∧ st.2.2.2.2.2.2.1 = r ∧ st.2.2.2.2.2.2.2.1 = a6 ∧ st.2.2.2.2.2.2.2.2.1 = a7 ∧ st.2.2.2.2.2.2.2.2.2.1 = a8 ∧ st.2.2.2.2.2.2.2.2.2.2.1 = a9 ∧ st.2.2.2.2.2.2.2.2.2.2.2.1 = (ls.length : Int) ∧ st.2.2.2.2.2.2.2.2.2.2.2.2.1 = (i : Int) ∧ st.2.2.2.2.2.2.2.2.2.2.2.2.2.1 = (l.length : Int) ∧
        ∃ p : Nat, p ≤ l.length ∧ st.2.2.2.2.2.2.2.2.2.2.2.2.2.2.1 = (p : Int) ∧ Mo (fun b => lo ≤ b ∧ b < up) w w' ∧ NestIn i64v 3 29 lo up w' a9 ss ((mixK j i ls).set i ((kk j i l.length).take p ++ l.drop p))) (fun st _ => l.length - st.2.2.2.2.2.2.2.2.2.2.2.2.2.2.1.toNat) ?_
      ⟨rfl, rfl, rfl, rfl, rfl, rfl, rfl, rfl, rfl, rfl, rfl, rfl, rfl, rfl, 0, Nat.zero_le _, rfl, hm, by rw [show (kk j i l.length).take 0 ++ l.drop 0 = l from rfl, mixK_same hl]; exact hn⟩
    rintro k4 ⟨b1, b2, b3, b4, b5, b6, b7, b8', b9, b10, b11, b12, b13, b14, p', u2⟩ w2 hI2 hk2
    dsimp only at hI2 hk2 ⊢
    obtain ⟨rfl, rfl, rfl, rfl, rfl, rfl, rfl, rfl, rfl, rfl, rfl, rfl, rfl, rfl, p, hp, rfl, hm2, hn2⟩ := hI2
    unfold culletlaw12_TrieKeysMemory.b4
    refine Cd_dec (fun hlt2 => ?_) (fun hge2 => ?_)
    · have hrow := hn2.row i b7 _ hr (by rw [List.getElem?_set_self (by rw [mixK_len]; omega)])
      refine Wu_set (f := i64v) (x := cK j i p) hrow (by simp [kk_len]; omega) tI sI sI rfl rfl fun w3 ho3 hm3 => ?_
      rw [kk_step (by omega)] at ho3
      have hn3 := hn2.set hr ho3 hm3
      rw [List.set_set] at hn3
      rw [wrap64 (x := (p : Int) + 1) (by omega) (by omega)]
      refine hk2 _ _ ⟨rfl, rfl, rfl, rfl, rfl, rfl, rfl, rfl, rfl, rfl, rfl, rfl, rfl, rfl, p + 1, by omega, by dsimp only; omega, hm2.trans hm3 (fun _ => id) (fun b _ hb => hn2.low hr hb), hn3⟩ (by simp only; omega)
    · obtain rfl : p = l.length := by omega
      rw [List.drop_length, List.append_nil, List.take_of_length_le (by rw [kk_len]; exact Nat.le_refl _), mixK_next hl] at hn2
      rw [wrap64 (x := (i : Int) + 1) (by omega) (by omega)]
      exact hk _ _ ⟨rfl, rfl, rfl, rfl, rfl, rfl, rfl, rfl, rfl, rfl, i + 1, by omega, by dsimp only; omega, hm2, hn2⟩ (by simp only; omega)
  · obtain rfl : i = ls.length := by omega
    rw [mixK_all] at hn
    exact hK _ hn hm
theorem keys_l2 {vs : List Iv} {L : List (List (List Int))} {B : Nat} {w : World} (hL : KLists w vs L) (hval : Own slv 45 B w lists (vs.map (·.s))) (hval2 : ∀ b, SlIn lists b → ¬ InIv vs b) (hll : SmallK L) (hGl : L.length ≤ 8)
    (hK : ∀ w', Mo (InIv vs) w w' → KLists w' vs (fillKG L.length L) → Own slv 45 B w' lists (vs.map (·.s)) → culletlaw12_TrieKeysMemory.l5 R (t5, want, order, lists, nilS, lists, ((lists.len : Nat) : Int), 0, ()) w') :
    culletlaw12_TrieKeysMemory.l2 R (t5, want, order, lists, lists, ((lists.len : Nat) : Int), 0, ()) w := by
  have hvl : lists.len = L.length := by rw [hval.1, List.length_map, hL.len]
  rw [hvl]
  unfold culletlaw12_TrieKeysMemory.l2
  refine loopW_of (fun st w' => st.1 = t5 ∧ st.2.1 = want ∧ st.2.2.1 = order ∧ st.2.2.2.1 = lists ∧ st.2.2.2.2.1 = lists ∧ st.2.2.2.2.2.1 = (L.length : Int) ∧ ∃ j : Nat, j ≤ L.length ∧ st.2.2.2.2.2.2.1 = (j : Int) ∧ Mo (InIv vs) w w' ∧ KLists w' vs (fillKG j L) ∧ Own slv 45 B w' lists (vs.map (·.s))) (fun st _ => L.length - st.2.2.2.2.2.2.1.toNat) ?_
    ⟨rfl, rfl, rfl, rfl, rfl, rfl, 0, Nat.zero_le _, rfl, Mo.refl _ _, by rw [fillKG_zero]; exact hL, hval⟩
  rintro k ⟨a1, a2, a3, a4, a5, a6, j', u⟩ w1 hI hk
  dsimp only at hI hk ⊢
  obtain ⟨rfl, rfl, rfl, h4, rfl, rfl, j, hj, rfl, hm, hL1, hval1⟩ := hI
  subst h4
  unfold culletlaw12_TrieKeysMemory.b2
  refine Cd_dec (fun hlt => ?_) (fun hge => ?_)
  · have hjl : j < L.length := by omega
    have hg := List.getElem?_eq_getElem hjl
    have hlen := hll _ (List.getElem_mem hjl)
    generalize L[j] = g at hg hlen
    refine Pu_idx hval1.rds tIII sIII (by omega) (by rw [List.length_map, hL.len]; omega) fun a x hx hc _ => ?_
    rw [Int.toNat_natCast, List.getElem?_map] at hx
    obtain ⟨v, hv, rfl⟩ := Option.map_eq_some_iff.1 hx
    refine Rd_one (c := .sl) (x := v.s) oIII hc ?_
    refine keys_l3 (hL1.each j v g hv (fillKG_at hg)) hlen fun w2 hn2 hm2 => ?_
    rw [wrap64 (x := (j : Int) + 1) (by omega) (by omega)]
    refine hk _ _ ⟨rfl, rfl, rfl, rfl, rfl, rfl, j + 1, by omega, by dsimp only; omega, hm.trans hm2 (fun _ => id) (fun b _ hb => in_of hv hb.1 hb.2), ?_, hval1.mo hm2 (fun b hb hb2 => hval2 b hb (in_of hv hb2.1 hb2.2))⟩ (by simp only; omega)
    rw [← fillKG_next hg]
    exact hL1.set hv hn2 hm2
  · obtain rfl : j = L.length := by omega
    exact hK w1 hm hL1 hval1
end
end Go.Proofs.Ytdnlnloogfnlgaa
