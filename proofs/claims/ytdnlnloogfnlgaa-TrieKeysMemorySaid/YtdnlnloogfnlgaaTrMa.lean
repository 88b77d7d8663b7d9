/- Values written over in place: every cell of every row. -/
import Derived.Test.YtdnlnloogfnlgaaTrVa
import Derived.Test.YtdnlnloogfnlgaaGrowLib
set_option linter.all false
namespace Go.Proofs.Ytdnlnloogfnlgaa
open Go Go.Cu Go.RowKit
set_option linter.unusedVariables false
set_option maxHeartbeats 2000000
def cellF (x : Int) (i : Nat) : Int := IntKind.wrap .u8 (x + IntKind.wrap .u8 (i : Int))
def mixL (x : Int) (k : Nat) (ls : List (List Int)) : List (List Int) := ls.mapIdx fun i l => if i < k then List.replicate l.length (cellF x i) else l
def fillL (x : Int) (ls : List (List Int)) : List (List Int) := ls.mapIdx fun i l => List.replicate l.length (cellF x i)
theorem mixL_zero (x : Int) (ls : List (List Int)) : mixL x 0 ls = ls := by
  refine List.ext_getElem? fun j => ?_
  unfold mixL
  rw [List.getElem?_mapIdx]
  cases ls[j]? <;> simp
theorem mixL_all (x : Int) (ls : List (List Int)) : mixL x ls.length ls = fillL x ls := by
  refine List.ext_getElem? fun j => ?_
  unfold mixL fillL
  rw [List.getElem?_mapIdx, List.getElem?_mapIdx]
  cases h : ls[j]? with
  | none => rfl
  | some l =>
    have := (List.getElem?_eq_some_iff.1 h).1
    simp [this]
theorem mixL_len (x : Int) (k : Nat) (ls : List (List Int)) : (mixL x k ls).length = ls.length := by simp [mixL]
theorem fillL_len (x : Int) (ls : List (List Int)) : (fillL x ls).length = ls.length := by simp [fillL]
theorem mixL_at {x : Int} {k : Nat} {ls : List (List Int)} {l : List Int} (h : ls[k]? = some l) : (mixL x k ls)[k]? = some l := by
  unfold mixL
  rw [List.getElem?_mapIdx, h]
  simp
theorem mixL_next {x : Int} {k : Nat} {ls : List (List Int)} {l : List Int} (h : ls[k]? = some l) : (mixL x k ls).set k (List.replicate l.length (cellF x k)) = mixL x (k + 1) ls := by
  refine List.ext_getElem? fun j => ?_
  have hk := (List.getElem?_eq_some_iff.1 h).1
  rw [List.getElem?_set]
  unfold mixL
  rw [List.length_mapIdx, List.getElem?_mapIdx, List.getElem?_mapIdx]
  by_cases hj : k = j
  · subst hj
    rw [if_pos rfl, if_pos hk, h]
    simp
  · rw [if_neg hj]
    cases ls[j]? with
    | none => rfl
    | some m =>
      by_cases h2 : j < k
      · simp [h2, show j < k + 1 by omega]
      · simp [h2, show ¬ j < k + 1 by omega]
theorem mixL_same {x : Int} {k : Nat} {ls : List (List Int)} {l : List Int} (h : ls[k]? = some l) : (mixL x k ls).set k l = mixL x k ls := by
  refine List.ext_getElem? fun j => ?_
  have hk := (List.getElem?_eq_some_iff.1 h).1
  rw [List.getElem?_set, mixL_len]
  by_cases hj : k = j
  · subst hj
    rw [if_pos rfl, if_pos hk, mixL_at h]
  · rw [if_neg hj]
theorem fill_step {α : Type} (c : α) (l : List α) {p : Nat} (h : p < l.length) : (List.replicate p c ++ l.drop p).set p c = List.replicate (p + 1) c ++ l.drop (p + 1) := by
  have h1 : p = (List.replicate p c).length := by simp
  rw [List.drop_eq_getElem_cons h, List.replicate_succ']
  conv => lhs; arg 2; rw [h1]
  rw [List.set_append_right _ _ (Nat.le_refl _), Nat.sub_self, List.set_cons_zero, List.append_assoc, List.singleton_append]
theorem fillL_mem {x : Int} {ls : List (List Int)} (h : RowsLe ls) : RowsLe (fillL x ls) := by
  refine ⟨by rw [fillL_len]; exact h.1, fun l hl => ?_⟩
  obtain ⟨i, hi⟩ := List.mem_iff_getElem?.1 hl
  unfold fillL at hi
  rw [List.getElem?_mapIdx] at hi
  cases hm : ls[i]? with
  | none => rw [hm] at hi; cases hi
  | some m =>
    rw [hm] at hi
    cases hi
    rw [List.length_replicate]
    exact h.2 m (List.mem_of_getElem? hm)
theorem filled_ok {lo up : Nat} {w : World} {v : Sl} {ss : List Sl} {ls : List (List Int)} (x : Int) (h : NestIn b8 5 52 lo up w v ss ls) (hle : RowsLe ls) :
    Calls Try.prog 26 #[slv v, .int .u8 x] w fun en w' => en = .returned (.tuple #[]) ∧ NestIn b8 5 52 lo up w' v ss (fillL x ls) ∧ Mo (fun b => lo ≤ b ∧ b < up) w w' := by
  have hvl : v.len = ls.length := by rw [h.out.1, h.len]
  have h1 := hle.1
  refine culletlaw12_filled.run _ v x w ?_
  unfold culletlaw12_filled.M culletlaw12_filled.l1
  rw [hvl]
  refine loopW_of (fun st w' => st.1 = v ∧ st.2.1 = x ∧ st.2.2.1 = (ls.length : Int) ∧ ∃ i : Nat, i ≤ ls.length ∧ st.2.2.2.1 = (i : Int) ∧ Mo (fun b => lo ≤ b ∧ b < up) w w' ∧ NestIn b8 5 52 lo up w' v ss (mixL x i ls)) (fun st _ => ls.length - st.2.2.2.1.toNat) ?_
    ⟨rfl, rfl, rfl, 0, Nat.zero_le _, rfl, Mo.refl _ _, by rw [mixL_zero]; exact h⟩
  rintro k ⟨v', x', n', i', u⟩ w1 hI hk
  dsimp only at hI hk ⊢
  obtain ⟨rfl, rfl, rfl, i, hi, rfl, hm, hn⟩ := hI
  unfold culletlaw12_filled.b1
  refine Cd_dec (fun hlt => ?_) (fun hge => ?_)
  · have hil : i < ls.length := by omega
    have hl := List.getElem?_eq_getElem hil
    have hlen := hle.2 _ (List.getElem_mem hil)
    generalize ls[i] = l at hl hlen
    refine Pu_idx hn.out.rds tBB sBB (by omega) (by have := hn.len; rw [mixL_len] at this; omega) fun a r hr hc _ => ?_
    rw [Int.toNat_natCast] at hr
    refine Rd_one (c := .sl) (x := r) oBB hc ?_
    have hrl : r.len = l.length := (hn.row i r l hr (mixL_at hl)).1
    unfold culletlaw12_filled.l2
    rw [hrl]
    refine loopW_of (fun st w' => st.1 = v' ∧ st.2.1 = x' ∧ st.2.2.1 = (i : Int) ∧ st.2.2.2.1 = (ls.length : Int) ∧ st.2.2.2.2.1 = (i : Int) ∧ st.2.2.2.2.2.1 = (l.length : Int) ∧ ∃ p : Nat, p ≤ l.length ∧ st.2.2.2.2.2.2.1 = (p : Int) ∧ Mo (fun b => lo ≤ b ∧ b < up) w w' ∧ NestIn b8 5 52 lo up w' v' ss ((mixL x' i ls).set i (List.replicate p (cellF x' i) ++ l.drop p))) (fun st _ => l.length - st.2.2.2.2.2.2.1.toNat) ?_
      ⟨rfl, rfl, rfl, rfl, rfl, rfl, 0, Nat.zero_le _, rfl, hm, by rw [show List.replicate 0 (cellF x' i) ++ l.drop 0 = l from rfl, mixL_same hl]; exact hn⟩
    rintro k2 ⟨v2, x2, i2, n2, j2, m2, p', u2⟩ w2 hI2 hk2
    dsimp only at hI2 hk2 ⊢
    obtain ⟨rfl, rfl, rfl, rfl, rfl, rfl, p, hp, rfl, hm2, hn2⟩ := hI2
    unfold culletlaw12_filled.b2
    refine Cd_dec (fun hlt2 => ?_) (fun hge2 => ?_)
    · refine Pu_idx hn2.out.rds tBB sBB (by omega) (by have := hn2.len; rw [List.length_set, mixL_len] at this; omega) fun a2 r2 hr2 hc2 _ => ?_
      rw [Int.toNat_natCast, hr] at hr2
      cases hr2
      refine Rd_one (c := .sl) (x := r) oBB hc2 ?_
      have hrow := hn2.row i r _ hr (by rw [List.getElem?_set_self (by rw [mixL_len]; omega)])
      refine Wu_set (f := b8) (x := cellF x2 i) hrow (by simp; omega) tB sB sB rfl rfl fun w3 ho3 hm3 => ?_
      rw [fill_step _ _ (by omega)] at ho3
      have hn3 := hn2.set hr ho3 hm3
      rw [List.set_set] at hn3
      rw [wrap64 (x := (p : Int) + 1) (by omega) (by omega)]
      refine hk2 _ _ ⟨rfl, rfl, rfl, rfl, rfl, rfl, p + 1, by omega, by dsimp only; omega, hm2.trans hm3 (fun _ => id) (fun b _ hb => hn2.low hr hb), hn3⟩ (by simp only; omega)
    · obtain rfl : p = l.length := by omega
      rw [List.drop_length, List.append_nil, mixL_next hl] at hn2
      rw [wrap64 (x := (i : Int) + 1) (by omega) (by omega)]
      exact hk _ _ ⟨rfl, rfl, rfl, i + 1, by omega, by dsimp only; omega, hm2, hn2⟩ (by simp only; omega)
  · obtain rfl : i = ls.length := by omega
    rw [mixL_all] at hn
    exact ⟨rfl, hn, hm⟩
end Go.Proofs.Ytdnlnloogfnlgaa
