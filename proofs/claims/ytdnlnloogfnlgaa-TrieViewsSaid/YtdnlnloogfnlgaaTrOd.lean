/- The document's Beginnings. -/
import Derived.Test.YtdnlnloogfnlgaaTrOb
set_option linter.all false
namespace Go.Proofs.Ytdnlnloogfnlgaa
open Go Go.Cu Go.RowKit
set_option linter.unusedVariables false
set_option maxHeartbeats 4000000
def prevK (ks : List Path) (i : Nat) : Path := if i = 0 then [] else ks.getD (i - 1) []
theorem allP_snoc : ∀ (l : List Path) (p k : Path), allP p (l ++ [k]) = allP p l ++ newP (l.getLastD p) k
  | [], p, k => by simp [allP]
  | x :: l, p, k => by
    rw [List.cons_append]
    unfold allP
    rw [allP_snoc l x k, List.append_assoc]
    congr 2
    cases l <;> rfl
theorem last_prev {ks : List Path} {i : Nat} (hi : i ≤ ks.length) : (ks.take i).getLastD [] = prevK ks i := by
  unfold prevK
  by_cases h : i = 0
  · subst h; rfl
  · rw [if_neg h, List.getLastD_eq_getLast?, List.getLast?_eq_getElem?, List.length_take, Nat.min_eq_left hi, List.getElem?_take, if_pos (by omega), List.getD_eq_getElem?_getD]
theorem allP_len_succ {ks : List Path} {i : Nat} (hi : i < ks.length) : (allP [] (ks.take (i + 1))).length = (allP [] (ks.take i)).length + (ks[i].length - com (prevK ks i) ks[i]) := by
  have : ks.take (i + 1) = ks.take i ++ [ks[i]] := by rw [List.take_add_one, List.getElem?_eq_getElem hi]; rfl
  rw [this, allP_snoc, List.length_append, newP_len, last_prev (by omega)]
theorem com_at {p k : Path} {c : Nat} {x y : Int} (hx : p[c]? = some x) (hy : k[c]? = some y) : com (p.drop c) (k.drop c) = if x = y then com (p.drop (c + 1)) (k.drop (c + 1)) + 1 else 0 := by
  rw [drop_at hx, drop_at hy]; rfl
theorem com_end1 (p k : Path) (c : Nat) (h : p.length ≤ c) : com (p.drop c) (k.drop c) = 0 := by rw [List.drop_of_length_le h]; rfl
theorem com_end2 (p k : Path) (c : Nat) (h : k.length ≤ c) : com (p.drop c) (k.drop c) = 0 := by
  rw [List.drop_of_length_le (l := k) h]
  cases p.drop c <;> rfl
theorem beginnings_gv {F : Nat → Prop} (s : Sl) (ks : List Path) (w : World) (h : Nest i64v F w s ks) (hl : ks.length ≤ 1024) (hkl : ∀ k ∈ ks, k.length ≤ 300) : Gv Try.prog 64 #[slv s] (.int .i64 ((allP [] ks).length : Int)) w := by
  have hlen := nest_len h
  obtain ⟨rs, r1, r2, _, r4⟩ := h
  refine culletref12_Beginnings.run _ s w ?_
  unfold culletref12_Beginnings.M culletref12_Beginnings.l1
  rw [hlen]
  refine loopW_of (fun st w' => Ex w w' ∧ st.1 = s ∧ st.2.2.1 = s ∧ st.2.2.2.1 = (ks.length : Int) ∧ ∃ i : Nat, i ≤ ks.length ∧ st.2.2.2.2.1 = (i : Int) ∧ st.2.1 = ((allP [] (ks.take i)).length : Int) ∧ (allP [] (ks.take i)).length ≤ 300 * i) (fun st _ => ks.length - st.2.2.2.2.1.toNat) ?_
    ⟨Ex.refl w, rfl, rfl, rfl, 0, Nat.zero_le _, rfl, rfl, Nat.le_refl _⟩
  rintro k ⟨a1, n', a2, a3, i', u⟩ w' hI hk
  dsimp only at hI hk ⊢
  obtain ⟨hx, rfl, rfl, rfl, i, hi, rfl, rfl, hn⟩ := hI
  unfold culletref12_Beginnings.b1
  refine Cd_dec (fun hlt => ?_) (fun hge => ?_)
  rotate_left
  · have : i = ks.length := by omega
    subst this
    rw [List.take_length]
    exact ⟨rfl, hx⟩
  have hik : i < ks.length := by omega
  refine Pu_idx (r1.ex hx) tII sII (by omega) (by omega) fun a x hx1 hc1 _ => ?_
  refine Rd_one (c := .sl) (x := x) oII hc1 ?_
  rw [Int.toNat_natCast] at hx1
  have hki : ks[i]? = some ks[i] := List.getElem?_eq_getElem hik
  obtain ⟨hxr, _⟩ := r4 i x _ hx1 hki
  have hkli := hkl _ (List.getElem_mem hik)
  have hsucc := allP_len_succ hik
  have hxl := hxr.1
  have hcl := (com_le (prevK ks i) ks[i]).2
  -- the key's share is added
  have fin : ∀ (c : Nat) (w2 : World), Ex w w2 → c = com (prevK ks i) ks[i] → culletref12_Beginnings.j1 (fun en w1 => en = Ending.returned (.int .i64 ((allP [] ks).length : Int)) ∧ Ex w w1) k a2 ((allP [] (ks.take i)).length : Int) x (c : Int) a2 (ks.length : Int) (i : Int) w2 := by
    rintro c w2 hx2 rfl
    unfold culletref12_Beginnings.j1
    rw [wrap64 (x := (i : Int) + 1) (by omega) (by omega), wrap64 (x := ((x.len : Nat) : Int) - (com (prevK ks i) ks[i] : Int)) (by omega) (by omega), wrap64 (x := ((allP [] (ks.take i)).length : Int) + (((x.len : Nat) : Int) - (com (prevK ks i) ks[i] : Int))) (by omega) (by omega)]
    refine hk _ _ ⟨hx2, rfl, rfl, rfl, i + 1, by omega, by simp, ?_, by omega⟩ (by simp only; omega)
    dsimp only
    omega
  refine Cd_dec (fun hpos => ?_) (fun hz => ?_)
  rotate_left
  · refine fin 0 w' hx ?_
    have : i = 0 := by omega
    subst this
    rfl
  have hpi : i - 1 < ks.length := by omega
  have hkp : ks[i - 1]? = some ks[i - 1] := List.getElem?_eq_getElem hpi
  have hprev : prevK ks i = ks[i - 1] := by unfold prevK; rw [if_neg (by omega), List.getD_eq_getElem?_getD, hkp]; rfl
  have hklp := hkl _ (List.getElem_mem hpi)
  rw [hprev] at fin hcl
  generalize ks[i - 1] = prev at *
  generalize ks[i] = key at *
  unfold culletref12_Beginnings.l2
  refine loopW_of (fun st w2 => Ex w w2 ∧ st.1 = a2 ∧ st.2.1 = ((allP [] (ks.take i)).length : Int) ∧ st.2.2.1 = (i : Int) ∧ st.2.2.2.1 = x ∧ st.2.2.2.2.2.1 = a2 ∧ st.2.2.2.2.2.2.1 = (ks.length : Int) ∧ st.2.2.2.2.2.2.2.1 = (i : Int) ∧ ∃ c : Nat, c ≤ key.length ∧ st.2.2.2.2.1 = (c : Int) ∧ com prev key = c + com (prev.drop c) (key.drop c)) (fun st _ => key.length - st.2.2.2.2.1.toNat) ?_
    ⟨hx, rfl, rfl, rfl, rfl, rfl, rfl, rfl, 0, Nat.zero_le _, rfl, by simp⟩
  rintro k2 ⟨b1, b2, b3, b4, c', b5, b6, b7, u2⟩ w2 hI2 hk2
  dsimp only at hI2 hk2 ⊢
  obtain ⟨hx2, rfl, rfl, rfl, rfl, rfl, rfl, rfl, c, hc, rfl, hcom⟩ := hI2
  have hxd := hx2.trans (Ex.drew w2)
  have j2f : ∀ (b : Bool), (b = true → c < key.length ∧ com prev key = (c + 1) + com (prev.drop (c + 1)) (key.drop (c + 1))) → (b = false → c = com prev key) → culletref12_Beginnings.j2 (fun en w1 => en = Ending.returned (.int .i64 ((allP [] ks).length : Int)) ∧ Ex w w1) k k2 b5 ((allP [] (ks.take i)).length : Int) (i : Int) b4 (c : Int) b5 (ks.length : Int) (i : Int) b w2.drew := by
    intro b h1 h2
    unfold culletref12_Beginnings.j2
    refine Cd_of (fun hb => ?_) (fun hb => fin c _ hxd (h2 hb))
    obtain ⟨g1, g2⟩ := h1 hb
    rw [wrap64 (x := (c : Int) + 1) (by omega) (by omega)]
    exact hk2 _ _ ⟨hxd, rfl, rfl, rfl, rfl, rfl, rfl, rfl, c + 1, by omega, by simp, g2⟩ (by simp only; omega)
  unfold culletref12_Beginnings.b2
  refine Cd_dec (fun hcl1 => ?_) (fun hcl1 => j2f false (fun h => by cases h) (fun _ => ?_))
  rotate_left
  · rw [com_end2 _ _ _ (by omega)] at hcom; omega
  have hr1d := r1.ex hxd
  rw [wrap64 (x := (i : Int) - 1) (by omega) (by omega)]
  refine Pu_idx hr1d tII sII (by omega) (by omega) fun a3 y hy1 hc3 _ => ?_
  refine RdS_same (Rd_one (c := .sl) (x := y) oII hc3 ?_)
  rw [show ((i : Int) - 1).toNat = i - 1 by omega] at hy1
  obtain ⟨hyr, _⟩ := r4 _ y _ hy1 hkp
  have hyl := hyr.1
  refine Cd_dec (fun hcl2 => ?_) (fun hcl2 => j2f false (fun h => by cases h) (fun _ => ?_))
  rotate_left
  · rw [com_end1 _ _ _ (by omega)] at hcom; omega
  refine Pu_idx (hxr.ex hxd) tI sI (by omega) (by omega) fun a4 z hz1 hc4 _ => ?_
  refine RdS_same (Rd_one (c := .int .i64) (x := z) oI hc4 ?_)
  refine Pu_idx hr1d tII sII (by omega) (by omega) fun a5 y5 hy5 hc5 _ => ?_
  refine RdS_same (Rd_one (c := .sl) (x := y5) oII hc5 ?_)
  rw [show ((i : Int) - 1).toNat = i - 1 by omega, hy1] at hy5
  cases hy5
  refine Pu_idx (hyr.ex hxd) tI sI (by omega) (by omega) fun a6 v hv1 hc6 _ => ?_
  refine RdS_same (Rd_one (c := .int .i64) (x := v) oI hc6 ?_)
  rw [Int.toNat_natCast] at hz1 hv1
  rw [com_at hv1 hz1] at hcom
  refine j2f _ (fun hb => ?_) (fun hb => ?_)
  · have : z = v := beq_t hb
    rw [if_pos this.symm] at hcom
    omega
  · have : z ≠ v := beq_f hb
    rw [if_neg (fun e => this e.symm)] at hcom
    omega
end Go.Proofs.Ytdnlnloogfnlgaa
