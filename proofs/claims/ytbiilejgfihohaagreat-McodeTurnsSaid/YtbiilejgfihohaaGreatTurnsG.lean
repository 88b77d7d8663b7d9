/- A part of what the last text of this claim leans on. -/
import Derived.Test.YtbiilejgfihohaaGreatTurnsF
import Derived.ChangeSlices
import Derived.ChangeArms
import Derived.Deep.Slices
import Derived.Deep.DeepHandedRow
import Derived.Lib.LaidTab
import Derived.Carry
import Derived.SizedLaws
import Derived.Test.YtbiilejgfihohaaGreatRows
import Derived.WalkKit
import Derived.ProofKit
import Derived.OpenShut
set_option linter.all false
namespace Go.Proofs.YtbiilejgfihohaaGreat
open Go Go.Cu
set_option linter.unusedVariables false
set_option maxHeartbeats 4000000
theorem ent_spread {a b n m i t : Nat} {c d : List F8} {D : Mtx} (hab : a ≤ b) (hb : b ≤ n) (hc : c.length = m) (hd : d.length = n) (hD : Shp D m n) (hi : i < m) : ent (spreadM a b c d D) i t = if a ≤ t ∧ t < b then ent D i t ^^^ fmul (c.getD i 0#8) (d.getD t 0#8) else ent D i t := by
  obtain ⟨r, hr, hrl⟩ := row_at hD hi
  have hci : c[i]? = some (c.getD i 0#8) := by rw [List.getD_eq_getElem?_getD, List.getElem?_eq_getElem (by omega)]; rfl
  have e : (spreadM a b c d D)[i]? = some (spanR a b r (addM d (c.getD i 0#8) r)) := by
    unfold spreadM
    rw [List.getElem?_zipWith, hci, hr]
  rw [ent_row e, spanR_get hab (by omega) (by rw [addM_len (by omega)]; omega), addM_get (by omega), ent_row hr]
theorem colF_get {Q : Mtx} {m k i x : Nat} (hQ : Shp Q m k) (hi : i < m) : (colF' Q x).getD i 0#8 = ent Q i x := by
  obtain ⟨r, hr, _⟩ := row_at hQ hi
  have : (colF' Q x)[i]? = some (r.getD x 0#8) := by unfold colF'; rw [List.getElem?_map, hr]; rfl
  rw [getD_get this, ent_row hr]
theorem zip_get {x y : List F8} {n t : Nat} (hx : x.length = n) (hy : y.length = n) (ht : t < n) : (List.zipWith (· ^^^ ·) x y).getD t 0#8 = x.getD t 0#8 ^^^ y.getD t 0#8 := by
  rw [List.getD_eq_getElem?_getD, List.getD_eq_getElem?_getD, List.getD_eq_getElem?_getD, List.getElem?_zipWith, List.getElem?_eq_getElem (by omega : t < x.length), List.getElem?_eq_getElem (by omega : t < y.length)]
  rfl
theorem fsum_cons {k x : Nat} {L : List Nat} {g : Nat → F8} (hx : x < k) (hn : x ∉ L) : fsum k (fun c => if c ∈ x :: L then g c else 0#8) = g x ^^^ fsum k (fun c => if c ∈ L then g c else 0#8) := by
  rw [fsum_congr (g := fun c => (if c = x then g c else 0#8) ^^^ (if c ∈ L then g c else 0#8)) (fun c _ => ?_), fsum_xor, fsum_one (k := x) hx (fun i _ hi => if_neg hi), if_pos rfl]
  by_cases h : c = x
  · subst h
    rw [if_pos (by simp), if_pos rfl, if_neg hn, BitVec.xor_zero]
  · by_cases h2 : c ∈ L
    · rw [if_pos (by simp [h2]), if_neg h, if_pos h2, BitVec.zero_xor]
    · rw [if_neg (by simp [h, h2]), if_neg h, if_neg h2, BitVec.xor_zero]
theorem ent_upd {fr to n k m i t : Nat} {Q M Fm : Mtx} (h1 : fr ≤ to) (h2 : to ≤ n) (hQ : Shp Q m k) (hM : ∀ x, x < k → (M.getD x []).length = n) (hi : i < m) (ht : t < n) :
    ∀ (L : List Nat) (D : Mtx), L.Nodup → (∀ x ∈ L, x < k ∧ (Fm.getD x []).length = n) → Shp D m n → ent (updM fr to Q M Fm L D) i t = if fr ≤ t ∧ t < to then ent D i t ^^^ fsum k (fun c => if c ∈ L then fmul (ent Q i c) (ent M c t ^^^ ent Fm c t) else 0#8) else ent D i t
  | [], D, _, _, _ => by
    unfold updM
    rw [List.foldl_nil]
    split
    · rw [fsum_zero (fun c _ => by simp), BitVec.xor_zero]
    · rfl
  | x :: L, D, hN, hL, hD => by
    have hx := hL x (by simp)
    have hxn := (List.nodup_cons.1 hN).1
    have hzl : (List.zipWith (· ^^^ ·) (M.getD x []) (Fm.getD x [])).length = n := by rw [List.length_zipWith, hM x hx.1, hx.2, Nat.min_self]
    have hcl : (colF' Q x).length = m := by unfold colF'; rw [List.length_map]; exact hQ.1
    have hS := spreadM_shp (c := colF' Q x) (d := List.zipWith (· ^^^ ·) (M.getD x []) (Fm.getD x [])) h1 h2 hcl hzl hD
    have ih := ent_upd h1 h2 hQ hM hi ht L _ (List.nodup_cons.1 hN).2 (fun y hy => hL y (by simp [hy])) hS
    have e : updM fr to Q M Fm (x :: L) D = updM fr to Q M Fm L (spreadM fr to (colF' Q x) (List.zipWith (· ^^^ ·) (M.getD x []) (Fm.getD x [])) D) := rfl
    rw [e, ih, ent_spread h1 h2 hcl hzl hD hi]
    by_cases h : fr ≤ t ∧ t < to
    · rw [if_pos h, if_pos h, if_pos h, fsum_cons hx.1 hxn, colF_get hQ hi, zip_get (hM x hx.1) hx.2 ht, BitVec.xor_assoc]
      rfl
    · rw [if_neg h, if_neg h, if_neg h]
theorem turn_col {n k m t : Nat} {Q M Fm N : Mtx} {L : List Nat} (hQ : Shp Q m k) (hM : Shp M (k + m) n) (hN : L.Nodup) (hL : ∀ x ∈ L, x < k ∧ (Fm.getD x []).length = n) (ht : t < n) (hc : Col k m Q M t) (hNow : ∀ x, x < k → ent N x t = if x ∈ L then ent Fm x t else ent M x t) {i : Nat} (hi : i < m) :
    ent (updM 0 n Q M Fm L (M.drop k)) i t = fsum k (fun c => fmul (ent Q i c) (ent N c t)) := by
  rw [ent_upd (Nat.zero_le _) (Nat.le_refl _) hQ (fun x hx => hM.row (by omega)) hi ht L _ hN hL (shp_dropM hM), if_pos ⟨Nat.zero_le _, ht⟩, ent_drop, hc i hi, ← fsum_xor]
  refine fsum_congr fun c hc => ?_
  rw [hNow c hc]
  by_cases h : c ∈ L
  · rw [if_pos h, if_pos h, ← fmul_xor_right, ← BitVec.xor_assoc, BitVec.xor_self, BitVec.zero_xor]
  · rw [if_neg h, if_neg h, BitVec.xor_zero]
end Go.Proofs.YtbiilejgfihohaaGreat
set_option linter.all false
namespace Go.Proofs.YtbiilejgfihohaaGreat
open Go Go.Cu Go.RowKit
set_option linter.unusedVariables false
set_option maxHeartbeats 4000000
set_option maxRecDepth 100000
theorem stepG_keep {α : Type} {A l : List α} {i : Nat} {x : α} (h : A.length = l.length) (hx : A[i]? = some x) (hl : l[i]? = some x) : A.take i ++ l.drop i = A.take (i + 1) ++ l.drop (i + 1) := by
  rw [← stepG h hx]
  refine List.ext_getElem? fun j => ?_
  rw [List.getElem?_set]
  by_cases e : i = j
  · subst e
    rw [stepG_get h hl, if_pos rfl, if_pos]
    have := (List.getElem?_eq_some_iff.1 hl).1
    rw [List.length_append, List.length_take, List.length_drop]; omega
  · rw [if_neg e]
def freF (other : List F8) (n i t : Nat) : F8 := if i * n + t < other.length then other.getD (i * n + t) 0#8 else 0#8
def frRow (other : List F8) (n i : Nat) : List F8 := (List.range n).map (freF other n i)
theorem frRow_len (other : List F8) (n i : Nat) : (frRow other n i).length = n := by unfold frRow; rw [List.length_map, List.length_range]
def frM (B : List Bool) (other : List F8) (n k : Nat) : Mtx := (List.range k).map (fun x => if B.getD x false then frRow other n x else [])
theorem frM_at {B : List Bool} {other : List F8} {n k i : Nat} (hi : i < k) : (frM B other n k)[i]? = some (if B.getD i false then frRow other n i else []) := by unfold frM; rw [List.getElem?_map, List.getElem?_range hi]; rfl
def nowM (B : List Bool) (other : List F8) (n k : Nat) (M : Mtx) : Mtx := (List.range M.length).map (fun x => if x < k ∧ B.getD x false = true then frRow other n x else M.getD x [])
theorem nowM_at {B : List Bool} {other : List F8} {n k i : Nat} {M : Mtx} (hi : i < M.length) : (nowM B other n k M)[i]? = some (if i < k ∧ B.getD i false = true then frRow other n i else M.getD i []) := by unfold nowM; rw [List.getElem?_map, List.getElem?_range hi]; rfl
theorem shp_now {B : List Bool} {other : List F8} {n k r : Nat} {M : Mtx} (hM : Shp M r n) : Shp (nowM B other n k M) r n := by
  refine ⟨by unfold nowM; rw [List.length_map, List.length_range, hM.1], fun row h => ?_⟩
  obtain ⟨i, hi⟩ := List.mem_iff_getElem?.1 h
  have hil : i < M.length := by have := (List.getElem?_eq_some_iff.1 hi).1; unfold nowM at this; rw [List.length_map, List.length_range] at this; exact this
  rw [nowM_at hil] at hi
  rw [← Option.some.inj hi]
  split
  · exact frRow_len _ _ _
  · exact hM.row (by rw [← hM.1]; exact hil)
theorem ent_now {B : List Bool} {other : List F8} {n k i t : Nat} {M : Mtx} (hi : i < M.length) : ent (nowM B other n k M) i t = if i < k ∧ B.getD i false = true then (frRow other n i).getD t 0#8 else ent M i t := by
  rw [ent_row (nowM_at hi)]
  split
  · rfl
  · rfl
theorem now_take {B : List Bool} {other : List F8} {n k : Nat} {M : Mtx} : (nowM B other n k M).take k ++ M.drop k = nowM B other n k M := by
  refine List.ext_getElem? fun i => ?_
  have hl : (nowM B other n k M).length = M.length := by unfold nowM; rw [List.length_map, List.length_range]
  by_cases hi : i < k
  · by_cases hm : i < M.length
    · rw [List.getElem?_append_left (by rw [List.length_take]; omega), List.getElem?_take, if_pos hi]
    · rw [List.getElem?_eq_none (by rw [List.length_append, List.length_take, List.length_drop]; omega), List.getElem?_eq_none (by omega)]
  · by_cases hm : i < M.length
    · rw [List.getElem?_append_right (by rw [List.length_take]; omega), List.length_take, List.getElem?_drop, show k + (i - min k (nowM B other n k M).length) = i by omega, nowM_at hm, if_neg (by omega), List.getD_eq_getElem?_getD, List.getElem?_eq_getElem hm]
      rfl
    · rw [List.getElem?_eq_none (by rw [List.length_append, List.length_take, List.length_drop]; omega), List.getElem?_eq_none (by omega)]
theorem given_fr {B : List Bool} {other : List F8} {n k : Nat} (hn : 1 ≤ n) : givenM (frM B other n k) = (List.range k).filter (fun x => B.getD x false) := by
  unfold givenM
  have hl : (frM B other n k).length = k := by unfold frM; rw [List.length_map, List.length_range]
  rw [hl]
  refine List.filter_congr fun i hi => ?_
  have hik := List.mem_range.1 hi
  have e : (frM B other n k).getD i [] = if B.getD i false then frRow other n i else [] := getD_get (frM_at hik)
  rw [e]
  cases hb : B.getD i false with
  | true => simp [frRow_len]; omega
  | false => simp
theorem turns_law (n : CodeI) (hn : Code64 n) (W : World) (sd so sp : Sl) (data other : List F8) (P : List Int) (hd : Rds f8v W sd data) (ho : Rds f8v W so other) (hp : Rds i64v W sp P) (hP : ∀ x ∈ P, I64 x) (hdl : data.length ≤ 140737488355328) (hol : other.length ≤ 140737488355328) (hpl : P.length ≤ 140737488355328) :
    Gv Tryz.prog 4 #[.agg #[.int .i64 n.1, .int .i64 n.2.1, .int .i64 n.2.2.1, .int .i64 n.2.2.2.1], .slice sd.base sd.len sd.cap, .slice so.base so.len so.cap, .slice sp.base sp.len sp.cap] (.bool true) W := by
  refine culletlaw17_McodeTurns.run _ n sd so sp W ?_
  generalize hRR : (fun (e : Ending) (w' : World) => e = .returned (.bool true) ∧ Ex W w') = R
  unfold culletlaw17_McodeTurns.M
  refine Wr_box fun w1 hB hx1 => ?_
  refine Rd_hasN (x := n) hB (by kernel_rfl) rfl ?_
  have hS1 := (Sep.init W).exx hx1
  refine open_ok 0 (by omega) hS1 hn fun a T2 Q w2 hS2 hC2 hT2 => ?_
  refine Cd_f (Pu_codnil ?_)
  unfold culletlaw17_McodeTurns.j1
  refine Cd_f ?_
  obtain ⟨k1, k2, _⟩ := cK_ok n
  obtain ⟨m1, m2, _⟩ := cM_ok n
  generalize hk : cK n = k at *
  generalize hm : cM n = m at *
  dsimp only
  obtain ⟨hN1, hN2⟩ := cutN_ok (len := data.length) (k := k) (most := 60) (by omega)
  refine Cl_mono (cut_ok (.mx 2 0) (m := m) (most := 60) hS2 (fun w' T' h' _ => h'.old hd) k1 (by omega) (by omega) (by omega) hdl) ?_
  rintro s w3 ⟨hs, hS3⟩
  have hM0 : Shp (cutM' data k m 60) (k + m) (cutN data.length k 60) := shp_gen _ _ _
  have h55 : ∀ i t, i < m → t < cutN data.length k 60 → ent (cutM' data k m 60) (k + i) t = 55#8 := by
    intro i t hi ht
    unfold cutM'
    rw [ent_gen _ (by omega) ht]
    unfold cutF
    rw [if_neg (by omega)]
  generalize cutM' data k m 60 = M0 at hS3 hM0 h55
  generalize cutN data.length k 60 = len at hN1 hN2 hM0 h55
  have hC3 := hC2.next (T' := T2.up (.mx 2 0) (ShT s hs M0)) (fun i => Ths.up_ne _ _ (by simp))
  obtain ⟨hQ, hMds⟩ := hC3.shp
  have hMR3 := sh_matR hS3 (Ths.up_same _ _ _)
  have hhl : hs.length = k + m := by rw [hMR3.len, hM0.1]
  obtain ⟨h0, hh0⟩ := atx (l := hs) (i := 0) (by omega)
  have hh0l := hMR3.lenS hM0.2 h0 (List.mem_of_getElem? hh0)
  refine rd_hdr (i := 0) hMR3.hdr hh0 ?_
  rw [hh0l]
  have row16 : ∀ {M : Mtx}, Shp M (k + m) len → M.length ≤ 65536 ∧ ∀ r ∈ M, r.length ≤ 1048576 := fun h => ⟨by rw [h.1]; omega, fun r hr => by rw [h.2 r hr]; omega⟩
  refine Cl_mono (copied_ok (.mx 2 1) hS3 (fun w' T' h' hT' => sh_matR h' ((hT' _ (by simp)).trans (Ths.up_same _ _ _))) (row16 hM0).1 (row16 hM0).2) ?_
  rintro sodd w4 ⟨hsodd, hS4⟩
  obtain ⟨T4, hT4e⟩ : ∃ T4, T4 = (T2.up (.mx 2 0) (ShT s hs M0)).up (.mx 2 1) (ShT sodd hsodd M0) := ⟨_, rfl⟩
  rw [← hT4e] at hS4
  have h40 : T4 (.mx 2 0) = ShT s hs M0 := by rw [hT4e, Ths.up_ne _ _ (by simp), Ths.up_same]
  have h41 : T4 (.mx 2 1) = ShT sodd hsodd M0 := by rw [hT4e, Ths.up_same]
  have hC4 : Cod T4 0 a (cF n) k m (cB n) Q [] 0 := hC2.next (fun i => by rw [hT4e, Ths.up_ne _ _ (by simp), Ths.up_ne _ _ (by simp)])
  refine Cl_mono (encode_ok hS4 hC4 h40 (by simp) hM0 hN1 (by omega)) ?_
  rintro _ w5 ⟨rfl, hS5⟩
  have hM1 := shp_enc (fr := 0) (Nat.zero_le _) (Nat.le_refl len) hQ hM0
  have hcol : ∀ t, t < len → Col k m Q (encM 0 len len k Q M0) t := fun t ht => col_enc (Nat.zero_le _) (Nat.le_refl _) hQ hM0 (Nat.zero_le _) ht
  have hdat : ∀ x t, x < k → ent (encM 0 len len k Q M0) x t = ent M0 x t := fun x t hx => by rw [ent_enc (Nat.zero_le _) (Nat.le_refl _) hQ hM0 (by omega), if_pos hx]
  generalize encM 0 len len k Q M0 = M1 at hS5 hM1 hcol hdat
  refine Cd_f ?_
  refine Cl_mono (copied_ok (.mx 2 2) hS5 (fun w' T' h' hT' => sh_matR h' ((hT' _ (by simp)).trans (Ths.up_same _ _ _))) (row16 hM1).1 (row16 hM1).2) ?_
  rintro sbase w6 ⟨hsbase, hS6⟩
  refine Cl_gv (d := .one (.at (.int .i64))) (x := intoI ((sp.len : Nat) : Int) 0 (k : Int)) (into_gv (by omega) (by omega) (by omega) (by have := hp.1; omega) (by have := hp.1; omega)) fun w7 hx7 => ?_
  have hcr := into_range (n := ((sp.len : Nat) : Int)) (show (0 : Int) ≤ (k : Int) by omega)
  obtain ⟨c, hc⟩ : ∃ c : Nat, intoI ((sp.len : Nat) : Int) 0 (k : Int) = (c : Int) := ⟨(intoI ((sp.len : Nat) : Int) 0 (k : Int)).toNat, by omega⟩
  rw [hc] at hcr ⊢
  refine Cl_mono (pick_sep_ok (.mx 2 3) (hS6.exx hx7) (fun w' T' h' _ => h'.old hp) hP k1 (by omega) (by omega)) ?_
  rintro sout w8 hS8
  obtain ⟨hBl, hBt⟩ := pickB_ok P (n := k) k1 c (by omega)
  generalize pickB k P c = B at hS8 hBl hBt
  refine Wr_make (f := slV) (z := ⟨none, 0, 0⟩) tBB iS rfl k (by omega) (by omega) rfl rfl fun sfr w9 hsfr hB9 hx9 => ?_
  have hO9 : Own slV 24 w8.heap.size w9 sfr (List.replicate k ⟨none, 0, 0⟩) := by rw [hsfr]; exact own_of_has (by simp) (by omega) hB9 (Nat.le_refl _)
  have hS9 := sh_init (k := .mx 2 4) hS8 hx9 hO9
  obtain ⟨T9, hT9e⟩ : ∃ T9, T9 = (((T4.up (.mx 2 0) (ShT s hs M1)).up (.mx 2 2) (ShT sbase hsbase M1)).up (.mx 2 3) (Owt bV 4 sout B)).up (.mx 2 4) (ShT sfr (List.replicate k ⟨none, 0, 0⟩) (List.replicate k [])) := ⟨_, rfl⟩
  rw [← hT9e] at hS9
  have h90 : T9 (.mx 2 0) = ShT s hs M1 := by rw [hT9e, Ths.up_ne _ _ (by simp), Ths.up_ne _ _ (by simp), Ths.up_ne _ _ (by simp), Ths.up_same]
  refine Cl_mono (copied_ok (.mx 2 5) hS9 (fun w' T' h' hT' => sh_matR h' ((hT' _ (by simp)).trans h90)) (row16 hM1).1 (row16 hM1).2) ?_
  rintro snow w10 ⟨hsnow, hS10⟩
  obtain ⟨T10, hT10e⟩ : ∃ T10, T10 = T9.up (.mx 2 5) (ShT snow hsnow M1) := ⟨_, rfl⟩
  rw [← hT10e] at hS10
  have g0 : T10 (.mx 2 0) = ShT s hs M1 := by rw [hT10e, Ths.up_ne _ _ (by simp)]; exact h90
  have g1 : T10 (.mx 2 1) = ShT sodd hsodd M0 := by rw [hT10e, Ths.up_ne _ _ (by simp), hT9e, Ths.up_ne _ _ (by simp), Ths.up_ne _ _ (by simp), Ths.up_ne _ _ (by simp), Ths.up_ne _ _ (by simp)]; exact h41
  have g2 : T10 (.mx 2 2) = ShT sbase hsbase M1 := by rw [hT10e, Ths.up_ne _ _ (by simp), hT9e, Ths.up_ne _ _ (by simp), Ths.up_ne _ _ (by simp), Ths.up_same]
  have g3 : T10 (.mx 2 3) = Owt bV 4 sout B := by rw [hT10e, Ths.up_ne _ _ (by simp), hT9e, Ths.up_ne _ _ (by simp), Ths.up_same]
  have g4 : T10 (.mx 2 4) = ShT sfr (List.replicate k ⟨none, 0, 0⟩) (List.replicate k []) := by rw [hT10e, Ths.up_ne _ _ (by simp), hT9e, Ths.up_same]
  have g5 : T10 (.mx 2 5) = ShT snow hsnow M1 := by rw [hT10e, Ths.up_same]
  have gC : Cod T10 0 a (cF n) k m (cB n) Q [] 0 := hC4.next (fun i => by rw [hT10e, Ths.up_ne _ _ (by simp), hT9e, Ths.up_ne _ _ (by simp), Ths.up_ne _ _ (by simp), Ths.up_ne _ _ (by simp), Ths.up_ne _ _ (by simp)])
  have hFl : (frM B other len k).length = k := by unfold frM; rw [List.length_map, List.length_range]
  have hNow := shp_now (B := B) (other := other) (n := len) (k := k) hM1
  unfold culletlaw17_McodeTurns.l1
  refine loopW_of (fun st w' => ∃ (i : Nat) (hsF hsN : List Sl) (T' : Ths), st = (so, at0 a.cp, (k : Int), (m : Int), s, (len : Int), sodd, sbase, sout, sfr, snow, (i : Int), ()) ∧ i ≤ k ∧ Sep W w' T' ∧ T' (.mx 2 4) = ShT sfr hsF ((frM B other len k).take i ++ (List.replicate k []).drop i) ∧
      T' (.mx 2 5) = ShT snow hsN ((nowM B other len k M1).take i ++ M1.drop i) ∧ ∀ q, q ≠ .mx 2 4 → q ≠ .mx 2 5 → T' q = T10 q) (fun st _ => ((k : Int) - st.2.2.2.2.2.2.2.2.2.2.2.1).toNat) ?_
    ⟨0, _, _, T10, rfl, Nat.zero_le _, hS10, by simpa using g4, by simpa using g5, fun _ _ _ => rfl⟩
  rintro kk _ w11 ⟨i, hsF, hsN, T11, rfl, hi, hS11, hF11, hN11, hT11⟩ hkk
  unfold culletlaw17_McodeTurns.b1
  dsimp only at hkk ⊢
  have hC11 : Cod T11 0 a (cF n) k m (cB n) Q [] 0 := gC.next (fun i => hT11 _ (by simp) (by simp))
  refine Cd_dec (fun hlt => ?_) (fun hge => ?_)
  · have hik : i < k := by omega
    obtain ⟨b, hb⟩ := atx (l := B) (i := i) (by omega)
    have hbD : B.getD i false = b := getD_get hb
    have hO11 := hS11.owt ((hT11 (.mx 2 3) (by simp) (by simp)).trans g3)
    refine rd_bool hO11.rds hb ?_
    have next : ∀ {w' : World} {hsF' hsN' : List Sl} {T' : Ths}, Sep W w' T' → T' (.mx 2 4) = ShT sfr hsF' ((frM B other len k).take (i + 1) ++ (List.replicate k []).drop (i + 1)) → T' (.mx 2 5) = ShT snow hsN' ((nowM B other len k M1).take (i + 1) ++ M1.drop (i + 1)) → (∀ q, q ≠ .mx 2 4 → q ≠ .mx 2 5 → T' q = T10 q) →
        culletlaw17_McodeTurns.j2 R kk so (at0 a.cp) (k : Int) (m : Int) s (len : Int) sodd sbase sout sfr snow (i : Int) w' := by
      intro w' hsF' hsN' T' a1 a2 a3 a4
      unfold culletlaw17_McodeTurns.j2
      rw [wrap64 (x := (i : Int) + 1) (by omega) (by omega), show (i : Int) + 1 = ((i + 1 : Nat) : Int) by omega]
      exact hkk _ _ ⟨i + 1, hsF', hsN', T', rfl, by omega, a1, a2, a3, a4⟩ (by dsimp only; omega)
    have hFat := frM_at (B := B) (other := other) (n := len) hik
    have hNat := nowM_at (B := B) (other := other) (n := len) (k := k) (M := M1) (i := i) (by rw [hM1.1]; omega)
    refine Cd_of (fun hbt => ?_) (fun hbf => ?_)
    · rw [hbD, hbt, if_pos rfl] at hFat
      rw [hbD, hbt, if_pos ⟨hik, rfl⟩] at hNat
      refine Wr_make (f := f8v) (z := 0#8) tB iB rfl len (by omega) (by omega) rfl rfl fun f w12 hf hB12 hx12 => ?_
      have hO12 : Own f8v 5 w11.heap.size w12 f (List.replicate len 0#8) := by rw [hf]; exact own_of_has (by simp) (by omega) hB12 (Nat.le_refl _)
      unfold culletlaw17_McodeTurns.l2
      refine loopW_of (fun st w' => ∃ t : Nat, st = (so, at0 a.cp, (k : Int), (m : Int), s, (len : Int), sodd, sbase, sout, sfr, snow, (i : Int), f, (t : Int), ()) ∧ t ≤ len ∧ Ex w11 w' ∧ Own f8v 5 w11.heap.size w' f ((frRow other len i).take t ++ (List.replicate len 0#8).drop t)) (fun st _ => ((len : Int) - st.2.2.2.2.2.2.2.2.2.2.2.2.2.1).toNat) ?_
        ⟨0, rfl, Nat.zero_le _, hx12, by simpa using hO12⟩
      rintro k2 _ w13 ⟨t, rfl, ht, hx13, hO13⟩ hk2
      unfold culletlaw17_McodeTurns.b2
      dsimp only at hk2 ⊢
      refine Cd_dec (fun hlt2 => ?_) (fun hge2 => ?_)
      · have htl : t < len := by omega
        have hfl := frRow_len other len i
        have hrt : (frRow other len i)[t]? = some (freF other len i t) := by unfold frRow; rw [List.getElem?_map, List.getElem?_range htl]; rfl
        have hil : i * len ≤ 256 * 1024 := Nat.mul_le_mul (by omega) (by omega)
        have hin : ((i : Int) * (len : Int)) = ((i * len : Nat) : Int) := by norm_cast
        have ew : IntKind.wrap .i64 (IntKind.wrap .i64 ((i : Int) * (len : Int)) + (t : Int)) = ((i * len + t : Nat) : Int) := by
          rw [hin, wrap64 (x := ((i * len : Nat) : Int)) (by omega) (by omega), wrap64 (by omega) (by omega)]; omega
        have hosl := ho.1
        have nx : ∀ w', Ex w11 w' → Own f8v 5 w11.heap.size w' f ((frRow other len i).take (t + 1) ++ (List.replicate len 0#8).drop (t + 1)) → culletlaw17_McodeTurns.j3 R kk k2 so (at0 a.cp) (k : Int) (m : Int) s (len : Int) sodd sbase sout sfr snow (i : Int) f (t : Int) w' := by
          intro w' a1 a2
          unfold culletlaw17_McodeTurns.j3
          rw [wrap64 (x := (t : Int) + 1) (by omega) (by omega), show (t : Int) + 1 = ((t + 1 : Nat) : Int) by omega]
          exact hk2 _ _ ⟨t + 1, rfl, by omega, a1, a2⟩ (by dsimp only; omega)
        rw [ew]
        refine Cd_dec (fun hid => ?_) (fun hid => ?_)
        · have hdt : i * len + t < other.length := by omega
          obtain ⟨x, hx⟩ := atx hdt
          have hxe : freF other len i t = x := by unfold freF; rw [if_pos hdt, getD_get hx]
          refine rd_ent ((hS11.exx hx13).old ho) hx ?_
          refine Wu_set (f := f8v) (x := x) (i := t) hO13 (by rw [List.length_append, List.length_take, List.length_drop, List.length_replicate]; omega) tB sB sB rfl rfl fun w14 hO14 hm14 => ?_
          rw [stepG (by rw [hfl, List.length_replicate]) (by rw [← hxe]; exact hrt)] at hO14
          exact nx w14 (hx13.into hm14 (fun b hb => (hO13.base b hb).1)) hO14
        · refine nx w13 hx13 ?_
          rw [← stepG_keep (by rw [hfl, List.length_replicate]) hrt (by rw [List.getElem?_replicate, if_pos htl]; unfold freF; rw [if_neg (by omega)])]
          exact hO13
      · have htl : t = len := by omega
        subst htl
        have er : (frRow other t i).take t ++ (List.replicate t (0#8 : F8)).drop t = frRow other t i := by
          rw [List.take_of_length_le (by rw [frRow_len]; exact Nat.le_refl _), List.drop_of_length_le (by simp), List.append_nil]
        rw [er] at hO13
        obtain ⟨q1, q2, _⟩ := sh_get hS11 hF11
        have hcl : ((frM B other t k).take i ++ (List.replicate k ([] : List F8)).drop i).length = k := by rw [List.length_append, List.length_take, List.length_drop, List.length_replicate]; omega
        refine Wu_set (f := slV) (x := f) (i := i) (q1.ex hx13) (by omega) tBB sS sS rfl rfl fun w14 hO14 hm14 => ?_
        have hS14 := sh_new hS11 hF11 hx13 hO13 (by omega) hO14 hm14
        rw [stepG (by rw [hFl, List.length_replicate]) hFat] at hS14
        have hfi : (hsF.set i f)[i]? = some f := by rw [List.getElem?_set, if_pos rfl, if_pos (by omega)]
        have hrow14 := (sh_matR hS14 (Ths.up_same _ _ _)).row i f (frRow other t i) hfi (by rw [List.getElem?_append_left (by rw [List.length_take]; omega), List.getElem?_take, if_pos (by omega)]; exact hFat)
        refine Wr_cprow hrow14 (by rw [frRow_len]; omega) fun d w15 hO15 hx15 => ?_
        have hN14 : (T11.up (.mx 2 4) (ShT sfr (hsF.set i f) ((frM B other t k).take (i + 1) ++ (List.replicate k []).drop (i + 1)))) (.mx 2 5) = ShT snow hsN ((nowM B other t k M1).take i ++ M1.drop i) := by rw [Ths.up_ne _ _ (by simp)]; exact hN11
        obtain ⟨p1, p2, _⟩ := sh_get hS14 hN14
        have hNl : (nowM B other t k M1).length = M1.length := by rw [hNow.1, hM1.1]
        have hcn : ((nowM B other t k M1).take i ++ M1.drop i).length = k + m := by rw [List.length_append, List.length_take, List.length_drop, hNow.1, hM1.1]; omega
        refine Wu_set (f := slV) (x := d) (i := i) (p1.ex hx15) (by omega) tBB sS sS rfl rfl fun w16 hO16 hm16 => ?_
        have hS16 := sh_new hS14 hN14 hx15 hO15 (by omega) hO16 hm16
        rw [stepG hNl hNat] at hS16
        refine next (hsF' := hsF.set i f) (hsN' := hsN.set i d) hS16 ?_ (Ths.up_same _ _ _) (fun q a1 a2 => ?_)
        · rw [Ths.up_ne _ _ (by simp), Ths.up_same]
        · rw [Ths.up_ne _ _ a2, Ths.up_ne _ _ a1]; exact hT11 q a1 a2
    · have hbF : B.getD i false = false := hbD.trans hbf
      rw [hbF] at hFat
      rw [if_neg (fun h => by rw [hbF] at h; cases h.2)] at hNat
      refine next (hsF' := hsF) (hsN' := hsN) hS11 ?_ ?_ hT11
      · rw [hF11, stepG_keep (by rw [hFl, List.length_replicate]) hFat (by rw [List.getElem?_replicate, if_pos hik]; rfl)]
      · rw [hN11, stepG_keep (by rw [hNow.1, hM1.1]) hNat (by rw [List.getD_eq_getElem?_getD, List.getElem?_eq_getElem (by rw [hM1.1]; omega)]; rfl)]
  clear hkk
  have hik : i = k := by omega
  subst hik
  have eF : (frM B other len i).take i ++ (List.replicate i ([] : List F8)).drop i = frM B other len i := by
    rw [List.take_of_length_le (by omega), List.drop_of_length_le (by simp), List.append_nil]
  rw [eF] at hF11
  rw [now_take] at hN11
  generalize hFmE : frM B other len i = Fm at hF11 hFl
  generalize hNwE : nowM B other len i M1 = Nw at hN11 hNow
  have hFn : ∀ x ∈ Fm, x.length = 0 ∨ x.length = len := by
    intro x hx
    rw [← hFmE] at hx
    unfold frM at hx
    obtain ⟨y, _, rfl⟩ := List.mem_map.1 hx
    split
    · exact .inr (frRow_len _ _ _)
    · exact .inl rfl
  refine Cl_mono (copied_ok (.mx 2 6) hS11 (fun w' T' h' hT' => sh_matR h' ((hT' _ (by simp)).trans hF11)) (by omega) (fun r hr => by have := hFn r hr; omega)) ?_
  rintro swas w12 ⟨hswas, hS12⟩
  obtain ⟨T12, hT12e⟩ : ∃ T12, T12 = T11.up (.mx 2 6) (ShT swas hswas Fm) := ⟨_, rfl⟩
  rw [← hT12e] at hS12
  have f5 : T12 (.mx 2 5) = ShT snow hsN Nw := by rw [hT12e, Ths.up_ne _ _ (by simp)]; exact hN11
  have fC : Cod T12 0 a (cF n) i m (cB n) Q [] 0 := hC11.next (fun i => by rw [hT12e, Ths.up_ne _ _ (by simp)])
  refine Cl_mono (encode_ok hS12 fC f5 (by simp) hNow hN1 (by omega)) ?_
  rintro _ w13 ⟨rfl, hS13⟩
  refine Cd_f ?_
  have hNe := shp_enc (fr := 0) (Nat.zero_le _) (Nat.le_refl len) hQ hNow
  have entN : ∀ r t, r < i + m → t < len → ent (encM 0 len len i Q Nw) r t = if r < i then ent Nw r t else fsum i (fun c => fmul (ent Q (r - i) c) (ent Nw c t)) := fun r t hr ht => by
    rw [ent_enc (Nat.zero_le _) (Nat.le_refl _) hQ hNow hr]
    by_cases h : r < i
    · rw [if_pos h, if_pos h]
    · rw [if_neg h, if_neg h, if_pos ⟨Nat.zero_le _, ht⟩]
  generalize encM 0 len len i Q Nw = Ne at hS13 hNe entN
  obtain ⟨T13, hT13e⟩ : ∃ T13, T13 = T12.up (.mx 2 5) (ShT snow hsN Ne) := ⟨_, rfl⟩
  rw [← hT13e] at hS13
  have e0 : T13 (.mx 2 0) = ShT s hs M1 := by rw [hT13e, Ths.up_ne _ _ (by simp), hT12e, Ths.up_ne _ _ (by simp), hT11 _ (by simp) (by simp)]; exact g0
  have e1 : T13 (.mx 2 1) = ShT sodd hsodd M0 := by rw [hT13e, Ths.up_ne _ _ (by simp), hT12e, Ths.up_ne _ _ (by simp), hT11 _ (by simp) (by simp)]; exact g1
  have e2 : T13 (.mx 2 2) = ShT sbase hsbase M1 := by rw [hT13e, Ths.up_ne _ _ (by simp), hT12e, Ths.up_ne _ _ (by simp), hT11 _ (by simp) (by simp)]; exact g2
  have e4 : T13 (.mx 2 4) = ShT sfr hsF Fm := by rw [hT13e, Ths.up_ne _ _ (by simp), hT12e, Ths.up_ne _ _ (by simp)]; exact hF11
  have e5 : T13 (.mx 2 5) = ShT snow hsN Ne := by rw [hT13e, Ths.up_same]
  have e6 : T13 (.mx 2 6) = ShT swas hswas Fm := by rw [hT13e, Ths.up_ne _ _ (by simp), hT12e, Ths.up_same]
  have eC : Cod T13 0 a (cF n) i m (cB n) Q [] 0 := fC.next (fun i => by rw [hT13e, Ths.up_ne _ _ (by simp)])
  have hgl : givenL hsF i = (List.range i).filter (fun x => B.getD x false) := by
    have := givenL_eq (sh_matR hS13 e4)
    rw [hFl] at this
    rw [this, ← hFmE, given_fr hN1]
  have upN : ∀ x, ¬ UpK (.mx 2 x) := fun x => by unfold UpK; simp
  refine Cl_mono (update_ok (kf := .mx 2 4) hS13 eC e0 (by simp) e4 (by simp) (upN 0) (upN 4) hM1 hFl hFn hN1 (by omega)) ?_
  rintro _ w14 ⟨rfl, T14, hS14, d0, hT14⟩
  refine Cd_f ?_
  have hT14' : ∀ x, x ≠ 0 → T14 (.mx 2 x) = T13 (.mx 2 x) := fun x hx => hT14 _ (by simpa using hx) (upN x)
  have dC : Cod T14 0 a (cF n) i m (cB n) Q [] 0 := eC.next (fun i => hT14 _ (by simp) (by unfold UpK; simp))
  refine Cl_mono (update_ok (ks := .mx 2 1) (kf := .mx 2 4) hS14 dC ((hT14' 1 (by decide)).trans e1) (by simp) ((hT14' 4 (by decide)).trans e4) (by simp) (upN 1) (upN 4) hM0 hFl hFn hN1 (by omega)) ?_
  rintro _ w15 ⟨rfl, T15, hS15, c1', hT15⟩
  rw [hgl] at d0 c1'
  generalize hLe : (List.range i).filter (fun x => B.getD x false) = L at d0 c1'
  have hLm : ∀ x, x ∈ L ↔ x < i ∧ B.getD x false = true := fun x => by rw [← hLe, List.mem_filter, List.mem_range]
  have hLn : L.Nodup := by rw [← hLe]; exact List.nodup_range.sublist List.filter_sublist
  have hFg : ∀ x, x < i → B.getD x false = true → Fm.getD x [] = frRow other len x := fun x hx hb => by rw [← hFmE, getD_get (frM_at hx), hb, if_pos rfl]
  have hL : ∀ x ∈ L, x < i ∧ (Fm.getD x []).length = len := fun x hx => ⟨((hLm x).1 hx).1, by rw [hFg x ((hLm x).1 hx).1 ((hLm x).1 hx).2, frRow_len]⟩
  have hT15' : ∀ x, x ≠ 0 → x ≠ 1 → T15 (.mx 2 x) = T13 (.mx 2 x) := fun x hx hx1 => (hT15 _ (by simpa using hx1) (upN x)).trans (hT14' x hx)
  have b0 : T15 (.mx 2 0) = ShT s hs (M1.take i ++ updM 0 len Q M1 Fm L (M1.drop i)) := (hT15 _ (by simp) (upN 0)).trans d0
  have entNw : ∀ x t, x < i → ent Nw x t = if x ∈ L then ent Fm x t else ent M1 x t := by
    intro x t hx
    rw [← hNwE, ent_now (by rw [hM1.1]; omega)]
    by_cases h : x ∈ L
    · have := (hLm x).1 h
      rw [if_pos ⟨hx, this.2⟩, if_pos h]
      unfold ent
      rw [hFg x hx this.2]
    · rw [if_neg (fun h' => h ((hLm x).2 ⟨hx, h'.2⟩)), if_neg h]
  have hUs := updM_shp (fr := 0) (to := len) (n := len) (k := i) (Q := Q) (M := M1) (Fm := Fm) (Nat.zero_le _) (Nat.le_refl _) hQ.1 (fun x hx => hM1.row (by omega)) L (M1.drop i) hL (shp_dropM hM1)
  have hUo := updM_shp (fr := 0) (to := len) (n := len) (k := i) (Q := Q) (M := M0) (Fm := Fm) (Nat.zero_le _) (Nat.le_refl _) hQ.1 (fun x hx => hM0.row (by omega)) L (M0.drop i) hL (shp_dropM hM0)
  have hpar : updM 0 len Q M1 Fm L (M1.drop i) = Ne.drop i := by
    refine ext_rows hUs (shp_dropM hNe) fun r hr t ht => ?_
    rw [turn_col (N := Nw) hQ hM1 hLn hL ht (hcol t ht) (fun x hx => entNw x t hx) hr, ent_drop, entN (i + r) t (by omega) ht, if_neg (by omega), Nat.add_sub_cancel_left]
  rw [hpar] at b0
  unfold culletlaw17_McodeTurns.j4
  refine Cd_f ?_
  have hd15 := Ex.drew w15
  have hS16 := hS15.exx hd15
  refine Held_of (fun _ => True) trivial ?_
  have hA1 : (M1.take i).length = i := by rw [List.length_take, hM1.1]; omega
  have hs16 := sh_matR hS16 b0
  have hb16 := sh_matR hS16 ((hT15' 2 (by decide) (by decide)).trans e2)
  have hn16 := sh_matR hS16 ((hT15' 5 (by decide) (by decide)).trans e5)
  have hf16 := sh_matR hS16 ((hT15' 4 (by decide) (by decide)).trans e4)
  have hw16 := sh_matR hS16 ((hT15' 6 (by decide) (by decide)).trans e6)
  have ho16 := sh_matR hS16 c1'
  have hb16' : MatR w15.drew sbase hsbase (M1.take i ++ M1.drop i) := by rw [List.take_append_drop]; exact hb16
  have hn16' : MatR w15.drew snow hsN (Ne.take i ++ Ne.drop i) := by rw [List.take_append_drop]; exact hn16
  have hNei : (Ne.take i).length = i := by rw [List.length_take, hNe.1]; omega
  have sl1 := hs16.hdr.1
  have sl2 := hs16.hdr.2.1
  have sl3 := hs16.len
  have bl1 := hb16.hdr.1
  have bl2 := hb16.hdr.2.1
  have bl3 := hb16.len
  have nl1 := hn16.hdr.1
  have nl2 := hn16.hdr.2.1
  have nl3 := hn16.len
  have sM1 := hM1.1
  have sNe := hNe.1
  rw [List.length_append, hA1, List.length_drop, sNe] at sl3
  refine Pu_cut 0 i tBB sS (.inl ⟨rfl, rfl⟩) (.inr ⟨_, rfl⟩) (Nat.zero_le _) (by omega) ?_
  refine Pu_cut 0 i tBB sS (.inl ⟨rfl, rfl⟩) (.inr ⟨_, rfl⟩) (Nat.zero_le _) (by omega) ?_
  have rows1 : ∀ {M : Mtx} {x : Nat}, Shp M (i + m) len → ∀ r ∈ M.take x, r.length ≤ 1048576 := fun h r hr => by rw [h.2 r (List.mem_of_mem_take hr)]; omega
  refine Cl_gv (d := .one (.at .bool)) (x := true) (by have := alike_gv (matR_take hs16 hA1) (matR_take hb16' hA1) (by rw [hA1]; omega) (rows1 hM1); rw [decide_eq_true rfl] at this; exact this) fun w17 hx17 => ⟨trivial, Cd_f ?_⟩
  refine Pu_cut i s.len tBB sS (.inr ⟨_, rfl⟩) (.inl ⟨rfl, rfl⟩) (by omega) (by omega) ?_
  refine Pu_cut i snow.len tBB sS (.inr ⟨_, rfl⟩) (.inl ⟨rfl, rfl⟩) (by omega) (by omega) ?_
  refine Cl_gv (d := .one (.at .bool)) (x := true) (by have := alike_gv ((matR_drop hs16 hA1).ex hx17) ((matR_drop hn16' hNei).ex hx17) (by rw [List.length_drop, sNe]; omega) (fun r hr => by rw [hNe.2 r (List.mem_of_mem_drop hr)]; omega); rw [decide_eq_true rfl] at this; exact this) fun w18 hx18 => ⟨trivial, Cd_f ?_⟩
  have hx1718 := hx17.trans hx18
  refine Cl_gv (d := .one (.at .bool)) (x := true) (by have := alike_gv (hf16.ex hx1718) (hw16.ex hx1718) (by omega) (fun r hr => by have := hFn r hr; omega); rw [decide_eq_true rfl] at this; exact this) fun w19 hx19 => ⟨trivial, ?_⟩
  have hx1619 := hx1718.trans hx19
  have hS19 := hS16.exx hx1619
  unfold culletlaw17_McodeTurns.j5
  refine Cd_f ?_
  have hodd : ∀ r t, r < m → t < len → ent (M0.take i ++ updM 0 len Q M0 Fm L (M0.drop i)) (i + r) t = 55#8 ^^^ ent M1 (i + r) t ^^^ ent Ne (i + r) t := by
    intro r t hr ht
    have h1 : ent (M0.take i ++ updM 0 len Q M0 Fm L (M0.drop i)) (i + r) t = ent (updM 0 len Q M0 Fm L (M0.drop i)) r t := by
      rw [ent_append (shp_takeM hM0), if_neg (by omega), Nat.add_sub_cancel_left]
    have h2 : ent Ne (i + r) t = ent (updM 0 len Q M1 Fm L (M1.drop i)) r t := by rw [hpar, ent_drop]
    rw [h1, h2, ent_upd (Nat.zero_le _) (Nat.le_refl _) hQ (fun x hx => hM0.row (by omega)) hr ht L _ hLn hL (shp_dropM hM0), if_pos ⟨Nat.zero_le _, ht⟩, ent_upd (Nat.zero_le _) (Nat.le_refl _) hQ (fun x hx => hM1.row (by omega)) hr ht L _ hLn hL (shp_dropM hM1), if_pos ⟨Nat.zero_le _, ht⟩, ent_drop, ent_drop, h55 r t hr ht]
    rw [fsum_congr (g := fun c => if c ∈ L then fmul (ent Q r c) (ent M1 c t ^^^ ent Fm c t) else 0#8) (fun c hc => by rw [hdat c t hc])]
    rw [BitVec.xor_assoc, ← BitVec.xor_assoc (ent M1 (i + r) t), BitVec.xor_self, BitVec.zero_xor]
  have hOs : Shp (M0.take i ++ updM 0 len Q M0 Fm L (M0.drop i)) (i + m) len := shp_append (shp_takeM hM0) hUo
  generalize M0.take i ++ updM 0 len Q M0 Fm L (M0.drop i) = Od at ho16 hodd hOs
  have ho19 := ho16.ex hx1619
  have hb19 := hb16.ex hx1619
  have hn19 := hn16.ex hx1619
  unfold culletlaw17_McodeTurns.l3
  refine loopW_of (fun st w' => ∃ j : Nat, st = ((i : Int), (m : Int), (len : Int), sodd, sbase, snow, (j : Int), ()) ∧ i ≤ j ∧ j ≤ i + m ∧ Ex w19 w') (fun st _ => (((i + m : Nat) : Int) - st.2.2.2.2.2.2.1).toNat) ?_ ⟨i, rfl, Nat.le_refl _, by omega, Ex.refl _⟩
  rintro k3 _ w20 ⟨j, rfl, hj1, hj2, hx20⟩ hk3
  unfold culletlaw17_McodeTurns.b3
  dsimp only at hk3 ⊢
  rw [wrap64 (x := (i : Int) + (m : Int)) (by omega) (by omega)]
  refine Cd_dec (fun hlt => ?_) (fun hge => ?_)
  · have hjl : j < i + m := by omega
    obtain ⟨ro, hro, hrol⟩ := row_at hOs hjl
    obtain ⟨rb, hrb, hrbl⟩ := row_at hM1 hjl
    obtain ⟨rn, hrn, hrnl⟩ := row_at hNe hjl
    obtain ⟨go, hgo⟩ := atx (l := hsodd) (i := j) (by rw [ho19.len, hOs.1]; exact hjl)
    obtain ⟨gb, hgb⟩ := atx (l := hsbase) (i := j) (by rw [hb19.len, hM1.1]; exact hjl)
    obtain ⟨gn, hgn⟩ := atx (l := hsN) (i := j) (by rw [hn19.len, hNe.1]; exact hjl)
    unfold culletlaw17_McodeTurns.l4
    refine loopW_of (fun st w' => ∃ t : Nat, st = ((i : Int), (m : Int), (len : Int), sodd, sbase, snow, (j : Int), (t : Int), ()) ∧ t ≤ len ∧ Ex w19 w') (fun st _ => ((len : Int) - st.2.2.2.2.2.2.2.1).toNat) ?_ ⟨0, rfl, Nat.zero_le _, hx20⟩
    rintro k4 _ w21 ⟨t, rfl, ht, hx21⟩ hk4
    unfold culletlaw17_McodeTurns.b4
    dsimp only at hk4 ⊢
    refine Cd_dec (fun hlt2 => ?_) (fun hge2 => ?_)
    · have htl : t < len := by omega
      have hx22 := hx21.trans (Ex.drew w21)
      have ho22 := ho19.ex hx22
      have hb22 := hb19.ex hx22
      have hn22 := hn19.ex hx22
      obtain ⟨xo, hxo⟩ := atx (l := ro) (i := t) (by omega)
      obtain ⟨xb, hxb⟩ := atx (l := rb) (i := t) (by omega)
      obtain ⟨xn, hxn⟩ := atx (l := rn) (i := t) (by omega)
      have rr : ∀ {h : Sl} {r : List F8} {x : F8}, Rds f8v w21.drew h r → r[t]? = some x → ∀ w', Same w21.drew w' → ∃ r', Rds f8v w' h r' ∧ r'[t]? = some x := fun h1 h2 w' hw' => by cases hw'; exact ⟨_, h1, h2⟩
      refine rdS_hdr ho22.hdr (fun w' h => by cases h; exact ho22.hdr) hgo ?_
      refine rdS_ent (ho22.row j go ro hgo hro) (rr (ho22.row j go ro hgo hro) hxo) hxo ?_
      refine rdS_hdr hb22.hdr (fun w' h => by cases h; exact hb22.hdr) hgb ?_
      refine rdS_ent (hb22.row j gb rb hgb hrb) (rr (hb22.row j gb rb hgb hrb) hxb) hxb ?_
      refine rdS_hdr hn22.hdr (fun w' h => by cases h; exact hn22.hdr) hgn ?_
      refine rdS_ent (hn22.row j gn rn hgn hrn) (rr (hn22.row j gn rn hgn hrn) hxn) hxn ?_
      have hv := hodd (j - i) t (by omega) htl
      rw [show i + (j - i) = j by omega, ent_row hro, ent_row hrb, ent_row hrn, getD_get hxo, getD_get hxb, getD_get hxn] at hv
      have e55 : bXor .u8 (bXor .u8 55 (xb.toNat : Int)) (xn.toNat : Int) = (xo.toNat : Int) := by
        have h1 : bXor .u8 55 (xb.toNat : Int) = ((55#8 ^^^ xb).toNat : Int) := bXor_f8 55#8 xb
        rw [h1, bXor_f8, hv]
      rw [e55]
      refine Cd_ne (fun h => absurd rfl h) (fun _ => ?_)
      rw [wrap64 (x := (t : Int) + 1) (by omega) (by omega), show (t : Int) + 1 = ((t + 1 : Nat) : Int) by omega]
      exact hk4 _ _ ⟨t + 1, rfl, by omega, hx22⟩ (by dsimp only; omega)
    · rw [wrap64 (x := (j : Int) + 1) (by omega) (by omega), show (j : Int) + 1 = ((j + 1 : Nat) : Int) by omega]
      exact hk3 _ _ ⟨j + 1, rfl, by omega, by omega, hx21⟩ (by dsimp only; omega)
  · subst hRR
    exact ⟨rfl, (hS19.exx hx20).mo.new (fun i hi => hi)⟩
theorem turns_open (n : CodeI) (hn : Code64 n) (W : World) (s1 : Sl) (x1 : List F8) (r1 : Rds f8v W s1 x1 ∧ x1.length ≤ 140737488355328) (s2 : Sl) (x2 : List F8) (r2 : Rds f8v W s2 x2 ∧ x2.length ≤ 140737488355328) (s3 : Sl) (x3 : List Int) (r3 : Rds i64v W s3 x3 ∧ x3.length ≤ 140737488355328 ∧ ∀ z ∈ x3, I64 z) :
    Gv Tryz.prog 4 #[.agg #[.int .i64 n.1, .int .i64 n.2.1, .int .i64 n.2.2.1, .int .i64 n.2.2.2.1], .slice s1.base s1.len s1.cap, .slice s2.base s2.len s2.cap, .slice s3.base s3.len s3.cap] (.bool true) W :=
  turns_law n hn W s1 s2 s3 x1 x2 x3 r1.1 r2.1 r3.1 r3.2.2 r1.2 r2.2 r3.2.1
end Go.Proofs.YtbiilejgfihohaaGreat
set_option linter.all false
namespace Go.Cu
open Go Go.RowKit Go.ChangeShapes Go.WideShapes
section
variable {H : Type} {enc : TypeId × Value → H} {P : Program}
def okW (P : Program) (t : TypeId) (d : DataW H) : Prop := ∀ n ∈ d.weights P t, n ≤ reachBytes
theorem okW_each {ts : List TypeId} {ds : List (DataW H)} {j : Nat} {t : TypeId} {d : DataW H} (h : (DataW.weightsEach P ts ds).all (· ≤ reachBytes) = true) (ht : ts[j]? = some t) (hd : ds[j]? = some d) : okW P t d :=
  fun n hn => by simpa using List.all_eq_true.1 h n (DataW.weights_mem_each ht hd n hn)
theorem weights_mem_all {e : TypeId} : ∀ {ds : List (DataW H)} {j : Nat} {d : DataW H}, ds[j]? = some d → ∀ n ∈ d.weights P e, n ∈ DataW.weightsAll P e ds
  | d0 :: ds, 0, d, hd, n, hn => by
    simp only [List.getElem?_cons_zero, Option.some.injEq] at hd
    subst hd
    simp only [DataW.weightsAll, List.mem_append]; exact .inl hn
  | d0 :: ds, j + 1, d, hd, n, hn => by
    simp only [List.getElem?_cons_succ] at hd
    simp only [DataW.weightsAll, List.mem_append]; exact .inr (weights_mem_all hd n hn)
theorem okW_slice {t e : TypeId} {elems sp : List (DataW H)} (h : okW P t (.slice elems sp)) (ht : P.underlying t = some (.slice e)) :
    (elems.length + sp.length) * P.bytesOf e ≤ reachBytes ∧ ∀ (j : Nat) (d : DataW H), elems[j]? = some d → okW P e d := by
  unfold okW at h
  simp only [DataW.weights, ht, List.mem_cons, List.mem_append] at h
  exact ⟨h _ (.inl rfl), fun j d hd n hn => h n (.inr (.inl (weights_mem_all hd n hn)))⟩
theorem open_nums {W : World} {base : Nat} {held : Bool} {t e : TypeId} {k : IntKind} {fuel : Nat} {v : Value} {x : DataW H × List MemPlace} (ht : P.underlying t = some (.slice e)) (he : P.underlying e = some (.int k)) (hc : P.cellsOf e = 1) (hb : 1 ≤ P.bytesOf e)
    (h : DataW.trod enc P W base (fun _ => true) held fuel t [v] = some x) (hw : okW P t x.1) :
    ∃ (s : Sl) (l : List Int), v = .slice s.base s.len s.cap ∧ Rds (.int k) W s l ∧ (∀ n ∈ l, (Lit.int k n).wf = true) ∧ l.length ≤ 140737488351232 := by
  rcases open_ints ht he hc h with ⟨h1, rfl⟩ | ⟨a, len, cap, zs, h1, _, hl, hm, hz, rfl, hcell, hwf⟩
  · injection h1 with h1 _
    subst h1
    exact ⟨⟨none, 0, 0⟩, [], rfl, Rds.nil _ _, by simp, by simp⟩
  · injection h1 with h1 _
    subst h1
    simp only [if_true] at hz
    have hwt := (okW_slice hw ht).1
    have hmul : ∀ n, n * 1 ≤ n * P.bytesOf e := fun n => Nat.mul_le_mul_left n hb
    have hlen : (zs.take len).length = len := by rw [List.length_take]; omega
    have := hmul ((lits (H := H) k (zs.take len)).length + (lits (H := H) k (zs.drop len)).length)
    have e1 : (lits (H := H) k (zs.take len)).length = len := by simp [lits]; omega
    have hr : reachBytes = 140737488351232 := rfl
    refine ⟨⟨some a, len, cap⟩, zs.take len, rfl, ⟨hlen.symm, hl, fun i x hi => ⟨a, rfl, ?_⟩⟩, fun n hn => hwf n (List.mem_of_mem_take hn), by omega⟩
    rw [List.getElem?_take] at hi
    split at hi
    · have hi' : i < zs.length := (List.getElem?_eq_some_iff.1 hi).1
      rw [hcell i hi', List.getD_eq_getElem?_getD, hi]; rfl
    · cases hi
theorem one_of_take {cs : List Value} {o : Nat} {v : Value} (h : (cs.drop o).take 1 = [v]) : cs[o]? = some v := by
  have : ((cs.drop o).take 1)[0]? = some v := by rw [h]; rfl
  rw [List.getElem?_take, if_pos (by omega), List.getElem?_drop] at this
  simpa using this
end
end Go.Cu
set_option linter.all false
namespace Go.Cu
open Go Go.RowKit Go.ChangeShapes Go.WideShapes
section
variable {H : Type} {enc : TypeId × Value → H} {P : Program}
theorem trodAll_ex (hl : laidOutB P = true) {W W' : World} (hx : Ex W W') : ∀ {ts : List TypeId} {vs : List Value} {ds : List (DataW H)} {ps : List MemPlace}, (∀ t ∈ ts, P.readableRec t = true ∧ t < P.types.size) →
    DataW.TrodAll enc P W 0 (fun _ => true) true ts vs ds ps → DataW.TrodAll enc P W' 0 (fun b => decide (b < W.heap.size)) true ts vs ds ps
  | [], vs, ds, ps, _, h => by
    obtain ⟨rfl, rfl, rfl⟩ := trodAll_nil h
    exact rfl
  | t :: ts, vs, ds, ps, hr, h => by
    obtain ⟨v, vs', d, ds', p, q, rfl, rfl, rfl, h0, h1⟩ := trodAll_cons h
    obtain ⟨r1, r2⟩ := hr t List.mem_cons_self
    have hlt : ∀ x ∈ p, x.block < W.heap.size := by
      obtain ⟨fuel, hf⟩ := h0
      exact fun x hx' => DataW.trod_lt fuel _ _ _ hf x hx'
    exact ⟨p, q, Below.trod hl r1 r2 h0 hx.below hlt, trodAll_ex hl hx (fun t ht => hr t (List.mem_cons_of_mem _ ht)) h1, rfl⟩
theorem trodAll_len : ∀ {ts : List TypeId} {vs : List Value} {ds : List (DataW H)} {ps : List MemPlace} {W : World}, DataW.TrodAll enc P W 0 (fun _ => true) true ts vs ds ps → ds.length = ts.length
  | [], vs, ds, ps, W, h => by obtain ⟨rfl, rfl, rfl⟩ := trodAll_nil h; rfl
  | t :: ts, vs, ds, ps, W, h => by
    obtain ⟨v, vs', d, ds', p, q, rfl, rfl, rfl, h0, h1⟩ := trodAll_cons h
    simp [trodAll_len h1]
theorem contract_all {f : FuncId} {fn : Func} {s : ChangeSpec} {ts : List TypeId} {tb : TypeId} {laid : List (String × DataW Unit)} (hpar : fn.params.toList = ts) (hres : fn.resultTypes.toList = [tb]) (hb : P.underlying tb = some .bool)
    (hl : laidOutB P = true) (hr : ∀ t ∈ ts, P.readableRec t = true ∧ t < P.types.size) (hvars : s.vars = []) (hfn : ∀ ds : List (DataW H), ds.length = ts.length → s.fn H (ds ++ []) = { results := [.lit (.bool true)], args := ds })
    (hcall : ∀ (W : World) (base : Nat) (args : Array Value) (ds : List (DataW H)) (p : List MemPlace), (∀ (j : Nat) t v, ts[j]? = some t → args.toList[j]? = some v → Value.okWide P W .any base t v) → DataW.TrodAll enc P W 0 (fun _ => true) true ts args.toList ds p →
      (∀ (j : Nat) t d, ts[j]? = some t → ds[j]? = some d → okW P t d) → laidMetH P laid W → Gv P f args (.bool true) W)
    (W : World) (base : Nat) (args : Array Value) (ds gs : List (DataW H)) (before : List MemPlace) (hval : ∀ (j : Nat) t v, fn.params[j]? = some t → args[j]? = some v → Value.okWide P W .any base t v)
    (hW : DataW.Whole enc P fn.params.toList s.vars false W args.toList ds gs before)
    (hwt : (DataW.weightsEach P (fn.params.toList ++ (OpenSpec.ofChange s).bare.plain.varTypes P) (ds ++ gs)).all (· ≤ reachBytes) = true) (hL : laidMetH P laid W) :
    Calls P f args W fun e W' => ∃ v, e = .returned v ∧ s.post enc P fn false true false false W args v W' := by
  have hW' := hW
  obtain ⟨p, q, hA, hV, hpq, _, _⟩ := hW
  rw [hpar] at hA
  rw [hvars] at hV
  obtain ⟨rfl, rfl⟩ := trodVars_none hV
  refine (hcall W base args ds p (fun j t v ht hv => hval j t v (by rw [← Array.getElem?_toList, hpar]; exact ht) (by rw [← Array.getElem?_toList]; exact hv)) hA (fun j t d ht hd => ?_) hL).mono fun e W1 ⟨he, hx⟩ => ⟨_, he, ?_⟩
  · refine okW_each (j := j) hwt ?_ ?_
    · rw [hpar]
      rw [List.getElem?_append_left (List.getElem?_eq_some_iff.1 ht).1]; exact ht
    · rw [List.append_nil]; exact hd
  · have hlen := trodAll_len hA
    have hsz : fn.resultTypes.size = 1 := by rw [← Array.length_toList, hres]; rfl
    refine ⟨ds, [], before, [], p, [], hW', ?_, ?_, ?_, hx.below.frame _, fun h => by cases h⟩
    · rw [hres, hsz, hfn ds hlen]; exact trodAll_mk1 (shut_bool hb true)
    · rw [hpar, hfn ds hlen]; exact trodAll_ex hl hx hr hA
    · rw [hvars, hfn ds hlen]; rfl
end
end Go.Cu
set_option linter.all false
namespace Go.Proofs.YtbiilejgfihohaaGreat
open Go Go.Cu Go.ChangeShapes Go.WideShapes Go.RowKit
set_option linter.unusedVariables false
set_option maxHeartbeats 4000000
set_option maxRecDepth 100000
theorem ownKn : ownKnob Tryz.prog.godebug = none := by kernel_rfl
theorem laidOut : laidOutB Tryz.prog = true := by kernel_rfl
theorem uBool : Program.underlying Tryz.prog 4 = some .bool := by kernel_rfl
theorem uIntO : Program.underlying Tryz.prog 3 = some (.int .i64) := by kernel_rfl
theorem uU8O : Program.underlying Tryz.prog 5 = some (.int .u8) := by kernel_rfl
theorem cIntO : Program.cellsOf Tryz.prog 3 = 1 := by kernel_rfl
theorem cU8O : Program.cellsOf Tryz.prog 5 = 1 := by kernel_rfl
theorem cCode : Program.cellsOf Tryz.prog 23 = 4 := by kernel_rfl
theorem uCode : Program.underlying Tryz.prog 23 = some (.struct (Program.fieldsOf Tryz.prog 23)) := by kernel_rfl
theorem fCode : (Program.fieldsOf Tryz.prog 23).map (fun f => (f.type, f.offset)) = #[(3, 0), (3, 1), (3, 2), (3, 3)] := by kernel_rfl
theorem field_at {fs : Array Field} {l : Array (TypeId × Nat)} (h : fs.map (fun f => (f.type, f.offset)) = l) {i : Nat} {t : TypeId} {o : Nat} (hi : l[i]? = some (t, o)) : ∃ f, fs[i]? = some f ∧ f.type = t ∧ f.offset = o := by
  rw [← h, Array.getElem?_map] at hi
  cases hf : fs[i]? with
  | none => rw [hf] at hi; cases hi
  | some f =>
    rw [hf] at hi
    simp only [Option.map_some, Option.some.injEq, Prod.mk.injEq] at hi
    exact ⟨f, rfl, hi.1, hi.2⟩
section
variable {H : Type} {enc : TypeId × Value → H}
theorem wf_i64 {z : Int} (h : (Lit.int .i64 z).wf = true) : I64 z := by
  simp only [Lit.wf, IntKind.min, IntKind.max, IntKind.signed, IntKind.bits, Bool.and_eq_true, decide_eq_true_eq] at h
  simp at h
  exact h
theorem wf_u8 {z : Int} (h : (Lit.int .u8 z).wf = true) : 0 ≤ z ∧ z < 256 := by
  simp only [Lit.wf, IntKind.min, IntKind.max, IntKind.signed, IntKind.bits, Bool.and_eq_true, decide_eq_true_eq] at h
  simp at h
  omega
theorem open_code {W : World} {fuel : Nat} {v : Value} {x : DataW H × List MemPlace} (h : DataW.trod enc Tryz.prog W 0 (fun _ => true) true fuel 23 v.cells.toList = some x) :
    ∃ n : CodeI, v = .agg #[.int .i64 n.1, .int .i64 n.2.1, .int .i64 n.2.2.1, .int .i64 n.2.2.2.1] ∧ Code64 n := by
  obtain ⟨xs, n, _, rfl, hlen, hxs, hfs⟩ := DataW.trod_struct uCode h
  rw [cCode] at hlen
  have hsz : (Program.fieldsOf Tryz.prog 23).size = 4 := by have := congrArg Array.size fCode; simpa using this
  have num : ∀ (i : Nat), i < 4 → #[(3, 0), (3, 1), (3, 2), (3, 3)][i]? = some (3, i) → ∃ z, v.cells.toList[i]? = some (.int .i64 z) ∧ I64 z := by
    intro i hi hl
    obtain ⟨f, hfi, e1, e2⟩ := field_at fCode hl
    have := hfs i f hfi
    rw [List.getElem?_eq_getElem (by omega), e1, e2, cIntO] at this
    obtain ⟨z, hz, _, hwf⟩ := DataW.trod_int uIntO this
    exact ⟨z, one_of_take hz, wf_i64 hwf⟩
  obtain ⟨z0, e0, w0⟩ := num 0 (by omega) rfl
  obtain ⟨z1, e1, w1⟩ := num 1 (by omega) rfl
  obtain ⟨z2, e2, w2⟩ := num 2 (by omega) rfl
  obtain ⟨z3, e3, w3⟩ := num 3 (by omega) rfl
  have hcs : v.cells.toList = [.int .i64 z0, .int .i64 z1, .int .i64 z2, .int .i64 z3] := by
    generalize v.cells.toList = cs at hlen e0 e1 e2 e3
    match cs, hlen with
    | [a0, a1, a2, a3], _ =>
      simp only [List.getElem?_cons_zero, List.getElem?_cons_succ, Option.some.injEq] at e0 e1 e2 e3
      subst e0 e1 e2 e3
      rfl
  refine ⟨(z0, z1, z2, z3, ()), ?_, ⟨w0, w1, w2, w3⟩⟩
  cases v with
  | agg cs =>
    have : cs.toList = [.int .i64 z0, .int .i64 z1, .int .i64 z2, .int .i64 z3] := hcs
    congr 1
    exact Array.toList_inj.1 (by rw [this])
  | _ => exact absurd (congrArg List.length hcs) (by simp [Value.cells])
theorem open_bytes {W : World} {fuel : Nat} {v : Value} {x : DataW H × List MemPlace} (h : DataW.trod enc Tryz.prog W 0 (fun _ => true) true fuel 24 [v] = some x) (hw : okW Tryz.prog 24 x.1) :
    ∃ (s : Sl) (l : List F8), v = .slice s.base s.len s.cap ∧ Rds f8v W s l ∧ l.length ≤ 140737488355328 := by
  obtain ⟨s, l, hv, hr, hwf, hl⟩ := open_nums (k := .u8) tB uU8O cU8O (Nat.le_of_ble_eq_true (by kernel_rfl)) h hw
  refine ⟨s, l.map (fun z => BitVec.ofNat 8 z.toNat), hv, ⟨by rw [List.length_map]; exact hr.1, hr.2.1, fun i y hi => ?_⟩, by rw [List.length_map]; omega⟩
  rw [List.getElem?_map] at hi
  cases hz : l[i]? with
  | none => rw [hz] at hi; cases hi
  | some z =>
    rw [hz] at hi
    cases hi
    obtain ⟨a, ha, hc⟩ := hr.2.2 i z hz
    refine ⟨a, ha, ?_⟩
    have hb := wf_u8 (hwf z (List.mem_of_getElem? hz))
    have e : ((BitVec.ofNat 8 z.toNat).toNat : Int) = z := by
      rw [BitVec.toNat_ofNat, Nat.mod_eq_of_lt (by omega)]; omega
    show W.cell? (a.add i) = some (.int .u8 ((BitVec.ofNat 8 z.toNat).toNat : Int))
    rw [e]
    exact hc
theorem open_i64s {W : World} {fuel : Nat} {v : Value} {x : DataW H × List MemPlace} (h : DataW.trod enc Tryz.prog W 0 (fun _ => true) true fuel 25 [v] = some x) (hw : okW Tryz.prog 25 x.1) :
    ∃ (s : Sl) (l : List Int), v = .slice s.base s.len s.cap ∧ Rds i64v W s l ∧ l.length ≤ 140737488355328 ∧ ∀ z ∈ l, I64 z := by
  obtain ⟨s, l, hv, hr, hwf, hl⟩ := open_nums (k := .i64) tI uIntO cIntO (Nat.le_of_ble_eq_true (by kernel_rfl)) h hw
  exact ⟨s, l, hv, hr, by omega, fun z hz => wf_i64 (hwf z hz)⟩
theorem trodAll_four {w : World} {base : Nat} {spare : Nat → Bool} {held : Bool} {t0 t1 t2 t3 : TypeId} {args : Array Value} {ds : List (DataW H)} {ps : List MemPlace} (h : DataW.TrodAll enc Tryz.prog w base spare held [t0, t1, t2, t3] args.toList ds ps) :
    ∃ v0 v1 v2 v3 d0 d1 d2 d3 p0 p1 p2 p3, args = #[v0, v1, v2, v3] ∧ ds = [d0, d1, d2, d3] ∧ ps = p0 ++ (p1 ++ (p2 ++ p3)) ∧ DataW.Trod enc Tryz.prog w base spare held t0 v0 d0 p0 ∧ DataW.Trod enc Tryz.prog w base spare held t1 v1 d1 p1 ∧ DataW.Trod enc Tryz.prog w base spare held t2 v2 d2 p2 ∧ DataW.Trod enc Tryz.prog w base spare held t3 v3 d3 p3 := by
  obtain ⟨v0, vs0, d0, ds0, p0, q0, hargs, rfl, rfl, h0, r0⟩ := trodAll_cons h
  obtain ⟨v1, vs1, d1, ds1, p1, q1, rfl, rfl, rfl, h1, r1⟩ := trodAll_cons r0
  obtain ⟨v2, vs2, d2, ds2, p2, q2, rfl, rfl, rfl, h2, r2⟩ := trodAll_cons r1
  obtain ⟨v3, vs3, d3, ds3, p3, q3, rfl, rfl, rfl, h3, r3⟩ := trodAll_cons r2
  obtain ⟨rfl, rfl, rfl⟩ := trodAll_nil r3
  exact ⟨v0, v1, v2, v3, d0, d1, d2, d3, p0, p1, p2, p3, by cases args; simp_all, rfl, by simp, h0, h1, h2, h3⟩
end
noncomputable abbrev zeroCode : Value := .agg #[.int .i64 0, .int .i64 0, .int .i64 0, .int .i64 0]
end Go.Proofs.YtbiilejgfihohaaGreat
