/- A part of what the last text of this claim leans on. -/
import Derived.Test.YtbiilejgfihohaaGreatBacksF
import Derived.ChangeSlices
import Derived.ChangeArms
import Derived.Deep.Slices
import Derived.Deep.DeepHandedRow
import Derived.Lib.LaidTab
import Derived.Carry
import Derived.SizedLaws
import Derived.Test.YtbiilejgfihohaaGreatRows
import Derived.WalkKit
import Derived.ProofKit
import Derived.OpenShut
set_option linter.all false
namespace Go.Proofs.YtbiilejgfihohaaGreat
open Go Go.Cu Go.RowKit
set_option linter.unusedVariables false
set_option maxHeartbeats 4000000
set_option maxRecDepth 100000
theorem Sep.move {W0 w : World} {T : Ths} {k q : Ky} (hS : Sep W0 w T) (hkq : k ≠ q) : Sep W0 w ((T.up q (T k)).up k Th.none) := by
  obtain ⟨hm, F, h1, h2, h3⟩ := hS
  refine ⟨hm, fun j => if j = k then (fun _ => False) else if j = q then F k else F j, fun j => ?_, fun j b hb => ?_, fun i j b hij hi hj => ?_⟩
  · unfold Ths.up
    dsimp only
    by_cases e : j = k
    · rw [if_pos e, if_pos e]; trivial
    · rw [if_neg e, if_neg e]
      by_cases e2 : j = q
      · rw [if_pos e2, if_pos e2]; exact h1 k
      · rw [if_neg e2, if_neg e2]; exact h1 j
  · dsimp only at hb
    by_cases e : j = k
    · rw [if_pos e] at hb; exact hb.elim
    · rw [if_neg e] at hb
      by_cases e2 : j = q
      · rw [if_pos e2] at hb; exact h2 k b hb
      · rw [if_neg e2] at hb; exact h2 j b hb
  · dsimp only at hi hj
    by_cases e : i = k
    · rw [if_pos e] at hi; exact hi.elim
    · rw [if_neg e] at hi
      by_cases e' : j = k
      · rw [if_pos e'] at hj; exact hj.elim
      · rw [if_neg e'] at hj
        by_cases e2 : i = q
        · rw [if_pos e2] at hi
          rw [if_neg (fun e3 => hij (e2.trans e3.symm))] at hj
          exact h3 k j b (fun e3 => e' e3.symm) hi hj
        · rw [if_neg e2] at hi
          by_cases e3 : j = q
          · rw [if_pos e3] at hj; exact h3 i k b e hi hj
          · rw [if_neg e3] at hj; exact h3 i j b hij hi hj
theorem foldRow_le : ∀ (l : List (F8 × List F8)) (acc : List F8), (l.foldl (fun acc p => addM p.2 p.1 acc) acc).length ≤ acc.length
  | [], acc => Nat.le_refl _
  | p :: l, acc => by
    rw [List.foldl_cons]
    refine Nat.le_trans (foldRow_le l _) ?_
    unfold addM
    rw [List.length_zipWith]
    omega
theorem sumRow_le (n : Nat) (row : List F8) (U : Mtx) : (sumRow n row U).length ≤ n := by
  have := foldRow_le (row.zip U) (List.replicate n 0#8)
  rw [List.length_replicate] at this
  exact this
def BackP (f : Int) (k m n : Nat) (M0 Fm Y0 : Mtx) (X Y Z : Mtx) : Prop := ∃ Q D, parM f k m = some Q ∧ decM k (gM k Q) (presL k (k + m) (missL Y0)) (missL Y0) = some D ∧ X = encM 0 n n k Q M0 ∧
  Y = giveM false k n (usedM Y0 (presL k (k + m) (missL Y0))) ((missL Y0).zip D) Y0 ∧ Z = M0.take k ++ updM 0 n Q M0 Fm (givenM Fm) (M0.drop k)
theorem BackP.same {f : Int} {k m n : Nat} {M0 Fm Y0 X Y Z X' Y' Z' : Mtx} (h : BackP f k m n M0 Fm Y0 X Y Z) (h' : BackP f k m n M0 Fm Y0 X' Y' Z') : X = X' ∧ Y = Y' ∧ Z = Z' := by
  obtain ⟨Q, D, a1, a2, rfl, rfl, rfl⟩ := h
  obtain ⟨Q', D', b1, b2, rfl, rfl, rfl⟩ := h'
  rw [a1] at b1
  cases b1
  rw [a2] at b2
  cases b2
  exact ⟨rfl, rfl, rfl⟩
def gBk (other : List F8) (k : Nat) (Mc : Mtx) (r t : Nat) : F8 := if k ≤ r ∧ r + t < other.length then other.getD (r + t) 0#8 else ent Mc r t
def nilM (B : List Bool) (M : Mtx) : Mtx := (List.range M.length).map (fun i => if B.getD i false then [] else M.getD i [])
theorem nilM_at {B : List Bool} {M : Mtx} {i : Nat} (hi : i < M.length) : (nilM B M)[i]? = some (if B.getD i false then [] else M.getD i []) := by unfold nilM; rw [List.getElem?_map, List.getElem?_range hi]; rfl
theorem nilM_len (B : List Bool) (M : Mtx) : (nilM B M).length = M.length := by unfold nilM; rw [List.length_map, List.length_range]
theorem nilM_rows {B : List Bool} {M : Mtx} {r n : Nat} (h : Shp M r n) : ∀ x ∈ nilM B M, x.length = 0 ∨ x.length = n := by
  intro x hx
  obtain ⟨i, hi⟩ := List.mem_iff_getElem?.1 hx
  have hil : i < M.length := by have := (List.getElem?_eq_some_iff.1 hi).1; rwa [nilM_len] at this
  rw [nilM_at hil] at hi
  rw [← Option.some.inj hi]
  split
  · exact .inl rfl
  · exact .inr (h.row (by rw [← h.1]; exact hil))
theorem missL_nil {B : List Bool} {M : Mtx} {r n : Nat} (h : Shp M r n) (hn : 1 ≤ n) (hB : B.length = r) : (missL (nilM B M)).length = trues B := by
  rw [← trues_range B, hB]
  unfold missL
  rw [nilM_len, h.1]
  congr 1
  refine List.filter_congr fun i hi => ?_
  have hir := List.mem_range.1 hi
  have e : (nilM B M).getD i [] = if B.getD i false then [] else M.getD i [] := getD_get (nilM_at (by rw [h.1]; exact hir))
  rw [e]
  have := h.row hir
  cases hb : B.getD i false with
  | true => rfl
  | false =>
    rw [if_neg (by simp)]
    exact decide_eq_false (by omega)
theorem giveM_rows {da : Bool} {k n N : Nat} {U : Mtx} (hU : ∀ x ∈ U, x.length ≤ N) (hnN : n ≤ N) (hs : ∀ row, (sumRow n row U).length ≤ N) : ∀ (LD : List (Nat × List F8)) (M : Mtx), (∀ x ∈ M, x.length ≤ N) → ∀ x ∈ giveM da k n U LD M, x.length ≤ N
  | [], M, h => h
  | p :: LD, M, h => by
    have := giveM_rows (da := da) (k := k) hU hnN hs LD (if da && decide (k ≤ p.1) then M else M.set p.1 (sumRow n p.2 U)) (by
      split
      · exact h
      · intro x hx
        rcases List.mem_or_eq_of_mem_set hx with h' | rfl
        · exact h x h'
        · exact hs _)
    unfold giveM at this ⊢
    rwa [List.foldl_cons]
theorem made_back {W w : World} {T : Ths} {n : CodeI} (hn : Code64 n) {back : Nat} (hb : back < 3) (hS : Sep W w T) :
    Cl Tryz.prog 10 #[.agg #[.int .i64 n.1, .int .i64 (back : Int), .int .i64 n.2.2.1, .int .i64 n.2.2.2.1]] (.tup [.at .ptr, .at (.int .i64), .at (.int .i64)]) (fun x w' => ∃ a T' Q b, x = (at0 a.cp, (cK n : Int), (cM n : Int), ()) ∧ Sep W w' T' ∧ (∀ q, (∀ i, q ≠ .tm i) → (∀ i, i < 4 → q ≠ .bx (4 * 0 + i)) → q ≠ .ps 3 → T' q = T q) ∧ Cod T' 0 a (cF n) (cK n) (cM n) b Q [] 0) w := by
  have := made_ok (n := (n.1, (back : Int), n.2.2.1, n.2.2.2.1, ())) 0 hS ⟨hn.f, ⟨by show _ ≤ (back : Int); omega, by show (back : Int) ≤ _; omega⟩, hn.k, hn.m⟩
  refine Cl_mono this ?_
  rintro x w' ⟨a, T', Q, hx, h1, h2, h3⟩
  exact ⟨a, T', Q, _, hx, h1, h2, h3⟩
theorem backs_law (n : CodeI) (hn : Code64 n) (W : World) (sd so sp : Sl) (data other : List F8) (P : List Int) (hd : Rds f8v W sd data) (ho : Rds f8v W so other) (hp : Rds i64v W sp P) (hP : ∀ x ∈ P, I64 x) (hdl : data.length ≤ 140737488355328) (hol : other.length ≤ 140737488355328) (hpl : P.length ≤ 140737488355328) :
    Gv Tryz.prog 5 #[.agg #[.int .i64 n.1, .int .i64 n.2.1, .int .i64 n.2.2.1, .int .i64 n.2.2.2.1], .slice sd.base sd.len sd.cap, .slice so.base so.len so.cap, .slice sp.base sp.len sp.cap] (.bool true) W := by
  refine culletlaw17_McodeBackends.run _ n sd so sp W ?_
  generalize hRR : (fun (e : Ending) (w' : World) => e = .returned (.bool true) ∧ Ex W w') = R
  unfold culletlaw17_McodeBackends.M
  refine Wr_box fun w1 hB hx1 => ?_
  have hB1 : Has w1 W.heap.size [.int .i64 n.1, .int .i64 n.2.1, .int .i64 n.2.2.1, .int .i64 n.2.2.2.1] 23 := hB
  have hS1 := (Sep.init W).box (.mx 2 9) hx1 hB1
  generalize W.heap.size = g at hB hB1 hS1
  refine Cl_mono (awake_ok hS1) ?_
  rintro _ w2 ⟨rfl, T2, hS2, hT2⟩
  have hbox2 : T2 (.mx 2 9) = Cel g [.int .i64 n.1, .int .i64 n.2.1, .int .i64 n.2.2.1, .int .i64 n.2.2.2.1] 23 := by rw [hT2 _ (jk_mx _ _ (by omega)) (fun i _ => by simp), Ths.up_same]
  refine Cd_f ?_
  obtain ⟨k1, k2, _⟩ := cK_ok n
  obtain ⟨m1, m2, _⟩ := cM_ok n
  have mb : ∀ {w : World} {T : Ths} {back : Nat}, back < 3 → Sep W w T → _ := fun {w T back} h1 h2 => made_back hn h1 h2
  generalize hk : cK n = k at *
  generalize hm : cM n = m at *
  generalize hf : cF n = f at *
  obtain ⟨hN1, hN2⟩ := cutN_ok (len := data.length) (k := k) (most := 60) (by omega)
  have hMc : Shp (cutM' data k m 60) (k + m) (cutN data.length k 60) := shp_gen _ _ _
  obtain ⟨Mc, hMcE⟩ : ∃ Mc, Mc = cutM' data k m 60 := ⟨_, rfl⟩
  rw [← hMcE] at hMc
  generalize hlen : cutN data.length k 60 = len at hN1 hN2 hMc
  have hM0 : Shp (genM (k + m) len (gBk other k Mc)) (k + m) len := shp_gen _ _ _
  have hM0e : ∀ r t, r < k + m → t < len → ent (genM (k + m) len (gBk other k Mc)) r t = gBk other k Mc r t := fun r t h1 h2 => ent_gen _ h1 h2
  generalize genM (k + m) len (gBk other k Mc) = M0 at hM0 hM0e
  have hcr := into_range (n := ((sp.len : Nat) : Int)) (show (1 : Int) ≤ (m : Int) by omega)
  obtain ⟨c, hc⟩ : ∃ c : Nat, intoI ((sp.len : Nat) : Int) 1 (m : Int) = (c : Int) := ⟨(intoI ((sp.len : Nat) : Int) 1 (m : Int)).toNat, by omega⟩
  rw [hc] at hcr
  obtain ⟨hBl, hBt⟩ := pickB_ok P (n := k + m) (by omega) c (by omega)
  obtain ⟨B, hBE⟩ : ∃ B, B = pickB (k + m) P c := ⟨_, rfl⟩
  rw [← hBE] at hBl hBt
  obtain ⟨rk, hrk, hrkl⟩ := row_at hM0 (show k < k + m by omega)
  obtain ⟨Fm, hFmE⟩ : ∃ Fm, Fm = (List.replicate k ([] : List F8)).set 0 rk := ⟨_, rfl⟩
  have hFl : Fm.length = k := by rw [hFmE, List.length_set, List.length_replicate]
  have hFn : ∀ x ∈ Fm, x.length = 0 ∨ x.length = len := by
    intro x hx
    rw [hFmE] at hx
    rcases List.mem_or_eq_of_mem_set hx with h' | rfl
    · rw [(List.mem_replicate.1 h').2]; exact .inl rfl
    · exact .inr hrkl
  have hY0l : (nilM B M0).length = k + m := by rw [nilM_len, hM0.1]
  have hY0n := nilM_rows (B := B) hM0
  have hY0m : (missL (nilM B M0)).length = c := (missL_nil hM0 hN1 hBl).trans hBt
  unfold culletlaw17_McodeBackends.l1
  refine loopW_of (fun st w' => ∃ (back : Nat) (sa sb sc : Sl) (v : Value) (T : Ths), st = (sd, so, sp, ⟨g, 0, none⟩, sa, sb, sc, (back : Int), ()) ∧ back ≤ 3 ∧ Sep W w' T ∧ T (.mx 2 9) = Cel g [.int .i64 n.1, v, .int .i64 n.2.2.1, .int .i64 n.2.2.2.1] 23 ∧
      (1 ≤ back → ∃ ha hb hc X Y Z, T (.mx 2 10) = ShT sa ha X ∧ T (.mx 2 11) = ShT sb hb Y ∧ T (.mx 2 12) = ShT sc hc Z ∧ Shp X (k + m) len ∧ Y.length = k + m ∧ (∀ x ∈ Y, x.length ≤ 1048576) ∧ Shp Z (k + m) len ∧ BackP f k m len M0 Fm (nilM B M0) X Y Z)) (fun st _ => ((3 : Int) - st.2.2.2.2.2.2.2.1).toNat) ?_
    ⟨0, _, _, _, _, T2, rfl, by omega, hS2, hbox2, fun h => absurd h (by omega)⟩
  rintro kk _ w3 ⟨back, sa, sb, sc, v, T3, rfl, hb3, hS3, hbox3, hold3⟩ hkk
  unfold culletlaw17_McodeBackends.b1
  dsimp only at hkk ⊢
  refine Cd_dec (fun hlt => ?_) (fun hge => ?_)
  rotate_left
  · subst hRR
    exact ⟨rfl, hS3.mo.new (fun i hi => hi)⟩
  have hback : back < 3 := by omega
  have hB3 := hS3.has hbox3
  refine Wu_store (v := .int .i64 (back : Int)) (i := 1) hB3 (by kernel_rfl) (by simp [Value.cells, Value.oneCell']) (by simp [Value.cells]) fun w4 hB4' hm4 => ?_
  have hB4 : Has w4 g [.int .i64 n.1, .int .i64 (back : Int), .int .i64 n.2.2.1, .int .i64 n.2.2.2.1] 23 := hB4'
  have hS4 := hS3.cel hbox3 hB4 hm4
  refine Rd_hasN (x := ((n.1, (back : Int), n.2.2.1, n.2.2.2.1, ()) : CodeI)) hB4 (by kernel_rfl) rfl ?_
  refine Cl_mono (mb hback hS4) ?_
  rintro _ w5 ⟨a, T5, Q, b, rfl, hS5, hT5, hC5⟩
  have kT5 : ∀ i, i ≠ 9 → T5 (.mx 2 i) = T3 (.mx 2 i) := fun i hi => by rw [hT5 _ (by simp) (by simp) (by simp), Ths.up_ne _ _ (by simpa using hi)]
  have box5 : T5 (.mx 2 9) = Cel g [.int .i64 n.1, .int .i64 (back : Int), .int .i64 n.2.2.1, .int .i64 n.2.2.2.1] 23 := by rw [hT5 _ (by simp) (by simp) (by simp), Ths.up_same]
  obtain ⟨hQ, hMds⟩ := hC5.shp
  refine Pu_codnil (Cd_f ?_)
  dsimp only
  refine Cl_mono (cut_ok (.mx 2 0) (m := m) (most := 60) hS5 (fun w' T' h' _ => h'.old hd) k1 (by omega) (by omega) (by omega) hdl) ?_
  rintro s w6 ⟨hs, hS6⟩
  rw [← hMcE] at hS6
  obtain ⟨T6, hT6e⟩ : ∃ T6, T6 = T5.up (.mx 2 0) (ShT s hs Mc) := ⟨_, rfl⟩
  rw [← hT6e] at hS6
  have h60 : T6 (.mx 2 0) = ShT s hs Mc := by rw [hT6e, Ths.up_same]
  have kT6 : ∀ q, q ≠ .mx 2 0 → T6 q = T5 q := fun q hq => by rw [hT6e, Ths.up_ne _ _ hq]
  have hol' := ho.1
  unfold culletlaw17_McodeBackends.l2
  refine loopW_of (fun st w' => ∃ (j : Nat) (M : Mtx) (T' : Ths), st = (sd, so, sp, ⟨g, 0, none⟩, sa, sb, sc, (back : Int), at0 a.cp, (k : Int), (m : Int), s, (j : Int), ()) ∧ k ≤ j ∧ j ≤ k + m ∧ Sep W w' T' ∧ T' (.mx 2 0) = ShT s hs M ∧ (∀ q, q ≠ .mx 2 0 → T' q = T6 q) ∧ Shp M (k + m) len ∧
      ∀ r t, r < k + m → t < len → ent M r t = if r < j then gBk other k Mc r t else ent Mc r t) (fun st _ => (((k + m : Nat) : Int) - st.2.2.2.2.2.2.2.2.2.2.2.2.1).toNat) ?_
    ⟨k, Mc, T6, rfl, Nat.le_refl _, by omega, hS6, h60, fun _ _ => rfl, hMc, fun r t _ _ => by
      by_cases h : r < k
      · rw [if_pos h]; unfold gBk; rw [if_neg (by omega)]
      · rw [if_neg h]⟩
  rintro k2' _ w7 ⟨j, M, T7, rfl, hj1, hj2, hS7, h70, kT7, hM, hent⟩ hk2
  unfold culletlaw17_McodeBackends.b2
  dsimp only at hk2 ⊢
  rw [wrap64 (x := (k : Int) + (m : Int)) (by omega) (by omega)]
  refine Cd_dec (fun hlt2 => ?_) (fun hge2 => ?_)
  · have hjk : j < k + m := by omega
    unfold culletlaw17_McodeBackends.l3
    refine loopW_of (fun st w' => ∃ (t : Nat) (M : Mtx) (T' : Ths), st = (sd, so, sp, ⟨g, 0, none⟩, sa, sb, sc, (back : Int), at0 a.cp, (k : Int), (m : Int), s, (j : Int), (t : Int), ()) ∧ t ≤ len ∧ Sep W w' T' ∧ T' (.mx 2 0) = ShT s hs M ∧ (∀ q, q ≠ .mx 2 0 → T' q = T6 q) ∧ Shp M (k + m) len ∧
        ∀ r x, r < k + m → x < len → ent M r x = if r < j ∨ (r = j ∧ x < t) then gBk other k Mc r x else ent Mc r x) (fun st _ => ((len : Int) - st.2.2.2.2.2.2.2.2.2.2.2.2.2.1).toNat) ?_
      ⟨0, M, T7, rfl, Nat.zero_le _, hS7, h70, kT7, hM, fun r x h1 h2 => by
        rw [hent r x h1 h2]
        by_cases h : r < j
        · rw [if_pos h, if_pos (.inl h)]
        · rw [if_neg h, if_neg (by omega)]⟩
    rintro k3' _ w8 ⟨t, M8, T8, rfl, ht, hS8, h80, kT8, hM8, hent8⟩ hk3
    unfold culletlaw17_McodeBackends.b3
    dsimp only at hk3 ⊢
    have hMR8 := sh_matR hS8 h80
    obtain ⟨h, hh⟩ := atx (l := hs) (i := j) (by rw [hMR8.len, hM8.1]; exact hjk)
    have hhl := hMR8.lenS hM8.2 h (List.mem_of_getElem? hh)
    refine rd_hdr hMR8.hdr hh ?_
    rw [hhl]
    refine Cd_dec (fun hlt3 => ?_) (fun hge3 => ?_)
    · have htl : t < len := by omega
      rw [wrap64 (x := (j : Int) + (t : Int)) (by omega) (by omega), show (j : Int) + (t : Int) = ((j + t : Nat) : Int) by omega]
      have nx : ∀ {w' : World} {M' : Mtx} {T' : Ths}, Sep W w' T' → T' (.mx 2 0) = ShT s hs M' → (∀ q, q ≠ .mx 2 0 → T' q = T6 q) → Shp M' (k + m) len → (∀ r x, r < k + m → x < len → ent M' r x = if r < j ∨ (r = j ∧ x < t + 1) then gBk other k Mc r x else ent Mc r x) →
          culletlaw17_McodeBackends.j2 R kk k2' k3' sd so sp ⟨g, 0, none⟩ sa sb sc (back : Int) (at0 a.cp) (k : Int) (m : Int) s (j : Int) (t : Int) w' := by
        intro w' M' T' a1 a2 a3 a4 a5
        unfold culletlaw17_McodeBackends.j2
        rw [wrap64 (x := (t : Int) + 1) (by omega) (by omega), show (t : Int) + 1 = ((t + 1 : Nat) : Int) by omega]
        exact hk3 _ _ ⟨t + 1, M', T', rfl, by omega, a1, a2, a3, a4, a5⟩ (by dsimp only; omega)
      refine Cd_dec (fun hid => ?_) (fun hid => ?_)
      · obtain ⟨x, hx⟩ := atx (l := other) (i := j + t) (by omega)
        obtain ⟨r, hr, hrl⟩ := row_at hM8 hjk
        have hS9 := hS8.exx (Ex.drew w8)
        refine Held_of (fun w' => Rds slV w' s hs ∧ Rds f8v w' so other) ⟨(sh_matR hS9 h80).hdr, hS9.old ho⟩ ?_
        refine rdS_hdr (sh_matR hS9 h80).hdr (fun w' h' => h'.1) hh ?_
        refine rdS_ent (hS9.old ho) (fun w' h' => ⟨_, h'.2, hx⟩) hx ?_
        refine st_sh (x := x) hS9 h80 hh hr (by omega) fun w10 hS10 hm10 => ?_
        refine ⟨⟨(sh_matR hS10 (Ths.up_same _ _ _)).hdr, hS10.old ho⟩, ?_⟩
        refine nx hS10 (Ths.up_same _ _ _) (fun q hq => by rw [Ths.up_ne _ _ hq]; exact kT8 q hq) (hM8.set (by rw [List.length_set]; exact hrl)) (fun r' x' h1 h2 => ?_)
        rw [ent_set hM8 hjk]
        by_cases e : r' = j
        · subst e
          rw [if_pos rfl, getD_set _ _ _ _ _ (by omega)]
          by_cases e2 : x' = t
          · subst e2
            rw [if_pos rfl, if_pos (.inr ⟨rfl, by omega⟩)]
            unfold gBk
            rw [if_pos ⟨hj1, by omega⟩, getD_get hx]
          · rw [if_neg e2, ← ent_row hr, hent8 r' x' h1 h2]
            by_cases e3 : x' < t
            · rw [if_pos (.inr ⟨rfl, e3⟩), if_pos (.inr ⟨rfl, by omega⟩)]
            · rw [if_neg (by omega), if_neg (by omega)]
        · rw [if_neg e, hent8 r' x' h1 h2]
          by_cases e3 : r' < j
          · rw [if_pos (.inl e3), if_pos (.inl e3)]
          · rw [if_neg (by omega), if_neg (by omega)]
      · refine nx hS8 h80 kT8 hM8 (fun r' x' h1 h2 => ?_)
        rw [hent8 r' x' h1 h2]
        by_cases e3 : r' < j ∨ (r' = j ∧ x' < t)
        · rw [if_pos e3, if_pos (by omega)]
        · rw [if_neg e3]
          by_cases e4 : r' = j ∧ x' < t + 1
          · rw [if_pos (.inr e4)]
            unfold gBk
            rw [if_neg (by omega)]
          · rw [if_neg (by omega)]
    · rw [wrap64 (x := (j : Int) + 1) (by omega) (by omega), show (j : Int) + 1 = ((j + 1 : Nat) : Int) by omega]
      refine hk2 _ _ ⟨j + 1, M8, T8, rfl, by omega, by omega, hS8, h80, kT8, hM8, fun r' x' h1 h2 => ?_⟩ (by dsimp only; omega)
      rw [hent8 r' x' h1 h2]
      by_cases e3 : r' < j + 1
      · rw [if_pos e3, if_pos (by omega)]
      · rw [if_neg e3, if_neg (by omega)]
  clear hk2
  have hje : j = k + m := by omega
  have hMe : M = M0 := ext_rows hM hM0 fun r hr t ht => by rw [hent r t hr ht, if_pos (by omega), hM0e r t hr ht]
  subst hMe
  clear hent hM
  have row16 : ∀ {M : Mtx}, Shp M (k + m) len → M.length ≤ 65536 ∧ ∀ r ∈ M, r.length ≤ 1048576 := fun h => ⟨by rw [h.1]; omega, fun r hr => by rw [h.2 r hr]; omega⟩
  refine Cl_mono (copied_ok (.mx 2 1) hS7 (fun w' T' h' hT' => sh_matR h' ((hT' _ (by simp)).trans h70)) (row16 hM0).1 (row16 hM0).2) ?_
  rintro sy w8 ⟨hsy, hS8⟩
  obtain ⟨T8, hT8e⟩ : ∃ T8, T8 = T7.up (.mx 2 1) (ShT sy hsy M) := ⟨_, rfl⟩
  rw [← hT8e] at hS8
  have h80 : T8 (.mx 2 0) = ShT s hs M := by rw [hT8e, Ths.up_ne _ _ (by simp)]; exact h70
  refine Cl_mono (copied_ok (.mx 2 2) hS8 (fun w' T' h' hT' => sh_matR h' ((hT' _ (by simp)).trans h80)) (row16 hM0).1 (row16 hM0).2) ?_
  rintro sz w9 ⟨hsz, hS9⟩
  have hpl' := hp.1
  refine Cl_gv (d := .one (.at (.int .i64))) (x := intoI ((sp.len : Nat) : Int) 1 (m : Int)) (into_gv (by omega) (by omega) (by omega) (by omega) (by omega)) fun w10 hx10 => ?_
  rw [hc, show (k : Int) + (m : Int) = ((k + m : Nat) : Int) by omega]
  refine Cl_mono (pick_sep_ok (.mx 2 3) (hS9.exx hx10) (fun w' T' h' _ => h'.old hp) hP (by omega) (by omega) (by omega)) ?_
  rintro sout w11 hS11
  rw [← hBE] at hS11
  refine Wr_make (f := slV) (z := ⟨none, 0, 0⟩) tBB iS rfl k (by omega) (by omega) rfl rfl fun sfr w12 hsfr hB12 hx12 => ?_
  have hO12 : Own slV 24 w11.heap.size w12 sfr (List.replicate k ⟨none, 0, 0⟩) := by rw [hsfr]; exact own_of_has (by simp) (by omega) hB12 (Nat.le_refl _)
  have hS12 := sh_init (k := .mx 2 4) hS11 hx12 hO12
  obtain ⟨T12, hT12e⟩ : ∃ T12, T12 = (((T8.up (.mx 2 2) (ShT sz hsz M)).up (.mx 2 3) (Owt bV 4 sout B)).up (.mx 2 4) (ShT sfr (List.replicate k ⟨none, 0, 0⟩) (List.replicate k []))) := ⟨_, rfl⟩
  rw [← hT12e] at hS12
  have k120 : T12 (.mx 2 0) = ShT s hs M := by rw [hT12e, Ths.up_ne _ _ (by simp), Ths.up_ne _ _ (by simp), Ths.up_ne _ _ (by simp)]; exact h80
  refine Wr_lit (f := f8v) (e := 5) (base := w12.heap.size) [] (by kernel_rfl) (Nat.le_refl _) (by simp) fun s13 w13 ho13 hx13 _ => ?_
  have hMR13 := (sh_matR hS12 k120).ex hx13
  obtain ⟨hk', hhk⟩ := atx (l := hs) (i := k) (by rw [hMR13.len, hM0.1]; omega)
  refine rd_hdr hMR13.hdr hhk ?_
  refine Wr_append (f := f8v) (l := []) (base := w12.heap.size) tB iB rfl ho13 (hMR13.row k hk' rk hhk hrk) (fun _ => rfl) (by simp; omega) (by simp; omega) hx13.size fun d w14 ho14 hm14 hin14 => ?_
  rw [List.nil_append] at ho14
  have hx14 : Ex w12 w14 := hx13.into hm14 (fun b hb => (ho13.base b hb).1)
  have hF12 : T12 (.mx 2 4) = ShT sfr (List.replicate k ⟨none, 0, 0⟩) (List.replicate k []) := by rw [hT12e, Ths.up_same]
  obtain ⟨q1, q2, _⟩ := sh_get hS12 hF12
  refine Wu_set (f := slV) (x := d) (i := 0) (q1.ex hx14) (by rw [List.length_replicate]; omega) tBB sS sS rfl rfl fun w15 hO15 hm15 => ?_
  have hS15 := sh_new hS12 hF12 hx14 ho14 (by rw [List.length_replicate]; omega) hO15 hm15
  rw [← hFmE] at hS15
  generalize (List.replicate k (⟨none, 0, 0⟩ : Sl)).set 0 d = hsF at hS15
  obtain ⟨T15, hT15e⟩ : ∃ T15, T15 = T12.up (.mx 2 4) (ShT sfr hsF Fm) := ⟨_, rfl⟩
  rw [← hT15e] at hS15
  have g0 : T15 (.mx 2 0) = ShT s hs M := by rw [hT15e, Ths.up_ne _ _ (by simp)]; exact k120
  have g1 : T15 (.mx 2 1) = ShT sy hsy M := by rw [hT15e, Ths.up_ne _ _ (by simp), hT12e, Ths.up_ne _ _ (by simp), Ths.up_ne _ _ (by simp), Ths.up_ne _ _ (by simp), hT8e, Ths.up_same]
  have g2 : T15 (.mx 2 2) = ShT sz hsz M := by rw [hT15e, Ths.up_ne _ _ (by simp), hT12e, Ths.up_ne _ _ (by simp), Ths.up_ne _ _ (by simp), Ths.up_same]
  have g3 : T15 (.mx 2 3) = Owt bV 4 sout B := by rw [hT15e, Ths.up_ne _ _ (by simp), hT12e, Ths.up_ne _ _ (by simp), Ths.up_same]
  have g4 : T15 (.mx 2 4) = ShT sfr hsF Fm := by rw [hT15e, Ths.up_same]
  have k15 : ∀ q, (∀ i, i < 5 → q ≠ .mx 2 i) → T15 q = T5 q := fun q hq => by
    rw [hT15e, Ths.up_ne _ _ (hq 4 (by omega)), hT12e, Ths.up_ne _ _ (hq 4 (by omega)), Ths.up_ne _ _ (hq 3 (by omega)), Ths.up_ne _ _ (hq 2 (by omega)), hT8e, Ths.up_ne _ _ (hq 1 (by omega)), kT7 _ (hq 0 (by omega)), kT6 _ (hq 0 (by omega))]
  have gC : Cod T15 0 a f k m b Q [] 0 := hC5.next (fun i => k15 _ (by simp))
  have hNl : (nilM B M).length = M.length := nilM_len _ _
  unfold culletlaw17_McodeBackends.l4
  refine loopW_of (fun st w' => ∃ (i : Nat) (hsY : List Sl) (T' : Ths), st = (sd, so, sp, ⟨g, 0, none⟩, sa, sb, sc, (back : Int), at0 a.cp, (k : Int), (m : Int), s, sy, sz, sout, sfr, (i : Int), ()) ∧ i ≤ k + m ∧ Sep W w' T' ∧ T' (.mx 2 1) = ShT sy hsY ((nilM B M).take i ++ M.drop i) ∧
      ∀ q, q ≠ .mx 2 1 → q ≠ .mx 2 5 → T' q = T15 q) (fun st _ => (((k + m : Nat) : Int) - st.2.2.2.2.2.2.2.2.2.2.2.2.2.2.2.2.1).toNat) ?_
    ⟨0, hsy, T15, rfl, Nat.zero_le _, hS15, by simpa using g1, fun _ _ _ => rfl⟩
  rintro k4 _ w16 ⟨i, hsY, T16, rfl, hi, hS16, hY16, hT16⟩ hk4
  unfold culletlaw17_McodeBackends.b4
  dsimp only at hk4 ⊢
  rw [wrap64 (x := (k : Int) + (m : Int)) (by omega) (by omega)]
  refine Cd_dec (fun hlt2 => ?_) (fun hge2 => ?_)
  · have hik : i < k + m := by omega
    obtain ⟨bb, hbb⟩ := atx (l := B) (i := i) (by omega)
    have hbD : B.getD i false = bb := getD_get hbb
    have hO16 := hS16.owt ((hT16 (.mx 2 3) (by simp) (by simp)).trans g3)
    refine rd_bool hO16.rds hbb ?_
    have next : ∀ {w' : World} {hsY' : List Sl} {T' : Ths}, Sep W w' T' → T' (.mx 2 1) = ShT sy hsY' ((nilM B M).take (i + 1) ++ M.drop (i + 1)) → (∀ q, q ≠ .mx 2 1 → q ≠ .mx 2 5 → T' q = T15 q) →
        culletlaw17_McodeBackends.j3 R kk k4 sd so sp ⟨g, 0, none⟩ sa sb sc (back : Int) (at0 a.cp) (k : Int) (m : Int) s sy sz sout sfr (i : Int) w' := by
      intro w' hsY' T' a1 a2 a3
      unfold culletlaw17_McodeBackends.j3
      rw [wrap64 (x := (i : Int) + 1) (by omega) (by omega), show (i : Int) + 1 = ((i + 1 : Nat) : Int) by omega]
      exact hk4 _ _ ⟨i + 1, hsY', T', rfl, by omega, a1, a2, a3⟩ (by dsimp only; omega)
    have hat := nilM_at (B := B) (M := M) (i := i) (by rw [hM0.1]; exact hik)
    obtain ⟨rM, hrM, _⟩ := row_at hM0 hik
    have hcur := stepG_get (A := nilM B M) hNl hrM
    have hYM := sh_matR hS16 hY16
    have hYl : ((nilM B M).take i ++ M.drop i).length = k + m := by rw [List.length_append, List.length_take, List.length_drop, hNl, hM0.1]; omega
    obtain ⟨hy, hhy⟩ := atx (l := hsY) (i := i) (by rw [hYM.len, hYl]; exact hik)
    refine Cd_of (fun hbt => ?_) (fun hbf => ?_)
    · rw [hbD, hbt, if_pos rfl] at hat
      obtain ⟨p1, p2, _⟩ := sh_get hS16 hY16
      refine Wu_set (f := slV) (x := ⟨none, 0, 0⟩) (i := i) p1 (by rw [p2, hYl]; exact hik) tBB sS sS rfl rfl fun w17 hO17 hm17 => ?_
      have hS17 := sh_out (q := .mx 2 5) (by simp) hS16 hY16 hhy hcur hO17 hm17
      rw [stepG hNl hat] at hS17
      refine next (hsY' := hsY.set i ⟨none, 0, 0⟩) hS17 ?_ (fun q a1 a2 => ?_)
      · rw [Ths.up_ne _ _ (by simp), Ths.up_same]
      · rw [Ths.up_ne _ _ a2, Ths.up_ne _ _ a1]; exact hT16 q a1 a2
    · rw [if_neg (fun h => by rw [hbD, hbf] at h; cases h), List.getD_eq_getElem?_getD, hrM] at hat
      refine next (hsY' := hsY) hS16 ?_ hT16
      rw [hY16, stepG_keep hNl hat hrM]
  clear hk4
  have hie : i = k + m := by omega
  have eY : (nilM B M).take i ++ M.drop i = nilM B M := by
    rw [List.take_of_length_le (by rw [hNl, hM0.1]; omega), List.drop_of_length_le (by rw [hM0.1]; omega), List.append_nil]
  rw [eY] at hY16
  have gC16 : Cod T16 0 a f k m b Q [] 0 := gC.next (fun i => hT16 _ (by simp) (by simp))
  refine Cl_mono (encode_ok hS16 gC16 ((hT16 _ (by simp) (by simp)).trans g0) (by simp) hM0 hN1 (by omega)) ?_
  rintro _ w17 ⟨rfl, hS17⟩
  refine Cd_f ?_
  have hXs := shp_enc (fr := 0) (Nat.zero_le _) (Nat.le_refl len) hQ hM0
  obtain ⟨T17, hT17e⟩ : ∃ T17, T17 = T16.up (.mx 2 0) (ShT s hs (encM 0 len len k Q M)) := ⟨_, rfl⟩
  rw [← hT17e] at hS17
  have gC17 : Cod T17 0 a f k m b Q [] 0 := gC16.next (fun i => by rw [hT17e, Ths.up_ne _ _ (by simp)])
  have y17 : T17 (.mx 2 1) = ShT sy hsY (nilM B M) := by rw [hT17e, Ths.up_ne _ _ (by simp)]; exact hY16
  have ngv : ∀ i, ¬ GvK 0 (.mx 2 i) := fun i => by unfold GvK PlK GnK; simp
  have nup : ∀ i, ¬ UpK (.mx 2 i) := fun i => by unfold UpK; simp
  refine Cl_mono (recon_ok hS17 gC17 y17 (by simp) (ngv 1) hY0l hY0n (by omega) hN1 (by omega) (by omega)) ?_
  rintro xr w18 hG
  obtain ⟨h1, _⟩ | ⟨h1, _⟩ | ⟨_, rfl, T18, hsY18, D, es', clock', hS18, hD, y18, gC18, _, _, hT18⟩ := hG
  · rw [h1] at hY0m; simp at hY0m; omega
  · omega
  refine Cd_f ?_
  have z18 : T18 (.mx 2 2) = ShT sz hsz M := by rw [hT18 _ (ngv 2) (by simp), hT17e, Ths.up_ne _ _ (by simp), hT16 _ (by simp) (by simp)]; exact g2
  have f18 : T18 (.mx 2 4) = ShT sfr hsF Fm := by rw [hT18 _ (ngv 4) (by simp), hT17e, Ths.up_ne _ _ (by simp), hT16 _ (by simp) (by simp)]; exact g4
  have hgl : givenL hsF k = givenM Fm := by
    have := givenL_eq (sh_matR hS18 f18)
    rwa [hFl] at this
  refine Cl_mono (update_ok (ks := .mx 2 2) (kf := .mx 2 4) hS18 gC18 z18 (by simp) f18 (by simp) (nup 2) (nup 4) hM0 hFl hFn hN1 (by omega)) ?_
  rintro _ w19 ⟨rfl, T19, hS19, z19, hT19⟩
  rw [hgl] at z19
  have x19 : T19 (.mx 2 0) = ShT s hs (encM 0 len len k Q M) := by rw [hT19 _ (by simp) (nup 0), hT18 _ (ngv 0) (by simp), hT17e, Ths.up_same]
  have y19 : T19 (.mx 2 1) = _ := (hT19 _ (by simp) (nup 1)).trans y18
  have o19 : ∀ i, 5 < i → T19 (.mx 2 i) = T5 (.mx 2 i) := fun i hi => by
    rw [hT19 _ (by simp; omega) (nup i), hT18 _ (ngv i) (by simp; omega), hT17e, Ths.up_ne _ _ (by simp; omega), hT16 _ (by simp; omega) (by simp; omega), k15 _ (fun i' hi' => by simp; omega)]
  have hBP : BackP f k m len M Fm (nilM B M) (encM 0 len len k Q M) (giveM false k len (usedM (nilM B M) (presL k (k + m) (missL (nilM B M)))) ((missL (nilM B M)).zip D) (nilM B M)) (M.take k ++ updM 0 len Q M Fm (givenM Fm) (M.drop k)) := ⟨Q, D, gC18.hQ, hD, rfl, rfl, rfl⟩
  have hYl : (giveM false k len (usedM (nilM B M) (presL k (k + m) (missL (nilM B M)))) ((missL (nilM B M)).zip D) (nilM B M)).length = k + m := by rw [giveM_len]; exact hY0l
  have hYr : ∀ x ∈ giveM false k len (usedM (nilM B M) (presL k (k + m) (missL (nilM B M)))) ((missL (nilM B M)).zip D) (nilM B M), x.length ≤ 1048576 :=
    giveM_rows (N := 1048576) (by
      intro x hx
      unfold usedM at hx
      obtain ⟨i, hi, rfl⟩ := List.mem_map.1 hx
      rcases hq : (nilM B M)[i]? with _ | r
      · rw [List.getD_eq_getElem?_getD, hq]; simp
      · rw [getD_get hq]
        have := hY0n r (List.mem_of_getElem? hq)
        omega) (by omega) (fun row => Nat.le_trans (sumRow_le len row _) (by omega)) _ _ (fun x hx => by have := hY0n x hx; omega)
  have hZs : Shp (M.take k ++ updM 0 len Q M Fm (givenM Fm) (M.drop k)) (k + m) len := shp_append (shp_takeM hM0) (updM_shp (fr := 0) (to := len) (n := len) (k := k) (Q := Q) (M := M) (Fm := Fm) (Nat.zero_le _) (Nat.le_refl _) hQ.1 (fun x hx => hM0.row (by omega)) (givenM Fm) (M.drop k) (fun x hx => by
    unfold givenM at hx
    obtain ⟨hx1, hx2⟩ := List.mem_filter.1 hx
    have hx3 := List.mem_range.1 hx1
    refine ⟨by omega, ?_⟩
    obtain ⟨r, hr⟩ := atx hx3
    have := hFn r (List.mem_of_getElem? hr)
    rw [getD_get hr] at hx2 ⊢
    have := of_decide_eq_true hx2
    omega) (shp_dropM hM0))
  generalize encM 0 len len k Q M = X at *
  generalize giveM false k len (usedM (nilM B M) (presL k (k + m) (missL (nilM B M)))) ((missL (nilM B M)).zip D) (nilM B M) = Y at *
  generalize M.take k ++ updM 0 len Q M Fm (givenM Fm) (M.drop k) = Z at *
  have fin : ∀ {w' : World} {T' : Ths} {sa' sb' sc' : Sl} {ha hb hc : List Sl}, Sep W w' T' → T' (.mx 2 9) = T5 (.mx 2 9) → T' (.mx 2 10) = ShT sa' ha X → T' (.mx 2 11) = ShT sb' hb Y → T' (.mx 2 12) = ShT sc' hc Z → culletlaw17_McodeBackends.j1 R kk sd so sp ⟨g, 0, none⟩ sa' sb' sc' (back : Int) w' := by
    intro w' T' sa' sb' sc' ha hb hc a1 a2 a3 a4 a5
    unfold culletlaw17_McodeBackends.j1
    rw [wrap64 (x := (back : Int) + 1) (by omega) (by omega), show (back : Int) + 1 = ((back + 1 : Nat) : Int) by omega]
    exact hkk _ _ ⟨back + 1, sa', sb', sc', .int .i64 (back : Int), T', rfl, by omega, a1, a2.trans box5, fun _ => ⟨ha, hb, hc, X, Y, Z, a3, a4, a5, hXs, hYl, hYr, hZs, hBP⟩⟩ (by dsimp only; omega)
  unfold culletlaw17_McodeBackends.j4
  refine Cd_f ?_
  refine Cd_eq (fun hb0 => ?_) (fun hb0 => ?_)
  · have hA := Sep.move (k := .mx 2 0) (q := .mx 2 10) hS19 (by simp)
    have hB := Sep.move (k := .mx 2 1) (q := .mx 2 11) hA (by simp)
    have hC := Sep.move (k := .mx 2 2) (q := .mx 2 12) hB (by simp)
    refine fin hC ?_ (ha := hs) (hb := hsY18) (hc := hsz) ?_ ?_ ?_
    · rw [Ths.up_ne _ _ (by simp), Ths.up_ne _ _ (by simp), Ths.up_ne _ _ (by simp), Ths.up_ne _ _ (by simp), Ths.up_ne _ _ (by simp), Ths.up_ne _ _ (by simp)]; exact o19 9 (by omega)
    · rw [Ths.up_ne _ _ (by simp), Ths.up_ne _ _ (by simp), Ths.up_ne _ _ (by simp), Ths.up_ne _ _ (by simp), Ths.up_ne _ _ (by simp), Ths.up_same]; exact x19
    · rw [Ths.up_ne _ _ (by simp), Ths.up_ne _ _ (by simp), Ths.up_ne _ _ (by simp), Ths.up_same, Ths.up_ne _ _ (by simp), Ths.up_ne _ _ (by simp)]; exact y19
    · rw [Ths.up_ne _ _ (by simp), Ths.up_same, Ths.up_ne _ _ (by simp), Ths.up_ne _ _ (by simp), Ths.up_ne _ _ (by simp), Ths.up_ne _ _ (by simp)]; exact z19
  · obtain ⟨ha, hb, hc', X', Y', Z', o1, o2, o3, s1, s2, s3, s4, hBP'⟩ := hold3 (by omega)
    obtain ⟨rfl, rfl, rfl⟩ := hBP'.same hBP
    have p1 := ((o19 10 (by omega)).trans (kT5 10 (by omega))).trans o1
    have p2 := ((o19 11 (by omega)).trans (kT5 11 (by omega))).trans o2
    have p3 := ((o19 12 (by omega)).trans (kT5 12 (by omega))).trans o3
    refine Cl_gv (d := .one (.at .bool)) (x := true) (by have := alike_gv (sh_matR hS19 p1) (sh_matR hS19 x19) (row16 s1).1 (row16 s1).2; rw [decide_eq_true rfl] at this; exact this) fun w20 hx20 => ?_
    refine Cd_f ?_
    have hS20 := hS19.exx hx20
    refine Cl_gv (d := .one (.at .bool)) (x := true) (by have := alike_gv (sh_matR hS20 p2) (sh_matR hS20 y19) (by omega) s3; rw [decide_eq_true rfl] at this; exact this) fun w21 hx21 => ?_
    refine Cd_f ?_
    have hS21 := hS20.exx hx21
    refine Cl_gv (d := .one (.at .bool)) (x := true) (by have := alike_gv (sh_matR hS21 p3) (sh_matR hS21 z19) (row16 s4).1 (row16 s4).2; rw [decide_eq_true rfl] at this; exact this) fun w22 hx22 => ?_
    unfold culletlaw17_McodeBackends.j5
    refine Cd_f ?_
    exact fin (hS21.exx hx22) (o19 9 (by omega)) p1 p2 p3
theorem backs_open (n : CodeI) (hn : Code64 n) (W : World) (s1 : Sl) (x1 : List F8) (r1 : Rds f8v W s1 x1 ∧ x1.length ≤ 140737488355328) (s2 : Sl) (x2 : List F8) (r2 : Rds f8v W s2 x2 ∧ x2.length ≤ 140737488355328) (s3 : Sl) (x3 : List Int) (r3 : Rds i64v W s3 x3 ∧ x3.length ≤ 140737488355328 ∧ ∀ z ∈ x3, I64 z) :
    Gv Tryz.prog 5 #[.agg #[.int .i64 n.1, .int .i64 n.2.1, .int .i64 n.2.2.1, .int .i64 n.2.2.2.1], .slice s1.base s1.len s1.cap, .slice s2.base s2.len s2.cap, .slice s3.base s3.len s3.cap] (.bool true) W :=
  backs_law n hn W s1 s2 s3 x1 x2 x3 r1.1 r2.1 r3.1 r3.2.2 r1.2 r2.2 r3.2.1
end Go.Proofs.YtbiilejgfihohaaGreat
set_option linter.all false
namespace Go.Cu
open Go Go.RowKit Go.ChangeShapes Go.WideShapes
section
variable {H : Type} {enc : TypeId × Value → H} {P : Program}
def okW (P : Program) (t : TypeId) (d : DataW H) : Prop := ∀ n ∈ d.weights P t, n ≤ reachBytes
theorem okW_each {ts : List TypeId} {ds : List (DataW H)} {j : Nat} {t : TypeId} {d : DataW H} (h : (DataW.weightsEach P ts ds).all (· ≤ reachBytes) = true) (ht : ts[j]? = some t) (hd : ds[j]? = some d) : okW P t d :=
  fun n hn => by simpa using List.all_eq_true.1 h n (DataW.weights_mem_each ht hd n hn)
theorem weights_mem_all {e : TypeId} : ∀ {ds : List (DataW H)} {j : Nat} {d : DataW H}, ds[j]? = some d → ∀ n ∈ d.weights P e, n ∈ DataW.weightsAll P e ds
  | d0 :: ds, 0, d, hd, n, hn => by
    simp only [List.getElem?_cons_zero, Option.some.injEq] at hd
    subst hd
    simp only [DataW.weightsAll, List.mem_append]; exact .inl hn
  | d0 :: ds, j + 1, d, hd, n, hn => by
    simp only [List.getElem?_cons_succ] at hd
    simp only [DataW.weightsAll, List.mem_append]; exact .inr (weights_mem_all hd n hn)
theorem okW_slice {t e : TypeId} {elems sp : List (DataW H)} (h : okW P t (.slice elems sp)) (ht : P.underlying t = some (.slice e)) :
    (elems.length + sp.length) * P.bytesOf e ≤ reachBytes ∧ ∀ (j : Nat) (d : DataW H), elems[j]? = some d → okW P e d := by
  unfold okW at h
  simp only [DataW.weights, ht, List.mem_cons, List.mem_append] at h
  exact ⟨h _ (.inl rfl), fun j d hd n hn => h n (.inr (.inl (weights_mem_all hd n hn)))⟩
theorem open_nums {W : World} {base : Nat} {held : Bool} {t e : TypeId} {k : IntKind} {fuel : Nat} {v : Value} {x : DataW H × List MemPlace} (ht : P.underlying t = some (.slice e)) (he : P.underlying e = some (.int k)) (hc : P.cellsOf e = 1) (hb : 1 ≤ P.bytesOf e)
    (h : DataW.trod enc P W base (fun _ => true) held fuel t [v] = some x) (hw : okW P t x.1) :
    ∃ (s : Sl) (l : List Int), v = .slice s.base s.len s.cap ∧ Rds (.int k) W s l ∧ (∀ n ∈ l, (Lit.int k n).wf = true) ∧ l.length ≤ 140737488351232 := by
  rcases open_ints ht he hc h with ⟨h1, rfl⟩ | ⟨a, len, cap, zs, h1, _, hl, hm, hz, rfl, hcell, hwf⟩
  · injection h1 with h1 _
    subst h1
    exact ⟨⟨none, 0, 0⟩, [], rfl, Rds.nil _ _, by simp, by simp⟩
  · injection h1 with h1 _
    subst h1
    simp only [if_true] at hz
    have hwt := (okW_slice hw ht).1
    have hmul : ∀ n, n * 1 ≤ n * P.bytesOf e := fun n => Nat.mul_le_mul_left n hb
    have hlen : (zs.take len).length = len := by rw [List.length_take]; omega
    have := hmul ((lits (H := H) k (zs.take len)).length + (lits (H := H) k (zs.drop len)).length)
    have e1 : (lits (H := H) k (zs.take len)).length = len := by simp [lits]; omega
    have hr : reachBytes = 140737488351232 := rfl
    refine ⟨⟨some a, len, cap⟩, zs.take len, rfl, ⟨hlen.symm, hl, fun i x hi => ⟨a, rfl, ?_⟩⟩, fun n hn => hwf n (List.mem_of_mem_take hn), by omega⟩
    rw [List.getElem?_take] at hi
    split at hi
    · have hi' : i < zs.length := (List.getElem?_eq_some_iff.1 hi).1
      rw [hcell i hi', List.getD_eq_getElem?_getD, hi]; rfl
    · cases hi
theorem one_of_take {cs : List Value} {o : Nat} {v : Value} (h : (cs.drop o).take 1 = [v]) : cs[o]? = some v := by
  have : ((cs.drop o).take 1)[0]? = some v := by rw [h]; rfl
  rw [List.getElem?_take, if_pos (by omega), List.getElem?_drop] at this
  simpa using this
end
end Go.Cu
set_option linter.all false
namespace Go.Cu
open Go Go.RowKit Go.ChangeShapes Go.WideShapes
section
variable {H : Type} {enc : TypeId × Value → H} {P : Program}
theorem trodAll_ex (hl : laidOutB P = true) {W W' : World} (hx : Ex W W') : ∀ {ts : List TypeId} {vs : List Value} {ds : List (DataW H)} {ps : List MemPlace}, (∀ t ∈ ts, P.readableRec t = true ∧ t < P.types.size) →
    DataW.TrodAll enc P W 0 (fun _ => true) true ts vs ds ps → DataW.TrodAll enc P W' 0 (fun b => decide (b < W.heap.size)) true ts vs ds ps
  | [], vs, ds, ps, _, h => by
    obtain ⟨rfl, rfl, rfl⟩ := trodAll_nil h
    exact rfl
  | t :: ts, vs, ds, ps, hr, h => by
    obtain ⟨v, vs', d, ds', p, q, rfl, rfl, rfl, h0, h1⟩ := trodAll_cons h
    obtain ⟨r1, r2⟩ := hr t List.mem_cons_self
    have hlt : ∀ x ∈ p, x.block < W.heap.size := by
      obtain ⟨fuel, hf⟩ := h0
      exact fun x hx' => DataW.trod_lt fuel _ _ _ hf x hx'
    exact ⟨p, q, Below.trod hl r1 r2 h0 hx.below hlt, trodAll_ex hl hx (fun t ht => hr t (List.mem_cons_of_mem _ ht)) h1, rfl⟩
theorem trodAll_len : ∀ {ts : List TypeId} {vs : List Value} {ds : List (DataW H)} {ps : List MemPlace} {W : World}, DataW.TrodAll enc P W 0 (fun _ => true) true ts vs ds ps → ds.length = ts.length
  | [], vs, ds, ps, W, h => by obtain ⟨rfl, rfl, rfl⟩ := trodAll_nil h; rfl
  | t :: ts, vs, ds, ps, W, h => by
    obtain ⟨v, vs', d, ds', p, q, rfl, rfl, rfl, h0, h1⟩ := trodAll_cons h
    simp [trodAll_len h1]
theorem contract_all {f : FuncId} {fn : Func} {s : ChangeSpec} {ts : List TypeId} {tb : TypeId} {laid : List (String × DataW Unit)} (hpar : fn.params.toList = ts) (hres : fn.resultTypes.toList = [tb]) (hb : P.underlying tb = some .bool)
    (hl : laidOutB P = true) (hr : ∀ t ∈ ts, P.readableRec t = true ∧ t < P.types.size) (hvars : s.vars = []) (hfn : ∀ ds : List (DataW H), ds.length = ts.length → s.fn H (ds ++ []) = { results := [.lit (.bool true)], args := ds })
    (hcall : ∀ (W : World) (base : Nat) (args : Array Value) (ds : List (DataW H)) (p : List MemPlace), (∀ (j : Nat) t v, ts[j]? = some t → args.toList[j]? = some v → Value.okWide P W .any base t v) → DataW.TrodAll enc P W 0 (fun _ => true) true ts args.toList ds p →
      (∀ (j : Nat) t d, ts[j]? = some t → ds[j]? = some d → okW P t d) → laidMetH P laid W → Gv P f args (.bool true) W)
    (W : World) (base : Nat) (args : Array Value) (ds gs : List (DataW H)) (before : List MemPlace) (hval : ∀ (j : Nat) t v, fn.params[j]? = some t → args[j]? = some v → Value.okWide P W .any base t v)
    (hW : DataW.Whole enc P fn.params.toList s.vars false W args.toList ds gs before)
    (hwt : (DataW.weightsEach P (fn.params.toList ++ (OpenSpec.ofChange s).bare.plain.varTypes P) (ds ++ gs)).all (· ≤ reachBytes) = true) (hL : laidMetH P laid W) :
    Calls P f args W fun e W' => ∃ v, e = .returned v ∧ s.post enc P fn false true false false W args v W' := by
  have hW' := hW
  obtain ⟨p, q, hA, hV, hpq, _, _⟩ := hW
  rw [hpar] at hA
  rw [hvars] at hV
  obtain ⟨rfl, rfl⟩ := trodVars_none hV
  refine (hcall W base args ds p (fun j t v ht hv => hval j t v (by rw [← Array.getElem?_toList, hpar]; exact ht) (by rw [← Array.getElem?_toList]; exact hv)) hA (fun j t d ht hd => ?_) hL).mono fun e W1 ⟨he, hx⟩ => ⟨_, he, ?_⟩
  · refine okW_each (j := j) hwt ?_ ?_
    · rw [hpar]
      rw [List.getElem?_append_left (List.getElem?_eq_some_iff.1 ht).1]; exact ht
    · rw [List.append_nil]; exact hd
  · have hlen := trodAll_len hA
    have hsz : fn.resultTypes.size = 1 := by rw [← Array.length_toList, hres]; rfl
    refine ⟨ds, [], before, [], p, [], hW', ?_, ?_, ?_, hx.below.frame _, fun h => by cases h⟩
    · rw [hres, hsz, hfn ds hlen]; exact trodAll_mk1 (shut_bool hb true)
    · rw [hpar, hfn ds hlen]; exact trodAll_ex hl hx hr hA
    · rw [hvars, hfn ds hlen]; rfl
end
end Go.Cu
set_option linter.all false
namespace Go.Proofs.YtbiilejgfihohaaGreat
open Go Go.Cu Go.ChangeShapes Go.WideShapes Go.RowKit
set_option linter.unusedVariables false
set_option maxHeartbeats 4000000
set_option maxRecDepth 100000
theorem ownKn : ownKnob Tryz.prog.godebug = none := by kernel_rfl
theorem laidOut : laidOutB Tryz.prog = true := by kernel_rfl
theorem uBool : Program.underlying Tryz.prog 4 = some .bool := by kernel_rfl
theorem uIntO : Program.underlying Tryz.prog 3 = some (.int .i64) := by kernel_rfl
theorem uU8O : Program.underlying Tryz.prog 5 = some (.int .u8) := by kernel_rfl
theorem cIntO : Program.cellsOf Tryz.prog 3 = 1 := by kernel_rfl
theorem cU8O : Program.cellsOf Tryz.prog 5 = 1 := by kernel_rfl
theorem cCode : Program.cellsOf Tryz.prog 23 = 4 := by kernel_rfl
theorem uCode : Program.underlying Tryz.prog 23 = some (.struct (Program.fieldsOf Tryz.prog 23)) := by kernel_rfl
theorem fCode : (Program.fieldsOf Tryz.prog 23).map (fun f => (f.type, f.offset)) = #[(3, 0), (3, 1), (3, 2), (3, 3)] := by kernel_rfl
theorem field_at {fs : Array Field} {l : Array (TypeId × Nat)} (h : fs.map (fun f => (f.type, f.offset)) = l) {i : Nat} {t : TypeId} {o : Nat} (hi : l[i]? = some (t, o)) : ∃ f, fs[i]? = some f ∧ f.type = t ∧ f.offset = o := by
  rw [← h, Array.getElem?_map] at hi
  cases hf : fs[i]? with
  | none => rw [hf] at hi; cases hi
  | some f =>
    rw [hf] at hi
    simp only [Option.map_some, Option.some.injEq, Prod.mk.injEq] at hi
    exact ⟨f, rfl, hi.1, hi.2⟩
section
variable {H : Type} {enc : TypeId × Value → H}
theorem wf_i64 {z : Int} (h : (Lit.int .i64 z).wf = true) : I64 z := by
  simp only [Lit.wf, IntKind.min, IntKind.max, IntKind.signed, IntKind.bits, Bool.and_eq_true, decide_eq_true_eq] at h
  simp at h
  exact h
theorem wf_u8 {z : Int} (h : (Lit.int .u8 z).wf = true) : 0 ≤ z ∧ z < 256 := by
  simp only [Lit.wf, IntKind.min, IntKind.max, IntKind.signed, IntKind.bits, Bool.and_eq_true, decide_eq_true_eq] at h
  simp at h
  omega
theorem open_code {W : World} {fuel : Nat} {v : Value} {x : DataW H × List MemPlace} (h : DataW.trod enc Tryz.prog W 0 (fun _ => true) true fuel 23 v.cells.toList = some x) :
    ∃ n : CodeI, v = .agg #[.int .i64 n.1, .int .i64 n.2.1, .int .i64 n.2.2.1, .int .i64 n.2.2.2.1] ∧ Code64 n := by
  obtain ⟨xs, n, _, rfl, hlen, hxs, hfs⟩ := DataW.trod_struct uCode h
  rw [cCode] at hlen
  have hsz : (Program.fieldsOf Tryz.prog 23).size = 4 := by have := congrArg Array.size fCode; simpa using this
  have num : ∀ (i : Nat), i < 4 → #[(3, 0), (3, 1), (3, 2), (3, 3)][i]? = some (3, i) → ∃ z, v.cells.toList[i]? = some (.int .i64 z) ∧ I64 z := by
    intro i hi hl
    obtain ⟨f, hfi, e1, e2⟩ := field_at fCode hl
    have := hfs i f hfi
    rw [List.getElem?_eq_getElem (by omega), e1, e2, cIntO] at this
    obtain ⟨z, hz, _, hwf⟩ := DataW.trod_int uIntO this
    exact ⟨z, one_of_take hz, wf_i64 hwf⟩
  obtain ⟨z0, e0, w0⟩ := num 0 (by omega) rfl
  obtain ⟨z1, e1, w1⟩ := num 1 (by omega) rfl
  obtain ⟨z2, e2, w2⟩ := num 2 (by omega) rfl
  obtain ⟨z3, e3, w3⟩ := num 3 (by omega) rfl
  have hcs : v.cells.toList = [.int .i64 z0, .int .i64 z1, .int .i64 z2, .int .i64 z3] := by
    generalize v.cells.toList = cs at hlen e0 e1 e2 e3
    match cs, hlen with
    | [a0, a1, a2, a3], _ =>
      simp only [List.getElem?_cons_zero, List.getElem?_cons_succ, Option.some.injEq] at e0 e1 e2 e3
      subst e0 e1 e2 e3
      rfl
  refine ⟨(z0, z1, z2, z3, ()), ?_, ⟨w0, w1, w2, w3⟩⟩
  cases v with
  | agg cs =>
    have : cs.toList = [.int .i64 z0, .int .i64 z1, .int .i64 z2, .int .i64 z3] := hcs
    congr 1
    exact Array.toList_inj.1 (by rw [this])
  | _ => exact absurd (congrArg List.length hcs) (by simp [Value.cells])
theorem open_bytes {W : World} {fuel : Nat} {v : Value} {x : DataW H × List MemPlace} (h : DataW.trod enc Tryz.prog W 0 (fun _ => true) true fuel 24 [v] = some x) (hw : okW Tryz.prog 24 x.1) :
    ∃ (s : Sl) (l : List F8), v = .slice s.base s.len s.cap ∧ Rds f8v W s l ∧ l.length ≤ 140737488355328 := by
  obtain ⟨s, l, hv, hr, hwf, hl⟩ := open_nums (k := .u8) tB uU8O cU8O (Nat.le_of_ble_eq_true (by kernel_rfl)) h hw
  refine ⟨s, l.map (fun z => BitVec.ofNat 8 z.toNat), hv, ⟨by rw [List.length_map]; exact hr.1, hr.2.1, fun i y hi => ?_⟩, by rw [List.length_map]; omega⟩
  rw [List.getElem?_map] at hi
  cases hz : l[i]? with
  | none => rw [hz] at hi; cases hi
  | some z =>
    rw [hz] at hi
    cases hi
    obtain ⟨a, ha, hc⟩ := hr.2.2 i z hz
    refine ⟨a, ha, ?_⟩
    have hb := wf_u8 (hwf z (List.mem_of_getElem? hz))
    have e : ((BitVec.ofNat 8 z.toNat).toNat : Int) = z := by
      rw [BitVec.toNat_ofNat, Nat.mod_eq_of_lt (by omega)]; omega
    show W.cell? (a.add i) = some (.int .u8 ((BitVec.ofNat 8 z.toNat).toNat : Int))
    rw [e]
    exact hc
theorem open_i64s {W : World} {fuel : Nat} {v : Value} {x : DataW H × List MemPlace} (h : DataW.trod enc Tryz.prog W 0 (fun _ => true) true fuel 25 [v] = some x) (hw : okW Tryz.prog 25 x.1) :
    ∃ (s : Sl) (l : List Int), v = .slice s.base s.len s.cap ∧ Rds i64v W s l ∧ l.length ≤ 140737488355328 ∧ ∀ z ∈ l, I64 z := by
  obtain ⟨s, l, hv, hr, hwf, hl⟩ := open_nums (k := .i64) tI uIntO cIntO (Nat.le_of_ble_eq_true (by kernel_rfl)) h hw
  exact ⟨s, l, hv, hr, by omega, fun z hz => wf_i64 (hwf z hz)⟩
theorem trodAll_four {w : World} {base : Nat} {spare : Nat → Bool} {held : Bool} {t0 t1 t2 t3 : TypeId} {args : Array Value} {ds : List (DataW H)} {ps : List MemPlace} (h : DataW.TrodAll enc Tryz.prog w base spare held [t0, t1, t2, t3] args.toList ds ps) :
    ∃ v0 v1 v2 v3 d0 d1 d2 d3 p0 p1 p2 p3, args = #[v0, v1, v2, v3] ∧ ds = [d0, d1, d2, d3] ∧ ps = p0 ++ (p1 ++ (p2 ++ p3)) ∧ DataW.Trod enc Tryz.prog w base spare held t0 v0 d0 p0 ∧ DataW.Trod enc Tryz.prog w base spare held t1 v1 d1 p1 ∧ DataW.Trod enc Tryz.prog w base spare held t2 v2 d2 p2 ∧ DataW.Trod enc Tryz.prog w base spare held t3 v3 d3 p3 := by
  obtain ⟨v0, vs0, d0, ds0, p0, q0, hargs, rfl, rfl, h0, r0⟩ := trodAll_cons h
  obtain ⟨v1, vs1, d1, ds1, p1, q1, rfl, rfl, rfl, h1, r1⟩ := trodAll_cons r0
  obtain ⟨v2, vs2, d2, ds2, p2, q2, rfl, rfl, rfl, h2, r2⟩ := trodAll_cons r1
  obtain ⟨v3, vs3, d3, ds3, p3, q3, rfl, rfl, rfl, h3, r3⟩ := trodAll_cons r2
  obtain ⟨rfl, rfl, rfl⟩ := trodAll_nil r3
  exact ⟨v0, v1, v2, v3, d0, d1, d2, d3, p0, p1, p2, p3, by cases args; simp_all, rfl, by simp, h0, h1, h2, h3⟩
end
noncomputable abbrev zeroCode : Value := .agg #[.int .i64 0, .int .i64 0, .int .i64 0, .int .i64 0]
end Go.Proofs.YtbiilejgfihohaaGreat
