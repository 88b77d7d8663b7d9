/- The program's Join, from the first source on. -/
import Derived.Test.YtmmejgneelkhkaaDoorSpE
import Derived.Test.YtmmejgneelkhkaaDoorCc
import Derived.Test.YtmmejgneelkhkaaDoorSpF
import Derived.Test.YtmmejgneelkhkaaDoorStSpec3
import Derived.Test.YtmmejgneelkhkaaDoorSpG
set_option linter.all false
namespace Go.Proofs.YtmmejgneelkhkaaDoor
open Go Go.Cu Go.RowKit
set_option linter.unusedVariables false
set_option maxHeartbeats 2000000
set_option maxRecDepth 100000
theorem join_in {R : Ending → World → Prop} {W0 : World} {K1 : (Int × (Option Addr) × Int × Sl × Int × Int × Unit) → World → Prop} {T : Ths} {gd i size left : Nat} {gs : Nat → Nat} {bs bd : Nat → Addr} {ea : Addr} {dP cP : Nat → Sl} {t55 : Sl} {t56 : Int} {s : Src} {d : Snk} {w : World}
    (hS : Sep W0 w T) (hs : T (.ps i) = PSrc (gs i) (bs i) (dP i) (cP i) s) (hd : T (.pk 0) = PSnk gd (bd 0) d) (hg : s.Good) (hgd : d.Good) (hsize : 1 ≤ size) (hsize2 : size ≤ 1048576) (hleft : left ≤ 9223372036854775807) (hi : i ≤ 140737488355328)
    (ht : s.turns ≤ 2305843009213693952) (hdl : s.data.length ≤ 1048576) (hsz : d.got.length + 1048576 ≤ 140737488355328) (he : EndIs W0 ea)
    (hgo : ∀ (w' : World) (T' : Ths), Sep W0 w' T' → KeepR T T' → T' (.ps i) = PSrc (gs i) (bs i) (dP i) (cP i) (jonF size i (left + 1) left s d).1 → T' (.pk 0) = PSnk gd (bd 0) (jonF size i (left + 1) left s d).2.1 → (∀ j, j ≠ i → T' (.ps j) = T (.ps j)) → (jonF size i (left + 1) left s d).2.2.2 = none →
      K1 ((size : Int), at0 gd, ((jonF size i (left + 1) left s d).2.2.1 : Int), t55, t56, IntKind.wrap .i64 ((i : Int) + 1), ()) w')
    (hend : ∀ (w' : World) (T' : Ths) (e : Res), Sep W0 w' T' → KeepR T T' → T' (.ps i) = PSrc (gs i) (bs i) (dP i) (cP i) (jonF size i (left + 1) left s d).1 → T' (.pk 0) = PSnk gd (bd 0) (jonF size i (left + 1) left s d).2.1 → (∀ j, j ≠ i → T' (.ps j) = T (.ps j)) → (jonF size i (left + 1) left s d).2.2.2 = some e →
      R (.returned (resV bs bd e)) w') :
    stream_Join.l2 R K1 ((size : Int), at0 gd, (left : Int), at0 (gs i), false, t55, t56, (i : Int), ()) w := by
  unfold stream_Join.l2
  generalize hr0 : jonF size i (left + 1) left s d = r0 at hgo hend
  refine loopW_of (fun st w1 => ∃ (s1 : Src) (d1 : Snk) (T1 : Ths) (left1 f : Nat) (ended : Bool), st = ((size : Int), at0 gd, (left1 : Int), at0 (gs i), ended, t55, t56, (i : Int), ()) ∧ Sep W0 w1 T1 ∧ KeepR T T1 ∧ T1 (.ps i) = PSrc (gs i) (bs i) (dP i) (cP i) s1 ∧ T1 (.pk 0) = PSnk gd (bd 0) d1 ∧ (∀ j, j ≠ i → T1 (.ps j) = T (.ps j)) ∧
      s.Like s1 ∧ s1.Good ∧ d1.Good ∧ left1 ≤ left ∧ s1.turns + 200 * s.pos ≤ s.turns + 200 * s1.pos + 200 ∧ d1.got.length + s.pos ≤ d.got.length + s1.pos ∧ ((ended = false ∧ s1.turns + 200 * s.pos ≤ s.turns + 200 * s1.pos ∧ left1 + 1 ≤ f ∧ jonF size i f left1 s1 d1 = r0) ∨ (ended = true ∧ r0 = (s1, d1, left1, none))))
    (fun st _ => if st.2.2.2.2.1 then 0 else st.2.2.1.toNat + 1) ?_ ⟨s, d, T, left, left + 1, false, rfl, hS, KeepR.refl T, hs, hd, fun _ _ => rfl, Src.Like.refl s, hg, hgd, Nat.le_refl _, by omega, by omega, .inl ⟨rfl, by omega, Nat.le_refl _, hr0⟩⟩
  rintro k2 _ w1 ⟨s1, d1, T1, left1, f, ended, rfl, hS1, hK1, hs1, hd1, ho1, hl1, hg1, hgd1, hle1, ht1, hdl1, hor⟩ hk2
  unfold stream_Join.b2
  dsimp only at hk2 ⊢
  have out : r0 = (s1, d1, left1, none) → K1 ((size : Int), at0 gd, (left1 : Int), t55, t56, IntKind.wrap .i64 ((i : Int) + 1), ()) w1 := by
    intro hrr
    rw [hrr] at hgo
    exact hgo w1 T1 hS1 hK1 hs1 hd1 ho1 rfl
  refine Cd_dec (fun hlt => ?_) (fun hge => ?_)
  · unfold stream_Join.j2
    rcases hor with ⟨rfl, ht1', hf, hr⟩ | ⟨rfl, hrr⟩
    · refine Cd_t ?_
      have hl0 : left1 ≠ 0 := by omega
      obtain ⟨f, rfl⟩ : ∃ f', f = f' + 1 := ⟨f - 1, by omega⟩
      simp only [jonF, if_neg hl0] at hr
      rw [minI_nat]
      have hw1 : 1 ≤ min size left1 := by omega
      have hw2 : min size left1 ≤ left1 := Nat.min_le_right _ _
      have hw3 : min size left1 ≤ size := Nat.min_le_left _ _
      generalize min size left1 = want at hr hw1 hw2 hw3 ⊢
      have hplace := hg1.place
      have hdat := hl1.1
      refine Cl_mono (fill_ok hS1 (ks := .ps i) (kb := .tm 1) hs1 (by simp) hg1 (by rw [hdat] at hplace; omega) he (by omega)) ?_
      obtain ⟨hq, hqt, hqo, hq0⟩ := full_reads hg1 want
      rintro x w3 ⟨y, rfl, hS3⟩
      generalize s1.full want = q at hq hqt hqo hq0 hS3 hr ⊢
      have hqle := hq.le
      have hqpos := hq.pos
      have hqp := hq.good.place
      rw [hq.like.1, hdat] at hqp
      have hqlk := hl1.trans hq.like
      have hy3 : Rds b8 w3 y q.2.1 := hS3.rds (k := .tm 1) (Ths.up_same _ _ _)
      have hyl := hy3.1
      have hK3 : KeepR T ((T1.up (.ps i) (PSrc (gs i) (bs i) (dP i) (cP i) q.1)).up (.tm 1) (Rdo b8 y q.2.1)) := (hK1.ps i _).tm 1 _
      have hps3 : ((T1.up (.ps i) (PSrc (gs i) (bs i) (dP i) (cP i) q.1)).up (.tm 1) (Rdo b8 y q.2.1)) (.ps i) = PSrc (gs i) (bs i) (dP i) (cP i) q.1 := by rw [Ths.up_ne _ _ (by simp), Ths.up_same]
      have hpo3 : ∀ j, j ≠ i → ((T1.up (.ps i) (PSrc (gs i) (bs i) (dP i) (cP i) q.1)).up (.tm 1) (Rdo b8 y q.2.1)) (.ps j) = T (.ps j) := fun j hj => by rw [Ths.up_ne _ _ (by simp), Ths.up_ne _ _ (by simpa using hj)]; exact ho1 j hj
      have hpk3 : ((T1.up (.ps i) (PSrc (gs i) (bs i) (dP i) (cP i) q.1)).up (.tm 1) (Rdo b8 y q.2.1)) (.pk 0) = PSnk gd (bd 0) d1 := by rw [Ths.up_ne _ _ (by simp), Ths.up_ne _ _ (by simp)]; exact hd1
      generalize (T1.up (.ps i) (PSrc (gs i) (bs i) (dP i) (cP i) q.1)).up (.tm 1) (Rdo b8 y q.2.1) = T3 at hS3 hK3 hps3 hpo3 hpk3
      have hend3 : ∀ e, r0 = (q.1, d1, left1, some e) → R (.returned (resV bs bd e)) w3 := fun e he => hend w3 T3 e hS3 hK3 (by rw [he]; exact hps3) (by rw [he]; exact hpk3) hpo3 (by rw [he])
      dsimp only
      have put : ∀ (fin : Bool), ((d1.put q.2.1).2 = true → (fin = false ∧ q.2.1.length = want ∧ jonF size i f (left1 - q.2.1.length) q.1 (d1.put q.2.1).1 = r0) ∨ (fin = true ∧ r0 = (q.1, (d1.put q.2.1).1, left1 - q.2.1.length, none))) → ((d1.put q.2.1).2 = false → r0 = (q.1, (d1.put q.2.1).1, left1 - q.2.1.length, some (.snk 0))) →
          Cl Tryd.prog 29 #[.pointer (at0 gd), .slice y.base y.len y.cap] (.one (.at .any)) (fun x17 w18 => Pu Tryd.prog (do eqGuard .neq 50 (.tmp 82) (.const .nilIface) x17 .nilIface; binOp .neq 50 x17 .nilIface) (.one (.at .bool)) (fun (x19 : Bool) w20 =>
            Cd x19 (R (.returned x17) w20) (k2 ((size : Int), at0 gd, (IntKind.wrap .i64 ((left1 : Int) - ((y.len : Nat) : Int))), at0 (gs i), fin, t55, t56, (i : Int), ()) w20)) w18) w3 := by
        intro fin hyes hno
        have hput := put_facts hgd1 q.2.1
        refine Cl_mono (put_ok hS3 (k := .pk 0) hpk3 hy3 hgd1 (by omega)) ?_
        generalize d1.put q.2.1 = e at hput hyes hno ⊢
        rintro x w5 ⟨rfl, hS5⟩
        obtain ⟨hp1, hp2, hp3, hp4⟩ := hput
        have hK5 := hK3.pk 0 (PSnk gd (bd 0) e.1)
        have hps5 : (T3.up (.pk 0) (PSnk gd (bd 0) e.1)) (.ps i) = PSrc (gs i) (bs i) (dP i) (cP i) q.1 := by rw [Ths.up_ne _ _ (by simp)]; exact hps3
        have hpo5 : ∀ j, j ≠ i → (T3.up (.pk 0) (PSnk gd (bd 0) e.1)) (.ps j) = T (.ps j) := fun j hj => by rw [Ths.up_ne _ _ (by simp)]; exact hpo3 j hj
        by_cases hb : e.2 = true
        · rw [if_pos hb]
          refine Pu_ne (b := false) (.inl ⟨rfl, rfl⟩) (Cd_f ?_)
          rw [wrap64 (by omega) (by omega), show (left1 : Int) - ((y.len : Nat) : Int) = ((left1 - q.2.1.length : Nat) : Int) by omega]
          rcases hyes hb with ⟨rfl, hqw, hr'⟩ | ⟨rfl, hr'⟩
          · exact hk2 _ _ ⟨q.1, e.1, _, left1 - q.2.1.length, f, false, rfl, hS5, hK5, hps5, Ths.up_same _ _ _, hpo5, hqlk, hq.good, hp1, by omega, by omega, by omega, .inl ⟨rfl, by omega, by omega, hr'⟩⟩ (by dsimp only; simp only [Bool.false_eq_true, if_false]; omega)
          · exact hk2 _ _ ⟨q.1, e.1, _, left1 - q.2.1.length, f, true, rfl, hS5, hK5, hps5, Ths.up_same _ _ _, hpo5, hqlk, hq.good, hp1, by omega, by omega, by omega, .inr ⟨rfl, hr'⟩⟩ (by dsimp only; simp only [Bool.false_eq_true, if_false, if_true]; omega)
        · rw [if_neg hb]
          have hr' := hno (by simpa using hb)
          refine Pu_ne (b := true) (.inr ⟨⟨_, _, rfl⟩, rfl⟩) (Cd_t ?_)
          exact hend w5 _ (.snk 0) hS5 hK5 (by rw [hr']; exact hps5) (by rw [hr']; exact Ths.up_same _ _ _) hpo5 (by rw [hr'])
      cases hwh : q.2.2 with
      | ok =>
        rw [hwh] at hr
        refine Pu_ne (b := false) (.inl ⟨rfl, rfl⟩) (Cd_f (put false (fun hb => .inl ⟨rfl, hqo hwh, ?_⟩) (fun hb => ?_)))
        · dsimp only at hr; rw [if_pos hb] at hr; exact hr
        · dsimp only at hr; rw [if_neg (by rw [hb]; decide)] at hr; exact hr.symm
      | fin =>
        rw [hwh] at hr
        refine Pu_ne (b := false) (.inl ⟨rfl, rfl⟩) (Cd_f (put true (fun hb => .inr ⟨rfl, ?_⟩) (fun hb => ?_)))
        · dsimp only at hr; rw [if_pos hb] at hr; exact hr.symm
        · dsimp only at hr; rw [if_neg (by rw [hb]; decide)] at hr; exact hr.symm
      | broken =>
        rw [hwh] at hr
        exact Pu_ne (b := true) (.inr ⟨⟨_, _, rfl⟩, rfl⟩) (Cd_t (hend3 (.src i) hr.symm))
      | short =>
        rw [hwh] at hr
        exact Pu_ne (b := true) (.inr ⟨⟨_, _, rfl⟩, rfl⟩) (Cd_t (hend3 (.no 240) hr.symm))
    · exact Cd_f (out hrr)
  · unfold stream_Join.j2
    refine Cd_f (out ?_)
    rcases hor with ⟨_, _, _, hr⟩ | ⟨_, hrr⟩
    · obtain rfl : left1 = 0 := by omega
      rw [← hr]
      cases f <;> simp [jonF]
    · exact hrr
theorem join_out {R : Ending → World → Prop} {W0 : World} {T : Ths} {gd size total js : Nat} {gs : Nat → Nat} {bs bd : Nat → Addr} {ea : Addr} {dP cP : Nat → Sl} {src : Sl} {ss : List Src} {d : Snk} {w : World}
    (hS : Sep W0 w T) (hs : ∀ j s, ss[j]? = some s → T (.ps j) = PSrc (gs j) (bs j) (dP j) (cP j) s) (hd : T (.pk 0) = PSnk gd (bd 0) d) (hsrc : T (.bx js) = Rdo ptrV src ((List.range ss.length).map fun j => some (gs j))) (hgd : d.Good) (hg : ∀ s ∈ ss, s.Good ∧ s.data.length ≤ 1048576 ∧ s.turns ≤ 2305843009213693952)
    (hsize : 1 ≤ size) (hsize2 : size ≤ 1048576) (hleft : total ≤ 9223372036854775807) (hn : ss.length ≤ 1048576) (hsz : d.got.length + ss.length * 1048576 ≤ 70368744177664) (he : EndIs W0 ea)
    (hend : ∀ (w' : World) (T' : Ths), Sep W0 w' T' → KeepR T T' → T' (.pk 0) = PSnk gd (bd 0) (joinF size 0 total d ss).2.1 → (∀ j s, (joinF size 0 total d ss).1[j]? = some s → T' (.ps j) = PSrc (gs j) (bs j) (dP j) (cP j) s) →
      R (.returned (resV bs bd (joinF size 0 total d ss).2.2)) w') :
    stream_Join.l1 R ((size : Int), at0 gd, (total : Int), src, ((src.len : Nat) : Int), 0, ()) w := by
  unfold stream_Join.l1
  generalize hq0 : joinF size 0 total d ss = q0 at hend
  have hdl : src.len = ss.length := by
    have := (hS.rds hsrc).1
    simpa using this
  refine loopW_of (fun st w1 => ∃ (i left1 : Nat) (d1 : Snk) (pre rest : List Src) (T1 : Ths), st = ((size : Int), at0 gd, (left1 : Int), src, ((src.len : Nat) : Int), (i : Int), ()) ∧ pre.length = i ∧ i + rest.length = ss.length ∧ (∀ s ∈ rest, s ∈ ss) ∧ Sep W0 w1 T1 ∧ KeepR T T1 ∧ T1 (.pk 0) = PSnk gd (bd 0) d1 ∧
      (∀ j s, (pre ++ rest)[j]? = some s → T1 (.ps j) = PSrc (gs j) (bs j) (dP j) (cP j) s) ∧ d1.Good ∧ left1 ≤ total ∧ d1.got.length + rest.length * 1048576 ≤ 70368744177664 ∧
      q0 = (pre ++ (joinF size i left1 d1 rest).1, (joinF size i left1 d1 rest).2.1, (joinF size i left1 d1 rest).2.2))
    (fun st _ => ((src.len : Int) - st.2.2.2.2.2.1).toNat) ?_ ⟨0, total, d, [], ss, T, rfl, rfl, by simp, fun _ h => h, hS, KeepR.refl T, hd, hs, hgd, Nat.le_refl _, hsz, by rw [← hq0]; simp⟩
  rintro k1 _ w1 ⟨i, left1, d1, pre, rest, T1, rfl, hpre, hrest, hmem, hS1, hK1, hd1, hs1, hgd1, hle1, hsz1, hq⟩ hk1
  unfold stream_Join.b1
  dsimp only at hk1 ⊢
  refine Cd_dec (fun hlt => ?_) (fun hge => ?_)
  · cases rest with
    | nil => simp at hrest; omega
    | cons s rest =>
      simp only [List.length_cons] at hrest hsz1
      have hsrc1 : Rds ptrV w1 src ((List.range ss.length).map fun j => some (gs j)) := hS1.rds (k := .bx js) ((hK1.2.2 js).trans hsrc)
      refine Pu_idx hsrc1 (e := 52) (by kernel_rfl) (by kernel_rfl) (by omega) (by simp; omega) fun a x hx hcell _ => ?_
      have hx' : x = some (gs i) := by
        rw [Int.toNat_natCast, List.getElem?_map, List.getElem?_range (by omega)] at hx
        exact (Option.some.inj hx).symm
      subst hx'
      refine Rd_one (c := .ptr) (x := at0 (gs i)) (by kernel_rfl) hcell ?_
      have hsi := hs1 i s (by rw [← hpre]; simp)
      obtain ⟨hg1, hg2, hg3⟩ := hg s (hmem s (by simp))
      have hjo := jonF_ok (i := i) hsize (left1 + 1) left1 s d1 hg1 hgd1
      have hjp := hjo.good.place
      rw [hjo.like.1] at hjp
      have hjd := hjo.dlen
      have hjl := hjo.left
      simp only [joinF] at hq
      refine join_in (ea := ea) (bd := bd) hS1 hsi hd1 hg1 hgd1 hsize hsize2 (by omega) (by omega) hg3 hg2 (by omega) he ?_ ?_
      · intro w' T' hS' hK' hs' hd' ho' hnone
        rw [hnone] at hq
        dsimp only at hq
        rw [wrap64 (by omega) (by omega), show (i : Int) + 1 = ((i + 1 : Nat) : Int) by omega]
        refine hk1 _ _ ⟨i + 1, _, _, pre ++ [(jonF size i (left1 + 1) left1 s d1).1], rest, T', rfl, by simp [hpre], by omega, fun d' h => hmem d' (by simp [h]), hS', hK1.trans hK', hd', ?_, hjo.dgood, by omega, by omega, ?_⟩ (by dsimp only; omega)
        · intro j d' hj
          generalize (jonF size i (left1 + 1) left1 s d1).1 = rr at hj hs'
          by_cases hji : j = i
          · subst hji
            rw [← hpre, List.append_assoc, List.getElem?_append_right (Nat.le_refl _), Nat.sub_self] at hj
            simp only [List.cons_append, List.nil_append, List.getElem?_cons_zero, Option.some.injEq] at hj
            rw [← hj]
            exact hs'
          · rw [ho' j hji]
            refine hs1 j d' ?_
            rw [← hj, List.append_assoc]
            rcases Nat.lt_or_ge j pre.length with h | h
            · rw [List.getElem?_append_left h, List.getElem?_append_left h]
            · rw [List.getElem?_append_right h, List.getElem?_append_right h]
              have : j - pre.length ≠ 0 := by omega
              obtain ⟨m, hm⟩ := Nat.exists_eq_succ_of_ne_zero this
              rw [hm]; rfl
        · rw [hq]; simp
      · intro w' T' e hS' hK' hs' hd' ho' hsome
        rw [hsome] at hq
        dsimp only at hq
        have := hend w' T' hS' (hK1.trans hK') (by rw [hq]; exact hd') ?_
        · rw [hq] at this; exact this
        · intro j d' hj
          rw [hq] at hj
          dsimp only at hj
          generalize (jonF size i (left1 + 1) left1 s d1).1 = rr at hj hs'
          by_cases hji : j = i
          · subst hji
            rw [← hpre, List.getElem?_append_right (Nat.le_refl _), Nat.sub_self] at hj
            simp only [List.getElem?_cons_zero, Option.some.injEq] at hj
            rw [← hj]
            exact hs'
          · rw [ho' j hji]
            refine hs1 j d' ?_
            rw [← hj]
            rcases Nat.lt_or_ge j pre.length with h | h
            · rw [List.getElem?_append_left h, List.getElem?_append_left h]
            · rw [List.getElem?_append_right h, List.getElem?_append_right h]
              have : j - pre.length ≠ 0 := by omega
              obtain ⟨m, hm⟩ := Nat.exists_eq_succ_of_ne_zero this
              rw [hm]; rfl
  · have hnil : rest = [] := List.eq_nil_of_length_eq_zero (by omega)
    subst hnil
    simp only [joinF, List.append_nil] at hq
    have := hend w1 T1 hS1 hK1 (by rw [hq]; exact hd1) (fun j s hj => by rw [hq] at hj; exact hs1 j s (by simpa using hj))
    rw [hq] at this
    dsimp only at this
    refine Cd_dec (fun h => ?_) (fun h => ?_)
    · rw [if_pos (by omega)] at this; exact this
    · rw [if_neg (by omega)] at this; exact this
end Go.Proofs.YtmmejgneelkhkaaDoor
/- The document's Join, from the first source on. -/
namespace Go.Proofs.YtmmejgneelkhkaaDoor
open Go Go.Cu Go.RowKit
set_option linter.unusedVariables false
set_option maxHeartbeats 2000000
set_option maxRecDepth 100000
theorem rjoin_in {R : Ending → World → Prop} {W0 : World} {K1 : (Int × (Option Addr) × Addr × Int × Sl × Int × Int × Unit) → World → Prop} {T : Ths} {gd gt i size left : Nat} {gs : Nat → Nat} {dP cP : Nat → Sl} {t51 : Sl} {t52 : Int} {cs : List Value} {s : Src} {d : Snk} {w : World}
    (hS : Sep W0 w T) (hs : T (.rs i) = RSrc (gs i) (dP i) (cP i) s) (hd : T (.rk 0) = RSnk gd d) (hgt : T (.tm 2) = Cel gt cs 54) (hcs : cs.length = 2) (hd0 : Rds b8 W0 (dP i) s.data) (hc0 : Rds i64v W0 (cP i) s.chunks) (hg : s.Good) (hgd : d.Good) (hsize : 1 ≤ size) (hsize2 : size ≤ 1048576) (hleft : left ≤ 9223372036854775807) (hi : i ≤ 140737488355328)
    (ht : s.turns ≤ 2305843009213693952) (hdl : s.data.length ≤ 1048576) (hsz : d.got.length + 1048576 ≤ 140737488355328)
    (hgo : ∀ (w' : World) (T' : Ths), Sep W0 w' T' → KeepP T T' → T' (.tm 2) = T (.tm 2) → T' (.rs i) = RSrc (gs i) (dP i) (cP i) (jonF size i (left + 1) left s d).1 → T' (.rk 0) = RSnk gd (jonF size i (left + 1) left s d).2.1 → (∀ j, j ≠ i → T' (.rs j) = T (.rs j)) → (jonF size i (left + 1) left s d).2.2.2 = none →
      K1 ((size : Int), at0 gd, ⟨gt, 0, none⟩, ((jonF size i (left + 1) left s d).2.2.1 : Int), t51, t52, IntKind.wrap .i64 ((i : Int) + 1), ()) w')
    (hend : ∀ (w' : World) (T' : Ths) (e : Res), Sep W0 w' T' → KeepP T T' → T' (.rs i) = RSrc (gs i) (dP i) (cP i) (jonF size i (left + 1) left s d).1 → T' (.rk 0) = RSnk gd (jonF size i (left + 1) left s d).2.1 → (∀ j, j ≠ i → T' (.rs j) = T (.rs j)) → (jonF size i (left + 1) left s d).2.2.2 = some e →
      R (.returned (.agg #[.int .i64 (resN e).1, .int .i64 (resN e).2])) w') :
    culletref24_Code_Join.l2 R K1 ((size : Int), at0 gd, ⟨gt, 0, none⟩, (left : Int), (i : Int), at0 (gs i), false, t51, t52, (i : Int), ()) w := by
  unfold culletref24_Code_Join.l2
  generalize hr0 : jonF size i (left + 1) left s d = r0 at hgo hend
  refine loopW_of (fun st w1 => ∃ (s1 : Src) (d1 : Snk) (T1 : Ths) (left1 f : Nat) (ended : Bool), st = ((size : Int), at0 gd, ⟨gt, 0, none⟩, (left1 : Int), (i : Int), at0 (gs i), ended, t51, t52, (i : Int), ()) ∧ Sep W0 w1 T1 ∧ KeepP T T1 ∧ T1 (.tm 2) = T (.tm 2) ∧ T1 (.rs i) = RSrc (gs i) (dP i) (cP i) s1 ∧ T1 (.rk 0) = RSnk gd d1 ∧ (∀ j, j ≠ i → T1 (.rs j) = T (.rs j)) ∧
      s.Like s1 ∧ s1.Good ∧ d1.Good ∧ left1 ≤ left ∧ s1.turns + 200 * s.pos ≤ s.turns + 200 * s1.pos + 200 ∧ d1.got.length + s.pos ≤ d.got.length + s1.pos ∧ ((ended = false ∧ s1.turns + 200 * s.pos ≤ s.turns + 200 * s1.pos ∧ left1 + 1 ≤ f ∧ jonF size i f left1 s1 d1 = r0) ∨ (ended = true ∧ r0 = (s1, d1, left1, none))))
    (fun st _ => if st.2.2.2.2.2.2.1 then 0 else st.2.2.2.1.toNat + 1) ?_ ⟨s, d, T, left, left + 1, false, rfl, hS, KeepP.refl T, rfl, hs, hd, fun _ _ => rfl, Src.Like.refl s, hg, hgd, Nat.le_refl _, by omega, by omega, .inl ⟨rfl, by omega, Nat.le_refl _, hr0⟩⟩
  rintro k2 _ w1 ⟨s1, d1, T1, left1, f, ended, rfl, hS1, hK1, hgt1, hs1, hd1, ho1, hl1, hg1, hgd1, hle1, ht1, hdl1, hor⟩ hk2
  unfold culletref24_Code_Join.b2
  dsimp only at hk2 ⊢
  have out : r0 = (s1, d1, left1, none) → K1 ((size : Int), at0 gd, ⟨gt, 0, none⟩, (left1 : Int), t51, t52, IntKind.wrap .i64 ((i : Int) + 1), ()) w1 := by
    intro hrr
    rw [hrr] at hgo
    exact hgo w1 T1 hS1 hK1 hgt1 hs1 hd1 ho1 rfl
  refine Cd_dec (fun hlt => ?_) (fun hge => ?_)
  · unfold culletref24_Code_Join.j2
    rcases hor with ⟨rfl, ht1', hf, hr⟩ | ⟨rfl, hrr⟩
    · refine Cd_t ?_
      have hl0 : left1 ≠ 0 := by omega
      obtain ⟨f, rfl⟩ : ∃ f', f = f' + 1 := ⟨f - 1, by omega⟩
      simp only [jonF, if_neg hl0] at hr
      have j3f : ∀ want : Nat, want = min size left1 → culletref24_Code_Join.j3 R K1 k2 (size : Int) (at0 gd) ⟨gt, 0, none⟩ (left1 : Int) (i : Int) (at0 (gs i)) (want : Int) t51 t52 (i : Int) w1 := by
        intro want hw
        rw [← hw] at hr
        have hw1 : 1 ≤ want := by omega
        have hw2 : want ≤ left1 := by omega
        have hw3 : want ≤ size := by omega
        clear hw
        unfold culletref24_Code_Join.j3
        have hplace := hg1.place
        have hdat := hl1.1
        refine Cl_mono (rfull_ok hS1 (k := .rs i) (kb := .tm 1) hs1 (by simp) (by rw [hl1.1]; exact hd0) (by rw [hl1.2.1]; exact hc0) hg1 (by rw [hdat] at hplace; omega) (by omega)) ?_
        obtain ⟨hq, hqt, hqo, hq0⟩ := full_reads hg1 want
        rintro x w3 ⟨y, rfl, hS3⟩
        generalize s1.full want = q at hq hqt hqo hq0 hS3 hr ⊢
        have hqle := hq.le
        have hqpos := hq.pos
        have hqp := hq.good.place
        rw [hq.like.1, hdat] at hqp
        have hqlk := hl1.trans hq.like
        have hy3 : Rds b8 w3 y q.2.1 := (hS3.owt (k := .tm 1) (Ths.up_same _ _ _)).rds
        have hyl := hy3.1
        have hK3 : KeepP T ((T1.up (.rs i) (RSrc (gs i) (dP i) (cP i) q.1)).up (.tm 1) (Owt b8 5 y q.2.1)) := (hK1.rs i _).tm 1 _
        have hps3 : ((T1.up (.rs i) (RSrc (gs i) (dP i) (cP i) q.1)).up (.tm 1) (Owt b8 5 y q.2.1)) (.rs i) = RSrc (gs i) (dP i) (cP i) q.1 := by rw [Ths.up_ne _ _ (by simp), Ths.up_same]
        have hpo3 : ∀ j, j ≠ i → ((T1.up (.rs i) (RSrc (gs i) (dP i) (cP i) q.1)).up (.tm 1) (Owt b8 5 y q.2.1)) (.rs j) = T (.rs j) := fun j hj => by rw [Ths.up_ne _ _ (by simp), Ths.up_ne _ _ (by simpa using hj)]; exact ho1 j hj
        have hpk3 : ((T1.up (.rs i) (RSrc (gs i) (dP i) (cP i) q.1)).up (.tm 1) (Owt b8 5 y q.2.1)) (.rk 0) = RSnk gd d1 := by rw [Ths.up_ne _ _ (by simp), Ths.up_ne _ _ (by simp)]; exact hd1
        have htm3 : ((T1.up (.rs i) (RSrc (gs i) (dP i) (cP i) q.1)).up (.tm 1) (Owt b8 5 y q.2.1)) (.tm 2) = T (.tm 2) := by rw [Ths.up_ne _ _ (by simp), Ths.up_ne _ _ (by simp)]; exact hgt1
        generalize (T1.up (.rs i) (RSrc (gs i) (dP i) (cP i) q.1)).up (.tm 1) (Owt b8 5 y q.2.1) = T3 at hS3 hK3 hps3 hpo3 hpk3 htm3
        have hend3 : ∀ (e : Res) (a b : Int), resN e = (a, b) → r0 = (q.1, d1, left1, some e) → ∀ w', Sep W0 w' (T3.up (.tm 2) (Cel gt [.int .i64 a, .int .i64 b] 54)) → R (.returned (.agg #[.int .i64 a, .int .i64 b])) w' := by
          intro e a b hab he w' hS'
          have := hend w' _ e hS' (hK3.tm 2 _) (by rw [he, Ths.up_ne _ _ (by simp)]; exact hps3) (by rw [he, Ths.up_ne _ _ (by simp)]; exact hpk3) (fun j hj => by rw [Ths.up_ne _ _ (by simp)]; exact hpo3 j hj) (by rw [he])
          rw [hab] at this
          exact this
        dsimp only
        have put : ∀ (fin : Bool), ((d1.put q.2.1).2 = true → (fin = false ∧ q.2.1.length = want ∧ jonF size i f (left1 - q.2.1.length) q.1 (d1.put q.2.1).1 = r0) ∨ (fin = true ∧ r0 = (q.1, (d1.put q.2.1).1, left1 - q.2.1.length, none))) → ((d1.put q.2.1).2 = false → r0 = (q.1, (d1.put q.2.1).1, left1 - q.2.1.length, some (.snk 0))) →
            Cl Tryd.prog 34 #[.pointer (at0 gd), .slice y.base y.len y.cap] (.one (.at .bool)) (fun (x29 : Bool) w30 =>
              Cd (!x29) (Wu Tryd.prog (Instr.storeAt 54 (.pointer (at0 gt)) (.agg #[.int .i64 3, .int .i64 0])) (fun w31 => ∃ r32 : (Int × Int × Unit), (loadVar 54 ⟨gt, 0, none⟩).run Tryd.prog w31 = .ok (.agg #[.int .i64 r32.1, .int .i64 r32.2.1]) w31 ∧ R (.returned (.agg #[.int .i64 r32.1, .int .i64 r32.2.1])) w31) w30)
                (k2 ((size : Int), at0 gd, ⟨gt, 0, none⟩, (IntKind.wrap .i64 ((left1 : Int) - ((y.len : Nat) : Int))), (i : Int), at0 (gs i), fin, t51, t52, (i : Int), ()) w30)) w3 := by
          intro fin hyes hno
          have hput := put_facts hgd1 q.2.1
          refine Cl_mono (rput_ok hS3 (k := .rk 0) hpk3 hy3 hgd1 (by omega)) ?_
          generalize d1.put q.2.1 = e at hput hyes hno ⊢
          rintro x w5 ⟨rfl, hS5⟩
          obtain ⟨hp1, hp2, hp3, hp4⟩ := hput
          have hK5 := hK3.rk 0 (RSnk gd e.1)
          have hps5 : (T3.up (.rk 0) (RSnk gd e.1)) (.rs i) = RSrc (gs i) (dP i) (cP i) q.1 := by rw [Ths.up_ne _ _ (by simp)]; exact hps3
          have hpo5 : ∀ j, j ≠ i → (T3.up (.rk 0) (RSnk gd e.1)) (.rs j) = T (.rs j) := fun j hj => by rw [Ths.up_ne _ _ (by simp)]; exact hpo3 j hj
          have htm5 : (T3.up (.rk 0) (RSnk gd e.1)) (.tm 2) = T (.tm 2) := by rw [Ths.up_ne _ _ (by simp)]; exact htm3
          refine Cd_not (fun hb => ?_) (fun hb => ?_)
          · have hr' := hno hb
            refine ret2 hS5 (htm5.trans hgt) hcs fun w6 hS6 => ?_
            exact hend w6 _ (.snk 0) hS6 (hK5.tm 2 _) (by rw [hr', Ths.up_ne _ _ (by simp)]; exact hps5) (by rw [hr', Ths.up_ne _ _ (by simp)]; exact Ths.up_same _ _ _) (fun j hj => by rw [Ths.up_ne _ _ (by simp)]; exact hpo5 j hj) (by rw [hr'])
          · rw [wrap64 (by omega) (by omega), show (left1 : Int) - ((y.len : Nat) : Int) = ((left1 - q.2.1.length : Nat) : Int) by omega]
            rcases hyes hb with ⟨rfl, hqw, hr'⟩ | ⟨rfl, hr'⟩
            · exact hk2 _ _ ⟨q.1, e.1, _, left1 - q.2.1.length, f, false, rfl, hS5, hK5, htm5, hps5, Ths.up_same _ _ _, hpo5, hqlk, hq.good, hp1, by omega, by omega, by omega, .inl ⟨rfl, by omega, by omega, hr'⟩⟩ (by dsimp only; simp only [Bool.false_eq_true, if_false]; omega)
            · exact hk2 _ _ ⟨q.1, e.1, _, left1 - q.2.1.length, f, true, rfl, hS5, hK5, htm5, hps5, Ths.up_same _ _ _, hpo5, hqlk, hq.good, hp1, by omega, by omega, by omega, .inr ⟨rfl, hr'⟩⟩ (by dsimp only; simp only [Bool.false_eq_true, if_false, if_true]; omega)
        cases hwh : q.2.2 with
        | broken =>
          rw [hwh] at hr
          exact Cd_eq (fun _ => ret2 hS3 (htm3.trans hgt) hcs (hend3 (.src i) 2 i rfl hr.symm)) (fun h => absurd rfl h)
        | short =>
          rw [hwh] at hr
          exact Cd_eq (fun h => absurd h (by decide)) (fun _ => Cd_eq (fun _ => ret2 hS3 (htm3.trans hgt) hcs (hend3 (.no 240) 1 240 rfl hr.symm)) (fun h => absurd rfl h))
        | ok =>
          rw [hwh] at hr
          refine Cd_eq (fun h => absurd h (by decide)) (fun _ => Cd_eq (fun h => absurd h (by decide)) (fun _ => ?_))
          refine put false (fun hb => .inl ⟨rfl, hqo hwh, ?_⟩) (fun hb => ?_)
          · dsimp only at hr; rw [if_pos hb] at hr; exact hr
          · dsimp only at hr; rw [if_neg (by rw [hb]; decide)] at hr; exact hr.symm
        | fin =>
          rw [hwh] at hr
          refine Cd_eq (fun h => absurd h (by decide)) (fun _ => Cd_eq (fun h => absurd h (by decide)) (fun _ => ?_))
          refine put true (fun hb => .inr ⟨rfl, ?_⟩) (fun hb => ?_)
          · dsimp only at hr; rw [if_pos hb] at hr; exact hr.symm
          · dsimp only at hr; rw [if_neg (by rw [hb]; decide)] at hr; exact hr.symm
      exact Cd_dec (fun h => j3f size (by omega)) (fun h => j3f left1 (by omega))
    · exact Cd_f (out hrr)
  · unfold culletref24_Code_Join.j2
    refine Cd_f (out ?_)
    rcases hor with ⟨_, _, _, hr⟩ | ⟨_, hrr⟩
    · obtain rfl : left1 = 0 := by omega
      rw [← hr]
      cases f <;> simp [jonF]
    · exact hrr
theorem rjoin_out {R : Ending → World → Prop} {W0 : World} {T : Ths} {gd gt size total js : Nat} {gs : Nat → Nat} {cs : List Value} {dP cP : Nat → Sl} {src : Sl} {ss : List Src} {d : Snk} {w : World}
    (hS : Sep W0 w T) (hs : ∀ j s, ss[j]? = some s → T (.rs j) = RSrc (gs j) (dP j) (cP j) s) (hd : T (.rk 0) = RSnk gd d) (hsrc : T (.bx js) = Rdo ptrV src ((List.range ss.length).map fun j => some (gs j))) (hgd : d.Good) (hg : ∀ s ∈ ss, s.Good ∧ s.data.length ≤ 1048576 ∧ s.turns ≤ 2305843009213693952)
    (hsize : 1 ≤ size) (hsize2 : size ≤ 1048576) (hleft : total ≤ 9223372036854775807) (hn : ss.length ≤ 1048576) (hsz : d.got.length + ss.length * 1048576 ≤ 70368744177664) (hgt : T (.tm 2) = Cel gt cs 54) (hcs : cs.length = 2) (hd0 : ∀ j s, ss[j]? = some s → Rds b8 W0 (dP j) s.data) (hc0 : ∀ j s, ss[j]? = some s → Rds i64v W0 (cP j) s.chunks)
    (hend : ∀ (w' : World) (T' : Ths), Sep W0 w' T' → KeepP T T' → T' (.rk 0) = RSnk gd (joinF size 0 total d ss).2.1 → (∀ j s, (joinF size 0 total d ss).1[j]? = some s → T' (.rs j) = RSrc (gs j) (dP j) (cP j) s) →
      R (.returned (.agg #[.int .i64 (resN (joinF size 0 total d ss).2.2).1, .int .i64 (resN (joinF size 0 total d ss).2.2).2])) w') :
    culletref24_Code_Join.l1 R ((size : Int), at0 gd, ⟨gt, 0, none⟩, (total : Int), src, ((src.len : Nat) : Int), 0, ()) w := by
  unfold culletref24_Code_Join.l1
  generalize hq0 : joinF size 0 total d ss = q0 at hend
  have hdl : src.len = ss.length := by
    have := (hS.rds hsrc).1
    simpa using this
  refine loopW_of (fun st w1 => ∃ (i left1 : Nat) (d1 : Snk) (pre rest : List Src) (T1 : Ths), st = ((size : Int), at0 gd, ⟨gt, 0, none⟩, (left1 : Int), src, ((src.len : Nat) : Int), (i : Int), ()) ∧ pre.length = i ∧ i + rest.length = ss.length ∧ (∀ s ∈ rest, s ∈ ss) ∧ Sep W0 w1 T1 ∧ KeepP T T1 ∧ T1 (.tm 2) = T (.tm 2) ∧ (∀ j s, rest[j]? = some s → ss[i + j]? = some s) ∧ T1 (.rk 0) = RSnk gd d1 ∧
      (∀ j s, (pre ++ rest)[j]? = some s → T1 (.rs j) = RSrc (gs j) (dP j) (cP j) s) ∧ d1.Good ∧ left1 ≤ total ∧ d1.got.length + rest.length * 1048576 ≤ 70368744177664 ∧
      q0 = (pre ++ (joinF size i left1 d1 rest).1, (joinF size i left1 d1 rest).2.1, (joinF size i left1 d1 rest).2.2))
    (fun st _ => ((src.len : Int) - st.2.2.2.2.2.2.1).toNat) ?_ ⟨0, total, d, [], ss, T, rfl, rfl, by simp, fun _ h => h, hS, KeepP.refl T, rfl, fun j s h => by rw [Nat.zero_add]; exact h, hd, hs, hgd, Nat.le_refl _, hsz, by rw [← hq0]; simp⟩
  rintro k1 _ w1 ⟨i, left1, d1, pre, rest, T1, rfl, hpre, hrest, hmem, hS1, hK1, hgt1, hat1, hd1, hs1, hgd1, hle1, hsz1, hq⟩ hk1
  unfold culletref24_Code_Join.b1
  dsimp only at hk1 ⊢
  refine Cd_dec (fun hlt => ?_) (fun hge => ?_)
  · cases rest with
    | nil => simp at hrest; omega
    | cons s rest =>
      simp only [List.length_cons] at hrest hsz1
      have hsrc1 : Rds ptrV w1 src ((List.range ss.length).map fun j => some (gs j)) := hS1.rds (k := .bx js) ((hK1.2.2 js).trans hsrc)
      refine Pu_idx hsrc1 (e := 56) (by kernel_rfl) (by kernel_rfl) (by omega) (by simp; omega) fun a x hx hcell _ => ?_
      have hx' : x = some (gs i) := by
        rw [Int.toNat_natCast, List.getElem?_map, List.getElem?_range (by omega)] at hx
        exact (Option.some.inj hx).symm
      subst hx'
      refine Rd_one (c := .ptr) (x := at0 (gs i)) (by kernel_rfl) hcell ?_
      have hsi := hs1 i s (by rw [← hpre]; simp)
      obtain ⟨hg1, hg2, hg3⟩ := hg s (hmem s (by simp))
      have hjo := jonF_ok (i := i) hsize (left1 + 1) left1 s d1 hg1 hgd1
      have hjp := hjo.good.place
      rw [hjo.like.1] at hjp
      have hjd := hjo.dlen
      have hjl := hjo.left
      simp only [joinF] at hq
      refine rjoin_in hS1 hsi hd1 (hgt1.trans hgt) hcs (hd0 i s (hat1 0 s rfl)) (hc0 i s (hat1 0 s rfl)) hg1 hgd1 hsize hsize2 (by omega) (by omega) hg3 hg2 (by omega) ?_ ?_
      · intro w' T' hS' hK' hgt' hs' hd' ho' hnone
        rw [hnone] at hq
        dsimp only at hq
        rw [wrap64 (by omega) (by omega), show (i : Int) + 1 = ((i + 1 : Nat) : Int) by omega]
        refine hk1 _ _ ⟨i + 1, _, _, pre ++ [(jonF size i (left1 + 1) left1 s d1).1], rest, T', rfl, by simp [hpre], by omega, fun d' h => hmem d' (by simp [h]), hS', hK1.trans hK', hgt'.trans hgt1, fun j x h => by have := hat1 (j + 1) x h; rwa [show i + (j + 1) = i + 1 + j by omega] at this, hd', ?_, hjo.dgood, by omega, by omega, ?_⟩ (by dsimp only; omega)
        · intro j d' hj
          generalize (jonF size i (left1 + 1) left1 s d1).1 = rr at hj hs'
          by_cases hji : j = i
          · subst hji
            rw [← hpre, List.append_assoc, List.getElem?_append_right (Nat.le_refl _), Nat.sub_self] at hj
            simp only [List.cons_append, List.nil_append, List.getElem?_cons_zero, Option.some.injEq] at hj
            rw [← hj]
            exact hs'
          · rw [ho' j hji]
            refine hs1 j d' ?_
            rw [← hj, List.append_assoc]
            rcases Nat.lt_or_ge j pre.length with h | h
            · rw [List.getElem?_append_left h, List.getElem?_append_left h]
            · rw [List.getElem?_append_right h, List.getElem?_append_right h]
              have : j - pre.length ≠ 0 := by omega
              obtain ⟨m, hm⟩ := Nat.exists_eq_succ_of_ne_zero this
              rw [hm]; rfl
        · rw [hq]; simp
      · intro w' T' e hS' hK' hs' hd' ho' hsome
        rw [hsome] at hq
        dsimp only at hq
        have := hend w' T' hS' (hK1.trans hK') (by rw [hq]; exact hd') ?_
        · rw [hq] at this; exact this
        · intro j d' hj
          rw [hq] at hj
          dsimp only at hj
          generalize (jonF size i (left1 + 1) left1 s d1).1 = rr at hj hs'
          by_cases hji : j = i
          · subst hji
            rw [← hpre, List.getElem?_append_right (Nat.le_refl _), Nat.sub_self] at hj
            simp only [List.getElem?_cons_zero, Option.some.injEq] at hj
            rw [← hj]
            exact hs'
          · rw [ho' j hji]
            refine hs1 j d' ?_
            rw [← hj]
            rcases Nat.lt_or_ge j pre.length with h | h
            · rw [List.getElem?_append_left h, List.getElem?_append_left h]
            · rw [List.getElem?_append_right h, List.getElem?_append_right h]
              have : j - pre.length ≠ 0 := by omega
              obtain ⟨m, hm⟩ := Nat.exists_eq_succ_of_ne_zero this
              rw [hm]; rfl
  · have hnil : rest = [] := List.eq_nil_of_length_eq_zero (by omega)
    subst hnil
    simp only [joinF, List.append_nil] at hq
    have fin : ∀ (a b : Int), resN (if 0 < left1 then .no 240 else .done) = (a, b) → Wu Tryd.prog (Instr.storeAt 54 (.pointer (at0 gt)) (.agg #[.int .i64 a, .int .i64 b])) (fun w' => ∃ r : (Int × Int × Unit), (loadVar 54 ⟨gt, 0, none⟩).run Tryd.prog w' = .ok (.agg #[.int .i64 r.1, .int .i64 r.2.1]) w' ∧ R (.returned (.agg #[.int .i64 r.1, .int .i64 r.2.1])) w') w1 := by
      intro a b hab
      refine ret2 hS1 (hgt1.trans hgt) hcs fun w2 hS2 => ?_
      have := hend w2 _ hS2 (hK1.tm 2 _) (by rw [hq, Ths.up_ne _ _ (by simp)]; exact hd1) (fun j s hj => by rw [hq] at hj; rw [Ths.up_ne _ _ (by simp)]; exact hs1 j s (by simpa using hj))
      rw [hq] at this
      dsimp only at this
      rw [hab] at this
      exact this
    refine Cd_dec (fun h => fin 1 240 ?_) (fun h => fin 0 0 ?_)
    · rw [if_pos (by omega)]; rfl
    · rw [if_neg (by omega)]; rfl
end Go.Proofs.YtmmejgneelkhkaaDoor
