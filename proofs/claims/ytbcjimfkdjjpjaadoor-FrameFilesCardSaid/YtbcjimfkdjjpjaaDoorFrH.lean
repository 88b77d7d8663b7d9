/- The walk of the document's ReadHead, and the program's. -/
import Derived.Test.YtbcjimfkdjjpjaaDoorFrG
namespace Go.Proofs.YtbcjimfkdjjpjaaDoor
open Go Go.Cu
set_option linter.unusedVariables false
theorem rreadHead_hd (file : Sl) (l : List Int) (w : World) (hr : Rds b8 w file l) (hrange : ∀ x ∈ l, 0 ≤ x ∧ x < 256) (hl : l.length ≤ 140737488355328) :
    GivesHd Tryd.prog 29 #[.slice file.base file.len file.cap] (readHeadF l).1 (readHeadF l).2 w := by
  refine culletref25_ReadHead.run _ file w ?_
  unfold culletref25_ReadHead.M
  refine Wr_alloc (z := hdV zeroHd) (by kernel_rfl) fun w2 hB2 hx2 => ?_
  have hsT : sizeIs Tryd.prog 26 8 = true := by kernel_rfl
  have haT : isAggN Tryd.prog 26 8 = true := by kernel_rfl
  have bad : ∀ (n : Int) (v : World), readHeadF l = (zeroHd, n) → Ex w2 v → Wu Tryd.prog (Instr.storeAt 26 (.pointer (some ⟨w.heap.size, 0, none⟩)) (hdV zeroHd)) (fun w1 => ∃ r : Hd, (loadVar 26 ⟨w.heap.size, 0, none⟩).run Tryd.prog w1 = .ok (hdV r) w1 ∧
      (fun en w' => en = Ending.returned (.tuple #[hdV (readHeadF l).1, .int .i64 (readHeadF l).2]) ∧ Ex w w') (.returned (.tuple #[hdV r, .int .i64 n])) w1) v := by
    intro n v he hv
    refine finHd (R := fun en w' => en = Ending.returned (.tuple #[hdV (readHeadF l).1, .int .i64 (readHeadF l).2]) ∧ Ex w w') (n := n) (w0 := w) (h := zeroHd) (hB2.ex hv) rfl hsT haT (hx2.trans hv) (Nat.le_refl _) fun w' hx' => ⟨by rw [he], hx'⟩
  refine Cd_dec (fun h => bad 252 _ (by unfold readHeadF; rw [if_pos (by rw [← hr.1]; exact h)]) (Ex.refl _)) (fun h48 => ?_)
  rw [hr.1] at h48
  have hr2 := hr.ex hx2
  have h5 : ∀ x0 x1 x2 x3 x4 : Int, l[0]? = some x0 → l[1]? = some x1 → l[2]? = some x2 → l[3]? = some x3 → l[4]? = some x4 → cut l 0 5 = [x0, x1, x2, x3, x4] := by
    intro x0 x1 x2 x3 x4 e0 e1 e2 e3 e4
    match l, e0, e1, e2, e3, e4 with
    | a0 :: a1 :: a2 :: a3 :: a4 :: r, e0, e1, e2, e3, e4 =>
      simp only [List.getElem?_cons_zero, List.getElem?_cons_succ, Option.some.injEq] at e0 e1 e2 e3 e4
      subst e0 e1 e2 e3 e4; rfl
  have j1f : ∀ b : Bool, (b = true → cut l 0 5 ≠ [67, 85, 76, 76, 1]) → (b = false → cut l 0 5 = [67, 85, 76, 76, 1]) →
      culletref25_ReadHead.j1 (fun en w' => en = Ending.returned (.tuple #[hdV (readHeadF l).1, .int .i64 (readHeadF l).2]) ∧ Ex w w') file ⟨w.heap.size, 0, none⟩ b w2 := by
    intro b hb1 hb2
    unfold culletref25_ReadHead.j1
    refine Cd_of (fun hb => bad 250 _ (by unfold readHeadF; rw [if_neg h48, if_pos (hb1 hb)]) (Ex.refl _)) (fun hb => ?_)
    have h5 := hb2 hb
    refine Held_ex ?_
    have hx3 : Ex w w2.drew := hx2.trans (Ex.drew w2)
    refine cut_slice (hr.ex hx3) (a := 44) (b := 48) (by omega) (by omega) (.inr ⟨_, rfl⟩) ⟨_, rfl⟩ (Ex.refl _) fun sa hsa => ?_
    refine cut_slice (hr.ex hx3) (a := 0) (b := 44) (by omega) (by omega) (.inl ⟨rfl, rfl⟩) ⟨_, rfl⟩ (Ex.refl _) fun sb hsb => ?_
    refine Cl_gv (number_gv _ _ _ (hsa _ (hr.ex hx3)) (by unfold cut; simp; omega)) fun w4 hx4 => ⟨hx4, ?_⟩
    refine Cl_gv (rsum_gv _ _ _ (hsb _ (hr.ex (hx3.trans hx4))) (by unfold cut; simp; omega)) fun w5 hx5 => ⟨hx4.trans hx5, ?_⟩
    have hx25 : Ex w2 w5 := ((Ex.drew w2).trans hx4).trans hx5
    have hx6 : Ex w w5 := (hx3.trans hx4).trans hx5
    unfold culletref25_ReadHead.j2
    refine Cd_ne (fun h => bad 253 _ (by unfold readHeadF; rw [if_neg h48, if_neg (fun hn => hn h5), if_pos h]) hx25) (fun h6 => ?_)
    refine cut_slice (hr.ex hx6) (a := 16) (b := 24) (by omega) (by omega) (.inr ⟨_, rfl⟩) ⟨_, rfl⟩ (Ex.refl _) fun sc hsc => ?_
    refine Cl_gv (number_gv _ _ _ (hsc _ (hr.ex hx6)) (by unfold cut; simp; omega)) fun w8 hx8 => ?_
    refine cut_slice (hr.ex (hx6.trans hx8)) (a := 24) (b := 32) (by omega) (by omega) (.inr ⟨_, rfl⟩) ⟨_, rfl⟩ (Ex.refl _) fun sd hsd => ?_
    refine Cl_gv (number_gv _ _ _ (hsd _ (hr.ex (hx6.trans hx8))) (by unfold cut; simp; omega)) fun w9 hx9 => ?_
    have hx29 : Ex w2 w9 := (hx25.trans hx8).trans hx9
    have hxw9 := hx2.trans hx29
    refine cut_slice (hr.ex hxw9) (a := 40) (b := 44) (by omega) (by omega) (.inr ⟨_, rfl⟩) ⟨_, rfl⟩ (Ex.refl _) fun se hse => ?_
    refine Cl_gv (number_gv _ _ _ (hse _ (hr.ex hxw9)) (by unfold cut; simp; omega)) fun w10 hx10 => ?_
    have hx210 := hx29.trans hx10
    have hxw10 := hx2.trans hx210
    have j3f : ∀ b : Bool, (b = true → readHeadF l = (zeroHd, 251)) → (b = false → numF (cut l 40 44) = 0 ∧ numF (cut l 16 24) ≤ 4611686018427387904 ∧ numF (cut l 24 32) ≤ 4611686018427387904) →
        culletref25_ReadHead.j3 (fun en w' => en = Ending.returned (.tuple #[hdV (readHeadF l).1, .int .i64 (readHeadF l).2]) ∧ Ex w w') file ⟨w.heap.size, 0, none⟩ (numF (cut l 16 24)) (numF (cut l 24 32)) b w10 := by
      intro b hb1 hb2
      unfold culletref25_ReadHead.j3
      refine Cd_of (fun hb => bad 251 _ (hb1 hb) hx210) (fun hb => ?_)
      obtain ⟨g1, g2, g3⟩ := hb2 hb
      refine Held_ex ?_
      have hr0 := hr.ex (hxw10.trans (Ex.drew w10))
      have h20 : Ex w2 w10.drew := hx210.trans (Ex.drew w10)
      refine Pu_idx hr0 tB sB (by omega) (by omega) fun a x hx hc hbl => ?_
      refine RdS_one (c := .int .u8) (x := x) oB (fun w' hS => hS.cell hc) ?_
      have hx5 : l.getD 5 0 = x := by rw [List.getD_eq_getElem?_getD]; have : l[5]? = some x := hx; rw [this]; rfl
      refine cut_slice hr0 (a := 6) (b := 8) (by omega) (by omega) (.inr ⟨_, rfl⟩) ⟨_, rfl⟩ (Ex.refl _) fun s0 hs0 => ?_
      refine cut_slice hr0 (a := 8) (b := 10) (by omega) (by omega) (.inr ⟨_, rfl⟩) ⟨_, rfl⟩ (Ex.refl _) fun s1 hs1 => ?_
      refine cut_slice hr0 (a := 10) (b := 12) (by omega) (by omega) (.inr ⟨_, rfl⟩) ⟨_, rfl⟩ (Ex.refl _) fun s2 hs2 => ?_
      refine cut_slice hr0 (a := 12) (b := 16) (by omega) (by omega) (.inr ⟨_, rfl⟩) ⟨_, rfl⟩ (Ex.refl _) fun s3 hs3 => ?_
      refine cut_slice hr0 (a := 32) (b := 40) (by omega) (by omega) (.inr ⟨_, rfl⟩) ⟨_, rfl⟩ (Ex.refl _) fun s4 hs4 => ?_
      have numS : ∀ {v : World} {K : Int → World → Prop} {m : List Int} (s : Sl) (hs : ∀ w', Rds b8 w' file l → Rds b8 w' s m) (hm : m.length ≤ l.length) (hv : Ex w10.drew v) (hK : ∀ v', Ex w10.drew v' → Ex v v' → K (numF m) v'),
          Cl Tryd.prog 40 #[.slice s.base s.len s.cap] (.one (.at (.int .u64))) K v := fun s hs hm hv hK =>
        Cl_gv (number_gv _ _ _ (hs _ (hr0.ex hv)) (by omega)) fun v' hx' => hK v' (hv.trans hx') hx'
      have allocS : ∀ {v : World} {K : Addr → World → Prop} (hv : Ex w10.drew v) (hK : ∀ B v', Ex w10.drew v' → w10.drew.heap.size ≤ B → Has v' B (hdV zeroHd).cells.toList 26 → K ⟨B, 0, none⟩ v'),
          Wr Tryd.prog (Instr.alloc 26 true (.tuple #[])) (.one (.at .addr)) K v := fun hv hK => Wr_alloc (z := hdV zeroHd) (by kernel_rfl) fun v' hB hx' => hK _ v' (hv.trans hx') hv.size hB
      have fin : ∀ (B : Nat) (v : World) (hv : Ex w10.drew v) (hBl : w10.drew.heap.size ≤ B) (hB : Has v B (hdV zeroHd).cells.toList 26),
          Wu Tryd.prog (Instr.storeAt 26 (.pointer (some ⟨B, 0, none⟩)) (hdV (IntKind.wrap .i64 x, IntKind.wrap .i64 (numF (cut l 6 8)), IntKind.wrap .i64 (numF (cut l 8 10)), IntKind.wrap .i64 (numF (cut l 10 12)), IntKind.wrap .i64 (numF (cut l 16 24)), IntKind.wrap .i64 (numF (cut l 24 32)),
            IntKind.wrap .i64 (numF (cut l 12 16)), numF (cut l 32 40), ()))) (fun w1 => Ex w10.drew w1 ∧ culletref25_ReadHead.j4 (fun en w' => en = Ending.returned (.tuple #[hdV (readHeadF l).1, .int .i64 (readHeadF l).2]) ∧ Ex w w') ⟨w.heap.size, 0, none⟩ ⟨B, 0, none⟩ w1) v := by
        intro B v hv hBl hB
        refine Wu_store hB hsT (by simp [Value.cells, Value.oneCell']) (Nat.le_of_ble_eq_true (by kernel_rfl)) fun w11 hB11 hm11 => ?_
        have hv11 : Ex w10.drew w11 := hv.into hm11 (fun i hi => by rw [hi]; exact hBl)
        refine ⟨hv11, ?_⟩
        have h211 := h20.trans hv11
        unfold culletref25_ReadHead.j4
        have hB11 : Has w11 B (encAts hAts (hdOf l)) 26 := by
          unfold hdOf; rw [hx5]; exact hB11
        refine Rd_hasN (x := hdOf l) hB11 haT rfl ?_
        refine Cl_gives (rcheck_gives (hdOf l)) fun w12 hx12 => ?_
        refine Cd_ne (fun hc => bad 251 _ ?_ (h211.trans hx12)) (fun hc => ?_)
        · unfold readHeadF; rw [if_neg h48, if_neg (fun hn => hn h5), if_neg (fun hn => hn h6), if_pos (.inr (.inr (.inr hc)))]
        · refine Rd_hasN (x := hdOf l) (hB11.ex hx12) haT rfl ?_
          have e : readHeadF l = (hdOf l, 0) := by
            unfold readHeadF; rw [if_neg h48, if_neg (fun hn => hn h5), if_neg (fun hn => hn h6), if_neg (by omega)]
          exact finHd (R := fun en w' => en = Ending.returned (.tuple #[hdV (readHeadF l).1, .int .i64 (readHeadF l).2]) ∧ Ex w w') (n := 0) (w0 := w) (h := hdOf l) (hB2.ex (h211.trans hx12)) rfl hsT haT (hx2.trans (h211.trans hx12)) (Nat.le_refl _) fun w' hx' => ⟨by rw [e], hx'⟩
      have hc0 : ∀ a b, (cut l a b).length ≤ l.length := fun a b => by unfold cut; simp; omega
      have hv := Ex.refl w10.drew
      refine ⟨?_, ?_⟩
      · refine numS _ hs0 (hc0 _ _) hv fun v hv' hvv => ⟨hv', ?_⟩
        have hv := hv'
        refine ⟨?_, ?_⟩
        · refine numS _ hs1 (hc0 _ _) hv fun v hv' hvv => ⟨hv', ?_⟩
          have hv := hv'
          refine ⟨?_, ?_⟩
          · refine numS _ hs2 (hc0 _ _) hv fun v hv' hvv => ⟨hv', ?_⟩
            have hv := hv'
            refine ⟨?_, ?_⟩
            · refine numS _ hs3 (hc0 _ _) hv fun v hv' hvv => ⟨hv', ?_⟩
              have hv := hv'
              refine ⟨?_, ?_⟩
              · refine numS _ hs4 (hc0 _ _) hv fun v hv' hvv => ⟨hv', ?_⟩
                have hv := hv'
                refine allocS hv fun B v hv' hBl hB => ⟨hv', ?_⟩
                have hv := hv'
                exact fin _ _ hv hBl hB
              · refine allocS hv fun B v hv' hBl hB => ⟨hv', ?_⟩
                have hv := hv'
                refine numS _ hs4 (hc0 _ _) hv fun v hv' hvv => ⟨hv', ?_⟩
                have hv := hv'
                have hB := hB.ex hvv
                exact fin _ _ hv hBl hB
            · refine allocS hv fun B v hv' hBl hB => ⟨hv', ?_⟩
              have hv := hv'
              refine numS _ hs3 (hc0 _ _) hv fun v hv' hvv => ⟨hv', ?_⟩
              have hv := hv'
              have hB := hB.ex hvv
              refine numS _ hs4 (hc0 _ _) hv fun v hv' hvv => ⟨hv', ?_⟩
              have hv := hv'
              have hB := hB.ex hvv
              exact fin _ _ hv hBl hB
          · refine allocS hv fun B v hv' hBl hB => ⟨hv', ?_⟩
            have hv := hv'
            refine numS _ hs2 (hc0 _ _) hv fun v hv' hvv => ⟨hv', ?_⟩
            have hv := hv'
            have hB := hB.ex hvv
            refine numS _ hs3 (hc0 _ _) hv fun v hv' hvv => ⟨hv', ?_⟩
            have hv := hv'
            have hB := hB.ex hvv
            refine numS _ hs4 (hc0 _ _) hv fun v hv' hvv => ⟨hv', ?_⟩
            have hv := hv'
            have hB := hB.ex hvv
            exact fin _ _ hv hBl hB
        · refine allocS hv fun B v hv' hBl hB => ⟨hv', ?_⟩
          have hv := hv'
          refine numS _ hs1 (hc0 _ _) hv fun v hv' hvv => ⟨hv', ?_⟩
          have hv := hv'
          have hB := hB.ex hvv
          refine numS _ hs2 (hc0 _ _) hv fun v hv' hvv => ⟨hv', ?_⟩
          have hv := hv'
          have hB := hB.ex hvv
          refine numS _ hs3 (hc0 _ _) hv fun v hv' hvv => ⟨hv', ?_⟩
          have hv := hv'
          have hB := hB.ex hvv
          refine numS _ hs4 (hc0 _ _) hv fun v hv' hvv => ⟨hv', ?_⟩
          have hv := hv'
          have hB := hB.ex hvv
          exact fin _ _ hv hBl hB
      · refine allocS hv fun B v hv' hBl hB => ⟨hv', ?_⟩
        have hv := hv'
        refine numS _ hs0 (hc0 _ _) hv fun v hv' hvv => ⟨hv', ?_⟩
        have hv := hv'
        have hB := hB.ex hvv
        refine numS _ hs1 (hc0 _ _) hv fun v hv' hvv => ⟨hv', ?_⟩
        have hv := hv'
        have hB := hB.ex hvv
        refine numS _ hs2 (hc0 _ _) hv fun v hv' hvv => ⟨hv', ?_⟩
        have hv := hv'
        have hB := hB.ex hvv
        refine numS _ hs3 (hc0 _ _) hv fun v hv' hvv => ⟨hv', ?_⟩
        have hv := hv'
        have hB := hB.ex hvv
        refine numS _ hs4 (hc0 _ _) hv fun v hv' hvv => ⟨hv', ?_⟩
        have hv := hv'
        have hB := hB.ex hvv
        exact fin _ _ hv hBl hB
    refine Cd_ne (fun h => j3f true (fun _ => ?_) (fun h => by cases h)) (fun h => ?_)
    rotate_left
    refine Cd_dec (fun h2 => j3f true (fun _ => ?_) (fun h => by cases h)) (fun h2 => ?_)
    rotate_left
    refine j3f _ (fun h3 => ?_) (fun h3 => ⟨h, Int.not_lt.mp h2, Int.not_lt.mp (of_decide_eq_false h3)⟩)
    rotate_left
    · unfold readHeadF; rw [if_neg h48, if_neg (fun hn => hn h5), if_neg (fun hn => hn h6), if_pos (.inl h)]
    · unfold readHeadF; rw [if_neg h48, if_neg (fun hn => hn h5), if_neg (fun hn => hn h6), if_pos (.inr (.inl h2))]
    · unfold readHeadF; rw [if_neg h48, if_neg (fun hn => hn h5), if_neg (fun hn => hn h6), if_pos (.inr (.inr (.inl (of_decide_eq_true h3))))]
  have byteAt : ∀ (i : Nat) (hi : i < 48) (ii : Int) (hii : ii = i) {K : Int → World → Prop} (hK : ∀ x, l[i]? = some x → K x w2), Pu Tryd.prog (Instr.indexAt 27 (.slice file.base file.len file.cap) (.int .i64 ii)) (.one (.at .addr)) (fun a v => Rd Tryd.prog (Instr.loadAt 5 (.pointer (some a))) (.one (.at (.int .u8))) K v) w2 := by
    intro i hi ii hii K hK
    subst hii
    refine Pu_idx hr2 tB sB (by omega) (by omega) fun a x hx hc hbl => ?_
    exact Rd_one (c := .int .u8) (x := x) oB hc (hK x hx)
  refine byteAt 0 (by omega) _ rfl ?_
  intro x0 e0
  refine Cd_ne (fun h => j1f true (fun _ hn => ?_) (fun h => by cases h)) (fun h0 => ?_)
  · have hx : l[0]? = (cut l 0 5)[0]? := by unfold cut; rw [List.drop_zero, List.getElem?_take]; rfl
    rw [e0, hn] at hx; exact h (Option.some.inj hx)
  refine byteAt 1 (by omega) _ rfl ?_
  intro x1 e1
  refine Cd_ne (fun h => j1f true (fun _ hn => ?_) (fun h => by cases h)) (fun h1 => ?_)
  · have hx : l[1]? = (cut l 0 5)[1]? := by unfold cut; rw [List.drop_zero, List.getElem?_take]; rfl
    rw [e1, hn] at hx; exact h (Option.some.inj hx)
  refine byteAt 2 (by omega) _ rfl ?_
  intro x2 e2
  refine Cd_ne (fun h => j1f true (fun _ hn => ?_) (fun h => by cases h)) (fun h2 => ?_)
  · have hx : l[2]? = (cut l 0 5)[2]? := by unfold cut; rw [List.drop_zero, List.getElem?_take]; rfl
    rw [e2, hn] at hx; exact h (Option.some.inj hx)
  refine byteAt 3 (by omega) _ rfl ?_
  intro x3 e3
  refine Cd_ne (fun h => j1f true (fun _ hn => ?_) (fun h => by cases h)) (fun h3 => ?_)
  · have hx : l[3]? = (cut l 0 5)[3]? := by unfold cut; rw [List.drop_zero, List.getElem?_take]; rfl
    rw [e3, hn] at hx; exact h (Option.some.inj hx)
  refine byteAt 4 (by omega) _ rfl ?_
  intro x4 e4
  refine j1f _ (fun hb hn => ?_) (fun hb => ?_)
  · have hx : l[4]? = (cut l 0 5)[4]? := by unfold cut; rw [List.drop_zero, List.getElem?_take]; rfl
    rw [e4, hn] at hx; exact (by simpa using hb : x4 ≠ 1) (Option.some.inj hx)
  · rw [h5 _ _ _ _ _ e0 e1 e2 e3 e4, h0, h1, h2, h3, (by simpa using hb : x4 = 1)]
theorem readHead_hd (file : Sl) (l : List Int) (w : World) (hr : Rds b8 w file l) (hrange : ∀ x ∈ l, 0 ≤ x ∧ x < 256) (hl : l.length ≤ 140737488355328) (ht : Tab w) :
    GivesHd Tryd.prog 30 #[.slice file.base file.len file.cap] (readHeadF l).1 (readHeadF l).2 w := by
  refine frame_ReadHead.run _ file w ?_
  unfold frame_ReadHead.M
  refine Wr_alloc (z := hdV zeroHd) (by kernel_rfl) fun w2 hB2 hx2 => ?_
  refine Cl_hd (headOf_hd file l w2 (hr.ex hx2) hrange hl (ht.ex hx2)) fun w4 hx4 => ?_
  exact finHd (R := fun en w' => en = Ending.returned (.tuple #[hdV (readHeadF l).1, .int .i64 (readHeadF l).2]) ∧ Ex w w') (n := (readHeadF l).2) (w0 := w) (h := (readHeadF l).1) (hB2.ex hx4) rfl (by kernel_rfl) (by kernel_rfl) (hx2.trans hx4) (Nat.le_refl _) fun w' hx' => ⟨rfl, hx'⟩
end Go.Proofs.YtbcjimfkdjjpjaaDoor
