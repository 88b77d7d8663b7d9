/- The sources of a list of pipes: the program's and the document's. -/
import Derived.Test.YtmmejgneelkhkaaDoorSpR
set_option linter.all false
namespace Go.Proofs.YtmmejgneelkhkaaDoor
open Go Go.Cu Go.RowKit
set_option linter.unusedVariables false
set_option maxHeartbeats 2000000
set_option maxRecDepth 100000
theorem sources_ok {W0 w : World} {T : Ths} {s : Sl} {ps : List PipeT} {dat chk : Nat → List Int} (hS : Sep W0 w T) (hA : RdA pipeAts W0 s ps) (hn : ps.length * 8 ≤ 140737488355328)
    (hda : ∀ i p, ps[i]? = some p → Rds b8 W0 p.1 (dat i) ∧ Rds i64v W0 p.2.1 (chk i) ∧ (dat i).length ≤ 140737488355328 ∧ (chk i).length * 8 ≤ 140737488355328) :
    Cl Tryd.prog 18 #[.slice s.base s.len s.cap] (.tup [.at .sl, .at .sl]) (fun x w' => ∃ (gs gr : Nat → Nat) (bs : Nat → Addr) (dP cP : Nat → Sl) (T' : Ths), Sep W0 w' T' ∧ T' (.bx 0) = Owt ptrV 52 x.1 (ptrs ps.length (pPres ps) gs) ∧ T' (.bx 1) = Owt ptrV 56 x.2.1 (ptrs ps.length (pPres ps) gr) ∧
      (∀ i, i < ps.length → pPres ps i = true → T' (.ps i) = PSrc (gs i) (bs i) (dP i) (cP i) (src0 (dat i) (chk i) (ps.getD i pipe0).2.2.1) ∧ T' (.rs i) = RSrc (gr i) (ps.getD i pipe0).1 (ps.getD i pipe0).2.1 (src0 (dat i) (chk i) (ps.getD i pipe0).2.2.1)) ∧ (∀ i, T' (.pk i) = T (.pk i)) ∧ (∀ i, T' (.rk i) = T (.rk i)) ∧ ∀ i, i ≠ 0 → i ≠ 1 → T' (.bx i) = T (.bx i)) w := by
  refine culletlaw24_sources.run _ s w ?_
  generalize hR : (fun (e : Ending) (w' : World) => ∃ x : Sl × Sl × Unit, e = .returned ((Sh.tup [.at .sl, .at .sl]).enc x) ∧ ∃ (gs gr : Nat → Nat) (bs : Nat → Addr) (dP cP : Nat → Sl) (T' : Ths), Sep W0 w' T' ∧ T' (.bx 0) = Owt ptrV 52 x.1 (ptrs ps.length (pPres ps) gs) ∧ T' (.bx 1) = Owt ptrV 56 x.2.1 (ptrs ps.length (pPres ps) gr) ∧
      (∀ i, i < ps.length → pPres ps i = true → T' (.ps i) = PSrc (gs i) (bs i) (dP i) (cP i) (src0 (dat i) (chk i) (ps.getD i pipe0).2.2.1) ∧ T' (.rs i) = RSrc (gr i) (ps.getD i pipe0).1 (ps.getD i pipe0).2.1 (src0 (dat i) (chk i) (ps.getD i pipe0).2.2.1)) ∧ (∀ i, T' (.pk i) = T (.pk i)) ∧ (∀ i, T' (.rk i) = T (.rk i)) ∧ ∀ i, i ≠ 0 → i ≠ 1 → T' (.bx i) = T (.bx i)) = R
  unfold culletlaw24_sources.M culletlaw24_sources.l1
  have hsl := hA.1
  refine loopW_of (fun st w1 => ∃ (i : Nat) (hv wt : Sl) (gs gr : Nat → Nat) (bs : Nat → Addr) (dP cP : Nat → Sl) (T1 : Ths), st = (hv, wt, s, ((s.len : Nat) : Int), (i : Int), ()) ∧ i ≤ ps.length ∧ Sep W0 w1 T1 ∧ T1 (.bx 0) = Owt ptrV 52 hv (ptrs i (pPres ps) gs) ∧ T1 (.bx 1) = Owt ptrV 56 wt (ptrs i (pPres ps) gr) ∧
      (∀ j, j < i → pPres ps j = true → T1 (.ps j) = PSrc (gs j) (bs j) (dP j) (cP j) (src0 (dat j) (chk j) (ps.getD j pipe0).2.2.1) ∧ T1 (.rs j) = RSrc (gr j) (ps.getD j pipe0).1 (ps.getD j pipe0).2.1 (src0 (dat j) (chk j) (ps.getD j pipe0).2.2.1)) ∧ (∀ i, T1 (.pk i) = T (.pk i)) ∧ (∀ i, T1 (.rk i) = T (.rk i)) ∧ ∀ i, i ≠ 0 → i ≠ 1 → T1 (.bx i) = T (.bx i))
    (fun st _ => ((ps.length : Int) - st.2.2.2.2.1).toNat) ?_ ⟨0, ⟨none, 0, 0⟩, ⟨none, 0, 0⟩, fun _ => 0, fun _ => 0, fun _ => ⟨0, 0, none⟩, fun _ => ⟨none, 0, 0⟩, fun _ => ⟨none, 0, 0⟩, (T.up (.bx 0) (Owt ptrV 52 ⟨none, 0, 0⟩ [])).up (.bx 1) (Owt ptrV 56 ⟨none, 0, 0⟩ []), rfl, Nat.zero_le _,
      (hS.newOwn (.bx 0) (Ex.refl _) (Own.nil _ _ _ _)).newOwn (.bx 1) (Ex.refl _) (Own.nil _ _ _ _), by rw [Ths.up_ne _ _ (by simp), Ths.up_same]; rfl, by rw [Ths.up_same]; rfl, fun j hj => by omega, fun i => by rw [Ths.up_ne _ _ (by simp), Ths.up_ne _ _ (by simp)], fun i => by rw [Ths.up_ne _ _ (by simp), Ths.up_ne _ _ (by simp)],
      fun i h2 h3 => by rw [Ths.up_ne _ _ (by simpa using h3), Ths.up_ne _ _ (by simpa using h2)]⟩
  rintro k1 _ w1 ⟨i, hv, wt, gs, gr, bs, dP, cP, T1, rfl, hi, hS1, hhv, hwt, hall, hpk, hrk, hbx⟩ hk1
  unfold culletlaw24_sources.b1
  dsimp only at hk1 ⊢
  refine Cd_dec (fun hlt => ?_) (fun hge => ?_)
  · have hlt : i < ps.length := by omega
    refine Pu_idxA (hS1.oldA hA) (t := 27) (e := 71) (by kernel_rfl) (by kernel_rfl) (by omega) (by omega) fun a x hx hcell _ => ?_
    rw [Int.toNat_natCast] at hx
    have hgd := getD_of (d := pipe0) hx
    obtain ⟨hdat, hchk, hdl, hcl⟩ := hda i x hx
    refine Rd_agg (x := x) (by kernel_rfl) hcell ?_
    refine Wr_alloc zPipe fun w2 hB2 hx2 => ?_
    obtain ⟨cs5, hcs⟩ : ∃ cs5 : List Value, [slv x.1, slv x.2.1, .int .i64 x.2.2.1, .int .i64 x.2.2.2.1, .bool x.2.2.2.2.1] = cs5 := ⟨_, rfl⟩
    refine Wu_all (ds := [slv x.1, slv x.2.1, .int .i64 x.2.2.1, .int .i64 x.2.2.2.1, .bool x.2.2.2.2.1]) hB2 (by kernel_rfl) (by intro u hu; simp only [List.mem_cons, List.not_mem_nil, or_false] at hu; rcases hu with rfl | rfl | rfl | rfl | rfl <;> rfl) rfl fun w3 hB3 hm3 => ?_
    rw [hcs] at hB3
    have hx13 : Ex w1 w3 := hx2.into hm3 (fun i hi => Nat.le_of_eq (Eq.symm hi))
    have hS3 := hS1.box (.tm 0) hx13 hB3
    generalize w1.heap.size = g5 at hB3 hS3 ⊢
    have c0 : cs5[0]? = some (slv x.1) := by rw [← hcs]; rfl
    have c1 : cs5[1]? = some (slv x.2.1) := by rw [← hcs]; rfl
    have c2 : cs5[2]? = some (.int .i64 x.2.2.1) := by rw [← hcs]; rfl
    have c3 : cs5[3]? = some (.int .i64 x.2.2.2.1) := by rw [← hcs]; rfl
    have c4 : cs5[4]? = some (.bool x.2.2.2.2.1) := by rw [← hcs]; rfl
    clear hcs
    refine Rd_has (i := 4) (c := .bool) (x := x.2.2.2.2.1) hB3 (by kernel_rfl) c4 ?_
    have hpres : pPres ps i = !x.2.2.2.2.1 := by unfold pPres; rw [hgd]
    have hgl : (ptrs i (pPres ps) gs).length = i := ptrs_len _ _ _
    have hkl : (ptrs i (pPres ps) gr).length = i := ptrs_len _ _ _
    have nxt : ∀ (w9 : World) (T9 : Ths) (hv' wt' : Sl) (a b : Option Nat) (br : Addr) (d' c' : Sl), Sep W0 w9 T9 → T9 (.bx 0) = Owt ptrV 52 hv' (ptrs i (pPres ps) gs ++ [a]) → T9 (.bx 1) = Owt ptrV 56 wt' (ptrs i (pPres ps) gr ++ [b]) →
        ((pPres ps i = true ∧ ∃ g g', a = some g ∧ b = some g' ∧ T9 (.ps i) = PSrc g br d' c' (src0 (dat i) (chk i) x.2.2.1) ∧ T9 (.rs i) = RSrc g' x.1 x.2.1 (src0 (dat i) (chk i) x.2.2.1)) ∨ (pPres ps i = false ∧ a = none ∧ b = none)) → (∀ j, j ≠ i → T9 (.ps j) = T1 (.ps j)) → (∀ j, j ≠ i → T9 (.rs j) = T1 (.rs j)) → (∀ j, T9 (.pk j) = T1 (.pk j)) → (∀ j, T9 (.rk j) = T1 (.rk j)) → (∀ j, j ≠ 0 → j ≠ 1 → T9 (.bx j) = T1 (.bx j)) →
        culletlaw24_sources.j1 R k1 hv' wt' s ((s.len : Nat) : Int) (i : Int) w9 := by
      intro w9 T9 hv' wt' a b br d' c' hS9 h2 h3 hor hps hrs hpk9 hrk9 hbx9
      unfold culletlaw24_sources.j1
      rw [wrap64 (by omega) (by omega), show (i : Int) + 1 = ((i + 1 : Nat) : Int) by omega]
      have e2 : ∀ (G : Nat → Nat) (z : Option Nat), ((pPres ps i = true ∧ ∃ g, z = some g) ∨ (pPres ps i = false ∧ z = none)) → ptrs (i + 1) (pPres ps) (upN G i (z.getD 0)) = ptrs i (pPres ps) G ++ [z] := by
        intro G z hz
        rw [ptrs_succ (gd := G) (fun j hj => upN_ne _ _ (by omega)), upN_same]
        rcases hz with ⟨h, g, rfl⟩ | ⟨h, rfl⟩
        · rw [if_pos h]; rfl
        · rw [h]; rfl
      refine hk1 _ _ ⟨i + 1, hv', wt', upN gs i (a.getD 0), upN gr i (b.getD 0), upN bs i br, upN dP i d', upN cP i c', T9, rfl, by omega, hS9, ?_, ?_, ?_, fun j => (hpk9 j).trans (hpk j), fun j => (hrk9 j).trans (hrk j), fun j h h' => (hbx9 j h h').trans (hbx j h h')⟩ (by dsimp only; omega)
      · rw [e2 gs a (by rcases hor with ⟨h, g, g', rfl, _⟩ | ⟨h, rfl, _⟩; exact .inl ⟨h, g, rfl⟩; exact .inr ⟨h, rfl⟩)]; exact h2
      · rw [e2 gr b (by rcases hor with ⟨h, g, g', _, rfl, _⟩ | ⟨h, _, rfl⟩; exact .inl ⟨h, g', rfl⟩; exact .inr ⟨h, rfl⟩)]; exact h3
      · intro j hj hp
        by_cases hji : j = i
        · subst hji
          rcases hor with ⟨_, g, g', rfl, rfl, h5, h6⟩ | ⟨h, _⟩
          · rw [upN_same, upN_same, upN_same, upN_same, upN_same, hgd]; exact ⟨h5, h6⟩
          · rw [h] at hp; cases hp
        · rw [upN_ne _ _ hji, upN_ne _ _ hji, upN_ne _ _ hji, upN_ne _ _ hji, upN_ne _ _ hji, hps j hji, hrs j hji]
          exact hall j (by omega) hp
    generalize hT3 : T1.up (.tm 0) (Cel g5 cs5 71) = T3 at hS3
    have t3tm : T3 (.tm 0) = Cel g5 cs5 71 := by rw [← hT3]; exact Ths.up_same _ _ _
    have t3o : ∀ k, (∀ j, k ≠ .tm j) → T3 k = T1 k := fun k hk => by rw [← hT3]; exact Ths.up_ne _ _ (hk 0)
    clear hT3
    refine Cd_of (fun hb => ?_) (fun hb => ?_)
    · have hp : pPres ps i = false := by rw [hpres]; show (!x.2.2.2.2.1) = false; rw [show x.2.2.2.2.1 = true from hb]; rfl
      refine Wr_lit (f := ptrV) (e := 52) (base := w3.heap.size) [none] (by kernel_rfl) (Nat.le_refl _) (by simp) fun s4 w4 ho4 hx4 _ => ?_
      have hS4 := hS3.exx hx4
      have h24 : T3 (.bx 0) = Owt ptrV 52 hv (ptrs i (pPres ps) gs) := (t3o _ (by simp)).trans hhv
      refine Wr_append (f := ptrV) (base := 0) tLPS iPS rfl (hS4.owt (k := .bx 0) h24) ho4.rds ptr_one (by rw [hgl]; simp; omega) (by rw [hgl]; simp; omega) (Nat.zero_le _) fun hv' w5 ho5 hm5 hin5 => ?_
      have hS5 := hS4.grow (k := .bx 0) h24 ho5 hm5 hin5
      refine Wr_lit (f := ptrV) (e := 56) (base := w5.heap.size) [none] (by kernel_rfl) (Nat.le_refl _) (by simp) fun s6 w6 ho6 hx6 _ => ?_
      have hS6 := hS5.exx hx6
      have h36 : (T3.up (.bx 0) (Owt ptrV 52 hv' (ptrs i (pPres ps) gs ++ [none]))) (.bx 1) = Owt ptrV 56 wt (ptrs i (pPres ps) gr) := by rw [Ths.up_ne _ _ (by simp), t3o _ (by simp)]; exact hwt
      refine Wr_append (f := ptrV) (base := 0) tLRS iRS rfl (hS6.owt (k := .bx 1) h36) ho6.rds ptr_one (by rw [hkl]; simp; omega) (by rw [hkl]; simp; omega) (Nat.zero_le _) fun wt' w7 ho7 hm7 hin7 => ?_
      have hS7 := hS6.grow (k := .bx 1) h36 ho7 hm7 hin7
      refine nxt w7 _ hv' wt' none none ⟨0, 0, none⟩ ⟨none, 0, 0⟩ ⟨none, 0, 0⟩ hS7 (by rw [Ths.up_ne _ _ (by simp), Ths.up_same]) (Ths.up_same _ _ _) (.inr ⟨hp, rfl, rfl⟩) ?_ ?_ ?_ ?_ ?_
      · intro j _; rw [Ths.up_ne _ _ (by simp), Ths.up_ne _ _ (by simp), t3o _ (by simp)]
      · intro j _; rw [Ths.up_ne _ _ (by simp), Ths.up_ne _ _ (by simp), t3o _ (by simp)]
      · intro j; rw [Ths.up_ne _ _ (by simp), Ths.up_ne _ _ (by simp), t3o _ (by simp)]
      · intro j; rw [Ths.up_ne _ _ (by simp), Ths.up_ne _ _ (by simp), t3o _ (by simp)]
      · intro j h h'; rw [Ths.up_ne _ _ (by simpa using h'), Ths.up_ne _ _ (by simpa using h), t3o _ (by simp)]
    · have hp : pPres ps i = true := by rw [hpres]; show (!x.2.2.2.2.1) = true; rw [show x.2.2.2.2.1 = false from hb]; rfl
      have hSd := hS3.exx (Ex.drew w3)
      have hBd := hB3.ex (Ex.drew w3)
      refine Held_of (fun w' => Has w' g5 cs5 71) hBd ?_
      refine RdS_has (i := 0) (c := .sl) (x := x.1) (fun _ h => h) (by kernel_rfl) c0 ?_
      refine RdS_has (i := 1) (c := .sl) (x := x.2.1) (fun _ h => h) (by kernel_rfl) c1 ?_
      refine RdS_has (i := 2) (c := .int .i64) (x := x.2.2.1) (fun _ h => h) (by kernel_rfl) c2 ?_
      refine RdS_has (i := 3) (c := .int .i64) (x := x.2.2.2.1) (fun _ h => h) (by kernel_rfl) c3 ?_
      generalize w3.drew = u0 at hSd hBd
      have s5 : ∀ {u U}, Sep W0 u U → U (.tm 0) = Cel g5 cs5 71 → Has u g5 cs5 71 := fun h hk => h.has hk
      have litD : ∀ (u : World) (U : Ths) (K : Sl → World → Prop), Sep W0 u U → (∀ z u', Sep W0 u' (U.up (.tm 1) (Owt b8 5 z [])) → K z u') → Wr Tryd.prog (Instr.buildSlice 67 0 #[]) (.one (.at .sl)) K u := fun u U K hU hK =>
        Wr_lit (f := b8) (e := 5) (base := u.heap.size) [] (by kernel_rfl) (Nat.le_refl _) (by simp) fun z u' ho hx' _ => hK z u' (hU.newOwn (.tm 1) hx' ho)
      have litC : ∀ (u : World) (U : Ths) (K : Sl → World → Prop), Sep W0 u U → (∀ z u', Sep W0 u' (U.up (.tm 2) (Owt i64v 3 z [])) → K z u') → Wr Tryd.prog (Instr.buildSlice 24 0 #[]) (.one (.at .sl)) K u := fun u U K hU hK =>
        Wr_lit (f := i64v) (e := 3) (base := u.heap.size) [] (by kernel_rfl) (Nat.le_refl _) (by simp) fun z u' ho hx' _ => hK z u' (hU.newOwn (.tm 2) hx' ho)
      have apD : ∀ (u : World) (U : Ths) (z : Sl) (K : Sl → World → Prop), Sep W0 u U → U (.tm 1) = Owt b8 5 z [] → (∀ y u', Sep W0 u' (U.up (.tm 1) (Owt b8 5 y (dat i))) → K y u') → Wr Tryd.prog (Builtin.append_ #[67, 67] 67 #[.slice z.base z.len z.cap, .slice x.1.base x.1.len x.1.cap]) (.one (.at .sl)) K u := fun u U z K hU hz hK =>
        Wr_append (l := []) (base := 0) tB iB rfl (hU.owt hz) (hU.old hdat) (fun _ => rfl) (by simpa using hdl) (by simpa using hdl) (Nat.zero_le _) fun y u' ho hm hin => hK y u' (hU.grow hz ho hm hin)
      have apC : ∀ (u : World) (U : Ths) (z : Sl) (K : Sl → World → Prop), Sep W0 u U → U (.tm 2) = Owt i64v 3 z [] → (∀ y u', Sep W0 u' (U.up (.tm 2) (Owt i64v 3 y (chk i))) → K y u') → Wr Tryd.prog (Builtin.append_ #[24, 24] 24 #[.slice z.base z.len z.cap, .slice x.2.1.base x.2.1.len x.2.1.cap]) (.one (.at .sl)) K u := fun u U z K hU hz hK =>
        Wr_append (l := []) (base := 0) tI iI rfl (hU.owt hz) (hU.old hchk) (fun _ => rfl) (by simp; omega) (by simpa using hcl) (Nat.zero_le _) fun y u' ho hm hin => hK y u' (hU.grow hz ho hm hin)
      have fin : ∀ (u : World) (U : Ths) (y z : Sl), Sep W0 u U → U (.tm 1) = Owt b8 5 y (dat i) → U (.tm 2) = Owt i64v 3 z (chk i) → U (.tm 0) = Cel g5 cs5 71 → (∀ k, (∀ j, k ≠ .tm j) → U k = T1 k) →
          Cl Tryd.prog 21 #[.slice y.base y.len y.cap, .agg #[.slice z.base z.len z.cap, .int .i64 x.2.2.1, .int .i64 x.2.2.2.1]] (.one (.at .ptr)) (fun q v => Has v g5 cs5 71 ∧ (Wr Tryd.prog (Instr.buildSlice 39 1 #[(0, .pointer q)]) (.one (.at .sl)) (fun r v1 => Has v1 g5 cs5 71 ∧
            (Wr Tryd.prog (Builtin.append_ #[39, 39] 39 #[.slice hv.base hv.len hv.cap, .slice r.base r.len r.cap]) (.one (.at .sl)) (fun t v2 => Has v2 g5 cs5 71 ∧ culletlaw24_sources.j2 R k1 t wt ⟨g5, 0, none⟩ s ((s.len : Nat) : Int) (i : Int) v2) v1)) v)) u := by
        intro u U y z hU hy hz h0 hUo
        refine Cl_mono (newSource_ok (.ps i) hU (hU.owt hy).rds (hU.owt hz).rds hdl hcl) ?_
        rintro _ w4 ⟨⟨g, br, d', c', rfl, hS4⟩, hx4⟩
        have h04 : (U.up (.ps i) (PSrc g br d' c' (src0 (dat i) (chk i) x.2.2.1))) (.tm 0) = Cel g5 cs5 71 := by rw [Ths.up_ne _ _ (by simp)]; exact h0
        refine ⟨s5 hS4 h04, ?_⟩
        refine Wr_lit (f := ptrV) (e := 52) (base := w4.heap.size) [some g] (by kernel_rfl) (Nat.le_refl _) (by simp) fun s5' w5 ho5 hx5 _ => ?_
        have hS5 := hS4.exx hx5
        refine ⟨s5 hS5 h04, ?_⟩
        have h25 : (U.up (.ps i) (PSrc g br d' c' (src0 (dat i) (chk i) x.2.2.1))) (.bx 0) = Owt ptrV 52 hv (ptrs i (pPres ps) gs) := by rw [Ths.up_ne _ _ (by simp), hUo _ (by simp)]; exact hhv
        refine Wr_append (f := ptrV) (base := 0) tLPS iPS rfl (hS5.owt (k := .bx 0) h25) ho5.rds ptr_one (by rw [hgl]; simp; omega) (by rw [hgl]; simp; omega) (Nat.zero_le _) fun hv' w6 ho6 hm6 hin6 => ?_
        have hS6 := hS5.grow (k := .bx 0) h25 ho6 hm6 hin6
        have hB6 := hS6.has (k := .tm 0) (by rw [Ths.up_ne _ _ (by simp)]; exact h04)
        refine ⟨hB6, ?_⟩
        unfold culletlaw24_sources.j2
        refine Rd_has (i := 0) (c := .sl) (x := x.1) hB6 (by kernel_rfl) c0 ?_
        refine Rd_has (i := 1) (c := .sl) (x := x.2.1) hB6 (by kernel_rfl) c1 ?_
        refine Rd_has (i := 2) (c := .int .i64) (x := x.2.2.1) hB6 (by kernel_rfl) c2 ?_
        refine Wr_box fun w7 hB7 hx7 => ?_
        have hS7 := hS6.box (cs := rsrcV x.1 x.2.1 (src0 (dat i) (chk i) x.2.2.1)) (.rs i) hx7 hB7
        generalize w6.heap.size = g' at hS7 ⊢
        refine Wr_lit (f := ptrV) (e := 56) (base := w7.heap.size) [some g'] (by kernel_rfl) (Nat.le_refl _) (by simp) fun s8 w8 ho8 hx8 _ => ?_
        have hS8 := hS7.exx hx8
        have h38 : (((U.up (.ps i) (PSrc g br d' c' (src0 (dat i) (chk i) x.2.2.1))).up (.bx 0) (Owt ptrV 52 hv' (ptrs i (pPres ps) gs ++ [some g]))).up (.rs i) (RSrc g' x.1 x.2.1 (src0 (dat i) (chk i) x.2.2.1))) (.bx 1) = Owt ptrV 56 wt (ptrs i (pPres ps) gr) := by
          rw [Ths.up_ne _ _ (by simp), Ths.up_ne _ _ (by simp), Ths.up_ne _ _ (by simp), hUo _ (by simp)]; exact hwt
        refine Wr_append (f := ptrV) (base := 0) tLRS iRS rfl (hS8.owt (k := .bx 1) h38) ho8.rds ptr_one (by rw [hkl]; simp; omega) (by rw [hkl]; simp; omega) (Nat.zero_le _) fun wt' w9 ho9 hm9 hin9 => ?_
        have hS9 := hS8.grow (k := .bx 1) h38 ho9 hm9 hin9
        refine nxt w9 _ hv' wt' (some g) (some g') br d' c' hS9 (by rw [Ths.up_ne _ _ (by simp), Ths.up_ne _ _ (by simp), Ths.up_same]) (Ths.up_same _ _ _) (.inl ⟨hp, g, g', rfl, rfl, ?_, ?_⟩) ?_ ?_ ?_ ?_ ?_
        · rw [Ths.up_ne _ _ (by simp), Ths.up_ne _ _ (by simp), Ths.up_ne _ _ (by simp), Ths.up_same]
        · rw [Ths.up_ne _ _ (by simp), Ths.up_same]
        · intro j hj; rw [Ths.up_ne _ _ (by simp), Ths.up_ne _ _ (by simp), Ths.up_ne _ _ (by simp), Ths.up_ne _ _ (by simpa using hj), hUo _ (by simp)]
        · intro j hj; rw [Ths.up_ne _ _ (by simp), Ths.up_ne _ _ (by simpa using hj), Ths.up_ne _ _ (by simp), Ths.up_ne _ _ (by simp), hUo _ (by simp)]
        · intro j; rw [Ths.up_ne _ _ (by simp), Ths.up_ne _ _ (by simp), Ths.up_ne _ _ (by simp), Ths.up_ne _ _ (by simp), hUo _ (by simp)]
        · intro j; rw [Ths.up_ne _ _ (by simp), Ths.up_ne _ _ (by simp), Ths.up_ne _ _ (by simp), Ths.up_ne _ _ (by simp), hUo _ (by simp)]
        · intro j h h'; rw [Ths.up_ne _ _ (by simpa using h'), Ths.up_ne _ _ (by simp), Ths.up_ne _ _ (by simpa using h), Ths.up_ne _ _ (by simp), hUo _ (by simp)]
      have d0 : ∀ (U : Ths) (j : Nat) (t : Th), j ≠ 0 → U (.tm 0) = Cel g5 cs5 71 → (U.up (.tm j) t) (.tm 0) = Cel g5 cs5 71 := fun U j t hj h => by rw [Ths.up_ne _ _ (by simpa using fun e => hj e.symm)]; exact h
      have dO : ∀ (U : Ths) (j : Nat) (t : Th), (∀ k, (∀ j, k ≠ .tm j) → U k = T1 k) → (∀ k, (∀ j, k ≠ .tm j) → (U.up (.tm j) t) k = T1 k) := fun U j t h k hk => by rw [Ths.up_ne _ _ (hk j)]; exact h k hk
      have t12 : (Ky.tm 1) ≠ .tm 2 := by simp
      have t21 : (Ky.tm 2) ≠ .tm 1 := by simp
      refine ⟨?_, ?_⟩
      · refine litD _ _ _ hSd fun z1 u1 hU1 => ⟨s5 hU1 (d0 _ _ _ (by decide) t3tm), ?_, ?_⟩
        · refine apD _ _ _ _ hU1 (Ths.up_same _ _ _) fun y1 u2 hU2 => ?_
          rw [Ths.up_up] at hU2
          refine ⟨s5 hU2 (d0 _ _ _ (by decide) t3tm), ?_⟩
          refine litC _ _ _ hU2 fun z2 u3 hU3 => ⟨s5 hU3 (d0 _ _ _ (by decide) (d0 _ _ _ (by decide) t3tm)), ?_⟩
          refine apC _ _ _ _ hU3 (Ths.up_same _ _ _) fun y2 u4 hU4 => ?_
          rw [Ths.up_up] at hU4
          refine ⟨s5 hU4 (d0 _ _ _ (by decide) (d0 _ _ _ (by decide) t3tm)), ?_⟩
          exact fin u4 _ y1 y2 hU4 (by rw [Ths.up_ne _ _ t12, Ths.up_same]) (Ths.up_same _ _ _) (d0 _ _ _ (by decide) (d0 _ _ _ (by decide) t3tm)) (dO _ _ _ (dO _ _ _ t3o))
        · refine litC _ _ _ hU1 fun z2 u2 hU2 => ⟨s5 hU2 (d0 _ _ _ (by decide) (d0 _ _ _ (by decide) t3tm)), ?_⟩
          refine apD _ _ z1 _ hU2 (by rw [Ths.up_ne _ _ t12, Ths.up_same]) fun y1 u3 hU3 => ⟨s5 hU3 (d0 _ _ _ (by decide) (d0 _ _ _ (by decide) (d0 _ _ _ (by decide) t3tm))), ?_⟩
          refine apC _ _ z2 _ hU3 (by rw [Ths.up_ne _ _ t21, Ths.up_same]) fun y2 u4 hU4 => ⟨s5 hU4 (d0 _ _ _ (by decide) (d0 _ _ _ (by decide) (d0 _ _ _ (by decide) (d0 _ _ _ (by decide) t3tm)))), ?_⟩
          exact fin u4 _ y1 y2 hU4 (by rw [Ths.up_ne _ _ t12, Ths.up_same]) (Ths.up_same _ _ _) (d0 _ _ _ (by decide) (d0 _ _ _ (by decide) (d0 _ _ _ (by decide) (d0 _ _ _ (by decide) t3tm)))) (dO _ _ _ (dO _ _ _ (dO _ _ _ (dO _ _ _ t3o))))
      · refine litC _ _ _ hSd fun z2 u1 hU1 => ⟨s5 hU1 (d0 _ _ _ (by decide) t3tm), ?_⟩
        refine litD _ _ _ hU1 fun z1 u2 hU2 => ⟨s5 hU2 (d0 _ _ _ (by decide) (d0 _ _ _ (by decide) t3tm)), ?_⟩
        refine apD _ _ z1 _ hU2 (Ths.up_same _ _ _) fun y1 u3 hU3 => ⟨s5 hU3 (d0 _ _ _ (by decide) (d0 _ _ _ (by decide) (d0 _ _ _ (by decide) t3tm))), ?_⟩
        refine apC _ _ z2 _ hU3 (by rw [Ths.up_ne _ _ t21, Ths.up_ne _ _ t21, Ths.up_same]) fun y2 u4 hU4 => ⟨s5 hU4 (d0 _ _ _ (by decide) (d0 _ _ _ (by decide) (d0 _ _ _ (by decide) (d0 _ _ _ (by decide) t3tm)))), ?_⟩
        exact fin u4 _ y1 y2 hU4 (by rw [Ths.up_ne _ _ t12, Ths.up_same]) (Ths.up_same _ _ _) (d0 _ _ _ (by decide) (d0 _ _ _ (by decide) (d0 _ _ _ (by decide) (d0 _ _ _ (by decide) t3tm)))) (dO _ _ _ (dO _ _ _ (dO _ _ _ (dO _ _ _ t3o))))
  · have hi' : i = ps.length := by omega
    subst hi'
    subst hR
    exact ⟨(hv, wt, ()), rfl, gs, gr, bs, dP, cP, T1, hS1, hhv, hwt, hall, hpk, hrk, hbx⟩
end Go.Proofs.YtmmejgneelkhkaaDoor
