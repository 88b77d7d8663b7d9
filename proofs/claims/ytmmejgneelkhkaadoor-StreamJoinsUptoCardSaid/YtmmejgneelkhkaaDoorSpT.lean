/- The answer that the document fixes; the world of a job. -/
import Derived.Test.YtmmejgneelkhkaaDoorSpS
set_option linter.all false
namespace Go.Proofs.YtmmejgneelkhkaaDoor
open Go Go.Cu Go.RowKit
set_option linter.unusedVariables false
set_option maxHeartbeats 4000000
set_option maxRecDepth 100000
theorem fixed_run : (outF 2 3 0 5 (src0 [1, 2, 3, 4, 5] [] (-1)) [⟨-1, []⟩, ⟨-1, []⟩]).2 = ([⟨-1, [1, 2, 3]⟩, ⟨-1, [4, 5, 0]⟩], Res.done) := by kernel_rfl
theorem fixed_early : earlyF true 0 2 1 2 5 true 2 = 0 := by decide
theorem fixed_len : (lengthF 0 2 1 5).1.toNat = 3 := by decide
theorem fixed_gv {W : World} {ea : Addr} (he : EndIs W ea) : Gv Tryd.prog 7 #[] (.bool true) W := by
  refine culletlaw24_fixed.run _ W ?_
  unfold culletlaw24_fixed.M
  refine Cl_mono (engineNew_ok (.bx 4) (f := 0) (b := 0) (k := 2) (m := 1) (wo := 1) (st := 4) (ca := 1) (sc := false) (pk := ⟨none, 0, 0⟩) (l := []) (Sep.init W) (Rds.nil _ _) (by simp)) ?_
  have hok : okOpt 0 0 2 1 1 4 1 = true := by decide
  rintro x w1 (⟨h, _⟩ | ⟨_, ge, pk', tr, rfl, hS1, _⟩)
  · rw [hok] at h; cases h
  refine Cl_mono (newSink_ok (.pk 0) hS1) ?_
  rintro _ w2 ⟨⟨g0, b0, rfl, hS2⟩, _⟩
  refine Cl_mono (newSink_ok (.pk 1) hS2) ?_
  rintro _ w3 ⟨⟨g1, b1, rfl, hS3⟩, _⟩
  refine Wr_lit (f := ptrV) (e := 64) (base := w3.heap.size) [some g0, some g1] (by kernel_rfl) (Nat.le_refl _) (by simp) fun dst w4 ho4 hx4 _ => ?_
  have hS4 := hS3.own (.bx 2) hx4 ho4
  refine Wr_lit (f := b8) (e := 5) (base := w4.heap.size) [1, 2, 3, 4, 5] (by kernel_rfl) (Nat.le_refl _) (by simp) fun dd w5 ho5 hx5 _ => ?_
  have hS5 := hS4.exx hx5
  refine Cl_mono (newSource_ok (ds := dd) (cs := ⟨none, 0, 0⟩) (d := [1, 2, 3, 4, 5]) (c := []) (fa := -1) (code := 0) (.ps 0) hS5 ho5.rds (Rds.nil _ _) (by simp) (by simp)) ?_
  rintro _ w6 ⟨⟨gs, bs, d', c', rfl, hS6⟩, _⟩
  generalize hT : (((((Ths.up (fun _ => Th.none) (.bx 4) (Eng ge 0 0 2 1 1 4 1 false pk' [] tr)).up (.pk 0) (PSnk g0 b0 ⟨-1, []⟩)).up (.pk 1) (PSnk g1 b1 ⟨-1, []⟩)).up (.bx 2) (Rdo ptrV dst [some g0, some g1])).up (.ps 0) (PSrc gs bs d' c' (src0 [1, 2, 3, 4, 5] [] (-1)))) = T6 at hS6
  have t4 : T6 (.bx 4) = Eng ge 0 0 2 1 1 4 1 false pk' [] tr := by rw [← hT, Ths.up_ne _ _ (by simp), Ths.up_ne _ _ (by simp), Ths.up_ne _ _ (by simp), Ths.up_ne _ _ (by simp), Ths.up_same]
  have tp0 : T6 (.pk 0) = PSnk g0 b0 ⟨-1, []⟩ := by rw [← hT, Ths.up_ne _ _ (by simp), Ths.up_ne _ _ (by simp), Ths.up_ne _ _ (by simp), Ths.up_same]
  have tp1 : T6 (.pk 1) = PSnk g1 b1 ⟨-1, []⟩ := by rw [← hT, Ths.up_ne _ _ (by simp), Ths.up_ne _ _ (by simp), Ths.up_same]
  have t2 : T6 (.bx 2) = Rdo ptrV dst [some g0, some g1] := by rw [← hT, Ths.up_ne _ _ (by simp), Ths.up_same]
  have ts : T6 (.ps 0) = PSrc gs bs d' c' (src0 [1, 2, 3, 4, 5] [] (-1)) := by rw [← hT, Ths.up_same]
  clear hT
  refine Pu_eqnil tEn (Cd_f ?_)
  have hdst6 : Rds ptrV w6 dst [some g0, some g1] := hS6.rds t2
  refine Pu_idx hdst6 (e := 64) (by kernel_rfl) (by kernel_rfl) (by decide) (by simp) fun a x hx hc _ => ?_
  obtain rfl : x = some g0 := (Option.some.inj hx).symm
  refine Rd_one (c := .ptr) (x := at0 g0) (by kernel_rfl) hc (Pu_eqnil tPK (Cd_f ?_))
  refine Pu_idx hdst6 (e := 64) (by kernel_rfl) (by kernel_rfl) (by decide) (by simp) fun a x hx hc _ => ?_
  obtain rfl : x = some g1 := (Option.some.inj hx).symm
  refine Rd_one (c := .ptr) (x := at0 g1) (by kernel_rfl) hc (Pu_eqnil tPK (Cd_f ?_))
  refine Pu_eqnil tPS ?_
  unfold culletlaw24_fixed.j1
  refine Cd_f ?_
  have hgood : (src0 [1, 2, 3, 4, 5] [] (-1)).Good := ⟨by simp, fun h => absurd h (by decide), by decide, by simp, by simp, by simp⟩
  have hpt : ptrs 2 (fun _ => true) (fun i => if i = 0 then g0 else g1) = [some g0, some g1] := rfl
  refine split_ok (pe := some ge) (psrc := some gs) (made := true) (je := 4) (jd := 2) (n := 2) (f := 0) (b := 0) (k := 2) (m := 1) (wo := 1) (st := 4) (ca := 1) (block := 2) (total := 5) (sc := false) (l := []) (bs := bs) (ea := ea) (gd := fun i => if i = 0 then g0 else g1) (bd := fun i => if i = 0 then b0 else b1) (pres := fun _ => true) (stt := fun _ => ⟨-1, []⟩) (s := src0 [1, 2, 3, 4, 5] [] (-1))
    hS6 (.inl ⟨rfl, by decide, ge, rfl, t4⟩) (by simp) (fun g hg => by cases hg; exact ts) (by rw [hpt]; exact t2) (fun i hi _ => ?_) (by decide) he (fun _ _ => ⟨hgood, by decide, fun i _ => ⟨⟨fun h => absurd h (by decide), by decide⟩, by simp⟩⟩) (fun h => absurd fixed_early h) ?_
  · match i, hi with
    | 0, _ => exact tp0
    | 1, _ => exact tp1
  intro _ q hq _ _ w7 T7 hS7 hK7 _ hpk7
  rw [fixed_len] at hq
  have hq2 : q.2 = ([⟨-1, [1, 2, 3]⟩, ⟨-1, [4, 5, 0]⟩], Res.done) := by rw [hq]; exact fixed_run
  have hr : q.2.2 = .done := by rw [hq2]
  have hl : q.2.1 = [⟨-1, [1, 2, 3]⟩, ⟨-1, [4, 5, 0]⟩] := by rw [hq2]
  rw [hr]
  have p0 := hpk7 0 ⟨-1, [1, 2, 3]⟩ (by rw [hl]; rfl)
  have p1 := hpk7 1 ⟨-1, [4, 5, 0]⟩ (by rw [hl]; rfl)
  refine Pu_eq0 (b := true) (.inl ⟨rfl, rfl⟩) (Cd_t ?_)
  have hdst7 : Rds ptrV w7 dst [some g0, some g1] := hS7.rds (k := .bx 2) ((hK7.2.2 2).trans t2)
  refine Pu_idx hdst7 (e := 64) (by kernel_rfl) (by kernel_rfl) (by decide) (by simp) fun a x hx hc _ => ?_
  obtain rfl : x = some g0 := (Option.some.inj hx).symm
  refine Rd_one (c := .ptr) (x := at0 g0) (by kernel_rfl) hc ?_
  refine Cl_sl (bytes_sl hS7 (g := g0) (br := b0) p0 (by simp)) fun s8 w8 ho8 hx8 => ?_
  refine Wr_lit (f := b8) (e := 5) (base := w8.heap.size) [1, 2, 3] (by kernel_rfl) (Nat.le_refl _) (by simp) fun s9 w9 ho9 hx9 _ => ?_
  refine Cl_gv (d := .one (.at .bool)) (equal_gv s8 s9 _ _ w9 (ho8.rds.ex hx9) ho9.rds (by simp) (by simp)) fun w10 hx10 => ?_
  rw [decide_eq_true rfl]
  refine Cd_t ?_
  have hx710 := (hx8.trans hx9).trans hx10
  refine Pu_idx (hdst7.ex hx710) (e := 64) (by kernel_rfl) (by kernel_rfl) (by decide) (by simp) fun a x hx hc _ => ?_
  obtain rfl : x = some g1 := (Option.some.inj hx).symm
  refine Rd_one (c := .ptr) (x := at0 g1) (by kernel_rfl) hc ?_
  have hS10 := hS7.exx hx710
  refine Cl_sl (bytes_sl hS10 (g := g1) (br := b1) p1 (by simp)) fun s11 w11 ho11 hx11 => ?_
  refine Wr_lit (f := b8) (e := 5) (base := w11.heap.size) [4, 5, 0] (by kernel_rfl) (Nat.le_refl _) (by simp) fun s12 w12 ho12 hx12 _ => ?_
  refine Cl_gv (d := .one (.at .bool)) (equal_gv s11 s12 _ _ w12 (ho11.rds.ex hx12) ho12.rds (by simp) (by simp)) fun w13 hx13 => ?_
  rw [decide_eq_true rfl]
  exact ⟨rfl, ((hS10.exx hx11).exx hx12).exx hx13 |>.mo.new (fun i h => h)⟩
/-! ### The world -/
abbrev jobV (f b k m wo st ca : Int) (sc : Bool) (pk : Sl) (block : Int) (pp tp : Sl) (size times : Int) : List Value :=
  [.int .i64 f, .int .i64 b, .int .i64 k, .int .i64 m, .int .i64 wo, .int .i64 st, .int .i64 ca, .bool sc, slv pk, .int .i64 block, slv pp, slv tp, .int .i64 size, .int .i64 times]
theorem zWld : (Tryd.prog.info? 44).bind (·.zero) = some (.agg (wldV none false (code0 0 0 0) ⟨none, 0, 0⟩ ⟨none, 0, 0⟩ ⟨none, 0, 0⟩ ⟨none, 0, 0⟩).toArray) := by kernel_rfl
theorem wld_one (pe : Option Addr) (made : Bool) (c : CodeT) (fr into sr ds : Sl) : ∀ x ∈ wldV pe made c fr into sr ds, x.oneCell' = true := by
  intro x hx
  simp only [List.mem_cons, List.not_mem_nil, or_false] at hx
  rcases hx with rfl | rfl | rfl | rfl | rfl | rfl | rfl | rfl | rfl | rfl | rfl | rfl | rfl | rfl | rfl | rfl | rfl | rfl | rfl <;> rfl
theorem sep_freeze {α : Type} {f : α → Value} {e : TypeId} {W0 w : World} {T : Ths} {k : Ky} {s : Sl} {l : List α} (h : Sep W0 w T) (hk : T k = Owt f e s l) : Sep W0 w (T.up k (Rdo f s l)) := by
  obtain ⟨F, ht, _, hc⟩ := h.get k hk
  exact hc w _ F (Mo.refl _ _) ⟨ht.1.rds, ht.2⟩ (fun b hb => .inl hb)
theorem world_ok {W0 w : World} {T : Ths} {f b k m wo st ca : Int} {sc : Bool} {pk : Sl} {block : Int} {pp tp : Sl} {size times : Int} {l : List Int} {ps : List PipeT} {ts : List TapT} {dat chk : Nat → List Int}
    (hS : Sep W0 w T) (hpk : Rds i64v W0 pk l) (hl : l.length * 8 ≤ 140737488355328) (hP : RdA pipeAts W0 pp ps) (hPn : ps.length * 8 ≤ 140737488355328) (hT : RdA tapAts W0 tp ts) (hTn : ts.length * 8 ≤ 140737488355328)
    (hda : ∀ i p, ps[i]? = some p → Rds b8 W0 p.1 (dat i) ∧ Rds i64v W0 p.2.1 (chk i) ∧ (dat i).length ≤ 140737488355328 ∧ (chk i).length * 8 ≤ 140737488355328) :
    Cl Tryd.prog 6 #[.agg (jobV f b k m wo st ca sc pk block pp tp size times).toArray] (.tup [.agg wldAts, .at .bool]) (fun x w' => ∃ (pe : Option Nat) (c : CodeT) (fr into sr ds : Sl) (gs gr gd gk : Nat → Nat) (bs bd : Nat → Addr) (dP cP : Nat → Sl) (T' : Ths),
      x = (mkW (pe.map fun g => ⟨g, 0, none⟩) (okOpt f b k m wo st ca) c fr into sr ds, true, ()) ∧ Sep W0 w' T' ∧ (c.1 = f ∧ c.2.1 = k ∧ c.2.2.1 = m) ∧ ((okOpt f b k m wo st ca = true ∧ ∃ ge pk' tr, pe = some ge ∧ T' (.bx 4) = Eng ge f b k m wo st ca sc pk' l tr) ∨ (okOpt f b k m wo st ca = false ∧ pe = none)) ∧
      Joint T' fr into sr ds ps.length ts.length (pPres ps) (tPres ts) gs gr gd gk bs bd dP cP (fun i => (ps.getD i pipe0).1) (fun i => (ps.getD i pipe0).2.1) (fun i => src0 (dat i) (chk i) (ps.getD i pipe0).2.2.1) (fun i => ⟨(ts.getD i tap0).1, []⟩)) w := by
  refine culletlaw24_world.run _ (f, b, k, m, wo, st, ca, sc, pk, block, pp, tp, size, times, ()) w ?_
  generalize hR : (fun (e : Ending) (w' : World) => ∃ x : WldT × Bool × Unit, e = .returned ((Sh.tup [.agg wldAts, .at .bool]).enc x) ∧ ∃ (pe : Option Nat) (c : CodeT) (fr into sr ds : Sl) (gs gr gd gk : Nat → Nat) (bs bd : Nat → Addr) (dP cP : Nat → Sl) (T' : Ths),
      x = (mkW (pe.map fun g => ⟨g, 0, none⟩) (okOpt f b k m wo st ca) c fr into sr ds, true, ()) ∧ Sep W0 w' T' ∧ (c.1 = f ∧ c.2.1 = k ∧ c.2.2.1 = m) ∧ ((okOpt f b k m wo st ca = true ∧ ∃ ge pk' tr, pe = some ge ∧ T' (.bx 4) = Eng ge f b k m wo st ca sc pk' l tr) ∨ (okOpt f b k m wo st ca = false ∧ pe = none)) ∧
      Joint T' fr into sr ds ps.length ts.length (pPres ps) (tPres ts) gs gr gd gk bs bd dP cP (fun i => (ps.getD i pipe0).1) (fun i => (ps.getD i pipe0).2.1) (fun i => src0 (dat i) (chk i) (ps.getD i pipe0).2.2.1) (fun i => ⟨(ts.getD i tap0).1, []⟩)) = R
  unfold culletlaw24_world.M
  refine Wr_box fun w1 hB1 hx1 => ?_
  have hB1' : Has w1 w.heap.size (jobV f b k m wo st ca sc pk block pp tp size times) 30 := hB1
  have hS1 := hS.box (.bx 6) hx1 hB1'
  generalize w.heap.size = gj at hS1 ⊢
  refine Wr_alloc zWld fun w2 hB2 hx2 => ?_
  have hB2' : Has w2 w1.heap.size (wldV none false (code0 0 0 0) ⟨none, 0, 0⟩ ⟨none, 0, 0⟩ ⟨none, 0, 0⟩ ⟨none, 0, 0⟩) 44 := hB2
  have hS2 := hS1.box (.bx 7) hx2 hB2'
  generalize w1.heap.size = gt at hS2 ⊢
  have j2 : Has w2 gj (jobV f b k m wo st ca sc pk block pp tp size times) 30 := hS2.has (k := .bx 6) (by rw [Ths.up_ne _ _ (by simp), Ths.up_same])
  refine Rd_hasN (l := oAts) (x := (f, b, k, m, wo, st, ca, sc, pk, ())) j2 (by kernel_rfl) rfl ?_
  refine Cl_gv (d := .one (.at .bool)) (valid_gv f b k m wo st ca sc pk w2) fun w3 hx3 => ?_
  have hS3 := hS2.exx hx3
  generalize hmade : okOpt f b k m wo st ca = made at hR ⊢
  refine Wr_alloc zWld fun w4 hB4 hx4 => ?_
  refine Wu_all (ds := wldV none made (code0 0 0 0) ⟨none, 0, 0⟩ ⟨none, 0, 0⟩ ⟨none, 0, 0⟩ ⟨none, 0, 0⟩) hB4 (by kernel_rfl) (wld_one _ _ _ _ _ _ _) rfl fun w5 hB5 hm5 => ?_
  have hx35 : Ex w3 w5 := hx4.into hm5 (fun i hi => Nat.le_of_eq (Eq.symm hi))
  have hS5 := hS3.box (.bx 8) hx35 hB5
  generalize w3.heap.size = gw at hB5 hS5 ⊢
  have T5 : ∃ T5 : Ths, T5 = ((T.up (.bx 6) (Cel gj (jobV f b k m wo st ca sc pk block pp tp size times) 30)).up (.bx 7) (Cel gt (wldV none false (code0 0 0 0) ⟨none, 0, 0⟩ ⟨none, 0, 0⟩ ⟨none, 0, 0⟩ ⟨none, 0, 0⟩) 44)).up (.bx 8) (Cel gw (wldV none made (code0 0 0 0) ⟨none, 0, 0⟩ ⟨none, 0, 0⟩ ⟨none, 0, 0⟩ ⟨none, 0, 0⟩) 44) := ⟨_, rfl⟩
  obtain ⟨T5, hT5⟩ := T5
  rw [← hT5] at hS5
  have t56 : T5 (.bx 6) = Cel gj (jobV f b k m wo st ca sc pk block pp tp size times) 30 := by rw [hT5, Ths.up_ne _ _ (by simp), Ths.up_ne _ _ (by simp), Ths.up_same]
  have t57 : T5 (.bx 7) = Cel gt (wldV none false (code0 0 0 0) ⟨none, 0, 0⟩ ⟨none, 0, 0⟩ ⟨none, 0, 0⟩ ⟨none, 0, 0⟩) 44 := by rw [hT5, Ths.up_ne _ _ (by simp), Ths.up_same]
  have t58 : T5 (.bx 8) = Cel gw (wldV none made (code0 0 0 0) ⟨none, 0, 0⟩ ⟨none, 0, 0⟩ ⟨none, 0, 0⟩ ⟨none, 0, 0⟩) 44 := by rw [hT5, Ths.up_same]
  clear hT5
  have j5 := hS5.has t56
  refine Rd_has (c := .int .i64) (x := f) j5 (by kernel_rfl) rfl ?_
  refine Rd_has (c := .int .i64) (x := k) j5 (by kernel_rfl) rfl ?_
  refine Rd_has (c := .int .i64) (x := m) j5 (by kernel_rfl) rfl ?_
  refine Rd_has (c := .bool) (x := made) hB5 (by kernel_rfl) rfl ?_
  refine Cl_mono (new24_ok f k m made (fun h => by rw [h] at hmade; exact (of_decide_eq_true hmade).2.1) w5) ?_
  rintro c w6 ⟨hc, hx6⟩
  have hS6 := hS5.exx hx6
  refine Wu_store (hB5.ex hx6) (by kernel_rfl) (by simpa [Value.cells] using code_one c) (by simp [Value.cells]) fun w7 hB7 hm7 => ?_
  have hB7' : Has w7 gw (wldV none made c ⟨none, 0, 0⟩ ⟨none, 0, 0⟩ ⟨none, 0, 0⟩ ⟨none, 0, 0⟩) 44 := hB7
  have hS7 := hS6.cel t58 hB7' hm7
  have o7 : ∀ i, i ≠ 8 → (T5.up (.bx 8) (Cel gw (wldV none made c ⟨none, 0, 0⟩ ⟨none, 0, 0⟩ ⟨none, 0, 0⟩ ⟨none, 0, 0⟩) 44)) (.bx i) = T5 (.bx i) := fun i hi => Ths.up_ne _ _ (by simpa using hi)
  have j7 := hS7.has (k := .bx 6) ((o7 6 (by decide)).trans t56)
  refine Rd_hasN (l := oAts) (x := (f, b, k, m, wo, st, ca, sc, pk, ())) j7 (by kernel_rfl) rfl ?_
  refine Cl_mono (engineNew_ok (.bx 4) (f := f) (b := b) (k := k) (m := m) (wo := wo) (st := st) (ca := ca) (sc := sc) (pk := pk) (l := l) hS7 (hS7.old hpk) hl) ?_
  intro x w8 hx8
  -- the engine, whichever it is
  obtain ⟨pe, e, T8, rfl, hS8, hE, hpe, t86, t87, t88⟩ : ∃ (pe : Option Nat) (e : Int) (T8 : Ths), x = (pe.map (fun g => ⟨g, 0, none⟩), e, ()) ∧ Sep W0 w8 T8 ∧ ((made = true ∧ ∃ ge pk' tr, pe = some ge ∧ T8 (.bx 4) = Eng ge f b k m wo st ca sc pk' l tr) ∨ (made = false ∧ pe = none)) ∧ (pe.isSome = made ∧ (e == 0) = made) ∧
      T8 (.bx 6) = T5 (.bx 6) ∧ T8 (.bx 7) = T5 (.bx 7) ∧ T8 (.bx 8) = Cel gw (wldV none made c ⟨none, 0, 0⟩ ⟨none, 0, 0⟩ ⟨none, 0, 0⟩ ⟨none, 0, 0⟩) 44 := by
    rcases hx8 with ⟨h1, ⟨e, he0, rfl⟩, hx⟩ | ⟨h1, ge, pk', tr, rfl, hs, hx⟩
    · rw [hmade] at h1
      exact ⟨none, e, _, rfl, hS7.exx hx, .inr ⟨h1, rfl⟩, ⟨by rw [h1]; rfl, by rw [h1]; simpa using he0⟩, o7 6 (by decide), o7 7 (by decide), Ths.up_same _ _ _⟩
    · rw [hmade] at h1
      exact ⟨some ge, 0, _, rfl, hs, .inl ⟨h1, ge, pk', tr, rfl, Ths.up_same _ _ _⟩, ⟨by rw [h1]; rfl, by rw [h1]; rfl⟩, by rw [Ths.up_ne _ _ (by simp)]; exact o7 6 (by decide), by rw [Ths.up_ne _ _ (by simp)]; exact o7 7 (by decide), by rw [Ths.up_ne _ _ (by simp), Ths.up_same]⟩
  rw [t56] at t86
  rw [t57] at t87
  clear hx8
  dsimp only
  refine Wu_cell (ds := wldV (pe.map fun g => ⟨g, 0, none⟩) made c ⟨none, 0, 0⟩ ⟨none, 0, 0⟩ ⟨none, 0, 0⟩ ⟨none, 0, 0⟩) (hS8.has t88) (by kernel_rfl) rfl rfl (by simp) rfl fun w9 hB9 hm9 => ?_
  have hS9 := hS8.cel t88 hB9 hm9
  refine Rd_has (c := .sl) (x := pp) (hS9.has (k := .bx 6) (by rw [Ths.up_ne _ _ (by simp)]; exact t86)) (by kernel_rfl) rfl ?_
  refine Cl_mono (sources_ok hS9 hP hPn hda) ?_
  rintro ⟨fr, sr, _⟩ w10 ⟨gs, gr, bs, dP, cP, T10, hS10, l0, l1, hsrc, _, _, hbx10⟩
  have hE10 : T10 (.bx 4) = T8 (.bx 4) := (hbx10 4 (by decide) (by decide)).trans (Ths.up_ne _ _ (by simp))
  have t106 : T10 (.bx 6) = _ := ((hbx10 6 (by decide) (by decide)).trans (Ths.up_ne _ _ (by simp))).trans t86
  have t107 : T10 (.bx 7) = _ := ((hbx10 7 (by decide) (by decide)).trans (Ths.up_ne _ _ (by simp))).trans t87
  have t108 : T10 (.bx 8) = Cel gw (wldV (pe.map fun g => ⟨g, 0, none⟩) made c ⟨none, 0, 0⟩ ⟨none, 0, 0⟩ ⟨none, 0, 0⟩ ⟨none, 0, 0⟩) 44 := (hbx10 8 (by decide) (by decide)).trans (Ths.up_same _ _ _)
  dsimp only
  refine Wu_cell (ds := wldV (pe.map fun g => ⟨g, 0, none⟩) made c fr ⟨none, 0, 0⟩ ⟨none, 0, 0⟩ ⟨none, 0, 0⟩) (hS10.has t108) (by kernel_rfl) rfl rfl (by simp) rfl fun w11 hB11 hm11 => ?_
  have hS11 := hS10.cel t108 hB11 hm11
  refine Wu_cell (ds := wldV (pe.map fun g => ⟨g, 0, none⟩) made c fr ⟨none, 0, 0⟩ sr ⟨none, 0, 0⟩) hB11 (by kernel_rfl) rfl rfl (by simp) rfl fun w12 hB12 hm12 => ?_
  have hS12 := hS11.cel (Ths.up_same _ _ _) hB12 hm12
  rw [Ths.up_up] at hS12
  refine Rd_has (c := .sl) (x := tp) (hS12.has (k := .bx 6) (by rw [Ths.up_ne _ _ (by simp)]; exact t106)) (by kernel_rfl) rfl ?_
  refine Cl_mono (sinks_ok hS12 hT hTn) ?_
  rintro ⟨into, ds, _⟩ w13 ⟨gd, gk, bd, T13, hS13, l2, l3, hsnk, hps13, hrs13, hbx13⟩
  have hE13 : T13 (.bx 4) = T8 (.bx 4) := ((hbx13 4 (by decide) (by decide)).trans (Ths.up_ne _ _ (by simp))).trans hE10
  have t136 : T13 (.bx 6) = _ := ((hbx13 6 (by decide) (by decide)).trans (Ths.up_ne _ _ (by simp))).trans t106
  have t137 : T13 (.bx 7) = _ := ((hbx13 7 (by decide) (by decide)).trans (Ths.up_ne _ _ (by simp))).trans t107
  have t138 : T13 (.bx 8) = Cel gw (wldV (pe.map fun g => ⟨g, 0, none⟩) made c fr ⟨none, 0, 0⟩ sr ⟨none, 0, 0⟩) 44 := (hbx13 8 (by decide) (by decide)).trans (Ths.up_same _ _ _)
  have l0' : T13 (.bx 0) = Owt ptrV 52 fr (ptrs ps.length (pPres ps) gs) := ((hbx13 0 (by decide) (by decide)).trans (Ths.up_ne _ _ (by simp))).trans l0
  have l1' : T13 (.bx 1) = Owt ptrV 56 sr (ptrs ps.length (pPres ps) gr) := ((hbx13 1 (by decide) (by decide)).trans (Ths.up_ne _ _ (by simp))).trans l1
  have hsrc' : ∀ i, i < ps.length → pPres ps i = true → T13 (.ps i) = PSrc (gs i) (bs i) (dP i) (cP i) (src0 (dat i) (chk i) (ps.getD i pipe0).2.2.1) ∧ T13 (.rs i) = RSrc (gr i) (ps.getD i pipe0).1 (ps.getD i pipe0).2.1 (src0 (dat i) (chk i) (ps.getD i pipe0).2.2.1) := fun i hi hp =>
    ⟨((hps13 i).trans (Ths.up_ne _ _ (by simp))).trans (hsrc i hi hp).1, ((hrs13 i).trans (Ths.up_ne _ _ (by simp))).trans (hsrc i hi hp).2⟩
  clear hps13 hrs13 hbx13 hsrc l0 l1
  dsimp only
  refine Wu_cell (ds := wldV (pe.map fun g => ⟨g, 0, none⟩) made c fr into sr ⟨none, 0, 0⟩) (hS13.has t138) (by kernel_rfl) rfl rfl (by simp) rfl fun w14 hB14 hm14 => ?_
  have hS14 := hS13.cel t138 hB14 hm14
  refine Wu_cell (ds := wldV (pe.map fun g => ⟨g, 0, none⟩) made c fr into sr ds) hB14 (by kernel_rfl) rfl rfl (by simp) rfl fun w15 hB15 hm15 => ?_
  have hS15 := hS14.cel (Ths.up_same _ _ _) hB15 hm15
  rw [Ths.up_up] at hS15
  -- the lists are read only from here on
  obtain ⟨T16, hS16, q0, q1, q2, q3, qE, q6, q7, q8, qsrc, qsnk⟩ : ∃ T16 : Ths, Sep W0 w15 T16 ∧ T16 (.bx 0) = Rdo ptrV fr (ptrs ps.length (pPres ps) gs) ∧ T16 (.bx 1) = Rdo ptrV sr (ptrs ps.length (pPres ps) gr) ∧ T16 (.bx 2) = Rdo ptrV into (ptrs ts.length (tPres ts) gd) ∧ T16 (.bx 3) = Rdo ptrV ds (ptrs ts.length (tPres ts) gk) ∧
      T16 (.bx 4) = T8 (.bx 4) ∧ T16 (.bx 6) = T13 (.bx 6) ∧ T16 (.bx 7) = T13 (.bx 7) ∧ T16 (.bx 8) = Cel gw (wldV (pe.map fun g => ⟨g, 0, none⟩) made c fr into sr ds) 44 ∧
      (∀ i, i < ps.length → pPres ps i = true → T16 (.ps i) = PSrc (gs i) (bs i) (dP i) (cP i) (src0 (dat i) (chk i) (ps.getD i pipe0).2.2.1) ∧ T16 (.rs i) = RSrc (gr i) (ps.getD i pipe0).1 (ps.getD i pipe0).2.1 (src0 (dat i) (chk i) (ps.getD i pipe0).2.2.1)) ∧
      (∀ i, i < ts.length → tPres ts i = true → T16 (.pk i) = PSnk (gd i) (bd i) ⟨(ts.getD i tap0).1, []⟩ ∧ T16 (.rk i) = RSnk (gk i) ⟨(ts.getD i tap0).1, []⟩) := by
    have f0 := sep_freeze (k := .bx 0) hS15 ((Ths.up_ne _ _ (by simp)).trans l0')
    have f1 := sep_freeze (k := .bx 1) f0 (by rw [Ths.up_ne _ _ (by simp), Ths.up_ne _ _ (by simp)]; exact l1')
    have f2 := sep_freeze (k := .bx 2) f1 (by rw [Ths.up_ne _ _ (by simp), Ths.up_ne _ _ (by simp), Ths.up_ne _ _ (by simp)]; exact l2)
    have f3 := sep_freeze (k := .bx 3) f2 (by rw [Ths.up_ne _ _ (by simp), Ths.up_ne _ _ (by simp), Ths.up_ne _ _ (by simp), Ths.up_ne _ _ (by simp)]; exact l3)
    refine ⟨_, f3, ?_, ?_, ?_, Ths.up_same _ _ _, ?_, ?_, ?_, ?_, fun i hi hp => ⟨?_, ?_⟩, fun i hi hp => ⟨?_, ?_⟩⟩
    · rw [Ths.up_ne _ _ (by simp), Ths.up_ne _ _ (by simp), Ths.up_ne _ _ (by simp), Ths.up_same]
    · rw [Ths.up_ne _ _ (by simp), Ths.up_ne _ _ (by simp), Ths.up_same]
    · rw [Ths.up_ne _ _ (by simp), Ths.up_same]
    · rw [Ths.up_ne _ _ (by simp), Ths.up_ne _ _ (by simp), Ths.up_ne _ _ (by simp), Ths.up_ne _ _ (by simp), Ths.up_ne _ _ (by simp)]; exact hE13
    · rw [Ths.up_ne _ _ (by simp), Ths.up_ne _ _ (by simp), Ths.up_ne _ _ (by simp), Ths.up_ne _ _ (by simp), Ths.up_ne _ _ (by simp)]
    · rw [Ths.up_ne _ _ (by simp), Ths.up_ne _ _ (by simp), Ths.up_ne _ _ (by simp), Ths.up_ne _ _ (by simp), Ths.up_ne _ _ (by simp)]
    · rw [Ths.up_ne _ _ (by simp), Ths.up_ne _ _ (by simp), Ths.up_ne _ _ (by simp), Ths.up_ne _ _ (by simp), Ths.up_same]
    · rw [Ths.up_ne _ _ (by simp), Ths.up_ne _ _ (by simp), Ths.up_ne _ _ (by simp), Ths.up_ne _ _ (by simp), Ths.up_ne _ _ (by simp)]; exact (hsrc' i hi hp).1
    · rw [Ths.up_ne _ _ (by simp), Ths.up_ne _ _ (by simp), Ths.up_ne _ _ (by simp), Ths.up_ne _ _ (by simp), Ths.up_ne _ _ (by simp)]; exact (hsrc' i hi hp).2
    · rw [Ths.up_ne _ _ (by simp), Ths.up_ne _ _ (by simp), Ths.up_ne _ _ (by simp), Ths.up_ne _ _ (by simp), Ths.up_ne _ _ (by simp)]; exact (hsnk i hi hp).1
    · rw [Ths.up_ne _ _ (by simp), Ths.up_ne _ _ (by simp), Ths.up_ne _ _ (by simp), Ths.up_ne _ _ (by simp), Ths.up_ne _ _ (by simp)]; exact (hsnk i hi hp).2
  rw [t136] at q6
  rw [t137] at q7
  clear hS15
  have ret : ∀ w', Sep W0 w' (T16.up (.bx 7) (Cel gt (wldV (pe.map fun g => ⟨g, 0, none⟩) made c fr into sr ds) 44)) → R (.returned (.tuple #[.agg (wldV (pe.map fun g => ⟨g, 0, none⟩) made c fr into sr ds).toArray, .bool true])) w' := by
    intro w' hS'
    subst hR
    refine ⟨(mkW (pe.map fun g => ⟨g, 0, none⟩) made c fr into sr ds, true, ()), rfl, pe, c, fr, into, sr, ds, gs, gr, gd, gk, bs, bd, dP, cP, _, rfl, hS', hc, ?_, ⟨?_, ?_, ?_, ?_, ?_, ?_, ?_, ?_⟩⟩
    · rcases hE with ⟨h1, ge, pk', tr, rfl, h2⟩ | h
      · exact .inl ⟨h1, ge, pk', tr, rfl, by rw [Ths.up_ne _ _ (by simp), qE]; exact h2⟩
      · exact .inr h
    · rw [Ths.up_ne _ _ (by simp)]; exact q0
    · rw [Ths.up_ne _ _ (by simp)]; exact q1
    · rw [Ths.up_ne _ _ (by simp)]; exact q2
    · rw [Ths.up_ne _ _ (by simp)]; exact q3
    · intro i hi hp; rw [Ths.up_ne _ _ (by simp)]; exact (qsrc i hi hp).1
    · intro i hi hp; rw [Ths.up_ne _ _ (by simp)]; exact (qsrc i hi hp).2
    · intro i hi hp; rw [Ths.up_ne _ _ (by simp)]; exact (qsnk i hi hp).1
    · intro i hi hp; rw [Ths.up_ne _ _ (by simp)]; exact (qsnk i hi hp).2
  have hfl : fr.len = ps.length := by have := (hS16.rds q0).1; rw [ptrs_len] at this; exact this
  have hil : into.len = ts.length := by have := (hS16.rds q2).1; rw [ptrs_len] at this; exact this
  have hPA := hS16.oldA hP
  have hTA := hS16.oldA hT
  have hB16 := hS16.has q8
  refine Rd_has (c := .sl) (x := fr) hB16 (by kernel_rfl) rfl ?_
  unfold culletlaw24_world.l1
  refine loopW_of (fun s w' => ∃ i : Nat, s = ((⟨gj, 0, none⟩ : Addr), (⟨gt, 0, none⟩ : Addr), (⟨gw, 0, none⟩ : Addr), e, fr, ((fr.len : Nat) : Int), (i : Int), ()) ∧ i ≤ ps.length ∧ w' = w15) (fun s _ => ((ps.length : Int) - s.2.2.2.2.2.2.1).toNat) ?_ ⟨0, rfl, Nat.zero_le _, rfl⟩
  rintro k1 _ w' ⟨i, rfl, hi, rfl⟩ hk1
  unfold culletlaw24_world.b1
  dsimp only at hk1 ⊢
  refine Cd_dec (fun hlt => ?_) (fun hge => ?_)
  · have hlt : i < ps.length := by omega
    refine Pu_idx (hS16.rds q0) tLPS (by kernel_rfl) (by omega) (by rw [ptrs_len]; omega) fun a x hx hcl _ => ?_
    rw [Int.toNat_natCast, ptrs_get hlt] at hx
    obtain rfl := (Option.some.inj hx).symm
    rw [ptrV_eq] at hcl
    refine Rd_one (c := .ptr) (x := (if pPres ps i then some (gs i) else none).map fun g => ⟨g, 0, none⟩) (by kernel_rfl) hcl ?_
    have nxt : culletlaw24_world.j1 R k1 ⟨gj, 0, none⟩ ⟨gt, 0, none⟩ ⟨gw, 0, none⟩ e fr ((fr.len : Nat) : Int) (i : Int) false w' := by
      unfold culletlaw24_world.j1
      rw [wrap64 (by omega) (by omega), show (i : Int) + 1 = ((i + 1 : Nat) : Int) by omega]
      exact Cd_f (hk1 _ _ ⟨i + 1, rfl, by omega, rfl⟩ (by dsimp only; omega))
    cases hp : pPres ps i with
    | true => exact Pu_eqnil tPS (Cd_f nxt)
    | false =>
      refine Pu_eqnil tPS (Cd_t ?_)
      refine Rd_has (c := .sl) (x := pp) (hS16.has q6) (by kernel_rfl) rfl ?_
      refine Pu_idxA hPA (t := 27) (e := 71) (by kernel_rfl) (by kernel_rfl) (by omega) (by omega) fun a2 x2 hx2 hc2 _ => ?_
      rw [Int.toNat_natCast] at hx2
      have hn : x2.2.2.2.2.1 = true := by
        have := getD_of (d := pipe0) hx2
        unfold pPres at hp
        rw [this] at hp
        simpa using hp
      refine Rd_one (c := .bool) (x := x2.2.2.2.2.1) (by kernel_rfl) (hc2 4 _ rfl) ?_
      rw [show (x2.2.2.2.2.1 : Bool) = true from hn]
      exact nxt
  · refine Rd_has (c := .sl) (x := into) hB16 (by kernel_rfl) rfl ?_
    unfold culletlaw24_world.l2
    refine loopW_of (fun s w2 => ∃ i : Nat, s = ((⟨gj, 0, none⟩ : Addr), (⟨gt, 0, none⟩ : Addr), (⟨gw, 0, none⟩ : Addr), e, into, ((into.len : Nat) : Int), (i : Int), ()) ∧ i ≤ ts.length ∧ w2 = w') (fun s _ => ((ts.length : Int) - s.2.2.2.2.2.2.1).toNat) ?_ ⟨0, rfl, Nat.zero_le _, rfl⟩
    rintro k2 _ w2 ⟨i, rfl, hi, rfl⟩ hk2
    unfold culletlaw24_world.b2
    dsimp only at hk2 ⊢
    refine Cd_dec (fun hlt => ?_) (fun hge => ?_)
    · have hlt : i < ts.length := by omega
      refine Pu_idx (hS16.rds q2) tLPK (by kernel_rfl) (by omega) (by rw [ptrs_len]; omega) fun a x hx hcl _ => ?_
      rw [Int.toNat_natCast, ptrs_get hlt] at hx
      obtain rfl := (Option.some.inj hx).symm
      rw [ptrV_eq] at hcl
      refine Rd_one (c := .ptr) (x := (if tPres ts i then some (gd i) else none).map fun g => ⟨g, 0, none⟩) (by kernel_rfl) hcl ?_
      have nxt : culletlaw24_world.j2 R k2 ⟨gj, 0, none⟩ ⟨gt, 0, none⟩ ⟨gw, 0, none⟩ e into ((into.len : Nat) : Int) (i : Int) false w2 := by
        unfold culletlaw24_world.j2
        rw [wrap64 (by omega) (by omega), show (i : Int) + 1 = ((i + 1 : Nat) : Int) by omega]
        exact Cd_f (hk2 _ _ ⟨i + 1, rfl, by omega, rfl⟩ (by dsimp only; omega))
      cases hp : tPres ts i with
      | true => exact Pu_eqnil tPK (Cd_f nxt)
      | false =>
        refine Pu_eqnil tPK (Cd_t ?_)
        refine Rd_has (c := .sl) (x := tp) (hS16.has q6) (by kernel_rfl) rfl ?_
        refine Pu_idxA hTA (t := 28) (e := 62) (by kernel_rfl) (by kernel_rfl) (by omega) (by omega) fun a2 x2 hx2 hc2 _ => ?_
        rw [Int.toNat_natCast] at hx2
        have hn : x2.2.2.1 = true := by
          have := getD_of (d := tap0) hx2
          unfold tPres at hp
          rw [this] at hp
          simpa using hp
        refine Rd_one (c := .bool) (x := x2.2.2.1) (by kernel_rfl) (hc2 2 _ rfl) ?_
        rw [show (x2.2.2.1 : Bool) = true from hn]
        exact nxt
    · have hBd := hB16.ex (Ex.drew w2)
      have hSd := hS16.exx (Ex.drew w2)
      have hne : gw ≠ gt := by
        obtain ⟨F, G, hF, hG, hFG⟩ := Sep.apart hS16 (k := .bx 8) (j := .bx 7) (by simp)
        rw [q8] at hF
        rw [q7] at hG
        exact fun e => hFG gw hF.2 (e ▸ hG.2)
      refine Held_of (fun v => Has v gw (wldV (pe.map fun g => ⟨g, 0, none⟩) made c fr into sr ds) 44) hBd ?_
      refine RdS_hasN (l := wldAts) (x := mkW (pe.map fun g => ⟨g, 0, none⟩) made c fr into sr ds) (fun _ h => h) (by kernel_rfl) rfl ?_
      refine RdS_has (c := .ptr) (x := pe.map fun g => ⟨g, 0, none⟩) (fun _ h => h) (by kernel_rfl) rfl ?_
      refine Pu_nenil tEn ?_
      refine RdS_has (c := .bool) (x := made) (fun _ h => h) (by kernel_rfl) rfl ?_
      have hps : (Option.map (fun g => (⟨g, 0, none⟩ : Addr)) pe).isSome = made := by rw [Option.isSome_map]; exact hpe.1
      rw [hps]
      have hmm : (made == made) = true := by simp
      refine Cd_of (fun _ => ?_) (fun h => by rw [hmm] at h; cases h)
      refine RdS_has (c := .bool) (x := made) (fun _ h => h) (by kernel_rfl) rfl ?_
      refine Wu_all (ds := wldV (pe.map fun g => ⟨g, 0, none⟩) made c fr into sr ds) (hSd.has q7) (by kernel_rfl) (wld_one _ _ _ _ _ _ _) rfl fun w3 hB3 hm3 => ?_
      refine ⟨hBd.mo hm3 hne, mkW (pe.map fun g => ⟨g, 0, none⟩) made c fr into sr ds, run_loadVar_has hB3 (by kernel_rfl), ?_⟩
      rw [hpe.2, hmm]
      exact ret w3 (hSd.cel q7 hB3 hm3)
end Go.Proofs.YtmmejgneelkhkaaDoor
