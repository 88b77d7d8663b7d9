/- StreamSplits answers true. -/
import Derived.Test.YtmmejgneelkhkaaDoorSpW
set_option linter.all false
namespace Go.Proofs.YtmmejgneelkhkaaDoor
open Go Go.Cu Go.RowKit
set_option linter.unusedVariables false
set_option maxHeartbeats 4000000
set_option maxRecDepth 100000
abbrev i64P (x : Int) : Prop := -9223372036854775808 ≤ x ∧ x ≤ 9223372036854775807
/-- what a list of pipes and its lists hold -/
structure PipesOk (W : World) (ps : List PipeT) (dat chk : Nat → List Int) : Prop where
  rd : ∀ (i : Nat) (p : PipeT), ps[i]? = some p → Rds b8 W p.1 (dat i)
  rc : ∀ (i : Nat) (p : PipeT), ps[i]? = some p → Rds i64v W p.2.1 (chk i)
  dlen : ∀ (i : Nat) (p : PipeT), ps[i]? = some p → (dat i).length ≤ 140737488351232
  clen : ∀ (i : Nat) (p : PipeT), ps[i]? = some p → (chk i).length * 8 ≤ 140737488351232
  c64 : ∀ (i : Nat) (p : PipeT), ps[i]? = some p → ∀ c ∈ chk i, i64P c
  f64 : ∀ (i : Nat) (p : PipeT), ps[i]? = some p → i64P p.2.2.1
theorem rdA_lt {ats : List At} {w : World} {s : Sl} {l : List (Ats ats)} {a : Addr} (h : RdA ats w s l) (ha : s.base = some a) (hn : l.length ≠ 0) (hz : ats ≠ []) : a.block < w.heap.size := by
  obtain ⟨a', ha', hc⟩ := h.2.2 0 _ (List.getElem?_eq_getElem (by omega))
  rw [ha] at ha'
  cases ha'
  have hl : (encAts ats (l[0]'(by omega)))[0]? = some ((encAts ats (l[0]'(by omega)))[0]'(by rw [encAts_len]; exact List.length_pos_iff.2 hz)) := List.getElem?_eq_getElem _
  have := World.block_lt_of_cell? _ _ (hc 0 _ hl)
  rw [Addr.add_block, Addr.add_block] at this
  exact this
theorem splits_gv {W : World} {ea : Addr} {f b k m wo st ca : Int} {sc : Bool} {pk : Sl} {block : Int} {pp tp : Sl} {size times : Int} {l : List Int} {ps : List PipeT} {ts : List TapT} {dat chk : Nat → List Int}
    (he : EndIs W ea) (hpk : Rds i64v W pk l) (hl : l.length * 8 ≤ 140737488351232) (hP : RdA pipeAts W pp ps) (hT : RdA tapAts W tp ts) (hTn : ts.length * 8 ≤ 140737488351232)
    (hps : PipesOk W ps dat chk) (htap : ∀ (i : Nat) (t : TapT), ts[i]? = some t → i64P t.1) :
    Gv Tryd.prog 3 #[.agg (jobV f b k m wo st ca sc pk block pp tp size times).toArray] (.bool true) W := by
  refine culletlaw24_StreamSplits.run _ (mkJ f b k m wo st ca sc pk block pp tp size times) W ?_
  unfold culletlaw24_StreamSplits.M
  refine Wr_box fun w1 hB1 hx1 => ?_
  have hB1' : Has w1 W.heap.size (jobV f b k m wo st ca sc pk block pp tp size times) 30 := hB1
  refine Rd_hasN (l := jobAts) (x := mkJ f b k m wo st ca sc pk block pp tp size times) hB1' (by kernel_rfl) rfl ?_
  refine Cl_mono (first_ok (ps := ps) (hP.ex hx1)) ?_
  rintro _ w2 ⟨⟨pp', rfl, hA2, hor⟩, hx2⟩
  refine Wu_all (ds := jobV f b k m wo st ca sc pk block pp' tp size times) (hB1'.ex hx2) (by kernel_rfl) (job_one _ _ _ _ _ _ _ _ _ _ _ _ _ _) rfl fun w3 hB3 hm3 => ?_
  have hx03 : Ex W w3 := (hx1.trans hx2).into hm3 (fun i hi => Nat.le_of_eq (Eq.symm hi))
  have hA3 : RdA pipeAts w3 pp' (take1 ps) := by
    refine hA2.mo hm3 (fun a ha => ?_)
    rcases hor a ha with ⟨hn, bb, hb, e⟩ | h
    · have := rdA_lt hP hb hn (by simp)
      omega
    · have := hB1'.lt
      omega
  have hgW : W.heap.size ≤ W.heap.size := Nat.le_refl _
  generalize hgj : W.heap.size = gj at hB3 ⊢
  obtain ⟨p0, d0, c0, hp0, hd0, hc0, hdl, hcl, hc64, hf64⟩ : ∃ (p0 : PipeT) (d0 c0 : List Int), take1 ps = [p0] ∧ Rds b8 w3 p0.1 d0 ∧ Rds i64v w3 p0.2.1 c0 ∧ d0.length ≤ 140737488351232 ∧ c0.length * 8 ≤ 140737488351232 ∧ (∀ c ∈ c0, i64P c) ∧ i64P p0.2.2.1 := by
    match ps, hps with
    | [], _ => exact ⟨pipe0, [], [], rfl, Rds.nil _ _, Rds.nil _ _, by simp, by simp, by simp, by decide⟩
    | p :: ps, hps => exact ⟨p, dat 0, chk 0, rfl, (hps.rd 0 p rfl).ex hx03, (hps.rc 0 p rfl).ex hx03, hps.dlen 0 p rfl, hps.clen 0 p rfl, hps.c64 0 p rfl, hps.f64 0 p rfl⟩
  rw [hp0] at hA3
  refine Rd_hasN (l := jobAts) (x := mkJ f b k m wo st ca sc pk block pp' tp size times) hB3 (by kernel_rfl) rfl ?_
  refine Cl_mono (world_ok (f := f) (b := b) (k := k) (m := m) (wo := wo) (st := st) (ca := ca) (sc := sc) (pk := pk) (block := block) (pp := pp') (tp := tp) (size := size) (times := times) (ps := [p0]) (ts := ts) (dat := fun _ => d0) (chk := fun _ => c0) (Sep.init w3) (hpk.ex hx03) (by omega) hA3 (by simp) (hT.ex hx03) (by omega) (fun i p hi => ?_)) ?_
  · match i, hi with
    | 0, hi => cases hi; exact ⟨hd0, hc0, by omega, by omega⟩
  rintro _ w4 ⟨pe, c, fr, into, sr, ds, gs, gr, gd, gk, bs, bd, dP, cP, T4, rfl, hS4, hc, hE4, hJ4⟩
  refine Wr_alloc zWld fun w5 hB5 hx5 => ?_
  refine Wu_all (ds := wldV (pe.map fun g => ⟨g, 0, none⟩) (okOpt f b k m wo st ca) c fr into sr ds) hB5 (by kernel_rfl) (wld_one _ _ _ _ _ _ _) rfl fun w6 hB6 hm6 => ?_
  have hx46 : Ex w4 w6 := hx5.into hm6 (fun i hi => Nat.le_of_eq (Eq.symm hi))
  have hS6 := hS4.box (.bx 5) hx46 hB6
  generalize w4.heap.size = gw at hS6 ⊢
  have he3 : EndIs w3 ea := hx03.cell he
  refine Cl_gv (d := .one (.at .bool)) (x := true) (fixed_gv (sep_end hS6 he3)) fun w7 hx7 => ?_
  have hS7 := hS6.exx hx7
  refine Cd_f ?_
  unfold culletlaw24_StreamSplits.j1
  refine Cd_f ?_
  refine Rd_hasN (l := jobAts) (x := mkJ f b k m wo st ca sc pk block pp' tp size times) (sep_oldHas hS7 hB3) (by kernel_rfl) rfl ?_
  refine Cl_mono (times_ok f b k m wo st ca sc pk block pp' tp size times w7) ?_
  rintro _ w8 ⟨⟨nt, hnt, rfl⟩, hx8⟩
  have hS8 := hS7.exx hx8
  have o4 : ∀ (i : Ky) (t : Th), i ≠ .bx 5 → (T4.up (.bx 5) t) i = T4 i := fun i t h => Ths.up_ne _ _ h
  obtain ⟨pk', tr, hE⟩ : ∃ pk' tr, (okOpt f b k m wo st ca = true ∧ paramsF f k m = 0 ∧ ∃ ge, pe = some ge ∧ T4 (.bx 4) = Eng ge f b k m wo st ca sc pk' l tr) ∨ (okOpt f b k m wo st ca = false ∧ pe = none) := by
    rcases hE4 with ⟨h1, ge, pk', tr, h2, h3⟩ | ⟨h1, h2⟩
    · exact ⟨pk', tr, .inl ⟨h1, (of_decide_eq_true h1).2.1, ge, h2, h3⟩⟩
    · exact ⟨⟨none, 0, 0⟩, none, .inr ⟨h1, h2⟩⟩
  refine splits_loop (ge := 0) (pk' := pk') (tr := tr) (n := ts.length) (made := okOpt f b k m wo st ca) (l := l) (dR := fun _ => p0.1) (cR := fun _ => p0.2.1) (s0 := src0 d0 c0 p0.2.2.1) (t0 := fun i => ⟨(ts.getD i tap0).1, []⟩) (presS := pPres [p0]) (pres := tPres ts) (gs := gs) (gr := gr) (gd := gd) (gk := gk) (bs := bs) (bd := bd) (dP := dP) (cP := cP) (pe := pe) (ea := ea)
    hx03 he3 hB3 hS8 ?_ (Ths.up_same _ _ _) (by rw [o4 _ _ (by simp)]; exact hE) (by omega) hc hnt (by omega) hd0 hc0 ?_ rfl ?_
  · refine ⟨(o4 _ _ (by simp)).trans hJ4.fr, (o4 _ _ (by simp)).trans hJ4.sr, (o4 _ _ (by simp)).trans hJ4.into, (o4 _ _ (by simp)).trans hJ4.ds, fun i hi hp => ?_, fun i hi hp => ?_, fun i hi hp => (o4 _ _ (by simp)).trans (hJ4.pk i hi hp), fun i hi hp => (o4 _ _ (by simp)).trans (hJ4.rk i hi hp)⟩
    · obtain rfl : i = 0 := by omega
      exact (o4 _ _ (by simp)).trans (hJ4.ps 0 hi hp)
    · obtain rfl : i = 0 := by omega
      exact (o4 _ _ (by simp)).trans (hJ4.rs 0 hi hp)
  · exact ⟨Nat.zero_le _, fun h => h, hf64, hc64, hdl, Nat.le_trans (by omega : c0.length ≤ c0.length * 8) hcl⟩
  · intro j hj
    have := htap j _ (List.getElem?_eq_getElem hj)
    refine ⟨⟨fun h => h, ?_⟩, rfl⟩
    dsimp only
    rw [List.getD_eq_getElem?_getD, List.getElem?_eq_getElem hj]
    exact this
end Go.Proofs.YtmmejgneelkhkaaDoor
