/- StreamJoins answers true where what it reads is small. -/
import Derived.Test.YtmmejgneelkhkaaDoorSjE
set_option linter.all false
namespace Go.Proofs.YtmmejgneelkhkaaDoor
open Go Go.Cu Go.RowKit
set_option linter.unusedVariables false
set_option maxHeartbeats 4000000
set_option maxRecDepth 100000
def tap1 (ts : List TapT) : List TapT := if ts.length = 0 then [tap0] else ts.take 1
theorem tap1_one (ts : List TapT) : ∃ t, tap1 ts = [t] ∧ (t = tap0 ∨ ts[0]? = some t) := by
  match ts with
  | [] => exact ⟨tap0, rfl, .inl rfl⟩
  | t :: ts => exact ⟨t, rfl, .inr rfl⟩
theorem joins_gv {W : World} {ea : Addr} {f b k m wo st ca : Int} {sc : Bool} {pk : Sl} {block : Int} {pp tp : Sl} {size times : Int} {l : List Int} {ps : List PipeT} {ts : List TapT} {dat chk : Nat → List Int}
    (he : EndIs W ea) (hpk : Rds i64v W pk l) (hl : l.length * 8 ≤ 140737488351232) (hP : RdA pipeAts W pp ps) (hPn : ps.length ≤ 1048576) (hT : RdA tapAts W tp ts)
    (hps : PipesOk W ps dat chk) (hdat : ∀ (i : Nat) (p : PipeT), ps[i]? = some p → (dat i).length ≤ 1048576) (htap : ∀ (i : Nat) (t : TapT), ts[i]? = some t → i64P t.1) (hsize : i64P size) :
    Gv Tryd.prog 4 #[.agg (jobV f b k m wo st ca sc pk block pp tp size times).toArray] (.bool true) W := by
  refine culletlaw24_StreamJoins.run _ (mkJ f b k m wo st ca sc pk block pp tp size times) W ?_
  unfold culletlaw24_StreamJoins.M
  refine Wr_box fun w1 hB1 hx1 => ?_
  have hB1' : Has w1 W.heap.size (jobV f b k m wo st ca sc pk block pp tp size times) 30 := hB1
  refine Rd_has (c := .sl) (x := tp) hB1' (by kernel_rfl) rfl ?_
  have hTl := hT.1
  have hne1 := hB1'.lt
  generalize hgj : W.heap.size = gj at hB1' hne1 ⊢
  have j1f : ∀ (w2 : World) (p2 : Sl) (l2 : List TapT), Has w2 gj (jobV f b k m wo st ca sc pk block pp p2 size times) 30 → RdA tapAts w2 p2 l2 → 1 ≤ l2.length → l2.take 1 = tap1 ts → (∀ a, p2.base = some a → a.block ≠ gj) → Ex W w2 →
      culletlaw24_StreamJoins.j1 (fun e w' => e = Ending.returned (.bool true) ∧ Ex W w') ⟨gj, 0, none⟩ w2 := by
    intro w2 p2 l2 hB2 hA2 hl2 htk hblk hx02
    unfold culletlaw24_StreamJoins.j1
    refine Rd_has (c := .sl) (x := p2) hB2 (by kernel_rfl) rfl ?_
    refine Pu_takeR (n := 1) hA2 hl2 (by kernel_rfl : Tryd.prog.underlying 28 = some (.slice 62)) (by kernel_rfl) fun p4 hA4 hb4 => ?_
    rw [htk] at hA4
    have hp4 : ∀ a, p4.base = some a → a.block ≠ gj := by
      intro a ha
      obtain ⟨b, hb, e⟩ := hb4 a ha
      rw [e]
      exact hblk b hb
    refine Wu_cell (ds := jobV f b k m wo st ca sc pk block pp p4 size times) hB2 (by kernel_rfl) rfl rfl (by simp) rfl fun w3 hB3 hm3 => ?_
    have hA3 := hA4.mo hm3 (fun a ha => hp4 a ha)
    have hx03 : Ex W w3 := hx02.into hm3 (fun i hi => Nat.le_of_eq (hgj.trans (Eq.symm hi)))
    obtain ⟨t0, ht0, htor⟩ := tap1_one ts
    rw [ht0] at hA3
    have ht64 : i64P t0.1 := by
      rcases htor with rfl | h
      · decide
      · exact htap 0 t0 h
    refine Rd_hasN (l := jobAts) (x := mkJ f b k m wo st ca sc pk block pp p4 size times) hB3 (by kernel_rfl) rfl ?_
    refine Cl_mono (world_ok (f := f) (b := b) (k := k) (m := m) (wo := wo) (st := st) (ca := ca) (sc := sc) (pk := pk) (block := block) (pp := pp) (tp := p4) (size := size) (times := times) (ps := ps) (ts := [t0]) (dat := dat) (chk := chk) (Sep.init w3) (hpk.ex hx03) (by omega) (hP.ex hx03) (by omega) hA3 (by simp) (fun i p hi => ?_)) ?_
    · exact ⟨(hps.rd i p hi).ex hx03, (hps.rc i p hi).ex hx03, Nat.le_trans (hps.dlen i p hi) (by decide), Nat.le_trans (hps.clen i p hi) (by decide)⟩
    rintro _ w4 ⟨pe, c, fr, into, sr, ds, gs, gr, gd, gk, bs, bd, dP, cP, T4, rfl, hS4, hc, hE4, hJ4⟩
    refine Wr_alloc zWld fun w5 hB5 hx5 => ?_
    refine Wu_all (ds := wldV (pe.map fun g => ⟨g, 0, none⟩) (okOpt f b k m wo st ca) c fr into sr ds) hB5 (by kernel_rfl) (wld_one _ _ _ _ _ _ _) rfl fun w6 hB6 hm6 => ?_
    have hx46 : Ex w4 w6 := hx5.into hm6 (fun i hi => Nat.le_of_eq (Eq.symm hi))
    have hS6 := hS4.box (.bx 5) hx46 hB6
    generalize w4.heap.size = gw at hS6 ⊢
    have he3 : EndIs w3 ea := hx03.cell he
    refine Cl_gv (d := .one (.at .bool)) (x := true) (fixed_gv (sep_end hS6 he3)) fun w7 hx7 => ?_
    have hS7 := hS6.exx hx7
    refine Cd_f ?_
    unfold culletlaw24_StreamJoins.j2
    refine Cd_f ?_
    refine Rd_hasN (l := jobAts) (x := mkJ f b k m wo st ca sc pk block pp p4 size times) (sep_oldHas hS7 hB3) (by kernel_rfl) rfl ?_
    refine Cl_mono (times_ok f b k m wo st ca sc pk block pp p4 size times w7) ?_
    rintro _ w8 ⟨⟨nt, hnt, rfl⟩, hx8⟩
    have hS8 := hS7.exx hx8
    have o4 : ∀ (i : Ky) (t : Th), i ≠ .bx 5 → (T4.up (.bx 5) t) i = T4 i := fun i t h => Ths.up_ne _ _ h
    obtain ⟨pk', tr, hE⟩ : ∃ pk' tr, (okOpt f b k m wo st ca = true ∧ paramsF f k m = 0 ∧ ∃ ge, pe = some ge ∧ T4 (.bx 4) = Eng ge f b k m wo st ca sc pk' l tr) ∨ (okOpt f b k m wo st ca = false ∧ pe = none) := by
      rcases hE4 with ⟨h1, ge, pk', tr, h2, h3⟩ | ⟨h1, h2⟩
      · exact ⟨pk', tr, .inl ⟨h1, (of_decide_eq_true h1).2.1, ge, h2, h3⟩⟩
      · exact ⟨⟨none, 0, 0⟩, none, .inr ⟨h1, h2⟩⟩
    have pget : ∀ i, i < ps.length → ps[i]? = some (ps.getD i pipe0) := fun i hi => by rw [List.getD_eq_getElem?_getD, List.getElem?_eq_getElem hi]; rfl
    refine joins_loop (ge := 0) (pk' := pk') (tr := tr) (n := ps.length) (made := okOpt f b k m wo st ca) (l := l) (dR := fun i => (ps.getD i pipe0).1) (cR := fun i => (ps.getD i pipe0).2.1) (s0 := fun i => src0 (dat i) (chk i) (ps.getD i pipe0).2.2.1) (t0 := ⟨t0.1, []⟩) (presS := pPres ps) (pres := tPres [t0]) (gs := gs) (gr := gr) (gd := gd) (gk := gk) (bs := bs) (bd := bd) (dP := dP) (cP := cP) (pe := pe) (ea := ea)
      hx03 he3 hB3 hS8 ?_ (Ths.up_same _ _ _) (by rw [o4 _ _ (by simp)]; exact hE) (by omega) hc hnt hPn hsize.2 ?_ ?_ ?_ ?_
    · refine ⟨(o4 _ _ (by simp)).trans hJ4.fr, (o4 _ _ (by simp)).trans hJ4.sr, (o4 _ _ (by simp)).trans hJ4.into, (o4 _ _ (by simp)).trans hJ4.ds, fun i hi hp => (o4 _ _ (by simp)).trans (hJ4.ps i hi hp), fun i hi hp => (o4 _ _ (by simp)).trans (hJ4.rs i hi hp), fun i hi hp => ?_, fun i hi hp => ?_⟩
      · obtain rfl : i = 0 := by omega
        exact (o4 _ _ (by simp)).trans (hJ4.pk 0 hi hp)
      · obtain rfl : i = 0 := by omega
        exact (o4 _ _ (by simp)).trans (hJ4.rk 0 hi hp)
    · intro i hi _
      exact (hps.rd i _ (pget i hi)).ex hx03
    · intro i hi _
      exact (hps.rc i _ (pget i hi)).ex hx03
    · intro i hi
      have hg := pget i hi
      exact ⟨⟨Nat.zero_le _, fun h => h, hps.f64 i _ hg, hps.c64 i _ hg, hps.dlen i _ hg, Nat.le_trans (by omega : (chk i).length ≤ (chk i).length * 8) (hps.clen i _ hg)⟩, hdat i _ hg, rfl⟩
    · exact ⟨⟨fun h => h, ht64⟩, rfl⟩
  refine Cd_eq (fun h0 => ?_) (fun h0 => ?_)
  · have htl : ts.length = 0 := by omega
    refine Wr_litA (ats := tapAts) (e := 62) (base := w1.heap.size) [tap0] (by kernel_rfl) (Nat.le_refl _) (by simp) fun p3 w3 ho3 hx3 _ => ?_
    have hnb : ∀ x, SlIn p3 x → x ≠ gj := fun x hx => by
      have h1 := (ho3.base x hx).1
      omega
    refine Wu_cell (ds := jobV f b k m wo st ca sc pk block pp p3 size times) (hB1'.ex hx3) (by kernel_rfl) rfl rfl (by simp) rfl fun w4 hB4 hm4 => ?_
    refine j1f w4 p3 [tap0] hB4 (ho3.mo hm4 (fun x hx => hnb x hx)).rda (by simp) (by unfold tap1; rw [if_pos htl]; rfl) (fun a ha => hnb _ (slin_of ha)) ?_
    exact (hx1.trans hx3).into hm4 (fun i hi => Nat.le_of_eq (hgj.trans (Eq.symm hi)))
  · have htl : ts.length ≠ 0 := by omega
    refine j1f w1 tp ts hB1' (hT.ex hx1) (by omega) (by unfold tap1; rw [if_neg htl]) (fun a ha => ?_) hx1
    have := rdA_lt hT ha htl (by simp)
    omega
end Go.Proofs.YtmmejgneelkhkaaDoor
