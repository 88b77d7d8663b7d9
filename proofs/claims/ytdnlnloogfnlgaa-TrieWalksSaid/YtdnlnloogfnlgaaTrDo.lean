/- A step of a script: a Put, a Get or a Drop. -/
import Derived.Test.YtdnlnloogfnlgaaTrVa
import Derived.Test.YtdnlnloogfnlgaaGrowLib
set_option linter.all false
namespace Go.Proofs.Ytdnlnloogfnlgaa
open Go Go.Cu Go.RowKit
set_option linter.unusedVariables false
set_option maxHeartbeats 4000000
theorem done_ok {w : World} {own : Nat → Prop} {tb : Nat} {lim clock : Int} {es : List Ent} (hst : TrieSt w own tb lim es clock) (hc : clock < 4611686018427387904) (o : OpK) (hop : OpOk w o) :
    Calls Try.prog 28 #[.pointer (some ⟨tb, 0, none⟩), .agg (encAts oAts o.o).toArray] w fun en w' => en = .returned (.tuple #[]) ∧ w.heap.size ≤ w'.heap.size ∧ Mo own w w' ∧ ∃ own' es' clock', (∀ b, own' b → own b ∨ w.heap.size ≤ b) ∧ TrieSt w' own' tb lim es' clock' ∧ clock' ≤ clock + 1 := by
  refine culletlaw12_done.run _ _ o.o w ?_
  unfold culletlaw12_done.M
  refine Wr_box fun w1 hB1 hx1 => ?_
  have hB1 : Has w1 w.heap.size (opV o.o) 32 := hB1
  refine Rd_has (c := .sl) (x := o.o.2.2.1) hB1 (by kernel_rfl) rfl ?_
  have hst1 := hst.ex hx1
  obtain ⟨p1, p2, p3, p4⟩ := hop.ex hx1
  refine Cl_sl (copyKey_sl o.o.2.2.1 o.key w1 p1 p2) fun s2 w2 ho2 hx2 => ?_
  have hkb : ∀ b, SlIn s2 b → ¬ own b := fun b hb ho => by have := (ho2.base b hb).1; have := hst1.ownL _ ho; omega
  have hst2 := hst1.ex hx2
  have hx02 := hx1.trans hx2
  have hB2 := hB1.ex hx2
  have e0 : ∀ {w' : World}, Ex w w' → w.heap.size ≤ w'.heap.size ∧ Mo own w w' := fun hx => ⟨hx.size, hx.weak (fun _ _ h => h.elim)⟩
  refine Rd_has (c := .int .i64) (x := o.o.1) hB2 (by kernel_rfl) rfl ?_
  refine Cd_eq (fun _ => ?_) (fun _ => Cd_eq (fun _ => ?_) (fun _ => Cd_eq (fun _ => ?_) (fun _ => ?_)))
  · refine Rd_has (c := .sl) (x := o.o.2.2.2.1) hB2 (by kernel_rfl) rfl ?_
    refine Cl_of (copyValue_nest o.o.2.2.2.1 o.val _ w2 (p3.ex hx2) p4) ?_
    rintro en w3 ⟨s3, rfl, hn3, hx3⟩
    refine ⟨s3, rfl, ?_⟩
    have hst3 := hst2.ex hx3
    have hx03 := hx02.trans hx3
    refine Cl_of (put_ok hst3 hc s2 s3 o.key o.val (ho2.ex hx3).rds (by omega) (fun a ha ho => hkb _ (slin_of ha) ho) hn3.nest (fun b hb ho => by have := hb.1; have := hst2.ownL _ ho; omega) p4) ?_
    rintro en w4 (⟨_, rfl, hx4⟩ | ⟨_, rfl, own2, b1, b2, hst4, hmo4⟩)
    · exact ⟨(120 : Int), rfl, rfl, (e0 (hx03.trans hx4)).1, (e0 (hx03.trans hx4)).2, own, es, clock, fun b hb => .inl hb, hst3.ex hx4, by omega⟩
    · exact ⟨(0 : Int), rfl, rfl, by have := hx03.size; have := hmo4.size; omega, hx03.mo hmo4, own2, _, _, fun b hb => (b2 b hb).imp id (fun h => by have := hx03.size; omega), hst4, by omega⟩
  · refine Cl_of (get_ok hst2 s2 o.key ho2.rds (by omega) (by omega)) ?_
    rintro en w4 (⟨_, rfl, hx4⟩ | ⟨v, hv, ⟨s6, rfl, _⟩, hst4, hmo4⟩)
    · exact ⟨(nilS, false, ()), rfl, rfl, (e0 (hx02.trans hx4)).1, (e0 (hx02.trans hx4)).2, own, es, clock, fun b hb => .inl hb, hst2.ex hx4, by omega⟩
    · exact ⟨(s6, true, ()), rfl, rfl, by have := hx02.size; have := hmo4.size; omega, hx02.mo hmo4, own, _, _, fun b hb => .inl hb, hst4, by omega⟩
  · refine Cl_of (drop_ok hst2 s2 o.key ho2.rds (by omega) (fun a ha ho => hkb _ (slin_of ha) ho)) ?_
    rintro en w4 (⟨_, rfl, hx4⟩ | ⟨v, hv, rfl, hst4, hmo4⟩)
    · exact ⟨false, rfl, rfl, (e0 (hx02.trans hx4)).1, (e0 (hx02.trans hx4)).2, own, es, clock, fun b hb => .inl hb, hst2.ex hx4, by omega⟩
    · exact ⟨true, rfl, rfl, by have := hx02.size; have := hmo4.size; omega, hx02.mo hmo4, own, _, _, fun b hb => .inl hb, hst4, by omega⟩
  · exact ⟨rfl, (e0 hx02).1, (e0 hx02).2, own, es, clock, fun b hb => .inl hb, hst2, by omega⟩
theorem load_op {w : World} {b : Nat} {x : OpT} (h : Has w b (opV x) 32) : ∀ (j : Nat) v, (encAts oAts x)[j]? = some v → w.cell? ((⟨b, 0, none⟩ : Addr).add j) = some v := fun j v hj => by
  rw [add_lit, h.cell]; exact hj
end Go.Proofs.Ytdnlnloogfnlgaa
