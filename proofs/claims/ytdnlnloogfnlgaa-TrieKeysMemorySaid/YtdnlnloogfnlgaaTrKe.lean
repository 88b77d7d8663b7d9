/- culletlaw12.TrieKeysMemory: the law's walk. -/
import Derived.Test.YtdnlnloogfnlgaaTrKd
import Derived.Test.YtdnlnloogfnlgaaTrGa
set_option linter.all false
namespace Go.Proofs.Ytdnlnloogfnlgaa
open Go Go.Cu Go.RowKit
set_option linter.unusedVariables false
set_option maxHeartbeats 4000000
theorem done_ok {w : World} {own : Nat → Prop} {tb : Nat} {lim clock : Int} {es : List Ent} (hst : TrieSt w own tb lim es clock) (hc : clock < 4611686018427387904) (o : OpK) (hop : OpOk w o) :
    Calls Try.prog 28 #[.pointer (some ⟨tb, 0, none⟩), .agg (encAts oAts o.o).toArray] w fun en w' => en = .returned (.tuple #[]) ∧ w.heap.size ≤ w'.heap.size ∧ Mo own w w' ∧ ∃ own' es' clock', (∀ b, own' b → own b ∨ w.heap.size ≤ b) ∧ TrieSt w' own' tb lim es' clock' ∧ clock' ≤ clock + 1 := by
  refine culletlaw12_done.run _ _ o.o w ?_
  unfold culletlaw12_done.M
  refine Wr_box fun w1 hB1 hx1 => ?_
  have hB1 : Has w1 w.heap.size (opV o.o) 32 := hB1
  refine Rd_has (c := .sl) (x := o.o.2.2.1) hB1 (by kernel_rfl) rfl ?_
  have hst1 := hst.ex hx1
  obtain ⟨p1, p2, p3, p4⟩ := hop.ex hx1
  refine Cl_sl (copyKey_sl o.o.2.2.1 o.key w1 p1 p2) fun s2 w2 ho2 hx2 => ?_
  have hkb : ∀ b, SlIn s2 b → ¬ own b := fun b hb ho => by have := (ho2.base b hb).1; have := hst1.ownL _ ho; omega
  have hst2 := hst1.ex hx2
  have hx02 := hx1.trans hx2
  have hB2 := hB1.ex hx2
  have e0 : ∀ {w' : World}, Ex w w' → w.heap.size ≤ w'.heap.size ∧ Mo own w w' := fun hx => ⟨hx.size, hx.weak (fun _ _ h => h.elim)⟩
  refine Rd_has (c := .int .i64) (x := o.o.1) hB2 (by kernel_rfl) rfl ?_
  refine Cd_eq (fun _ => ?_) (fun _ => Cd_eq (fun _ => ?_) (fun _ => Cd_eq (fun _ => ?_) (fun _ => ?_)))
  · refine Rd_has (c := .sl) (x := o.o.2.2.2.1) hB2 (by kernel_rfl) rfl ?_
    refine Cl_of (copyValue_nest o.o.2.2.2.1 o.val _ w2 (p3.ex hx2) p4) ?_
    rintro en w3 ⟨s3, rfl, hn3, hx3⟩
    refine ⟨s3, rfl, ?_⟩
    have hst3 := hst2.ex hx3
    have hx03 := hx02.trans hx3
    refine Cl_of (put_ok hst3 hc s2 s3 o.key o.val (ho2.ex hx3).rds (by omega) (fun a ha ho => hkb _ (slin_of ha) ho) hn3.nest (fun b hb ho => by have := hb.1; have := hst2.ownL _ ho; omega) p4) ?_
    rintro en w4 (⟨_, rfl, hx4⟩ | ⟨_, rfl, own2, b1, b2, hst4, hmo4⟩)
    · exact ⟨(120 : Int), rfl, rfl, (e0 (hx03.trans hx4)).1, (e0 (hx03.trans hx4)).2, own, es, clock, fun b hb => .inl hb, hst3.ex hx4, by omega⟩
    · exact ⟨(0 : Int), rfl, rfl, by have := hx03.size; have := hmo4.size; omega, hx03.mo hmo4, own2, _, _, fun b hb => (b2 b hb).imp id (fun h => by have := hx03.size; omega), hst4, by omega⟩
  · refine Cl_of (get_ok hst2 s2 o.key ho2.rds (by omega) (by omega)) ?_
    rintro en w4 (⟨_, rfl, hx4⟩ | ⟨v, hv, ⟨s6, rfl, _⟩, hst4, hmo4⟩)
    · exact ⟨(nilS, false, ()), rfl, rfl, (e0 (hx02.trans hx4)).1, (e0 (hx02.trans hx4)).2, own, es, clock, fun b hb => .inl hb, hst2.ex hx4, by omega⟩
    · exact ⟨(s6, true, ()), rfl, rfl, by have := hx02.size; have := hmo4.size; omega, hx02.mo hmo4, own, _, _, fun b hb => .inl hb, hst4, by omega⟩
  · refine Cl_of (drop_ok hst2 s2 o.key ho2.rds (by omega) (fun a ha ho => hkb _ (slin_of ha) ho)) ?_
    rintro en w4 (⟨_, rfl, hx4⟩ | ⟨v, hv, rfl, hst4, hmo4⟩)
    · exact ⟨false, rfl, rfl, (e0 (hx02.trans hx4)).1, (e0 (hx02.trans hx4)).2, own, es, clock, fun b hb => .inl hb, hst2.ex hx4, by omega⟩
    · exact ⟨true, rfl, rfl, by have := hx02.size; have := hmo4.size; omega, hx02.mo hmo4, own, _, _, fun b hb => .inl hb, hst4, by omega⟩
  · exact ⟨rfl, (e0 hx02).1, (e0 hx02).2, own, es, clock, fun b hb => .inl hb, hst2, by omega⟩
theorem copiedKeys_ok (s : Sl) (ls : List (List Int)) (F : Nat → Prop) (w : World) (hr : Nest i64v F w s ls) (hl : ls.length ≤ 1024 ∧ ∀ l ∈ ls, l.length ≤ 300) :
    Calls Try.prog 30 #[slv s] w fun en w' => ∃ s', en = .returned (slv s') ∧ NestOwn i64v 3 29 w.heap.size w' s' ls ∧ Ex w w' := by
  have h1 := nest_len hr
  obtain ⟨ss0, r1, r2, r3, r4⟩ := hr
  have hl1 := hl.1
  refine culletlaw12_copiedKeys.run _ s w ?_
  unfold culletlaw12_copiedKeys.M culletlaw12_copiedKeys.l1
  rw [h1]
  refine loopW_of (fun st w' => Ex w w' ∧ st.2.1 = s ∧ st.2.2.1 = (ls.length : Int) ∧ ∃ i : Nat, i ≤ ls.length ∧ st.2.2.2.1 = (i : Int) ∧ NestOwn i64v 3 29 w.heap.size w' st.1 (ls.take i)) (fun st _ => ls.length - st.2.2.2.1.toNat) ?_
    ⟨Ex.refl w, rfl, rfl, 0, Nat.zero_le _, rfl, NestOwn.nil _ _ _ _ _⟩
  rintro k ⟨out, t', n', i', u⟩ w' hI hk
  dsimp only at hI hk ⊢
  obtain ⟨hx, rfl, rfl, i, hi, rfl, hno⟩ := hI
  unfold culletlaw12_copiedKeys.b1
  refine Cd_dec (fun h => ?_) (fun h => ?_)
  · refine Pu_idx (r1.ex hx) tII sII (by omega) (by omega) fun a x hx1 hc1 _ => ?_
    refine Rd_one (c := .sl) (x := x) oII hc1 ?_
    rw [Int.toNat_natCast] at hx1
    have hil : i < ls.length := by omega
    have hl1' : ls[i]? = some ls[i] := List.getElem?_eq_getElem hil
    have hrow := (r4 i x _ hx1 hl1').1
    have hrl := hl.2 ls[i] (List.getElem_mem hil)
    refine Cl_sl (copyKey_sl x ls[i] w' (hrow.ex hx) (by omega)) fun s2 w2 ho2 hx2 => ?_
    refine Wr_lit (f := slv) (e := 29) (base := w2.heap.size) [s2] (by kernel_rfl) (Nat.le_refl _) (by simp) fun s3 w3 ho3 hx3 _ => ?_
    obtain ⟨ss, o1, o2, o3, o4, o5⟩ := hno
    have hlt : (ls.take i).length = i := by rw [List.length_take]; omega
    refine Wr_append tII iII rfl (o1.ex (hx2.trans hx3)) ho3.rds (fun y => rfl) (by simp [o2]; omega) (by simp [o2]; omega) (Nat.le_trans hx.size (hx2.trans hx3).size) fun s4 w4 ho4 hm4 hin => ?_
    rw [wrap64 (x := (i : Int) + 1) (by omega) (by omega)]
    refine hk _ _ ⟨(hx.trans (hx2.trans hx3)).into hm4 (fun i hi => (o1.base i hi).1), rfl, rfl, i + 1, by omega, by simp, ?_⟩ (by simp only; omega)
    rw [List.take_add_one, hl1']
    exact NestOwn.snoc o1 o2 o3 o4 o5 (hx2.trans hx3) ((ho2.ex hx3).weak hx.size) (fun b hb => (ho2.base b hb).1) ho4 hm4 hin
  · have : i = ls.length := by omega
    subst this
    rw [List.take_length] at hno
    exact ⟨out, rfl, hno, hx⟩
theorem keys_rest {W w : World} {own F1 F2 : Nat → Prop} {tb : Nat} {lim clock : Int} {es : List Ent} {want order : Sl} {ks : List Path} (hx : Ex W w) (hst : TrieSt w own tb lim es clock) (hc : clock < 4611686018427387904) (hw : Nest i64v F1 w want (es.map (·.1))) (ho : Nest i64v F2 w order ks) (hku : KeysUnder es [] ks) :
    keysRest (fun en w' => en = .returned (.bool true) ∧ Ex W w') (some ⟨tb, 0, none⟩) want order w := by
  obtain ⟨hnd, h1, h2, h3, h4⟩ := hst.lens
  unfold keysRest
  have same : ∀ ks2, KeysUnder es [] ks2 → ks2 = ks := fun ks2 h => sorted_unique _ _ h.order hku.order fun x => by rw [h.mem, hku.mem]
  refine Cl_of (recent_ok hst hc) ?_
  rintro en w1 ⟨s1, rfl, hn1, hx1⟩
  refine ⟨s1, rfl, ?_⟩
  refine Cl_gv (d := .one (.at .bool)) (x := decide (es.map (·.1) = es.map (·.1))) (sameKeys_gv s1 want _ _ _ _ w1 hn1.nest (hw.ex hx1) ⟨by rw [List.length_map]; omega, fun k hk => by have := h4 k hk; omega⟩) fun w2 hx2 => ?_
  refine Cd_of (fun _ => ?_) (fun h => by simp at h)
  have hx12 := hx1.trans hx2
  refine Cl_of (gives_some (hst.ex hx12)) ?_
  rintro en w3 ⟨s3, ks3, rfl, hn3, hk3, hl3, hll3, hx3⟩
  refine ⟨s3, rfl, ?_⟩
  obtain rfl := same ks3 hk3
  have hle : RowsLe ks3 := ⟨by omega, fun k hk => by have := hll3 k hk; omega⟩
  have hx13 := hx12.trans hx3
  refine Cl_gv (d := .one (.at .bool)) (x := decide (ks3 = ks3)) (sameKeys_gv s3 order _ _ _ _ w3 hn3.nest (ho.ex hx13) hle) fun w4 hx4 => ?_
  refine Cd_of (fun _ => ?_) (fun h => by simp at h)
  have hx14 := hx13.trans hx4
  refine Cl_of (walked_ok (gives_some (hst.ex hx14))) ?_
  rintro en w5 ⟨s5, ks5, rfl, hn5, hk5, hl5, hll5, hx5⟩
  refine ⟨s5, rfl, ?_⟩
  obtain rfl := same ks5 hk5
  refine Cl_gv (d := .one (.at .bool)) (x := decide (ks5 = ks5)) (sameKeys_gv s5 order _ _ _ _ w5 hn5.nest (ho.ex (hx14.trans hx5)) hle) fun w6 hx6 => ?_
  exact ⟨by rw [decide_eq_true rfl], ((hx.trans hx14).trans hx5).trans hx6⟩
end Go.Proofs.Ytdnlnloogfnlgaa
