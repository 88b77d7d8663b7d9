/- TrieEldest: the eldest goes. -/
import Derived.Test.YtdnlnloogfnlgaaTrR
import Derived.Test.YtdnlnloogfnlgaaCb
set_option linter.all false
namespace Go.Proofs.Ytdnlnloogfnlgaa
open Go Go.Cu Go.RowKit
set_option linter.unusedVariables false
set_option maxHeartbeats 4000000
abbrev oAts : List At := [.int .i64, .int .i64, .sl, .sl]
abbrev OpT : Type := Ats oAts
/-- a step of a script, with its key and its value -/
structure OpK where
  o : OpT
  key : Path
  val : List (List Int)
abbrev opV (o : OpT) : List Value := [.int .i64 o.1, .int .i64 o.2.1, slv o.2.2.1, slv o.2.2.2.1]
def OpOk (w : World) (x : OpK) : Prop := Rds i64v w x.o.2.2.1 x.key ∧ x.key.length ≤ 17592186044000 ∧ Nest b8 (fun _ => True) w x.o.2.2.2.1 x.val ∧ RowsLe x.val
theorem OpOk.ex {w w' : World} {x : OpK} (h : OpOk w x) (k : Ex w w') : OpOk w' x := ⟨h.1.ex k, h.2.1, h.2.2.1.ex k, h.2.2.2⟩
def Script (w : World) (s : Sl) (os : List OpK) : Prop := RdA oAts w s (os.map (·.o)) ∧ (∀ x ∈ os, OpOk w x) ∧ os.length ≤ 2199023255552
theorem TrieSt.lens {w : World} {own : Nat → Prop} {tb : Nat} {lim clock : Int} {es : List Ent} (h : TrieSt w own tb lim es clock) : (es.map (·.1)).Nodup ∧ (es.length : Int) ≤ lim ∧ 1 ≤ lim ∧ lim ≤ 1024 ∧ ∀ k ∈ es.map (·.1), k.length ≤ 256 := by
  obtain ⟨v, ns, y, _, he⟩ := h
  refine ⟨he.nodup, he.room, he.lim1, he.lim2, fun k hk => ?_⟩
  obtain ⟨e, hee, rfl⟩ := List.mem_map.1 hk
  exact good_len (he.good e hee)
theorem keys_without (es : List Ent) (l : Path) : (without es l).map (·.1) = (es.map (·.1)).filter fun k => decide (k ≠ l) := by
  unfold without
  rw [List.filter_map]; rfl
/-- `want[:n]` -/
theorem Pu_take {α : Type} {f : α → Value} {t e : TypeId} {s : Sl} {l : List α} {ik : IntKind} {n : Nat} {k : Sl → World → Prop} {w : World} (hr : Rds f w s l) (ht : Try.prog.underlying t = some (.slice e)) (hs : sizeIs Try.prog e 1 = true) (hn : n ≤ l.length)
    (hk : ∀ s', Rds f w s' (l.take n) → k s' w) : Pu Try.prog (Instr.sliceAt t (.slice s.base s.len s.cap) none (some (.int ik (n : Int))) none) (.one (.at .sl)) k w := by
  have hl := hr.1
  have hc := hr.2.1
  refine ⟨⟨if s.cap = 0 then s.base else s.base.map (·.add 0), n - 0, s.cap - 0⟩, fun w' => ?_, hk _ ?_⟩
  · have := run_sliceAt (P := Try.prog) (s := s) (w := w') (l := 0) (h := n) (hi := some (.int ik (n : Int))) ht hs (.inl ⟨rfl, rfl⟩) (.inr ⟨ik, rfl⟩) (Nat.zero_le _) (by omega)
    rw [Nat.zero_mul] at this
    exact this
  · have := hr.slice (lo := 0) (hi := n) (Nat.zero_le _) hn
    rw [List.drop_zero] at this
    exact this
theorem eldest_j7 {R : Ending → World → Prop} {k1 : (Int × (Option Addr) × Sl × Int × Int × Unit) → World → Prop} {w : World} {own F : Nat → Prop} {tb : Nat} {lim clock : Int} {es : List Ent} {want t39 : Sl} {t40 t41 : Int} (hst : TrieSt w own tb lim es clock) (hc : clock < 4611686018427387904)
    (hw : Nest i64v F w want (es.map (·.1))) (hK : ∀ w', Ex w w' → k1 (lim, some ⟨tb, 0, none⟩, t39, t40, IntKind.wrap .i64 (t41 + 1), ()) w') :
    culletlaw12_TrieEldest.j7 R k1 lim (some ⟨tb, 0, none⟩) 0 want t39 t40 t41 w := by
  obtain ⟨hnd, h1, h2, h3, h4⟩ := hst.lens
  unfold culletlaw12_TrieEldest.j7
  refine Cd_f ?_
  refine Calls.mono (recent_ok hst hc) ?_
  rintro en w1 ⟨s1, rfl, hn1, hx1⟩
  refine ⟨s1, rfl, ?_⟩
  refine Cl_gv (sameKeys_gv s1 want _ _ _ _ w1 hn1.nest (hw.ex hx1) ⟨by rw [List.length_map]; omega, fun k hk => by have := h4 k hk; omega⟩) fun w2 hx2 => ?_
  unfold culletlaw12_TrieEldest.j8 culletlaw12_TrieEldest.j2
  refine Cd_not (fun hf => ?_) (fun ht => hK w2 (hx1.trans hx2))
  simp at hf
theorem nodup_take {α : Type} {L : List α} (h : L.Nodup) {n : Nat} {k : α} (hk : L[n]? = some k) : k ∉ L.take n := by
  intro hin
  obtain ⟨hn, he⟩ := List.getElem?_eq_some_iff.1 hk
  rw [← List.take_append_drop n L, List.nodup_append] at h
  exact h.2.2 k hin k (by rw [List.drop_eq_getElem_cons hn, he]; exact List.mem_cons_self) rfl
theorem eldest_l2 {R : Ending → World → Prop} {k1 : (Int × (Option Addr) × Sl × Int × Int × Unit) → World → Prop} {w0 w1 : World} {own F : Nat → Prop} {tb ob : Nat} {lim clock : Int} {es : List Ent} {l : Path} {os : List Path} {o : OpT} {row want old t39 : Sl} {t40 t41 : Int}
    (hst : TrieSt w0 own tb lim es clock) (hc : clock < 4611686018427387904) (hx1 : Ex w0 w1) (hrow : Rds i64v w0 row l) (hll : l.length ≤ 256) (hwant : Own slv 29 w0.heap.size w1 want [row]) (hold : Nest i64v F w0 old os) (hosl : os.length ≤ 1024) (hok : ∀ k ∈ os, k.length ≤ 256) (hnd : os.Nodup)
    (hop : Has w0 ob (opV o) 32) (hkey : Rds i64v w0 o.2.2.1 l) (he : es.map (·.1) = (l :: os.filter fun k => decide (k ≠ l)).take lim.toNat)
    (hK : ∀ w', Ex w0 w' → k1 (lim, some ⟨tb, 0, none⟩, t39, t40, IntKind.wrap .i64 (t41 + 1), ()) w') :
    culletlaw12_TrieEldest.l2 R k1 (lim, some ⟨tb, 0, none⟩, ⟨ob, 0, none⟩, 0, want, t39, t40, t41, old, ((old.len : Nat) : Int), 0, ()) w1 := by
  obtain ⟨_, _, hl1, hl2, _⟩ := hst.lens
  obtain ⟨n, rfl⟩ := Int.eq_ofNat_of_zero_le (a := lim) (by omega)
  rw [Int.toNat_natCast] at he
  have hlen := nest_len hold
  obtain ⟨ss, r1, r2, _, r4⟩ := hold
  unfold culletlaw12_TrieEldest.l2
  rw [hlen]
  refine loopW_of (fun st w' => Ex w0 w' ∧ st.1 = (n : Int) ∧ st.2.1 = some ⟨tb, 0, none⟩ ∧ st.2.2.1 = ⟨ob, 0, none⟩ ∧ st.2.2.2.1 = 0 ∧ st.2.2.2.2.2.1 = t39 ∧ st.2.2.2.2.2.2.1 = t40 ∧ st.2.2.2.2.2.2.2.1 = t41 ∧ st.2.2.2.2.2.2.2.2.1 = old ∧ st.2.2.2.2.2.2.2.2.2.1 = (os.length : Int) ∧
      ∃ i : Nat, i ≤ os.length ∧ st.2.2.2.2.2.2.2.2.2.2.1 = (i : Int) ∧ ∃ us : List Sl, Own slv 29 w0.heap.size w' st.2.2.2.2.1 us ∧ us.length = (l :: (os.take i).filter fun k => decide (k ≠ l)).length ∧
        ∀ (j : Nat) s' k, us[j]? = some s' → (l :: (os.take i).filter fun k => decide (k ≠ l))[j]? = some k → Rds i64v w0 s' k) (fun st _ => os.length - st.2.2.2.2.2.2.2.2.2.2.1.toNat) ?_
    ⟨hx1, rfl, rfl, rfl, rfl, rfl, rfl, rfl, rfl, rfl, 0, Nat.zero_le _, rfl, [row], hwant, rfl, fun j s' k hj hk => ?_⟩
  rotate_left
  · match j, hj, hk with
    | 0, hj, hk =>
      obtain rfl : row = s' := by simpa using hj
      obtain rfl : l = k := by simpa using hk
      exact hrow
    | j + 1, hj, hk => simp at hj
  rintro k ⟨a1, a2, a3, a4, wt, a5, a6, a7, a8, a9, i', u⟩ w' hI hk
  dsimp only at hI hk ⊢
  obtain ⟨hx, rfl, rfl, rfl, rfl, rfl, rfl, rfl, rfl, rfl, i, hi, rfl, us, ho, hul, hus⟩ := hI
  unfold culletlaw12_TrieEldest.b2
  refine Cd_dec (fun hlt => ?_) (fun hge => ?_)
  · have hio : i < os.length := by omega
    refine Pu_idx (r1.ex hx) tII sII (by omega) (by omega) fun a x hx1' hc1 _ => ?_
    refine Rd_one (c := .sl) (x := x) oII hc1 ?_
    rw [Int.toNat_natCast] at hx1'
    have hoi : os[i]? = some os[i] := List.getElem?_eq_getElem hio
    obtain ⟨hxr, _⟩ := r4 i x _ hx1' hoi
    refine Rd_has (c := .sl) (x := o.2.2.1) (hop.ex hx) (by kernel_rfl) rfl ?_
    refine Cl_gv (same_gv x o.2.2.1 os[i] l w' (hxr.ex hx) (hkey.ex hx) (by have := hok _ (List.getElem_mem hio); omega)) fun w2 hx2 => ?_
    have htk : os.take (i + 1) = os.take i ++ [os[i]] := by rw [List.take_add_one, hoi]; rfl
    have hlt' : us.length ≤ 1024 := by
      rw [hul, List.length_cons]
      have := List.length_filter_le (fun k => decide (k ≠ l)) (os.take i)
      rw [List.length_take] at this
      omega
    refine Cd_not (fun hf => ?_) (fun ht => ?_)
    · have hne := of_decide_eq_false hf
      refine Wr_lit (f := slv) (e := 29) (base := w2.heap.size) [x] (by kernel_rfl) (Nat.le_refl _) (by simp) fun s3 w3 ho3 hx3 _ => ?_
      have hx03 := (hx.trans hx2).trans hx3
      refine Wr_append tII iII rfl (ho.ex (hx2.trans hx3)) ho3.rds (fun y => rfl) (by simp; omega) (by simp; omega) hx03.size fun s4 w4 ho4 hm4 _ => ?_
      unfold culletlaw12_TrieEldest.j6
      rw [wrap64 (x := (i : Int) + 1) (by omega) (by omega)]
      have hfl : (os.take (i + 1)).filter (fun k => decide (k ≠ l)) = (os.take i).filter (fun k => decide (k ≠ l)) ++ [os[i]] := by
        rw [htk, List.filter_append]
        simp [hne]
      refine hk _ _ ⟨hx03.into hm4 (fun b hb => (ho.base b hb).1), rfl, rfl, rfl, rfl, rfl, rfl, rfl, rfl, rfl, i + 1, by omega, by simp, us ++ [x], ho4, ?_, fun j s' q hj hq => ?_⟩ (by simp only; omega)
      · rw [hfl]; simp [hul]
      · rw [hfl, ← List.cons_append] at hq
        rcases snoc_cases hj with ⟨hj', hjl⟩ | ⟨rfl, rfl⟩
        · rw [List.getElem?_append_left (by rw [← hul]; exact hjl)] at hq
          exact hus j s' q hj' hq
        · rw [hul, List.getElem?_append_right (Nat.le_refl _), Nat.sub_self] at hq
          obtain rfl : os[i] = q := by simpa using hq
          exact hxr
    · have heq := of_decide_eq_true ht
      unfold culletlaw12_TrieEldest.j6
      rw [wrap64 (x := (i : Int) + 1) (by omega) (by omega)]
      have hfl : (os.take (i + 1)).filter (fun k => decide (k ≠ l)) = (os.take i).filter (fun k => decide (k ≠ l)) := by
        rw [htk, List.filter_append]
        simp [heq]
      refine hk _ _ ⟨hx.trans hx2, rfl, rfl, rfl, rfl, rfl, rfl, rfl, rfl, rfl, i + 1, by omega, by simp, us, ho.ex hx2, ?_, ?_⟩ (by simp only; omega)
      · rw [hfl]; exact hul
      · rw [hfl]; exact hus
  · have hil : i = os.length := by omega
    subst hil
    rw [List.take_length] at hul hus
    generalize hL : (l :: os.filter fun k => decide (k ≠ l)) = L at he hul hus
    have hLn : L.Nodup := by
      rw [← hL, List.nodup_cons]
      exact ⟨fun h => by simp at h, hnd.sublist List.filter_sublist⟩
    have hLk : ∀ k ∈ L, k.length ≤ 256 := by
      intro k hk
      rw [← hL, List.mem_cons, List.mem_filter] at hk
      rcases hk with rfl | hk
      · exact hll
      · exact hok k hk.1
    have hwl := ho.1
    refine Cd_dec (fun hfull => ?_) (fun hfree => ?_)
    · refine Pu_idx ho.rds tII sII (by omega) (by omega) fun a x hx1' hc1 _ => ?_
      refine Rd_one (c := .sl) (x := x) oII hc1 ?_
      rw [Int.toNat_natCast] at hx1'
      obtain ⟨kq, hkq⟩ : ∃ kq, L[n]? = some kq := ⟨_, List.getElem?_eq_getElem (by omega)⟩
      have hkl := hLk kq (List.mem_of_getElem? hkq)
      refine Calls.mono (peek_ok (hst.ex hx) x kq ((hus n x kq hx1' hkq).ex hx) (by omega)) ?_
      rintro en w2 ⟨hx2, (⟨_, rfl⟩ | ⟨v, hv, _⟩)⟩
      · refine ⟨(nilS, false, ()), rfl, ?_⟩
        refine Cd_f ?_
        refine Pu_take (n := n) (ho.rds.ex hx2) tII sII (by omega) fun s3 hr3 => ?_
        refine eldest_j7 (F := fun _ => True) (hst.ex (hx.trans hx2)) hc ?_ (fun w3 hx3 => hK w3 ((hx.trans hx2).trans hx3))
        refine ⟨us.take n, hr3, by rw [he, List.length_take, List.length_take, hul], fun _ _ => trivial, fun j s' q hj hq => ⟨?_, fun _ _ => trivial⟩⟩
        rw [he] at hq
        rw [List.getElem?_take] at hj hq
        split at hj
        · rename_i hjn
          rw [if_pos hjn] at hq
          exact (hus j s' q hj hq).ex (hx.trans hx2)
        · cases hj
      · exfalso
        have : kq ∈ es.map (·.1) := List.mem_map.2 ⟨_, hv, rfl⟩
        rw [he] at this
        exact nodup_take hLn hkq this
    · refine eldest_j7 (F := fun _ => True) (hst.ex hx) hc ?_ (fun w3 hx3 => hK w3 (hx.trans hx3))
      rw [he, List.take_of_length_le (by omega)]
      exact ⟨us, ho.rds, hul, fun _ _ => trivial, fun j s' q hj hq => ⟨(hus j s' q hj hq).ex hx, fun _ _ => trivial⟩⟩
end Go.Proofs.Ytdnlnloogfnlgaa
/- TrieEldest: the law's walk. -/
namespace Go.Proofs.Ytdnlnloogfnlgaa
open Go Go.Cu Go.RowKit
set_option linter.unusedVariables false
set_option maxHeartbeats 4000000
theorem tOps : Try.prog.underlying 22 = some (.slice 32) := by kernel_rfl
theorem op_one (o : OpT) : ∀ u ∈ (Value.agg (encAts oAts o).toArray).cells.toList, u.oneCell' = true := by
  intro u hu
  have hu : u ∈ encAts oAts o := hu
  simp only [oAts, encAts, List.mem_cons, List.not_mem_nil, or_false] at hu
  rcases hu with rfl | rfl | rfl | rfl <;> rfl
theorem keys_put (es : List Ent) (lim : Int) (l : Path) (v : List (List Int)) : (putE es lim l v).map (·.1) = (l :: (es.map (·.1)).filter fun k => decide (k ≠ l)).take lim.toNat := by
  unfold putE
  rw [List.map_take, List.map_cons, keys_without]
theorem eldest_put {R : Ending → World → Prop} {k1 : (Int × (Option Addr) × Sl × Int × Int × Unit) → World → Prop} {w w1 : World} {own : Nat → Prop} {tb ob B : Nat} {lim clock : Int} {es : List Ent} {x : OpK} {key t39 : Sl} {t40 t41 : Int}
    (hx : Ex w w1) (hown : ∀ b, own b → w.heap.size ≤ b) (hst : TrieSt w1 own tb lim es clock) (hc : clock < 4611686018427387900) (hop : OpOk w x) (hB : Has w1 ob (opV x.o) 32) (hob : ¬ own ob) (hkey : Own i64v 3 B w1 key x.key) (hkb : ∀ b, SlIn key b → ¬ own b)
    (hg : goodB x.key = true) (hK : ∀ w' own' es', Ex w w' → (∀ b, own' b → w.heap.size ≤ b) → TrieSt w' own' tb lim es' (clock + 1) → k1 (lim, some ⟨tb, 0, none⟩, t39, t40, IntKind.wrap .i64 (t41 + 1), ()) w') :
    culletlaw12_TrieEldest.j5 R k1 lim (some ⟨tb, 0, none⟩) ⟨ob, 0, none⟩ key t39 t40 t41 false w1 := by
  obtain ⟨h1, h2, h3, h4⟩ := hop
  have hll := good_len hg
  obtain ⟨e1, e2, e3, e4, e5⟩ := hst.lens
  unfold culletlaw12_TrieEldest.j5
  refine Cd_f ?_
  refine Calls.mono (recent_ok hst (by omega)) ?_
  rintro en w2 ⟨s2, rfl, hn2, hx2⟩
  refine ⟨s2, rfl, ?_⟩
  refine Rd_has (c := .sl) (x := x.o.2.2.2.1) (hB.ex hx2) (by kernel_rfl) rfl ?_
  refine Calls.mono (copyValue_nest x.o.2.2.2.1 x.val _ w2 (h3.ex (hx.trans hx2)) h4) ?_
  rintro en w3 ⟨s3, rfl, hn3, hx3⟩
  refine ⟨s3, rfl, ?_⟩
  have hx13 := hx2.trans hx3
  refine Calls.mono (put_ok (hst.ex hx13) (by omega) key s3 x.key x.val (hkey.ex hx13).rds (by omega) (fun a ha ho => hkb _ (slin_of ha) ho) hn3.nest (fun b hb ho => ?_) h4) ?_
  · have := hst.ownL _ ho; have := hb.1; have := hx2.size; omega
  rintro en w4 (⟨hb, _⟩ | ⟨_, rfl, own2, a1, a2, hst4, hmo4⟩)
  · rw [hg] at hb; cases hb
  refine ⟨0, rfl, ?_⟩
  have hB4 := (hB.ex hx13).mo hmo4 hob
  have hx4 : Ex w w4 := (hx.trans hx13).into hmo4 hown
  refine Rd_has (c := .sl) (x := x.o.2.2.1) hB4 (by kernel_rfl) rfl ?_
  refine Cl_sl (copyKey_sl x.o.2.2.1 x.key w4 (h1.ex hx4) h2) fun s5 w5 ho5 hx5 => ?_
  refine Wr_lit (f := slv) (e := 29) (base := w5.heap.size) [s5] (by kernel_rfl) (Nat.le_refl _) (by simp) fun s6 w6 ho6 hx6 _ => ?_
  have hx45 := hx4.trans hx5
  have hold := ((hn2.ex hx3).nest.mo hmo4 (fun b hb ho => by have := hst.ownL _ ho; have := hb.1; omega)).ex hx5
  refine eldest_l2 (hst4.ex hx5) (by omega) hx6 ho5.rds hll ho6 hold (by rw [List.length_map]; omega) e5 e1 (hB4.ex hx5) (h1.ex hx45) (keys_put _ _ _ _) fun w' hx' => ?_
  exact hK w' own2 _ (hx45.trans hx') (fun b hb => (a2 b hb).elim (hown b) (fun g => by have := (hx.trans hx13).size; omega)) ((hst4.ex hx5).ex hx')
theorem eldest_j4 {R : Ending → World → Prop} {k1 : (Int × (Option Addr) × Sl × Int × Int × Unit) → World → Prop} {w w1 : World} {own : Nat → Prop} {tb ob B : Nat} {lim clock : Int} {es : List Ent} {x : OpK} {key t39 : Sl} {t40 t41 : Int}
    (hx : Ex w w1) (hown : ∀ b, own b → w.heap.size ≤ b) (hst : TrieSt w1 own tb lim es clock) (hc : clock < 4611686018427387900) (hop : OpOk w x) (hB : Has w1 ob (opV x.o) 32) (hob : ¬ own ob) (hkey : Own i64v 3 B w1 key x.key) (hkb : ∀ b, SlIn key b → ¬ own b)
    (hK : ∀ w' own' es' c', Ex w w' → (∀ b, own' b → w.heap.size ≤ b) → TrieSt w' own' tb lim es' c' → (c' = clock ∨ x.o.1 = 1 ∧ c' = clock + 1) → k1 (lim, some ⟨tb, 0, none⟩, t39, t40, IntKind.wrap .i64 (t41 + 1), ()) w') :
    culletlaw12_TrieEldest.j4 R k1 lim (some ⟨tb, 0, none⟩) ⟨ob, 0, none⟩ key t39 t40 t41 w1 := by
  have skip : ∀ w2, Ex w1 w2 → culletlaw12_TrieEldest.j5 R k1 lim (some ⟨tb, 0, none⟩) ⟨ob, 0, none⟩ key t39 t40 t41 true w2 := by
    intro w2 hx2
    unfold culletlaw12_TrieEldest.j5 culletlaw12_TrieEldest.j2
    exact Cd_t (hK w2 own es clock (hx.trans hx2) hown (hst.ex hx2) (.inl rfl))
  unfold culletlaw12_TrieEldest.j4
  refine Rd_has (c := .int .i64) (x := x.o.1) hB (by kernel_rfl) rfl ?_
  refine Cd_ne (fun _ => skip w1 (Ex.refl _)) (fun h1 => ?_)
  refine Rd_has (c := .sl) (x := x.o.2.2.1) hB (by kernel_rfl) rfl ?_
  refine Cl_gv (good_gv x.o.2.2.1 x.key w1 (hop.1.ex hx) (by have := hop.2.1; omega)) fun w2 hx2 => ?_
  cases hg : goodB x.key with
  | false => exact skip w2 hx2
  | true => exact eldest_put (hx.trans hx2) hown (hst.ex hx2) hc hop (hB.ex hx2) hob (hkey.ex hx2) hkb hg (fun w' own' es' a b c => hK w' own' es' _ a b c (.inr ⟨h1, rfl⟩))
theorem eldest_j3 {R : Ending → World → Prop} {k1 : (Int × (Option Addr) × Sl × Int × Int × Unit) → World → Prop} {w w1 : World} {own : Nat → Prop} {tb ob B : Nat} {lim clock : Int} {es : List Ent} {x : OpK} {key t39 : Sl} {t40 t41 : Int}
    (hx : Ex w w1) (hown : ∀ b, own b → w.heap.size ≤ b) (hst : TrieSt w1 own tb lim es clock) (hc : clock < 4611686018427387900) (hop : OpOk w x) (hB : Has w1 ob (opV x.o) 32) (hob : ¬ own ob) (hkey : Own i64v 3 B w1 key x.key) (hkb : ∀ b, SlIn key b → ¬ own b)
    (hK : ∀ w' own' es' c', Ex w w' → (∀ b, own' b → w.heap.size ≤ b) → TrieSt w' own' tb lim es' c' → (c' = clock ∨ x.o.1 = 1 ∧ c' = clock + 1) → k1 (lim, some ⟨tb, 0, none⟩, t39, t40, IntKind.wrap .i64 (t41 + 1), ()) w') :
    culletlaw12_TrieEldest.j3 R k1 lim (some ⟨tb, 0, none⟩) ⟨ob, 0, none⟩ key t39 t40 t41 w1 := by
  have h2 := hop.2.1
  unfold culletlaw12_TrieEldest.j3
  refine Rd_has (c := .int .i64) (x := x.o.1) hB (by kernel_rfl) rfl ?_
  refine Cd_eq (fun h4 => ?_) (fun _ => eldest_j4 hx hown hst hc hop hB hob hkey hkb hK)
  refine Calls.mono (drop_ok hst key x.key hkey.rds (by omega) (fun a ha ho => hkb _ (slin_of ha) ho)) ?_
  rintro en w2 (⟨_, rfl, hx2⟩ | ⟨v, _, rfl, hst2, hmo2⟩)
  · exact ⟨false, rfl, eldest_j4 (hx.trans hx2) hown (hst.ex hx2) hc hop (hB.ex hx2) hob (hkey.ex hx2) hkb hK⟩
  · exact ⟨true, rfl, eldest_j4 (hx.into hmo2 hown) hown hst2 hc hop (hB.mo hmo2 hob) hob (hkey.mo hmo2 hkb) hkb hK⟩
theorem eldest_law (lim : Int) (s : Sl) (os : List OpK) (w : World) (hs : Script w s os) : Gv Try.prog 4 #[.int .i64 lim, slv s] (.bool true) w := by
  obtain ⟨hra, hops, hsm⟩ := hs
  refine culletlaw12_TrieEldest.run _ lim s w ?_
  unfold culletlaw12_TrieEldest.M
  refine Calls.mono (new_ok lim w) ?_
  rintro en w1 ⟨hx1, (⟨hb, rfl⟩ | ⟨hb, tb, rfl, htb, hst⟩)⟩
  · refine ⟨(none, 7, ()), rfl, ?_⟩
    refine Cl_gv (fixed_gv w1) fun w2 hx2 => ?_
    have fin : ∀ b, b = false → culletlaw12_TrieEldest.j1 (fun en w' => en = Ending.returned (.bool true) ∧ Ex w w') lim s none 7 b w2 := by
      rintro b rfl
      unfold culletlaw12_TrieEldest.j1
      refine Cd_f (Cd_t ?_)
      refine Pu_eqnil tT ?_
      exact ⟨rfl, hx1.trans hx2⟩
    refine Cd_f ?_
    refine Cd_dec (fun h => fin _ ?_) (fun _ => fin _ rfl)
    have : ¬ lim ≤ 1024 := by omega
    simp [this]
  · refine ⟨(some ⟨tb, 0, none⟩, 0, ()), rfl, ?_⟩
    refine Cl_gv (fixed_gv w1) fun w2 hx2 => ?_
    have hl1 : lim ≥ 1 := by omega
    have hl2 : lim ≤ 1024 := by omega
    refine Cd_f ?_
    refine Cd_dec (fun _ => ?_) (fun h => absurd hl1 h)
    rw [show (!((((0 : Int) == 0)) == (decide (lim ≤ 1024)))) = false by simp [hl2]]
    unfold culletlaw12_TrieEldest.j1
    refine Cd_f (Cd_f ?_)
    unfold culletlaw12_TrieEldest.l1
    have hlen : s.len = os.length := by rw [hra.1, List.length_map]
    rw [hlen]
    refine loopW_of (fun st w' => st.1 = lim ∧ st.2.1 = some ⟨tb, 0, none⟩ ∧ st.2.2.1 = s ∧ st.2.2.2.1 = (os.length : Int) ∧ ∃ i : Nat, i ≤ os.length ∧ st.2.2.2.2.1 = (i : Int) ∧ Ex w w' ∧ ∃ own es clock, (∀ b, own b → w.heap.size ≤ b) ∧ TrieSt w' own tb lim es clock ∧ clock ≤ 2 * i) (fun st _ => os.length - st.2.2.2.2.1.toNat) ?_
      ⟨rfl, rfl, rfl, rfl, 0, Nat.zero_le _, rfl, hx1.trans hx2, _, [], 0, fun b hb => hb.1, hst.ex hx2, by omega⟩
    rintro k ⟨a1, a2, a3, a4, i', u⟩ w' hI hk
    dsimp only at hI hk ⊢
    obtain ⟨rfl, rfl, rfl, rfl, i, hi, rfl, hx, own, es, clock, hown, hst', hclk⟩ := hI
    unfold culletlaw12_TrieEldest.b1
    refine Cd_dec (fun hlt => ?_) (fun hge => ⟨rfl, hx⟩)
    have hio : i < os.length := by omega
    refine Pu_idxA (hra.ex hx) tOps (by kernel_rfl) (by omega) (by rw [List.length_map]; omega) fun a ov hov hc hbk => ?_
    rw [Int.toNat_natCast, List.getElem?_map, List.getElem?_eq_getElem hio] at hov
    have hov : os[i].o = ov := by simpa using hov
    subst hov
    have hop := hops os[i] (List.getElem_mem hio)
    refine Rd_agg (x := os[i].o) (by kernel_rfl) hc ?_
    refine Wr_alloc (z := .agg (encAts oAts ((0, 0, nilS, nilS, ()) : OpT)).toArray) (by kernel_rfl) fun w3 hB3 hx3 => ?_
    refine Wu_store (v := .agg (encAts oAts os[i].o).toArray) hB3 (by kernel_rfl) (op_one os[i].o) (Nat.le_of_ble_eq_true (by kernel_rfl)) fun w4 hB4 hm4 => ?_
    have hB4' : Has w4 w'.heap.size (opV os[i].o) 32 := hB4
    have hx4 : Ex w' w4 := hx3.into hm4 (fun i hi => by rw [hi]; exact Nat.le_refl _)
    have hxw4 := hx.trans hx4
    have hst4 := hst'.ex hx4
    have hob : ¬ own w'.heap.size := fun ho => Nat.lt_irrefl _ (hst'.ownL _ ho)
    refine Rd_has (c := .sl) (x := os[i].o.2.2.1) hB4' (by kernel_rfl) rfl ?_
    refine Cl_sl (copyKey_sl os[i].o.2.2.1 os[i].key w4 (hop.1.ex hxw4) hop.2.1) fun s5 w5 ho5 hx5 => ?_
    have hkb : ∀ b, SlIn s5 b → ¬ own b := fun b hb ho => by have := (ho5.base b hb).1; have := hst4.ownL _ ho; omega
    have hxw5 := hxw4.trans hx5
    have hst5 := hst4.ex hx5
    have hB5 := hB4'.ex hx5
    have hkl := hop.2.1
    have go : ∀ w' own' es' c', Ex w w' → (∀ b, own' b → w.heap.size ≤ b) → TrieSt w' own' tb a1 es' c' → c' ≤ clock + 2 → k (a1, some ⟨tb, 0, none⟩, a3, (os.length : Int), IntKind.wrap .i64 ((i : Int) + 1), ()) w' := by
      intro w6 own' es' c' q1 q2 q3 q4
      rw [wrap64 (x := (i : Int) + 1) (by omega) (by omega)]
      exact hk _ _ ⟨rfl, rfl, rfl, rfl, i + 1, by omega, by simp, q1, own', es', c', q2, q3, by omega⟩ (by simp only; omega)
    refine Rd_has (c := .int .i64) (x := os[i].o.1) hB5 (by kernel_rfl) rfl ?_
    refine Cd_eq (fun _ => ?_) (fun _ => eldest_j3 hxw5 hown hst5 (by omega) hop hB5 hob ho5 hkb fun w6 o6 e6 c6 q1 q2 q3 q4 => go w6 o6 e6 c6 q1 q2 q3 (by omega))
    refine Calls.mono (get_ok hst5 s5 os[i].key ho5.rds (by omega) (by omega)) ?_
    rintro en w6 (⟨_, rfl, hx6⟩ | ⟨v, _, ⟨s6, rfl, _⟩, hst6, hmo6⟩)
    · exact ⟨(nilS, false, ()), rfl, eldest_j3 (hxw5.trans hx6) hown (hst5.ex hx6) (by omega) hop (hB5.ex hx6) hob (ho5.ex hx6) hkb fun w7 o6 e6 c6 q1 q2 q3 q4 => go w7 o6 e6 c6 q1 q2 q3 (by omega)⟩
    · exact ⟨(s6, true, ()), rfl, eldest_j3 (hxw5.into hmo6 hown) hown hst6 (by omega) hop (hB5.mo hmo6 hob) hob (ho5.mo hmo6 hkb) hkb fun w7 o6 e6 c6 q1 q2 q3 q4 => go w7 o6 e6 c6 q1 q2 q3 (by omega)⟩
end Go.Proofs.Ytdnlnloogfnlgaa
