/- TrieEldest: the eldest goes. -/
import Derived.Test.YtdnlnloogfnlgaaTrT
import Derived.Test.YtdnlnloogfnlgaaCb
set_option linter.all false
namespace Go.Proofs.Ytdnlnloogfnlgaa
open Go Go.Cu Go.RowKit
set_option linter.unusedVariables false
set_option maxHeartbeats 4000000
abbrev oAts : List At := [.int .i64, .int .i64, .sl, .sl]
abbrev OpT : Type := Ats oAts
/-- a step of a script, with its key and its value -/
structure OpK where
  o : OpT
  key : Path
  val : List (List Int)
abbrev opV (o : OpT) : List Value := [.int .i64 o.1, .int .i64 o.2.1, slv o.2.2.1, slv o.2.2.2.1]
def OpOk (w : World) (x : OpK) : Prop := Rds i64v w x.o.2.2.1 x.key ∧ x.key.length ≤ 17592186044000 ∧ Nest b8 (fun _ => True) w x.o.2.2.2.1 x.val ∧ RowsLe x.val
theorem OpOk.ex {w w' : World} {x : OpK} (h : OpOk w x) (k : Ex w w') : OpOk w' x := ⟨h.1.ex k, h.2.1, h.2.2.1.ex k, h.2.2.2⟩
def Script (w : World) (s : Sl) (os : List OpK) : Prop := RdA oAts w s (os.map (·.o)) ∧ (∀ x ∈ os, OpOk w x) ∧ os.length ≤ 2199023255552
theorem TrieSt.lens {w : World} {own : Nat → Prop} {tb : Nat} {lim clock : Int} {es : List Ent} (h : TrieSt w own tb lim es clock) : (es.map (·.1)).Nodup ∧ (es.length : Int) ≤ lim ∧ 1 ≤ lim ∧ lim ≤ 1024 ∧ ∀ k ∈ es.map (·.1), k.length ≤ 256 := by
  obtain ⟨v, ns, y, _, he⟩ := h
  refine ⟨he.nodup, he.room, he.lim1, he.lim2, fun k hk => ?_⟩
  obtain ⟨e, hee, rfl⟩ := List.mem_map.1 hk
  exact good_len (he.good e hee)
theorem keys_without (es : List Ent) (l : Path) : (without es l).map (·.1) = (es.map (·.1)).filter fun k => decide (k ≠ l) := by
  unfold without
  rw [List.filter_map]; rfl
/-- `want[:n]` -/
theorem Pu_take {α : Type} {f : α → Value} {t e : TypeId} {s : Sl} {l : List α} {ik : IntKind} {n : Nat} {k : Sl → World → Prop} {w : World} (hr : Rds f w s l) (ht : Try.prog.underlying t = some (.slice e)) (hs : sizeIs Try.prog e 1 = true) (hn : n ≤ l.length)
    (hk : ∀ s', Rds f w s' (l.take n) → k s' w) : Pu Try.prog (Instr.sliceAt t (.slice s.base s.len s.cap) none (some (.int ik (n : Int))) none) (.one (.at .sl)) k w := by
  have hl := hr.1
  have hc := hr.2.1
  refine ⟨⟨if s.cap = 0 then s.base else s.base.map (·.add 0), n - 0, s.cap - 0⟩, fun w' => ?_, hk _ ?_⟩
  · have := run_sliceAt (P := Try.prog) (s := s) (w := w') (l := 0) (h := n) (hi := some (.int ik (n : Int))) ht hs (.inl ⟨rfl, rfl⟩) (.inr ⟨ik, rfl⟩) (Nat.zero_le _) (by omega)
    rw [Nat.zero_mul] at this
    exact this
  · have := hr.slice (lo := 0) (hi := n) (Nat.zero_le _) hn
    rw [List.drop_zero] at this
    exact this
theorem eldest_j7 {R : Ending → World → Prop} {k1 : (Int × (Option Addr) × Sl × Int × Int × Unit) → World → Prop} {w : World} {own F : Nat → Prop} {tb : Nat} {lim clock : Int} {es : List Ent} {want t39 : Sl} {t40 t41 : Int} (hst : TrieSt w own tb lim es clock) (hc : clock < 4611686018427387904)
    (hw : Nest i64v F w want (es.map (·.1))) (hK : ∀ w', Ex w w' → k1 (lim, some ⟨tb, 0, none⟩, t39, t40, IntKind.wrap .i64 (t41 + 1), ()) w') :
    culletlaw12_TrieEldest.j7 R k1 lim (some ⟨tb, 0, none⟩) 0 want t39 t40 t41 w := by
  obtain ⟨hnd, h1, h2, h3, h4⟩ := hst.lens
  unfold culletlaw12_TrieEldest.j7
  refine Cd_f ?_
  refine Calls.mono (recent_ok hst hc) ?_
  rintro en w1 ⟨s1, rfl, hn1, hx1⟩
  refine ⟨s1, rfl, ?_⟩
  refine Cl_gv (sameKeys_gv s1 want _ _ _ _ w1 hn1.nest (hw.ex hx1) ⟨by rw [List.length_map]; omega, fun k hk => by have := h4 k hk; omega⟩) fun w2 hx2 => ?_
  unfold culletlaw12_TrieEldest.j8 culletlaw12_TrieEldest.j2
  refine Cd_not (fun hf => ?_) (fun ht => hK w2 (hx1.trans hx2))
  simp at hf
theorem nodup_take {α : Type} {L : List α} (h : L.Nodup) {n : Nat} {k : α} (hk : L[n]? = some k) : k ∉ L.take n := by
  intro hin
  obtain ⟨hn, he⟩ := List.getElem?_eq_some_iff.1 hk
  rw [← List.take_append_drop n L, List.nodup_append] at h
  exact h.2.2 k hin k (by rw [List.drop_eq_getElem_cons hn, he]; exact List.mem_cons_self) rfl
theorem eldest_l2 {R : Ending → World → Prop} {k1 : (Int × (Option Addr) × Sl × Int × Int × Unit) → World → Prop} {w0 w1 : World} {own F : Nat → Prop} {tb ob : Nat} {lim clock : Int} {es : List Ent} {l : Path} {os : List Path} {o : OpT} {row want old t39 : Sl} {t40 t41 : Int}
    (hst : TrieSt w0 own tb lim es clock) (hc : clock < 4611686018427387904) (hx1 : Ex w0 w1) (hrow : Rds i64v w0 row l) (hll : l.length ≤ 256) (hwant : Own slv 29 w0.heap.size w1 want [row]) (hold : Nest i64v F w0 old os) (hosl : os.length ≤ 1024) (hok : ∀ k ∈ os, k.length ≤ 256) (hnd : os.Nodup)
    (hop : Has w0 ob (opV o) 32) (hkey : Rds i64v w0 o.2.2.1 l) (he : es.map (·.1) = (l :: os.filter fun k => decide (k ≠ l)).take lim.toNat)
    (hK : ∀ w', Ex w0 w' → k1 (lim, some ⟨tb, 0, none⟩, t39, t40, IntKind.wrap .i64 (t41 + 1), ()) w') :
    culletlaw12_TrieEldest.l2 R k1 (lim, some ⟨tb, 0, none⟩, ⟨ob, 0, none⟩, 0, want, t39, t40, t41, old, ((old.len : Nat) : Int), 0, ()) w1 := by
  obtain ⟨_, _, hl1, hl2, _⟩ := hst.lens
  obtain ⟨n, rfl⟩ := Int.eq_ofNat_of_zero_le (a := lim) (by omega)
  rw [Int.toNat_natCast] at he
  have hlen := nest_len hold
  obtain ⟨ss, r1, r2, _, r4⟩ := hold
  unfold culletlaw12_TrieEldest.l2
  rw [hlen]
  refine loopW_of (fun st w' => Ex w0 w' ∧ st.1 = (n : Int) ∧ st.2.1 = some ⟨tb, 0, none⟩ ∧ st.2.2.1 = ⟨ob, 0, none⟩ ∧ st.2.2.2.1 = 0 ∧ st.2.2.2.2.2.1 = t39 ∧ st.2.2.2.2.2.2.1 = t40 ∧ st.2.2.2.2.2.2.2.1 = t41 ∧ st.2.2.2.2.2.2.2.2.1 = old ∧ st.2.2.2.2.2.2.2.2.2.1 = (os.length : Int) ∧
      ∃ i : Nat, i ≤ os.length ∧ st.2.2.2.2.2.2.2.2.2.2.1 = (i : Int) ∧ ∃ us : List Sl, Own slv 29 w0.heap.size w' st.2.2.2.2.1 us ∧ us.length = (l :: (os.take i).filter fun k => decide (k ≠ l)).length ∧
        ∀ (j : Nat) s' k, us[j]? = some s' → (l :: (os.take i).filter fun k => decide (k ≠ l))[j]? = some k → Rds i64v w0 s' k) (fun st _ => os.length - st.2.2.2.2.2.2.2.2.2.2.1.toNat) ?_
    ⟨hx1, rfl, rfl, rfl, rfl, rfl, rfl, rfl, rfl, rfl, 0, Nat.zero_le _, rfl, [row], hwant, rfl, fun j s' k hj hk => ?_⟩
  rotate_left
  · match j, hj, hk with
    | 0, hj, hk =>
      obtain rfl : row = s' := by simpa using hj
      obtain rfl : l = k := by simpa using hk
      exact hrow
    | j + 1, hj, hk => simp at hj
  rintro k ⟨a1, a2, a3, a4, wt, a5, a6, a7, a8, a9, i', u⟩ w' hI hk
  dsimp only at hI hk ⊢
  obtain ⟨hx, rfl, rfl, rfl, rfl, rfl, rfl, rfl, rfl, rfl, i, hi, rfl, us, ho, hul, hus⟩ := hI
  unfold culletlaw12_TrieEldest.b2
  refine Cd_dec (fun hlt => ?_) (fun hge => ?_)
  · have hio : i < os.length := by omega
    refine Pu_idx (r1.ex hx) tII sII (by omega) (by omega) fun a x hx1' hc1 _ => ?_
    refine Rd_one (c := .sl) (x := x) oII hc1 ?_
    rw [Int.toNat_natCast] at hx1'
    have hoi : os[i]? = some os[i] := List.getElem?_eq_getElem hio
    obtain ⟨hxr, _⟩ := r4 i x _ hx1' hoi
    refine Rd_has (c := .sl) (x := o.2.2.1) (hop.ex hx) (by kernel_rfl) rfl ?_
    refine Cl_gv (same_gv x o.2.2.1 os[i] l w' (hxr.ex hx) (hkey.ex hx) (by have := hok _ (List.getElem_mem hio); omega)) fun w2 hx2 => ?_
    have htk : os.take (i + 1) = os.take i ++ [os[i]] := by rw [List.take_add_one, hoi]; rfl
    have hlt' : us.length ≤ 1024 := by
      rw [hul, List.length_cons]
      have := List.length_filter_le (fun k => decide (k ≠ l)) (os.take i)
      rw [List.length_take] at this
      omega
    refine Cd_not (fun hf => ?_) (fun ht => ?_)
    · have hne := of_decide_eq_false hf
      refine Wr_lit (f := slv) (e := 29) (base := w2.heap.size) [x] (by kernel_rfl) (Nat.le_refl _) (by simp) fun s3 w3 ho3 hx3 _ => ?_
      have hx03 := (hx.trans hx2).trans hx3
      refine Wr_append tII iII rfl (ho.ex (hx2.trans hx3)) ho3.rds (fun y => rfl) (by simp; omega) (by simp; omega) hx03.size fun s4 w4 ho4 hm4 _ => ?_
      unfold culletlaw12_TrieEldest.j6
      rw [wrap64 (x := (i : Int) + 1) (by omega) (by omega)]
      have hfl : (os.take (i + 1)).filter (fun k => decide (k ≠ l)) = (os.take i).filter (fun k => decide (k ≠ l)) ++ [os[i]] := by
        rw [htk, List.filter_append]
        simp [hne]
      refine hk _ _ ⟨hx03.into hm4 (fun b hb => (ho.base b hb).1), rfl, rfl, rfl, rfl, rfl, rfl, rfl, rfl, rfl, i + 1, by omega, by simp, us ++ [x], ho4, ?_, fun j s' q hj hq => ?_⟩ (by simp only; omega)
      · rw [hfl]; simp [hul]
      · rw [hfl, ← List.cons_append] at hq
        rcases snoc_cases hj with ⟨hj', hjl⟩ | ⟨rfl, rfl⟩
        · rw [List.getElem?_append_left (by rw [← hul]; exact hjl)] at hq
          exact hus j s' q hj' hq
        · rw [hul, List.getElem?_append_right (Nat.le_refl _), Nat.sub_self] at hq
          obtain rfl : os[i] = q := by simpa using hq
          exact hxr
    · have heq := of_decide_eq_true ht
      unfold culletlaw12_TrieEldest.j6
      rw [wrap64 (x := (i : Int) + 1) (by omega) (by omega)]
      have hfl : (os.take (i + 1)).filter (fun k => decide (k ≠ l)) = (os.take i).filter (fun k => decide (k ≠ l)) := by
        rw [htk, List.filter_append]
        simp [heq]
      refine hk _ _ ⟨hx.trans hx2, rfl, rfl, rfl, rfl, rfl, rfl, rfl, rfl, rfl, i + 1, by omega, by simp, us, ho.ex hx2, ?_, ?_⟩ (by simp only; omega)
      · rw [hfl]; exact hul
      · rw [hfl]; exact hus
  · have hil : i = os.length := by omega
    subst hil
    rw [List.take_length] at hul hus
    generalize hL : (l :: os.filter fun k => decide (k ≠ l)) = L at he hul hus
    have hLn : L.Nodup := by
      rw [← hL, List.nodup_cons]
      exact ⟨fun h => by simp at h, hnd.sublist List.filter_sublist⟩
    have hLk : ∀ k ∈ L, k.length ≤ 256 := by
      intro k hk
      rw [← hL, List.mem_cons, List.mem_filter] at hk
      rcases hk with rfl | hk
      · exact hll
      · exact hok k hk.1
    have hwl := ho.1
    refine Cd_dec (fun hfull => ?_) (fun hfree => ?_)
    · refine Pu_idx ho.rds tII sII (by omega) (by omega) fun a x hx1' hc1 _ => ?_
      refine Rd_one (c := .sl) (x := x) oII hc1 ?_
      rw [Int.toNat_natCast] at hx1'
      obtain ⟨kq, hkq⟩ : ∃ kq, L[n]? = some kq := ⟨_, List.getElem?_eq_getElem (by omega)⟩
      have hkl := hLk kq (List.mem_of_getElem? hkq)
      refine Calls.mono (peek_ok (hst.ex hx) x kq ((hus n x kq hx1' hkq).ex hx) (by omega)) ?_
      rintro en w2 ⟨hx2, (⟨_, rfl⟩ | ⟨v, hv, _⟩)⟩
      · refine ⟨(nilS, false, ()), rfl, ?_⟩
        refine Cd_f ?_
        refine Pu_take (n := n) (ho.rds.ex hx2) tII sII (by omega) fun s3 hr3 => ?_
        refine eldest_j7 (F := fun _ => True) (hst.ex (hx.trans hx2)) hc ?_ (fun w3 hx3 => hK w3 ((hx.trans hx2).trans hx3))
        refine ⟨us.take n, hr3, by rw [he, List.length_take, List.length_take, hul], fun _ _ => trivial, fun j s' q hj hq => ⟨?_, fun _ _ => trivial⟩⟩
        rw [he] at hq
        rw [List.getElem?_take] at hj hq
        split at hj
        · rename_i hjn
          rw [if_pos hjn] at hq
          exact (hus j s' q hj hq).ex (hx.trans hx2)
        · cases hj
      · exfalso
        have : kq ∈ es.map (·.1) := List.mem_map.2 ⟨_, hv, rfl⟩
        rw [he] at this
        exact nodup_take hLn hkq this
    · refine eldest_j7 (F := fun _ => True) (hst.ex hx) hc ?_ (fun w3 hx3 => hK w3 (hx.trans hx3))
      rw [he, List.take_of_length_le (by omega)]
      exact ⟨us, ho.rds, hul, fun _ _ => trivial, fun j s' q hj hq => ⟨(hus j s' q hj hq).ex hx, fun _ _ => trivial⟩⟩
end Go.Proofs.Ytdnlnloogfnlgaa
