/- TrieEldest: the law's walk. -/
import Derived.Test.YtdnlnloogfnlgaaTrU
set_option linter.all false
namespace Go.Proofs.Ytdnlnloogfnlgaa
open Go Go.Cu Go.RowKit
set_option linter.unusedVariables false
set_option maxHeartbeats 4000000
theorem tOps : Try.prog.underlying 22 = some (.slice 32) := by kernel_rfl
theorem op_one (o : OpT) : ∀ u ∈ (Value.agg (encAts oAts o).toArray).cells.toList, u.oneCell' = true := by
  intro u hu
  have hu : u ∈ encAts oAts o := hu
  simp only [oAts, encAts, List.mem_cons, List.not_mem_nil, or_false] at hu
  rcases hu with rfl | rfl | rfl | rfl <;> rfl
theorem keys_put (es : List Ent) (lim : Int) (l : Path) (v : List (List Int)) : (putE es lim l v).map (·.1) = (l :: (es.map (·.1)).filter fun k => decide (k ≠ l)).take lim.toNat := by
  unfold putE
  rw [List.map_take, List.map_cons, keys_without]
theorem eldest_put {R : Ending → World → Prop} {k1 : (Int × (Option Addr) × Sl × Int × Int × Unit) → World → Prop} {w w1 : World} {own : Nat → Prop} {tb ob B : Nat} {lim clock : Int} {es : List Ent} {x : OpK} {key t39 : Sl} {t40 t41 : Int}
    (hx : Ex w w1) (hown : ∀ b, own b → w.heap.size ≤ b) (hst : TrieSt w1 own tb lim es clock) (hc : clock < 4611686018427387900) (hop : OpOk w x) (hB : Has w1 ob (opV x.o) 32) (hob : ¬ own ob) (hkey : Own i64v 3 B w1 key x.key) (hkb : ∀ b, SlIn key b → ¬ own b)
    (hg : goodB x.key = true) (hK : ∀ w' own' es', Ex w w' → (∀ b, own' b → w.heap.size ≤ b) → TrieSt w' own' tb lim es' (clock + 1) → k1 (lim, some ⟨tb, 0, none⟩, t39, t40, IntKind.wrap .i64 (t41 + 1), ()) w') :
    culletlaw12_TrieEldest.j5 R k1 lim (some ⟨tb, 0, none⟩) ⟨ob, 0, none⟩ key t39 t40 t41 false w1 := by
  obtain ⟨h1, h2, h3, h4⟩ := hop
  have hll := good_len hg
  obtain ⟨e1, e2, e3, e4, e5⟩ := hst.lens
  unfold culletlaw12_TrieEldest.j5
  refine Cd_f ?_
  refine Calls.mono (recent_ok hst (by omega)) ?_
  rintro en w2 ⟨s2, rfl, hn2, hx2⟩
  refine ⟨s2, rfl, ?_⟩
  refine Rd_has (c := .sl) (x := x.o.2.2.2.1) (hB.ex hx2) (by kernel_rfl) rfl ?_
  refine Calls.mono (copyValue_nest x.o.2.2.2.1 x.val _ w2 (h3.ex (hx.trans hx2)) h4) ?_
  rintro en w3 ⟨s3, rfl, hn3, hx3⟩
  refine ⟨s3, rfl, ?_⟩
  have hx13 := hx2.trans hx3
  refine Calls.mono (put_ok (hst.ex hx13) (by omega) key s3 x.key x.val (hkey.ex hx13).rds (by omega) (fun a ha ho => hkb _ (slin_of ha) ho) hn3.nest (fun b hb ho => ?_) h4) ?_
  · have := hst.ownL _ ho; have := hb.1; have := hx2.size; omega
  rintro en w4 (⟨hb, _⟩ | ⟨_, rfl, own2, a1, a2, hst4, hmo4⟩)
  · rw [hg] at hb; cases hb
  refine ⟨0, rfl, ?_⟩
  have hB4 := (hB.ex hx13).mo hmo4 hob
  have hx4 : Ex w w4 := (hx.trans hx13).into hmo4 hown
  refine Rd_has (c := .sl) (x := x.o.2.2.1) hB4 (by kernel_rfl) rfl ?_
  refine Cl_sl (copyKey_sl x.o.2.2.1 x.key w4 (h1.ex hx4) h2) fun s5 w5 ho5 hx5 => ?_
  refine Wr_lit (f := slv) (e := 29) (base := w5.heap.size) [s5] (by kernel_rfl) (Nat.le_refl _) (by simp) fun s6 w6 ho6 hx6 _ => ?_
  have hx45 := hx4.trans hx5
  have hold := ((hn2.ex hx3).nest.mo hmo4 (fun b hb ho => by have := hst.ownL _ ho; have := hb.1; omega)).ex hx5
  refine eldest_l2 (hst4.ex hx5) (by omega) hx6 ho5.rds hll ho6 hold (by rw [List.length_map]; omega) e5 e1 (hB4.ex hx5) (h1.ex hx45) (keys_put _ _ _ _) fun w' hx' => ?_
  exact hK w' own2 _ (hx45.trans hx') (fun b hb => (a2 b hb).elim (hown b) (fun g => by have := (hx.trans hx13).size; omega)) ((hst4.ex hx5).ex hx')
theorem eldest_j4 {R : Ending → World → Prop} {k1 : (Int × (Option Addr) × Sl × Int × Int × Unit) → World → Prop} {w w1 : World} {own : Nat → Prop} {tb ob B : Nat} {lim clock : Int} {es : List Ent} {x : OpK} {key t39 : Sl} {t40 t41 : Int}
    (hx : Ex w w1) (hown : ∀ b, own b → w.heap.size ≤ b) (hst : TrieSt w1 own tb lim es clock) (hc : clock < 4611686018427387900) (hop : OpOk w x) (hB : Has w1 ob (opV x.o) 32) (hob : ¬ own ob) (hkey : Own i64v 3 B w1 key x.key) (hkb : ∀ b, SlIn key b → ¬ own b)
    (hK : ∀ w' own' es' c', Ex w w' → (∀ b, own' b → w.heap.size ≤ b) → TrieSt w' own' tb lim es' c' → (c' = clock ∨ x.o.1 = 1 ∧ c' = clock + 1) → k1 (lim, some ⟨tb, 0, none⟩, t39, t40, IntKind.wrap .i64 (t41 + 1), ()) w') :
    culletlaw12_TrieEldest.j4 R k1 lim (some ⟨tb, 0, none⟩) ⟨ob, 0, none⟩ key t39 t40 t41 w1 := by
  have skip : ∀ w2, Ex w1 w2 → culletlaw12_TrieEldest.j5 R k1 lim (some ⟨tb, 0, none⟩) ⟨ob, 0, none⟩ key t39 t40 t41 true w2 := by
    intro w2 hx2
    unfold culletlaw12_TrieEldest.j5 culletlaw12_TrieEldest.j2
    exact Cd_t (hK w2 own es clock (hx.trans hx2) hown (hst.ex hx2) (.inl rfl))
  unfold culletlaw12_TrieEldest.j4
  refine Rd_has (c := .int .i64) (x := x.o.1) hB (by kernel_rfl) rfl ?_
  refine Cd_ne (fun _ => skip w1 (Ex.refl _)) (fun h1 => ?_)
  refine Rd_has (c := .sl) (x := x.o.2.2.1) hB (by kernel_rfl) rfl ?_
  refine Cl_gv (good_gv x.o.2.2.1 x.key w1 (hop.1.ex hx) (by have := hop.2.1; omega)) fun w2 hx2 => ?_
  cases hg : goodB x.key with
  | false => exact skip w2 hx2
  | true => exact eldest_put (hx.trans hx2) hown (hst.ex hx2) hc hop (hB.ex hx2) hob (hkey.ex hx2) hkb hg (fun w' own' es' a b c => hK w' own' es' _ a b c (.inr ⟨h1, rfl⟩))
theorem eldest_j3 {R : Ending → World → Prop} {k1 : (Int × (Option Addr) × Sl × Int × Int × Unit) → World → Prop} {w w1 : World} {own : Nat → Prop} {tb ob B : Nat} {lim clock : Int} {es : List Ent} {x : OpK} {key t39 : Sl} {t40 t41 : Int}
    (hx : Ex w w1) (hown : ∀ b, own b → w.heap.size ≤ b) (hst : TrieSt w1 own tb lim es clock) (hc : clock < 4611686018427387900) (hop : OpOk w x) (hB : Has w1 ob (opV x.o) 32) (hob : ¬ own ob) (hkey : Own i64v 3 B w1 key x.key) (hkb : ∀ b, SlIn key b → ¬ own b)
    (hK : ∀ w' own' es' c', Ex w w' → (∀ b, own' b → w.heap.size ≤ b) → TrieSt w' own' tb lim es' c' → (c' = clock ∨ x.o.1 = 1 ∧ c' = clock + 1) → k1 (lim, some ⟨tb, 0, none⟩, t39, t40, IntKind.wrap .i64 (t41 + 1), ()) w') :
    culletlaw12_TrieEldest.j3 R k1 lim (some ⟨tb, 0, none⟩) ⟨ob, 0, none⟩ key t39 t40 t41 w1 := by
  have h2 := hop.2.1
  unfold culletlaw12_TrieEldest.j3
  refine Rd_has (c := .int .i64) (x := x.o.1) hB (by kernel_rfl) rfl ?_
  refine Cd_eq (fun h4 => ?_) (fun _ => eldest_j4 hx hown hst hc hop hB hob hkey hkb hK)
  refine Calls.mono (drop_ok hst key x.key hkey.rds (by omega) (fun a ha ho => hkb _ (slin_of ha) ho)) ?_
  rintro en w2 (⟨_, rfl, hx2⟩ | ⟨v, _, rfl, hst2, hmo2⟩)
  · exact ⟨false, rfl, eldest_j4 (hx.trans hx2) hown (hst.ex hx2) hc hop (hB.ex hx2) hob (hkey.ex hx2) hkb hK⟩
  · exact ⟨true, rfl, eldest_j4 (hx.into hmo2 hown) hown hst2 hc hop (hB.mo hmo2 hob) hob (hkey.mo hmo2 hkb) hkb hK⟩
theorem eldest_law (lim : Int) (s : Sl) (os : List OpK) (w : World) (hs : Script w s os) : Gv Try.prog 4 #[.int .i64 lim, slv s] (.bool true) w := by
  obtain ⟨hra, hops, hsm⟩ := hs
  refine culletlaw12_TrieEldest.run _ lim s w ?_
  unfold culletlaw12_TrieEldest.M
  refine Calls.mono (new_ok lim w) ?_
  rintro en w1 ⟨hx1, (⟨hb, rfl⟩ | ⟨hb, tb, rfl, htb, hst⟩)⟩
  · refine ⟨(none, 7, ()), rfl, ?_⟩
    refine Cl_gv (fixed_gv w1) fun w2 hx2 => ?_
    have fin : ∀ b, b = false → culletlaw12_TrieEldest.j1 (fun en w' => en = Ending.returned (.bool true) ∧ Ex w w') lim s none 7 b w2 := by
      rintro b rfl
      unfold culletlaw12_TrieEldest.j1
      refine Cd_f (Cd_t ?_)
      refine Pu_eqnil tT ?_
      exact ⟨rfl, hx1.trans hx2⟩
    refine Cd_f ?_
    refine Cd_dec (fun h => fin _ ?_) (fun _ => fin _ rfl)
    have : ¬ lim ≤ 1024 := by omega
    simp [this]
  · refine ⟨(some ⟨tb, 0, none⟩, 0, ()), rfl, ?_⟩
    refine Cl_gv (fixed_gv w1) fun w2 hx2 => ?_
    have hl1 : lim ≥ 1 := by omega
    have hl2 : lim ≤ 1024 := by omega
    refine Cd_f ?_
    refine Cd_dec (fun _ => ?_) (fun h => absurd hl1 h)
    rw [show (!((((0 : Int) == 0)) == (decide (lim ≤ 1024)))) = false by simp [hl2]]
    unfold culletlaw12_TrieEldest.j1
    refine Cd_f (Cd_f ?_)
    unfold culletlaw12_TrieEldest.l1
    have hlen : s.len = os.length := by rw [hra.1, List.length_map]
    rw [hlen]
    refine loopW_of (fun st w' => st.1 = lim ∧ st.2.1 = some ⟨tb, 0, none⟩ ∧ st.2.2.1 = s ∧ st.2.2.2.1 = (os.length : Int) ∧ ∃ i : Nat, i ≤ os.length ∧ st.2.2.2.2.1 = (i : Int) ∧ Ex w w' ∧ ∃ own es clock, (∀ b, own b → w.heap.size ≤ b) ∧ TrieSt w' own tb lim es clock ∧ clock ≤ 2 * i) (fun st _ => os.length - st.2.2.2.2.1.toNat) ?_
      ⟨rfl, rfl, rfl, rfl, 0, Nat.zero_le _, rfl, hx1.trans hx2, _, [], 0, fun b hb => hb.1, hst.ex hx2, by omega⟩
    rintro k ⟨a1, a2, a3, a4, i', u⟩ w' hI hk
    dsimp only at hI hk ⊢
    obtain ⟨rfl, rfl, rfl, rfl, i, hi, rfl, hx, own, es, clock, hown, hst', hclk⟩ := hI
    unfold culletlaw12_TrieEldest.b1
    refine Cd_dec (fun hlt => ?_) (fun hge => ⟨rfl, hx⟩)
    have hio : i < os.length := by omega
    refine Pu_idxA (hra.ex hx) tOps (by kernel_rfl) (by omega) (by rw [List.length_map]; omega) fun a ov hov hc hbk => ?_
    rw [Int.toNat_natCast, List.getElem?_map, List.getElem?_eq_getElem hio] at hov
    have hov : os[i].o = ov := by simpa using hov
    subst hov
    have hop := hops os[i] (List.getElem_mem hio)
    refine Rd_agg (x := os[i].o) (by kernel_rfl) hc ?_
    refine Wr_alloc (z := .agg (encAts oAts ((0, 0, nilS, nilS, ()) : OpT)).toArray) (by kernel_rfl) fun w3 hB3 hx3 => ?_
    refine Wu_store (v := .agg (encAts oAts os[i].o).toArray) hB3 (by kernel_rfl) (op_one os[i].o) (Nat.le_of_ble_eq_true (by kernel_rfl)) fun w4 hB4 hm4 => ?_
    have hB4' : Has w4 w'.heap.size (opV os[i].o) 32 := hB4
    have hx4 : Ex w' w4 := hx3.into hm4 (fun i hi => by rw [hi]; exact Nat.le_refl _)
    have hxw4 := hx.trans hx4
    have hst4 := hst'.ex hx4
    have hob : ¬ own w'.heap.size := fun ho => Nat.lt_irrefl _ (hst'.ownL _ ho)
    refine Rd_has (c := .sl) (x := os[i].o.2.2.1) hB4' (by kernel_rfl) rfl ?_
    refine Cl_sl (copyKey_sl os[i].o.2.2.1 os[i].key w4 (hop.1.ex hxw4) hop.2.1) fun s5 w5 ho5 hx5 => ?_
    have hkb : ∀ b, SlIn s5 b → ¬ own b := fun b hb ho => by have := (ho5.base b hb).1; have := hst4.ownL _ ho; omega
    have hxw5 := hxw4.trans hx5
    have hst5 := hst4.ex hx5
    have hB5 := hB4'.ex hx5
    have hkl := hop.2.1
    have go : ∀ w' own' es' c', Ex w w' → (∀ b, own' b → w.heap.size ≤ b) → TrieSt w' own' tb a1 es' c' → c' ≤ clock + 2 → k (a1, some ⟨tb, 0, none⟩, a3, (os.length : Int), IntKind.wrap .i64 ((i : Int) + 1), ()) w' := by
      intro w6 own' es' c' q1 q2 q3 q4
      rw [wrap64 (x := (i : Int) + 1) (by omega) (by omega)]
      exact hk _ _ ⟨rfl, rfl, rfl, rfl, i + 1, by omega, by simp, q1, own', es', c', q2, q3, by omega⟩ (by simp only; omega)
    refine Rd_has (c := .int .i64) (x := os[i].o.1) hB5 (by kernel_rfl) rfl ?_
    refine Cd_eq (fun _ => ?_) (fun _ => eldest_j3 hxw5 hown hst5 (by omega) hop hB5 hob ho5 hkb fun w6 o6 e6 c6 q1 q2 q3 q4 => go w6 o6 e6 c6 q1 q2 q3 (by omega))
    refine Calls.mono (get_ok hst5 s5 os[i].key ho5.rds (by omega) (by omega)) ?_
    rintro en w6 (⟨_, rfl, hx6⟩ | ⟨v, _, ⟨s6, rfl, _⟩, hst6, hmo6⟩)
    · exact ⟨(nilS, false, ()), rfl, eldest_j3 (hxw5.trans hx6) hown (hst5.ex hx6) (by omega) hop (hB5.ex hx6) hob (ho5.ex hx6) hkb fun w7 o6 e6 c6 q1 q2 q3 q4 => go w7 o6 e6 c6 q1 q2 q3 (by omega)⟩
    · exact ⟨(s6, true, ()), rfl, eldest_j3 (hxw5.into hmo6 hown) hown hst6 (by omega) hop (hB5.mo hmo6 hob) hob (ho5.mo hmo6 hkb) hkb fun w7 o6 e6 c6 q1 q2 q3 q4 => go w7 o6 e6 c6 q1 q2 q3 (by omega)⟩
end Go.Proofs.Ytdnlnloogfnlgaa
