/- TrieViews: the law's walk. -/
import Derived.Test.YtdnlnloogfnlgaaTrVa
import Derived.Test.YtdnlnloogfnlgaaTrW
set_option linter.all false
namespace Go.Proofs.Ytdnlnloogfnlgaa
open Go Go.Cu Go.RowKit
set_option linter.unusedVariables false
set_option maxHeartbeats 4000000
section
variable {R : Ending → World → Prop} {k1 : (Int × (Option Addr) × Sl × Int × Int × Unit) → World → Prop} {w w1 : World} {own : Nat → Prop} {tb ob : Nat} {lim clock : Int} {es : List Ent} {o : OpK} {t42 : Sl} {t43 t44 : Int}
theorem views_j2 (hst : TrieSt w1 own tb lim es clock) (hc : clock < 4611686018427387904) (hB : Has w1 ob (opV o.o) 32) (hK : ∀ w', Ex w1 w' → k1 (lim, some ⟨tb, 0, none⟩, t42, t43, IntKind.wrap .i64 (t44 + 1), ()) w') :
    culletlaw12_TrieViews.j2 R k1 lim (some ⟨tb, 0, none⟩) ⟨ob, 0, none⟩ t42 t43 t44 w1 := by
  unfold culletlaw12_TrieViews.j2
  refine Rd_has (c := .int .i64) (x := o.o.1) hB (by kernel_rfl) rfl ?_
  unfold culletlaw12_TrieViews.j3
  refine Cd_dec (fun _ => ?_) (fun _ => Cd_f (hK w1 (Ex.refl _)))
  refine Cl_gv (view_gv hst hc) fun w2 hx2 => ?_
  exact Cd_f (hK w2 hx2)
/-- the first of Recent -/
theorem recent_first {F : Nat → Prop} {s : Sl} {l : Path} {r : List Path} {K : Bool → World → Prop} (hn : Nest i64v F w1 s (l :: r)) (hB : Has w1 ob (opV o.o) 32) (hl : l.length ≤ 9223372036854775806) (hk : Rds i64v w1 o.o.2.2.1 l) {A : Prop} (hK : ∀ w', Ex w1 w' → K (!true) w') :
    Held w1.drew (fun S => Cd (((s.len : Nat) : Int) == 0) A (Pu Try.prog (Instr.indexAt 45 (.slice s.base s.len s.cap) (.int .i64 0)) (.one (.at .addr)) (fun (x31 : Addr) w32 =>
      RdS Try.prog S (Instr.loadAt 29 (.pointer (some x31))) (.one (.at .sl)) (fun (x33 : Sl) w34 =>
      RdS Try.prog S (Instr.loadAt 29 (.pointer (some (Addr.add ⟨ob, 0, none⟩ 2)))) (.one (.at .sl)) (fun (x35 : Sl) w36 =>
      Cl Try.prog 24 #[(.slice x33.base x33.len x33.cap), (.slice x35.base x35.len x35.cap)] (.one (.at .bool)) (fun (x37 : Bool) w38 =>
      S w38 ∧ (K (!x37) w38)) w36) w34) w32) w1.drew)) := by
  have hlen := nest_len hn
  obtain ⟨rs, r1, r2, _, r4⟩ := hn
  refine Held_ex ?_
  refine Cd_eq (fun h => by rw [hlen] at h; simp at h; omega) (fun _ => ?_)
  have hd := Ex.drew w1
  refine Pu_idxB (r1.ex hd) tII sII (by omega) (by rw [r2]; simp) fun b x hb hx1 => ?_
  refine RdS_one (c := .sl) (x := x) oII (fun v hv => Rds.at (r1.ex (hd.trans hv)) hb hx1) ?_
  refine RdS_has (c := .sl) (x := o.o.2.2.1) (fun v hv => hB.ex (hd.trans hv)) (by kernel_rfl) rfl ?_
  obtain ⟨hxr, _⟩ := r4 0 x l hx1 rfl
  refine Cl_gv (same_gv x o.o.2.2.1 l l _ (hxr.ex hd) (hk.ex hd) hl) fun w2 hx2 => ⟨hx2, ?_⟩
  have : decide (l = l) = true := by simp
  rw [this]
  exact hK w2 (hd.trans hx2)
/-- Under, asked of the law's own list -/
theorem views_l2 {w0 : World} {F : Nat → Prop} {key s : Sl} {ks : List Path} (hx0 : Ex w0 w1) (hst : TrieSt w0 own tb lim es clock) (hc : clock < 4611686018427387904) (hB : Has w0 ob (opV o.o) 32) (hkey : Rds i64v w0 key o.key) (hok : Rds i64v w0 o.o.2.2.1 o.key) (hkl : o.key.length ≤ 17592186044000)
    (hn : Nest i64v F w0 s ks) (hku : KeysUnder es [] ks) (hl : ks.length ≤ 1024) (hkk : ∀ k ∈ ks, k.length ≤ 300) (hK : ∀ w', Ex w0 w' → k1 (lim, some ⟨tb, 0, none⟩, t42, t43, IntKind.wrap .i64 (t44 + 1), ()) w') :
    culletlaw12_TrieViews.l2 (fun en w' => en = Ending.returned (.bool true) ∧ Ex w w') k1 (lim, some ⟨tb, 0, none⟩, ⟨ob, 0, none⟩, key, nilS, t42, t43, t44, s, ((s.len : Nat) : Int), 0, ()) w1 := by
  have hlen := nest_len hn
  obtain ⟨rs, r1, r2, _, r4⟩ := hn
  unfold culletlaw12_TrieViews.l2
  rw [hlen]
  refine loopW_of (fun st w' => Ex w0 w' ∧ st.1 = lim ∧ st.2.1 = some ⟨tb, 0, none⟩ ∧ st.2.2.1 = ⟨ob, 0, none⟩ ∧ st.2.2.2.1 = key ∧ st.2.2.2.2.2.1 = t42 ∧ st.2.2.2.2.2.2.1 = t43 ∧ st.2.2.2.2.2.2.2.1 = t44 ∧ st.2.2.2.2.2.2.2.2.1 = s ∧ st.2.2.2.2.2.2.2.2.2.1 = (ks.length : Int) ∧
      ∃ i : Nat, i ≤ ks.length ∧ st.2.2.2.2.2.2.2.2.2.2.1 = (i : Int) ∧ ∃ us : List Sl, Own slv 29 w0.heap.size w' st.2.2.2.2.1 us ∧ us.length = ((ks.take i).filter fun k => decide (o.key <+: k)).length ∧
        ∀ (j : Nat) s' k, us[j]? = some s' → ((ks.take i).filter fun k => decide (o.key <+: k))[j]? = some k → Rds i64v w0 s' k) (fun st _ => ks.length - st.2.2.2.2.2.2.2.2.2.2.1.toNat) ?_
    ⟨hx0, rfl, rfl, rfl, rfl, rfl, rfl, rfl, rfl, rfl, 0, Nat.zero_le _, rfl, [], Own.nil _ _ _ _, rfl, fun j s' k hj => by simp at hj⟩
  rintro k ⟨a1, a2, a3, a4, wt, a5, a6, a7, a8, a9, i', u⟩ w' hI hk
  dsimp only at hI hk ⊢
  obtain ⟨hx, rfl, rfl, rfl, rfl, rfl, rfl, rfl, rfl, rfl, i, hi, rfl, us, ho, hul, hus⟩ := hI
  unfold culletlaw12_TrieViews.b2
  have hfl := List.length_filter_le (fun k => decide (o.key <+: k)) (ks.take i)
  rw [List.length_take] at hfl
  refine Cd_dec (fun hlt => ?_) (fun hge => ?_)
  · have hio : i < ks.length := by omega
    refine Pu_idx (r1.ex hx) tII sII (by omega) (by omega) fun a x hx1' hc1 _ => ?_
    refine Rd_one (c := .sl) (x := x) oII hc1 ?_
    rw [Int.toNat_natCast] at hx1'
    have hoi : ks[i]? = some ks[i] := List.getElem?_eq_getElem hio
    obtain ⟨hxr, _⟩ := r4 i x _ hx1' hoi
    have hkki := hkk _ (List.getElem_mem hio)
    refine Rd_has (c := .sl) (x := o.o.2.2.1) (hB.ex hx) (by kernel_rfl) rfl ?_
    refine Cl_gv (begins_gv x o.o.2.2.1 ks[i] o.key w' (hxr.ex hx) (hok.ex hx) (by omega)) fun w2 hx2 => ?_
    have htk : ks.take (i + 1) = ks.take i ++ [ks[i]] := by rw [List.take_add_one, hoi]; rfl
    refine Cd_dec (fun hb => ?_) (fun hb => ?_)
    · refine Wr_lit (f := slv) (e := 29) (base := w2.heap.size) [x] (by kernel_rfl) (Nat.le_refl _) (by simp) fun s3 w3 ho3 hx3 _ => ?_
      have hx03 := (hx.trans hx2).trans hx3
      refine Wr_append tII iII rfl (ho.ex (hx2.trans hx3)) ho3.rds (fun y => rfl) (by simp; omega) (by simp; omega) hx03.size fun s4 w4 ho4 hm4 _ => ?_
      unfold culletlaw12_TrieViews.j6
      rw [wrap64 (x := (i : Int) + 1) (by omega) (by omega)]
      have hfl : (ks.take (i + 1)).filter (fun k => decide (o.key <+: k)) = (ks.take i).filter (fun k => decide (o.key <+: k)) ++ [ks[i]] := by
        rw [htk, List.filter_append]
        simp [hb]
      refine hk _ _ ⟨hx03.into hm4 (fun b hb => (ho.base b hb).1), rfl, rfl, rfl, rfl, rfl, rfl, rfl, rfl, rfl, i + 1, by omega, by simp, us ++ [x], ho4, ?_, fun j s' q hj hq => ?_⟩ (by simp only; omega)
      · rw [hfl]; simp [hul]
      · rw [hfl] at hq
        rcases snoc_cases hj with ⟨hj', hjl⟩ | ⟨rfl, rfl⟩
        · rw [List.getElem?_append_left (by rw [← hul]; exact hjl)] at hq
          exact hus j s' q hj' hq
        · rw [hul, List.getElem?_append_right (Nat.le_refl _), Nat.sub_self] at hq
          obtain rfl : ks[i] = q := by simpa using hq
          exact hxr
    · unfold culletlaw12_TrieViews.j6
      rw [wrap64 (x := (i : Int) + 1) (by omega) (by omega)]
      have hfl : (ks.take (i + 1)).filter (fun k => decide (o.key <+: k)) = (ks.take i).filter (fun k => decide (o.key <+: k)) := by
        rw [htk, List.filter_append]
        simp [hb]
      refine hk _ _ ⟨hx.trans hx2, rfl, rfl, rfl, rfl, rfl, rfl, rfl, rfl, rfl, i + 1, by omega, by simp, us, ho.ex hx2, ?_, ?_⟩ (by simp only; omega)
      · rw [hfl]; exact hul
      · rw [hfl]; exact hus
  · have hil : i = ks.length := by omega
    subst hil
    rw [List.take_length] at hul hus
    refine Calls.mono (under_ok (hst.ex hx) a4 o.key (hkey.ex hx) (by omega)) ?_
    rintro en w2 ⟨s2, ks2, rfl, hn2, hku2, hx2⟩
    refine ⟨s2, rfl, ?_⟩
    have heq : ks2 = ks.filter fun k => decide (o.key <+: k) := by
      refine sorted_unique _ _ hku2.order (hku.order.filter _) fun x => ?_
      rw [List.mem_filter, hku2.mem, hku.mem]
      simp [List.nil_prefix]
    subst heq
    refine Cl_gv (sameKeys_gv s2 wt _ _ _ (fun _ => True) w2 hn2.nest ⟨us, (ho.ex hx2).rds, hul, fun _ _ => trivial, fun j s' q hj hq => ⟨(hus j s' q hj hq).ex (hx.trans hx2), fun _ _ => trivial⟩⟩ ⟨by have := List.length_filter_le (fun k => decide (o.key <+: k)) ks; omega, fun l hl' => by have := hkk l (List.mem_filter.1 hl').1; omega⟩) fun w3 hx3 => ?_
    have k3 := (hx.trans hx2).trans hx3
    refine Cd_not (fun h => by simp at h) (fun _ => ?_)
    exact views_j2 (hst.ex k3) hc (hB.ex k3) (fun w4 hx4 => hK w4 (k3.trans hx4))
end
theorem put_first {es : List Ent} {lim : Int} {l : Path} {v : List (List Int)} (h : 1 ≤ lim) : ∃ r, (putE es lim l v).map (·.1) = l :: r := by
  unfold putE
  obtain ⟨n, hn⟩ : ∃ n, lim.toNat = n + 1 := ⟨lim.toNat - 1, by omega⟩
  rw [hn, List.take_succ_cons, List.map_cons]
  exact ⟨_, rfl⟩
theorem views_law (lim : Int) (s : Sl) (os : List OpK) (w : World) (hs : Script w s os) : Gv Try.prog 9 #[.int .i64 lim, slv s] (.bool true) w := by
  obtain ⟨hra, hops, hsm⟩ := hs
  refine culletlaw12_TrieViews.run _ lim s w ?_
  unfold culletlaw12_TrieViews.M
  refine Calls.mono (new_ok lim w) ?_
  rintro en w1 ⟨hx1, (⟨hb, rfl⟩ | ⟨hb, tb, rfl, htb, hst⟩)⟩
  · refine ⟨(none, 7, ()), rfl, ?_⟩
    refine Cl_gv (fixed_gv w1) fun w2 hx2 => ?_
    have fin : ∀ b, b = false → culletlaw12_TrieViews.j1 (fun en w' => en = Ending.returned (.bool true) ∧ Ex w w') lim s none 7 b w2 := by
      rintro b rfl
      unfold culletlaw12_TrieViews.j1
      refine Cd_f (Cd_t ?_)
      refine Pu_eqnil tT ?_
      exact ⟨rfl, hx1.trans hx2⟩
    refine Cd_f ?_
    refine Cd_dec (fun h => fin _ ?_) (fun _ => fin _ rfl)
    have : ¬ lim ≤ 1024 := by omega
    simp [this]
  · refine ⟨(some ⟨tb, 0, none⟩, 0, ()), rfl, ?_⟩
    refine Cl_gv (fixed_gv w1) fun w2 hx2 => ?_
    have hl1 : lim ≥ 1 := by omega
    have hl2 : lim ≤ 1024 := by omega
    refine Cd_f ?_
    refine Cd_dec (fun _ => ?_) (fun h => absurd hl1 h)
    rw [show (!((((0 : Int) == 0)) == (decide (lim ≤ 1024)))) = false by simp [hl2]]
    unfold culletlaw12_TrieViews.j1
    refine Cd_f (Cd_f ?_)
    unfold culletlaw12_TrieViews.l1
    have hlen : s.len = os.length := by rw [hra.1, List.length_map]
    rw [hlen]
    refine loopW_of (fun st w' => st.1 = lim ∧ st.2.1 = some ⟨tb, 0, none⟩ ∧ st.2.2.1 = s ∧ st.2.2.2.1 = (os.length : Int) ∧ ∃ i : Nat, i ≤ os.length ∧ st.2.2.2.2.1 = (i : Int) ∧ Ex w w' ∧ ∃ own es clock, (∀ b, own b → w.heap.size ≤ b) ∧ TrieSt w' own tb lim es clock ∧ clock ≤ 2 * i) (fun st _ => os.length - st.2.2.2.2.1.toNat) ?_
      ⟨rfl, rfl, rfl, rfl, 0, Nat.zero_le _, rfl, hx1.trans hx2, _, [], 0, fun b hb => hb.1, hst.ex hx2, by omega⟩
    rintro k ⟨a1, a2, a3, a4, i', u⟩ w' hI hk
    dsimp only at hI hk ⊢
    obtain ⟨rfl, rfl, rfl, rfl, i, hi, rfl, hx, own, es, clock, hown, hst', hclk⟩ := hI
    unfold culletlaw12_TrieViews.b1
    refine Cd_dec (fun hlt => ?_) (fun hge => ?_)
    rotate_left
    · refine Cl_gv (view_gv hst' (by omega)) fun w3 hx3 => ?_
      exact ⟨rfl, hx.trans hx3⟩
    have hio : i < os.length := by omega
    refine Pu_idxA (hra.ex hx) tOps (by kernel_rfl) (by omega) (by rw [List.length_map]; omega) fun a ov hov hc hbk => ?_
    rw [Int.toNat_natCast, List.getElem?_map, List.getElem?_eq_getElem hio] at hov
    have hov : os[i].o = ov := by simpa using hov
    subst hov
    have hop := hops os[i] (List.getElem_mem hio)
    generalize os[i] = o at *
    refine Rd_agg (x := o.o) (by kernel_rfl) hc ?_
    refine Wr_alloc (z := .agg (encAts oAts ((0, 0, nilS, nilS, ()) : OpT)).toArray) (by kernel_rfl) fun w3 hB3 hx3 => ?_
    refine Wu_store (v := .agg (encAts oAts o.o).toArray) hB3 (by kernel_rfl) (op_one o.o) (Nat.le_of_ble_eq_true (by kernel_rfl)) fun w4 hB4 hm4 => ?_
    have hB4' : Has w4 w'.heap.size (opV o.o) 32 := hB4
    have hx4 : Ex w' w4 := hx3.into hm4 (fun i hi => by rw [hi]; exact Nat.le_refl _)
    have hxw4 := hx.trans hx4
    have hst4 := hst'.ex hx4
    have hob : ¬ own w'.heap.size := fun ho => Nat.lt_irrefl _ (hst'.ownL _ ho)
    refine Rd_has (c := .sl) (x := o.o.2.2.1) hB4' (by kernel_rfl) rfl ?_
    refine Cl_sl (copyKey_sl o.o.2.2.1 o.key w4 (hop.1.ex hxw4) hop.2.1) fun s5 w5 ho5 hx5 => ?_
    have hkb : ∀ b, SlIn s5 b → ¬ own b := fun b hb ho => by have := (ho5.base b hb).1; have := hst4.ownL _ ho; omega
    have hxw5 := hxw4.trans hx5
    have hst5 := hst4.ex hx5
    have hB5 := hB4'.ex hx5
    have hkl := hop.2.1
    obtain ⟨p1, p2, p3, p4⟩ := hop
    have go : ∀ w' own' es' c', Ex w w' → (∀ b, own' b → w.heap.size ≤ b) → TrieSt w' own' tb a1 es' c' → c' ≤ clock + 2 → k (a1, some ⟨tb, 0, none⟩, a3, (os.length : Int), IntKind.wrap .i64 ((i : Int) + 1), ()) w' := by
      intro w6 own' es' c' q1 q2 q3 q4
      rw [wrap64 (x := (i : Int) + 1) (by omega) (by omega)]
      exact hk _ _ ⟨rfl, rfl, rfl, rfl, i + 1, by omega, by simp, q1, own', es', c', q2, q3, by omega⟩ (by simp only; omega)
    -- the end of a step
    have fin : ∀ w6 own' es' c', Ex w w6 → (∀ b, own' b → w.heap.size ≤ b) → TrieSt w6 own' tb a1 es' c' → c' ≤ clock + 1 → Has w6 w'.heap.size (opV o.o) 32 → culletlaw12_TrieViews.j2 (fun en w' => en = Ending.returned (.bool true) ∧ Ex w w') k a1 (some ⟨tb, 0, none⟩) ⟨w'.heap.size, 0, none⟩ a3 (os.length : Int) (i : Int) w6 := by
      intro w6 own' es' c' q1 q2 q3 q4 q5
      exact views_j2 q3 (by omega) q5 (fun w7 hx7 => go w7 own' es' c' (q1.trans hx7) q2 (q3.ex hx7) (by omega))
    refine Rd_has (c := .int .i64) (x := o.o.1) hB5 (by kernel_rfl) rfl ?_
    refine Cd_eq (fun _ => ?_) (fun _ => Cd_eq (fun _ => ?_) (fun _ => Cd_eq (fun _ => ?_) (fun _ => Cd_eq (fun _ => ?_) (fun _ => ?_))))
    · -- Put
      refine Rd_has (c := .sl) (x := o.o.2.2.2.1) hB5 (by kernel_rfl) rfl ?_
      refine Calls.mono (copyValue_nest o.o.2.2.2.1 o.val _ w5 (p3.ex hxw5) p4) ?_
      rintro en w6 ⟨s6, rfl, hn6, hx6⟩
      refine ⟨s6, rfl, ?_⟩
      have hst6 := hst5.ex hx6
      refine Calls.mono (put_ok hst6 (by omega) s5 s6 o.key o.val (ho5.ex hx6).rds (by omega) (fun a ha ho => hkb _ (slin_of ha) ho) hn6.nest (fun b hb ho => ?_) p4) ?_
      · have := hb.1; have := hst5.ownL _ ho; omega
      rintro en w7 (⟨hg, rfl, hx7⟩ | ⟨hg, rfl, own2, b1, b2, hst7, hmo7⟩)
      · refine ⟨120, rfl, Cd_f ?_⟩
        exact fin w7 own es clock ((hxw5.trans hx6).trans hx7) hown (hst6.ex hx7) (by omega) ((hB5.ex hx6).ex hx7)
      · refine ⟨0, rfl, Cd_t ?_⟩
        have hxw7 := (hxw5.trans hx6).into hmo7 hown
        have hB7 := (hB5.ex hx6).mo hmo7 hob
        have hown2 : ∀ b, own2 b → w.heap.size ≤ b := fun b hb => (b2 b hb).elim (hown b) (fun g => by have := (hxw5.trans hx6).size; omega)
        refine Calls.mono (recent_ok hst7 (by omega)) ?_
        rintro en w8 ⟨s8, rfl, hn8, hx8⟩
        refine ⟨s8, rfl, ?_⟩
        obtain ⟨r, hr⟩ := put_first (es := es) (l := o.key) (v := o.val) hl1
        rw [hr] at hn8
        have hkl2 := good_len hg
        refine recent_first hn8.nest (hB7.ex hx8) (by omega) (p1.ex (hxw7.trans hx8)) (K := fun b v => culletlaw12_TrieViews.j4 (fun en w' => en = Ending.returned (.bool true) ∧ Ex w w') k a1 (some ⟨tb, 0, none⟩) ⟨w'.heap.size, 0, none⟩ a3 (os.length : Int) (i : Int) b v) fun w9 hx9 => ?_
        unfold culletlaw12_TrieViews.j4
        refine Cd_f ?_
        exact fin w9 own2 _ _ ((hxw7.trans hx8).trans hx9) hown2 ((hst7.ex hx8).ex hx9) (by omega) ((hB7.ex hx8).ex hx9)
    · -- Get
      refine Calls.mono (get_ok hst5 s5 o.key ho5.rds (by omega) (by omega)) ?_
      rintro en w6 (⟨_, rfl, hx6⟩ | ⟨v, hv, ⟨s6, rfl, _⟩, hst6, hmo6⟩)
      · exact ⟨(nilS, false, ()), rfl, Cd_f (fin w6 own es clock (hxw5.trans hx6) hown (hst5.ex hx6) (by omega) (hB5.ex hx6))⟩
      · refine ⟨(s6, true, ()), rfl, Cd_t ?_⟩
        have hxw6 := hxw5.into hmo6 hown
        have hB6 := hB5.mo hmo6 hob
        refine Calls.mono (recent_ok hst6 (by omega)) ?_
        rintro en w8 ⟨s8, rfl, hn8, hx8⟩
        refine ⟨s8, rfl, ?_⟩
        have hn8' : Nest i64v (fun b => w6.heap.size ≤ b ∧ b < w8.heap.size) w8 s8 (o.key :: (without es o.key).map (·.1)) := hn8.nest
        refine recent_first hn8' (hB6.ex hx8) (by omega) (p1.ex (hxw6.trans hx8)) (K := fun b v => culletlaw12_TrieViews.j5 (fun en w' => en = Ending.returned (.bool true) ∧ Ex w w') k a1 (some ⟨tb, 0, none⟩) ⟨w'.heap.size, 0, none⟩ a3 (os.length : Int) (i : Int) b v) fun w9 hx9 => ?_
        unfold culletlaw12_TrieViews.j5
        refine Cd_f ?_
        exact fin w9 own _ _ ((hxw6.trans hx8).trans hx9) hown ((hst6.ex hx8).ex hx9) (by omega) ((hB6.ex hx8).ex hx9)
    · -- Drop
      have hlens := hst5.lens
      refine Cl_gv (len_gv hst5) fun w6 hx6 => ?_
      have hst6 := hst5.ex hx6
      have ho6 := ho5.ex hx6
      refine Calls.mono (drop_ok hst6 s5 o.key ho6.rds (by omega) (fun a ha ho => hkb _ (slin_of ha) ho)) ?_
      rintro en w7 (⟨_, rfl, hx7⟩ | ⟨v, hv, rfl, hst7, hmo7⟩)
      · refine ⟨false, rfl, ?_⟩
        have hst7 := hst6.ex hx7
        refine Cl_gv (len_gv hst7) fun w8 hx8 => ?_
        have hne : ((es.length : Int) == IntKind.wrap .i64 ((es.length : Int) - 1)) = false := by
          rw [wrap64 (by omega) (by omega)]; simp; omega
        rw [hne]
        refine Cd_f ?_
        exact fin w8 own es clock (((hxw5.trans hx6).trans hx7).trans hx8) hown (hst7.ex hx8) (by omega) (((hB5.ex hx6).ex hx7).ex hx8)
      · refine ⟨true, rfl, ?_⟩
        refine Cl_gv (len_gv hst7) fun w8 hx8 => ?_
        have hwl := without_length hlens.1 hv
        have heq : (((without es o.key).length : Int) == IntKind.wrap .i64 ((es.length : Int) - 1)) = true := by
          rw [wrap64 (by omega) (by omega)]; simp; omega
        rw [heq]
        refine Cd_f ?_
        have hxw7 := (hxw5.trans hx6).into hmo7 hown
        exact fin w8 own _ clock (hxw7.trans hx8) hown (hst7.ex hx8) (by omega) (((hB5.ex hx6).mo hmo7 hob).ex hx8)
    · -- Under
      refine Calls.mono (gives_some hst5) ?_
      rintro en w6 ⟨s6, ks, rfl, hn6, hku, hkl6, hkk, hx6⟩
      refine ⟨s6, rfl, ?_⟩
      exact views_l2 (Ex.refl w6) (hst5.ex hx6) (by omega) (hB5.ex hx6) (ho5.ex hx6).rds (p1.ex (hxw5.trans hx6)) p2 hn6.nest hku hkl6 hkk fun w7 hx7 => go w7 own es clock ((hxw5.trans hx6).trans hx7) hown ((hst5.ex hx6).ex hx7) (by omega)
    · exact fin w5 own es clock hxw5 hown hst5 (by omega) hB5
end Go.Proofs.Ytdnlnloogfnlgaa
