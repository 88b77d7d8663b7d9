/- culletlaw12.TrieKeysMemory: the law. -/
import Derived.Test.YtdnlnloogfnlgaaTrKe
set_option linter.all false
namespace Go.Proofs.Ytdnlnloogfnlgaa
open Go Go.Cu Go.RowKit
set_option linter.unusedVariables false
set_option maxHeartbeats 4000000
theorem load_op {w : World} {b : Nat} {x : OpT} (h : Has w b (opV x) 32) : ∀ (j : Nat) v, (encAts oAts x)[j]? = some v → w.cell? ((⟨b, 0, none⟩ : Addr).add j) = some v := fun j v hj => by
  rw [add_lit, h.cell]; exact hj
theorem keys_end {W w : World} {own : Nat → Prop} {tb : Nat} {lim clock : Int} {es : List Ent} {t54 : Sl} {n : Int} {k1 : ((Option Addr) × Sl × Int × Int × Unit) → World → Prop} (hx : Ex W w) (hst : TrieSt w own tb lim es clock) (hc : clock < 4611686018427387904) (hown : ∀ b, own b → W.heap.size ≤ b) :
    culletlaw12_TrieKeysMemory.b1 (fun en w' => en = .returned (.bool true) ∧ Ex W w') k1 (some ⟨tb, 0, none⟩) t54 n n w := by
  obtain ⟨hnd, h1, h2, h3, h4⟩ := hst.lens
  unfold culletlaw12_TrieKeysMemory.b1
  refine Cd_dec (fun h => absurd h (Int.lt_irrefl _)) (fun _ => ?_)
  have hKl : (es.map (·.1)).length ≤ 1024 ∧ ∀ l ∈ es.map (·.1), l.length ≤ 300 := ⟨by rw [List.length_map]; omega, fun k hk => by have := h4 k hk; omega⟩
  refine Cl_of (recent_ok hst hc) ?_
  rintro en w1 ⟨s1, rfl, hn1, hx1⟩
  refine ⟨s1, rfl, ?_⟩
  refine Cl_of (gives_some (hst.ex hx1)) ?_
  rintro en w2 ⟨s2, ks, rfl, hn2, hku, hkl, hkk, hx2⟩
  refine ⟨s2, rfl, ?_⟩
  have same : ∀ ks2, KeysUnder es [] ks2 → ks2 = ks := fun ks2 h => sorted_unique _ _ h.order hku.order fun x => by rw [h.mem, hku.mem]
  refine Cl_of (copiedKeys_ok s1 _ _ w2 (hn1.nest.ex hx2) hKl) ?_
  rintro en w3 ⟨want, rfl, hn3, hx3⟩
  refine ⟨want, rfl, ?_⟩
  refine Cl_of (copiedKeys_ok s2 ks _ w3 (hn2.nest.ex hx3) ⟨hkl, hkk⟩) ?_
  rintro en w4 ⟨order, rfl, hn4, hx4⟩
  refine ⟨order, rfl, ?_⟩
  have hx14 := (hx1.trans hx2).trans (hx3.trans hx4)
  refine Cl_of (recent_ok (hst.ex hx14) hc) ?_
  rintro en w5 ⟨s5, rfl, hn5, hx5⟩
  refine ⟨s5, rfl, ?_⟩
  have hx15 := hx14.trans hx5
  refine Cl_of (gives_some (hst.ex hx15)) ?_
  rintro en w6 ⟨s6, ks6, rfl, hn6, hk6, _, _, hx6⟩
  refine ⟨s6, rfl, ?_⟩
  rw [same ks6 hk6] at hn6
  clear hk6
  have hx16 := hx15.trans hx6
  refine Cl_of (walked_ok (gives_some (hst.ex hx16))) ?_
  rintro en w7 ⟨s7, ks7, rfl, hn7, hk7, _, _, hx7⟩
  refine ⟨s7, rfl, ?_⟩
  rw [same ks7 hk7] at hn7
  clear hk7
  have hx17 := hx16.trans hx7
  refine Cl_of (walked_ok (gives_some (hst.ex hx17))) ?_
  rintro en w8 ⟨s8, ks8, rfl, hn8, hk8, _, _, hx8⟩
  refine ⟨s8, rfl, ?_⟩
  rw [same ks8 hk8] at hn8
  clear hk8
  have hx18 := hx17.trans hx8
  refine Wr_lit (f := slv) (e := 45) (base := w8.heap.size) [s1, s5, s2, s6, s7, s8] (by kernel_rfl) (Nat.le_refl _) (by simp) fun lists w9 ho9 hx9 hin9 => ?_
  have hx19 := hx18.trans hx9
  have z1 := hx1.size
  have z2 := hx2.size
  have z3 := hx3.size
  have z4 := hx4.size
  have z5 := hx5.size
  have z6 := hx6.size
  have z7 := hx7.size
  have z8 := hx8.size
  have z9 := hx9.size
  obtain ⟨ss1, m1⟩ := NestIn.of hn1
  obtain ⟨ss2, m2⟩ := NestIn.of hn2
  obtain ⟨ss5, m5⟩ := NestIn.of hn5
  obtain ⟨ss6, m6⟩ := NestIn.of hn6
  obtain ⟨ss7, m7⟩ := NestIn.of hn7
  obtain ⟨ss8, m8⟩ := NestIn.of hn8
  have x89 := hx9
  have x79 := hx8.trans x89
  have x69 := hx7.trans x79
  have x59 := hx6.trans x69
  have x49 := hx5.trans x59
  have x39 := hx4.trans x49
  have x29 := hx3.trans x39
  have x19 := hx2.trans x29
  obtain ⟨vs, hvs⟩ : ∃ vs : List Iv, vs = [⟨w.heap.size, w1.heap.size, s1, ss1⟩, ⟨w4.heap.size, w5.heap.size, s5, ss5⟩, ⟨w1.heap.size, w2.heap.size, s2, ss2⟩, ⟨w5.heap.size, w6.heap.size, s6, ss6⟩, ⟨w6.heap.size, w7.heap.size, s7, ss7⟩, ⟨w7.heap.size, w8.heap.size, s8, ss8⟩] := ⟨_, rfl⟩
  have hL : KLists w9 vs [es.map (·.1), es.map (·.1), ks, ks, ks, ks] := by
    rw [hvs]
    refine KLists.cons (KLists.cons (KLists.cons (KLists.cons (KLists.cons (KLists.cons (KLists.nil _) (m8.ex x89) (by simp) z8) (m7.ex x79) ?_ z7) (m6.ex x69) ?_ z6) (m2.ex x29) ?_ z2) (m5.ex x59) ?_ z5) (m1.ex x19) ?_ z1 <;>
    · intro u hu
      simp only [List.mem_cons, List.not_mem_nil, or_false] at hu
      rcases hu with rfl | rfl | rfl | rfl | rfl <;> dsimp only <;> omega
  have hupper : ∀ u ∈ vs, u.up ≤ w8.heap.size ∧ w.heap.size ≤ u.lo ∧ (u.up ≤ w2.heap.size ∨ w4.heap.size ≤ u.lo) := by
    rw [hvs]
    intro u hu
    simp only [List.mem_cons, List.not_mem_nil, or_false] at hu
    rcases hu with rfl | rfl | rfl | rfl | rfl | rfl <;> dsimp only <;> omega
  have hmap : vs.map (·.s) = [s1, s5, s2, s6, s7, s8] := by rw [hvs]; rfl
  clear hvs
  have hval : Own slv 45 w8.heap.size w9 lists (vs.map (·.s)) := by rw [hmap]; exact ho9
  have hval2 : ∀ b, SlIn lists b → ¬ InIv vs b := fun b hb ⟨u, hu, p, q⟩ => by
    have := hin9 b hb
    have := (hupper u hu).1
    omega
  have hsm : SmallK [es.map (·.1), es.map (·.1), ks, ks, ks, ks] := by
    intro g hg
    simp only [List.mem_cons, List.not_mem_nil, or_false] at hg
    rcases hg with rfl | rfl | rfl | rfl | rfl | rfl
    · exact hKl
    · exact hKl
    · exact ⟨hkl, hkk⟩
    · exact ⟨hkl, hkk⟩
    · exact ⟨hkl, hkk⟩
    · exact ⟨hkl, hkk⟩
  have h8 : [es.map (·.1), es.map (·.1), ks, ks, ks, ks].length ≤ 8 := by simp
  generalize [es.map (·.1), es.map (·.1), ks, ks, ks, ks] = L at hL hsm h8
  refine keys_l2 hL hval hval2 hsm h8 fun w10 hm10 hL10 hval10 => ?_
  have z10 := hm10.size
  have hfl : (fillKG L.length L).length ≤ 8 := by rw [fillKG_len]; exact h8
  refine keys_l5 (N := w9.heap.size) hL10 (fun u hu => by have := (hupper u hu).1; omega) z10 hval10 (fun b hb => ⟨(hval.base b hb).2, hval2 b hb⟩) (hsm.fill _) hfl fun w11 tails T hm11 hL11 hval11 hT => ?_
  refine keys_l8 hL11 (fun u hu => by have := (hupper u hu).1; omega) hval11 hval2 hT (fillKG_filled L) (hsm.fill _) hfl fun w12 hm12 => ?_
  have hall : Mo (InIv vs) w9 w12 := ((hm10.trans hm11 (Z := fun b => InIv vs b ∨ w9.heap.size ≤ b) (fun _ => .inl) (fun _ _ => id)).trans hm12 (fun _ => id) (fun _ _ => .inl)).weak (fun b hb h => h.elim id (fun h => by omega))
  have hlow : ∀ b, InIv vs b → w.heap.size ≤ b ∧ (b < w2.heap.size ∨ w4.heap.size ≤ b) := fun b ⟨u, hu, p, q⟩ => by
    obtain ⟨q1, q2, q3⟩ := hupper u hu
    omega
  have hW := hx.size
  have hst9 := hst.ex hx19
  refine keys_rest ((hx.trans hx19).into hall (fun b hb => by have := (hlow b hb).1; omega)) (hst9.mo hall (fun b hb hb2 => ?_)) hc ((hn3.nest.ex x39).mo hall (fun b hb hb2 => ?_)) ((hn4.nest.ex x49).mo hall (fun b hb hb2 => ?_)) hku
  · have := hst.ownL b hb
    have := (hlow b hb2).1
    omega
  · have := (hlow b hb2).2
    omega
  · have := (hlow b hb2).2
    omega
theorem keysmem_law (lim : Int) (s : Sl) (os : List OpK) (w : World) (hs : Script w s os) : Gv Try.prog 6 #[.int .i64 lim, slv s] (.bool true) w := by
  obtain ⟨hra, hops, hsm⟩ := hs
  refine culletlaw12_TrieKeysMemory.run _ lim s w ?_
  unfold culletlaw12_TrieKeysMemory.M
  refine Calls.mono (new_ok lim w) ?_
  rintro en w1 ⟨hx1, (⟨hb, rfl⟩ | ⟨hb, tb, rfl, htb, hst⟩)⟩
  · refine ⟨(none, 7, ()), rfl, ?_⟩
    refine Cl_gv (d := .one (.at .bool)) (x := true) (fixed_gv w1) fun w2 hx2 => ?_
    have fin : ∀ b, b = false → culletlaw12_TrieKeysMemory.j1 (fun en w' => en = Ending.returned (.bool true) ∧ Ex w w') s none 7 b w2 := by
      rintro b rfl
      unfold culletlaw12_TrieKeysMemory.j1
      refine Cd_f (Cd_t ?_)
      refine Pu_eqnil tT ?_
      exact ⟨rfl, hx1.trans hx2⟩
    refine Cd_f ?_
    refine Cd_dec (fun h => fin _ ?_) (fun _ => fin _ rfl)
    have : ¬ lim ≤ 1024 := by omega
    simp [this]
  · refine ⟨(some ⟨tb, 0, none⟩, 0, ()), rfl, ?_⟩
    refine Cl_gv (d := .one (.at .bool)) (x := true) (fixed_gv w1) fun w2 hx2 => ?_
    have hl1 : lim ≥ 1 := by omega
    have hl2 : lim ≤ 1024 := by omega
    refine Cd_f ?_
    refine Cd_dec (fun _ => ?_) (fun h => absurd hl1 h)
    rw [show (!((((0 : Int) == 0)) == (decide (lim ≤ 1024)))) = false by simp [hl2]]
    unfold culletlaw12_TrieKeysMemory.j1
    refine Cd_f (Cd_f ?_)
    unfold culletlaw12_TrieKeysMemory.l1
    have hlen : s.len = os.length := by rw [hra.1, List.length_map]
    rw [hlen]
    refine loopW_of (fun st w' => st.1 = some ⟨tb, 0, none⟩ ∧ st.2.1 = s ∧ st.2.2.1 = (os.length : Int) ∧ ∃ i : Nat, i ≤ os.length ∧ st.2.2.2.1 = (i : Int) ∧ Ex w w' ∧ ∃ own es clock, (∀ b, own b → w.heap.size ≤ b) ∧ TrieSt w' own tb lim es clock ∧ clock ≤ 2 * i) (fun st _ => os.length - st.2.2.2.1.toNat) ?_
      ⟨rfl, rfl, rfl, 0, Nat.zero_le _, rfl, hx1.trans hx2, _, [], 0, fun b hb => hb.1, hst.ex hx2, by omega⟩
    rintro k ⟨a1, a2, a3, i', u⟩ w' hI hk
    dsimp only at hI hk ⊢
    obtain ⟨rfl, rfl, rfl, i, hi, rfl, hx, own, es, clock, hown, hst', hclk⟩ := hI
    by_cases hlt : i < os.length
    rotate_left
    · obtain rfl : i = os.length := by omega
      exact keys_end hx hst' (by omega) hown
    unfold culletlaw12_TrieKeysMemory.b1
    refine Cd_dec (fun _ => ?_) (fun hge => absurd (by omega) hge)
    refine Pu_idxA (hra.ex hx) tOps (by kernel_rfl) (by omega) (by rw [List.length_map]; omega) fun a ov hov hc hbk => ?_
    rw [Int.toNat_natCast, List.getElem?_map, List.getElem?_eq_getElem hlt] at hov
    have hov : os[i].o = ov := by simpa using hov
    subst hov
    have hop := hops os[i] (List.getElem_mem hlt)
    generalize os[i] = o at *
    refine Rd_agg (x := o.o) (by kernel_rfl) hc ?_
    refine Wr_alloc (z := .agg (encAts oAts ((0, 0, nilS, nilS, ()) : OpT)).toArray) (by kernel_rfl) fun w3 hB3 hx3 => ?_
    refine Wu_store (v := .agg (encAts oAts o.o).toArray) hB3 (by kernel_rfl) (op_one o.o) (Nat.le_of_ble_eq_true (by kernel_rfl)) fun w4 hB4 hm4 => ?_
    have hB4' : Has w4 w'.heap.size (opV o.o) 32 := hB4
    have hx4 : Ex w' w4 := hx3.into hm4 (fun i hi => by rw [hi]; exact Nat.le_refl _)
    refine Rd_agg (x := o.o) (by kernel_rfl) (load_op hB4') ?_
    refine Cl_of (done_ok (hst'.ex hx4) (by omega) o (hop.ex (hx.trans hx4))) ?_
    rintro en w5 ⟨rfl, hsz, hm5, own2, es2, clock2, hown2, hst5, hclk2⟩
    refine ⟨(), rfl, ?_⟩
    rw [wrap64 (x := (i : Int) + 1) (by omega) (by omega)]
    have hx5 := (hx.trans hx4).into hm5 hown
    exact hk _ _ ⟨rfl, rfl, rfl, i + 1, by omega, by dsimp only; omega, hx5, own2, es2, clock2, fun b hb => (hown2 b hb).elim (hown b) (fun h => by have := (hx.trans hx4).size; omega), hst5, by omega⟩ (by simp only; omega)
end Go.Proofs.Ytdnlnloogfnlgaa
