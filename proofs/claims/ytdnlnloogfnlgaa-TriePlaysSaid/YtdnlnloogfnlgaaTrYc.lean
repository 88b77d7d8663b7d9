/- The document's trie: Recent, Under, All, Nodes. -/
import Derived.Test.YtdnlnloogfnlgaaTrYb
set_option linter.all false
namespace Go.Proofs.Ytdnlnloogfnlgaa
open Go Go.Cu Go.RowKit
set_option linter.unusedVariables false
set_option maxHeartbeats 4000000
theorem SrtAt.snoc {base : Nat} {w0 w1 w2 : World} {s s' row : Sl} {os : List Path} {l : Path} {ss : List Sl} (hb : base ≤ w0.heap.size) (q1 : Own slv 29 base w0 s ss) (q2 : ss.length = os.length)
    (q3 : ∀ (i : Nat) (s' : Sl) (l : Path), ss[i]? = some s' → os[i]? = some l → Rds i64v w0 s' l ∧ ∀ a, s'.base = some a → base ≤ a.block ∧ a.block < w0.heap.size ∧ ¬ SlIn s a.block) (hx : Ex w0 w1) (hr : Own i64v 3 w0.heap.size w1 row l)
    (ho : Own slv 29 base w2 s' (ss ++ [row])) (hm : Mo (SlIn s) w1 w2) (hin : ∀ b, SlIn s' b → SlIn s b ∨ w1.heap.size ≤ b) : SrtAt base w2 s' (os ++ [l]) := by
  have h1 := hx.size
  have h2 := hm.size
  refine ⟨_, ho, by simp [q2], fun i t k hi hk => ?_⟩
  rcases snoc_cases hi with ⟨hi', hlt⟩ | ⟨rfl, rfl⟩
  · rw [List.getElem?_append_left (by omega)] at hk
    obtain ⟨g1, g2⟩ := q3 i t k hi' hk
    refine ⟨(g1.ex hx).mo hm (fun a ha => (g2 a ha).2.2), fun a ha => ⟨(g2 a ha).1, by have := (g2 a ha).2.1; omega, fun hb => ?_⟩⟩
    rcases hin _ hb with g | g
    · exact (g2 a ha).2.2 g
    · have := (g2 a ha).2.1; omega
  · rw [q2, List.getElem?_append_right (Nat.le_refl _), Nat.sub_self] at hk
    obtain rfl : l = k := by simpa using hk
    have hnew : ∀ a, t.base = some a → w0.heap.size ≤ a.block ∧ a.block < w1.heap.size := fun a ha => hr.base _ (slin_of ha)
    have hold : ∀ b, SlIn s b → b < w0.heap.size := fun b hb => (q1.base b hb).2
    refine ⟨hr.rds.mo hm (fun a ha hb => by have := hnew a ha; have := hold _ hb; omega), fun a ha => ⟨by have := hnew a ha; omega, by have := hnew a ha; omega, fun hb => ?_⟩⟩
    rcases hin _ hb with g | g
    · have := hold _ g; have := hnew a ha; omega
    · have := hnew a ha; omega
theorem refRecent_ok {ro : Nat → Prop} {w : World} {rb : Nat} {lim : Int} {es : List Ent} {s : Sl} {bk : List HeldK} (h : RefSt ro w rb lim es s bk) (hlen : es.length ≤ 1024) :
    Calls Try.prog 59 #[.pointer (some ⟨rb, 0, none⟩)] w fun en w' => ∃ s1, en = .returned (slv s1) ∧ Nest i64v (fun _ => True) w' s1 (es.map (·.1)) ∧ Ex w w' := by
  have hbl : bk.length = es.length := by rw [← h.ents, List.length_map]
  refine culletref12_Trie_Recent.run _ _ w ?_
  unfold culletref12_Trie_Recent.M
  refine Pu_nil ?_
  refine Rd_has (c := .sl) (x := s) h.top (by kernel_rfl) rfl ?_
  unfold culletref12_Trie_Recent.l1
  have hat := h.at_
  rw [hat.len]
  refine loopW_of (fun st w' => st.2.1 = s ∧ st.2.2.1 = (bk.length : Int) ∧ Ex w w' ∧ ∃ i : Nat, i ≤ bk.length ∧ st.2.2.2.1 = (i : Int) ∧ SrtAt w.heap.size w' st.1 ((bk.map (·.key)).take i)) (fun st _ => bk.length - st.2.2.2.1.toNat) ?_
    ⟨rfl, rfl, Ex.refl w, 0, Nat.zero_le _, rfl, SrtAt.nil _ _⟩
  rintro k ⟨out, a1, a2, i', u⟩ w' hI hk
  dsimp only at hI hk ⊢
  obtain ⟨rfl, rfl, hx, i, hi, rfl, hso⟩ := hI
  unfold culletref12_Trie_Recent.b1
  refine Cd_dec (fun hlt => ?_) (fun hge => ?_)
  · have hib : i < bk.length := by omega
    have h' := hat.ex hx
    refine Pu_idxA h'.sl tE sE (by omega) (by rw [List.length_map]; omega) fun a hv hhv hc _ => ?_
    rw [Int.toNat_natCast, List.getElem?_map, List.getElem?_eq_getElem hib] at hhv
    obtain rfl : bk[i].h = hv := by simpa using hhv
    refine Rd_agg (x := bk[i].h) aE hc ?_
    refine Wr_alloc (z := .agg (encAts hAts ((nilS, nilS, ()) : HT)).toArray) (by kernel_rfl) fun w3 hB3 hx3 => ?_
    refine Wu_store (v := .agg (encAts hAts bk[i].h).toArray) hB3 (by kernel_rfl) (held_one bk[i].h) (Nat.le_of_ble_eq_true (by kernel_rfl)) fun w4 hB4 hm4 => ?_
    have hB4' : Has w4 w'.heap.size [slv bk[i].h.1, slv bk[i].h.2.1] 99 := hB4
    have hx4 : Ex w' w4 := hx3.into hm4 (fun i hi => by rw [hi]; exact Nat.le_refl _)
    refine Rd_has (c := .sl) (x := bk[i].h.1) hB4' (by kernel_rfl) rfl ?_
    have hm := List.getElem_mem hib
    have hl := (hat.lens _ hm).1
    refine Cl_sl (copyKey_sl bk[i].h.1 bk[i].key w4 ((h'.keys _ hm).1.ex hx4) (by omega)) fun s5 w5 ho5 hx5 => ?_
    refine Wr_lit (f := slv) (e := 29) (base := w5.heap.size) [s5] (by kernel_rfl) (Nat.le_refl _) (by simp) fun s6 w6 ho6 hx6 _ => ?_
    obtain ⟨ss, q1, q2, q3⟩ := hso
    have hssl : ss.length ≤ 1024 := by rw [q2, List.length_take, List.length_map]; omega
    have k46 := (hx4.trans hx5).trans hx6
    have k06 := hx.trans k46
    refine Wr_append tII iII rfl (q1.ex k46) ho6.rds (fun y => rfl) (by simp; omega) (by simp; omega) k06.size fun s7 w7 ho7 hm7 hin7 => ?_
    rw [wrap64 (x := (i : Int) + 1) (by omega) (by omega)]
    refine hk _ _ ⟨rfl, rfl, k06.into hm7 (fun b hb => (q1.base b hb).1), i + 1, by omega, by simp, ?_⟩ (by simp only; omega)
    have htk : (bk.map (·.key)).take (i + 1) = (bk.map (·.key)).take i ++ [bk[i].key] := by
      rw [List.take_add_one, List.getElem?_map, List.getElem?_eq_getElem hib]; rfl
    rw [htk]
    exact SrtAt.snoc hx.size q1 q2 q3 k46 ((ho5.ex hx6).weak hx4.size) ho7 hm7 hin7
  · have : i = bk.length := by omega
    subst this
    rw [List.take_of_length_le (by rw [List.length_map]; omega), h.keys] at hso
    exact ⟨out, rfl, hso.nest.weak (fun _ _ => trivial), hx⟩
theorem refUnder_ok {ro : Nat → Prop} {w : World} {rb : Nat} {lim : Int} {es : List Ent} {s pS : Sl} {bk : List HeldK} {q : Path} (h : RefSt ro w rb lim es s bk) (hlen : es.length ≤ 1024) (hp : Rds i64v w pS q) :
    Calls Try.prog 60 #[.pointer (some ⟨rb, 0, none⟩), slv pS] w fun en w' => ∃ s1 ks, en = .returned (slv s1) ∧ Nest i64v (fun _ => True) w' s1 ks ∧ KeysUnder es q ks ∧ Ex w w' := by
  have hbl : bk.length = es.length := by rw [← h.ents, List.length_map]
  refine culletref12_Trie_Under.run _ _ pS w ?_
  unfold culletref12_Trie_Under.M
  refine Pu_nil ?_
  refine Rd_has (c := .sl) (x := s) h.top (by kernel_rfl) rfl ?_
  unfold culletref12_Trie_Under.l1
  have hat := h.at_
  rw [hat.len]
  refine loopW_of (fun st w' => st.1 = pS ∧ st.2.2.1 = s ∧ st.2.2.2.1 = (bk.length : Int) ∧ Ex w w' ∧ ∃ i : Nat, i ≤ bk.length ∧ st.2.2.2.2.1 = (i : Int) ∧ ∃ us : List Sl, Own slv 29 w.heap.size w' st.2.1 us ∧ us.length = (((bk.map (·.key)).take i).filter fun k => decide (q <+: k)).length ∧
      ∀ (j : Nat) s' k, us[j]? = some s' → (((bk.map (·.key)).take i).filter fun k => decide (q <+: k))[j]? = some k → Rds i64v w s' k ∧ ∀ a, s'.base = some a → ro a.block) (fun st _ => bk.length - st.2.2.2.2.1.toNat) ?_
    ⟨rfl, rfl, rfl, Ex.refl w, 0, Nat.zero_le _, rfl, [], Own.nil _ _ _ _, rfl, fun j s' k hj => by simp at hj⟩
  rintro k ⟨a1, out, a2, a3, i', u⟩ w' hI hk
  dsimp only at hI hk ⊢
  obtain ⟨rfl, rfl, rfl, hx, i, hi, rfl, us, ho, hul, hus⟩ := hI
  unfold culletref12_Trie_Under.b1
  have hml : (bk.map (·.key)).length = bk.length := List.length_map _
  have hfl := List.length_filter_le (fun k => decide (q <+: k)) ((bk.map (·.key)).take i)
  rw [List.length_take] at hfl
  refine Cd_dec (fun hlt => ?_) (fun hge => ?_)
  · have hib : i < bk.length := by omega
    have h' := hat.ex hx
    refine Pu_idxA h'.sl tE sE (by omega) (by rw [List.length_map]; omega) fun a hv hhv hc _ => ?_
    rw [Int.toNat_natCast, List.getElem?_map, List.getElem?_eq_getElem hib] at hhv
    obtain rfl : bk[i].h = hv := by simpa using hhv
    refine Rd_agg (x := bk[i].h) aE hc ?_
    refine Wr_alloc (z := .agg (encAts hAts ((nilS, nilS, ()) : HT)).toArray) (by kernel_rfl) fun w3 hB3 hx3 => ?_
    refine Wu_store (v := .agg (encAts hAts bk[i].h).toArray) hB3 (by kernel_rfl) (held_one bk[i].h) (Nat.le_of_ble_eq_true (by kernel_rfl)) fun w4 hB4 hm4 => ?_
    have hB4' : Has w4 w'.heap.size [slv bk[i].h.1, slv bk[i].h.2.1] 99 := hB4
    have hx4 : Ex w' w4 := hx3.into hm4 (fun i hi => by rw [hi]; exact Nat.le_refl _)
    have k4 := hx.trans hx4
    refine Rd_has (c := .sl) (x := bk[i].h.1) hB4' (by kernel_rfl) rfl ?_
    have hm := List.getElem_mem hib
    have hl := (hat.lens _ hm).1
    obtain ⟨hkr, hkb⟩ := hat.keys _ hm
    refine Cl_gv (begins_gv bk[i].h.1 a1 bk[i].key q w4 (hkr.ex k4) (hp.ex k4) (by omega)) fun w5 hx5 => ?_
    have k5 := k4.trans hx5
    have htk : (bk.map (·.key)).take (i + 1) = (bk.map (·.key)).take i ++ [bk[i].key] := by
      rw [List.take_add_one, List.getElem?_map, List.getElem?_eq_getElem hib]; rfl
    refine Cd_dec (fun hb => ?_) (fun hb => ?_)
    · refine Rd_has (c := .sl) (x := bk[i].h.1) (hB4'.ex hx5) (by kernel_rfl) rfl ?_
      refine Wr_lit (f := slv) (e := 29) (base := w5.heap.size) [bk[i].h.1] (by kernel_rfl) (Nat.le_refl _) (by simp) fun s6 w6 ho6 hx6 _ => ?_
      have k6 := k5.trans hx6
      refine Wr_append tII iII rfl (ho.ex ((hx4.trans hx5).trans hx6)) ho6.rds (fun y => rfl) (by simp; omega) (by simp; omega) k6.size fun s7 w7 ho7 hm7 _ => ?_
      unfold culletref12_Trie_Under.j1
      rw [wrap64 (x := (i : Int) + 1) (by omega) (by omega)]
      have hfl2 : ((bk.map (·.key)).take (i + 1)).filter (fun k => decide (q <+: k)) = ((bk.map (·.key)).take i).filter (fun k => decide (q <+: k)) ++ [bk[i].key] := by
        rw [htk, List.filter_append]
        simp [hb]
      refine hk _ _ ⟨rfl, rfl, rfl, k6.into hm7 (fun b hb => (ho.base b hb).1), i + 1, by omega, by simp, us ++ [bk[i].h.1], ho7, ?_, fun j s' k' hj hk' => ?_⟩ (by simp only; omega)
      · rw [hfl2]; simp [hul]
      · rw [hfl2] at hk'
        rcases snoc_cases hj with ⟨hj', hjl⟩ | ⟨rfl, rfl⟩
        · rw [List.getElem?_append_left (by rw [← hul]; exact hjl)] at hk'
          exact hus j s' k' hj' hk'
        · rw [hul, List.getElem?_append_right (Nat.le_refl _), Nat.sub_self] at hk'
          obtain rfl : bk[i].key = k' := by simpa using hk'
          exact ⟨hkr, hkb⟩
    · unfold culletref12_Trie_Under.j1
      rw [wrap64 (x := (i : Int) + 1) (by omega) (by omega)]
      have hfl2 : ((bk.map (·.key)).take (i + 1)).filter (fun k => decide (q <+: k)) = ((bk.map (·.key)).take i).filter (fun k => decide (q <+: k)) := by
        rw [htk, List.filter_append]
        simp [hb]
      refine hk _ _ ⟨rfl, rfl, rfl, k5, i + 1, by omega, by simp, us, ho.ex (hx4.trans hx5), ?_, ?_⟩ (by simp only; omega)
      · rw [hfl2]; exact hul
      · rw [hfl2]; exact hus
  · have : i = bk.length := by omega
    subst this
    rw [List.take_of_length_le (by omega), h.keys] at hul hus
    have hfle := List.length_filter_le (fun k => decide (q <+: k)) (es.map (·.1))
    rw [List.length_map] at hfle
    have hkl : ∀ k ∈ (es.map (·.1)).filter (fun k => decide (q <+: k)), k.length ≤ 300 := fun k hk => by
      have hk1 := (List.mem_filter.1 hk).1
      rw [← h.keys] at hk1
      obtain ⟨x, hxm, rfl⟩ := List.mem_map.1 hk1
      have := (hat.lens x hxm).1
      omega
    refine Calls.mono (sorted_ok (F := fun b => b < w'.heap.size) out _ w' ⟨us, ho.rds, hul, fun a ha => (ho.base _ (slin_of ha)).2, fun j s' k hj hk => ⟨(hus j s' k hj hk).1.ex hx, fun a ha => ?_⟩⟩ (fun b hb => hb) (by omega) hkl) ?_
    · have := h.low _ ((hus j s' k hj hk).2 a ha); have := hx.size; omega
    rintro en w2 ⟨s2, os, rfl, hn2, hos, hom, hx2⟩
    refine ⟨s2, rfl, s2, os, rfl, hn2.weak (fun _ _ => trivial), ⟨hos, fun x => ?_⟩, hx.trans hx2⟩
    rw [hom, List.mem_filter, List.mem_map]
    simp
theorem refAll_ok {ro : Nat → Prop} {w : World} {rb : Nat} {lim : Int} {es : List Ent} {s : Sl} {bk : List HeldK} (h : RefSt ro w rb lim es s bk) (hlen : es.length ≤ 1024) :
    Calls Try.prog 61 #[.pointer (some ⟨rb, 0, none⟩)] w fun en w' => ∃ s1 ks, en = .returned (slv s1) ∧ Nest i64v (fun _ => True) w' s1 ks ∧ KeysUnder es [] ks ∧ Ex w w' := by
  refine culletref12_Trie_All.run _ _ w ?_
  unfold culletref12_Trie_All.M
  refine Calls.mono (refUnder_ok h hlen (pS := nilS) (q := []) (Rds.nil _ _)) ?_
  rintro en w1 ⟨s1, ks, rfl, h1, h2, h3⟩
  exact ⟨s1, rfl, s1, ks, rfl, h1, h2, h3⟩
theorem refNodes_ok {ro : Nat → Prop} {w : World} {rb : Nat} {lim : Int} {es : List Ent} {s : Sl} {bk : List HeldK} (h : RefSt ro w rb lim es s bk) (hn : (es.map (·.1)).Nodup) (hlen : es.length ≤ 1024) (hkl : ∀ k ∈ es.map (·.1), k.length ≤ 256) {L : List Path} (hL : Begun (es.map (·.1)) L) :
    Gv Try.prog 58 #[.pointer (some ⟨rb, 0, none⟩)] (.int .i64 (L.length : Int)) w := by
  refine culletref12_Trie_Nodes.run _ _ w ?_
  unfold culletref12_Trie_Nodes.M
  refine Calls.mono (refAll_ok h hlen) ?_
  rintro en w1 ⟨s1, ks, rfl, hn1, hku, hx1⟩
  refine ⟨s1, rfl, ?_⟩
  have hks : ks.length ≤ 1024 := by
    have := nodup_sub_len ks (es.map (·.1)) hku.nodup (fun x hx => (hku.all x).1 hx)
    rw [List.length_map] at this
    omega
  refine Cl_gv (beginnings_gv s1 ks w1 hn1 hks (fun k hk => by have := hkl k ((hku.all k).1 hk); omega)) fun w2 hx2 => ?_
  rw [begun_len hku.order (hL.congr (fun x => (hku.all x).symm))]
  exact ⟨rfl, hx1.trans hx2⟩
end Go.Proofs.Ytdnlnloogfnlgaa
