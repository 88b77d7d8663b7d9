/- TrieNew: which limits have a trie; a nil trie keeps nothing. -/
import Derived.Test.YtdnlnloogfnlgaaTrGa
import Derived.Test.YtdnlnloogfnlgaaTrU
set_option linter.all false
namespace Go.Proofs.Ytdnlnloogfnlgaa
open Go Go.Cu Go.RowKit
set_option linter.unusedVariables false
set_option maxHeartbeats 4000000
theorem find_nil (s : Sl) (w : World) : Gv Try.prog 51 #[.pointer none, slv s] (.pointer none) w := by
  refine trie_Trie_find.run _ _ s w ?_
  unfold trie_Trie_find.M
  refine Pu_eqnil tT ?_
  refine Cd_t ?_
  unfold trie_Trie_find.j1
  exact Cd_t ⟨rfl, Ex.refl w⟩
theorem holder_nil (s : Sl) (w : World) : Gv Try.prog 42 #[.pointer none, slv s] (.pointer none) w := by
  refine trie_Trie_holder.run _ _ s w ?_
  unfold trie_Trie_holder.M
  refine Cl_gvp (find_nil s w) fun w1 hx1 => ?_
  refine Pu_nenil tN ?_
  refine Cd_f ?_
  unfold trie_Trie_holder.j1
  exact Cd_f ⟨rfl, hx1⟩
theorem put_nil (s v : Sl) (w : World) : Gv Try.prog 15 #[.pointer none, slv s, slv v] (.int .i64 1) w := by
  refine trie_Trie_Put.run _ _ s v w ?_
  unfold trie_Trie_Put.M
  refine Pu_eqnil tT ?_
  exact Cd_t ⟨rfl, Ex.refl w⟩
theorem get_nil (s : Sl) (w : World) : Gv Try.prog 19 #[.pointer none, slv s] (.tuple #[slv nilS, .bool false]) w := by
  refine trie_Trie_Get.run _ _ s w ?_
  unfold trie_Trie_Get.M
  refine Cl_gvp (holder_nil s w) fun w1 hx1 => ?_
  refine Pu_eqnil tN ?_
  exact Cd_t ⟨rfl, hx1⟩
theorem peek_nil (s : Sl) (w : World) : Gv Try.prog 20 #[.pointer none, slv s] (.tuple #[slv nilS, .bool false]) w := by
  refine trie_Trie_Peek.run _ _ s w ?_
  unfold trie_Trie_Peek.M
  refine Cl_gvp (holder_nil s w) fun w1 hx1 => ?_
  refine Pu_eqnil tN ?_
  exact Cd_t ⟨rfl, hx1⟩
theorem drop_nil (s : Sl) (w : World) : Gv Try.prog 22 #[.pointer none, slv s] (.bool false) w := by
  refine trie_Trie_Drop.run _ _ s w ?_
  unfold trie_Trie_Drop.M
  refine Cl_gvp (holder_nil s w) fun w1 hx1 => ?_
  refine Pu_eqnil tN ?_
  exact Cd_t ⟨rfl, hx1⟩
theorem len_nil (w : World) : Gv Try.prog 34 #[.pointer none] (.int .i64 0) w := by
  refine trie_Trie_Len.run _ _ w ?_
  unfold trie_Trie_Len.M
  refine Pu_eqnil tT ?_
  exact Cd_t ⟨rfl, Ex.refl w⟩
theorem nodes_nil (w : World) : Gv Try.prog 35 #[.pointer none] (.int .i64 0) w := by
  refine trie_Trie_Nodes.run _ _ w ?_
  unfold trie_Trie_Nodes.M
  refine Pu_eqnil tT ?_
  refine Cd_t ?_
  unfold trie_Trie_Nodes.j1
  exact Cd_t ⟨rfl, Ex.refl w⟩
theorem recent_nil (w : World) : Gv Try.prog 23 #[.pointer none] (slv nilS) w := by
  refine trie_Trie_Recent.run _ _ w ?_
  unfold trie_Trie_Recent.M
  refine Pu_eqnil tT ?_
  refine Cd_t ?_
  unfold trie_Trie_Recent.j1
  exact Cd_t ⟨rfl, Ex.refl w⟩
theorem under_nil (s : Sl) (w : World) : Gv Try.prog 29 #[.pointer none, slv s] (slv nilS) w := by
  refine trie_Trie_Under.run _ _ s w ?_
  unfold trie_Trie_Under.M
  refine Cl_gvp (find_nil s w) fun w1 hx1 => ?_
  refine Pu_eqnil tN ?_
  exact Cd_t ⟨rfl, hx1⟩
theorem gives_nil (w : World) : UnderGives none w (fun ks => ks = []) :=
  Calls.mono (under_nil nilS w) fun en w' ⟨he, hx⟩ => ⟨nilS, [], he, NestOwn.nil _ _ _ _ _, rfl, by simp, by simp, hx⟩
theorem KeysUnder.nodup {es : List Ent} {p : Path} {ks : List Path} (h : KeysUnder es p ks) : ks.Nodup :=
  h.order.imp fun {a b} hab e => by subst e; exact less_irr _ hab
theorem gives_some {w : World} {own : Nat → Prop} {tb : Nat} {lim clock : Int} {es : List Ent} (h : TrieSt w own tb lim es clock) : UnderGives (some ⟨tb, 0, none⟩) w (KeysUnder es []) := by
  obtain ⟨h1, h2, h3, h4, h5⟩ := h.lens
  refine Calls.mono (under_ok h nilS [] (Rds.nil _ _) (by simp)) ?_
  rintro en w' ⟨s', ks, rfl, hn, hk, hx⟩
  have hsub : ∀ k ∈ ks, k ∈ es.map (·.1) := fun k hk' => by
    obtain ⟨⟨e, he, hek⟩, _⟩ := (hk.mem k).1 hk'
    exact List.mem_map.2 ⟨e, he, hek⟩
  refine ⟨s', ks, rfl, hn, hk, ?_, fun k hk' => ?_, hx⟩
  · have := nodup_sub_len ks (es.map (·.1)) hk.nodup hsub
    rw [List.length_map] at this
    omega
  · have := h5 k (hsub k hk'); omega
theorem keysUnder_nil {ks : List Path} {p : Path} (h : KeysUnder [] p ks) : ks = [] := by
  cases ks with
  | nil => rfl
  | cons k r =>
    obtain ⟨⟨e, he, _⟩, _⟩ := (h.mem k).1 List.mem_cons_self
    simp at he
/-! ### The document's New -/
abbrev rAts : List At := [.int .i64, .sl]
abbrev RT : Type := Ats rAts
theorem ref_one (o : RT) : ∀ u ∈ (Value.agg (encAts rAts o).toArray).cells.toList, u.oneCell' = true := by
  intro u hu
  have hu : u ∈ encAts rAts o := hu
  simp only [rAts, encAts, List.mem_cons, List.not_mem_nil, or_false] at hu
  rcases hu with rfl | rfl <;> rfl
theorem load_ref {w : World} {b : Nat} {x : RT} (h : Has w b (encAts rAts x) 61) : (loadVar 61 ⟨b, 0, none⟩).run Try.prog w = .ok (.agg (encAts rAts x).toArray) w :=
  run_load_agg (P := Try.prog) (t := 61) (a := ⟨b, 0, none⟩) (cs := encAts rAts x) (by rw [encAts_len]; kernel_rfl) (fun j v hj => by rw [add_lit, h.cell]; exact hj)
theorem newR_ok (lim : Int) (w : World) : Calls Try.prog 33 #[.int .i64 lim] w fun en w' => Ex w w' ∧
    ((lim < 1 ∨ lim > 1024) ∧ en = .returned (.tuple #[.agg #[.int .i64 0, slv nilS], .int .i64 7]) ∨ ¬ (lim < 1 ∨ lim > 1024) ∧ en = .returned (.tuple #[.agg #[.int .i64 lim, slv nilS], .int .i64 0])) := by
  refine culletref12_New.run _ lim w ?_
  unfold culletref12_New.M
  refine Wr_alloc (z := .agg (encAts rAts ((0, nilS, ()) : RT)).toArray) (by kernel_rfl) fun w1 hB1 hx1 => ?_
  have fin : ∀ b : Bool, (b = true → lim < 1 ∨ lim > 1024) → (b = false → ¬ (lim < 1 ∨ lim > 1024)) → culletref12_New.j1 (fun en w' => Ex w w' ∧ ((lim < 1 ∨ lim > 1024) ∧ en = .returned (.tuple #[.agg #[.int .i64 0, slv nilS], .int .i64 7]) ∨ ¬ (lim < 1 ∨ lim > 1024) ∧ en = .returned (.tuple #[.agg #[.int .i64 lim, slv nilS], .int .i64 0]))) lim ⟨w.heap.size, 0, none⟩ b w1 := by
    intro b h1 h2
    unfold culletref12_New.j1
    refine Cd_of (fun hb => ?_) (fun hb => ?_)
    · refine Wu_store (v := .agg (encAts rAts ((0, nilS, ()) : RT)).toArray) hB1 (by kernel_rfl) (ref_one _) (Nat.le_of_ble_eq_true (by kernel_rfl)) fun w2 hB2 hm2 => ?_
      exact ⟨(0, nilS, ()), load_ref (x := (0, nilS, ())) hB2, hx1.into hm2 (fun i hi => by rw [hi]; exact Nat.le_refl _), .inl ⟨h1 hb, rfl⟩⟩
    · refine Wu_store (v := .agg (encAts rAts ((lim, nilS, ()) : RT)).toArray) hB1 (by kernel_rfl) (ref_one _) (Nat.le_of_ble_eq_true (by kernel_rfl)) fun w2 hB2 hm2 => ?_
      exact ⟨(lim, nilS, ()), load_ref (x := (lim, nilS, ())) hB2, hx1.into hm2 (fun i hi => by rw [hi]; exact Nat.le_refl _), .inr ⟨h2 hb, rfl⟩⟩
  exact Cd_dec (fun h => fin true (fun _ => .inl h) (fun h => by cases h)) (fun h => fin _ (fun h2 => .inr (of_decide_eq_true h2)) (fun h2 hn => by have := of_decide_eq_false h2; omega))
/-! ### A nil trie keeps nothing -/
theorem nothing_gv (s v : Sl) (l : Path) (ls : List (List Int)) (w : World) (hr : Rds i64v w s l) (hl : l.length ≤ 17592186044000) (hn : Nest b8 (fun _ => True) w v ls) (hle : RowsLe ls) : Gv Try.prog 32 #[slv s, slv v] (.bool true) w := by
  refine culletlaw12_nothing.run _ s v w ?_
  unfold culletlaw12_nothing.M
  refine Cl_sl (copyKey_sl s l w hr hl) fun s1 w1 ho1 hx1 => ?_
  refine Calls.mono (copyValue_nest v ls _ w1 (hn.ex hx1) hle) ?_
  rintro en w2 ⟨s2, rfl, hn2, hx2⟩
  refine ⟨s2, rfl, ?_⟩
  have k2 := hx1.trans hx2
  refine Cl_gv (put_nil s1 s2 w2) fun w3 hx3 => ?_
  have k3 := k2.trans hx3
  refine Cl_sl (copyKey_sl s l w3 (hr.ex k3) hl) fun s4 w4 ho4 hx4 => ?_
  have k4 := k3.trans hx4
  refine Cl_gv (d := .tup [.at .sl, .at .bool]) (x := (nilS, false, ())) (get_nil s4 w4) fun w5 hx5 => ?_
  have k5 := k4.trans hx5
  refine Cl_sl (copyKey_sl s l w5 (hr.ex k5) hl) fun s6 w6 ho6 hx6 => ?_
  have k6 := k5.trans hx6
  refine Cl_gv (d := .tup [.at .sl, .at .bool]) (x := (nilS, false, ())) (peek_nil s6 w6) fun w7 hx7 => ?_
  have k7 := k6.trans hx7
  refine Cd_f (Cd_f (Cd_f (Cd_f ?_)))
  unfold culletlaw12_nothing.j1
  refine Cd_f ?_
  refine Cl_sl (copyKey_sl s l w7 (hr.ex k7) hl) fun s8 w8 ho8 hx8 => ?_
  have k8 := k7.trans hx8
  refine Cl_gv (drop_nil s8 w8) fun w9 hx9 => ?_
  have k9 := k8.trans hx9
  refine Cd_f ?_
  refine Cl_gv (len_nil w9) fun w10 hx10 => ?_
  have k10 := k9.trans hx10
  refine Cd_f ?_
  refine Cl_gv (nodes_nil w10) fun w11 hx11 => ?_
  have k11 := k10.trans hx11
  refine Cd_f ?_
  refine Cl_gv (x := nilS) (d := .one (.at .sl)) (recent_nil w11) fun w12 hx12 => ?_
  have k12 := k11.trans hx12
  refine Cd_f ?_
  refine Cl_sl (copyKey_sl s l w12 (hr.ex k12) hl) fun s13 w13 ho13 hx13 => ?_
  have k13 := k12.trans hx13
  refine Cl_gv (x := nilS) (d := .one (.at .sl)) (under_nil s13 w13) fun w14 hx14 => ?_
  have k14 := k13.trans hx14
  unfold culletlaw12_nothing.j2
  refine Cd_f ?_
  refine Calls.mono (walked_ok (gives_nil w14)) ?_
  rintro en w15 ⟨s15, ks, rfl, hn15, rfl, _, _, hx15⟩
  refine ⟨s15, rfl, ?_⟩
  have := nest_len hn15.nest
  exact ⟨by rw [this]; rfl, k14.trans hx15⟩
theorem new_j2 {R : Ending → World → Prop} {t : Option Addr} {w : World} (h1 : ∀ w', Ex w w' → Gv Try.prog 34 #[.pointer t] (.int .i64 0) w') (h2 : ∀ w', Ex w w' → Gv Try.prog 35 #[.pointer t] (.int .i64 0) w')
    (h3 : ∀ w', Ex w w' → Calls Try.prog 23 #[.pointer t] w' fun en w'' => ∃ s : Sl, en = .returned (slv s) ∧ s.len = 0 ∧ Ex w' w'') (h4 : ∀ w', Ex w w' → Calls Try.prog 29 #[.pointer t, slv nilS] w' fun en w'' => ∃ s : Sl, en = .returned (slv s) ∧ s.len = 0 ∧ Ex w' w'')
    (hR : ∀ w', Ex w w' → R (.returned (.bool true)) w') : culletlaw12_TrieNew.j2 R t false w := by
  unfold culletlaw12_TrieNew.j2
  refine Cd_f ?_
  refine Cl_gv (h1 w (Ex.refl w)) fun w1 hx1 => ?_
  refine Cd_t ?_
  refine Cl_gv (h2 w1 hx1) fun w2 hx2 => ?_
  have k2 := hx1.trans hx2
  refine Cd_t ?_
  refine Calls.mono (h3 w2 k2) ?_
  rintro en w3 ⟨s3, rfl, hs3, hx3⟩
  have k3 := k2.trans hx3
  refine ⟨s3, rfl, ?_⟩
  refine Cd_eq (fun _ => ?_) (fun h => by omega)
  refine Calls.mono (h4 w3 k3) ?_
  rintro en w4 ⟨s4, rfl, hs4, hx4⟩
  refine ⟨s4, rfl, ?_⟩
  have h0 : (((s4.len : Nat) : Int) == 0) = true := by rw [hs4]; rfl
  show R (.returned (.bool (((s4.len : Nat) : Int) == 0))) w4
  rw [h0]
  exact hR w4 (k3.trans hx4)
theorem new_law (lim : Int) (s v : Sl) (l : Path) (ls : List (List Int)) (w : World) (hr : Rds i64v w s l) (hl : l.length ≤ 17592186044000) (hn : Nest b8 (fun _ => True) w v ls) (hle : RowsLe ls) : Gv Try.prog 7 #[.int .i64 lim, slv s, slv v] (.bool true) w := by
  refine culletlaw12_TrieNew.run _ lim s v w ?_
  unfold culletlaw12_TrieNew.M
  refine Cl_gv (fixed_gv w) fun w1 hx1 => ?_
  refine Cd_f ?_
  refine Cl_gv (nothing_gv s v l ls w1 (hr.ex hx1) hl (hn.ex hx1) hle) fun w2 hx2 => ?_
  have k2 := hx1.trans hx2
  unfold culletlaw12_TrieNew.j1
  refine Cd_f ?_
  refine Calls.mono (new_ok lim w2) ?_
  rintro en w3 ⟨hx3, (⟨hb, rfl⟩ | ⟨hb, tb, rfl, htb, hst⟩)⟩
  · refine ⟨(none, 7, ()), rfl, ?_⟩
    refine Calls.mono (newR_ok lim w3) ?_
    rintro en w4 ⟨hx4, (⟨_, rfl⟩ | ⟨hb2, _⟩)⟩
    · refine ⟨((0, nilS, ()), 7, ()), rfl, ?_⟩
      refine Wr_alloc (z := .agg (encAts rAts ((0, nilS, ()) : RT)).toArray) (by kernel_rfl) fun w5 hB5 hx5 => ?_
      refine Wu_store (v := .agg (encAts rAts ((0, nilS, ()) : RT)).toArray) hB5 (by kernel_rfl) (ref_one _) (Nat.le_of_ble_eq_true (by kernel_rfl)) fun w6 hB6 hm6 => ?_
      have k6 : Ex w w6 := ((k2.trans hx3).trans hx4).trans (hx5.into hm6 (fun i hi => by rw [hi]; exact Nat.le_refl _))
      refine Cd_f ?_
      refine Pu_nenil tT ?_
      exact new_j2 (fun w' _ => len_nil w') (fun w' _ => nodes_nil w') (fun w' _ => Calls.mono (recent_nil w') fun en w'' ⟨he, hx⟩ => ⟨nilS, he, rfl, hx⟩) (fun w' _ => Calls.mono (under_nil nilS w') fun en w'' ⟨he, hx⟩ => ⟨nilS, he, rfl, hx⟩) fun w' hx' => ⟨rfl, k6.trans hx'⟩
    · exact absurd hb hb2
  · refine ⟨(some ⟨tb, 0, none⟩, 0, ()), rfl, ?_⟩
    refine Calls.mono (newR_ok lim w3) ?_
    rintro en w4 ⟨hx4, (⟨hb2, _⟩ | ⟨_, rfl⟩)⟩
    · exact absurd hb2 hb
    · refine ⟨((lim, nilS, ()), 0, ()), rfl, ?_⟩
      refine Wr_alloc (z := .agg (encAts rAts ((0, nilS, ()) : RT)).toArray) (by kernel_rfl) fun w5 hB5 hx5 => ?_
      refine Wu_store (v := .agg (encAts rAts ((lim, nilS, ()) : RT)).toArray) hB5 (by kernel_rfl) (ref_one _) (Nat.le_of_ble_eq_true (by kernel_rfl)) fun w6 hB6 hm6 => ?_
      have k36 := hx4.trans (hx5.into hm6 (fun i hi => by rw [hi]; exact Nat.le_refl _))
      have k6 : Ex w w6 := (k2.trans hx3).trans k36
      have hst6 := hst.ex k36
      refine Cd_f ?_
      refine Pu_nenil tT ?_
      refine new_j2 (fun w' hx' => len_gv (hst6.ex hx')) (fun w' hx' => Calls.mono (nodes_ok (hst6.ex hx')) ?_) (fun w' hx' => Calls.mono (recent_ok (hst6.ex hx') (by omega)) ?_) (fun w' hx' => Calls.mono (gives_some (hst6.ex hx')) ?_) fun w' hx' => ⟨rfl, k6.trans hx'⟩
      · rintro en w'' ⟨L, hL, _, rfl, hx⟩
        have : L = [] := by
          cases L with
          | nil => rfl
          | cons q r =>
            obtain ⟨_, k, hk, _⟩ := (hL.2 q).1 List.mem_cons_self
            simp at hk
        subst this
        exact ⟨rfl, hx⟩
      · rintro en w'' ⟨s', rfl, hn', hx⟩
        exact ⟨s', rfl, by have := nest_len hn'.nest; simpa using this, hx⟩
      · rintro en w'' ⟨s', ks, rfl, hn', hk, _, _, hx⟩
        have hk0 := keysUnder_nil hk
        subst hk0
        exact ⟨s', rfl, by have := nest_len hn'.nest; simpa using this, hx⟩
end Go.Proofs.Ytdnlnloogfnlgaa
