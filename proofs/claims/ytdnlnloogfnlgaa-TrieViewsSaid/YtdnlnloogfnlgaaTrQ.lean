/- Put, whole. -/
import Derived.Test.YtdnlnloogfnlgaaTrP
set_option linter.all false
namespace Go.Proofs.Ytdnlnloogfnlgaa
open Go Go.Cu Go.RowKit
set_option linter.unusedVariables false
set_option maxHeartbeats 4000000
theorem Ents.put {es : List Ent} {ns ns2 : List Path} {y y2 : Lay} {lim clock : Int} {l : Path} {s2 : Sl} {v : List (List Int)} (h : Ents es ns y lim clock) (g : Grown l l.length ns y ns2 y2) (hg : goodB l = true) (hv : RowsLe v) (hroom : ((without es l).length : Int) + 1 ≤ lim) :
    Ents ((l, v) :: without es l) ns2 { y2 with here := upd y2.here l true, val := upd y2.val l s2, rows := upd y2.rows l v, used := upd y2.used l (clock + 1) } lim (clock + 1) := by
  have hl : l ∈ ns2 := (g.mem l).2 (.inr ⟨List.prefix_refl l, Nat.le_refl _⟩)
  have hw : ∀ e ∈ without es l, e ∈ es ∧ e.1 ≠ l := fun e he => mem_without.1 he
  have hu : ∀ e ∈ without es l, upd y2.used l (clock + 1) e.1 = y.used e.1 := fun e he => by
    rw [upd_other _ _ (hw e he).2]; exact (g.old _ (h.rows e (hw e he).1).1).2.2
  have hc0 := h.clk0
  refine { here := fun p hp => ?_, rows := fun e he => ?_, le := fun e he => ?_, nodup := ?_, order := ?_, clk := fun e he => ?_, clk0 := by omega, pos := fun e he => ?_, clean := fun p hp => ?_, good := fun e he => ?_, uniq := g.nodup h.uniq, room := ?_, lim1 := h.lim1, lim2 := h.lim2 }
  · show upd y2.here l true p = true ↔ _
    by_cases hpl : p = l
    · subst hpl
      rw [upd_same]
      exact ⟨fun _ => ⟨(p, v), List.mem_cons_self, rfl⟩, fun _ => rfl⟩
    · rw [upd_other _ _ hpl]
      by_cases hpn : p ∈ ns
      · rw [(g.old p hpn).1, h.here p hpn]
        constructor
        · rintro ⟨e, he, rfl⟩; exact ⟨e, List.mem_cons_of_mem _ (mem_without.2 ⟨he, hpl⟩), rfl⟩
        · rintro ⟨e, he, rfl⟩
          rcases List.mem_cons.1 he with rfl | he
          · exact absurd rfl hpl
          · exact ⟨e, (hw e he).1, rfl⟩
      · rw [(g.new p hp hpn).1]
        refine ⟨fun h => (by cases h), ?_⟩
        rintro ⟨e, he, rfl⟩
        rcases List.mem_cons.1 he with rfl | he
        · exact absurd rfl hpl
        · exact absurd (h.rows e (hw e he).1).1 hpn
  · show e.1 ∈ ns2 ∧ upd y2.rows l v e.1 = e.2
    rcases List.mem_cons.1 he with rfl | he
    · exact ⟨hl, upd_same _ _ _⟩
    · have := h.rows e (hw e he).1
      rw [upd_other _ _ (hw e he).2, (g.old _ this.1).2.1]
      exact ⟨(g.mem _).2 (.inl this.1), this.2⟩
  · rcases List.mem_cons.1 he with rfl | he
    · exact hv
    · exact h.le e (hw e he).1
  · rw [List.map_cons, List.nodup_cons]
    refine ⟨fun hm => ?_, without_nodup h.nodup⟩
    obtain ⟨e, he, hel⟩ := List.mem_map.1 hm
    exact (hw e he).2 hel
  · rw [List.pairwise_cons]
    constructor
    · intro e he
      show upd y2.used l (clock + 1) e.1 < upd y2.used l (clock + 1) l
      rw [hu e he, upd_same]
      have := h.clk e (hw e he).1
      omega
    · refine List.Pairwise.imp_of_mem ?_ (h.order.sublist (List.filter_sublist : (without es l).Sublist es))
      intro a b ha hb hab
      show upd y2.used l (clock + 1) b.1 < upd y2.used l (clock + 1) a.1
      rw [hu a ha, hu b hb]; exact hab
  · show upd y2.used l (clock + 1) e.1 ≤ clock + 1
    rcases List.mem_cons.1 he with rfl | he
    · rw [upd_same]; omega
    · rw [hu e he]; have := h.clk e (hw e he).1; omega
  · show 0 ≤ upd y2.used l (clock + 1) e.1
    rcases List.mem_cons.1 he with rfl | he
    · rw [upd_same]; omega
    · rw [hu e he]; exact h.pos e (hw e he).1
  · rcases (g.mem p).1 hp with hpn | ⟨hpl, _⟩
    · rcases h.clean p hpn with h0 | ⟨e, he, hpe⟩
      · exact .inl h0
      · right
        by_cases hel : e.1 = l
        · exact ⟨(l, v), List.mem_cons_self, by rw [← hel]; exact hpe⟩
        · exact ⟨e, List.mem_cons_of_mem _ (mem_without.2 ⟨he, hel⟩), hpe⟩
    · exact .inr ⟨(l, v), List.mem_cons_self, hpl⟩
  · rcases List.mem_cons.1 he with rfl | he
    · exact hg
    · exact h.good e (hw e he).1
  · rw [List.length_cons]; omega
theorem without_last : ∀ {es : List Ent} (hne : es ≠ []), (es.map (·.1)).Nodup → without es (es.getLast hne).1 = es.dropLast
  | [e], _, _ => by unfold without; simp
  | e :: f :: es, hne, hn => by
    rw [List.map_cons, List.nodup_cons] at hn
    have ih := without_last (es := f :: es) (by simp) hn.2
    have hne2 : e.1 ≠ ((f :: es).getLast (by simp)).1 := fun h => hn.1 (List.mem_map.2 ⟨_, List.getLast_mem _, h.symm⟩)
    rw [List.getLast_cons (by simp), List.dropLast_cons_of_ne_nil (by simp), ← ih]
    unfold without
    rw [List.filter_cons_of_pos (by simpa using hne2)]
/-- the entries after a Put -/
def putE (es : List Ent) (lim : Int) (l : Path) (v : List (List Int)) : List Ent := ((l, v) :: without es l).take lim.toNat
theorem put_rest {w : World} {own own' F : Nat → Prop} {tb : Nat} {lim clock : Int} {es es' : List Ent} {w1 : World} {l : Path} {s vs : Sl} {v : List (List Int)} (h : TrieSt w1 own tb lim es' clock) (hmo : Mo own w w1) (hc : clock < 4611686018427387904) (hg : goodB l = true)
    (hr : Rds i64v w s l) (hs : ∀ a, s.base = some a → ¬ own a.block) (hv : Nest b8 F w vs v) (hF : ∀ b, F b → ¬ own b) (hl : RowsLe v) (hroom : ((without es' l).length : Int) + 1 ≤ lim) (he : (l, v) :: without es' l = putE es lim l v) (R : Ending → World → Prop)
    (hR : ∀ w2 own2, (∀ b, own b → own2 b) → (∀ b, own2 b → own b ∨ w.heap.size ≤ b) → TrieSt w2 own2 tb lim (putE es lim l v) (clock + 1) → Mo own w w2 → R (.returned (.int .i64 0)) w2) :
    trie_Trie_Put.j1 R (some ⟨tb, 0, none⟩) s vs w1 := by
  obtain ⟨vown, ns, y, hm, hen⟩ := h
  have h0 := hen.clk0
  have hr1 := hen.room
  have hr2 := hen.lim2
  have hl6 := good_len hg
  refine put_walk hm h0 (by omega) (hr.mo hmo hs) hs (by omega) (by omega) (by omega) (hv.mo hmo hF) hF hl fun own2 vown2 s2 w2 ns2 y2 e1 e2 g e4 e5 => ?_
  refine hR w2 own2 e1 (fun b hb => (e2 b hb).elim .inl (fun g => .inr (Nat.le_trans hmo.size g))) ?_ (hmo.trans e5 (fun _ => id) (fun _ _ => id))
  rw [← he]
  refine ⟨vown2, ns2, _, ?_, hen.put (s2 := s2) g hg hl hroom⟩
  have hlen : (if y2.here l = true then (es'.length : Int) else (es'.length : Int) + 1) = (((l, v) :: without es' l).length : Int) := by
    rw [List.length_cons]
    by_cases hin : l ∈ ns ∧ y.here l = true
    · rw [if_pos (by rw [(g.old l hin.1).1]; exact hin.2)]
      have := without_length hen.nodup (hen.held hin)
      omega
    · rw [without_none (hen.unheld hin), if_neg ?_]
      · omega
      · intro hh
        by_cases hn : l ∈ ns
        · rw [(g.old l hn).1] at hh; exact hin ⟨hn, hh⟩
        · rw [(g.new l ((g.mem l).2 (.inr ⟨List.prefix_refl l, Nat.le_refl _⟩)) hn).1] at hh; cases hh
  rw [← hlen]; exact e4
theorem put_ok {w : World} {own F : Nat → Prop} {tb : Nat} {lim clock : Int} {es : List Ent} (h : TrieSt w own tb lim es clock) (hc : clock < 4611686018427387904) (s vs : Sl) (l : Path) (v : List (List Int)) (hr : Rds i64v w s l) (hll : l.length ≤ 9223372036854775806) (hs : ∀ a, s.base = some a → ¬ own a.block)
    (hv : Nest b8 F w vs v) (hF : ∀ b, F b → ¬ own b) (hl : RowsLe v) :
    Calls Try.prog 15 #[.pointer (some ⟨tb, 0, none⟩), slv s, slv vs] w fun en w' =>
      (goodB l = false ∧ en = .returned (.int .i64 120) ∧ Ex w w') ∨
      (goodB l = true ∧ en = .returned (.int .i64 0) ∧ ∃ own2, (∀ b, own b → own2 b) ∧ (∀ b, own2 b → own b ∨ w.heap.size ≤ b) ∧ TrieSt w' own2 tb lim (putE es lim l v) (clock + 1) ∧ Mo own w w') := by
  have hst := h
  obtain ⟨vown, ns, y, hm, he⟩ := h
  refine trie_Trie_Put.run _ _ s vs w ?_
  unfold trie_Trie_Put.M
  refine Pu_eqnil tT ?_
  refine Cd_f ?_
  refine Cl_gv (isKey_gv s l w hr hll) fun w1 hx1 => ?_
  refine Cd_not (fun hk => .inl ⟨hk, rfl, hx1⟩) (fun hk => ?_)
  refine Pu_nil ?_
  have hm1 := hm.ex hx1
  refine Rd_has hm1.top (by kernel_rfl) rfl ?_
  refine Pu_eqnil tN ?_
  refine Cd_f ?_
  have hxd := hx1.trans (Ex.drew w1)
  have hmd := hm.ex hxd
  refine Held_ex ?_
  refine Cl_gvp (holder_gv hmd he.goodN s l (hr.ex hxd) hll) fun w2 hx2 => ⟨hx2, ?_⟩
  have hx02 := hxd.trans hx2
  have k02 : Mo own w w2 := hx02.weak (fun _ _ g => g.elim)
  have hroom := he.room
  have hlim := he.lim1
  refine Pu_eqnil tN ?_
  by_cases hh : l ∈ ns ∧ y.here l = true
  · rw [if_pos hh]
    refine Cd_f ?_
    unfold trie_Trie_Put.j4
    refine Cd_f ?_
    have hlen := without_length he.nodup (he.held hh)
    refine put_rest (es := es) (own' := own) (hst.ex hx02) k02 hc hk hr hs hv hF hl (by omega) ?_ _ fun w3 own2 a1 a2 a3 a4 => .inr ⟨hk, rfl, own2, a1, a2, a3, a4⟩
    unfold putE
    rw [List.take_of_length_le (by rw [List.length_cons]; omega)]
  · rw [if_neg hh]
    refine Cd_t ?_
    have hno := he.unheld hh
    refine Pu_nil ?_
    refine RdS_has (c := .int .i64) (x := (es.length : Int)) (fun w' hS => (hmd.ex hS).top) (by kernel_rfl) rfl ?_
    refine Pu_nil ?_
    refine RdS_has (c := .int .i64) (x := lim) (fun w' hS => (hmd.ex hS).top) (by kernel_rfl) rfl ?_
    unfold trie_Trie_Put.j4
    refine Cd_dec (fun hfull => ?_) (fun hfree => ?_)
    · have hne : es ≠ [] := by rintro rfl; simp at hfull; omega
      have hpos : 0 < es.length := List.length_pos_iff.2 hne
      have hl2 := he.lim2
      refine Calls.mono (recent_ok (hst.ex hx02) hc) ?_
      rintro en w3 ⟨s3, rfl, hn3, hx3⟩
      refine ⟨s3, rfl, ?_⟩
      have hx03 := hx02.trans hx3
      have hlen3 := nest_len hn3.nest
      rw [List.length_map] at hlen3
      obtain ⟨ss, r1, r2, r3, r4⟩ := hn3.nest
      rw [List.length_map] at r2
      dsimp only
      rw [wrap64 (x := ((s3.len : Nat) : Int) - 1) (by omega) (by omega)]
      refine Pu_idx r1 tII sII (by omega) (by omega) fun a x hx1' hc1 _ => ?_
      refine Rd_one (c := .sl) (x := x) oII hc1 ?_
      have hidx : ((s3.len : Int) - 1).toNat = es.length - 1 := by omega
      rw [hidx] at hx1'
      have hlast : (es.map (·.1))[es.length - 1]? = some (es.getLast hne).1 := by
        rw [List.getElem?_map, ← List.getLast?_eq_getElem?, List.getLast?_eq_some_getLast hne]; rfl
      obtain ⟨q1, q2⟩ := r4 _ x _ hx1' hlast
      have hgl := good_len (he.good _ (List.getLast_mem hne))
      refine Calls.mono (drop_ok (hst.ex hx03) x _ q1 (by omega) (fun a ha ho => ?_)) ?_
      · have := (q2 a ha).1
        have := hm.ownL _ ho
        have := hx02.size
        omega
      · rintro en w4 (⟨hno2, _⟩ | ⟨v4, hin4, rfl, hst4, hmo4⟩)
        · exact absurd rfl (hno2 _ (List.getLast_mem hne))
        · refine ⟨true, rfl, ?_⟩
          rw [without_last hne he.nodup] at hst4
          have k04 : Mo own w w4 := hx03.mo hmo4
          have hno4 : ∀ e ∈ es.dropLast, e.1 ≠ l := fun e he => hno e (List.dropLast_subset _ he)
          have hw4 := without_none hno4
          refine put_rest (es := es) (own' := own) hst4 k04 hc hk hr hs hv hF hl (by rw [hw4, List.length_dropLast]; omega) ?_ _ fun w5 own2 a1 a2 a3 a4 => .inr ⟨hk, rfl, own2, a1, a2, a3, a4⟩
          unfold putE
          rw [hw4, without_none hno]
          have : lim.toNat = (es.length - 1) + 1 := by omega
          rw [this, List.take_succ_cons, List.dropLast_eq_take]
    · refine put_rest (es := es) (own' := own) (hst.ex hx02) k02 hc hk hr hs hv hF hl (by rw [without_none hno]; omega) ?_ _ fun w3 own2 a1 a2 a3 a4 => .inr ⟨hk, rfl, own2, a1, a2, a3, a4⟩
      unfold putE
      rw [List.take_of_length_le (by rw [List.length_cons, without_none hno]; omega)]
end Go.Proofs.Ytdnlnloogfnlgaa
