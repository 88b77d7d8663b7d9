/- Drop. -/
import Derived.Test.YtdnlnloogfnlgaaTrG
set_option linter.all false
namespace Go.Proofs.Ytdnlnloogfnlgaa
open Go Go.Cu Go.RowKit
set_option linter.unusedVariables false
set_option maxHeartbeats 2000000
/-- what is left when an entry has gone, and the nodes that lead nowhere -/
theorem Ents.dropped {es : List Ent} {ns ns' : List Path} {y : Lay} {lim clock : Int} {l : Path} {v : List (List Int)} {va : Path → Sl} (h : Ents es ns y lim clock) (hin : (l, v) ∈ es) (hpr : Pruned { y with here := upd y.here l false, val := va } [] l ns ns') :
    Ents (without es l) ns' { y with here := upd y.here l false, val := va } lim clock := by
  have hsub : ∀ {p}, p ∈ ns' → p ∈ ns := fun hp => hpr.sub.subset hp
  have keep : ∀ e ∈ without es l, e.1 ∈ ns' := by
    intro e he
    obtain ⟨he1, he2⟩ := mem_without.1 he
    refine Classical.byContradiction fun hn => ?_
    have hen := (h.rows e he1).1
    have hg := (hpr.gone e.1 hen hn).2.2.2.1
    have hhere := (h.here e.1 hen).2 ⟨e, he1, rfl⟩
    have : upd y.here l false e.1 = false := hg
    rw [upd_other _ _ he2, hhere] at this
    cases this
  have hhere : ∀ p ∈ ns', upd y.here l false p = true ↔ ∃ e ∈ without es l, e.1 = p := by
    intro p hp
    by_cases hpl : p = l
    · subst hpl
      rw [upd_same]
      refine ⟨fun h => (by cases h), ?_⟩
      rintro ⟨e, he, hep⟩
      exact absurd hep (mem_without.1 he).2
    · rw [upd_other _ _ hpl, h.here p (hsub hp)]
      constructor
      · rintro ⟨e, he, rfl⟩; exact ⟨e, mem_without.2 ⟨he, hpl⟩, rfl⟩
      · rintro ⟨e, he, rfl⟩; exact ⟨e, (mem_without.1 he).1, rfl⟩
  refine { here := hhere, rows := fun e he => ⟨keep e he, (h.rows e (mem_without.1 he).1).2⟩, le := fun e he => h.le e (mem_without.1 he).1, nodup := without_nodup h.nodup, order := h.order.sublist List.filter_sublist, clk := fun e he => h.clk e (mem_without.1 he).1, clk0 := h.clk0, pos := fun e he => h.pos e (mem_without.1 he).1, clean := ?_, good := fun e he => h.good e (mem_without.1 he).1, uniq := h.uniq.sublist hpr.sub, room := ?_, lim1 := h.lim1, lim2 := h.lim2 }
  · have key : ∀ (d : Nat) (p : Path), l.length - p.length = d → p ∈ ns' → p = [] ∨ ∃ e ∈ without es l, p <+: e.1 := by
      intro d
      induction d with
      | zero =>
        intro p hd hp
        by_cases hp0 : p = []
        · exact .inl hp0
        right
        rcases h.clean p (hsub hp) with h0 | ⟨e, he, hpe⟩
        · exact absurd h0 hp0
        by_cases hel : e.1 = l
        · rw [hel] at hpe
          have hpl : p = l := List.IsPrefix.eq_of_length_le hpe (by omega)
          rcases hpr.stay p hp (List.nil_prefix) hp0 (by simpa using hpe) with g | ⟨c, hc⟩
          · have g : upd y.here l false p = true := g
            rw [hpl, upd_same] at g; cases g
          · rcases h.clean _ (hsub hc) with h0 | ⟨e', he', hpe'⟩
            · simp at h0
            · refine ⟨e', mem_without.2 ⟨he', fun hl' => ?_⟩, (List.prefix_append p [c]).trans hpe'⟩
              rw [hl'] at hpe'
              have := hpe'.length_le
              rw [List.length_append, hpl, List.length_singleton] at this
              exact absurd this (Nat.not_succ_le_self _)
        · exact ⟨e, mem_without.2 ⟨he, hel⟩, hpe⟩
      | succ d ih =>
        intro p hd hp
        by_cases hp0 : p = []
        · exact .inl hp0
        right
        rcases h.clean p (hsub hp) with h0 | ⟨e, he, hpe⟩
        · exact absurd h0 hp0
        by_cases hel : e.1 = l
        · rw [hel] at hpe
          rcases hpr.stay p hp (List.nil_prefix) hp0 (by simpa using hpe) with g | ⟨c, hc⟩
          · obtain ⟨e', he', hpe'⟩ := (hhere p hp).1 g
            exact ⟨e', he', by rw [hpe']; exact List.prefix_refl p⟩
          · rcases ih (p ++ [c]) (by simp; omega) hc with h0 | ⟨e', he', hpe'⟩
            · simp at h0
            · exact ⟨e', he', (List.prefix_append p [c]).trans hpe'⟩
        · exact ⟨e, mem_without.2 ⟨he, hel⟩, hpe⟩
    exact fun p hp => key _ p rfl hp
  · have := without_length h.nodup hin
    have := h.room
    omega
theorem drop_ok {w : World} {own : Nat → Prop} {tb : Nat} {lim clock : Int} {es : List Ent} (h : TrieSt w own tb lim es clock) (s : Sl) (l : Path) (hr : Rds i64v w s l) (hl : l.length ≤ 9223372036854775806) (hs : ∀ a, s.base = some a → ¬ own a.block) :
    Calls Try.prog 22 #[.pointer (some ⟨tb, 0, none⟩), slv s] w fun en w' =>
      ((∀ e ∈ es, e.1 ≠ l) ∧ en = .returned (.bool false) ∧ Ex w w') ∨ ∃ v, (l, v) ∈ es ∧ en = .returned (.bool true) ∧ TrieSt w' own tb lim (without es l) clock ∧ Mo own w w' := by
  obtain ⟨vown, ns, y, hm, he⟩ := h
  refine trie_Trie_Drop.run _ _ s w ?_
  unfold trie_Trie_Drop.M
  refine Cl_gvp (holder_gv hm he.goodN s l hr hl) fun w1 hx1 => ?_
  refine Pu_eqnil tN ?_
  by_cases hh : l ∈ ns ∧ y.here l = true
  · rw [if_pos hh]
    refine Cd_f ?_
    have hin := he.held hh
    have hm1 := hm.ex hx1
    have hB1 := hm1.node l hh.1
    refine Pu_nil ?_
    refine Wu_store (v := .bool false) hB1 (by kernel_rfl) (by simp [Value.cells, Value.oneCell']) (Nat.le_of_ble_eq_true (by kernel_rfl)) fun w2 hB2 hmo2 => ?_
    refine Pu_nil ?_
    refine Wu_store (v := slv nilS) hB2 (by kernel_rfl) (by simp [Value.cells, Value.oneCell']) (Nat.le_of_ble_eq_true (by kernel_rfl)) fun w3 hB3 hmo3 => ?_
    have hmo13 : Mo (fun b => b = y.nd l) w1 w3 := hmo2.trans hmo3 (fun _ => id) (fun _ _ => id)
    have hB3' : Has w3 (y.nd l) [.map (some (y.mp l)), .bool false, slv nilS, .int .i64 (y.used l)] 81 := hB3
    have hm3 : Mem w3 own vown tb lim es.length clock ns { y with here := upd y.here l false, val := upd y.val l nilS } := by
      refine hm1.node_set hh.1 hmo13 rfl rfl ?_ (fun q hq => ⟨upd_other _ _ hq, upd_other _ _ hq, rfl, rfl⟩) (fun hx => ?_)
      · show Has w3 (y.nd l) [.map (some (y.mp l)), .bool (upd y.here l false l), slv (upd y.val l nilS l), .int .i64 (y.used l)] _
        rw [upd_same, upd_same]; exact hB3'
      · have hx : upd y.here l false l = true := hx
        rw [upd_same] at hx; cases hx
    refine Pu_nil ?_
    refine Rd_has hm3.top (by kernel_rfl) rfl ?_
    refine Pu_nil ?_
    have hlen := without_length he.nodup hin
    have hroom := he.room
    have hl2 := he.lim2
    rw [wrap64 (x := (es.length : Int) - 1) (by omega) (by omega)]
    refine Wu_store (v := .int .i64 ((es.length : Int) - 1)) hm3.top sI (by simp [Value.cells, Value.oneCell']) (Nat.le_of_ble_eq_true (by kernel_rfl)) fun w4 hB4 hmo4 => ?_
    have hm4 := hm3.top_set (n' := (es.length : Int) - 1) (clock' := clock) hB4 hmo4
    refine Pu_nil ?_
    refine Rd_has hm4.top (by kernel_rfl) rfl ?_
    have own1 : ∀ b, b = y.nd l → own b := fun b hb => by rw [hb]; exact (hm.ownN l hh.1).1
    have hmo04 : Mo own w w4 := ((hx1.mo (hmo13.weak (Y := own) (fun b _ hb => own1 b hb)))).trans (hmo4.weak (Y := own) (fun b _ hb => by rw [hb]; exact hm.ownT.1)) (fun _ => id) (fun _ _ => id)
    refine Calls.mono (prune_ok l [] s w4 ns hm4 hm4.root (hr.mo hmo04 hs) hl hs) ?_
    rintro en w5 ⟨ns', b, rfl, hm5, hmo5, hpr, _⟩
    refine ⟨b, rfl, .inr ⟨y.rows l, hin, rfl, ⟨vown, ns', _, ?_, he.dropped hin hpr⟩, hmo04.trans hmo5 (fun _ => id) (fun _ _ => id)⟩⟩
    have e1 : ((without es l).length : Int) = (es.length : Int) - 1 := by omega
    rw [e1]; exact hm5
  · rw [if_neg hh]
    refine Cd_t ?_
    exact .inl ⟨he.unheld hh, rfl, hx1⟩
end Go.Proofs.Ytdnlnloogfnlgaa
