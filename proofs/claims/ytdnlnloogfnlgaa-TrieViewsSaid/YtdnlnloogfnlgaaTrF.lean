/- Get and Peek. -/
import Derived.Test.YtdnlnloogfnlgaaTrE
set_option linter.all false
namespace Go.Proofs.Ytdnlnloogfnlgaa
open Go Go.Cu Go.RowKit
set_option linter.unusedVariables false
set_option maxHeartbeats 2000000
def without (es : List Ent) (l : Path) : List Ent := es.filter fun e => decide (e.1 ≠ l)
def frontE (es : List Ent) (l : Path) (v : List (List Int)) : List Ent := (l, v) :: without es l
theorem mem_without {es : List Ent} {l : Path} {e : Ent} : e ∈ without es l ↔ e ∈ es ∧ e.1 ≠ l := by unfold without; simp
theorem without_none : ∀ {es : List Ent} {l : Path}, (∀ e ∈ es, e.1 ≠ l) → without es l = es := by
  intro es l h
  unfold without
  rw [List.filter_eq_self]
  intro e he; simp [h e he]
theorem without_length : ∀ {es : List Ent} {l : Path} {v : List (List Int)}, (es.map (·.1)).Nodup → (l, v) ∈ es → (without es l).length + 1 = es.length
  | e :: es, l, v, hn, hm => by
    rw [List.map_cons, List.nodup_cons] at hn
    rcases List.mem_cons.1 hm with rfl | hm'
    · have : without es l = es := without_none fun x hx hxl => hn.1 (List.mem_map.2 ⟨x, hx, hxl⟩)
      unfold without at this ⊢
      rw [List.filter_cons_of_neg (by simp), this]; rfl
    · have hne : e.1 ≠ l := fun h => hn.1 (List.mem_map.2 ⟨(l, v), hm', h.symm⟩)
      have ih := without_length hn.2 hm'
      unfold without at ih ⊢
      rw [List.filter_cons_of_pos (by simpa using hne), List.length_cons, ih]; rfl
theorem front_length {es : List Ent} {l : Path} {v : List (List Int)} (hn : (es.map (·.1)).Nodup) (hm : (l, v) ∈ es) : (frontE es l v).length = es.length := by
  unfold frontE; rw [List.length_cons, without_length hn hm]
theorem without_nodup {es : List Ent} {l : Path} (hn : (es.map (·.1)).Nodup) : ((without es l).map (·.1)).Nodup := hn.sublist (List.Sublist.map _ List.filter_sublist)
/-- an entry is used: it comes to the front -/
theorem Ents.front {es : List Ent} {ns : List Path} {y : Lay} {lim clock : Int} {l : Path} {v : List (List Int)} (h : Ents es ns y lim clock) (hm : (l, v) ∈ es) : Ents (frontE es l v) ns { y with used := upd y.used l (clock + 1) } lim (clock + 1) := by
  have hmem : ∀ e, e ∈ frontE es l v ↔ e ∈ es := by
    intro e
    unfold frontE
    rw [List.mem_cons, mem_without]
    constructor
    · rintro (rfl | h')
      · exact hm
      · exact h'.1
    · intro he
      by_cases hel : e.1 = l
      · left
        have h1 := (h.rows e he).2
        have h2 := (h.rows _ hm).2
        rw [hel] at h1
        obtain ⟨a, b⟩ := e
        simp only at hel h1 h2
        rw [hel, ← h1, h2]
      · exact .inr ⟨he, hel⟩
  have hne : ∀ e ∈ without es l, e.1 ≠ l := fun e he => (mem_without.1 he).2
  refine { here := fun p hp => ?_, rows := fun e he => h.rows e ((hmem e).1 he), le := fun e he => h.le e ((hmem e).1 he), nodup := ?_, order := ?_, clk := fun e he => ?_, clk0 := by have := h.clk0; omega, pos := fun e he => ?_, clean := fun p hp => ?_, good := fun e he => h.good e ((hmem e).1 he), uniq := h.uniq, room := ?_, lim1 := h.lim1, lim2 := h.lim2 }
  · rw [h.here p hp]
    constructor
    · rintro ⟨e, he, hep⟩; exact ⟨e, (hmem e).2 he, hep⟩
    · rintro ⟨e, he, hep⟩; exact ⟨e, (hmem e).1 he, hep⟩
  · unfold frontE
    rw [List.map_cons, List.nodup_cons]
    refine ⟨fun hin => ?_, without_nodup h.nodup⟩
    obtain ⟨e, he, hel⟩ := List.mem_map.1 hin
    exact hne e he hel
  · unfold frontE
    rw [List.pairwise_cons]
    refine ⟨fun e he => ?_, ?_⟩
    · show upd y.used l (clock + 1) e.1 < upd y.used l (clock + 1) l
      rw [upd_same, upd_other _ _ (hne e he)]
      have := h.clk e (mem_without.1 he).1
      omega
    · refine List.Pairwise.imp_of_mem ?_ (h.order.sublist List.filter_sublist)
      intro a b ha hb hab
      show upd y.used l (clock + 1) b.1 < upd y.used l (clock + 1) a.1
      rw [upd_other _ _ (hne a ha), upd_other _ _ (hne b hb)]
      exact hab
  · show upd y.used l (clock + 1) e.1 ≤ clock + 1
    by_cases hel : e.1 = l
    · rw [hel, upd_same]; exact Int.le_refl _
    · rw [upd_other _ _ hel]
      have := h.clk e ((hmem e).1 he)
      omega
  · show 0 ≤ upd y.used l (clock + 1) e.1
    have := h.clk0
    by_cases hel : e.1 = l
    · rw [hel, upd_same]; omega
    · rw [upd_other _ _ hel]; exact h.pos e ((hmem e).1 he)
  · rcases h.clean p hp with rfl | ⟨e, he, hpe⟩
    · exact .inl rfl
    · exact .inr ⟨e, (hmem e).2 he, hpe⟩
  · rw [front_length h.nodup hm]; exact h.room
theorem Ents.held {es : List Ent} {ns : List Path} {y : Lay} {lim clock : Int} {l : Path} (h : Ents es ns y lim clock) (hh : l ∈ ns ∧ y.here l = true) : (l, y.rows l) ∈ es := by
  obtain ⟨e, he, hel⟩ := (h.here l hh.1).1 hh.2
  have := (h.rows e he).2
  obtain ⟨a, b⟩ := e
  simp only at hel this
  rw [← hel, this]; exact he
theorem Ents.unheld {es : List Ent} {ns : List Path} {y : Lay} {lim clock : Int} {l : Path} (h : Ents es ns y lim clock) (hh : ¬ (l ∈ ns ∧ y.here l = true)) : ∀ e ∈ es, e.1 ≠ l := by
  rintro e he rfl
  exact hh ⟨(h.rows e he).1, (h.here _ (h.rows e he).1).2 ⟨e, he, rfl⟩⟩
abbrev nilS : Sl := ⟨none, 0, 0⟩
/-- what Get and Peek give: a value in new memory, or nothing -/
def Found (w w' : World) (en : Ending) (v : List (List Int)) : Prop := ∃ s' : Sl, en = .returned (.tuple #[slv s', .bool true]) ∧ NestOwn b8 5 52 w.heap.size w' s' v
theorem get_ok {w : World} {own : Nat → Prop} {tb : Nat} {lim clock : Int} {es : List Ent} (h : TrieSt w own tb lim es clock) (s : Sl) (l : Path) (hr : Rds i64v w s l) (hl : l.length ≤ 9223372036854775806) (hc : clock < 9223372036854775807) :
    Calls Try.prog 19 #[.pointer (some ⟨tb, 0, none⟩), slv s] w fun en w' =>
      ((∀ e ∈ es, e.1 ≠ l) ∧ en = .returned (.tuple #[slv nilS, .bool false]) ∧ Ex w w') ∨
      ∃ v, (l, v) ∈ es ∧ Found w w' en v ∧ TrieSt w' own tb lim (frontE es l v) (clock + 1) ∧ Mo own w w' := by
  obtain ⟨vown, ns, y, hm, he⟩ := h
  refine trie_Trie_Get.run _ _ s w ?_
  unfold trie_Trie_Get.M
  refine Cl_gvp (holder_gv hm he.goodN s l hr hl) fun w1 hx1 => ?_
  refine Pu_eqnil tN ?_
  by_cases hh : l ∈ ns ∧ y.here l = true
  · rw [if_pos hh]
    refine Cd_f ?_
    have hm1 := hm.ex hx1
    refine Calls.mono (use_ok hm1 hh.1 he.clk0 hc) ?_
    rintro en w2 ⟨rfl, hm2, hmo2⟩
    refine ⟨(), rfl, ?_⟩
    refine Pu_nil ?_
    refine Rd_has (c := .sl) (x := y.val l) (hm2.node l hh.1) (by kernel_rfl) rfl ?_
    have hin := he.held hh
    refine Calls.mono (copied_nest (y.val l) (y.rows l) vown w2 (hm2.vals l hh.1 hh.2) (he.le _ hin)) ?_
    rintro en w3 ⟨s3, rfl, hn3, hx3⟩
    refine ⟨s3, rfl, .inr ⟨y.rows l, hin, ⟨s3, rfl, hn3.weak (Nat.le_trans hx1.size hmo2.size)⟩, ?_, (hx1.mo hmo2).ex hx3⟩⟩
    refine ⟨vown, ns, _, ?_, he.front hin⟩
    rw [front_length he.nodup hin]
    exact hm2.ex hx3
  · rw [if_neg hh]
    refine Cd_t ?_
    exact .inl ⟨he.unheld hh, rfl, hx1⟩
theorem peek_ok {w : World} {own : Nat → Prop} {tb : Nat} {lim clock : Int} {es : List Ent} (h : TrieSt w own tb lim es clock) (s : Sl) (l : Path) (hr : Rds i64v w s l) (hl : l.length ≤ 9223372036854775806) :
    Calls Try.prog 20 #[.pointer (some ⟨tb, 0, none⟩), slv s] w fun en w' =>
      Ex w w' ∧ (((∀ e ∈ es, e.1 ≠ l) ∧ en = .returned (.tuple #[slv nilS, .bool false])) ∨ ∃ v, (l, v) ∈ es ∧ Found w w' en v) := by
  obtain ⟨vown, ns, y, hm, he⟩ := h
  refine trie_Trie_Peek.run _ _ s w ?_
  unfold trie_Trie_Peek.M
  refine Cl_gvp (holder_gv hm he.goodN s l hr hl) fun w1 hx1 => ?_
  refine Pu_eqnil tN ?_
  by_cases hh : l ∈ ns ∧ y.here l = true
  · rw [if_pos hh]
    refine Cd_f ?_
    have hm1 := hm.ex hx1
    refine Pu_nil ?_
    refine Rd_has (c := .sl) (x := y.val l) (hm1.node l hh.1) (by kernel_rfl) rfl ?_
    have hin := he.held hh
    refine Calls.mono (copied_nest (y.val l) (y.rows l) vown w1 (hm1.vals l hh.1 hh.2) (he.le _ hin)) ?_
    rintro en w3 ⟨s3, rfl, hn3, hx3⟩
    exact ⟨s3, rfl, hx1.trans hx3, .inr ⟨y.rows l, hin, s3, rfl, hn3.weak hx1.size⟩⟩
  · rw [if_neg hh]
    refine Cd_t ?_
    exact ⟨hx1, .inl ⟨he.unheld hh, rfl⟩⟩
end Go.Proofs.Ytdnlnloogfnlgaa
