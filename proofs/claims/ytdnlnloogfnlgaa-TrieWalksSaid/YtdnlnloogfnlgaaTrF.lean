/- Get and Peek. -/
import Derived.Test.YtdnlnloogfnlgaaTrD
set_option linter.all false
namespace Go.Proofs.Ytdnlnloogfnlgaa
open Go Go.Cu Go.RowKit
set_option linter.unusedVariables false
set_option maxHeartbeats 2000000
def without (es : List Ent) (l : Path) : List Ent := es.filter fun e => decide (e.1 ≠ l)
def frontE (es : List Ent) (l : Path) (v : List (List Int)) : List Ent := (l, v) :: without es l
theorem mem_without {es : List Ent} {l : Path} {e : Ent} : e ∈ without es l ↔ e ∈ es ∧ e.1 ≠ l := by unfold without; simp
theorem without_none : ∀ {es : List Ent} {l : Path}, (∀ e ∈ es, e.1 ≠ l) → without es l = es := by
  intro es l h
  unfold without
  rw [List.filter_eq_self]
  intro e he; simp [h e he]
theorem without_length : ∀ {es : List Ent} {l : Path} {v : List (List Int)}, (es.map (·.1)).Nodup → (l, v) ∈ es → (without es l).length + 1 = es.length
  | e :: es, l, v, hn, hm => by
    rw [List.map_cons, List.nodup_cons] at hn
    rcases List.mem_cons.1 hm with rfl | hm'
    · have : without es l = es := without_none fun x hx hxl => hn.1 (List.mem_map.2 ⟨x, hx, hxl⟩)
      unfold without at this ⊢
      rw [List.filter_cons_of_neg (by simp), this]; rfl
    · have hne : e.1 ≠ l := fun h => hn.1 (List.mem_map.2 ⟨(l, v), hm', h.symm⟩)
      have ih := without_length hn.2 hm'
      unfold without at ih ⊢
      rw [List.filter_cons_of_pos (by simpa using hne), List.length_cons, ih]; rfl
theorem front_length {es : List Ent} {l : Path} {v : List (List Int)} (hn : (es.map (·.1)).Nodup) (hm : (l, v) ∈ es) : (frontE es l v).length = es.length := by
  unfold frontE; rw [List.length_cons, without_length hn hm]
theorem without_nodup {es : List Ent} {l : Path} (hn : (es.map (·.1)).Nodup) : ((without es l).map (·.1)).Nodup := hn.sublist (List.Sublist.map _ List.filter_sublist)
/-- an entry is used: it comes to the front -/
theorem Ents.front {es : List Ent} {ns : List Path} {y : Lay} {lim clock : Int} {l : Path} {v : List (List Int)} (h : Ents es ns y lim clock) (hm : (l, v) ∈ es) : Ents (frontE es l v) ns { y with used := upd y.used l (clock + 1) } lim (clock + 1) := by
  have hmem : ∀ e, e ∈ frontE es l v ↔ e ∈ es := by
    intro e
    unfold frontE
    rw [List.mem_cons, mem_without]
    constructor
    · rintro (rfl | h')
      · exact hm
      · exact h'.1
    · intro he
      by_cases hel : e.1 = l
      · left
        have h1 := (h.rows e he).2
        have h2 := (h.rows _ hm).2
        rw [hel] at h1
        obtain ⟨a, b⟩ := e
        simp only at hel h1 h2
        rw [hel, ← h1, h2]
      · exact .inr ⟨he, hel⟩
  have hne : ∀ e ∈ without es l, e.1 ≠ l := fun e he => (mem_without.1 he).2
  refine { here := fun p hp => ?_, rows := fun e he => h.rows e ((hmem e).1 he), le := fun e he => h.le e ((hmem e).1 he), nodup := ?_, order := ?_, clk := fun e he => ?_, clk0 := by have := h.clk0; omega, pos := fun e he => ?_, clean := fun p hp => ?_, good := fun e he => h.good e ((hmem e).1 he), uniq := h.uniq, room := ?_, lim1 := h.lim1, lim2 := h.lim2 }
  · rw [h.here p hp]
    constructor
    · rintro ⟨e, he, hep⟩; exact ⟨e, (hmem e).2 he, hep⟩
    · rintro ⟨e, he, hep⟩; exact ⟨e, (hmem e).1 he, hep⟩
  · unfold frontE
    rw [List.map_cons, List.nodup_cons]
    refine ⟨fun hin => ?_, without_nodup h.nodup⟩
    obtain ⟨e, he, hel⟩ := List.mem_map.1 hin
    exact hne e he hel
  · unfold frontE
    rw [List.pairwise_cons]
    refine ⟨fun e he => ?_, ?_⟩
    · show upd y.used l (clock + 1) e.1 < upd y.used l (clock + 1) l
      rw [upd_same, upd_other _ _ (hne e he)]
      have := h.clk e (mem_without.1 he).1
      omega
    · refine List.Pairwise.imp_of_mem ?_ (h.order.sublist List.filter_sublist)
      intro a b ha hb hab
      show upd y.used l (clock + 1) b.1 < upd y.used l (clock + 1) a.1
      rw [upd_other _ _ (hne a ha), upd_other _ _ (hne b hb)]
      exact hab
  · show upd y.used l (clock + 1) e.1 ≤ clock + 1
    by_cases hel : e.1 = l
    · rw [hel, upd_same]; exact Int.le_refl _
    · rw [upd_other _ _ hel]
      have := h.clk e ((hmem e).1 he)
      omega
  · show 0 ≤ upd y.used l (clock + 1) e.1
    have := h.clk0
    by_cases hel : e.1 = l
    · rw [hel, upd_same]; omega
    · rw [upd_other _ _ hel]; exact h.pos e ((hmem e).1 he)
  · rcases h.clean p hp with rfl | ⟨e, he, hpe⟩
    · exact .inl rfl
    · exact .inr ⟨e, (hmem e).2 he, hpe⟩
  · rw [front_length h.nodup hm]; exact h.room
theorem Ents.held {es : List Ent} {ns : List Path} {y : Lay} {lim clock : Int} {l : Path} (h : Ents es ns y lim clock) (hh : l ∈ ns ∧ y.here l = true) : (l, y.rows l) ∈ es := by
  obtain ⟨e, he, hel⟩ := (h.here l hh.1).1 hh.2
  have := (h.rows e he).2
  obtain ⟨a, b⟩ := e
  simp only at hel this
  rw [← hel, this]; exact he
theorem Ents.unheld {es : List Ent} {ns : List Path} {y : Lay} {lim clock : Int} {l : Path} (h : Ents es ns y lim clock) (hh : ¬ (l ∈ ns ∧ y.here l = true)) : ∀ e ∈ es, e.1 ≠ l := by
  rintro e he rfl
  exact hh ⟨(h.rows e he).1, (h.here _ (h.rows e he).1).2 ⟨e, he, rfl⟩⟩
abbrev nilS : Sl := ⟨none, 0, 0⟩
/-- what Get and Peek give: a value in new memory, or nothing -/
def Found (w w' : World) (en : Ending) (v : List (List Int)) : Prop := ∃ s' : Sl, en = .returned (.tuple #[slv s', .bool true]) ∧ NestOwn b8 5 52 w.heap.size w' s' v
theorem get_ok {w : World} {own : Nat → Prop} {tb : Nat} {lim clock : Int} {es : List Ent} (h : TrieSt w own tb lim es clock) (s : Sl) (l : Path) (hr : Rds i64v w s l) (hl : l.length ≤ 9223372036854775806) (hc : clock < 9223372036854775807) :
    Calls Try.prog 19 #[.pointer (some ⟨tb, 0, none⟩), slv s] w fun en w' =>
      ((∀ e ∈ es, e.1 ≠ l) ∧ en = .returned (.tuple #[slv nilS, .bool false]) ∧ Ex w w') ∨
      ∃ v, (l, v) ∈ es ∧ Found w w' en v ∧ TrieSt w' own tb lim (frontE es l v) (clock + 1) ∧ Mo own w w' := by
  obtain ⟨vown, ns, y, hm, he⟩ := h
  refine trie_Trie_Get.run _ _ s w ?_
  unfold trie_Trie_Get.M
  refine Cl_gvp (holder_gv hm he.goodN s l hr hl) fun w1 hx1 => ?_
  refine Pu_eqnil tN ?_
  by_cases hh : l ∈ ns ∧ y.here l = true
  · rw [if_pos hh]
    refine Cd_f ?_
    have hm1 := hm.ex hx1
    refine Calls.mono (use_ok hm1 hh.1 he.clk0 hc) ?_
    rintro en w2 ⟨rfl, hm2, hmo2⟩
    refine ⟨(), rfl, ?_⟩
    refine Pu_nil ?_
    refine Rd_has (c := .sl) (x := y.val l) (hm2.node l hh.1) (by kernel_rfl) rfl ?_
    have hin := he.held hh
    refine Calls.mono (copied_nest (y.val l) (y.rows l) vown w2 (hm2.vals l hh.1 hh.2) (he.le _ hin)) ?_
    rintro en w3 ⟨s3, rfl, hn3, hx3⟩
    refine ⟨s3, rfl, .inr ⟨y.rows l, hin, ⟨s3, rfl, hn3.weak (Nat.le_trans hx1.size hmo2.size)⟩, ?_, (hx1.mo hmo2).ex hx3⟩⟩
    refine ⟨vown, ns, _, ?_, he.front hin⟩
    rw [front_length he.nodup hin]
    exact hm2.ex hx3
  · rw [if_neg hh]
    refine Cd_t ?_
    exact .inl ⟨he.unheld hh, rfl, hx1⟩
theorem peek_ok {w : World} {own : Nat → Prop} {tb : Nat} {lim clock : Int} {es : List Ent} (h : TrieSt w own tb lim es clock) (s : Sl) (l : Path) (hr : Rds i64v w s l) (hl : l.length ≤ 9223372036854775806) :
    Calls Try.prog 20 #[.pointer (some ⟨tb, 0, none⟩), slv s] w fun en w' =>
      Ex w w' ∧ (((∀ e ∈ es, e.1 ≠ l) ∧ en = .returned (.tuple #[slv nilS, .bool false])) ∨ ∃ v, (l, v) ∈ es ∧ Found w w' en v) := by
  obtain ⟨vown, ns, y, hm, he⟩ := h
  refine trie_Trie_Peek.run _ _ s w ?_
  unfold trie_Trie_Peek.M
  refine Cl_gvp (holder_gv hm he.goodN s l hr hl) fun w1 hx1 => ?_
  refine Pu_eqnil tN ?_
  by_cases hh : l ∈ ns ∧ y.here l = true
  · rw [if_pos hh]
    refine Cd_f ?_
    have hm1 := hm.ex hx1
    refine Pu_nil ?_
    refine Rd_has (c := .sl) (x := y.val l) (hm1.node l hh.1) (by kernel_rfl) rfl ?_
    have hin := he.held hh
    refine Calls.mono (copied_nest (y.val l) (y.rows l) vown w1 (hm1.vals l hh.1 hh.2) (he.le _ hin)) ?_
    rintro en w3 ⟨s3, rfl, hn3, hx3⟩
    exact ⟨s3, rfl, hx1.trans hx3, .inr ⟨y.rows l, hin, s3, rfl, hn3.weak hx1.size⟩⟩
  · rw [if_neg hh]
    refine Cd_t ?_
    exact ⟨hx1, .inl ⟨he.unheld hh, rfl⟩⟩
end Go.Proofs.Ytdnlnloogfnlgaa
/- The pruning of a trie. -/
namespace Go.Proofs.Ytdnlnloogfnlgaa
open Go Go.Cu Go.RowKit
set_option linter.unusedVariables false
set_option maxHeartbeats 2000000
theorem snoc_inj {p q : Path} {x z : Int} (h : p ++ [x] = q ++ [z]) : p = q ∧ x = z := by
  have := List.append_inj' h rfl
  exact ⟨this.1, by simpa using this.2⟩
def drop1 (ns : List Path) (c : Path) : List Path := ns.filter fun x => decide (x ≠ c)
theorem mem_drop1 {ns : List Path} {c x : Path} : x ∈ drop1 ns c ↔ x ∈ ns ∧ x ≠ c := by unfold drop1; simp
/-- a child without children is struck off its parent -/
theorem Mem.del {w w' : World} {own vown : Nat → Prop} {tb : Nat} {lim n clock : Int} {ns : List Path} {y : Lay} {p : Path} {x : Int} {l : List (Int × Value)} (h : Mem w own vown tb lim n clock ns y) (hp : p ∈ ns) (hno : ∀ z, p ++ [x] ++ [z] ∉ ns)
    (hl : MapIs w (y.mp p) l) (hk : ∀ x v, (x, v) ∈ l ↔ (p ++ [x] ∈ ns ∧ v = .pointer (ndP y (p ++ [x])))) (k : Mo (fun b => b = y.mp p) w w') (hm : MapIs w' (y.mp p) (delM l x)) : Mem w' own vown tb lim n clock (drop1 ns (p ++ [x])) y := by
  have sub : ∀ {q}, q ∈ drop1 ns (p ++ [x]) → q ∈ ns := fun hq => (mem_drop1.1 hq).1
  have hln : (l.map (·.1)).Nodup := by obtain ⟨_, _, _, _, hn, _⟩ := hl; exact hn
  have hpc : p ≠ p ++ [x] := fun e => by have := congrArg List.length e; simp at this
  refine { top := h.top.mo k (fun e => has_not_map h.top hl e), node := fun q hq => (h.node q (sub hq)).mo k (fun e => has_not_map (h.node q (sub hq)) hl e), kids := fun q hq => ?_, injN := fun a ha b hb => h.injN a (sub ha) b (sub hb), injM := fun a ha b hb => h.injM a (sub ha) b (sub hb), topN := fun q hq => h.topN q (sub hq), vals := fun q hq hh => (h.vals q (sub hq) hh).mo k (fun b hb e => (h.ownN p hp).2.2.2 (by rw [← (show b = y.mp p from e)]; exact hb)), ownN := fun q hq => h.ownN q (sub hq), ownT := h.ownT, ownV := h.ownV, ownL := fun b hb => Nat.lt_of_lt_of_le (h.ownL b hb) k.size, root := mem_drop1.2 ⟨h.root, fun e => by have := congrArg List.length e; simp at this⟩, pre := fun q z hq => ?_ }
  · by_cases hqp : q = p
    · subst hqp
      refine ⟨_, hm, fun z v => ?_⟩
      rw [delM_mem hln, hk, mem_drop1]
      constructor
      · rintro ⟨h1, h2, h3⟩; exact ⟨⟨h2, fun e => h1 (snoc_inj e).2⟩, h3⟩
      · rintro ⟨⟨h1, h2⟩, h3⟩; exact ⟨fun e => h2 (by rw [e]), h1, h3⟩
    · obtain ⟨l', h1, h2⟩ := h.kids q (sub hq)
      refine ⟨l', h1.mo k (fun e => hqp (h.injM q (sub hq) p hp e)), fun z v => ?_⟩
      rw [h2, mem_drop1]
      exact ⟨fun ⟨a, b⟩ => ⟨⟨a, fun e => hqp (snoc_inj e).1⟩, b⟩, fun ⟨a, b⟩ => ⟨a.1, b⟩⟩
  · have hin := (mem_drop1.1 hq).1
    refine mem_drop1.2 ⟨h.pre q z hin, fun e => ?_⟩
    rw [e] at hin
    exact hno z hin
/-- what pruning does to the nodes -/
structure Pruned (y : Lay) (p q : Path) (ns ns' : List Path) : Prop where
  sub : ns'.Sublist ns
  gone : ∀ x ∈ ns, x ∉ ns' → p <+: x ∧ x ≠ p ∧ x <+: p ++ q ∧ y.here x = false ∧ ∀ c, x ++ [c] ∉ ns'
  stay : ∀ x ∈ ns', p <+: x → x ≠ p → x <+: p ++ q → y.here x = true ∨ ∃ c, x ++ [c] ∈ ns'
theorem prune_ok {own vown : Nat → Prop} {tb : Nat} {lim n clock : Int} {y : Lay} : ∀ (q p : Path) (s : Sl) (w : World) (ns : List Path), Mem w own vown tb lim n clock ns y → p ∈ ns → Rds i64v w s q → q.length ≤ 9223372036854775806 → (∀ a, s.base = some a → ¬ own a.block) →
    Calls Try.prog 46 #[.pointer (ndP y p), slv s] w fun en w' => ∃ ns' b, en = .returned (.bool b) ∧ Mem w' own vown tb lim n clock ns' y ∧ Mo own w w' ∧ Pruned y p q ns ns' ∧ (b = true ↔ y.here p = true ∨ ∃ c, p ++ [c] ∈ ns') := by
  intro q
  induction q with
  | nil =>
    intro p s w ns h hp hr hl hs
    refine trie_prune.run _ _ s w ?_
    unfold trie_prune.M
    rw [hr.1]
    refine Cd_dec (fun h0 => by simp at h0) (fun _ => ?_)
    have hpr : Pruned y p [] ns ns := ⟨List.Sublist.refl _, fun x hx hn => absurd hx hn, fun x hx hpx hne hxp => by rw [List.append_nil] at hxp; exact absurd (List.IsPrefix.eq_of_length_le hxp hpx.length_le) hne⟩
    unfold trie_prune.j1
    refine Pu_nil ?_
    refine Rd_has (c := .bool) (x := y.here p) (h.node p hp) (by kernel_rfl) rfl ?_
    refine Cd_of (fun hh => ⟨ns, true, rfl, h, Mo.refl _ _, hpr, by simp [hh]⟩) (fun hh => ?_)
    refine Pu_nil ?_
    refine Rd_has (c := .map) (x := some (y.mp p)) (h.node p hp) (by kernel_rfl) rfl ?_
    obtain ⟨l, hm, hk⟩ := h.kids p hp
    refine Rd_lenMap tMap hm ?_
    refine ⟨ns, _, rfl, h, Mo.refl _ _, hpr, ?_⟩
    rw [decide_eq_true_iff, hh]
    simp only [Bool.false_eq_true, false_or]
    constructor
    · intro hpos
      cases l with
      | nil => simp at hpos
      | cons a r => obtain ⟨x, v⟩ := a; exact ⟨x, ((hk x v).1 (by simp)).1⟩
    · rintro ⟨c, hc⟩
      have := (hk c _).2 ⟨hc, rfl⟩
      cases l with
      | nil => simp at this
      | cons a r => simp only [List.length_cons]; omega
  | cons x r ih =>
    intro p s w ns h hp hr hl hs
    have hl' : r.length + 1 ≤ 9223372036854775806 := by simpa using hl
    refine trie_prune.run _ _ s w ?_
    unfold trie_prune.M
    rw [hr.1]
    refine Cd_dec (fun _ => ?_) (fun h0 => absurd (show (((x :: r).length : Nat) : Int) > 0 by simp only [List.length_cons]; omega) h0)
    refine Pu_nil ?_
    have hd := h.ex (Ex.drew w)
    refine RdS_same (Rd_has (c := .map) (x := some (y.mp p)) (hd.node p hp) (by kernel_rfl) rfl ?_)
    have hrd := hr.ex (Ex.drew w)
    rw [← hr.1]
    refine Pu_idx hrd tI sI (by omega) (by simp only [List.length_cons]; omega) fun a x0 hx0 hc0 _ => ?_
    have hx0 : x0 = x := by simpa using hx0.symm
    subst hx0
    refine RdS_same (Rd_one (c := .int .i64) (x := x0) oI hc0 ?_)
    obtain ⟨l, hm, hk, hget⟩ := hd.child (x := x0) hp
    refine RdS_same (Rd_lookup tMap uInt zN hm hget ?_)
    -- what comes last
    have fin : ∀ (ns' : List Path) (v : World), Mem v own vown tb lim n clock ns' y → Mo own w v → Pruned y p (x0 :: r) ns ns' → p ∈ ns' →
        trie_prune.j1 (fun en w' => ∃ ns' b, en = .returned (.bool b) ∧ Mem w' own vown tb lim n clock ns' y ∧ Mo own w w' ∧ Pruned y p (x0 :: r) ns ns' ∧ (b = true ↔ y.here p = true ∨ ∃ c, p ++ [c] ∈ ns')) (ndP y p) v := by
      intro ns' v hv hmo hpr hp'
      unfold trie_prune.j1
      refine Pu_nil ?_
      refine Rd_has (c := .bool) (x := y.here p) (hv.node p hp') (by kernel_rfl) rfl ?_
      refine Cd_of (fun hh => ⟨ns', true, rfl, hv, hmo, hpr, by simp [hh]⟩) (fun hh => ?_)
      refine Pu_nil ?_
      refine Rd_has (c := .map) (x := some (y.mp p)) (hv.node p hp') (by kernel_rfl) rfl ?_
      obtain ⟨l, hm, hk⟩ := hv.kids p hp'
      refine Rd_lenMap tMap hm ?_
      refine ⟨ns', _, rfl, hv, hmo, hpr, ?_⟩
      rw [decide_eq_true_iff, hh]
      simp only [Bool.false_eq_true, false_or]
      constructor
      · intro hpos
        cases l with
        | nil => simp at hpos
        | cons a r => obtain ⟨x, v⟩ := a; exact ⟨x, ((hk x v).1 (by simp)).1⟩
      · rintro ⟨c, hc⟩
        have := (hk c _).2 ⟨hc, rfl⟩
        cases l with
        | nil => simp at this
        | cons a r => simp only [List.length_cons]; omega
    have hmo0 : Mo own w w.drew := (Ex.drew w).weak (fun _ _ h => h.elim)
    have strict : ∀ z : Path, p <+: z → z ≠ p → z <+: p ++ x0 :: r → (p ++ [x0]) <+: z := by
      rintro z ⟨t, rfl⟩ hne ⟨u, hu⟩
      cases t with
      | nil => simp at hne
      | cons b t =>
        rw [List.append_assoc] at hu
        have := List.append_cancel_left hu
        simp only [List.cons_append, List.cons.injEq] at this
        rw [this.1]
        exact ⟨t, by simp⟩
    have hpc : p ++ [x0] ≠ p := fun e => by have := congrArg List.length e; simp at this
    unfold trie_prune.j2
    refine Pu_nenil tN ?_
    by_cases hin : p ++ [x0] ∈ ns
    · rw [if_pos hin]
      refine Cd_t ?_
      refine Pu_slice 1 (r.length + 1) hrd tI sI (.inr ⟨_, rfl⟩) (.inl ⟨rfl, rfl⟩) (by omega) (by simp) fun s1 hs1 _ _ hsb => ?_
      have hr1 : Rds i64v w.drew s1 r := by
        have := hs1 _ hrd
        simpa using this
      refine Calls.mono (ih (p ++ [x0]) s1 w.drew ns hd hin hr1 (by omega) (fun a ha => ?_)) ?_
      · obtain ⟨b, hb, hbb⟩ := hsb a ha
        rw [hbb]; exact hs b hb
      rintro en w1 ⟨ns1, b1, rfl, h1, hmo1, hpr1, hb1⟩
      refine ⟨b1, rfl, ?_⟩
      have hmo01 : Mo own w w1 := (Ex.drew w).mo hmo1
      have hp1 : p ∈ ns1 := by
        refine Classical.byContradiction fun hn => ?_
        have := (hpr1.gone p hp hn).1.length_le
        simp at this
        omega
      unfold trie_prune.j3
      refine Cd_not (fun hbf => ?_) (fun hbt => fin ns1 w1 h1 hmo01 ?_ hp1)
      · have hnl : ¬ (y.here (p ++ [x0]) = true ∨ ∃ c, p ++ [x0] ++ [c] ∈ ns1) := fun hn => by rw [hb1.2 hn] at hbf; cases hbf
        obtain ⟨l1, hm1, hk1⟩ := h1.kids p hp1
        refine Held_of (fun v => Has v (y.nd p) (nodeV y p) 81 ∧ Rds i64v v s (x0 :: r)) ?_ ?_
        · refine ⟨(h1.node p hp1).ex (Ex.drew w1), ?_⟩
          exact ((hr.mo hmo01 hs)).ex (Ex.drew w1)
        refine Pu_nil ?_
        refine RdS_has (c := .map) (x := some (y.mp p)) (fun v hv => hv.1) (by kernel_rfl) rfl ?_
        have hr1d := (hr.mo hmo01 hs).ex (Ex.drew w1)
        refine Pu_idxB hr1d tI sI (by omega) (by simp only [List.length_cons]; omega) fun a2 x2 ha2 hx2 => ?_
        have hx2 : x2 = x0 := by simpa using hx2.symm
        subst hx2
        refine RdS_one (c := .int .i64) (x := x2) oI (fun v hv => ?_) ?_
        · obtain ⟨a3, ha3, hc3⟩ := hv.2.2.2 0 x2 rfl
          rw [ha2] at ha3; cases ha3
          exact hc3
        refine Wr_delete tMap uInt (hm1.ex (Ex.drew w1)) fun w2 hm2 hmo2 => ?_
        have hd1 := h1.ex (Ex.drew w1)
        refine ⟨⟨(hd1.node p hp1).mo hmo2 (fun e => has_not_map (hd1.node p hp1) (hm1.ex (Ex.drew w1)) e), hr1d.mo hmo2 (fun a ha e => hs a ha (by rw [(show a.block = y.mp p from e)]; exact (h1.ownN p hp1).2.1))⟩, ?_⟩
        have h2 := hd1.del (x := x2) hp1 (fun z hz => hnl (.inr ⟨z, hz⟩)) (hm1.ex (Ex.drew w1)) hk1 hmo2 hm2
        refine fin _ w2 h2 (((hmo01.ex (Ex.drew w1))).trans (hmo2.weak (Y := own) (fun b _ hb => by rw [hb]; exact (h1.ownN p hp1).2.1)) (fun _ => id) (fun _ _ => id)) ?_ (mem_drop1.2 ⟨hp1, fun e => hpc e.symm⟩)
        refine ⟨(List.filter_sublist).trans hpr1.sub, fun z hz hzn => ?_, fun z hz hpz hne hzp => ?_⟩
        · by_cases hz1 : z ∈ ns1
          · have hzc : z = p ++ [x2] := Classical.byContradiction fun hne => hzn (mem_drop1.2 ⟨hz1, hne⟩)
            subst hzc
            refine ⟨⟨[x2], rfl⟩, hpc, ⟨r, by simp⟩, ?_, fun c hc => hnl (.inr ⟨c, (mem_drop1.1 hc).1⟩)⟩
            cases hh : y.here (p ++ [x2])
            · rfl
            · exact absurd (.inl hh) hnl
          · obtain ⟨g1, g2, g3, g4, g5⟩ := hpr1.gone z hz hz1
            refine ⟨(List.prefix_append p [x2]).trans g1, fun e => ?_, by simpa using g3, g4, fun c hc => g5 c (mem_drop1.1 hc).1⟩
            rw [e] at g1
            have := g1.length_le
            simp at this
            omega
        · obtain ⟨hz1, hzc⟩ := mem_drop1.1 hz
          have hcz := strict z hpz hne hzp
          rcases hpr1.stay z hz1 hcz hzc (by simpa using hzp) with g | ⟨c, hc⟩
          · exact .inl g
          · refine .inr ⟨c, mem_drop1.2 ⟨hc, fun e => ?_⟩⟩
            have h1 := congrArg List.length e
            have h2 := hcz.length_le
            simp at h1 h2
            omega
      · refine ⟨hpr1.sub, fun z hz hzn => ?_, fun z hz hpz hne hzp => ?_⟩
        · obtain ⟨g1, g2, g3, g4, g5⟩ := hpr1.gone z hz hzn
          refine ⟨(List.prefix_append p [x0]).trans g1, fun e => ?_, by simpa using g3, g4, g5⟩
          rw [e] at g1
          have := g1.length_le
          simp at this
          omega
        · have hcz := strict z hpz hne hzp
          by_cases hzc : z = p ++ [x0]
          · subst hzc; exact hb1.1 hbt
          · exact hpr1.stay z hz hcz hzc (by simpa using hzp)
    · rw [if_neg hin]
      refine Cd_f ?_
      unfold trie_prune.j3
      refine Cd_f ?_
      refine fin ns w.drew hd hmo0 ⟨List.Sublist.refl _, fun z hz hn => absurd hz hn, fun z hz hpz hne hzp => ?_⟩ hp
      exfalso
      have hcz := strict z hpz hne hzp
      obtain ⟨t, rfl⟩ := hcz
      have htk : (p ++ [x0] ++ t).take (p ++ [x0]).length = p ++ [x0] := List.take_left
      exact pre_take h.pre _ (p ++ [x0]).length rfl (by rw [htk]; exact hin) hz
end Go.Proofs.Ytdnlnloogfnlgaa
/- Drop. -/
namespace Go.Proofs.Ytdnlnloogfnlgaa
open Go Go.Cu Go.RowKit
set_option linter.unusedVariables false
set_option maxHeartbeats 2000000
/-- what is left when an entry has gone, and the nodes that lead nowhere -/
theorem Ents.dropped {es : List Ent} {ns ns' : List Path} {y : Lay} {lim clock : Int} {l : Path} {v : List (List Int)} {va : Path → Sl} (h : Ents es ns y lim clock) (hin : (l, v) ∈ es) (hpr : Pruned { y with here := upd y.here l false, val := va } [] l ns ns') :
    Ents (without es l) ns' { y with here := upd y.here l false, val := va } lim clock := by
  have hsub : ∀ {p}, p ∈ ns' → p ∈ ns := fun hp => hpr.sub.subset hp
  have keep : ∀ e ∈ without es l, e.1 ∈ ns' := by
    intro e he
    obtain ⟨he1, he2⟩ := mem_without.1 he
    refine Classical.byContradiction fun hn => ?_
    have hen := (h.rows e he1).1
    have hg := (hpr.gone e.1 hen hn).2.2.2.1
    have hhere := (h.here e.1 hen).2 ⟨e, he1, rfl⟩
    have : upd y.here l false e.1 = false := hg
    rw [upd_other _ _ he2, hhere] at this
    cases this
  have hhere : ∀ p ∈ ns', upd y.here l false p = true ↔ ∃ e ∈ without es l, e.1 = p := by
    intro p hp
    by_cases hpl : p = l
    · subst hpl
      rw [upd_same]
      refine ⟨fun h => (by cases h), ?_⟩
      rintro ⟨e, he, hep⟩
      exact absurd hep (mem_without.1 he).2
    · rw [upd_other _ _ hpl, h.here p (hsub hp)]
      constructor
      · rintro ⟨e, he, rfl⟩; exact ⟨e, mem_without.2 ⟨he, hpl⟩, rfl⟩
      · rintro ⟨e, he, rfl⟩; exact ⟨e, (mem_without.1 he).1, rfl⟩
  refine { here := hhere, rows := fun e he => ⟨keep e he, (h.rows e (mem_without.1 he).1).2⟩, le := fun e he => h.le e (mem_without.1 he).1, nodup := without_nodup h.nodup, order := h.order.sublist List.filter_sublist, clk := fun e he => h.clk e (mem_without.1 he).1, clk0 := h.clk0, pos := fun e he => h.pos e (mem_without.1 he).1, clean := ?_, good := fun e he => h.good e (mem_without.1 he).1, uniq := h.uniq.sublist hpr.sub, room := ?_, lim1 := h.lim1, lim2 := h.lim2 }
  · have key : ∀ (d : Nat) (p : Path), l.length - p.length = d → p ∈ ns' → p = [] ∨ ∃ e ∈ without es l, p <+: e.1 := by
      intro d
      induction d with
      | zero =>
        intro p hd hp
        by_cases hp0 : p = []
        · exact .inl hp0
        right
        rcases h.clean p (hsub hp) with h0 | ⟨e, he, hpe⟩
        · exact absurd h0 hp0
        by_cases hel : e.1 = l
        · rw [hel] at hpe
          have hpl : p = l := List.IsPrefix.eq_of_length_le hpe (by omega)
          rcases hpr.stay p hp (List.nil_prefix) hp0 (by simpa using hpe) with g | ⟨c, hc⟩
          · have g : upd y.here l false p = true := g
            rw [hpl, upd_same] at g; cases g
          · rcases h.clean _ (hsub hc) with h0 | ⟨e', he', hpe'⟩
            · simp at h0
            · refine ⟨e', mem_without.2 ⟨he', fun hl' => ?_⟩, (List.prefix_append p [c]).trans hpe'⟩
              rw [hl'] at hpe'
              have := hpe'.length_le
              rw [List.length_append, hpl, List.length_singleton] at this
              exact absurd this (Nat.not_succ_le_self _)
        · exact ⟨e, mem_without.2 ⟨he, hel⟩, hpe⟩
      | succ d ih =>
        intro p hd hp
        by_cases hp0 : p = []
        · exact .inl hp0
        right
        rcases h.clean p (hsub hp) with h0 | ⟨e, he, hpe⟩
        · exact absurd h0 hp0
        by_cases hel : e.1 = l
        · rw [hel] at hpe
          rcases hpr.stay p hp (List.nil_prefix) hp0 (by simpa using hpe) with g | ⟨c, hc⟩
          · obtain ⟨e', he', hpe'⟩ := (hhere p hp).1 g
            exact ⟨e', he', by rw [hpe']; exact List.prefix_refl p⟩
          · rcases ih (p ++ [c]) (by simp; omega) hc with h0 | ⟨e', he', hpe'⟩
            · simp at h0
            · exact ⟨e', he', (List.prefix_append p [c]).trans hpe'⟩
        · exact ⟨e, mem_without.2 ⟨he, hel⟩, hpe⟩
    exact fun p hp => key _ p rfl hp
  · have := without_length h.nodup hin
    have := h.room
    omega
theorem drop_ok {w : World} {own : Nat → Prop} {tb : Nat} {lim clock : Int} {es : List Ent} (h : TrieSt w own tb lim es clock) (s : Sl) (l : Path) (hr : Rds i64v w s l) (hl : l.length ≤ 9223372036854775806) (hs : ∀ a, s.base = some a → ¬ own a.block) :
    Calls Try.prog 22 #[.pointer (some ⟨tb, 0, none⟩), slv s] w fun en w' =>
      ((∀ e ∈ es, e.1 ≠ l) ∧ en = .returned (.bool false) ∧ Ex w w') ∨ ∃ v, (l, v) ∈ es ∧ en = .returned (.bool true) ∧ TrieSt w' own tb lim (without es l) clock ∧ Mo own w w' := by
  obtain ⟨vown, ns, y, hm, he⟩ := h
  refine trie_Trie_Drop.run _ _ s w ?_
  unfold trie_Trie_Drop.M
  refine Cl_gvp (holder_gv hm he.goodN s l hr hl) fun w1 hx1 => ?_
  refine Pu_eqnil tN ?_
  by_cases hh : l ∈ ns ∧ y.here l = true
  · rw [if_pos hh]
    refine Cd_f ?_
    have hin := he.held hh
    have hm1 := hm.ex hx1
    have hB1 := hm1.node l hh.1
    refine Pu_nil ?_
    refine Wu_store (v := .bool false) hB1 (by kernel_rfl) (by simp [Value.cells, Value.oneCell']) (Nat.le_of_ble_eq_true (by kernel_rfl)) fun w2 hB2 hmo2 => ?_
    refine Pu_nil ?_
    refine Wu_store (v := slv nilS) hB2 (by kernel_rfl) (by simp [Value.cells, Value.oneCell']) (Nat.le_of_ble_eq_true (by kernel_rfl)) fun w3 hB3 hmo3 => ?_
    have hmo13 : Mo (fun b => b = y.nd l) w1 w3 := hmo2.trans hmo3 (fun _ => id) (fun _ _ => id)
    have hB3' : Has w3 (y.nd l) [.map (some (y.mp l)), .bool false, slv nilS, .int .i64 (y.used l)] 81 := hB3
    have hm3 : Mem w3 own vown tb lim es.length clock ns { y with here := upd y.here l false, val := upd y.val l nilS } := by
      refine hm1.node_set hh.1 hmo13 rfl rfl ?_ (fun q hq => ⟨upd_other _ _ hq, upd_other _ _ hq, rfl, rfl⟩) (fun hx => ?_)
      · show Has w3 (y.nd l) [.map (some (y.mp l)), .bool (upd y.here l false l), slv (upd y.val l nilS l), .int .i64 (y.used l)] _
        rw [upd_same, upd_same]; exact hB3'
      · have hx : upd y.here l false l = true := hx
        rw [upd_same] at hx; cases hx
    refine Pu_nil ?_
    refine Rd_has hm3.top (by kernel_rfl) rfl ?_
    refine Pu_nil ?_
    have hlen := without_length he.nodup hin
    have hroom := he.room
    have hl2 := he.lim2
    rw [wrap64 (x := (es.length : Int) - 1) (by omega) (by omega)]
    refine Wu_store (v := .int .i64 ((es.length : Int) - 1)) hm3.top sI (by simp [Value.cells, Value.oneCell']) (Nat.le_of_ble_eq_true (by kernel_rfl)) fun w4 hB4 hmo4 => ?_
    have hm4 := hm3.top_set (n' := (es.length : Int) - 1) (clock' := clock) hB4 hmo4
    refine Pu_nil ?_
    refine Rd_has hm4.top (by kernel_rfl) rfl ?_
    have own1 : ∀ b, b = y.nd l → own b := fun b hb => by rw [hb]; exact (hm.ownN l hh.1).1
    have hmo04 : Mo own w w4 := ((hx1.mo (hmo13.weak (Y := own) (fun b _ hb => own1 b hb)))).trans (hmo4.weak (Y := own) (fun b _ hb => by rw [hb]; exact hm.ownT.1)) (fun _ => id) (fun _ _ => id)
    refine Calls.mono (prune_ok l [] s w4 ns hm4 hm4.root (hr.mo hmo04 hs) hl hs) ?_
    rintro en w5 ⟨ns', b, rfl, hm5, hmo5, hpr, _⟩
    refine ⟨b, rfl, .inr ⟨y.rows l, hin, rfl, ⟨vown, ns', _, ?_, he.dropped hin hpr⟩, hmo04.trans hmo5 (fun _ => id) (fun _ _ => id)⟩⟩
    have e1 : ((without es l).length : Int) = (es.length : Int) - 1 := by omega
    rw [e1]; exact hm5
  · rw [if_neg hh]
    refine Cd_t ?_
    exact .inl ⟨he.unheld hh, rfl, hx1⟩
end Go.Proofs.Ytdnlnloogfnlgaa
