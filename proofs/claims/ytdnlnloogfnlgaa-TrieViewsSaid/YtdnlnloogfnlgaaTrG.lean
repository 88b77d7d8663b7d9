/- The pruning of a trie. -/
import Derived.Test.YtdnlnloogfnlgaaTrF
set_option linter.all false
namespace Go.Proofs.Ytdnlnloogfnlgaa
open Go Go.Cu Go.RowKit
set_option linter.unusedVariables false
set_option maxHeartbeats 2000000
theorem snoc_inj {p q : Path} {x z : Int} (h : p ++ [x] = q ++ [z]) : p = q ∧ x = z := by
  have := List.append_inj' h rfl
  exact ⟨this.1, by simpa using this.2⟩
def drop1 (ns : List Path) (c : Path) : List Path := ns.filter fun x => decide (x ≠ c)
theorem mem_drop1 {ns : List Path} {c x : Path} : x ∈ drop1 ns c ↔ x ∈ ns ∧ x ≠ c := by unfold drop1; simp
/-- a child without children is struck off its parent -/
theorem Mem.del {w w' : World} {own vown : Nat → Prop} {tb : Nat} {lim n clock : Int} {ns : List Path} {y : Lay} {p : Path} {x : Int} {l : List (Int × Value)} (h : Mem w own vown tb lim n clock ns y) (hp : p ∈ ns) (hno : ∀ z, p ++ [x] ++ [z] ∉ ns)
    (hl : MapIs w (y.mp p) l) (hk : ∀ x v, (x, v) ∈ l ↔ (p ++ [x] ∈ ns ∧ v = .pointer (ndP y (p ++ [x])))) (k : Mo (fun b => b = y.mp p) w w') (hm : MapIs w' (y.mp p) (delM l x)) : Mem w' own vown tb lim n clock (drop1 ns (p ++ [x])) y := by
  have sub : ∀ {q}, q ∈ drop1 ns (p ++ [x]) → q ∈ ns := fun hq => (mem_drop1.1 hq).1
  have hln : (l.map (·.1)).Nodup := by obtain ⟨_, _, _, _, hn, _⟩ := hl; exact hn
  have hpc : p ≠ p ++ [x] := fun e => by have := congrArg List.length e; simp at this
  refine { top := h.top.mo k (fun e => has_not_map h.top hl e), node := fun q hq => (h.node q (sub hq)).mo k (fun e => has_not_map (h.node q (sub hq)) hl e), kids := fun q hq => ?_, injN := fun a ha b hb => h.injN a (sub ha) b (sub hb), injM := fun a ha b hb => h.injM a (sub ha) b (sub hb), topN := fun q hq => h.topN q (sub hq), vals := fun q hq hh => (h.vals q (sub hq) hh).mo k (fun b hb e => (h.ownN p hp).2.2.2 (by rw [← (show b = y.mp p from e)]; exact hb)), ownN := fun q hq => h.ownN q (sub hq), ownT := h.ownT, ownV := h.ownV, ownL := fun b hb => Nat.lt_of_lt_of_le (h.ownL b hb) k.size, root := mem_drop1.2 ⟨h.root, fun e => by have := congrArg List.length e; simp at this⟩, pre := fun q z hq => ?_ }
  · by_cases hqp : q = p
    · subst hqp
      refine ⟨_, hm, fun z v => ?_⟩
      rw [delM_mem hln, hk, mem_drop1]
      constructor
      · rintro ⟨h1, h2, h3⟩; exact ⟨⟨h2, fun e => h1 (snoc_inj e).2⟩, h3⟩
      · rintro ⟨⟨h1, h2⟩, h3⟩; exact ⟨fun e => h2 (by rw [e]), h1, h3⟩
    · obtain ⟨l', h1, h2⟩ := h.kids q (sub hq)
      refine ⟨l', h1.mo k (fun e => hqp (h.injM q (sub hq) p hp e)), fun z v => ?_⟩
      rw [h2, mem_drop1]
      exact ⟨fun ⟨a, b⟩ => ⟨⟨a, fun e => hqp (snoc_inj e).1⟩, b⟩, fun ⟨a, b⟩ => ⟨a.1, b⟩⟩
  · have hin := (mem_drop1.1 hq).1
    refine mem_drop1.2 ⟨h.pre q z hin, fun e => ?_⟩
    rw [e] at hin
    exact hno z hin
/-- what pruning does to the nodes -/
structure Pruned (y : Lay) (p q : Path) (ns ns' : List Path) : Prop where
  sub : ns'.Sublist ns
  gone : ∀ x ∈ ns, x ∉ ns' → p <+: x ∧ x ≠ p ∧ x <+: p ++ q ∧ y.here x = false ∧ ∀ c, x ++ [c] ∉ ns'
  stay : ∀ x ∈ ns', p <+: x → x ≠ p → x <+: p ++ q → y.here x = true ∨ ∃ c, x ++ [c] ∈ ns'
theorem prune_ok {own vown : Nat → Prop} {tb : Nat} {lim n clock : Int} {y : Lay} : ∀ (q p : Path) (s : Sl) (w : World) (ns : List Path), Mem w own vown tb lim n clock ns y → p ∈ ns → Rds i64v w s q → q.length ≤ 9223372036854775806 → (∀ a, s.base = some a → ¬ own a.block) →
    Calls Try.prog 46 #[.pointer (ndP y p), slv s] w fun en w' => ∃ ns' b, en = .returned (.bool b) ∧ Mem w' own vown tb lim n clock ns' y ∧ Mo own w w' ∧ Pruned y p q ns ns' ∧ (b = true ↔ y.here p = true ∨ ∃ c, p ++ [c] ∈ ns') := by
  intro q
  induction q with
  | nil =>
    intro p s w ns h hp hr hl hs
    refine trie_prune.run _ _ s w ?_
    unfold trie_prune.M
    rw [hr.1]
    refine Cd_dec (fun h0 => by simp at h0) (fun _ => ?_)
    have hpr : Pruned y p [] ns ns := ⟨List.Sublist.refl _, fun x hx hn => absurd hx hn, fun x hx hpx hne hxp => by rw [List.append_nil] at hxp; exact absurd (List.IsPrefix.eq_of_length_le hxp hpx.length_le) hne⟩
    unfold trie_prune.j1
    refine Pu_nil ?_
    refine Rd_has (c := .bool) (x := y.here p) (h.node p hp) (by kernel_rfl) rfl ?_
    refine Cd_of (fun hh => ⟨ns, true, rfl, h, Mo.refl _ _, hpr, by simp [hh]⟩) (fun hh => ?_)
    refine Pu_nil ?_
    refine Rd_has (c := .map) (x := some (y.mp p)) (h.node p hp) (by kernel_rfl) rfl ?_
    obtain ⟨l, hm, hk⟩ := h.kids p hp
    refine Rd_lenMap tMap hm ?_
    refine ⟨ns, _, rfl, h, Mo.refl _ _, hpr, ?_⟩
    rw [decide_eq_true_iff, hh]
    simp only [Bool.false_eq_true, false_or]
    constructor
    · intro hpos
      cases l with
      | nil => simp at hpos
      | cons a r => obtain ⟨x, v⟩ := a; exact ⟨x, ((hk x v).1 (by simp)).1⟩
    · rintro ⟨c, hc⟩
      have := (hk c _).2 ⟨hc, rfl⟩
      cases l with
      | nil => simp at this
      | cons a r => simp only [List.length_cons]; omega
  | cons x r ih =>
    intro p s w ns h hp hr hl hs
    have hl' : r.length + 1 ≤ 9223372036854775806 := by simpa using hl
    refine trie_prune.run _ _ s w ?_
    unfold trie_prune.M
    rw [hr.1]
    refine Cd_dec (fun _ => ?_) (fun h0 => absurd (show (((x :: r).length : Nat) : Int) > 0 by simp only [List.length_cons]; omega) h0)
    refine Pu_nil ?_
    have hd := h.ex (Ex.drew w)
    refine RdS_same (Rd_has (c := .map) (x := some (y.mp p)) (hd.node p hp) (by kernel_rfl) rfl ?_)
    have hrd := hr.ex (Ex.drew w)
    rw [← hr.1]
    refine Pu_idx hrd tI sI (by omega) (by simp only [List.length_cons]; omega) fun a x0 hx0 hc0 _ => ?_
    have hx0 : x0 = x := by simpa using hx0.symm
    subst hx0
    refine RdS_same (Rd_one (c := .int .i64) (x := x0) oI hc0 ?_)
    obtain ⟨l, hm, hk, hget⟩ := hd.child (x := x0) hp
    refine RdS_same (Rd_lookup tMap uInt zN hm hget ?_)
    -- what comes last
    have fin : ∀ (ns' : List Path) (v : World), Mem v own vown tb lim n clock ns' y → Mo own w v → Pruned y p (x0 :: r) ns ns' → p ∈ ns' →
        trie_prune.j1 (fun en w' => ∃ ns' b, en = .returned (.bool b) ∧ Mem w' own vown tb lim n clock ns' y ∧ Mo own w w' ∧ Pruned y p (x0 :: r) ns ns' ∧ (b = true ↔ y.here p = true ∨ ∃ c, p ++ [c] ∈ ns')) (ndP y p) v := by
      intro ns' v hv hmo hpr hp'
      unfold trie_prune.j1
      refine Pu_nil ?_
      refine Rd_has (c := .bool) (x := y.here p) (hv.node p hp') (by kernel_rfl) rfl ?_
      refine Cd_of (fun hh => ⟨ns', true, rfl, hv, hmo, hpr, by simp [hh]⟩) (fun hh => ?_)
      refine Pu_nil ?_
      refine Rd_has (c := .map) (x := some (y.mp p)) (hv.node p hp') (by kernel_rfl) rfl ?_
      obtain ⟨l, hm, hk⟩ := hv.kids p hp'
      refine Rd_lenMap tMap hm ?_
      refine ⟨ns', _, rfl, hv, hmo, hpr, ?_⟩
      rw [decide_eq_true_iff, hh]
      simp only [Bool.false_eq_true, false_or]
      constructor
      · intro hpos
        cases l with
        | nil => simp at hpos
        | cons a r => obtain ⟨x, v⟩ := a; exact ⟨x, ((hk x v).1 (by simp)).1⟩
      · rintro ⟨c, hc⟩
        have := (hk c _).2 ⟨hc, rfl⟩
        cases l with
        | nil => simp at this
        | cons a r => simp only [List.length_cons]; omega
    have hmo0 : Mo own w w.drew := (Ex.drew w).weak (fun _ _ h => h.elim)
    have strict : ∀ z : Path, p <+: z → z ≠ p → z <+: p ++ x0 :: r → (p ++ [x0]) <+: z := by
      rintro z ⟨t, rfl⟩ hne ⟨u, hu⟩
      cases t with
      | nil => simp at hne
      | cons b t =>
        rw [List.append_assoc] at hu
        have := List.append_cancel_left hu
        simp only [List.cons_append, List.cons.injEq] at this
        rw [this.1]
        exact ⟨t, by simp⟩
    have hpc : p ++ [x0] ≠ p := fun e => by have := congrArg List.length e; simp at this
    unfold trie_prune.j2
    refine Pu_nenil tN ?_
    by_cases hin : p ++ [x0] ∈ ns
    · rw [if_pos hin]
      refine Cd_t ?_
      refine Pu_slice 1 (r.length + 1) hrd tI sI (.inr ⟨_, rfl⟩) (.inl ⟨rfl, rfl⟩) (by omega) (by simp) fun s1 hs1 _ _ hsb => ?_
      have hr1 : Rds i64v w.drew s1 r := by
        have := hs1 _ hrd
        simpa using this
      refine Calls.mono (ih (p ++ [x0]) s1 w.drew ns hd hin hr1 (by omega) (fun a ha => ?_)) ?_
      · obtain ⟨b, hb, hbb⟩ := hsb a ha
        rw [hbb]; exact hs b hb
      rintro en w1 ⟨ns1, b1, rfl, h1, hmo1, hpr1, hb1⟩
      refine ⟨b1, rfl, ?_⟩
      have hmo01 : Mo own w w1 := (Ex.drew w).mo hmo1
      have hp1 : p ∈ ns1 := by
        refine Classical.byContradiction fun hn => ?_
        have := (hpr1.gone p hp hn).1.length_le
        simp at this
        omega
      unfold trie_prune.j3
      refine Cd_not (fun hbf => ?_) (fun hbt => fin ns1 w1 h1 hmo01 ?_ hp1)
      · have hnl : ¬ (y.here (p ++ [x0]) = true ∨ ∃ c, p ++ [x0] ++ [c] ∈ ns1) := fun hn => by rw [hb1.2 hn] at hbf; cases hbf
        obtain ⟨l1, hm1, hk1⟩ := h1.kids p hp1
        refine Held_of (fun v => Has v (y.nd p) (nodeV y p) 81 ∧ Rds i64v v s (x0 :: r)) ?_ ?_
        · refine ⟨(h1.node p hp1).ex (Ex.drew w1), ?_⟩
          exact ((hr.mo hmo01 hs)).ex (Ex.drew w1)
        refine Pu_nil ?_
        refine RdS_has (c := .map) (x := some (y.mp p)) (fun v hv => hv.1) (by kernel_rfl) rfl ?_
        have hr1d := (hr.mo hmo01 hs).ex (Ex.drew w1)
        refine Pu_idxB hr1d tI sI (by omega) (by simp only [List.length_cons]; omega) fun a2 x2 ha2 hx2 => ?_
        have hx2 : x2 = x0 := by simpa using hx2.symm
        subst hx2
        refine RdS_one (c := .int .i64) (x := x2) oI (fun v hv => ?_) ?_
        · obtain ⟨a3, ha3, hc3⟩ := hv.2.2.2 0 x2 rfl
          rw [ha2] at ha3; cases ha3
          exact hc3
        refine Wr_delete tMap uInt (hm1.ex (Ex.drew w1)) fun w2 hm2 hmo2 => ?_
        have hd1 := h1.ex (Ex.drew w1)
        refine ⟨⟨(hd1.node p hp1).mo hmo2 (fun e => has_not_map (hd1.node p hp1) (hm1.ex (Ex.drew w1)) e), hr1d.mo hmo2 (fun a ha e => hs a ha (by rw [(show a.block = y.mp p from e)]; exact (h1.ownN p hp1).2.1))⟩, ?_⟩
        have h2 := hd1.del (x := x2) hp1 (fun z hz => hnl (.inr ⟨z, hz⟩)) (hm1.ex (Ex.drew w1)) hk1 hmo2 hm2
        refine fin _ w2 h2 (((hmo01.ex (Ex.drew w1))).trans (hmo2.weak (Y := own) (fun b _ hb => by rw [hb]; exact (h1.ownN p hp1).2.1)) (fun _ => id) (fun _ _ => id)) ?_ (mem_drop1.2 ⟨hp1, fun e => hpc e.symm⟩)
        refine ⟨(List.filter_sublist).trans hpr1.sub, fun z hz hzn => ?_, fun z hz hpz hne hzp => ?_⟩
        · by_cases hz1 : z ∈ ns1
          · have hzc : z = p ++ [x2] := Classical.byContradiction fun hne => hzn (mem_drop1.2 ⟨hz1, hne⟩)
            subst hzc
            refine ⟨⟨[x2], rfl⟩, hpc, ⟨r, by simp⟩, ?_, fun c hc => hnl (.inr ⟨c, (mem_drop1.1 hc).1⟩)⟩
            cases hh : y.here (p ++ [x2])
            · rfl
            · exact absurd (.inl hh) hnl
          · obtain ⟨g1, g2, g3, g4, g5⟩ := hpr1.gone z hz hz1
            refine ⟨(List.prefix_append p [x2]).trans g1, fun e => ?_, by simpa using g3, g4, fun c hc => g5 c (mem_drop1.1 hc).1⟩
            rw [e] at g1
            have := g1.length_le
            simp at this
            omega
        · obtain ⟨hz1, hzc⟩ := mem_drop1.1 hz
          have hcz := strict z hpz hne hzp
          rcases hpr1.stay z hz1 hcz hzc (by simpa using hzp) with g | ⟨c, hc⟩
          · exact .inl g
          · refine .inr ⟨c, mem_drop1.2 ⟨hc, fun e => ?_⟩⟩
            have h1 := congrArg List.length e
            have h2 := hcz.length_le
            simp at h1 h2
            omega
      · refine ⟨hpr1.sub, fun z hz hzn => ?_, fun z hz hpz hne hzp => ?_⟩
        · obtain ⟨g1, g2, g3, g4, g5⟩ := hpr1.gone z hz hzn
          refine ⟨(List.prefix_append p [x0]).trans g1, fun e => ?_, by simpa using g3, g4, g5⟩
          rw [e] at g1
          have := g1.length_le
          simp at this
          omega
        · have hcz := strict z hpz hne hzp
          by_cases hzc : z = p ++ [x0]
          · subst hzc; exact hb1.1 hbt
          · exact hpr1.stay z hz hcz hzc (by simpa using hzp)
    · rw [if_neg hin]
      refine Cd_f ?_
      unfold trie_prune.j3
      refine Cd_f ?_
      refine fin ns w.drew hd hmo0 ⟨List.Sublist.refl _, fun z hz hn => absurd hz hn, fun z hz hpz hne hzp => ?_⟩ hp
      exfalso
      have hcz := strict z hpz hne hzp
      obtain ⟨t, rfl⟩ := hcz
      have htk : (p ++ [x0] ++ t).take (p ++ [x0]).length = p ++ [x0] := List.take_left
      exact pre_take h.pre _ (p ++ [x0]).length rfl (by rw [htk]; exact hin) hz
end Go.Proofs.Ytdnlnloogfnlgaa
