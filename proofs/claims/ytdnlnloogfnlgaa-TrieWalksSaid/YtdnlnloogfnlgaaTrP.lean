/- A node more. -/
import Derived.Test.YtdnlnloogfnlgaaTrI
import Derived.Test.YtdnlnloogfnlgaaTrN
set_option linter.all false
namespace Go.Proofs.Ytdnlnloogfnlgaa
open Go Go.Cu Go.RowKit
set_option linter.unusedVariables false
set_option maxHeartbeats 4000000
/-- the places with a new, empty node -/
def addLay (y : Lay) (c : Path) (b m : Nat) : Lay :=
  { nd := upd y.nd c b, mp := upd y.mp c m, here := upd y.here c false, val := upd y.val c nilS, rows := upd y.rows c [], used := upd y.used c 0 }
theorem Mem.add {w w1 w2 : World} {own vown : Nat → Prop} {tb : Nat} {lim n clock : Int} {ns : List Path} {y : Lay} {p : Path} {x : Int} {b m : Nat} {l : List (Int × Value)} (h : Mem w own vown tb lim n clock ns y) (hp : p ∈ ns) (hno : p ++ [x] ∉ ns)
    (hx1 : Ex w w1) (hB : Has w1 b [.map (some m), .bool false, slv nilS, .int .i64 0] 81) (hm : MapIs w1 m []) (hb1 : w.heap.size ≤ b) (hm1 : w.heap.size ≤ m)
    (hl : MapIs w1 (y.mp p) l) (hk : ∀ x v, (x, v) ∈ l ↔ (p ++ [x] ∈ ns ∧ v = .pointer (ndP y (p ++ [x])))) (k : Mo (fun c => c = y.mp p) w1 w2) (hm2 : MapIs w2 (y.mp p) (putM l x (.pointer (some ⟨b, 0, none⟩)))) :
    Mem w2 (fun c => own c ∨ c = b ∨ c = m) vown tb lim n clock ((p ++ [x]) :: ns) (addLay y (p ++ [x]) b m) := by
  have h1 := h.ex hx1
  have hpc : ∀ q ∈ ns, q ≠ p ++ [x] := fun q hq e => hno (e ▸ hq)
  have hnd : ∀ q ∈ ns, (addLay y (p ++ [x]) b m).nd q = y.nd q := fun q hq => upd_other _ _ (hpc q hq)
  have hmp : ∀ q ∈ ns, (addLay y (p ++ [x]) b m).mp q = y.mp q := fun q hq => upd_other _ _ (hpc q hq)
  have hnd0 : (addLay y (p ++ [x]) b m).nd (p ++ [x]) = b := upd_same _ _ _
  have hmp0 : (addLay y (p ++ [x]) b m).mp (p ++ [x]) = m := upd_same _ _ _
  have hlt : ∀ q ∈ ns, y.nd q < w.heap.size ∧ y.mp q < w.heap.size := fun q hq => ⟨h.ownL _ (h.ownN q hq).1, h.ownL _ (h.ownN q hq).2.1⟩
  have hbm : b ≠ m := has_not_map hB hm
  have hpm := (hlt p hp).2
  have hln : (l.map (·.1)).Nodup := by obtain ⟨_, _, _, _, hn, _⟩ := hl; exact hn
  have hvlt : ∀ c, vown c → c < w.heap.size := fun c hc => h.ownL c (h.ownV c hc)
  have hchild : ∀ q ∈ ns, ∀ z, (q ++ [z] ∈ (p ++ [x]) :: ns) ↔ (q ++ [z] ∈ ns ∨ (q = p ∧ z = x)) := by
    intro q hq z
    rw [List.mem_cons]
    constructor
    · rintro (e | e)
      · exact .inr ⟨(snoc_inj e).1, (snoc_inj e).2⟩
      · exact .inl e
    · rintro (e | ⟨rfl, rfl⟩)
      · exact .inr e
      · exact .inl rfl
  refine { top := ?_, node := fun q hq => ?_, kids := fun q hq => ?_, injN := ?_, injM := ?_, topN := ?_, vals := fun q hq hh => ?_, ownN := fun q hq => ?_, ownT := ⟨.inl h.ownT.1, h.ownT.2⟩, ownV := fun c hc => .inl (h.ownV c hc), ownL := ?_, root := List.mem_cons_of_mem _ h.root, pre := ?_ }
  · have e : topV (addLay y (p ++ [x]) b m) lim n clock = topV y lim n clock := by
      show [Value.pointer (some ⟨(addLay y (p ++ [x]) b m).nd [], 0, none⟩), _, _, _] = _
      rw [hnd [] h.root]
    rw [e]
    exact h1.top.mo k (fun e => has_not_map h1.top hl e)
  · rcases List.mem_cons.1 hq with rfl | hq
    · rw [hnd0]
      have e : nodeV (addLay y (p ++ [x]) b m) (p ++ [x]) = [.map (some m), .bool false, slv nilS, .int .i64 0] := by
        show [Value.map (some (upd y.mp (p ++ [x]) m (p ++ [x]))), .bool (upd y.here (p ++ [x]) false (p ++ [x])), slv (upd y.val (p ++ [x]) nilS (p ++ [x])), .int .i64 (upd y.used (p ++ [x]) 0 (p ++ [x]))] = _
        rw [upd_same, upd_same, upd_same, upd_same]
      rw [e]
      exact hB.mo k (fun e => has_not_map hB hl e)
    · rw [hnd q hq]
      have e : nodeV (addLay y (p ++ [x]) b m) q = nodeV y q := by
        show [Value.map (some (upd y.mp (p ++ [x]) m q)), .bool (upd y.here (p ++ [x]) false q), slv (upd y.val (p ++ [x]) nilS q), .int .i64 (upd y.used (p ++ [x]) 0 q)] = _
        rw [upd_other _ _ (hpc q hq), upd_other _ _ (hpc q hq), upd_other _ _ (hpc q hq), upd_other _ _ (hpc q hq)]
      rw [e]
      exact (h1.node q hq).mo k (fun e => has_not_map (h1.node q hq) hl e)
  · rcases List.mem_cons.1 hq with rfl | hq
    · rw [hmp0]
      refine ⟨[], hm.mo k (fun e => by have e : m = y.mp p := e; omega), fun z v => ⟨fun h => (by simp at h), fun h => ?_⟩⟩
      exfalso
      rcases List.mem_cons.1 h.1 with e | e
      · have := congrArg List.length e; simp at this
      · exact hno (h1.pre _ z e)
    · rw [hmp q hq]
      by_cases hqp : q = p
      · have hch := hchild q hq
        subst hqp
        refine ⟨_, hm2, fun z v => ?_⟩
        rw [putM_mem hln, hk, hch z]
        constructor
        · rintro (⟨rfl, rfl⟩ | ⟨g1, g2, g3⟩)
          · exact ⟨.inr ⟨rfl, rfl⟩, by show _ = Value.pointer (some ⟨(addLay y (q ++ [z]) b m).nd (q ++ [z]), 0, none⟩); rw [hnd0]⟩
          · exact ⟨.inl g2, by show _ = Value.pointer (some ⟨(addLay y (q ++ [x]) b m).nd (q ++ [z]), 0, none⟩); rw [hnd _ g2]; exact g3⟩
        · rintro ⟨g | ⟨_, rfl⟩, g3⟩
          · refine .inr ⟨fun e => hno (e ▸ g), g, ?_⟩
            have g3 : v = Value.pointer (some ⟨(addLay y (q ++ [x]) b m).nd (q ++ [z]), 0, none⟩) := g3
            rw [hnd _ g] at g3; exact g3
          · have g3 : v = Value.pointer (some ⟨(addLay y (q ++ [z]) b m).nd (q ++ [z]), 0, none⟩) := g3
            rw [hnd0] at g3; exact .inl ⟨rfl, g3⟩
      · obtain ⟨l', g1, g2⟩ := h1.kids q hq
        refine ⟨l', g1.mo k (fun e => hqp (h.injM q hq p hp e)), fun z v => ?_⟩
        rw [g2, hchild q hq z]
        constructor
        · rintro ⟨a1, a2⟩
          exact ⟨.inl a1, by show _ = Value.pointer (some ⟨(addLay y (p ++ [x]) b m).nd (q ++ [z]), 0, none⟩); rw [hnd _ a1]; exact a2⟩
        · rintro ⟨a1 | ⟨a1, _⟩, a2⟩
          · have a2 : v = Value.pointer (some ⟨(addLay y (p ++ [x]) b m).nd (q ++ [z]), 0, none⟩) := a2
            rw [hnd _ a1] at a2; exact ⟨a1, a2⟩
          · exact absurd a1 hqp
  · intro q hq r hr e
    rcases List.mem_cons.1 hq with rfl | hq <;> rcases List.mem_cons.1 hr with rfl | hr
    · rfl
    · rw [hnd0, hnd r hr] at e; have := (hlt r hr).1; omega
    · rw [hnd0, hnd q hq] at e; have := (hlt q hq).1; omega
    · rw [hnd q hq, hnd r hr] at e; exact h.injN q hq r hr e
  · intro q hq r hr e
    rcases List.mem_cons.1 hq with rfl | hq <;> rcases List.mem_cons.1 hr with rfl | hr
    · rfl
    · rw [hmp0, hmp r hr] at e; have := (hlt r hr).2; omega
    · rw [hmp0, hmp q hq] at e; have := (hlt q hq).2; omega
    · rw [hmp q hq, hmp r hr] at e; exact h.injM q hq r hr e
  · intro q hq e
    rcases List.mem_cons.1 hq with rfl | hq
    · rw [hnd0] at e; have := h.ownL _ h.ownT.1; omega
    · rw [hnd q hq] at e; exact h.topN q hq e
  · rcases List.mem_cons.1 hq with rfl | hq
    · have hh : upd y.here (p ++ [x]) false (p ++ [x]) = true := hh
      rw [upd_same] at hh; cases hh
    · have hh : upd y.here (p ++ [x]) false q = true := hh
      rw [upd_other _ _ (hpc q hq)] at hh
      show Nest b8 vown w2 (upd y.val (p ++ [x]) nilS q) (upd y.rows (p ++ [x]) [] q)
      rw [upd_other _ _ (hpc q hq), upd_other _ _ (hpc q hq)]
      exact (h1.vals q hq hh).mo k (fun c hc e => (h.ownN p hp).2.2.2 (by rw [← (show c = y.mp p from e)]; exact hc))
  · rcases List.mem_cons.1 hq with rfl | hq
    · rw [hnd0, hmp0]
      exact ⟨.inr (.inl rfl), .inr (.inr rfl), fun hc => by have := hvlt _ hc; omega, fun hc => by have := hvlt _ hc; omega⟩
    · rw [hnd q hq, hmp q hq]
      obtain ⟨g1, g2, g3, g4⟩ := h.ownN q hq
      exact ⟨.inl g1, .inl g2, g3, g4⟩
  · intro c hc
    rcases hc with g | rfl | rfl
    · have := h.ownL c g; have := hx1.size; have := k.size; omega
    · have := hB.lt; have := k.size; omega
    · have := hm.lt; have := k.size; omega
  · intro q z hq
    rcases List.mem_cons.1 hq with e | hq
    · rw [(snoc_inj e).1]; exact List.mem_cons_of_mem _ hp
    · exact List.mem_cons_of_mem _ (h.pre q z hq)
end Go.Proofs.Ytdnlnloogfnlgaa
/- Put. -/
namespace Go.Proofs.Ytdnlnloogfnlgaa
open Go Go.Cu Go.RowKit
set_option linter.unusedVariables false
set_option maxHeartbeats 4000000
theorem Mem.grow {w : World} {own vown own2 vown2 : Nat → Prop} {tb : Nat} {lim n clock : Int} {ns : List Path} {y : Lay} (h : Mem w own vown tb lim n clock ns y) (h1 : ∀ b, own b → own2 b) (h2 : ∀ b, vown b → vown2 b) (h3 : ∀ b, vown2 b → own2 b) (h4 : ∀ b, own2 b → b < w.heap.size)
    (h5 : ∀ b, vown2 b → vown b ∨ ¬ own b) : Mem w own2 vown2 tb lim n clock ns y :=
  { h with
    vals := fun p hp hh => (h.vals p hp hh).weak h2
    ownN := fun p hp => by
      obtain ⟨a, b, c, d⟩ := h.ownN p hp
      exact ⟨h1 _ a, h1 _ b, fun e => (h5 _ e).elim c (fun g => g a), fun e => (h5 _ e).elim d (fun g => g b)⟩
    ownT := ⟨h1 _ h.ownT.1, fun e => (h5 _ e).elim h.ownT.2 (fun g => g h.ownT.1)⟩
    ownV := h3
    ownL := h4 }
/-- the node is there, and the count is right: the value is set -/
theorem put_set {R : Ending → World → Prop} {w : World} {own vown F : Nat → Prop} {tb : Nat} {lim n clock : Int} {ns : List Path} {y : Lay} {p : Path} {s : Sl} {v : List (List Int)} (h : Mem w own vown tb lim n clock ns y) (hp : p ∈ ns) (h0 : 0 ≤ clock) (hc : clock < 9223372036854775807)
    (hv : Nest b8 F w s v) (hl : RowsLe v)
    (hR : ∀ own2 vown2 s2 w2, (∀ b, own b → own2 b) → (∀ b, own2 b → own b ∨ w.heap.size ≤ b) → Mem w2 own2 vown2 tb lim n (clock + 1) ns { y with here := upd y.here p true, val := upd y.val p s2, rows := upd y.rows p v, used := upd y.used p (clock + 1) } → Mo own w w2 → R (.returned (.int .i64 0)) w2) :
    trie_Trie_Put.j3 R (some ⟨tb, 0, none⟩) s (ndP y p) w := by
  unfold trie_Trie_Put.j3
  refine Calls.mono (copied_nest s v F w hv hl) ?_
  rintro en w1 ⟨s2, rfl, hn, hx1⟩
  refine ⟨s2, rfl, ?_⟩
  have hm1 : Mem w1 (fun b => own b ∨ (w.heap.size ≤ b ∧ b < w1.heap.size)) (fun b => vown b ∨ (w.heap.size ≤ b ∧ b < w1.heap.size)) tb lim n clock ns y := by
    refine (h.ex hx1).grow (fun b => .inl) (fun b => .inl) (fun b hb => hb.elim (fun g => .inl (h.ownV b g)) .inr) (fun b hb => hb.elim (fun g => Nat.lt_of_lt_of_le (h.ownL b g) hx1.size) (fun g => g.2)) (fun b hb => hb.elim .inl (fun g => .inr (fun e => ?_)))
    have := h.ownL b e
    omega
  have hB1 := hm1.node p hp
  refine Pu_nil ?_
  refine Wu_store (v := .bool true) hB1 (by kernel_rfl) (by simp [Value.cells, Value.oneCell']) (Nat.le_of_ble_eq_true (by kernel_rfl)) fun w2 hB2 hmo2 => ?_
  refine Pu_nil ?_
  refine Wu_store (v := slv s2) hB2 (by kernel_rfl) (by simp [Value.cells, Value.oneCell']) (Nat.le_of_ble_eq_true (by kernel_rfl)) fun w3 hB3 hmo3 => ?_
  have hmo13 : Mo (fun b => b = y.nd p) w1 w3 := hmo2.trans hmo3 (fun _ => id) (fun _ _ => id)
  have hB3' : Has w3 (y.nd p) [.map (some (y.mp p)), .bool true, slv s2, .int .i64 (y.used p)] 81 := hB3
  have hm3 : Mem w3 (fun b => own b ∨ (w.heap.size ≤ b ∧ b < w1.heap.size)) (fun b => vown b ∨ (w.heap.size ≤ b ∧ b < w1.heap.size)) tb lim n clock ns { y with here := upd y.here p true, val := upd y.val p s2, rows := upd y.rows p v } := by
    refine hm1.node_set hp hmo13 rfl rfl ?_ (fun q hq => ⟨upd_other _ _ hq, upd_other _ _ hq, upd_other _ _ hq, rfl⟩) (fun _ => ?_)
    · show Has w3 (y.nd p) [.map (some (y.mp p)), .bool (upd y.here p true p), slv (upd y.val p s2 p), .int .i64 (y.used p)] _
      rw [upd_same, upd_same]; exact hB3'
    · show Nest b8 _ w3 (upd y.val p s2 p) (upd y.rows p v p)
      rw [upd_same, upd_same]
      exact (hn.nest.weak (fun b hb => .inr hb)).mo hmo13 (fun b hb e => (hm1.ownN p hp).2.2.1 (by rw [← (show b = y.nd p from e)]; exact hb))
  have hu := use_ok hm3 hp h0 hc
  refine Calls.mono hu ?_
  rintro en w4 ⟨rfl, hm4, hmo4⟩
  refine ⟨(), rfl, ?_⟩
  refine hR _ _ s2 w4 (fun b => .inl) (fun b hb => hb.elim .inl (fun g => .inr g.1)) hm4 ?_
  have k1 : Mo own w w3 := hx1.mo (hmo13.weak (Y := own) (fun b _ hb => by rw [hb]; exact (h.ownN p hp).1))
  exact k1.trans hmo4 (fun _ => id) (fun b hb hh => hh.elim id (fun g => absurd g.1 (by omega)))
structure Grown (l : Path) (i : Nat) (ns : List Path) (y : Lay) (ns2 : List Path) (y2 : Lay) : Prop where
  mem : ∀ q, q ∈ ns2 ↔ q ∈ ns ∨ (q <+: l ∧ q.length ≤ i)
  nodup : ns.Nodup → ns2.Nodup
  old : ∀ q ∈ ns, y2.here q = y.here q ∧ y2.rows q = y.rows q ∧ y2.used q = y.used q
  new : ∀ q ∈ ns2, q ∉ ns → y2.here q = false ∧ y2.used q = 0
theorem Grown.here {l : Path} {i : Nat} {ns ns2 : List Path} {y y2 : Lay} (g : Grown l i ns y ns2 y2) (hs : i + 1 ≤ l.length) (hin : l.take (i + 1) ∈ ns2) : Grown l (i + 1) ns y ns2 y2 := by
  refine { g with mem := fun q => ?_ }
  rw [g.mem]
  constructor
  · rintro (h | ⟨h1, h2⟩)
    · exact .inl h
    · exact .inr ⟨h1, by omega⟩
  · rintro (h | ⟨h1, h2⟩)
    · exact .inl h
    · by_cases h3 : q.length ≤ i
      · exact .inr ⟨h1, h3⟩
      · have e : q = l.take (i + 1) := by
          have := List.prefix_iff_eq_take.1 h1
          rw [this]; congr 1; omega
        rw [← e] at hin
        exact (g.mem q).1 hin
theorem Grown.add {l : Path} {i b m : Nat} {ns ns2 : List Path} {y y2 : Lay} (g : Grown l i ns y ns2 y2) (hs : i + 1 ≤ l.length) (hin : l.take (i + 1) ∉ ns2) : Grown l (i + 1) ns y (l.take (i + 1) :: ns2) (addLay y2 (l.take (i + 1)) b m) := by
  have hne : ∀ q ∈ ns2, q ≠ l.take (i + 1) := fun q hq e => hin (e ▸ hq)
  have hold : ∀ q ∈ ns, q ∈ ns2 := fun q hq => (g.mem q).2 (.inl hq)
  refine { mem := fun q => ?_, nodup := fun hn => List.nodup_cons.2 ⟨hin, g.nodup hn⟩, old := fun q hq => ?_, new := fun q hq hqn => ?_ }
  · rw [List.mem_cons, g.mem]
    constructor
    · rintro (rfl | h | ⟨h1, h2⟩)
      · exact .inr ⟨List.take_prefix _ _, by rw [List.length_take]; omega⟩
      · exact .inl h
      · exact .inr ⟨h1, by omega⟩
    · rintro (h | ⟨h1, h2⟩)
      · exact .inr (.inl h)
      · by_cases h3 : q.length ≤ i
        · exact .inr (.inr ⟨h1, h3⟩)
        · left
          have := List.prefix_iff_eq_take.1 h1
          rw [this]; congr 1; omega
  · have h := hne q (hold q hq)
    show upd y2.here _ false q = _ ∧ upd y2.rows _ [] q = _ ∧ upd y2.used _ 0 q = _
    rw [upd_other _ _ h, upd_other _ _ h, upd_other _ _ h]
    exact g.old q hq
  · show upd y2.here _ false q = _ ∧ upd y2.used _ 0 q = _
    rcases List.mem_cons.1 hq with rfl | hq
    · rw [upd_same, upd_same]; exact ⟨rfl, rfl⟩
    · rw [upd_other _ _ (hne q hq), upd_other _ _ (hne q hq)]
      exact g.new q hq hqn
theorem put_walk {R : Ending → World → Prop} {w : World} {own vown F : Nat → Prop} {tb : Nat} {lim n clock : Int} {ns : List Path} {y : Lay} {l : Path} {s vs : Sl} {v : List (List Int)} (h : Mem w own vown tb lim n clock ns y) (h0 : 0 ≤ clock) (hc : clock < 9223372036854775807)
    (hr : Rds i64v w s l) (hs : ∀ a, s.base = some a → ¬ own a.block) (hll : l.length ≤ 9223372036854775806) (hn0 : 0 ≤ n) (hn1 : n ≤ 1024)
    (hv : Nest b8 F w vs v) (hF : ∀ b, F b → ¬ own b) (hl : RowsLe v)
    (hR : ∀ own2 vown2 s2 w2 ns2 y2, (∀ b, own b → own2 b) → (∀ b, own2 b → own b ∨ w.heap.size ≤ b) → Grown l l.length ns y ns2 y2 → Mem w2 own2 vown2 tb lim (if y2.here l = true then n else n + 1) (clock + 1) ns2 { y2 with here := upd y2.here l true, val := upd y2.val l s2, rows := upd y2.rows l v, used := upd y2.used l (clock + 1) } → Mo own w w2 → R (.returned (.int .i64 0)) w2) :
    trie_Trie_Put.j1 R (some ⟨tb, 0, none⟩) s vs w := by
  unfold trie_Trie_Put.j1
  refine Pu_nil ?_
  refine Rd_has h.top (by kernel_rfl) rfl ?_
  unfold trie_Trie_Put.l1
  rw [hr.1]
  refine loopW_of (fun st w' => st.1 = some ⟨tb, 0, none⟩ ∧ st.2.1 = vs ∧ st.2.2.2.1 = s ∧ st.2.2.2.2.1 = (l.length : Int) ∧ ∃ i : Nat, i ≤ l.length ∧ st.2.2.2.2.2.1 = (i : Int) ∧ ∃ own2 ns2 y2, (∀ b, own b → own2 b) ∧ (∀ b, own2 b → own b ∨ w.heap.size ≤ b) ∧ Grown l i ns y ns2 y2 ∧ Mem w' own2 vown tb lim n clock ns2 y2 ∧ Mo own w w' ∧ st.2.2.1 = ndP y2 (l.take i)) (fun st _ => l.length - st.2.2.2.2.2.1.toNat) ?_
    ⟨rfl, rfl, rfl, rfl, 0, Nat.zero_le _, rfl, own, ns, y, fun _ => id, fun _ => .inl, ⟨fun q => ⟨.inl, fun g => g.elim id (fun g => ?_)⟩, id, fun q _ => ⟨rfl, rfl, rfl⟩, fun q hq hn => absurd hq hn⟩, h, Mo.refl _ _, rfl⟩
  · rintro k ⟨t', vs', p', s', n', i', u⟩ w' hI hk
    dsimp only at hI hk ⊢
    obtain ⟨rfl, rfl, rfl, rfl, i, hi, rfl, own2, ns2, y2, ho1, ho2, hg, hm, hmo, rfl⟩ := hI
    unfold trie_Trie_Put.b1
    have hin : l.take i ∈ ns2 := (hg.mem _).2 (.inr ⟨List.take_prefix _ _, by rw [List.length_take]; omega⟩)
    have hnode := hm.node _ hin
    refine Cd_dec (fun hlt => ?_) (fun hge => ?_)
    · refine Pu_idx (hr.mo hmo hs) tI sI (by omega) (by omega) fun a x hx1 hc1 _ => ?_
      refine Rd_one (c := .int .i64) (x := x) oI hc1 ?_
      rw [Int.toNat_natCast] at hx1
      refine Pu_nil ?_
      refine Rd_has (c := .map) (x := some (y2.mp (l.take i))) hnode (by kernel_rfl) rfl ?_
      obtain ⟨kl, hmap, hkids, hget⟩ := hm.child (x := x) hin
      have htk : l.take i ++ [x] = l.take (i + 1) := by rw [List.take_add_one, hx1]; rfl
      refine Rd_lookup tMap uInt zN hmap hget ?_
      refine Pu_eqnil tN ?_
      by_cases hnx : l.take i ++ [x] ∈ ns2
      · rw [if_pos hnx]
        refine Cd_f ?_
        unfold trie_Trie_Put.j2
        rw [wrap64 (x := (i : Int) + 1) (by omega) (by omega)]
        rw [htk] at hnx ⊢
        exact hk _ _ ⟨rfl, rfl, rfl, rfl, i + 1, by omega, by simp, own2, ns2, y2, ho1, ho2, hg.here (by omega) hnx, hm, hmo, rfl⟩ (by simp only; omega)
      · rw [if_neg hnx]
        refine Cd_t ?_
        refine Calls.mono (fresh_ok w') ?_
        rintro en w1 ⟨m, b, rfl, hB, hmb, hb1, hm1, hml, hx1'⟩
        refine ⟨some ⟨b, 0, none⟩, rfl, ?_⟩
        refine Pu_nil ?_
        refine Rd_has (c := .map) (x := some (y2.mp (l.take i))) (hnode.ex hx1') (by kernel_rfl) rfl ?_
        refine Wu_update tMap uInt (hmap.ex hx1') fun w2 hm2 hmo2 => ?_
        have hadd := hm.add hin hnx hx1' hB hmb hb1 hm1 (hmap.ex hx1') hkids hmo2 hm2
        unfold trie_Trie_Put.j2
        rw [wrap64 (x := (i : Int) + 1) (by omega) (by omega)]
        rw [htk] at hnx hadd
        refine hk _ _ ⟨rfl, rfl, rfl, rfl, i + 1, by omega, by simp, _, _, _, fun c hc => .inl (ho1 c hc), ?_, hg.add (by omega) hnx, hadd, ?_, ?_⟩ (by simp only; omega)
        · rintro c (hc | rfl | rfl)
          · exact ho2 c hc
          · have := hmo.size; right; omega
          · have := hmo.size; right; omega
        · refine hmo.trans (hx1'.mo hmo2) (fun _ => id) (fun c hc e => ?_)
          have e : c = y2.mp (l.take i) := e
          rcases ho2 _ (hm.ownN _ hin).2.1 with g | g
          · rw [e]; exact g
          · omega
        · show some _ = some _
          congr 2
          exact (upd_same _ _ _).symm
    · have : i = l.length := by omega
      subst this
      rw [List.take_length] at hin hnode ⊢
      have hF2 := hv.mo hmo hF
      refine Pu_nil ?_
      refine Rd_has (c := .bool) (x := y2.here l) hnode (by kernel_rfl) rfl ?_
      refine Cd_not (fun hf => ?_) (fun ht => ?_)
      · refine Pu_nil ?_
        refine Rd_has hm.top (by kernel_rfl) rfl ?_
        refine Pu_nil ?_
        rw [wrap64 (x := n + 1) (by omega) (by omega)]
        refine Wu_store (v := .int .i64 (n + 1)) hm.top sI (by simp [Value.cells, Value.oneCell']) (Nat.le_of_ble_eq_true (by kernel_rfl)) fun w4 hB4 hmo4 => ?_
        have hm4 := hm.top_set (n' := n + 1) (clock' := clock) hB4 hmo4
        have hmo5 : Mo own w w4 := hmo.trans hmo4 (fun _ => id) (fun b _ hb => by rw [hb]; exact h.ownT.1)
        refine put_set hm4 hin h0 hc (hv.mo hmo5 hF) hl fun own3 vown3 s2 w2 e1 e2 e3 e4 => ?_
        refine hR own3 vown3 s2 w2 ns2 y2 (fun b hb => e1 b (ho1 b hb)) (fun b hb => (e2 b hb).elim (ho2 b) (fun g => .inr (Nat.le_trans hmo5.size g))) hg (by rw [if_neg (by rw [hf]; simp)]; exact e3) ?_
        exact hmo5.trans e4 (fun _ => id) (fun b hb g => (ho2 b g).elim id (fun g => absurd g (by omega)))
      · refine put_set hm hin h0 hc hF2 hl fun own3 vown3 s2 w2 e1 e2 e3 e4 => ?_
        refine hR own3 vown3 s2 w2 ns2 y2 (fun b hb => e1 b (ho1 b hb)) (fun b hb => (e2 b hb).elim (ho2 b) (fun g => .inr (Nat.le_trans hmo.size g))) hg (by rw [if_pos ht]; exact e3) ?_
        exact hmo.trans e4 (fun _ => id) (fun b hb g => (ho2 b g).elim id (fun g => absurd g (by omega)))
  · have : q = [] := List.eq_nil_of_length_eq_zero (by omega)
    rw [this]; exact h.root
end Go.Proofs.Ytdnlnloogfnlgaa
/- Put, whole. -/
namespace Go.Proofs.Ytdnlnloogfnlgaa
open Go Go.Cu Go.RowKit
set_option linter.unusedVariables false
set_option maxHeartbeats 4000000
theorem Ents.put {es : List Ent} {ns ns2 : List Path} {y y2 : Lay} {lim clock : Int} {l : Path} {s2 : Sl} {v : List (List Int)} (h : Ents es ns y lim clock) (g : Grown l l.length ns y ns2 y2) (hg : goodB l = true) (hv : RowsLe v) (hroom : ((without es l).length : Int) + 1 ≤ lim) :
    Ents ((l, v) :: without es l) ns2 { y2 with here := upd y2.here l true, val := upd y2.val l s2, rows := upd y2.rows l v, used := upd y2.used l (clock + 1) } lim (clock + 1) := by
  have hl : l ∈ ns2 := (g.mem l).2 (.inr ⟨List.prefix_refl l, Nat.le_refl _⟩)
  have hw : ∀ e ∈ without es l, e ∈ es ∧ e.1 ≠ l := fun e he => mem_without.1 he
  have hu : ∀ e ∈ without es l, upd y2.used l (clock + 1) e.1 = y.used e.1 := fun e he => by
    rw [upd_other _ _ (hw e he).2]; exact (g.old _ (h.rows e (hw e he).1).1).2.2
  have hc0 := h.clk0
  refine { here := fun p hp => ?_, rows := fun e he => ?_, le := fun e he => ?_, nodup := ?_, order := ?_, clk := fun e he => ?_, clk0 := by omega, pos := fun e he => ?_, clean := fun p hp => ?_, good := fun e he => ?_, uniq := g.nodup h.uniq, room := ?_, lim1 := h.lim1, lim2 := h.lim2 }
  · show upd y2.here l true p = true ↔ _
    by_cases hpl : p = l
    · subst hpl
      rw [upd_same]
      exact ⟨fun _ => ⟨(p, v), List.mem_cons_self, rfl⟩, fun _ => rfl⟩
    · rw [upd_other _ _ hpl]
      by_cases hpn : p ∈ ns
      · rw [(g.old p hpn).1, h.here p hpn]
        constructor
        · rintro ⟨e, he, rfl⟩; exact ⟨e, List.mem_cons_of_mem _ (mem_without.2 ⟨he, hpl⟩), rfl⟩
        · rintro ⟨e, he, rfl⟩
          rcases List.mem_cons.1 he with rfl | he
          · exact absurd rfl hpl
          · exact ⟨e, (hw e he).1, rfl⟩
      · rw [(g.new p hp hpn).1]
        refine ⟨fun h => (by cases h), ?_⟩
        rintro ⟨e, he, rfl⟩
        rcases List.mem_cons.1 he with rfl | he
        · exact absurd rfl hpl
        · exact absurd (h.rows e (hw e he).1).1 hpn
  · show e.1 ∈ ns2 ∧ upd y2.rows l v e.1 = e.2
    rcases List.mem_cons.1 he with rfl | he
    · exact ⟨hl, upd_same _ _ _⟩
    · have := h.rows e (hw e he).1
      rw [upd_other _ _ (hw e he).2, (g.old _ this.1).2.1]
      exact ⟨(g.mem _).2 (.inl this.1), this.2⟩
  · rcases List.mem_cons.1 he with rfl | he
    · exact hv
    · exact h.le e (hw e he).1
  · rw [List.map_cons, List.nodup_cons]
    refine ⟨fun hm => ?_, without_nodup h.nodup⟩
    obtain ⟨e, he, hel⟩ := List.mem_map.1 hm
    exact (hw e he).2 hel
  · rw [List.pairwise_cons]
    constructor
    · intro e he
      show upd y2.used l (clock + 1) e.1 < upd y2.used l (clock + 1) l
      rw [hu e he, upd_same]
      have := h.clk e (hw e he).1
      omega
    · refine List.Pairwise.imp_of_mem ?_ (h.order.sublist (List.filter_sublist : (without es l).Sublist es))
      intro a b ha hb hab
      show upd y2.used l (clock + 1) b.1 < upd y2.used l (clock + 1) a.1
      rw [hu a ha, hu b hb]; exact hab
  · show upd y2.used l (clock + 1) e.1 ≤ clock + 1
    rcases List.mem_cons.1 he with rfl | he
    · rw [upd_same]; omega
    · rw [hu e he]; have := h.clk e (hw e he).1; omega
  · show 0 ≤ upd y2.used l (clock + 1) e.1
    rcases List.mem_cons.1 he with rfl | he
    · rw [upd_same]; omega
    · rw [hu e he]; exact h.pos e (hw e he).1
  · rcases (g.mem p).1 hp with hpn | ⟨hpl, _⟩
    · rcases h.clean p hpn with h0 | ⟨e, he, hpe⟩
      · exact .inl h0
      · right
        by_cases hel : e.1 = l
        · exact ⟨(l, v), List.mem_cons_self, by rw [← hel]; exact hpe⟩
        · exact ⟨e, List.mem_cons_of_mem _ (mem_without.2 ⟨he, hel⟩), hpe⟩
    · exact .inr ⟨(l, v), List.mem_cons_self, hpl⟩
  · rcases List.mem_cons.1 he with rfl | he
    · exact hg
    · exact h.good e (hw e he).1
  · rw [List.length_cons]; omega
theorem without_last : ∀ {es : List Ent} (hne : es ≠ []), (es.map (·.1)).Nodup → without es (es.getLast hne).1 = es.dropLast
  | [e], _, _ => by unfold without; simp
  | e :: f :: es, hne, hn => by
    rw [List.map_cons, List.nodup_cons] at hn
    have ih := without_last (es := f :: es) (by simp) hn.2
    have hne2 : e.1 ≠ ((f :: es).getLast (by simp)).1 := fun h => hn.1 (List.mem_map.2 ⟨_, List.getLast_mem _, h.symm⟩)
    rw [List.getLast_cons (by simp), List.dropLast_cons_of_ne_nil (by simp), ← ih]
    unfold without
    rw [List.filter_cons_of_pos (by simpa using hne2)]
/-- the entries after a Put -/
def putE (es : List Ent) (lim : Int) (l : Path) (v : List (List Int)) : List Ent := ((l, v) :: without es l).take lim.toNat
theorem put_rest {w : World} {own own' F : Nat → Prop} {tb : Nat} {lim clock : Int} {es es' : List Ent} {w1 : World} {l : Path} {s vs : Sl} {v : List (List Int)} (h : TrieSt w1 own tb lim es' clock) (hmo : Mo own w w1) (hc : clock < 4611686018427387904) (hg : goodB l = true)
    (hr : Rds i64v w s l) (hs : ∀ a, s.base = some a → ¬ own a.block) (hv : Nest b8 F w vs v) (hF : ∀ b, F b → ¬ own b) (hl : RowsLe v) (hroom : ((without es' l).length : Int) + 1 ≤ lim) (he : (l, v) :: without es' l = putE es lim l v) (R : Ending → World → Prop)
    (hR : ∀ w2 own2, (∀ b, own b → own2 b) → (∀ b, own2 b → own b ∨ w.heap.size ≤ b) → TrieSt w2 own2 tb lim (putE es lim l v) (clock + 1) → Mo own w w2 → R (.returned (.int .i64 0)) w2) :
    trie_Trie_Put.j1 R (some ⟨tb, 0, none⟩) s vs w1 := by
  obtain ⟨vown, ns, y, hm, hen⟩ := h
  have h0 := hen.clk0
  have hr1 := hen.room
  have hr2 := hen.lim2
  have hl6 := good_len hg
  refine put_walk hm h0 (by omega) (hr.mo hmo hs) hs (by omega) (by omega) (by omega) (hv.mo hmo hF) hF hl fun own2 vown2 s2 w2 ns2 y2 e1 e2 g e4 e5 => ?_
  refine hR w2 own2 e1 (fun b hb => (e2 b hb).elim .inl (fun g => .inr (Nat.le_trans hmo.size g))) ?_ (hmo.trans e5 (fun _ => id) (fun _ _ => id))
  rw [← he]
  refine ⟨vown2, ns2, _, ?_, hen.put (s2 := s2) g hg hl hroom⟩
  have hlen : (if y2.here l = true then (es'.length : Int) else (es'.length : Int) + 1) = (((l, v) :: without es' l).length : Int) := by
    rw [List.length_cons]
    by_cases hin : l ∈ ns ∧ y.here l = true
    · rw [if_pos (by rw [(g.old l hin.1).1]; exact hin.2)]
      have := without_length hen.nodup (hen.held hin)
      omega
    · rw [without_none (hen.unheld hin), if_neg ?_]
      · omega
      · intro hh
        by_cases hn : l ∈ ns
        · rw [(g.old l hn).1] at hh; exact hin ⟨hn, hh⟩
        · rw [(g.new l ((g.mem l).2 (.inr ⟨List.prefix_refl l, Nat.le_refl _⟩)) hn).1] at hh; cases hh
  rw [← hlen]; exact e4
theorem put_ok {w : World} {own F : Nat → Prop} {tb : Nat} {lim clock : Int} {es : List Ent} (h : TrieSt w own tb lim es clock) (hc : clock < 4611686018427387904) (s vs : Sl) (l : Path) (v : List (List Int)) (hr : Rds i64v w s l) (hll : l.length ≤ 9223372036854775806) (hs : ∀ a, s.base = some a → ¬ own a.block)
    (hv : Nest b8 F w vs v) (hF : ∀ b, F b → ¬ own b) (hl : RowsLe v) :
    Calls Try.prog 15 #[.pointer (some ⟨tb, 0, none⟩), slv s, slv vs] w fun en w' =>
      (goodB l = false ∧ en = .returned (.int .i64 120) ∧ Ex w w') ∨
      (goodB l = true ∧ en = .returned (.int .i64 0) ∧ ∃ own2, (∀ b, own b → own2 b) ∧ (∀ b, own2 b → own b ∨ w.heap.size ≤ b) ∧ TrieSt w' own2 tb lim (putE es lim l v) (clock + 1) ∧ Mo own w w') := by
  have hst := h
  obtain ⟨vown, ns, y, hm, he⟩ := h
  refine trie_Trie_Put.run _ _ s vs w ?_
  unfold trie_Trie_Put.M
  refine Pu_eqnil tT ?_
  refine Cd_f ?_
  refine Cl_gv (isKey_gv s l w hr hll) fun w1 hx1 => ?_
  refine Cd_not (fun hk => .inl ⟨hk, rfl, hx1⟩) (fun hk => ?_)
  refine Pu_nil ?_
  have hm1 := hm.ex hx1
  refine Rd_has hm1.top (by kernel_rfl) rfl ?_
  refine Pu_eqnil tN ?_
  refine Cd_f ?_
  have hxd := hx1.trans (Ex.drew w1)
  have hmd := hm.ex hxd
  refine Held_ex ?_
  refine Cl_gvp (holder_gv hmd he.goodN s l (hr.ex hxd) hll) fun w2 hx2 => ⟨hx2, ?_⟩
  have hx02 := hxd.trans hx2
  have k02 : Mo own w w2 := hx02.weak (fun _ _ g => g.elim)
  have hroom := he.room
  have hlim := he.lim1
  refine Pu_eqnil tN ?_
  by_cases hh : l ∈ ns ∧ y.here l = true
  · rw [if_pos hh]
    refine Cd_f ?_
    unfold trie_Trie_Put.j4
    refine Cd_f ?_
    have hlen := without_length he.nodup (he.held hh)
    refine put_rest (es := es) (own' := own) (hst.ex hx02) k02 hc hk hr hs hv hF hl (by omega) ?_ _ fun w3 own2 a1 a2 a3 a4 => .inr ⟨hk, rfl, own2, a1, a2, a3, a4⟩
    unfold putE
    rw [List.take_of_length_le (by rw [List.length_cons]; omega)]
  · rw [if_neg hh]
    refine Cd_t ?_
    have hno := he.unheld hh
    refine Pu_nil ?_
    refine RdS_has (c := .int .i64) (x := (es.length : Int)) (fun w' hS => (hmd.ex hS).top) (by kernel_rfl) rfl ?_
    refine Pu_nil ?_
    refine RdS_has (c := .int .i64) (x := lim) (fun w' hS => (hmd.ex hS).top) (by kernel_rfl) rfl ?_
    unfold trie_Trie_Put.j4
    refine Cd_dec (fun hfull => ?_) (fun hfree => ?_)
    · have hne : es ≠ [] := by rintro rfl; simp at hfull; omega
      have hpos : 0 < es.length := List.length_pos_iff.2 hne
      have hl2 := he.lim2
      refine Calls.mono (recent_ok (hst.ex hx02) hc) ?_
      rintro en w3 ⟨s3, rfl, hn3, hx3⟩
      refine ⟨s3, rfl, ?_⟩
      have hx03 := hx02.trans hx3
      have hlen3 := nest_len hn3.nest
      rw [List.length_map] at hlen3
      obtain ⟨ss, r1, r2, r3, r4⟩ := hn3.nest
      rw [List.length_map] at r2
      dsimp only
      rw [wrap64 (x := ((s3.len : Nat) : Int) - 1) (by omega) (by omega)]
      refine Pu_idx r1 tII sII (by omega) (by omega) fun a x hx1' hc1 _ => ?_
      refine Rd_one (c := .sl) (x := x) oII hc1 ?_
      have hidx : ((s3.len : Int) - 1).toNat = es.length - 1 := by omega
      rw [hidx] at hx1'
      have hlast : (es.map (·.1))[es.length - 1]? = some (es.getLast hne).1 := by
        rw [List.getElem?_map, ← List.getLast?_eq_getElem?, List.getLast?_eq_some_getLast hne]; rfl
      obtain ⟨q1, q2⟩ := r4 _ x _ hx1' hlast
      have hgl := good_len (he.good _ (List.getLast_mem hne))
      refine Calls.mono (drop_ok (hst.ex hx03) x _ q1 (by omega) (fun a ha ho => ?_)) ?_
      · have := (q2 a ha).1
        have := hm.ownL _ ho
        have := hx02.size
        omega
      · rintro en w4 (⟨hno2, _⟩ | ⟨v4, hin4, rfl, hst4, hmo4⟩)
        · exact absurd rfl (hno2 _ (List.getLast_mem hne))
        · refine ⟨true, rfl, ?_⟩
          rw [without_last hne he.nodup] at hst4
          have k04 : Mo own w w4 := hx03.mo hmo4
          have hno4 : ∀ e ∈ es.dropLast, e.1 ≠ l := fun e he => hno e (List.dropLast_subset _ he)
          have hw4 := without_none hno4
          refine put_rest (es := es) (own' := own) hst4 k04 hc hk hr hs hv hF hl (by rw [hw4, List.length_dropLast]; omega) ?_ _ fun w5 own2 a1 a2 a3 a4 => .inr ⟨hk, rfl, own2, a1, a2, a3, a4⟩
          unfold putE
          rw [hw4, without_none hno]
          have : lim.toNat = (es.length - 1) + 1 := by omega
          rw [this, List.take_succ_cons, List.dropLast_eq_take]
    · refine put_rest (es := es) (own' := own) (hst.ex hx02) k02 hc hk hr hs hv hF hl (by rw [without_none hno]; omega) ?_ _ fun w3 own2 a1 a2 a3 a4 => .inr ⟨hk, rfl, own2, a1, a2, a3, a4⟩
      unfold putE
      rw [List.take_of_length_le (by rw [List.length_cons, without_none hno]; omega)]
end Go.Proofs.Ytdnlnloogfnlgaa
