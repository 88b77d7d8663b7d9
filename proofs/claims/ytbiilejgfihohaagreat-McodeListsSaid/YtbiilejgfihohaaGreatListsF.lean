/- A part of what the last text of this claim leans on. -/
import Derived.Test.YtbiilejgfihohaaGreatListsE
import Derived.Test.YtbiilejgfihohaaGreatProg
set_option linter.all false
set_option maxHeartbeats 4000000
set_option maxRecDepth 100000
set_option autoImplicit false
namespace Go.Proofs.YtbiilejgfihohaaGreat.Tr
open Go Go.Cu Go.RowKit
def addLay (y : Lay) (c : Path) (b m : Nat) : Lay :=
  { nd := upd y.nd c b, mp := upd y.mp c m, here := upd y.here c false, val := upd y.val c nilS, rows := upd y.rows c [], used := upd y.used c 0 }
theorem Mem.add {w w1 w2 : World} {own vown : Nat → Prop} {tb : Nat} {lim n clock : Int} {ns : List Path} {y : Lay} {p : Path} {x : Int} {b m : Nat} {l : List (Int × Value)} (h : Mem w own vown tb lim n clock ns y) (hp : p ∈ ns) (hno : p ++ [x] ∉ ns)
    (hx1 : Ex w w1) (hB : Has w1 b [.map (some m), .bool false, slv nilS, .int .i64 0] 123) (hm : MapIs w1 m []) (hb1 : w.heap.size ≤ b) (hm1 : w.heap.size ≤ m)
    (hl : MapIs w1 (y.mp p) l) (hk : ∀ x v, (x, v) ∈ l ↔ (p ++ [x] ∈ ns ∧ v = .pointer (ndP y (p ++ [x])))) (k : Mo (fun c => c = y.mp p) w1 w2) (hm2 : MapIs w2 (y.mp p) (putM l x (.pointer (some ⟨b, 0, none⟩)))) :
    Mem w2 (fun c => own c ∨ c = b ∨ c = m) vown tb lim n clock ((p ++ [x]) :: ns) (addLay y (p ++ [x]) b m) := by
  have h1 := h.ex hx1
  have hpc : ∀ q ∈ ns, q ≠ p ++ [x] := fun q hq e => hno (e ▸ hq)
  have hnd : ∀ q ∈ ns, (addLay y (p ++ [x]) b m).nd q = y.nd q := fun q hq => anZ _ _ (hpc q hq)
  have hmp : ∀ q ∈ ns, (addLay y (p ++ [x]) b m).mp q = y.mp q := fun q hq => anZ _ _ (hpc q hq)
  have hnd0 : (addLay y (p ++ [x]) b m).nd (p ++ [x]) = b := asZ _ _ _
  have hmp0 : (addLay y (p ++ [x]) b m).mp (p ++ [x]) = m := asZ _ _ _
  have hlt : ∀ q ∈ ns, y.nd q < w.heap.size ∧ y.mp q < w.heap.size := fun q hq => ⟨h.ownL _ (h.ownN q hq).1, h.ownL _ (h.ownN q hq).2.1⟩
  have hbm : b ≠ m := has_not_map hB hm
  have hpm := (hlt p hp).2
  have hln : (l.map (·.1)).Nodup := by obtain ⟨_, _, _, _, hn, _⟩ := hl; exact hn
  have hvlt : ∀ c, vown c → c < w.heap.size := fun c hc => h.ownL c (h.ownV c hc)
  have hchild : ∀ q ∈ ns, ∀ z, (q ++ [z] ∈ (p ++ [x]) :: ns) ↔ (q ++ [z] ∈ ns ∨ (q = p ∧ z = x)) := by
    intro q hq z
    rw [List.mem_cons]
    constructor
    · rintro (e | e)
      · exact .inr ⟨(snoc_inj e).1, (snoc_inj e).2⟩
      · exact .inl e
    · rintro (e | ⟨rfl, rfl⟩)
      · exact .inr e
      · exact .inl rfl
  refine { top := ?_, node := fun q hq => ?_, kids := fun q hq => ?_, injN := ?_, injM := ?_, topN := ?_, vals := fun q hq hh => ?_, ownN := fun q hq => ?_, ownT := ⟨.inl h.ownT.1, h.ownT.2⟩, ownV := fun c hc => .inl (h.ownV c hc), ownL := ?_, root := List.mem_cons_of_mem _ h.root, pre := ?_ }
  · have e : topV (addLay y (p ++ [x]) b m) lim n clock = topV y lim n clock := by
      show [Value.pointer (some ⟨(addLay y (p ++ [x]) b m).nd [], 0, none⟩), _, _, _] = _
      rw [hnd [] h.root]
    rw [e]
    exact h1.top.mo k (fun e => has_not_map h1.top hl e)
  · rcases List.mem_cons.1 hq with rfl | hq
    · rw [hnd0]
      have e : nodeV (addLay y (p ++ [x]) b m) (p ++ [x]) = [.map (some m), .bool false, slv nilS, .int .i64 0] := by
        show [Value.map (some (upd y.mp (p ++ [x]) m (p ++ [x]))), .bool (upd y.here (p ++ [x]) false (p ++ [x])), slv (upd y.val (p ++ [x]) nilS (p ++ [x])), .int .i64 (upd y.used (p ++ [x]) 0 (p ++ [x]))] = _
        rw [asZ, asZ, asZ, asZ]
      rw [e]
      exact hB.mo k (fun e => has_not_map hB hl e)
    · rw [hnd q hq]
      have e : nodeV (addLay y (p ++ [x]) b m) q = nodeV y q := by
        show [Value.map (some (upd y.mp (p ++ [x]) m q)), .bool (upd y.here (p ++ [x]) false q), slv (upd y.val (p ++ [x]) nilS q), .int .i64 (upd y.used (p ++ [x]) 0 q)] = _
        rw [anZ _ _ (hpc q hq), anZ _ _ (hpc q hq), anZ _ _ (hpc q hq), anZ _ _ (hpc q hq)]
      rw [e]
      exact (h1.node q hq).mo k (fun e => has_not_map (h1.node q hq) hl e)
  · rcases List.mem_cons.1 hq with rfl | hq
    · rw [hmp0]
      refine ⟨[], hm.mo k (fun e => by have e : m = y.mp p := e; omega), fun z v => ⟨fun h => (by simp at h), fun h => ?_⟩⟩
      exfalso
      rcases List.mem_cons.1 h.1 with e | e
      · have := congrArg List.length e; simp at this
      · exact hno (h1.pre _ z e)
    · rw [hmp q hq]
      by_cases hqp : q = p
      · have hch := hchild q hq
        subst hqp
        refine ⟨_, hm2, fun z v => ?_⟩
        rw [putM_mem hln, hk, hch z]
        constructor
        · rintro (⟨rfl, rfl⟩ | ⟨g1, g2, g3⟩)
          · exact ⟨.inr ⟨rfl, rfl⟩, by show _ = Value.pointer (some ⟨(addLay y (q ++ [z]) b m).nd (q ++ [z]), 0, none⟩); rw [hnd0]⟩
          · exact ⟨.inl g2, by show _ = Value.pointer (some ⟨(addLay y (q ++ [x]) b m).nd (q ++ [z]), 0, none⟩); rw [hnd _ g2]; exact g3⟩
        · rintro ⟨g | ⟨_, rfl⟩, g3⟩
          · refine .inr ⟨fun e => hno (e ▸ g), g, ?_⟩
            have g3 : v = Value.pointer (some ⟨(addLay y (q ++ [x]) b m).nd (q ++ [z]), 0, none⟩) := g3
            rw [hnd _ g] at g3; exact g3
          · have g3 : v = Value.pointer (some ⟨(addLay y (q ++ [z]) b m).nd (q ++ [z]), 0, none⟩) := g3
            rw [hnd0] at g3; exact .inl ⟨rfl, g3⟩
      · obtain ⟨l', g1, g2⟩ := h1.kids q hq
        refine ⟨l', g1.mo k (fun e => hqp (h.injM q hq p hp e)), fun z v => ?_⟩
        rw [g2, hchild q hq z]
        constructor
        · rintro ⟨a1, a2⟩
          exact ⟨.inl a1, by show _ = Value.pointer (some ⟨(addLay y (p ++ [x]) b m).nd (q ++ [z]), 0, none⟩); rw [hnd _ a1]; exact a2⟩
        · rintro ⟨a1 | ⟨a1, _⟩, a2⟩
          · have a2 : v = Value.pointer (some ⟨(addLay y (p ++ [x]) b m).nd (q ++ [z]), 0, none⟩) := a2
            rw [hnd _ a1] at a2; exact ⟨a1, a2⟩
          · exact absurd a1 hqp
  · intro q hq r hr e
    rcases List.mem_cons.1 hq with rfl | hq <;> rcases List.mem_cons.1 hr with rfl | hr
    · rfl
    · rw [hnd0, hnd r hr] at e; have := (hlt r hr).1; omega
    · rw [hnd0, hnd q hq] at e; have := (hlt q hq).1; omega
    · rw [hnd q hq, hnd r hr] at e; exact h.injN q hq r hr e
  · intro q hq r hr e
    rcases List.mem_cons.1 hq with rfl | hq <;> rcases List.mem_cons.1 hr with rfl | hr
    · rfl
    · rw [hmp0, hmp r hr] at e; have := (hlt r hr).2; omega
    · rw [hmp0, hmp q hq] at e; have := (hlt q hq).2; omega
    · rw [hmp q hq, hmp r hr] at e; exact h.injM q hq r hr e
  · intro q hq e
    rcases List.mem_cons.1 hq with rfl | hq
    · rw [hnd0] at e; have := h.ownL _ h.ownT.1; omega
    · rw [hnd q hq] at e; exact h.topN q hq e
  · rcases List.mem_cons.1 hq with rfl | hq
    · have hh : upd y.here (p ++ [x]) false (p ++ [x]) = true := hh
      rw [asZ] at hh; cases hh
    · have hh : upd y.here (p ++ [x]) false q = true := hh
      rw [anZ _ _ (hpc q hq)] at hh
      show Nest b8 vown w2 (upd y.val (p ++ [x]) nilS q) (upd y.rows (p ++ [x]) [] q)
      rw [anZ _ _ (hpc q hq), anZ _ _ (hpc q hq)]
      exact (h1.vals q hq hh).mo k (fun c hc e => (h.ownN p hp).2.2.2 (by rw [← (show c = y.mp p from e)]; exact hc))
  · rcases List.mem_cons.1 hq with rfl | hq
    · rw [hnd0, hmp0]
      exact ⟨.inr (.inl rfl), .inr (.inr rfl), fun hc => by have := hvlt _ hc; omega, fun hc => by have := hvlt _ hc; omega⟩
    · rw [hnd q hq, hmp q hq]
      obtain ⟨g1, g2, g3, g4⟩ := h.ownN q hq
      exact ⟨.inl g1, .inl g2, g3, g4⟩
  · intro c hc
    rcases hc with g | rfl | rfl
    · have := h.ownL c g; have := hx1.size; have := k.size; omega
    · have := hB.lt; have := k.size; omega
    · have := hm.lt; have := k.size; omega
  · intro q z hq
    rcases List.mem_cons.1 hq with e | hq
    · rw [(snoc_inj e).1]; exact List.mem_cons_of_mem _ hp
    · exact List.mem_cons_of_mem _ (h.pre q z hq)
end Go.Proofs.YtbiilejgfihohaaGreat.Tr
namespace Go.Proofs.YtbiilejgfihohaaGreat.Tr
open Go Go.Cu Go.RowKit
theorem Mem.grow {w : World} {own vown own2 vown2 : Nat → Prop} {tb : Nat} {lim n clock : Int} {ns : List Path} {y : Lay} (h : Mem w own vown tb lim n clock ns y) (h1 : ∀ b, own b → own2 b) (h2 : ∀ b, vown b → vown2 b) (h3 : ∀ b, vown2 b → own2 b) (h4 : ∀ b, own2 b → b < w.heap.size)
    (h5 : ∀ b, vown2 b → vown b ∨ ¬ own b) : Mem w own2 vown2 tb lim n clock ns y :=
  { h with
    vals := fun p hp hh => (h.vals p hp hh).weak h2
    ownN := fun p hp => by
      obtain ⟨a, b, c, d⟩ := h.ownN p hp
      exact ⟨h1 _ a, h1 _ b, fun e => (h5 _ e).elim c (fun g => g a), fun e => (h5 _ e).elim d (fun g => g b)⟩
    ownT := ⟨h1 _ h.ownT.1, fun e => (h5 _ e).elim h.ownT.2 (fun g => g h.ownT.1)⟩
    ownV := h3
    ownL := h4 }
theorem put_set {R : Ending → World → Prop} {w : World} {own vown F : Nat → Prop} {tb : Nat} {lim n clock : Int} {ns : List Path} {y : Lay} {p : Path} {s : Sl} {v : List (List Int)} (h : Mem w own vown tb lim n clock ns y) (hp : p ∈ ns) (h0 : 0 ≤ clock) (hc : clock < 9223372036854775807)
    (hv : Nest b8 F w s v) (hl : RowsLe v)
    (hR : ∀ own2 vown2 s2 w2, (∀ b, own b → own2 b) → (∀ b, own2 b → own b ∨ w.heap.size ≤ b) → Mem w2 own2 vown2 tb lim n (clock + 1) ns { y with here := upd y.here p true, val := upd y.val p s2, rows := upd y.rows p v, used := upd y.used p (clock + 1) } → Mo own w w2 → R (.returned (.int .i64 0)) w2) :
    trie_Trie_Put.j3 R (some ⟨tb, 0, none⟩) s (ndP y p) w := by
  unfold trie_Trie_Put.j3
  refine Calls.mono (copied_nest s v F w hv hl) ?_
  rintro en w1 ⟨s2, rfl, hn, hx1⟩
  refine ⟨s2, rfl, ?_⟩
  have hm1 : Mem w1 (fun b => own b ∨ (w.heap.size ≤ b ∧ b < w1.heap.size)) (fun b => vown b ∨ (w.heap.size ≤ b ∧ b < w1.heap.size)) tb lim n clock ns y := by
    refine (h.ex hx1).grow (fun b => .inl) (fun b => .inl) (fun b hb => hb.elim (fun g => .inl (h.ownV b g)) .inr) (fun b hb => hb.elim (fun g => Nat.lt_of_lt_of_le (h.ownL b g) hx1.size) (fun g => g.2)) (fun b hb => hb.elim .inl (fun g => .inr (fun e => ?_)))
    have := h.ownL b e
    omega
  have hB1 := hm1.node p hp
  refine agZ ?_
  refine Wu_store (v := .bool true) hB1 (by kernel_rfl) (by simp [Value.cells, Value.oneCell']) (Nat.le_of_ble_eq_true (by kernel_rfl)) fun w2 hB2 hmo2 => ?_
  refine agZ ?_
  refine Wu_store (v := slv s2) hB2 (by kernel_rfl) (by simp [Value.cells, Value.oneCell']) (Nat.le_of_ble_eq_true (by kernel_rfl)) fun w3 hB3 hmo3 => ?_
  have hmo13 : Mo (fun b => b = y.nd p) w1 w3 := hmo2.trans hmo3 (fun _ => id) (fun _ _ => id)
  have hB3' : Has w3 (y.nd p) [.map (some (y.mp p)), .bool true, slv s2, .int .i64 (y.used p)] 123 := hB3
  have hm3 : Mem w3 (fun b => own b ∨ (w.heap.size ≤ b ∧ b < w1.heap.size)) (fun b => vown b ∨ (w.heap.size ≤ b ∧ b < w1.heap.size)) tb lim n clock ns { y with here := upd y.here p true, val := upd y.val p s2, rows := upd y.rows p v } := by
    refine hm1.node_set hp hmo13 rfl rfl ?_ (fun q hq => ⟨anZ _ _ hq, anZ _ _ hq, anZ _ _ hq, rfl⟩) (fun _ => ?_)
    · show Has w3 (y.nd p) [.map (some (y.mp p)), .bool (upd y.here p true p), slv (upd y.val p s2 p), .int .i64 (y.used p)] _
      rw [asZ, asZ]; exact hB3'
    · show Nest b8 _ w3 (upd y.val p s2 p) (upd y.rows p v p)
      rw [asZ, asZ]
      exact (hn.nest.weak (fun b hb => .inr hb)).mo hmo13 (fun b hb e => (hm1.ownN p hp).2.2.1 (by rw [← (show b = y.nd p from e)]; exact hb))
  have hu := use_ok hm3 hp h0 hc
  refine Calls.mono hu ?_
  rintro en w4 ⟨rfl, hm4, hmo4⟩
  refine ⟨(), rfl, ?_⟩
  refine hR _ _ s2 w4 (fun b => .inl) (fun b hb => hb.elim .inl (fun g => .inr g.1)) hm4 ?_
  have k1 : Mo own w w3 := hx1.mo (hmo13.weak (Y := own) (fun b _ hb => by rw [hb]; exact (h.ownN p hp).1))
  exact k1.trans hmo4 (fun _ => id) (fun b hb hh => hh.elim id (fun g => absurd g.1 (by omega)))
structure Grown (l : Path) (i : Nat) (ns : List Path) (y : Lay) (ns2 : List Path) (y2 : Lay) : Prop where
  mem : ∀ q, q ∈ ns2 ↔ q ∈ ns ∨ (q <+: l ∧ q.length ≤ i)
  nodup : ns.Nodup → ns2.Nodup
  old : ∀ q ∈ ns, y2.here q = y.here q ∧ y2.rows q = y.rows q ∧ y2.used q = y.used q
  new : ∀ q ∈ ns2, q ∉ ns → y2.here q = false ∧ y2.used q = 0
theorem Grown.here {l : Path} {i : Nat} {ns ns2 : List Path} {y y2 : Lay} (g : Grown l i ns y ns2 y2) (hs : i + 1 ≤ l.length) (hin : l.take (i + 1) ∈ ns2) : Grown l (i + 1) ns y ns2 y2 := by
  refine { g with mem := fun q => ?_ }
  rw [g.mem]
  constructor
  · rintro (h | ⟨h1, h2⟩)
    · exact .inl h
    · exact .inr ⟨h1, by omega⟩
  · rintro (h | ⟨h1, h2⟩)
    · exact .inl h
    · by_cases h3 : q.length ≤ i
      · exact .inr ⟨h1, h3⟩
      · have e : q = l.take (i + 1) := by
          have := List.prefix_iff_eq_take.1 h1
          rw [this]; congr 1; omega
        rw [← e] at hin
        exact (g.mem q).1 hin
theorem Grown.add {l : Path} {i b m : Nat} {ns ns2 : List Path} {y y2 : Lay} (g : Grown l i ns y ns2 y2) (hs : i + 1 ≤ l.length) (hin : l.take (i + 1) ∉ ns2) : Grown l (i + 1) ns y (l.take (i + 1) :: ns2) (addLay y2 (l.take (i + 1)) b m) := by
  have hne : ∀ q ∈ ns2, q ≠ l.take (i + 1) := fun q hq e => hin (e ▸ hq)
  have hold : ∀ q ∈ ns, q ∈ ns2 := fun q hq => (g.mem q).2 (.inl hq)
  refine { mem := fun q => ?_, nodup := fun hn => List.nodup_cons.2 ⟨hin, g.nodup hn⟩, old := fun q hq => ?_, new := fun q hq hqn => ?_ }
  · rw [List.mem_cons, g.mem]
    constructor
    · rintro (rfl | h | ⟨h1, h2⟩)
      · exact .inr ⟨List.take_prefix _ _, by rw [List.length_take]; omega⟩
      · exact .inl h
      · exact .inr ⟨h1, by omega⟩
    · rintro (h | ⟨h1, h2⟩)
      · exact .inr (.inl h)
      · by_cases h3 : q.length ≤ i
        · exact .inr (.inr ⟨h1, h3⟩)
        · left
          have := List.prefix_iff_eq_take.1 h1
          rw [this]; congr 1; omega
  · have h := hne q (hold q hq)
    show upd y2.here _ false q = _ ∧ upd y2.rows _ [] q = _ ∧ upd y2.used _ 0 q = _
    rw [anZ _ _ h, anZ _ _ h, anZ _ _ h]
    exact g.old q hq
  · show upd y2.here _ false q = _ ∧ upd y2.used _ 0 q = _
    rcases List.mem_cons.1 hq with rfl | hq
    · rw [asZ, asZ]; exact ⟨rfl, rfl⟩
    · rw [anZ _ _ (hne q hq), anZ _ _ (hne q hq)]
      exact g.new q hq hqn
theorem put_walk {R : Ending → World → Prop} {w : World} {own vown F : Nat → Prop} {tb : Nat} {lim n clock : Int} {ns : List Path} {y : Lay} {l : Path} {s vs : Sl} {v : List (List Int)} (h : Mem w own vown tb lim n clock ns y) (h0 : 0 ≤ clock) (hc : clock < 9223372036854775807)
    (hr : Rds i64v w s l) (hs : ∀ a, s.base = some a → ¬ own a.block) (hll : l.length ≤ 9223372036854775806) (hn0 : 0 ≤ n) (hn1 : n ≤ 1024)
    (hv : Nest b8 F w vs v) (hF : ∀ b, F b → ¬ own b) (hl : RowsLe v)
    (hR : ∀ own2 vown2 s2 w2 ns2 y2, (∀ b, own b → own2 b) → (∀ b, own2 b → own b ∨ w.heap.size ≤ b) → Grown l l.length ns y ns2 y2 → Mem w2 own2 vown2 tb lim (if y2.here l = true then n else n + 1) (clock + 1) ns2 { y2 with here := upd y2.here l true, val := upd y2.val l s2, rows := upd y2.rows l v, used := upd y2.used l (clock + 1) } → Mo own w w2 → R (.returned (.int .i64 0)) w2) :
    trie_Trie_Put.j1 R (some ⟨tb, 0, none⟩) s vs w := by
  unfold trie_Trie_Put.j1
  refine agZ ?_
  refine aiZ h.top (by kernel_rfl) rfl ?_
  unfold trie_Trie_Put.l1
  rw [hr.1]
  refine adZ (fun st w' => st.1 = some ⟨tb, 0, none⟩ ∧ st.2.1 = vs ∧ st.2.2.2.1 = s ∧ st.2.2.2.2.1 = (l.length : Int) ∧ ∃ i : Nat, i ≤ l.length ∧ st.2.2.2.2.2.1 = (i : Int) ∧ ∃ own2 ns2 y2, (∀ b, own b → own2 b) ∧ (∀ b, own2 b → own b ∨ w.heap.size ≤ b) ∧ Grown l i ns y ns2 y2 ∧ Mem w' own2 vown tb lim n clock ns2 y2 ∧ Mo own w w' ∧ st.2.2.1 = ndP y2 (l.take i)) (fun st _ => l.length - st.2.2.2.2.2.1.toNat) ?_
    ⟨rfl, rfl, rfl, rfl, 0, Nat.zero_le _, rfl, own, ns, y, fun _ => id, fun _ => .inl, ⟨fun q => ⟨.inl, fun g => g.elim id (fun g => ?_)⟩, id, fun q _ => ⟨rfl, rfl, rfl⟩, fun q hq hn => absurd hq hn⟩, h, Mo.refl _ _, rfl⟩
  · rintro k ⟨t', vs', p', s', n', i', u⟩ w' hI hk
    dsimp only at hI hk ⊢
    obtain ⟨rfl, rfl, rfl, rfl, i, hi, rfl, own2, ns2, y2, ho1, ho2, hg, hm, hmo, rfl⟩ := hI
    unfold trie_Trie_Put.b1
    have hin : l.take i ∈ ns2 := (hg.mem _).2 (.inr ⟨List.take_prefix _ _, by rw [List.length_take]; omega⟩)
    have hnode := hm.node _ hin
    refine abZ (fun hlt => ?_) (fun hge => ?_)
    · refine Pu_idx (hr.mo hmo hs) tI sI (by omega) (by omega) fun a x hx1 hc1 _ => ?_
      refine Rd_one (c := .int .i64) (x := x) oI hc1 ?_
      rw [Int.toNat_natCast] at hx1
      refine agZ ?_
      refine aiZ (c := .map) (x := some (y2.mp (l.take i))) hnode (by kernel_rfl) rfl ?_
      obtain ⟨kl, hmap, hkids, hget⟩ := hm.child (x := x) hin
      have htk : l.take i ++ [x] = l.take (i + 1) := by rw [List.take_add_one, hx1]; rfl
      refine Rd_lookup tMap uInt zN hmap hget ?_
      refine Pu_eqnil tN ?_
      by_cases hnx : l.take i ++ [x] ∈ ns2
      · rw [if_pos hnx]
        refine Cd_f ?_
        unfold trie_Trie_Put.j2
        rw [acZ (x := (i : Int) + 1) (by omega) (by omega)]
        rw [htk] at hnx ⊢
        exact hk _ _ ⟨rfl, rfl, rfl, rfl, i + 1, by omega, by simp, own2, ns2, y2, ho1, ho2, hg.here (by omega) hnx, hm, hmo, rfl⟩ (by simp only; omega)
      · rw [if_neg hnx]
        refine Cd_t ?_
        refine Calls.mono (fresh_ok w') ?_
        rintro en w1 ⟨m, b, rfl, hB, hmb, hb1, hm1, hml, hx1'⟩
        refine ⟨some ⟨b, 0, none⟩, rfl, ?_⟩
        refine agZ ?_
        refine aiZ (c := .map) (x := some (y2.mp (l.take i))) (hnode.ex hx1') (by kernel_rfl) rfl ?_
        refine Wu_update tMap uInt (hmap.ex hx1') fun w2 hm2 hmo2 => ?_
        have hadd := hm.add hin hnx hx1' hB hmb hb1 hm1 (hmap.ex hx1') hkids hmo2 hm2
        unfold trie_Trie_Put.j2
        rw [acZ (x := (i : Int) + 1) (by omega) (by omega)]
        rw [htk] at hnx hadd
        refine hk _ _ ⟨rfl, rfl, rfl, rfl, i + 1, by omega, by simp, _, _, _, fun c hc => .inl (ho1 c hc), ?_, hg.add (by omega) hnx, hadd, ?_, ?_⟩ (by simp only; omega)
        · rintro c (hc | rfl | rfl)
          · exact ho2 c hc
          · have := hmo.size; right; omega
          · have := hmo.size; right; omega
        · refine hmo.trans (hx1'.mo hmo2) (fun _ => id) (fun c hc e => ?_)
          have e : c = y2.mp (l.take i) := e
          rcases ho2 _ (hm.ownN _ hin).2.1 with g | g
          · rw [e]; exact g
          · omega
        · show some _ = some _
          congr 2
          exact (asZ _ _ _).symm
    · have : i = l.length := by omega
      subst this
      rw [List.take_length] at hin hnode ⊢
      have hF2 := hv.mo hmo hF
      refine agZ ?_
      refine aiZ (c := .bool) (x := y2.here l) hnode (by kernel_rfl) rfl ?_
      refine Cd_not (fun hf => ?_) (fun ht => ?_)
      · refine agZ ?_
        refine aiZ hm.top (by kernel_rfl) rfl ?_
        refine agZ ?_
        rw [acZ (x := n + 1) (by omega) (by omega)]
        refine Wu_store (v := .int .i64 (n + 1)) hm.top sI (by simp [Value.cells, Value.oneCell']) (Nat.le_of_ble_eq_true (by kernel_rfl)) fun w4 hB4 hmo4 => ?_
        have hm4 := hm.top_set (n' := n + 1) (clock' := clock) hB4 hmo4
        have hmo5 : Mo own w w4 := hmo.trans hmo4 (fun _ => id) (fun b _ hb => by rw [hb]; exact h.ownT.1)
        refine put_set hm4 hin h0 hc (hv.mo hmo5 hF) hl fun own3 vown3 s2 w2 e1 e2 e3 e4 => ?_
        refine hR own3 vown3 s2 w2 ns2 y2 (fun b hb => e1 b (ho1 b hb)) (fun b hb => (e2 b hb).elim (ho2 b) (fun g => .inr (Nat.le_trans hmo5.size g))) hg (by rw [if_neg (by rw [hf]; simp)]; exact e3) ?_
        exact hmo5.trans e4 (fun _ => id) (fun b hb g => (ho2 b g).elim id (fun g => absurd g (by omega)))
      · refine put_set hm hin h0 hc hF2 hl fun own3 vown3 s2 w2 e1 e2 e3 e4 => ?_
        refine hR own3 vown3 s2 w2 ns2 y2 (fun b hb => e1 b (ho1 b hb)) (fun b hb => (e2 b hb).elim (ho2 b) (fun g => .inr (Nat.le_trans hmo.size g))) hg (by rw [if_pos ht]; exact e3) ?_
        exact hmo.trans e4 (fun _ => id) (fun b hb g => (ho2 b g).elim id (fun g => absurd g (by omega)))
  · have : q = [] := List.eq_nil_of_length_eq_zero (by omega)
    rw [this]; exact h.root
end Go.Proofs.YtbiilejgfihohaaGreat.Tr
namespace Go.Proofs.YtbiilejgfihohaaGreat.Tr
open Go Go.Cu Go.RowKit
theorem Ents.put {es : List Ent} {ns ns2 : List Path} {y y2 : Lay} {lim clock : Int} {l : Path} {s2 : Sl} {v : List (List Int)} (h : Ents es ns y lim clock) (g : Grown l l.length ns y ns2 y2) (hg : goodB l = true) (hv : RowsLe v) (hroom : ((without es l).length : Int) + 1 ≤ lim) :
    Ents ((l, v) :: without es l) ns2 { y2 with here := upd y2.here l true, val := upd y2.val l s2, rows := upd y2.rows l v, used := upd y2.used l (clock + 1) } lim (clock + 1) := by
  have hl : l ∈ ns2 := (g.mem l).2 (.inr ⟨List.prefix_refl l, Nat.le_refl _⟩)
  have hw : ∀ e ∈ without es l, e ∈ es ∧ e.1 ≠ l := fun e he => mem_without.1 he
  have hu : ∀ e ∈ without es l, upd y2.used l (clock + 1) e.1 = y.used e.1 := fun e he => by
    rw [anZ _ _ (hw e he).2]; exact (g.old _ (h.rows e (hw e he).1).1).2.2
  have hc0 := h.clk0
  refine { here := fun p hp => ?_, rows := fun e he => ?_, le := fun e he => ?_, nodup := ?_, order := ?_, clk := fun e he => ?_, clk0 := by omega, pos := fun e he => ?_, clean := fun p hp => ?_, good := fun e he => ?_, uniq := g.nodup h.uniq, room := ?_, lim1 := h.lim1, lim2 := h.lim2 }
  · show upd y2.here l true p = true ↔ _
    by_cases hpl : p = l
    · subst hpl
      rw [asZ]
      exact ⟨fun _ => ⟨(p, v), List.mem_cons_self, rfl⟩, fun _ => rfl⟩
    · rw [anZ _ _ hpl]
      by_cases hpn : p ∈ ns
      · rw [(g.old p hpn).1, h.here p hpn]
        constructor
        · rintro ⟨e, he, rfl⟩; exact ⟨e, List.mem_cons_of_mem _ (mem_without.2 ⟨he, hpl⟩), rfl⟩
        · rintro ⟨e, he, rfl⟩
          rcases List.mem_cons.1 he with rfl | he
          · exact absurd rfl hpl
          · exact ⟨e, (hw e he).1, rfl⟩
      · rw [(g.new p hp hpn).1]
        refine ⟨fun h => (by cases h), ?_⟩
        rintro ⟨e, he, rfl⟩
        rcases List.mem_cons.1 he with rfl | he
        · exact absurd rfl hpl
        · exact absurd (h.rows e (hw e he).1).1 hpn
  · show e.1 ∈ ns2 ∧ upd y2.rows l v e.1 = e.2
    rcases List.mem_cons.1 he with rfl | he
    · exact ⟨hl, asZ _ _ _⟩
    · have := h.rows e (hw e he).1
      rw [anZ _ _ (hw e he).2, (g.old _ this.1).2.1]
      exact ⟨(g.mem _).2 (.inl this.1), this.2⟩
  · rcases List.mem_cons.1 he with rfl | he
    · exact hv
    · exact h.le e (hw e he).1
  · rw [List.map_cons, List.nodup_cons]
    refine ⟨fun hm => ?_, without_nodup h.nodup⟩
    obtain ⟨e, he, hel⟩ := List.mem_map.1 hm
    exact (hw e he).2 hel
  · rw [List.pairwise_cons]
    constructor
    · intro e he
      show upd y2.used l (clock + 1) e.1 < upd y2.used l (clock + 1) l
      rw [hu e he, asZ]
      have := h.clk e (hw e he).1
      omega
    · refine List.Pairwise.imp_of_mem ?_ (h.order.sublist (List.filter_sublist : (without es l).Sublist es))
      intro a b ha hb hab
      show upd y2.used l (clock + 1) b.1 < upd y2.used l (clock + 1) a.1
      rw [hu a ha, hu b hb]; exact hab
  · show upd y2.used l (clock + 1) e.1 ≤ clock + 1
    rcases List.mem_cons.1 he with rfl | he
    · rw [asZ]; omega
    · rw [hu e he]; have := h.clk e (hw e he).1; omega
  · show 0 ≤ upd y2.used l (clock + 1) e.1
    rcases List.mem_cons.1 he with rfl | he
    · rw [asZ]; omega
    · rw [hu e he]; exact h.pos e (hw e he).1
  · rcases (g.mem p).1 hp with hpn | ⟨hpl, _⟩
    · rcases h.clean p hpn with h0 | ⟨e, he, hpe⟩
      · exact .inl h0
      · right
        by_cases hel : e.1 = l
        · exact ⟨(l, v), List.mem_cons_self, by rw [← hel]; exact hpe⟩
        · exact ⟨e, List.mem_cons_of_mem _ (mem_without.2 ⟨he, hel⟩), hpe⟩
    · exact .inr ⟨(l, v), List.mem_cons_self, hpl⟩
  · rcases List.mem_cons.1 he with rfl | he
    · exact hg
    · exact h.good e (hw e he).1
  · rw [List.length_cons]; omega
theorem without_last : ∀ {es : List Ent} (hne : es ≠ []), (es.map (·.1)).Nodup → without es (es.getLast hne).1 = es.dropLast
  | [e], _, _ => by unfold without; simp
  | e :: f :: es, hne, hn => by
    rw [List.map_cons, List.nodup_cons] at hn
    have ih := without_last (es := f :: es) (by simp) hn.2
    have hne2 : e.1 ≠ ((f :: es).getLast (by simp)).1 := fun h => hn.1 (List.mem_map.2 ⟨_, List.getLast_mem _, h.symm⟩)
    rw [List.getLast_cons (by simp), List.dropLast_cons_of_ne_nil (by simp), ← ih]
    unfold without
    rw [List.filter_cons_of_pos (by simpa using hne2)]
def putE (es : List Ent) (lim : Int) (l : Path) (v : List (List Int)) : List Ent := ((l, v) :: without es l).take lim.toNat
theorem put_rest {w : World} {own own' F : Nat → Prop} {tb : Nat} {lim clock : Int} {es es' : List Ent} {w1 : World} {l : Path} {s vs : Sl} {v : List (List Int)} (h : TrieSt w1 own tb lim es' clock) (hmo : Mo own w w1) (hc : clock < 4611686018427387904) (hg : goodB l = true)
    (hr : Rds i64v w s l) (hs : ∀ a, s.base = some a → ¬ own a.block) (hv : Nest b8 F w vs v) (hF : ∀ b, F b → ¬ own b) (hl : RowsLe v) (hroom : ((without es' l).length : Int) + 1 ≤ lim) (he : (l, v) :: without es' l = putE es lim l v) (R : Ending → World → Prop)
    (hR : ∀ w2 own2, (∀ b, own b → own2 b) → (∀ b, own2 b → own b ∨ w.heap.size ≤ b) → TrieSt w2 own2 tb lim (putE es lim l v) (clock + 1) → Mo own w w2 → R (.returned (.int .i64 0)) w2) :
    trie_Trie_Put.j1 R (some ⟨tb, 0, none⟩) s vs w1 := by
  obtain ⟨vown, ns, y, hm, hen⟩ := h
  have h0 := hen.clk0
  have hr1 := hen.room
  have hr2 := hen.lim2
  have hl6 := good_len hg
  refine put_walk hm h0 (by omega) (hr.mo hmo hs) hs (by omega) (by omega) (by omega) (hv.mo hmo hF) hF hl fun own2 vown2 s2 w2 ns2 y2 e1 e2 g e4 e5 => ?_
  refine hR w2 own2 e1 (fun b hb => (e2 b hb).elim .inl (fun g => .inr (Nat.le_trans hmo.size g))) ?_ (hmo.trans e5 (fun _ => id) (fun _ _ => id))
  rw [← he]
  refine ⟨vown2, ns2, _, ?_, hen.put (s2 := s2) g hg hl hroom⟩
  have hlen : (if y2.here l = true then (es'.length : Int) else (es'.length : Int) + 1) = (((l, v) :: without es' l).length : Int) := by
    rw [List.length_cons]
    by_cases hin : l ∈ ns ∧ y.here l = true
    · rw [if_pos (by rw [(g.old l hin.1).1]; exact hin.2)]
      have := without_length hen.nodup (hen.held hin)
      omega
    · rw [without_none (hen.unheld hin), if_neg ?_]
      · omega
      · intro hh
        by_cases hn : l ∈ ns
        · rw [(g.old l hn).1] at hh; exact hin ⟨hn, hh⟩
        · rw [(g.new l ((g.mem l).2 (.inr ⟨List.prefix_refl l, Nat.le_refl _⟩)) hn).1] at hh; cases hh
  rw [← hlen]; exact e4
theorem put_ok {w : World} {own F : Nat → Prop} {tb : Nat} {lim clock : Int} {es : List Ent} (h : TrieSt w own tb lim es clock) (hc : clock < 4611686018427387904) (s vs : Sl) (l : Path) (v : List (List Int)) (hr : Rds i64v w s l) (hll : l.length ≤ 9223372036854775806) (hs : ∀ a, s.base = some a → ¬ own a.block)
    (hv : Nest b8 F w vs v) (hF : ∀ b, F b → ¬ own b) (hl : RowsLe v) :
    Calls Tryz.prog 44 #[.pointer (some ⟨tb, 0, none⟩), slv s, slv vs] w fun en w' =>
      (goodB l = false ∧ en = .returned (.int .i64 120) ∧ Ex w w') ∨
      (goodB l = true ∧ en = .returned (.int .i64 0) ∧ ∃ own2, (∀ b, own b → own2 b) ∧ (∀ b, own2 b → own b ∨ w.heap.size ≤ b) ∧ TrieSt w' own2 tb lim (putE es lim l v) (clock + 1) ∧ Mo own w w') := by
  have hst := h
  obtain ⟨vown, ns, y, hm, he⟩ := h
  refine trie_Trie_Put.run _ _ s vs w ?_
  unfold trie_Trie_Put.M
  refine Pu_eqnil tT ?_
  refine Cd_f ?_
  refine Cl_gv (isKey_gv s l w hr hll) fun w1 hx1 => ?_
  refine Cd_not (fun hk => .inl ⟨hk, rfl, hx1⟩) (fun hk => ?_)
  refine agZ ?_
  have hm1 := hm.ex hx1
  refine aiZ hm1.top (by kernel_rfl) rfl ?_
  refine Pu_eqnil tN ?_
  refine Cd_f ?_
  have hxd := hx1.trans (Ex.drew w1)
  have hmd := hm.ex hxd
  refine Held_ex ?_
  refine Cl_gvp (holder_gv hmd he.goodN s l (hr.ex hxd) hll) fun w2 hx2 => ⟨hx2, ?_⟩
  have hx02 := hxd.trans hx2
  have k02 : Mo own w w2 := hx02.weak (fun _ _ g => g.elim)
  have hroom := he.room
  have hlim := he.lim1
  refine Pu_eqnil tN ?_
  by_cases hh : l ∈ ns ∧ y.here l = true
  · rw [if_pos hh]
    refine Cd_f ?_
    unfold trie_Trie_Put.j4
    refine Cd_f ?_
    have hlen := without_length he.nodup (he.held hh)
    refine put_rest (es := es) (own' := own) (hst.ex hx02) k02 hc hk hr hs hv hF hl (by omega) ?_ _ fun w3 own2 a1 a2 a3 a4 => .inr ⟨hk, rfl, own2, a1, a2, a3, a4⟩
    unfold putE
    rw [List.take_of_length_le (by rw [List.length_cons]; omega)]
  · rw [if_neg hh]
    refine Cd_t ?_
    have hno := he.unheld hh
    refine agZ ?_
    refine akZ (c := .int .i64) (x := (es.length : Int)) (fun w' hS => (hmd.ex hS).top) (by kernel_rfl) rfl ?_
    refine agZ ?_
    refine akZ (c := .int .i64) (x := lim) (fun w' hS => (hmd.ex hS).top) (by kernel_rfl) rfl ?_
    unfold trie_Trie_Put.j4
    refine abZ (fun hfull => ?_) (fun hfree => ?_)
    · have hne : es ≠ [] := by rintro rfl; simp at hfull; omega
      have hpos : 0 < es.length := List.length_pos_iff.2 hne
      have hl2 := he.lim2
      refine Calls.mono (recent_ok (hst.ex hx02) hc) ?_
      rintro en w3 ⟨s3, rfl, hn3, hx3⟩
      refine ⟨s3, rfl, ?_⟩
      have hx03 := hx02.trans hx3
      have hlen3 := nest_len hn3.nest
      rw [List.length_map] at hlen3
      obtain ⟨ss, r1, r2, r3, r4⟩ := hn3.nest
      rw [List.length_map] at r2
      dsimp only
      rw [acZ (x := ((s3.len : Nat) : Int) - 1) (by omega) (by omega)]
      refine Pu_idx r1 tII sII (by omega) (by omega) fun a x hx1' hc1 _ => ?_
      refine Rd_one (c := .sl) (x := x) oII hc1 ?_
      have hidx : ((s3.len : Int) - 1).toNat = es.length - 1 := by omega
      rw [hidx] at hx1'
      have hlast : (es.map (·.1))[es.length - 1]? = some (es.getLast hne).1 := by
        rw [List.getElem?_map, ← List.getLast?_eq_getElem?, List.getLast?_eq_some_getLast hne]; rfl
      obtain ⟨q1, q2⟩ := r4 _ x _ hx1' hlast
      have hgl := good_len (he.good _ (List.getLast_mem hne))
      refine Calls.mono (drop_ok (hst.ex hx03) x _ q1 (by omega) (fun a ha ho => ?_)) ?_
      · have := (q2 a ha).1
        have := hm.ownL _ ho
        have := hx02.size
        omega
      · rintro en w4 (⟨hno2, _⟩ | ⟨v4, hin4, rfl, hst4, hmo4⟩)
        · exact absurd rfl (hno2 _ (List.getLast_mem hne))
        · refine ⟨true, rfl, ?_⟩
          rw [without_last hne he.nodup] at hst4
          have k04 : Mo own w w4 := hx03.mo hmo4
          have hno4 : ∀ e ∈ es.dropLast, e.1 ≠ l := fun e he => hno e (List.dropLast_subset _ he)
          have hw4 := without_none hno4
          refine put_rest (es := es) (own' := own) hst4 k04 hc hk hr hs hv hF hl (by rw [hw4, List.length_dropLast]; omega) ?_ _ fun w5 own2 a1 a2 a3 a4 => .inr ⟨hk, rfl, own2, a1, a2, a3, a4⟩
          unfold putE
          rw [hw4, without_none hno]
          have : lim.toNat = (es.length - 1) + 1 := by omega
          rw [this, List.take_succ_cons, List.dropLast_eq_take]
    · refine put_rest (es := es) (own' := own) (hst.ex hx02) k02 hc hk hr hs hv hF hl (by rw [without_none hno]; omega) ?_ _ fun w3 own2 a1 a2 a3 a4 => .inr ⟨hk, rfl, own2, a1, a2, a3, a4⟩
      unfold putE
      rw [List.take_of_length_le (by rw [List.length_cons, without_none hno]; omega)]
end Go.Proofs.YtbiilejgfihohaaGreat.Tr
namespace Go.Proofs.YtbiilejgfihohaaGreat
open Go Go.Cu Go.RowKit
abbrev keyI (L : List Nat) : List Int := L.map fun (n : Nat) => ((n : Nat) : Int)
theorem keyI_inj : ∀ {L L' : List Nat}, keyI L = keyI L' → L = L'
  | [], [], _ => rfl
  | [], _ :: _, h => by cases h
  | _ :: _, [], h => by cases h
  | a :: L, b :: L', h => by
    simp only [keyI, List.map_cons, List.cons.injEq] at h
    rw [keyI_inj (L := L) (L' := L') h.2, show a = b by omega]
theorem rds_keyI {w : World} {s : Sl} {L : List Nat} (h : Rds natV w s L) : Rds i64v w s (keyI L) := by
  refine ⟨by rw [h.1, List.length_map], h.2.1, fun i x hi => ?_⟩
  rw [List.getElem?_map] at hi
  cases hl : L[i]? with
  | none => rw [hl] at hi; cases hi
  | some y =>
    rw [hl] at hi
    cases hi
    exact h.2.2 i y hl
theorem map_ints (r : List F8) : (r.map (fun x => (x.toNat : Int))).map b8 = r.map f8v := by rw [List.map_map]; rfl
theorem intsM_at {D : Mtx} {i : Nat} {r : List F8} (h : D[i]? = some r) : (intsM D)[i]? = some (r.map (fun x => (x.toNat : Int))) := by unfold intsM; rw [List.getElem?_map, h]; rfl
theorem own_f8 {e : TypeId} {b : Nat} {w : World} {s : Sl} {r : List F8} : Own b8 e b w s (r.map (fun x => (x.toNat : Int))) ↔ Own f8v e b w s r := by
  unfold Own
  rw [map_ints, List.length_map]
theorem rds_f8 {w : World} {s : Sl} {r : List F8} (h : Rds f8v w s r) : Rds b8 w s (r.map (fun x => (x.toNat : Int))) := by
  refine ⟨by rw [h.1, List.length_map], h.2.1, fun i x hi => ?_⟩
  rw [List.getElem?_map] at hi
  cases hl : r[i]? with
  | none => rw [hl] at hi; cases hi
  | some y =>
    rw [hl] at hi
    cases hi
    exact h.2.2 i y hl
theorem Sep.get2 {W0 w : World} {T : Ths} {k : Ky} {t : Th} (h : Sep W0 w T) (hk : T k = t) : ∃ F : Nat → Prop, t.h w F ∧ (∀ b, F b → W0.heap.size ≤ b ∧ b < w.heap.size) ∧
    ∀ (w' : World) (q : Ky) (t' u : Th) (H : Nat → Prop), k ≠ q → Mo F w w' → t'.h w' F → u.h w' H → (∀ b, H b → w.heap.size ≤ b ∧ b < w'.heap.size) → Sep W0 w' ((T.up k t').up q u) := by
  obtain ⟨hmo, F, h1, h2, h3⟩ := h
  refine ⟨F k, hk ▸ h1 k, h2 k, fun w' q t' u H hkq hG2 hG1 hu hH => ⟨Mo.trans hmo hG2 (fun _ => id) (fun i _ hi => (h2 k i hi).1), fun j => if j = q then H else F j, fun j => ?_, fun j b hb => ?_, fun a j b haj ha hj => ?_⟩⟩
  · unfold Ths.up
    dsimp only
    by_cases e : j = q
    · rw [if_pos e, if_pos e]; exact hu
    · rw [if_neg e, if_neg e]
      by_cases e2 : j = k
      · rw [if_pos e2, e2]; exact hG1
      · rw [if_neg e2]; exact (T j).fr (h1 j) hG2 (fun b hb hb' => h3 j k b e2 hb hb')
  · dsimp only at hb
    by_cases e : j = q
    · rw [if_pos e] at hb
      have := hH b hb
      exact ⟨Nat.le_trans hmo.size this.1, this.2⟩
    · rw [if_neg e] at hb
      have := h2 j b hb
      exact ⟨this.1, Nat.lt_of_lt_of_le this.2 hG2.size⟩
  · dsimp only at ha hj
    by_cases e : a = q
    · rw [if_pos e] at ha
      rw [if_neg (fun e' => haj (e.trans e'.symm))] at hj
      have h5 := (hH b ha).1
      have := (h2 j b hj).2
      omega
    · rw [if_neg e] at ha
      by_cases e1 : j = q
      · rw [if_pos e1] at hj
        have h5 := (hH b hj).1
        have := (h2 a b ha).2
        omega
      · rw [if_neg e1] at hj
        exact h3 a j b haj ha hj
theorem frontE_mem {es : List Tr.Ent} {l : Tr.Path} {v : List (List Int)} (h : (l, v) ∈ es) : ∀ e ∈ Tr.frontE es l v, e ∈ es := by
  intro e he
  unfold Tr.frontE at he
  rcases List.mem_cons.1 he with rfl | h'
  · exact h
  · exact (Tr.mem_without.1 h').1
theorem putE_mem {es : List Tr.Ent} {l : Tr.Path} {v : List (List Int)} : ∀ e ∈ Tr.putE es 16 l v, e = (l, v) ∨ e ∈ es := by
  intro e he
  unfold Tr.putE at he
  rcases List.mem_cons.1 (List.mem_of_mem_take he) with rfl | h'
  · exact .inl rfl
  · exact .inr (Tr.mem_without.1 h').1
theorem cget_ok {W0 w : World} {T : Ths} {kc kr : Ky} {tb k m : Nat} {Q : Mtx} {es : List Tr.Ent} {clock : Int} {s : Sl} {L : List Nat} (hS : Sep W0 w T) (hc : T kc = TriT tb es clock) (hkr : kc ≠ kr) (hes : ∀ e ∈ es, CachOk k m Q e) (hr : Rds natV w s L) (hl : L.length ≤ 65536) (hcl : clock < 4611686018427387904) :
    Cl Tryz.prog 42 #[.pointer (at0 tb), .slice s.base s.len s.cap] (.tup [.at .sl, .at .bool]) (fun x w' => (x = (⟨none, 0, 0⟩, false, ()) ∧ Ex w w' ∧ ∀ e ∈ es, e.1 ≠ keyI L) ∨
      ∃ s' hs D es', x = (s', true, ()) ∧ decM k (gM k Q) ((lostL (k + m) L).take k) L = some D ∧ Sep W0 w' ((T.up kc (TriT tb es' (clock + 1))).up kr (ShT s' hs D)) ∧ (∀ e ∈ es', CachOk k m Q e) ∧ es ≠ []) w := by
  obtain ⟨F, ht, hF, hcc⟩ := Sep.get2 hS hc
  have ht' : Tr.TrieSt w F tb 16 es clock := ht
  refine Cl_of (Tr.get_ok ht' s (keyI L) (rds_keyI hr) (by rw [List.length_map]; omega) (by omega)) ?_
  rintro e w' (⟨h1, rfl, hx⟩ | ⟨v, hin, ⟨s', rfl, hn⟩, hst, hmo⟩)
  · exact ⟨(⟨none, 0, 0⟩, false, ()), rfl, .inl ⟨rfl, hx, h1⟩⟩
  · obtain ⟨L', D, e1, e2, e3⟩ := hes _ hin
    have : L = L' := keyI_inj e1
    subst this
    dsimp only at e3
    subst e3
    obtain ⟨ss, ho, hlen, hrow, hap, hsep⟩ := hn
    have hlD : ss.length = D.length := by rw [hlen]; unfold intsM; rw [List.length_map]
    have hrow' : ∀ (i : Nat) (g : Sl) (r : List F8), ss[i]? = some g → D[i]? = some r → Own f8v 5 w.heap.size w' g r := fun i g r g1 g2 => own_f8.1 (hrow i g _ g1 (intsM_at g2))
    have hblk : ∀ (i : Nat) (g : Sl), ss[i]? = some g → ∀ b, SlIn g b → w.heap.size ≤ b ∧ b < w'.heap.size := by
      intro i g hg b hb
      obtain ⟨r, hr⟩ := atx (l := D) (i := i) (by have := (List.getElem?_eq_some_iff.1 hg).1; omega)
      exact (hrow' i g r hg hr).base b hb
    refine ⟨(s', true, ()), rfl, .inr ⟨s', ss, D, Tr.frontE es (keyI L) (intsM D), rfl, e2, ?_, fun e he => hes e (frontE_mem hin e he), fun e => by rw [e] at hin; simp at hin⟩⟩
    refine hcc w' kr (TriT tb (Tr.frontE es (keyI L) (intsM D)) (clock + 1)) (ShT s' ss D) (fun b => w.heap.size ≤ b ∧ b < w'.heap.size) hkr hmo hst ?_ (fun _ h => h)
    exact ⟨ho.weak (Nat.zero_le _), hlD, fun i g r g1 g2 => (hrow' i g r g1 g2).weak (Nat.zero_le _), fun i j g g' hne g1 g2 b hb => hap i j g g' b g1 g2 hne hb, fun i g g1 b hb => ⟨hsep i g b g1 hb, hblk i g g1 b hb⟩, fun b hb => ho.base b hb⟩
theorem good_num {n : Nat} {L : List Nat} (h : NumL n L) (hn : n ≤ 256) : Tr.goodB (keyI L) = true := by
  have main : ∀ (l : List Nat) (p : Int), (∀ x ∈ l, (x : Int) > p ∧ x < 256) → (∀ (i : Nat) (x y : Nat), l[i]? = some x → l[i + 1]? = some y → x < y) → Tr.goodFrom p (keyI l) = true := by
    intro l
    induction l with
    | nil => intro p _ _; rfl
    | cons a l ih =>
      intro p h1 h2
      have ha := h1 a (by simp)
      simp only [keyI, List.map_cons, Tr.goodFrom, Bool.and_eq_true, decide_eq_true_eq]
      refine ⟨by first | exact ⟨by omega, by omega⟩ | (refine ⟨⟨?_, ?_⟩, ?_⟩ <;> omega), ?_⟩
      refine ih (a : Int) (fun x hx => ⟨?_, (h1 x (by simp [hx])).2⟩) (fun i x y e1 e2 => h2 (i + 1) x y (by simpa using e1) (by simpa using e2))
      have hN : NumL 256 (a :: l) := ⟨fun z hz => (h1 z hz).2, h2⟩
      obtain ⟨i, hi⟩ := List.mem_iff_getElem?.1 hx
      have := hN.mono (i := 0) (j := i + 1) (by omega) (x := a) (y := x) rfl (by simpa using hi)
      omega
  exact main L (-1) (fun x hx => ⟨by omega, by have := h.lt x hx; omega⟩) h.up
theorem cput_ok {W0 w : World} {T : Ths} {kc kr km : Ky} {tb k m : Nat} {Q D : Mtx} {es : List Tr.Ent} {clock : Int} {s sr : Sl} {hsr : List Sl} {L : List Nat} (hS : Sep W0 w T) (hc : T kc = TriT tb es clock) (hkr : kc ≠ kr) (hkm : kc ≠ km) (hr' : T kr = ShT sr hsr D)
    (hmg : ∀ w F, (T km).h w F → Rds natV w s L ∧ ∀ b, SlIn s b → F b) (hes : ∀ e ∈ es, CachOk k m Q e) (hL : NumL (k + m) L) (hkm2 : k + m ≤ 256) (hD : decM k (gM k Q) ((lostL (k + m) L).take k) L = some D) (hDs : D.length ≤ 256 ∧ ∀ r ∈ D, r.length ≤ 256) (hcl : clock < 4611686018427387904) :
    Cl Tryz.prog 44 #[.pointer (at0 tb), .slice s.base s.len s.cap, .slice sr.base sr.len sr.cap] (.one (.at (.int .i64))) (fun x w' => x = 0 ∧ ∃ es', Sep W0 w' (T.up kc (TriT tb es' (clock + 1))) ∧ (∀ e ∈ es', CachOk k m Q e) ∧ (es = [] → es'.length = 1)) w := by
  obtain ⟨F1, G1, a1, a2, a3⟩ := hS.apart hkr
  obtain ⟨hmo, Fa, f1, f2, f3⟩ := hS
  have hS' : Sep W0 w T := ⟨hmo, Fa, f1, f2, f3⟩
  have ht : Tr.TrieSt w (Fa kc) tb 16 es clock := by have := f1 kc; rw [hc] at this; exact this
  have hsh : ShIn w (Fa kr) sr hsr D := by have := f1 kr; rw [hr'] at this; exact this
  obtain ⟨hrd, hrb⟩ := hmg w (Fa km) (f1 km)
  have hLl := hL.len
  have hint : (intsM D).length = D.length := by unfold intsM; rw [List.length_map]
  refine Cl_of (Tr.put_ok (F := Fa kr) ht (by omega) s sr (keyI L) (intsM D) (rds_keyI hrd) (by rw [List.length_map]; omega) (fun a ha hb => f3 kc km a.block hkm hb (hrb _ (slin_of ha))) ?_ (fun b hb hb' => f3 kc kr b hkr hb' hb) ?_) ?_
  · refine ⟨hsr, hsh.hdr.rds, by rw [hint]; exact hsh.len, fun a ha => hsh.own _ (slin_of ha), fun i g l g1 g2 => ?_⟩
    obtain ⟨r, hri⟩ := atx (l := D) (i := i) (by have := (List.getElem?_eq_some_iff.1 g1).1; have := hsh.len; omega)
    rw [intsM_at hri] at g2
    cases g2
    exact ⟨rds_f8 (hsh.row i g r g1 hri).rds, fun a ha => (hsh.apt i g g1 _ (slin_of ha)).2⟩
  · refine ⟨by rw [hint]; omega, fun l hl => ?_⟩
    unfold intsM at hl
    obtain ⟨r, hr, rfl⟩ := List.mem_map.1 hl
    rw [List.length_map]
    have := hDs.2 r hr
    omega
  · rintro e w' (⟨h1, _, _⟩ | ⟨_, rfl, own2, o1, o2, o3, o4⟩)
    · rw [good_num hL hkm2] at h1; cases h1
    · refine ⟨0, rfl, rfl, Tr.putE es 16 (keyI L) (intsM D), ?_, fun e he => ?_, fun e => ?_⟩
      · refine ⟨Mo.trans hmo o4 (fun _ => id) (fun i _ hi => (f2 kc i hi).1), fun j => if j = kc then own2 else Fa j, fun j => ?_, fun j b hb => ?_, fun x y b hxy hx hy => ?_⟩
        · unfold Ths.up
          dsimp only
          by_cases e : j = kc
          · rw [if_pos e, if_pos e]; exact o3
          · rw [if_neg e, if_neg e]; exact (T j).fr (f1 j) o4 (fun b hb hb' => f3 j kc b e hb hb')
        · dsimp only at hb
          by_cases e : j = kc
          · rw [if_pos e] at hb
            obtain ⟨_, _, _, hm, _⟩ := o3
            have hlt := hm.ownL b hb
            rcases o2 b hb with h | h
            · exact ⟨(f2 kc b h).1, hlt⟩
            · exact ⟨Nat.le_trans hmo.size h, hlt⟩
          · rw [if_neg e] at hb
            exact ⟨(f2 j b hb).1, Nat.lt_of_lt_of_le (f2 j b hb).2 o4.size⟩
        · dsimp only at hx hy
          by_cases e : x = kc
          · rw [if_pos e] at hx
            rw [if_neg (fun e' => hxy (e.trans e'.symm))] at hy
            rcases o2 b hx with h | h
            · exact f3 kc y b (fun e' => hxy (e.trans e')) h hy
            · have := (f2 y b hy).2; omega
          · rw [if_neg e] at hx
            by_cases e' : y = kc
            · rw [if_pos e'] at hy
              rcases o2 b hy with h | h
              · exact f3 x kc b e hx h
              · have := (f2 x b hx).2; omega
            · rw [if_neg e'] at hy
              exact f3 x y b hxy hx hy
      · rcases putE_mem e he with rfl | h
        · exact ⟨L, D, rfl, hD, rfl⟩
        · exact hes e h
      · subst e
        unfold Tr.putE Tr.without
        rfl
theorem clen_gv {W0 w : World} {T : Ths} {kc : Ky} {tb : Nat} {es : List Tr.Ent} {clock : Int} (hS : Sep W0 w T) (hc : T kc = TriT tb es clock) : Gv Tryz.prog 54 #[.pointer (at0 tb)] (.int .i64 (es.length : Int)) w := by
  obtain ⟨F, ht, _⟩ := hS.get kc hc
  have ht' : Tr.TrieSt w F tb 16 es clock := ht
  obtain ⟨v, ns, y, hm, _⟩ := ht'
  refine trie_Trie_Len.run _ (at0 tb) w ?_
  unfold trie_Trie_Len.M
  refine Pu_eqnil Tr.tT (Cd_f (agZ ?_))
  refine aiZ (c := .int .i64) (x := (es.length : Int)) (B := tb) (i := 2) hm.top (by kernel_rfl) rfl ⟨rfl, Ex.refl _⟩
theorem cached_gv {W0 w : World} {T : Ths} {j : Nat} {a : CodA} {f : Int} {k m b : Nat} {Q : Mtx} {es : List Tr.Ent} {clock : Int} (hS : Sep W0 w T) (hC : Cod T j a f k m b Q es clock) : Gv Tryz.prog 33 #[.pointer (at0 a.cp)] (.int .i64 (es.length : Int)) w := by
  refine mC_Cached.run _ (at0 a.cp) w ?_
  unfold mC_Cached.M
  refine Pu_codnil (Cd_f (agZ ?_))
  refine aiZ (c := .ptr) (x := at0 a.tb) (B := a.cp) (i := 5) (hC.cel hS) (by kernel_rfl) rfl ?_
  exact Cl_gv (d := .one (.at (.int .i64))) (x := (es.length : Int)) (clen_gv hS hC.c3) fun w1 hx => ⟨rfl, hx⟩
theorem rising_gv {W0 w : World} {T : Ths} {j : Nat} {a : CodA} {f : Int} {k m b : Nat} {Q : Mtx} {es : List Tr.Ent} {clock : Int} {s : Sl} {L : List Nat} (hS : Sep W0 w T) (hC : Cod T j a f k m b Q es clock) (hr : Rds natV w s L) (hL : NumL (k + m) L) : Gv Tryz.prog 40 #[.pointer (at0 a.cp), .slice s.base s.len s.cap] (.bool true) w := by
  refine mC_rising.run _ (at0 a.cp) s w ?_
  unfold mC_rising.M mC_rising.l1
  have hB := hC.cel hS
  have hsl := hr.1
  have hLl := hL.len
  have hkm := hC.hkm
  refine adZ (fun st w' => ∃ i : Nat, st = (at0 a.cp, s, s, ((s.len : Nat) : Int), (i : Int), ()) ∧ i ≤ L.length ∧ Ex w w') (fun st _ => (((s.len : Nat) : Int) - st.2.2.2.2.1).toNat) ?_ ⟨0, rfl, Nat.zero_le _, Ex.refl _⟩
  rintro kk _ w1 ⟨i, rfl, hi, hx⟩ hk
  unfold mC_rising.b1
  dsimp only at hk ⊢
  refine abZ (fun hlt => ?_) (fun hge => ?_)
  · obtain ⟨x, hxi⟩ := atx (l := L) (i := i) (by omega)
    have hxl := hL.lt x (List.mem_of_getElem? hxi)
    refine rd_nat (hr.ex hx) hxi ?_
    refine abZ (fun h => by omega) (fun _ => ?_)
    have hd := Ex.drew w1
    have hx2 := hx.trans hd
    refine agZ (RdS_same (aiZ (c := .int .i64) (x := (k : Int)) (B := a.cp) (i := 1) (hB.ex hx2) (by kernel_rfl) rfl ?_))
    refine agZ (RdS_same (aiZ (c := .int .i64) (x := (m : Int)) (B := a.cp) (i := 2) (hB.ex hx2) (by kernel_rfl) rfl ?_))
    rw [acZ (by omega) (by omega)]
    refine abZ (fun h => by omega) (fun _ => ?_)
    have next : ∀ t : Bool, t = false → mC_rising.j1 (fun e w' => e = .returned (.bool true) ∧ Ex w w') kk (at0 a.cp) s s ((s.len : Nat) : Int) (i : Int) t w1.drew := by
      rintro _ rfl
      unfold mC_rising.j1
      refine Cd_f ?_
      rw [acZ (by omega) (by omega), show (i : Int) + 1 = ((i + 1 : Nat) : Int) by omega]
      exact hk _ _ ⟨i + 1, rfl, by omega, hx2⟩ (by dsimp only; omega)
    refine abZ (fun h0 => ?_) (fun h0 => next false rfl)
    obtain ⟨y, hy⟩ := atx (l := L) (i := i - 1) (by omega)
    have hyx := hL.mono (i := i - 1) (j := i) (by omega) hy hxi
    rw [acZ (by omega) (by omega), show (i : Int) - 1 = ((i - 1 : Nat) : Int) by omega]
    refine Pu_idxB (hr.ex hx2) tI sI (by omega) (by omega) fun a2 y2 ha2 hy2 => ?_
    rw [Int.toNat_natCast, hy] at hy2
    cases hy2
    refine RdS_same (Rd_one (c := .int .i64) (x := (y : Int)) (by kernel_rfl) (show _ = some (natV y) from rds_at (f := natV) (hr.ex hx2) ha2 hy) ?_)
    exact next _ (decide_eq_false (by omega))
  · exact ⟨rfl, hx⟩
end Go.Proofs.YtbiilejgfihohaaGreat
namespace Go.Proofs.YtbiilejgfihohaaGreat
open Go Go.Cu Go.RowKit
theorem lostL_length {n : Nat} {L : List Nat} (h : NumL n L) : (lostL n L).length + L.length = n := by
  have h1 := filter_parts (fun x => decide (x ∈ L)) (List.range n)
  rw [List.length_range, below_len L h.nodup n] at h1
  have h2 : (L.filter (fun c => decide (c < n))).length = L.length := by
    rw [List.filter_eq_self.2 (fun x hx => decide_eq_true (h.lt x hx))]
  unfold lostL
  have h3 : (List.range n).filter (fun x => decide (x ∉ L)) = (List.range n).filter (fun x => !decide (x ∈ L)) := by
    refine List.filter_congr fun x _ => ?_
    by_cases h : x ∈ L <;> simp [h]
  rw [h3]
  omega
theorem lostL_nodup (n : Nat) (L : List Nat) : (lostL n L).Nodup := List.nodup_range.sublist List.filter_sublist
theorem lostL_num {n : Nat} (L : List Nat) : NumL n (lostL n L) := by
  have hp : (lostL n L).Pairwise (· < ·) := List.Pairwise.sublist (List.filter_sublist (l := List.range n)) List.pairwise_lt_range
  refine ⟨fun x hx => (mem_lostL.1 hx).1, fun i x y h1 h2 => ?_⟩
  rw [List.pairwise_iff_getElem] at hp
  obtain ⟨a1, e1⟩ := List.getElem?_eq_some_iff.1 h1
  obtain ⟨a2, e2⟩ := List.getElem?_eq_some_iff.1 h2
  have := hp i (i + 1) a1 a2 (by omega)
  rw [e1, e2] at this
  exact this
structure IntIn (w : World) (g : Nat) (cs : List Value) (s : Sl) (l : List Nat) : Prop where
  base : s.base = at0 g
  has : Has w g cs 3
  len : s.len = l.length
  cap : s.len ≤ s.cap
  room : s.cap ≤ cs.length
  most : s.cap ≤ maxLen
  cells : cs.take l.length = l.map natV
def IntT (s : Sl) (l : List Nat) : Th := ⟨fun w F => ∃ g cs, IntIn w g cs s l ∧ F g, fun ⟨g, cs, h, hF⟩ m hx => ⟨g, cs, { h with has := h.has.mo m (hx _ hF) }, hF⟩⟩
theorem IntIn.rds {w : World} {g : Nat} {cs : List Value} {s : Sl} {l : List Nat} (h : IntIn w g cs s l) : Rds natV w s l := by
  refine ⟨h.len, h.cap, fun i x hi => ⟨_, h.base, ?_⟩⟩
  have : (⟨g, 0, none⟩ : Addr).add i = ⟨g, i, none⟩ := by
    unfold Addr.add; split
    · rename_i e; rw [e]
    · simp
  rw [this]
  refine (h.has.cell i).trans ?_
  have hil := (List.getElem?_eq_some_iff.1 hi).1
  have : (cs.take l.length)[i]? = some (natV x) := by rw [h.cells, List.getElem?_map, hi]; rfl
  rw [List.getElem?_take, if_pos hil] at this
  exact this
theorem int_get {W0 w : World} {T : Ths} {q : Ky} {s : Sl} {l : List Nat} (hS : Sep W0 w T) (hq : T q = IntT s l) : Rds natV w s l := by
  obtain ⟨F, ⟨g, cs, h, _⟩, _⟩ := hS.get q hq
  exact h.rds
theorem int_props {w : World} {F : Nat → Prop} {s : Sl} {l : List Nat} (h : (IntT s l).h w F) : Rds natV w s l ∧ ∀ b, SlIn s b → F b := by
  obtain ⟨g, cs, h1, h2⟩ := h
  exact ⟨h1.rds, fun b hb => by rw [slin_one h1.base hb]; exact h2⟩
theorem int_own {W0 w w' : World} {T : Ths} {s : Sl} {l : List Nat} (q : Ky) (hS : Sep W0 w T) (hx : Ex w w') (ho : Own natV 3 w.heap.size w' s l) (hl : 0 < l.length) : Sep W0 w' (T.up q (IntT s l)) := by
  obtain ⟨g, cs, hsb, hb, hB, hll, hlc, hcm, hcs, htk⟩ := ho.inv hl
  exact hS.new q (G := fun b => b = g) hx ⟨g, cs, ⟨hsb, hB, hll, hlc, by omega, hcm, htk⟩, rfl⟩ (fun b hb' => by subst hb'; exact ⟨hb, hB.lt⟩)
theorem int_cut {W0 w : World} {T : Ths} {q : Ky} {s : Sl} {l : List Nat} {n : Nat} (hS : Sep W0 w T) (hq : T q = IntT s l) (hn : n ≤ l.length) : Sep W0 w (T.up q (IntT ⟨s.base, n, n⟩ (l.take n))) := by
  obtain ⟨F, ⟨g, cs, h, hF⟩, _, hc⟩ := hS.get q hq
  have hl := h.len
  have hcp := h.cap
  have hrm := h.room
  have hms := h.most
  refine hc w _ F (Mo.refl _ _) ⟨g, cs, ⟨h.base, h.has, by rw [List.length_take]; simp only; omega, Nat.le_refl _, by simp only; omega, by simp only; omega, ?_⟩, hF⟩ (fun b hb => .inl hb)
  rw [List.length_take, Nat.min_eq_left hn, List.map_take, ← h.cells, List.take_take, Nat.min_eq_left hn]
theorem Pu_cut3 {t e : TypeId} {s : Sl} {h : Nat} {ik1 ik2 : IntKind} {k : Sl → World → Prop} {w : World} (ht : Tryz.prog.underlying t = some (.slice e)) (hs : sizeIs Tryz.prog e 1 = true) (h2 : h ≤ s.cap) (hk : k ⟨s.base, h, h⟩ w) :
    Pu Tryz.prog (Instr.sliceAt t (.slice s.base s.len s.cap) none (some (.int ik1 (h : Int))) (some (.int ik2 (h : Int)))) (.one (.at .sl)) k w := by
  refine ⟨⟨s.base, h, h⟩, fun w' => ?_, hk⟩
  have hsz := Go.Cu.run_sizeOf hs w'
  have e : s.base.map (·.add 0) = s.base := by
    cases hb : s.base with
    | none => rfl
    | some a => simp only [Option.map_some]; rw [addr_zero' a]
  simp [Instr.sliceAt, Instr.slice, Instr.sliceBounds, Instr.sliceBound, run_underlying ht, asIntOf, hsz, h2, Sh.enc, Cx.enc, At.enc]
  exact fun _ => e
def PlK (j : Nat) (q : Ky) : Prop := GnK q ∨ q = .bx (4 * j + 3) ∨ q = .rs 0 ∨ q = .rs 1 ∨ q = .ps 0 ∨ q = .ps 1 ∨ q = .mx 1 0
abbrev P4 : List At := [.sl, .sl, .sl, .sl]
abbrev nil4 : List Value := [slV ⟨none, 0, 0⟩, slV ⟨none, 0, 0⟩, slV ⟨none, 0, 0⟩, slV ⟨none, 0, 0⟩]
theorem alloc4 {w : World} {K : Addr → World → Prop} (hk : ∀ w', Has w' w.heap.size nil4 49 → Ex w w' → K ⟨w.heap.size, 0, none⟩ w') : Wr Tryz.prog (Instr.alloc 49 true (.tuple #[])) (.one (.at .addr)) K w :=
  Wr_alloc (z := .agg #[.slice none 0 0, .slice none 0 0, .slice none 0 0, .slice none 0 0]) (by kernel_rfl) (fun w' h hx => hk w' h hx)
theorem sto4 {w5 : World} {g : Nat} {x : Ats P4} {cs : List Value} {K : World → Prop} (hB : Has w5 g cs 49) (hc : cs.length = 4) (hk : ∀ w6, Has w6 g (afZ P4 x) 49 → Mo (fun b => b = g) w5 w6 → K w6) : Wu Tryz.prog (Instr.storeAt 49 (.pointer (some ⟨g, 0, none⟩)) (.agg (afZ P4 x).toArray)) K w5 := by
  refine Wu_store (v := .agg (afZ P4 x).toArray) hB (by kernel_rfl) (by simp [Value.cells, afZ, Value.oneCell', At.enc]) (by rw [hc]; exact Nat.le_refl 4) fun w6 hB6 hm6 => hk w6 ?_ hm6
  have e3 : cs.drop (0 + (Value.agg (afZ P4 x).toArray).cells.size) = [] := List.drop_of_length_le (by rw [hc]; exact Nat.le_refl 4)
  rw [e3, List.append_nil] at hB6
  exact hB6
theorem plan_dec {f : Int} {k m : Nat} {Q : Mtx} {L : List Nat} (hQs : Shp Q m k) (hM : Mds k m (ent (gM k Q))) (hL : NumL (k + m) L) (hlm : L.length ≤ m) : ∃ D, decM k (gM k Q) ((lostL (k + m) L).take k) L = some D ∧ Shp D L.length k := by
  have hll := lostL_length hL
  have hlt : ((lostL (k + m) L).take k).length = k := by rw [List.length_take]; omega
  have hg : Shp (gM k Q) (k + m) k := shp_append (shp_gen k k _) hQs
  obtain ⟨D, h1, h2, _⟩ := dec_ok (want := L) hg hM hlt ((lostL_nodup _ _).sublist (List.take_sublist _ _)) (fun r hr => (mem_lostL.1 (List.mem_of_mem_take hr)).1) hL.lt
  exact ⟨D, h1, h2⟩
theorem plan_ok {W0 w : World} {T : Ths} {j : Nat} {a : CodA} {f : Int} {k m b : Nat} {Q : Mtx} {es : List Tr.Ent} {clock : Int} {km : Ky} {sl : Sl} {L : List Nat} (hS : Sep W0 w T) (hC : Cod T j a f k m b Q es clock) (hkm : ¬ PlK j km)
    (hmg : ∀ w F, (T km).h w F → Rds natV w sl L ∧ ∀ b, SlIn sl b → F b) (hL : NumL (k + m) L) (hl1 : 1 ≤ L.length) (hlm : L.length ≤ m) (hcl : clock < 4611686018427387904) :
    Cl Tryz.prog 22 #[.pointer (at0 a.cp), .slice sl.base sl.len sl.cap] (.tup [.agg P4, .at (.int .i64)]) (fun x w' => ∃ sm su sr hsr D T' es' clock', x = ((sm, su, sr, ⟨none, 0, 0⟩, ()), 0, ()) ∧ Sep W0 w' T' ∧ decM k (gM k Q) ((lostL (k + m) L).take k) L = some D ∧
      T' (.rs 0) = IntT sm L ∧ T' (.rs 1) = IntT su ((lostL (k + m) L).take k) ∧ T' (.mx 1 0) = ShT sr hsr D ∧ Cod T' j a f k m b Q es' clock' ∧ clock' ≤ clock + 1 ∧ (es = [] → es'.length = 1) ∧ ∀ q, ¬ PlK j q → T' q = T q) w := by
  refine mC_Plan.run _ (at0 a.cp) sl w ?_
  generalize hRR : (fun (e : Ending) (w' : World) => ∃ x : Ats P4 × Int × Unit, e = .returned ((Sh.tup [.agg P4, .at (.int .i64)]).enc x) ∧ ∃ sm su sr hsr D T' es' clock', x = ((sm, su, sr, ⟨none, 0, 0⟩, ()), 0, ()) ∧ Sep W0 w' T' ∧ decM k (gM k Q) ((lostL (k + m) L).take k) L = some D ∧
      T' (.rs 0) = IntT sm L ∧ T' (.rs 1) = IntT su ((lostL (k + m) L).take k) ∧ T' (.mx 1 0) = ShT sr hsr D ∧ Cod T' j a f k m b Q es' clock' ∧ clock' ≤ clock + 1 ∧ (es = [] → es'.length = 1) ∧ ∀ q, ¬ PlK j q → T' q = T q) = R
  unfold mC_Plan.M
  obtain ⟨hQs, hMds⟩ := hC.shp
  obtain ⟨D, hD, hDs⟩ := plan_dec (f := f) hQs hMds hL hlm
  have hkm' := hC.hkm
  have hk1 := hC.hk1
  have hm1 := hC.hm1
  have hll := lostL_length hL
  have bxne : ∀ i, i ≠ 3 → i < 4 → ¬ PlK j (.bx (4 * j + i)) := by
    intro i h1 h2 h
    unfold PlK GnK at h
    rcases h with (⟨x, hx⟩ | ⟨x, hx⟩) | h | h | h | h | h | h
    · cases hx
    · cases hx
    · rw [Ky.bx.injEq] at h; omega
    · cases h
    · cases h
    · cases h
    · cases h
    · cases h
  have codN : ∀ {T' : Ths}, (∀ q, ¬ PlK j q → T' q = T q) → ∀ {es' : List Tr.Ent} {clock' : Int}, T' (.bx (4 * j + 3)) = TriT a.tb es' clock' → (∀ e ∈ es', CachOk k m Q e) → Cod T' j a f k m b Q es' clock' := by
    intro T' h es' clock' h3 hes
    exact { c0 := (h _ (bxne 0 (by omega) (by omega))).trans hC.c0, c1 := (h _ (bxne 1 (by omega) (by omega))).trans hC.c1, c2 := (h _ (bxne 2 (by omega) (by omega))).trans hC.c2, c3 := h3, hf := hC.hf, hk1 := hk1, hm1 := hm1, hkm := hkm', hQ := hC.hQ, hes := hes }
  refine alloc4 fun w1 hB1 hx1 => ?_
  have hS1 := hS.box (.ps 0) hx1 hB1
  generalize w.heap.size = t4 at hS1 ⊢
  obtain ⟨T1, hT1e⟩ : ∃ T1, T1 = T.up (.ps 0) (Cel t4 nil4 49) := ⟨_, rfl⟩
  rw [← hT1e] at hS1
  have hT1 : ∀ q, q ≠ .ps 0 → T1 q = T q := fun q h => by rw [hT1e]; exact Ths.up_ne _ _ h
  have ht4 : T1 (.ps 0) = Cel t4 nil4 49 := by rw [hT1e]; exact Ths.up_same _ _ _
  have hkmps : km ≠ .ps 0 := fun e => hkm (by unfold PlK; simp [e])
  have hC1 : Cod T1 j a f k m b Q es clock := hC.next (fun i => hT1 _ (by simp))
  have hmg1 : ∀ {T' : Ths}, T' km = T km → ∀ w F, (T' km).h w F → Rds natV w sl L ∧ ∀ b, SlIn sl b → F b := fun h w F h' => hmg w F (h ▸ h')
  have hrd : ∀ {w' : World} {T' : Ths}, Sep W0 w' T' → T' km = T km → Rds natV w' sl L := by
    intro w' T' h1 h2
    obtain ⟨F, ht, _⟩ := h1.get km h2
    exact (hmg w' F ht).1
  refine Pu_codnil (Cd_f ?_)
  refine Cl_gv (d := .one (.at .bool)) (x := true) (rising_gv hS1 hC1 (hrd hS1 (hT1 _ hkmps)) hL) fun w2 hx2 => Cd_f ?_
  have hS2 := hS1.exx hx2
  refine agZ (aiZ (c := .int .i64) (x := (m : Int)) (B := a.cp) (i := 2) (hC1.cel hS2) (by kernel_rfl) rfl ?_)
  have hsll := (hrd hS2 (hT1 _ hkmps)).1
  refine abZ (fun h => by omega) (fun _ => ?_)
  have hd2 := Ex.drew w2
  have hS3 := hS2.exx hd2
  refine apZ (fun w' => Has w' a.cp (codV a f k m) 78) (hC1.cel hS3) ?_
  refine agZ (akZ (c := .int .i64) (x := (k : Int)) (B := a.cp) (i := 1) (fun w' h => h) (by kernel_rfl) rfl ?_)
  refine agZ (akZ (c := .int .i64) (x := (m : Int)) (B := a.cp) (i := 2) (fun w' h => h) (by kernel_rfl) rfl ?_)
  rw [acZ (by omega) (by omega), show (k : Int) + (m : Int) = ((k + m : Nat) : Int) by omega]
  refine aeZ (lost_ok (hrd hS3 (hT1 _ hkmps)) hL (by omega)) ?_
  rintro _ w4 ⟨sp, rfl, hsp, hx4⟩
  have hS4 := int_own (.rs 1) hS3 hx4 hsp (by omega)
  obtain ⟨T4, hT4e⟩ : ∃ T4, T4 = T1.up (.rs 1) (IntT sp (lostL (k + m) L)) := ⟨_, rfl⟩
  rw [← hT4e] at hS4
  have hT4 : ∀ q, q ≠ .ps 0 → q ≠ .rs 1 → T4 q = T q := fun q h h' => by rw [hT4e, Ths.up_ne _ _ h']; exact hT1 q h
  have hp4 : T4 (.rs 1) = IntT sp (lostL (k + m) L) := by rw [hT4e]; exact Ths.up_same _ _ _
  have ht4' : T4 (.ps 0) = Cel t4 nil4 49 := by rw [hT4e, Ths.up_ne _ _ (by simp)]; exact ht4
  have hC4 : Cod T4 j a f k m b Q es clock := hC.next (fun i => hT4 _ (by simp) (by simp))
  refine ⟨hC4.cel hS4, ?_⟩
  unfold mC_Plan.j1
  refine Cd_f ?_
  have hd4 := Ex.drew w4
  have hS5 := hS4.exx hd4
  refine apZ (fun w' => Has w' a.cp (codV a f k m) 78) (hC4.cel hS5) ?_
  refine agZ (akZ (c := .int .i64) (x := (k : Int)) (B := a.cp) (i := 1) (fun w' h => h) (by kernel_rfl) rfl ?_)
  refine agZ (akZ (c := .int .i64) (x := (k : Int)) (B := a.cp) (i := 1) (fun w' h => h) (by kernel_rfl) rfl ?_)
  have hpl := (int_get hS5 hp4).1
  have hpc := (int_get hS5 hp4).2.1
  refine Pu_cut3 (s := sp) (h := k) tI sI (by omega) ?_
  have hkmr1 : km ≠ .rs 1 := fun e => hkm (by unfold PlK; simp [e])
  have hkmr0 : km ≠ .rs 0 := fun e => hkm (by unfold PlK; simp [e])
  have hkmp1 : km ≠ .ps 1 := fun e => hkm (by unfold PlK; simp [e])
  have hkmm : km ≠ .mx 1 0 := fun e => hkm (by unfold PlK; simp [e])
  have hkmb : km ≠ .bx (4 * j + 3) := fun e => hkm (by unfold PlK; simp [e])
  have hkmG : ¬ GnK km := fun e => hkm (.inl e)
  have cpy : ∀ {w6 : World} {K : Sl → World → Prop}, Rds natV w6 sl L → (∀ d w', Own natV 3 w6.heap.size w' d L → Ex w6 w' → K d w') → Wr Tryz.prog (Builtin.append_ #[25, 25] 25 #[.slice none 0 0, .slice sl.base sl.len sl.cap]) (.one (.at .sl)) K w6 := by
    intro w6 K hr hk
    refine Wr_append (f := natV) (s := ⟨none, 0, 0⟩) (l := []) (base := w6.heap.size) tI iI rfl (Own.nil _ _ _ _) hr (fun _ => rfl) (by simp; omega) (by simp; omega) (Nat.le_refl _) fun d w' ho hm hin => ?_
    rw [List.nil_append] at ho
    refine hk d w' ho (hm.new (fun i hi => ?_))
    obtain ⟨a, ha, _⟩ := hi
    cases ha
  have main : ∀ {w6 : World} {T6 : Ths} {pb : Nat} {sm : Sl}, Sep W0 w6 T6 → T6 (.ps 0) = Cel t4 nil4 49 → T6 (.ps 1) = Cel pb nil4 49 → T6 (.rs 0) = IntT sm L → T6 (.rs 1) = IntT sp (lostL (k + m) L) → (∀ q, q ≠ .ps 0 → q ≠ .ps 1 → q ≠ .rs 0 → q ≠ .rs 1 → T6 q = T q) →
      Wu Tryz.prog (Instr.storeAt 49 (.pointer (some ⟨pb, 0, none⟩)) (.agg #[(.slice sm.base sm.len sm.cap), (.slice sp.base k k), (.slice none 0 0), (.slice none 0 0)])) (fun w79 => Has w79 a.cp (codV a f k m) 78 ∧ (mC_Plan.j2 R (at0 a.cp) sl ⟨t4, 0, none⟩ sp ⟨pb, 0, none⟩ w79)) w6 := by
    intro w6 T6 pb sm hS6 h60 h61 h6m h6p hT6
    refine sto4 (x := (sm, ⟨sp.base, k, k⟩, ⟨none, 0, 0⟩, ⟨none, 0, 0⟩, ())) (hS6.has h61) rfl fun w7 hB7 hm7 => ?_
    have hS7 := hS6.cel h61 hB7 hm7
    obtain ⟨T7, hT7e⟩ : ∃ T7, T7 = T6.up (.ps 1) (Cel pb (afZ P4 (sm, ⟨sp.base, k, k⟩, ⟨none, 0, 0⟩, ⟨none, 0, 0⟩, ())) 49) := ⟨_, rfl⟩
    rw [← hT7e] at hS7
    have hT7 : ∀ q, q ≠ .ps 0 → q ≠ .ps 1 → q ≠ .rs 0 → q ≠ .rs 1 → T7 q = T q := fun q a1 a2 a3 a4 => by rw [hT7e, Ths.up_ne _ _ a2]; exact hT6 q a1 a2 a3 a4
    have h71 : T7 (.ps 1) = Cel pb (afZ P4 (sm, ⟨sp.base, k, k⟩, ⟨none, 0, 0⟩, ⟨none, 0, 0⟩, ())) 49 := by rw [hT7e]; exact Ths.up_same _ _ _
    have h70 : T7 (.ps 0) = Cel t4 nil4 49 := by rw [hT7e, Ths.up_ne _ _ (by simp)]; exact h60
    have h7m : T7 (.rs 0) = IntT sm L := by rw [hT7e, Ths.up_ne _ _ (by simp)]; exact h6m
    have h7p : T7 (.rs 1) = IntT sp (lostL (k + m) L) := by rw [hT7e, Ths.up_ne _ _ (by simp)]; exact h6p
    have hC7 : Cod T7 j a f k m b Q es clock := hC.next (fun i => hT7 _ (by simp) (by simp) (by simp) (by simp))
    refine ⟨hC7.cel hS7, ?_⟩
    unfold mC_Plan.j2
    refine Cd_eq (fun h => by omega) (fun _ => agZ ?_)
    refine aiZ (c := .ptr) (x := at0 a.tb) (B := a.cp) (i := 5) (hC7.cel hS7) (by kernel_rfl) rfl ?_
    have hkm7 : T7 km = T km := hT7 km hkmps hkmp1 hkmr0 hkmr1
    have fin : ∀ {w8 : World} {T8 : Ths} {sr : Sl} {hsr : List Sl} {es' : List Tr.Ent} {clock' : Int}, Sep W0 w8 T8 → T8 (.ps 0) = Cel t4 nil4 49 → T8 (.ps 1) = Cel pb (afZ P4 (sm, ⟨sp.base, k, k⟩, ⟨none, 0, 0⟩, ⟨none, 0, 0⟩, ())) 49 → T8 (.rs 0) = IntT sm L → T8 (.rs 1) = IntT sp (lostL (k + m) L) → T8 (.mx 1 0) = ShT sr hsr D →
        (∀ q, ¬ PlK j q → T8 q = T q) → T8 (.bx (4 * j + 3)) = TriT a.tb es' clock' → (∀ e ∈ es', CachOk k m Q e) → clock' ≤ clock + 1 → (es = [] → es'.length = 1) →
        Wu Tryz.prog (Instr.storeAt 30 (.pointer (some ((⟨pb, 0, none⟩ : Addr).add 2))) (.slice sr.base sr.len sr.cap)) (fun w29 =>
          Rd Tryz.prog (Instr.loadAt 49 (.pointer (some ⟨pb, 0, none⟩))) (.one (.agg P4)) (fun x30 w31 =>
          Wu Tryz.prog (Instr.storeAt 49 (.pointer (some ⟨t4, 0, none⟩)) (.agg #[(.slice x30.1.base x30.1.len x30.1.cap), (.slice x30.2.1.base x30.2.1.len x30.2.1.cap), (.slice x30.2.2.1.base x30.2.2.1.len x30.2.2.1.cap), (.slice x30.2.2.2.1.base x30.2.2.2.1.len x30.2.2.2.1.cap)])) (fun w32 =>
          ∃ r33 : (Sl × Sl × Sl × Sl × Unit), (loadVar 49 ⟨t4, 0, none⟩).run Tryz.prog w32 = .ok (.agg #[(.slice r33.1.base r33.1.len r33.1.cap), (.slice r33.2.1.base r33.2.1.len r33.2.1.cap), (.slice r33.2.2.1.base r33.2.2.1.len r33.2.2.1.cap), (.slice r33.2.2.2.1.base r33.2.2.2.1.len r33.2.2.2.1.cap)]) w32 ∧ R (.returned (.tuple #[(.agg #[(.slice r33.1.base r33.1.len r33.1.cap), (.slice r33.2.1.base r33.2.1.len r33.2.1.cap), (.slice r33.2.2.1.base r33.2.2.1.len r33.2.2.1.cap), (.slice r33.2.2.2.1.base r33.2.2.2.1.len r33.2.2.2.1.cap)]), (.int .i64 0)])) w32) w31) w29) w8 := by
      intro w8 T8 sr hsr es' clock' hS8 h80 h81 h8m h8p h8r hT8 h8b hes' hcl' hone
      rw [show (⟨pb, 0, none⟩ : Addr).add 2 = ⟨pb, 2, none⟩ from rfl]
      refine Wu_store (v := slV sr) (hS8.has h81) (by kernel_rfl) (by simp [Value.cells, Value.oneCell']) (by show 2 + 1 ≤ 4; omega) fun w9 hB9 hm9 => ?_
      have hB9' : Has w9 pb (afZ P4 (sm, ⟨sp.base, k, k⟩, sr, ⟨none, 0, 0⟩, ())) 49 := hB9
      have hS9 := hS8.cel h81 hB9' hm9
      refine Rd_hasN (x := (sm, ⟨sp.base, k, k⟩, sr, ⟨none, 0, 0⟩, ())) hB9' (by kernel_rfl) rfl ?_
      have h90 : (T8.up (.ps 1) (Cel pb (afZ P4 (sm, ⟨sp.base, k, k⟩, sr, ⟨none, 0, 0⟩, ())) 49)) (.ps 0) = Cel t4 nil4 49 := by rw [Ths.up_ne _ _ (by simp)]; exact h80
      refine sto4 (x := (sm, ⟨sp.base, k, k⟩, sr, ⟨none, 0, 0⟩, ())) (hS9.has h90) rfl fun w10 hB10 hm10 => ?_
      have hS10 := hS9.cel h90 hB10 hm10
      refine ⟨(sm, ⟨sp.base, k, k⟩, sr, ⟨none, 0, 0⟩, ()), run_load_agg (cs := afZ P4 (sm, ⟨sp.base, k, k⟩, sr, ⟨none, 0, 0⟩, ())) (by kernel_rfl) (has_part (l := P4) (x := (sm, ⟨sp.base, k, k⟩, sr, ⟨none, 0, 0⟩, ())) (i := 0) hB10 rfl), ?_⟩
      obtain ⟨T10, hT10e⟩ : ∃ T10, T10 = (T8.up (.ps 1) (Cel pb (afZ P4 (sm, ⟨sp.base, k, k⟩, sr, ⟨none, 0, 0⟩, ())) 49)).up (.ps 0) (Cel t4 (afZ P4 (sm, ⟨sp.base, k, k⟩, sr, ⟨none, 0, 0⟩, ())) 49) := ⟨_, rfl⟩
      rw [← hT10e] at hS10
      have hT10 : ∀ q, q ≠ .ps 0 → q ≠ .ps 1 → T10 q = T8 q := fun q a1 a2 => by rw [hT10e, Ths.up_ne _ _ a1, Ths.up_ne _ _ a2]
      have hS11 := int_cut (n := k) hS10 ((hT10 (.rs 1) (by simp) (by simp)).trans h8p) (by omega)
      have hps : ∀ q, ¬ PlK j q → q ≠ .ps 0 ∧ q ≠ .ps 1 ∧ q ≠ .rs 1 := fun q hq => ⟨fun e => hq (by unfold PlK; simp [e]), fun e => hq (by unfold PlK; simp [e]), fun e => hq (by unfold PlK; simp [e])⟩
      have hT11 : ∀ q, ¬ PlK j q → (T10.up (.rs 1) (IntT ⟨sp.base, k, k⟩ ((lostL (k + m) L).take k))) q = T q := fun q hq => by rw [Ths.up_ne _ _ (hps q hq).2.2, hT10 q (hps q hq).1 (hps q hq).2.1]; exact hT8 q hq
      subst hRR
      refine ⟨((sm, ⟨sp.base, k, k⟩, sr, ⟨none, 0, 0⟩, ()), 0, ()), rfl, sm, ⟨sp.base, k, k⟩, sr, hsr, D, T10.up (.rs 1) (IntT ⟨sp.base, k, k⟩ ((lostL (k + m) L).take k)), es', clock', rfl, hS11, hD, ?_, Ths.up_same _ _ _, ?_, codN hT11 ?_ hes', hcl', hone, hT11⟩
      · rw [Ths.up_ne _ _ (by simp), hT10 _ (by simp) (by simp)]; exact h8m
      · rw [Ths.up_ne _ _ (by simp), hT10 _ (by simp) (by simp)]; exact h8r
      · rw [Ths.up_ne _ _ (by simp), hT10 _ (by simp) (by simp)]; exact h8b
    have plk : ∀ q, ¬ PlK j q → q ≠ .ps 0 ∧ q ≠ .ps 1 ∧ q ≠ .rs 0 ∧ q ≠ .rs 1 ∧ q ≠ .mx 1 0 ∧ q ≠ .bx (4 * j + 3) ∧ ¬ GnK q := fun q hq => ⟨fun e => hq (by unfold PlK; simp [e]), fun e => hq (by unfold PlK; simp [e]), fun e => hq (by unfold PlK; simp [e]), fun e => hq (by unfold PlK; simp [e]), fun e => hq (by unfold PlK; simp [e]), fun e => hq (by unfold PlK; simp [e]), fun e => hq (.inl e)⟩
    refine aeZ (cget_ok (kr := .mx 1 0) (k := k) (m := m) (Q := Q) hS7 hC7.c3 (by simp) hC7.hes (hrd hS7 hkm7) (by omega) hcl) ?_
    rintro _ w8 (⟨rfl, hx8, hno⟩ | ⟨sr, hsr, D', es', rfl, hD', hS8, hes', hne⟩)
    · refine Cd_f ?_
      have hd8 := Ex.drew w8
      have hS8 := (hS7.exx hx8).exx hd8
      refine apZ (fun w' => Has w' a.cp (codV a f k m) 78) (hC7.cel hS8) ?_
      refine agZ (akZ (c := .int .i64) (x := f) (fun w' h => h) (by kernel_rfl) rfl ?_)
      refine agZ (akZ (c := .int .i64) (x := (k : Int)) (B := a.cp) (i := 1) (fun w' h => h) (by kernel_rfl) rfl ?_)
      refine agZ (akZ (c := .int .i64) (x := (m : Int)) (B := a.cp) (i := 2) (fun w' h => h) (by kernel_rfl) rfl ?_)
      have hnG : ¬ GnK (.mx 1 0) := by unfold GnK; rintro (⟨x, hx⟩ | ⟨x, hx⟩) <;> simp at hx
      have hKp : Keep W0 T7 (fun q => GnK q ∨ q = .mx 1 0) (fun w => Rds natV w sp (lostL (k + m) L)) := fun w' T' hS' hT' => int_get hS' ((hT' (.rs 1) (by unfold GnK; simp)).trans h7p)
      have hKm : Keep W0 T7 (fun q => GnK q ∨ q = .mx 1 0) (fun w => Rds natV w sl L) := fun w' T' hS' hT' => hrd hS' ((hT' km (by rintro (h | h); exact hkmG h; exact hkmm h)).trans hkm7)
      refine aeZ (decoder_ok (.mx 1 0) hnG hS8 hC.hf hk1 hm1 hkm' hC.hQ hKp hKm (lostL_num L) hL (by omega) hl1 hD) ?_
      rintro _ w9 ⟨sr, hsr, T9, rfl, hS9, hT9, hr9⟩
      have h9 : ∀ q, ¬ GnK q → q ≠ .mx 1 0 → T9 q = T7 q := fun q a1 a2 => hT9 q (by rintro (h | h); exact a1 h; exact a2 h)
      have gps : ∀ i, ¬ GnK (.ps i) := fun i => by unfold GnK; simp
      have grs : ∀ i, ¬ GnK (.rs i) := fun i => by unfold GnK; simp
      have gbx : ∀ i, ¬ GnK (.bx i) := fun i => by unfold GnK; simp
      have hC9 : Cod T9 j a f k m b Q es clock := hC7.next (fun i => h9 _ (gbx i) (by simp))
      refine ⟨hC9.cel hS9, Cd_f (agZ ?_)⟩
      refine aiZ (c := .ptr) (x := at0 a.tb) (B := a.cp) (i := 5) (hC9.cel hS9) (by kernel_rfl) rfl ?_
      have hS10 := sh_of_mat hS9 hr9
      have hkm9 : T9 km = T km := (h9 km hkmG hkmm).trans hkm7
      have hkm10 : (T9.up (.mx 1 0) (ShT sr hsr D)) km = T km := (Ths.up_ne _ _ hkmm).trans hkm9
      have hc10 : (T9.up (.mx 1 0) (ShT sr hsr D)) (.bx (4 * j + 3)) = TriT a.tb es clock := (Ths.up_ne _ _ (by simp)).trans hC9.c3
      refine aeZ (cput_ok (kr := .mx 1 0) (km := km) (k := k) (m := m) (Q := Q) (D := D) hS10 hc10 (by simp) (fun e => hkmb e.symm) (Ths.up_same _ _ _) (fun w F h => hmg1 hkm10 w F h) hC9.hes hL hkm' hD ⟨by rw [hDs.1]; omega, fun r hr => by rw [hDs.2 r hr]; omega⟩ hcl) ?_
      rintro _ w11 ⟨rfl, es', hS11, hes', hone⟩
      refine Cd_f ?_
      refine fin (sr := sr) (hsr := hsr) hS11 ?_ ?_ ?_ ?_ ?_ (fun q hq => ?_) (Ths.up_same _ _ _) hes' (Int.le_refl _) hone
      · rw [Ths.up_ne _ _ (by simp), Ths.up_ne _ _ (by simp), h9 _ (gps 0) (by simp)]; exact h70
      · rw [Ths.up_ne _ _ (by simp), Ths.up_ne _ _ (by simp), h9 _ (gps 1) (by simp)]; exact h71
      · rw [Ths.up_ne _ _ (by simp), Ths.up_ne _ _ (by simp), h9 _ (grs 0) (by simp)]; exact h7m
      · rw [Ths.up_ne _ _ (by simp), Ths.up_ne _ _ (by simp), h9 _ (grs 1) (by simp)]; exact h7p
      · rw [Ths.up_ne _ _ (by simp), Ths.up_same]
      · obtain ⟨a1, a2, a3, a4, a5, a6, a7⟩ := plk q hq
        rw [Ths.up_ne _ _ a6, Ths.up_ne _ _ a5, h9 q a7 a5]; exact hT7 q a1 a2 a3 a4
    · refine Cd_t ?_
      rw [hD] at hD'
      cases hD'
      refine fin (sr := sr) (hsr := hsr) hS8 ?_ ?_ ?_ ?_ (Ths.up_same _ _ _) (fun q hq => ?_) (by rw [Ths.up_ne _ _ (by simp)]; exact Ths.up_same _ _ _) hes' (Int.le_refl _) (fun e => absurd e hne)
      · rw [Ths.up_ne _ _ (by simp), Ths.up_ne _ _ (by simp)]; exact h70
      · rw [Ths.up_ne _ _ (by simp), Ths.up_ne _ _ (by simp)]; exact h71
      · rw [Ths.up_ne _ _ (by simp), Ths.up_ne _ _ (by simp)]; exact h7m
      · rw [Ths.up_ne _ _ (by simp), Ths.up_ne _ _ (by simp)]; exact h7p
      · obtain ⟨a1, a2, a3, a4, a5, a6, a7⟩ := plk q hq
        rw [Ths.up_ne _ _ a5, Ths.up_ne _ _ a6]; exact hT7 q a1 a2 a3 a4
  have hT4km : T4 km = T km := hT4 km hkmps hkmr1
  refine ⟨?_, ?_⟩
  · refine cpy (hrd hS5 hT4km) fun sm w6 ho hx6 => ⟨hC4.cel (hS5.exx hx6), ?_⟩
    have hS6 := int_own (.rs 0) hS5 hx6 ho (by omega)
    refine alloc4 fun w7 hB7 hx7 => ?_
    have hS7 := hS6.box (.ps 1) hx7 hB7
    have hC6 : Cod ((T4.up (.rs 0) (IntT sm L)).up (.ps 1) (Cel w6.heap.size nil4 49)) j a f k m b Q es clock := hC4.next (fun i => by rw [Ths.up_ne _ _ (by simp), Ths.up_ne _ _ (by simp)])
    refine ⟨hC6.cel hS7, ?_⟩
    refine main hS7 ?_ (Ths.up_same _ _ _) ?_ ?_ (fun q a1 a2 a3 a4 => ?_)
    · rw [Ths.up_ne _ _ (by simp), Ths.up_ne _ _ (by simp)]; exact ht4'
    · rw [Ths.up_ne _ _ (by simp), Ths.up_same]
    · rw [Ths.up_ne _ _ (by simp), Ths.up_ne _ _ (by simp)]; exact hp4
    · rw [Ths.up_ne _ _ a2, Ths.up_ne _ _ a3]; exact hT4 q a1 a4
  · refine alloc4 fun w6 hB6 hx6 => ?_
    have hS6 := hS5.box (.ps 1) hx6 hB6
    have hC6 : Cod (T4.up (.ps 1) (Cel w4.drew.heap.size nil4 49)) j a f k m b Q es clock := hC4.next (fun i => Ths.up_ne _ _ (by simp))
    refine ⟨hC6.cel hS6, ?_⟩
    refine cpy (hrd hS6 ((Ths.up_ne _ _ hkmp1).trans hT4km)) fun sm w7 ho hx7 => ⟨hC6.cel (hS6.exx hx7), ?_⟩
    have hS7 := int_own (.rs 0) hS6 hx7 ho (by omega)
    refine main hS7 ?_ ?_ (Ths.up_same _ _ _) ?_ (fun q a1 a2 a3 a4 => ?_)
    · rw [Ths.up_ne _ _ (by simp), Ths.up_ne _ _ (by simp)]; exact ht4'
    · rw [Ths.up_ne _ _ (by simp), Ths.up_same]
    · rw [Ths.up_ne _ _ (by simp), Ths.up_ne _ _ (by simp)]; exact hp4
    · rw [Ths.up_ne _ _ a3, Ths.up_ne _ _ a2]; exact hT4 q a1 a4
end Go.Proofs.YtbiilejgfihohaaGreat
namespace Go.Proofs.YtbiilejgfihohaaGreat
open Go Go.Cu Go.RowKit
def missL (M : Mtx) : List Nat := (List.range M.length).filter (fun i => decide ((M.getD i []).length = 0))
theorem missL_eq {w : World} {s : Sl} {hs : List Sl} {M : Mtx} (h : MatR w s hs M) : emptyL hs M.length = missL M := by
  unfold emptyL missL
  refine List.filter_congr fun i hi => ?_
  have hil := List.mem_range.1 hi
  obtain ⟨r, hr⟩ := atx hil
  obtain ⟨g, hg⟩ := atx (l := hs) (i := i) (by rw [h.len]; exact hil)
  have hl := (h.row i g r hg hr).1
  have e : M.getD i [] = r := by rw [List.getD_eq_getElem?_getD, hr]; rfl
  rw [e]
  by_cases h0 : r.length = 0
  · rw [decide_eq_true h0]
    exact decide_eq_true ⟨g, hg, by omega⟩
  · rw [decide_eq_false h0]
    exact decide_eq_false (fun ⟨g', hg', h'⟩ => by rw [hg] at hg'; cases hg'; omega)
theorem mem_missL {M : Mtx} {x : Nat} : x ∈ missL M ↔ x < M.length ∧ (M.getD x []).length = 0 := by
  unfold missL
  rw [List.mem_filter, List.mem_range, decide_eq_true_iff]
theorem missL_num (M : Mtx) : NumL M.length (missL M) := by
  have hp : (missL M).Pairwise (· < ·) := List.Pairwise.sublist (List.filter_sublist (l := List.range M.length)) List.pairwise_lt_range
  refine ⟨fun x hx => (mem_missL.1 hx).1, fun i x y h1 h2 => ?_⟩
  rw [List.pairwise_iff_getElem] at hp
  obtain ⟨a1, e1⟩ := List.getElem?_eq_some_iff.1 h1
  obtain ⟨a2, e2⟩ := List.getElem?_eq_some_iff.1 h2
  have := hp i (i + 1) a1 a2 (by omega)
  rw [e1, e2] at this
  exact this
def presL (k : Nat) (n : Nat) (L : List Nat) : List Nat := (lostL n L).take k
def usedM (M : Mtx) (P : List Nat) : Mtx := P.map (fun i => M.getD i [])
def giveM (da : Bool) (k n : Nat) (U : Mtx) (LD : List (Nat × List F8)) (M : Mtx) : Mtx := LD.foldl (fun M p => if da && decide (k ≤ p.1) then M else M.set p.1 (sumRow n p.2 U)) M
theorem giveM_len (da : Bool) (k n : Nat) (U : Mtx) : ∀ (LD : List (Nat × List F8)) (M : Mtx), (giveM da k n U LD M).length = M.length
  | [], M => rfl
  | p :: LD, M => by
    unfold giveM
    rw [List.foldl_cons]
    have := giveM_len da k n U LD (if da && decide (k ≤ p.1) then M else M.set p.1 (sumRow n p.2 U))
    unfold giveM at this
    rw [this]
    split
    · rfl
    · rw [List.length_set]
theorem giveM_snoc (da : Bool) (k n : Nat) (U : Mtx) (LD : List (Nat × List F8)) (p : Nat × List F8) (M : Mtx) : giveM da k n U (LD ++ [p]) M = if da && decide (k ≤ p.1) then giveM da k n U LD M else (giveM da k n U LD M).set p.1 (sumRow n p.2 U) := by
  unfold giveM
  rw [List.foldl_append]
  rfl
theorem giveM_at (da : Bool) (k n : Nat) (U : Mtx) (x : Nat) : ∀ (LD : List (Nat × List F8)) (M : Mtx), (∀ p ∈ LD, p.1 ≠ x) → (giveM da k n U LD M)[x]? = M[x]?
  | [], M, _ => rfl
  | p :: LD, M, h => by
    unfold giveM
    rw [List.foldl_cons]
    have := giveM_at da k n U x LD (if da && decide (k ≤ p.1) then M else M.set p.1 (sumRow n p.2 U)) (fun q hq => h q (by simp [hq]))
    unfold giveM at this
    rw [this]
    split
    · rfl
    · rw [List.getElem?_set_ne (h p (by simp))]
def GvK (j : Nat) (q : Ky) : Prop := PlK j q ∨ q = .rs 2 ∨ q = .rk 2 ∨ q = .ps 2
theorem give_ok {W0 w : World} {T : Ths} {j : Nat} {a : CodA} {f : Int} {k m b n : Nat} {Q M : Mtx} {es : List Tr.Ent} {clock : Int} {ks : Ky} {s : Sl} {hs : List Sl} (da : Bool) (hS : Sep W0 w T) (hC : Cod T j a f k m b Q es clock) (hk : T ks = ShT s hs M) (hkb : ∀ i, ks ≠ .bx i) (hkg : ¬ GvK j ks)
    (hM : M.length = k + m) (hMn : ∀ x ∈ M, x.length = 0 ∨ x.length = n) (hne : (missL M).length < k + m) (hn1 : 1 ≤ n) (hn2 : n ≤ 140737488355328) (hcl : clock < 4611686018427387904) :
    Cl Tryz.prog 39 #[.pointer (at0 a.cp), .slice s.base s.len s.cap, .bool da] (.one (.at (.int .i64))) (fun x w' => (missL M = [] ∧ x = 0 ∧ Sep W0 w' T) ∨ (m < (missL M).length ∧ x = 9 ∧ Sep W0 w' T) ∨
      ((missL M).length ≤ m ∧ x = 0 ∧ ∃ T' hs' D es' clock', Sep W0 w' T' ∧ decM k (gM k Q) (presL k (k + m) (missL M)) (missL M) = some D ∧ T' ks = ShT s hs' (giveM da k n (usedM M (presL k (k + m) (missL M))) ((missL M).zip D) M) ∧ Cod T' j a f k m b Q es' clock' ∧ clock' ≤ clock + 1 ∧ (es = [] → es'.length = 1) ∧ ∀ q, ¬ GvK j q → q ≠ ks → T' q = T q)) w := by
  refine mC_give.run _ (at0 a.cp) s da w ?_
  generalize hRR : (fun (e : Ending) (w' : World) => ∃ x : Int, e = .returned ((Sh.one (.at (.int .i64))).enc x) ∧ ((missL M = [] ∧ x = 0 ∧ Sep W0 w' T) ∨ (m < (missL M).length ∧ x = 9 ∧ Sep W0 w' T) ∨
      ((missL M).length ≤ m ∧ x = 0 ∧ ∃ T' hs' D es' clock', Sep W0 w' T' ∧ decM k (gM k Q) (presL k (k + m) (missL M)) (missL M) = some D ∧ T' ks = ShT s hs' (giveM da k n (usedM M (presL k (k + m) (missL M))) ((missL M).zip D) M) ∧ Cod T' j a f k m b Q es' clock' ∧ clock' ≤ clock + 1 ∧ (es = [] → es'.length = 1) ∧ ∀ q, ¬ GvK j q → q ≠ ks → T' q = T q))) = R
  unfold mC_give.M
  have hMR := sh_matR hS hk
  have hB := hC.cel hS
  have hkm := hC.hkm
  have hk1 := hC.hk1
  have hm1 := hC.hm1
  have hhl : hs.length = k + m := by rw [hMR.len, hM]
  have hel : emptyL hs (k + m) = missL M := by rw [← hM]; exact missL_eq hMR
  have hLn : NumL (k + m) (missL M) := by rw [← hM]; exact missL_num M
  refine Pu_codnil (Cd_f ?_)
  have hd := Ex.drew w
  refine apZ (fun w' => Has w' a.cp (codV a f k m) 78) (hB.ex hd) ?_
  refine agZ (akZ (c := .int .i64) (x := f) (fun w' h => h) (by kernel_rfl) rfl ?_)
  refine agZ (akZ (c := .int .i64) (x := (k : Int)) (B := a.cp) (i := 1) (fun w' h => h) (by kernel_rfl) rfl ?_)
  refine agZ (akZ (c := .int .i64) (x := (m : Int)) (B := a.cp) (i := 2) (fun w' h => h) (by kernel_rfl) rfl ?_)
  refine aeZ (partial_ok (hMR.hdr.ex hd) hhl (fun h hh => ?_) (by rw [hel]; exact hne) hn1 hn2 hC.hf hk1 hm1 hkm) ?_
  · obtain ⟨i, hi⟩ := List.mem_iff_getElem?.1 hh
    have hil := (List.getElem?_eq_some_iff.1 hi).1
    obtain ⟨r, hr⟩ := atx (l := M) (i := i) (by omega)
    rw [(hMR.row i h r hi hr).1]
    exact hMn r (List.mem_of_getElem? hr)
  rw [hel]
  rintro _ w2 ⟨hx2, ⟨hlm, se, rfl, hse⟩ | ⟨hlm, rfl⟩⟩
  rotate_left
  · have hS2 := (hS.exx hd).exx hx2
    refine ⟨hC.cel hS2, ?_⟩
    unfold mC_give.j1
    refine Cd_t ?_
    unfold mC_give.j2
    refine Cd_t ?_
    subst hRR
    exact ⟨9, rfl, .inr (.inl ⟨hlm, rfl, hS2⟩)⟩
  have hS1 := hS.exx hd
  refine ⟨hC.cel (hS1.exx hx2), ?_⟩
  have hsel := hse.1
  unfold mC_give.j1
  refine Cd_f ?_
  unfold mC_give.j2
  dsimp only
  refine Cd_eq (fun h0 => ?_) (fun h0 => ?_)
  · subst hRR
    exact ⟨0, rfl, .inl ⟨List.eq_nil_of_length_eq_zero (by omega), rfl, hS1.exx hx2⟩⟩
  have hl1 : 1 ≤ (missL M).length := by omega
  have hS2 := int_own (.rs 2) hS1 hx2 hse (by omega)
  have gv2 : ∀ {q : Ky}, ¬ GvK j q → q ≠ .rs 2 ∧ q ≠ .rk 2 ∧ q ≠ .ps 2 ∧ ¬ PlK j q := fun h => ⟨fun e => h (.inr (.inl e)), fun e => h (.inr (.inr (.inl e))), fun e => h (.inr (.inr (.inr e))), fun e => h (.inl e)⟩
  obtain ⟨ks2, ks3, ks4, ks5⟩ := gv2 hkg
  have plN : ∀ q : Ky, q = .rs 2 ∨ q = .rk 2 ∨ q = .ps 2 → ¬ PlK j q := by
    rintro q (rfl | rfl | rfl) h <;> unfold PlK GnK at h <;> simp at h
  have hC2 : Cod (T.up (.rs 2) (IntT se (missL M))) j a f k m b Q es clock := hC.next (fun i => Ths.up_ne _ _ (by simp))
  refine aeZ (plan_ok (km := .rs 2) (sl := se) (L := missL M) hS2 hC2 (plN _ (.inl rfl)) (fun w' F h => by rw [Ths.up_same] at h; exact int_props h) hLn hl1 hlm hcl) ?_
  rintro _ w3 ⟨sm, su, sr, hsr, D, T3, es', clock', rfl, hS3, hD, h3m, h3u, h3r, hC3, hcl', hone, hT3⟩
  have hDs : Shp D (missL M).length k := by
    obtain ⟨hQs, hMds⟩ := hC.shp
    obtain ⟨D', h1, h2⟩ := plan_dec (f := f) hQs hMds hLn hlm
    rw [hD] at h1
    cases h1
    exact h2
  have h3k : T3 ks = ShT s hs M := by rw [hT3 ks ks5, Ths.up_ne _ _ ks2]; exact hk
  have hT3' : ∀ q, ¬ GvK j q → T3 q = T q := fun q hq => by rw [hT3 q (gv2 hq).2.2.2, Ths.up_ne _ _ (gv2 hq).1]
  refine alloc4 fun w4 hB4 hx4 => ?_
  dsimp only
  refine sto4 (x := (sm, su, sr, ⟨none, 0, 0⟩, ())) hB4 rfl fun w5 hB5 hm5 => ?_
  have hx35 : Ex w3 w5 := hx4.into hm5 (fun i hi => by omega)
  have hS5 := hS3.new (.ps 2) (t := Cel w3.heap.size (afZ P4 (sm, su, sr, ⟨none, 0, 0⟩, ())) 49) (G := fun b => b = w3.heap.size) hx35 ⟨hB5, rfl⟩ (fun b hb => by subst hb; exact ⟨Nat.le_refl _, hB5.lt⟩)
  refine Cd_f ?_
  generalize w3.heap.size = pb at hB5 hS5 ⊢
  have eadd1 : (⟨pb, 0, none⟩ : Addr).add 1 = ⟨pb, 1, none⟩ := rfl
  rw [eadd1]
  refine aiZ (c := .sl) (x := su) (B := pb) (i := 1) hB5 (by kernel_rfl) rfl ?_
  have hul := (int_get hS3 h3u).1
  have hll := lostL_length hLn
  have hPl : (presL k (k + m) (missL M)).length = k := by unfold presL; rw [List.length_take]; omega
  have hPe : (lostL (k + m) (missL M)).take k = presL k (k + m) (missL M) := rfl
  rw [hPe] at h3u hul hD
  generalize hP : presL k (k + m) (missL M) = P at *
  have hPm : ∀ u ∈ P, u < k + m ∧ u ∉ missL M := fun u hu => by rw [← hP] at hu; exact mem_lostL.1 (List.mem_of_mem_take hu)
  refine Wr_make (f := slV) (z := ⟨none, 0, 0⟩) tBB iS rfl k (by omega) (by omega) (by omega) (by omega) fun used w6 hus hB6 hx6 => ?_
  have hO6 : Own slV 24 w5.heap.size w6 used (List.replicate k ⟨none, 0, 0⟩) := by rw [hus]; exact own_of_has (by simp) (by omega) hB6 (Nat.le_refl _)
  have hS6 := hS5.newOwn (.rk 2) hx6 hO6
  refine aiZ (c := .sl) (x := su) (B := pb) (i := 1) (hB5.ex hx6) (by kernel_rfl) rfl ?_
  generalize hT6e : (T3.up (.ps 2) (Cel pb (afZ P4 (sm, su, sr, ⟨none, 0, 0⟩, ())) 49)) = T5 at hS5 hS6
  have hT5 : ∀ q, q ≠ .ps 2 → T5 q = T3 q := fun q h => by rw [← hT6e]; exact Ths.up_ne _ _ h
  have h5p : T5 (.ps 2) = Cel pb (afZ P4 (sm, su, sr, ⟨none, 0, 0⟩, ())) 49 := by rw [← hT6e]; exact Ths.up_same _ _ _
  have hhuE : ∃ hu : List Sl, hu = P.map (fun u => hs.getD u ⟨none, 0, 0⟩) := ⟨_, rfl⟩
  obtain ⟨hu, hhu⟩ := hhuE
  have hhul : hu.length = k := by rw [hhu, List.length_map, hPl]
  have hhui : ∀ (i u : Nat) (h : Sl), P[i]? = some u → hs[u]? = some h → hu[i]? = some h := fun i u h h1 h2 => by rw [hhu, List.getElem?_map, h1]; show some (hs.getD u _) = _; rw [List.getD_eq_getElem?_getD, h2]; rfl
  unfold mC_give.l1
  have hNN : ∀ {q : Ky}, q = .rk 2 ∨ q = .ps 2 → q ≠ ks := by rintro q (rfl | rfl) e <;> first | exact ks3 e.symm | exact ks4 e.symm
  refine adZ (fun st w' => ∃ (i : Nat) (T' : Ths), st = (at0 a.cp, s, da, (n : Int), ⟨pb, 0, none⟩, used, su, ((su.len : Nat) : Int), (i : Int), ()) ∧ i ≤ k ∧ Sep W0 w' T' ∧ T' (.rk 2) = Owt slV 24 used (hu.take i ++ List.replicate (k - i) ⟨none, 0, 0⟩) ∧ ∀ q, q ≠ .rk 2 → T' q = T5 q) (fun st _ => (((su.len : Nat) : Int) - st.2.2.2.2.2.2.2.2.1).toNat) ?_
    ⟨0, _, rfl, Nat.zero_le _, hS6, by rw [Ths.up_same]; simp, fun q h => Ths.up_ne _ _ h⟩
  rintro kk _ w7 ⟨i, T7, rfl, hi, hS7, hu7, hT7⟩ hkk
  unfold mC_give.b1
  dsimp only at hkk ⊢
  refine abZ (fun hlt => ?_) (fun hge => ?_)
  · have hik : i < k := by omega
    obtain ⟨u, hui⟩ := atx (l := P) (i := i) (by omega)
    obtain ⟨hul1, hul2⟩ := hPm u (List.mem_of_getElem? hui)
    obtain ⟨h, hh⟩ := atx (l := hs) (i := u) (by omega)
    have h7u : T7 (.rs 1) = IntT su P := by rw [hT7 _ (by simp), hT5 _ (by simp)]; exact h3u
    have h7k : T7 ks = ShT s hs M := by rw [hT7 _ (fun e => ks3 e), hT5 _ (fun e => ks4 e)]; exact h3k
    refine rd_nat (int_get hS7 h7u) hui ?_
    refine rd_hdr (sh_matR hS7 h7k).hdr hh ?_
    have hO7 := hS7.owt hu7
    have hcl7 : (hu.take i ++ List.replicate (k - i) (⟨none, 0, 0⟩ : Sl)).length = k := by rw [List.length_append, List.length_take, List.length_replicate]; omega
    refine Wu_set (f := slV) (x := h) (i := i) hO7 (by omega) tBB sS sS rfl rfl fun w8 hO8 hm8 => ?_
    have hS8 := hS7.grow hu7 hO8 hm8 (fun b hb => .inl hb)
    have e : (hu.take i ++ List.replicate (k - i) (⟨none, 0, 0⟩ : Sl)).set i h = hu.take (i + 1) ++ List.replicate (k - (i + 1)) ⟨none, 0, 0⟩ := by
      have hr : List.replicate (k - i) (⟨none, 0, 0⟩ : Sl) = (List.replicate k ⟨none, 0, 0⟩).drop i := by rw [List.drop_replicate]
      have hr2 : List.replicate (k - (i + 1)) (⟨none, 0, 0⟩ : Sl) = (List.replicate k ⟨none, 0, 0⟩).drop (i + 1) := by rw [List.drop_replicate]
      rw [hr, hr2]
      exact stepG (by simp [hhul]) (hhui i u h hui hh)
    rw [e] at hS8
    rw [acZ (by omega) (by omega), show (i : Int) + 1 = ((i + 1 : Nat) : Int) by omega]
    exact hkk _ _ ⟨i + 1, _, rfl, by omega, hS8, Ths.up_same _ _ _, fun q h => by rw [Ths.up_ne _ _ h]; exact hT7 q h⟩ (by dsimp only; omega)
  clear hkk
  have hik : i = k := by omega
  subst hik
  rw [Nat.sub_self, List.replicate_zero, List.append_nil, List.take_of_length_le (by omega)] at hu7
  have h7p : T7 (.ps 2) = Cel pb (afZ P4 (sm, su, sr, ⟨none, 0, 0⟩, ())) 49 := (hT7 _ (by simp)).trans h5p
  refine aiZ (c := .sl) (x := sm) (B := pb) (i := 0) (hS7.has h7p) (by kernel_rfl) rfl ?_
  have h7m : T7 (.rs 0) = IntT sm (missL M) := by rw [hT7 _ (by simp), hT5 _ (by simp)]; exact h3m
  have h7r : T7 (.mx 1 0) = ShT sr hsr D := by rw [hT7 _ (by simp), hT5 _ (by simp)]; exact h3r
  have h7k : T7 ks = ShT s hs M := by rw [hT7 _ (fun e => ks3 e), hT5 _ (fun e => ks4 e)]; exact h3k
  have hsml := (int_get hS7 h7m).1
  have hC7 : Cod T7 j a f i m b Q es' clock' := hC3.next (fun i => by rw [hT7 _ (by simp), hT5 _ (by simp)])
  have hT7' : ∀ q, ¬ GvK j q → T7 q = T q := fun q hq => by rw [hT7 q (gv2 hq).2.1, hT5 q (gv2 hq).2.2.1]; exact hT3' q hq
  have ks0 : ks ≠ .rs 0 := fun e => ks5 (by unfold PlK; simp [e])
  have ksm : ks ≠ .mx 1 0 := fun e => ks5 (by unfold PlK; simp [e])
  have hLDl : ((missL M).zip D).length = (missL M).length := by rw [List.length_zip, hDs.1, Nat.min_self]
  generalize hU : usedM M P = U at *
  have hUn : ∀ x ∈ U, x.length = n := by
    intro x hx
    rw [← hU] at hx
    unfold usedM at hx
    obtain ⟨u, hu1, rfl⟩ := List.mem_map.1 hx
    obtain ⟨g1, g2⟩ := hPm u hu1
    obtain ⟨r, hr⟩ := atx (l := M) (i := u) (by omega)
    have e : M.getD u [] = r := by rw [List.getD_eq_getElem?_getD, hr]; rfl
    rcases hMn r (List.mem_of_getElem? hr) with h | h
    · exact absurd (mem_missL.2 ⟨by omega, by rw [e]; exact h⟩) g2
    · rw [e]; exact h
  have hUl : U.length = i := by rw [← hU]; unfold usedM; rw [List.length_map, hPl]
  unfold mC_give.l2
  refine adZ (fun st w' => ∃ (r : Nat) (T' : Ths) (hs' : List Sl), st = (at0 a.cp, s, da, (n : Int), ⟨pb, 0, none⟩, used, sm, ((sm.len : Nat) : Int), (r : Int), ()) ∧ r ≤ (missL M).length ∧ Sep W0 w' T' ∧ T' ks = ShT s hs' (giveM da i n U (((missL M).zip D).take r) M) ∧
      (∀ u ∈ P, hs'[u]? = hs[u]?) ∧ ∀ q, q ≠ ks → T' q = T7 q) (fun st _ => (((sm.len : Nat) : Int) - st.2.2.2.2.2.2.2.2.1).toNat) ?_ ⟨0, T7, hs, rfl, Nat.zero_le _, hS7, h7k, fun _ _ => rfl, fun _ _ => rfl⟩
  rintro k2 _ w8 ⟨r, T8, hs8, rfl, hr, hS8, hk8, hP8, hT8⟩ hk2
  unfold mC_give.b2
  dsimp only at hk2 ⊢
  have h8m : T8 (.rs 0) = IntT sm (missL M) := (hT8 _ ks0.symm).trans h7m
  have h8r : T8 (.mx 1 0) = ShT sr hsr D := (hT8 _ ksm.symm).trans h7r
  have h8u : T8 (.rk 2) = Owt slV 24 used hu := (hT8 _ (hNN (.inl rfl))).trans hu7
  have h8p : T8 (.ps 2) = Cel pb (afZ P4 (sm, su, sr, ⟨none, 0, 0⟩, ())) 49 := (hT8 _ (hNN (.inr rfl))).trans h7p
  have hC8 : Cod T8 j a f i m b Q es' clock' := hC7.next (fun i' => hT8 _ (fun e => hkb i' e.symm))
  refine abZ (fun hlt => ?_) (fun hge => ?_)
  · have hrl : r < (missL M).length := by omega
    obtain ⟨x, hxr⟩ := atx hrl
    obtain ⟨dr, hdr⟩ := atx (l := D) (i := r) (by rw [hDs.1]; exact hrl)
    have hxm := mem_missL.1 (List.mem_of_getElem? hxr)
    have hLD : ((missL M).zip D)[r]? = some (x, dr) := by rw [List.getElem?_zip_eq_some]; exact ⟨hxr, hdr⟩
    have hsnoc : ((missL M).zip D).take (r + 1) = ((missL M).zip D).take r ++ [(x, dr)] := by rw [List.take_add_one, hLD]; rfl
    refine rd_nat (int_get hS8 h8m) hxr ?_
    have next : ∀ {w' : World} {T' : Ths} {hs' : List Sl}, Sep W0 w' T' → T' ks = ShT s hs' (giveM da i n U (((missL M).zip D).take (r + 1)) M) → (∀ u ∈ P, hs'[u]? = hs[u]?) → (∀ q, q ≠ ks → T' q = T7 q) → mC_give.j3 R k2 (at0 a.cp) s da (n : Int) ⟨pb, 0, none⟩ used sm ((sm.len : Nat) : Int) (r : Int) w' := by
      intro w' T' hs' a1 a2 a3 a4
      unfold mC_give.j3
      rw [acZ (by omega) (by omega), show (r : Int) + 1 = ((r + 1 : Nat) : Int) by omega]
      exact hk2 _ _ ⟨r + 1, T', hs', rfl, by omega, a1, a2, a3, a4⟩ (by dsimp only; omega)
    have step : ∀ t : Bool, t = (da && decide (i ≤ x)) → mC_give.j4 R k2 (at0 a.cp) s da (n : Int) ⟨pb, 0, none⟩ used (r : Int) (x : Int) sm ((sm.len : Nat) : Int) (r : Int) t w8 := by
      intro t ht
      unfold mC_give.j4
      refine Cd_of (fun hc => ?_) (fun hc => ?_)
      · refine next hS8 ?_ hP8 hT8
        rw [hsnoc, giveM_snoc, ← ht, hc, if_pos rfl]
        exact hk8
      · refine Wr_mkwin (n := n) (by omega) rfl rfl fun back w9 bcs hbl hWb hbcs hbcap hbb hx9 => ?_
        generalize hbg : w8.heap.size = bg at hWb hbb
        have hd9 := Ex.drew w9
        have hx9' := hx9.trans hd9
        have hS9 := hS8.exx hx9'
        have hWb9 := hWb.ex hd9
        have hrows := sh_matR hS9 h8r
        refine apZ (fun w' => Has w' a.cp (codV a f i m) 78 ∧ Has w' pb (afZ P4 (sm, su, sr, ⟨none, 0, 0⟩, ())) 49 ∧ Rds slV w' sr hsr) ⟨hC8.cel hS9, hS9.has h8p, hrows.hdr⟩ ?_
        refine agZ (akZ (c := .ptr) (x := at0 a.sp) (B := a.cp) (i := 3) (fun w' h => h.1) (by kernel_rfl) rfl ?_)
        rw [show (⟨pb, 0, none⟩ : Addr).add 2 = ⟨pb, 2, none⟩ from rfl]
        refine akZ (c := .sl) (x := sr) (B := pb) (i := 2) (fun w' h => h.2.1) (by kernel_rfl) rfl ?_
        obtain ⟨hrow, hhr⟩ := atx (l := hsr) (i := r) (by rw [hrows.len, hDs.1]; exact hrl)
        refine rdS_hdr hrows.hdr (fun w' h => h.2.2) hhr ?_
        have old : ∀ {q : Ky} {F : Nat → Prop}, (T8 q).h w8 F → True := fun _ => trivial
        obtain ⟨Fs, ts, bs, _⟩ := hS8.get _ hC8.c1
        obtain ⟨Fr, tr, br, _⟩ := hS8.get _ h8r
        obtain ⟨Fu, tu, bu, _⟩ := hS8.get _ h8u
        obtain ⟨Fk, tk, bk, _⟩ := hS8.get _ hk8
        have hsmU : MatR w9.drew used hu U := by
          have hM9 := sh_matR hS9 hk8
          refine ⟨(hS9.owt h8u).rds, by rw [hhul, hUl], fun i' g rr g1 g2 => ?_⟩
          obtain ⟨u, hui⟩ := atx (l := P) (i := i') (by have := (List.getElem?_eq_some_iff.1 g1).1; omega)
          obtain ⟨e1, e2⟩ := hPm u (List.mem_of_getElem? hui)
          obtain ⟨h, hh⟩ := atx (l := hs) (i := u) (by omega)
          have := hhui i' u h hui hh
          rw [g1] at this
          cases this
          obtain ⟨mr, hmr⟩ := atx (l := M) (i := u) (by omega)
          have e3 : rr = mr := by
            rw [← hU] at g2
            unfold usedM at g2
            rw [List.getElem?_map, hui] at g2
            have : some (M.getD u []) = some rr := g2
            rw [List.getD_eq_getElem?_getD, hmr] at this
            exact (Option.some.inj this).symm
          subst e3
          refine hM9.row u g rr ((hP8 u (List.mem_of_getElem? hui)).trans hh) ?_
          rw [giveM_at _ _ _ _ u _ _ (fun p hp => fun e => e2 ?_)]
          · exact hmr
          · rw [← e]
            exact (List.of_mem_zip (List.mem_of_mem_take hp)).1
        refine aeZ (dot_ok (n := n) (hC8.set hS9) (fun e => by have := (bs _ ts.2.1).2; omega) (fun e => by have := (bs _ ts.2.2).2; omega) (hrows.row r hrow dr hhr hdr) (fun y hy e => by have := (br y (tr.apt r hrow hhr y hy).2).2; omega) hsmU (fun y hy e => by have := (bu y (tu.2 y hy)).2; omega) (fun i' g hg y hy e => ?_) (by rw [hDs.2 dr (List.mem_of_getElem? hdr), hUl]) (by rw [hDs.2 dr (List.mem_of_getElem? hdr)]; omega) hUn (by simp) hWb9 (by omega)) ?_
        · obtain ⟨u, hui⟩ := atx (l := P) (i := i') (by have := (List.getElem?_eq_some_iff.1 hg).1; omega)
          obtain ⟨e1, e2⟩ := hPm u (List.mem_of_getElem? hui)
          obtain ⟨h, hh⟩ := atx (l := hs) (i := u) (by omega)
          have := hhui i' u h hui hh
          rw [hg] at this
          cases this
          have := (bk y (tk.apt u g ((hP8 u (List.mem_of_getElem? hui)).trans hh) y hy).2).2
          omega
        rintro _ w10 ⟨rfl, hW10, hm10⟩
        have hx10 : Ex w8 w10 := hx9'.into hm10 (fun y hy => by omega)
        have hS10 := hS8.exx hx10
        refine ⟨⟨hC8.cel hS10, hS10.has h8p, (sh_matR hS10 h8r).hdr⟩, Cd_f ?_⟩
        have hsumL := sumRow_len (row := dr) hUn
        have hO10 : Own f8v 5 w8.heap.size w10 back (sumRow n dr U) := hW10.own hbb (by omega) (by omega) (by rw [hbcap]; show n ≤ 9223372036854775807; omega)
        have hk10 := (sh_get hS10 hk8)
        have h8len : hs8.length = i + m := by rw [hk10.2.1, giveM_len, hM]
        refine Wu_set (f := slV) (x := back) (i := x) hk10.1 (by omega) tBB sS sS rfl rfl fun w11 hO11 hm11 => ?_
        have hS11 := sh_new hS8 hk8 hx10 hO10 (by omega) hO11 hm11
        refine next (hs' := hs8.set x back) hS11 ?_ (fun u hu' => ?_) (fun q hq => by rw [Ths.up_ne _ _ hq]; exact hT8 q hq)
        · rw [Ths.up_same, hsnoc, giveM_snoc, ← ht, hc, if_neg (by simp)]
        · have hne' : x ≠ u := fun e => (hPm u hu').2 (e ▸ List.mem_of_getElem? hxr)
          rw [List.getElem?_set_ne hne']
          exact hP8 u hu'
    cases da with
    | true =>
      refine Cd_t (agZ ?_)
      refine aiZ (c := .int .i64) (x := (i : Int)) (B := a.cp) (i := 1) (hC8.cel hS8) (by kernel_rfl) rfl ?_
      refine step _ ?_
      rw [Bool.true_and]
      by_cases h : i ≤ x
      · rw [decide_eq_true h, decide_eq_true (by omega)]
      · rw [decide_eq_false h, decide_eq_false (by omega)]
    | false =>
      refine Cd_f ?_
      exact step _ (by rw [Bool.false_and])
  · have hrl : r = (missL M).length := by omega
    subst hrl
    rw [List.take_of_length_le (by omega)] at hk8
    subst hRR
    exact ⟨0, rfl, .inr (.inr ⟨hlm, rfl, T8, hs8, D, es', clock', hS8, hD, hk8, hC8, hcl', hone, fun q hq hqk => (hT8 q hqk).trans (hT7' q hq)⟩)⟩
end Go.Proofs.YtbiilejgfihohaaGreat
namespace Go.Proofs.YtbiilejgfihohaaGreat
open Go Go.Cu
theorem mix_eqd : Tryz.prog.follows .mixedOrders = true := by kernel_rfl
noncomputable def q17McodeLists.body : Code := (Tryz.f6.body).getD .skip
def q17McodeLists.j2 (R : EPq)  (k1 : ((Option Addr) × Int × Int × Sl × Sl × Int × Unit) → WPq) (v5 : (Option Addr)) (v6 : Int) (v7 : Int) (v8 : Sl) (v9 : Sl) (v10 : Int) (w : World) : Prop :=
  k1 (v5, v6, v7, v8, v9, (IntKind.wrap .i64 (v10 + 1)), ()) w
def q17McodeLists.j5 (R : EPq)  (v5 : (Option Addr)) (v9 : Sl) (v15 : Sl) (v19 : Sl) (v20 : Sl) (t206 : Bool) (w : World) : Prop :=
  Cd t206 (R (.returned (.bool false)) w) (Cl Tryz.prog 22 #[(.pointer v5), (.slice v15.base v15.len v15.cap)] (.tup [.agg [.sl, .sl, .sl, .sl], .at (.int .i64)]) (fun x85 w86 =>
  Wr Tryz.prog (Instr.alloc 49 true (.tuple #[])) (.one (.at .addr)) (fun (x87 : Addr) w88 =>
  Wu Tryz.prog (Instr.storeAt 49 (.pointer (some x87)) (.agg #[(.slice x85.1.1.base x85.1.1.len x85.1.1.cap), (.slice x85.1.2.1.base x85.1.2.1.len x85.1.2.1.cap), (.slice x85.1.2.2.1.base x85.1.2.2.1.len x85.1.2.2.1.cap), (.slice x85.1.2.2.2.1.base x85.1.2.2.2.1.len x85.1.2.2.2.1.cap)])) (fun w89 =>
  Cd (x85.2.1 == 0) (Rd Tryz.prog (Instr.loadAt 25 (.pointer (some x87))) (.one (.at .sl)) (fun (x90 : Sl) w91 =>
  Cl Tryz.prog 23 #[(.slice x90.base x90.len x90.cap), (.slice v15.base v15.len v15.cap)] (.one (.at .bool)) (fun (x92 : Bool) w93 =>
  Cd x92 (Rd Tryz.prog (Instr.loadAt 25 (.pointer (some (Addr.add x87 1)))) (.one (.at .sl)) (fun (x94 : Sl) w95 =>
  Cl Tryz.prog 23 #[(.slice x94.base x94.len x94.cap), (.slice v20.base v20.len v20.cap)] (.one (.at .bool)) (fun (x96 : Bool) w97 =>
  Cd x96 (Rd Tryz.prog (Instr.loadAt 30 (.pointer (some (Addr.add x87 2)))) (.one (.at .sl)) (fun (x98 : Sl) w99 =>
  Cl Tryz.prog 20 #[(.slice x98.base x98.len x98.cap), (.slice v19.base v19.len v19.cap)] (.one (.at .bool)) (fun (x100 : Bool) w101 =>
  Cd x100 (Cd (((v9.len : Nat) : Int) == 0) (R (.returned (.bool true)) w101) (Pu Tryz.prog (Instr.indexAt 25 (.slice v9.base v9.len v9.cap) (.int .i64 0)) (.one (.at .addr)) (fun (x102 : Addr) w103 =>
  Rd Tryz.prog (Instr.loadAt 3 (.pointer (some x102))) (.one (.at (.int .i64))) (fun (x104 : Int) w105 =>
  R (.returned (.bool (x104 == 0))) w105) w103) w101)) (R (.returned (.bool false)) w101)) w99) w97) (R (.returned (.bool false)) w97)) w95) w93) (R (.returned (.bool false)) w93)) w91) w89) (R (.returned (.bool false)) w89)) w88) w86) w)
def q17McodeLists.b4 (R : EPq) (k4 : ((Option Addr) × Sl × Addr × Addr × Sl × Sl × Sl × Int × Unit) → WPq) (v5 : (Option Addr)) (v9 : Sl) (v11 : Addr) (v13 : Addr) (v15 : Sl) (v19 : Sl) (v20 : Sl) (v25 : Int) (w : World) : Prop :=
  Rd Tryz.prog (Instr.loadAt 30 (.pointer (some (Addr.add v11 2)))) (.one (.at .sl)) (fun (x78 : Sl) w79 =>
  Cd (decide (v25 < ((x78.len : Nat) : Int))) (Rd Tryz.prog (Instr.loadAt 30 (.pointer (some (Addr.add v11 2)))) (.one (.at .sl)) (fun (x80 : Sl) w81 =>
  Pu Tryz.prog (Instr.indexAt 30 (.slice x80.base x80.len x80.cap) (.int .i64 v25)) (.one (.at .addr)) (fun (x82 : Addr) w83 =>
  Wu Tryz.prog (Instr.storeAt 24 (.pointer (some x82)) (.slice none 0 0)) (fun w84 =>
  k4 (v5, v9, v11, v13, v15, v19, v20, (IntKind.wrap .i64 (v25 + 1)), ()) w84) w83) w81) w79) (Rd Tryz.prog (Instr.loadAt 30 (.pointer (some (Addr.add v13 2)))) (.one (.at .sl)) (fun (x106 : Sl) w107 =>
  Cd (decide (((x106.len : Nat) : Int) > 0)) (Rd Tryz.prog (Instr.loadAt 30 (.pointer (some (Addr.add v13 2)))) (.one (.at .sl)) (fun (x108 : Sl) w109 =>
  Pu Tryz.prog (Instr.indexAt 30 (.slice x108.base x108.len x108.cap) (.int .i64 0)) (.one (.at .addr)) (fun (x110 : Addr) w111 =>
  Rd Tryz.prog (Instr.loadAt 24 (.pointer (some x110))) (.one (.at .sl)) (fun (x112 : Sl) w113 =>
  Pu Tryz.prog (do eqGuard .eql 24 (.tmp 204) (.const (.slice none 0 0)) (.slice x112.base x112.len x112.cap) (.slice none 0 0); binOp .eql 24 (.slice x112.base x112.len x112.cap) (.slice none 0 0)) (.one (.at .bool)) (fun (x114 : Bool) w115 =>
  q17McodeLists.j5 R v5 v9 v15 v19 v20 x114 w115) w113) w111) w109) w107) (q17McodeLists.j5 R v5 v9 v15 v19 v20 false w107)) w79)) w
def q17McodeLists.l4 (R : EPq) : ((Option Addr) × Sl × Addr × Addr × Sl × Sl × Sl × Int × Unit) → World → Prop := aoZ (fun k4 s w => q17McodeLists.b4 R k4 s.1 s.2.1 s.2.2.1 s.2.2.2.1 s.2.2.2.2.1 s.2.2.2.2.2.1 s.2.2.2.2.2.2.1 s.2.2.2.2.2.2.2.1 w)
def q17McodeLists.j4 (R : EPq)  (v5 : (Option Addr)) (v9 : Sl) (v11 : Addr) (v13 : Addr) (v15 : Sl) (v19 : Sl) (v20 : Sl) (t184 : Bool) (w : World) : Prop :=
  Cd t184 (R (.returned (.bool false)) w) (q17McodeLists.l4 R (v5, v9, v11, v13, v15, v19, v20, 0, ()) w)
def q17McodeLists.b3 (R : EPq) (k3 : ((Option Addr) × Sl × Addr × Addr × Sl × Sl × Sl × Sl × Sl × Sl × Int × Int × Unit) → WPq) (v5 : (Option Addr)) (v9 : Sl) (v11 : Addr) (v13 : Addr) (v15 : Sl) (v19 : Sl) (v20 : Sl) (v21 : Sl) (v22 : Sl) (t159 : Sl) (t160 : Int) (t161 : Int) (w : World) : Prop :=
  Cd (decide (t161 < t160)) (Pu Tryz.prog (Instr.indexAt 54 (.slice t159.base t159.len t159.cap) (.int .i64 t161)) (.one (.at .addr)) (fun (x59 : Addr) w60 =>
  Rd Tryz.prog (Instr.loadAt 49 (.pointer (some x59))) (.one (.agg [.sl, .sl, .sl, .sl])) (fun x61 w62 =>
  Wr Tryz.prog (Instr.alloc 49 true (.tuple #[])) (.one (.at .addr)) (fun (x63 : Addr) w64 =>
  Wu Tryz.prog (Instr.storeAt 49 (.pointer (some x63)) (.agg #[(.slice x61.1.base x61.1.len x61.1.cap), (.slice x61.2.1.base x61.2.1.len x61.2.1.cap), (.slice x61.2.2.1.base x61.2.2.1.len x61.2.2.1.cap), (.slice x61.2.2.2.1.base x61.2.2.2.1.len x61.2.2.2.1.cap)])) (fun w65 =>
  Rd Tryz.prog (Instr.loadAt 25 (.pointer (some x63))) (.one (.at .sl)) (fun (x66 : Sl) w67 =>
  Rd Tryz.prog (Instr.loadAt 25 (.pointer (some (Addr.add x63 1)))) (.one (.at .sl)) (fun (x68 : Sl) w69 =>
  Wr Tryz.prog (Instr.buildSlice 53 2 #[(0, (.slice x66.base x66.len x66.cap)), (1, (.slice x68.base x68.len x68.cap))]) (.one (.at .sl)) (fun (x70 : Sl) w71 =>
  Wr Tryz.prog (Builtin.append_ #[53, 53] 53 #[(.slice v21.base v21.len v21.cap), (.slice x70.base x70.len x70.cap)]) (.one (.at .sl)) (fun (x72 : Sl) w73 =>
  Rd Tryz.prog (Instr.loadAt 30 (.pointer (some (Addr.add x63 2)))) (.one (.at .sl)) (fun (x74 : Sl) w75 =>
  Wr Tryz.prog (Builtin.append_ #[30, 30] 30 #[(.slice v22.base v22.len v22.cap), (.slice x74.base x74.len x74.cap)]) (.one (.at .sl)) (fun (x76 : Sl) w77 =>
  k3 (v5, v9, v11, v13, v15, v19, v20, x72, x76, t159, t160, (IntKind.wrap .i64 (t161 + 1)), ()) w77) w75) w73) w71) w69) w67) w65) w64) w62) w60) w) (Cl Tryz.prog 24 #[(.slice v21.base v21.len v21.cap)] (.one (.at .bool)) (fun (x116 : Bool) w117 =>
  Cd (!x116) (q17McodeLists.j4 R v5 v9 v11 v13 v15 v19 v20 true w117) (Cl Tryz.prog 25 #[(.slice v22.base v22.len v22.cap)] (.one (.at .bool)) (fun (x118 : Bool) w119 =>
  q17McodeLists.j4 R v5 v9 v11 v13 v15 v19 v20 (!x118) w119) w117)) w)
def q17McodeLists.l3 (R : EPq) : ((Option Addr) × Sl × Addr × Addr × Sl × Sl × Sl × Sl × Sl × Sl × Int × Int × Unit) → World → Prop := aoZ (fun k3 s w => q17McodeLists.b3 R k3 s.1 s.2.1 s.2.2.1 s.2.2.2.1 s.2.2.2.2.1 s.2.2.2.2.2.1 s.2.2.2.2.2.2.1 s.2.2.2.2.2.2.2.1 s.2.2.2.2.2.2.2.2.1 s.2.2.2.2.2.2.2.2.2.1 s.2.2.2.2.2.2.2.2.2.2.1 s.2.2.2.2.2.2.2.2.2.2.2.1 w)
def q17McodeLists.j3 (R : EPq)  (v5 : (Option Addr)) (v9 : Sl) (v11 : Addr) (v13 : Addr) (v15 : Sl) (v17 : Addr) (t148 : Bool) (w : World) : Prop :=
  Cd t148 (R (.returned (.bool false)) w) (Rd Tryz.prog (Instr.loadAt 30 (.pointer (some (Addr.add v11 2)))) (.one (.at .sl)) (fun (x41 : Sl) w42 =>
  Cl Tryz.prog 18 #[(.slice x41.base x41.len x41.cap)] (.one (.at .sl)) (fun (x43 : Sl) w44 =>
  Wr Tryz.prog (Instr.buildSlice 25 0 #[]) (.one (.at .sl)) (fun (x45 : Sl) w46 =>
  Rd Tryz.prog (Instr.loadAt 25 (.pointer (some (Addr.add v11 1)))) (.one (.at .sl)) (fun (x47 : Sl) w48 =>
  Wr Tryz.prog (Builtin.append_ #[25, 25] 25 #[(.slice x45.base x45.len x45.cap), (.slice x47.base x47.len x47.cap)]) (.one (.at .sl)) (fun (x49 : Sl) w50 =>
  Rd Tryz.prog (Instr.loadAt 49 (.pointer (some v11))) (.one (.agg [.sl, .sl, .sl, .sl])) (fun x51 w52 =>
  Rd Tryz.prog (Instr.loadAt 49 (.pointer (some v13))) (.one (.agg [.sl, .sl, .sl, .sl])) (fun x53 w54 =>
  Rd Tryz.prog (Instr.loadAt 49 (.pointer (some v17))) (.one (.agg [.sl, .sl, .sl, .sl])) (fun x55 w56 =>
  Wr Tryz.prog (Instr.buildSlice 54 3 #[(0, (.agg #[(.slice x51.1.base x51.1.len x51.1.cap), (.slice x51.2.1.base x51.2.1.len x51.2.1.cap), (.slice x51.2.2.1.base x51.2.2.1.len x51.2.2.1.cap), (.slice x51.2.2.2.1.base x51.2.2.2.1.len x51.2.2.2.1.cap)])), (1, (.agg #[(.slice x53.1.base x53.1.len x53.1.cap), (.slice x53.2.1.base x53.2.1.len x53.2.1.cap), (.slice x53.2.2.1.base x53.2.2.1.len x53.2.2.1.cap), (.slice x53.2.2.2.1.base x53.2.2.2.1.len x53.2.2.2.1.cap)])), (2, (.agg #[(.slice x55.1.base x55.1.len x55.1.cap), (.slice x55.2.1.base x55.2.1.len x55.2.1.cap), (.slice x55.2.2.1.base x55.2.2.1.len x55.2.2.1.cap), (.slice x55.2.2.2.1.base x55.2.2.2.1.len x55.2.2.2.1.cap)]))]) (.one (.at .sl)) (fun (x57 : Sl) w58 =>
  q17McodeLists.l3 R (v5, v9, v11, v13, v15, x43, x49, ⟨none, 0, 0⟩, ⟨none, 0, 0⟩, x57, ((x57.len : Nat) : Int), 0, ()) w58) w56) w54) w52) w50) w48) w46) w44) w42) w)
def q17McodeLists.b2 (R : EPq) (k2 : ((Option Addr) × Int × Sl × Addr × Int × Addr × Int × Sl × Int × Unit) → WPq) (v5 : (Option Addr)) (v6 : Int) (v9 : Sl) (v11 : Addr) (v12 : Int) (v13 : Addr) (v14 : Int) (v15 : Sl) (v16 : Int) (w : World) : Prop :=
  Cd (decide (v16 < ((v9.len : Nat) : Int))) (Pu Tryz.prog (Instr.indexAt 25 (.slice v9.base v9.len v9.cap) (.int .i64 v16)) (.one (.at .addr)) (fun (x33 : Addr) w34 =>
  Wu Tryz.prog (Instr.storeAt 3 (.pointer (some x33)) (.int .i64 v16)) (fun w35 =>
  k2 (v5, v6, v9, v11, v12, v13, v14, v15, (IntKind.wrap .i64 (v16 + 1)), ()) w35) w34) w) (Cl Tryz.prog 22 #[(.pointer v5), (.slice v9.base v9.len v9.cap)] (.tup [.agg [.sl, .sl, .sl, .sl], .at (.int .i64)]) (fun x36 w37 =>
  Wr Tryz.prog (Instr.alloc 49 true (.tuple #[])) (.one (.at .addr)) (fun (x38 : Addr) w39 =>
  Wu Tryz.prog (Instr.storeAt 49 (.pointer (some x38)) (.agg #[(.slice x36.1.1.base x36.1.1.len x36.1.1.cap), (.slice x36.1.2.1.base x36.1.2.1.len x36.1.2.1.cap), (.slice x36.1.2.2.1.base x36.1.2.2.1.len x36.1.2.2.1.cap), (.slice x36.1.2.2.2.1.base x36.1.2.2.2.1.len x36.1.2.2.2.1.cap)])) (fun w40 =>
  Cd (v12 != 0) (q17McodeLists.j3 R v5 v9 v11 v13 v15 x38 true w40) (Cd (v14 != 0) (q17McodeLists.j3 R v5 v9 v11 v13 v15 x38 true w40) (Cd (x36.2.1 != 0) (q17McodeLists.j3 R v5 v9 v11 v13 v15 x38 true w40) (Rd Tryz.prog (Instr.loadAt 25 (.pointer (some v11))) (.one (.at .sl)) (fun (x120 : Sl) w121 =>
  Cl Tryz.prog 23 #[(.slice x120.base x120.len x120.cap), (.slice v15.base v15.len v15.cap)] (.one (.at .bool)) (fun (x122 : Bool) w123 =>
  Cd (!x122) (q17McodeLists.j3 R v5 v9 v11 v13 v15 x38 true w123) (Rd Tryz.prog (Instr.loadAt 25 (.pointer (some v13))) (.one (.at .sl)) (fun (x124 : Sl) w125 =>
  Cl Tryz.prog 23 #[(.slice x124.base x124.len x124.cap), (.slice v15.base v15.len v15.cap)] (.one (.at .bool)) (fun (x126 : Bool) w127 =>
  Cd (!x126) (q17McodeLists.j3 R v5 v9 v11 v13 v15 x38 true w127) (Rd Tryz.prog (Instr.loadAt 25 (.pointer (some (Addr.add v11 1)))) (.one (.at .sl)) (fun (x128 : Sl) w129 =>
  Rd Tryz.prog (Instr.loadAt 25 (.pointer (some (Addr.add v13 1)))) (.one (.at .sl)) (fun (x130 : Sl) w131 =>
  Cl Tryz.prog 23 #[(.slice x128.base x128.len x128.cap), (.slice x130.base x130.len x130.cap)] (.one (.at .bool)) (fun (x132 : Bool) w133 =>
  Cd (!x132) (q17McodeLists.j3 R v5 v9 v11 v13 v15 x38 true w133) (Rd Tryz.prog (Instr.loadAt 30 (.pointer (some (Addr.add v11 2)))) (.one (.at .sl)) (fun (x134 : Sl) w135 =>
  Rd Tryz.prog (Instr.loadAt 30 (.pointer (some (Addr.add v13 2)))) (.one (.at .sl)) (fun (x136 : Sl) w137 =>
  Cl Tryz.prog 20 #[(.slice x134.base x134.len x134.cap), (.slice x136.base x136.len x136.cap)] (.one (.at .bool)) (fun (x138 : Bool) w139 =>
  Cd (!x138) (q17McodeLists.j3 R v5 v9 v11 v13 v15 x38 true w139) (Rd Tryz.prog (Instr.loadAt 25 (.pointer (some (Addr.add v11 1)))) (.one (.at .sl)) (fun (x140 : Sl) w141 =>
  Cd (((x140.len : Nat) : Int) != v6) (q17McodeLists.j3 R v5 v9 v11 v13 v15 x38 true w141) (Rd Tryz.prog (Instr.loadAt 30 (.pointer (some (Addr.add v11 2)))) (.one (.at .sl)) (fun (x142 : Sl) w143 =>
  q17McodeLists.j3 R v5 v9 v11 v13 v15 x38 (((x142.len : Nat) : Int) != ((v15.len : Nat) : Int)) w143) w141)) w139)) w137) w135) w133)) w131) w129) w127)) w125) w123)) w121) w40)))) w39) w37) w)
def q17McodeLists.l2 (R : EPq) : ((Option Addr) × Int × Sl × Addr × Int × Addr × Int × Sl × Int × Unit) → World → Prop := aoZ (fun k2 s w => q17McodeLists.b2 R k2 s.1 s.2.1 s.2.2.1 s.2.2.2.1 s.2.2.2.2.1 s.2.2.2.2.2.1 s.2.2.2.2.2.2.1 s.2.2.2.2.2.2.2.1 s.2.2.2.2.2.2.2.2.1 w)
def q17McodeLists.b1 (R : EPq) (k1 : ((Option Addr) × Int × Int × Sl × Sl × Int × Unit) → WPq) (v5 : (Option Addr)) (v6 : Int) (v7 : Int) (v8 : Sl) (v9 : Sl) (v10 : Int) (w : World) : Prop :=
  Cd (decide (v10 < (IntKind.wrap .i64 (v6 + v7)))) (Pu Tryz.prog (Instr.indexAt 36 (.slice v8.base v8.len v8.cap) (.int .i64 v10)) (.one (.at .addr)) (fun (x11 : Addr) w12 =>
  Rd Tryz.prog (Instr.loadAt 4 (.pointer (some x11))) (.one (.at .bool)) (fun (x13 : Bool) w14 =>
  Cd x13 (Wr Tryz.prog (Instr.buildSlice 25 1 #[(0, (.int .i64 v10))]) (.one (.at .sl)) (fun (x15 : Sl) w16 =>
  Wr Tryz.prog (Builtin.append_ #[25, 25] 25 #[(.slice v9.base v9.len v9.cap), (.slice x15.base x15.len x15.cap)]) (.one (.at .sl)) (fun (x17 : Sl) w18 =>
  q17McodeLists.j2 R k1 v5 v6 v7 v8 x17 v10 w18) w16) w14) (q17McodeLists.j2 R k1 v5 v6 v7 v8 v9 v10 w14)) w12) w) (Cl Tryz.prog 22 #[(.pointer v5), (.slice v9.base v9.len v9.cap)] (.tup [.agg [.sl, .sl, .sl, .sl], .at (.int .i64)]) (fun x19 w20 =>
  Wr Tryz.prog (Instr.alloc 49 true (.tuple #[])) (.one (.at .addr)) (fun (x21 : Addr) w22 =>
  Wu Tryz.prog (Instr.storeAt 49 (.pointer (some x21)) (.agg #[(.slice x19.1.1.base x19.1.1.len x19.1.1.cap), (.slice x19.1.2.1.base x19.1.2.1.len x19.1.2.1.cap), (.slice x19.1.2.2.1.base x19.1.2.2.1.len x19.1.2.2.1.cap), (.slice x19.1.2.2.2.1.base x19.1.2.2.2.1.len x19.1.2.2.2.1.cap)])) (fun w23 =>
  Cl Tryz.prog 22 #[(.pointer v5), (.slice v9.base v9.len v9.cap)] (.tup [.agg [.sl, .sl, .sl, .sl], .at (.int .i64)]) (fun x24 w25 =>
  Wr Tryz.prog (Instr.alloc 49 true (.tuple #[])) (.one (.at .addr)) (fun (x26 : Addr) w27 =>
  Wu Tryz.prog (Instr.storeAt 49 (.pointer (some x26)) (.agg #[(.slice x24.1.1.base x24.1.1.len x24.1.1.cap), (.slice x24.1.2.1.base x24.1.2.1.len x24.1.2.1.cap), (.slice x24.1.2.2.1.base x24.1.2.2.1.len x24.1.2.2.1.cap), (.slice x24.1.2.2.2.1.base x24.1.2.2.2.1.len x24.1.2.2.2.1.cap)])) (fun w28 =>
  Wr Tryz.prog (Instr.buildSlice 25 0 #[]) (.one (.at .sl)) (fun (x29 : Sl) w30 =>
  Wr Tryz.prog (Builtin.append_ #[25, 25] 25 #[(.slice x29.base x29.len x29.cap), (.slice v9.base v9.len v9.cap)]) (.one (.at .sl)) (fun (x31 : Sl) w32 =>
  q17McodeLists.l2 R (v5, v6, v9, x21, x19.2.1, x26, x24.2.1, x31, 0, ()) w32) w30) w28) w27) w25) w23) w22) w20) w)
def q17McodeLists.l1 (R : EPq) : ((Option Addr) × Int × Int × Sl × Sl × Int × Unit) → World → Prop := aoZ (fun k1 s w => q17McodeLists.b1 R k1 s.1 s.2.1 s.2.2.1 s.2.2.2.1 s.2.2.2.2.1 s.2.2.2.2.2.1 w)
def q17McodeLists.j1 (R : EPq)  (v1 : Sl) (v5 : (Option Addr)) (v6 : Int) (v7 : Int) (t38 : Bool) (w : World) : Prop :=
  Cd t38 (R (.returned (.bool false)) w) (Cl Tryz.prog 16 #[(.int .i64 ((v1.len : Nat) : Int)), (.int .i64 1), (.int .i64 v7)] (.one (.at (.int .i64))) (fun (x7 : Int) w8 =>
  Cl Tryz.prog 15 #[(.int .i64 (IntKind.wrap .i64 (v6 + v7))), (.int .i64 x7), (.slice v1.base v1.len v1.cap)] (.one (.at .sl)) (fun (x9 : Sl) w10 =>
  q17McodeLists.l1 R (v5, v6, v7, x9, ⟨none, 0, 0⟩, 0, ()) w10) w8) w)
def q17McodeLists.M (R : EPq) (v0 : (Int × Int × Int × Int × Unit)) (v1 : Sl) (w : World) : Prop :=
  Wr Tryz.prog (Instr.box 23 (.agg #[(.int .i64 v0.1), (.int .i64 v0.2.1), (.int .i64 v0.2.2.1), (.int .i64 v0.2.2.2.1)])) (.one (.at .addr)) (fun (x1 : Addr) w2 =>
  Rd Tryz.prog (Instr.loadAt 23 (.pointer (some x1))) (.one (.agg [.int .i64, .int .i64, .int .i64, .int .i64])) (fun x3 w4 =>
  Cl Tryz.prog 10 #[(.agg #[(.int .i64 x3.1), (.int .i64 x3.2.1), (.int .i64 x3.2.2.1), (.int .i64 x3.2.2.2.1)])] (.tup [.at .ptr, .at (.int .i64), .at (.int .i64)]) (fun x5 w6 =>
  Cl Tryz.prog 11 #[] (.one (.at .bool)) (fun (x144 : Bool) w145 =>
  Cd (!x144) (q17McodeLists.j1 R v1 x5.1 x5.2.1 x5.2.2.1 true w145) (Pu Tryz.prog (do eqGuard .eql 26 (.tmp 36) (.const (.pointer none)) (.pointer x5.1) (.pointer none); binOp .eql 26 (.pointer x5.1) (.pointer none)) (.one (.at .bool)) (fun (x146 : Bool) w147 =>
  q17McodeLists.j1 R v1 x5.1 x5.2.1 x5.2.2.1 x146 w147) w145)) w6) w4) w2) w
noncomputable def q17McodeLists.ann (R : EPq) : Ann :=
  .seq (.reg (.op 0 (.wr (.one (.at .addr))) (.op 1 .now (.done)))) (.seq (.reg (.op 0 (.rd (.one (.agg [.int .i64, .int .i64, .int .i64, .int .i64]))) (.op 1 (.cl (.tup [.at .ptr, .at (.int .i64), .at (.int .i64)])) (.op 2 .now (.op 3 .now (.op 4 .now (.op 5 .now (.op 6 .now (.op 7 .now (.op 8 .now (.done))))))))))) (.seq (.join [(1, qcS), (5, qcP), (6, qcI), (7, qcI), (38, .at .bool)] (fun s w => q17McodeLists.j1 R s.1 s.2.1 s.2.2.1 s.2.2.2.1 s.2.2.2.2.1 w) (.reg (.op 0 (.cl (.one (.at .bool))) (.op 1 .now (.op 2 .now (.split 2 (.skip 3 (.skip 4 (.op 5 .now (.done)))) (.op 3 .now (.op 4 (.pu (.one (.at .bool))) (.op 5 .now (.done))))))))) (.cond (.seq (.reg qN1) (.leaf)) (.leaf))) (.seq (.reg (.op 0 .now (.op 1 .now (.op 2 .now (.op 3 .now (.op 4 .now (.op 5 .now (.op 6 (.cl (.one qcI)) (.op 7 .now (.op 8 (.cl (.one qcS)) (.op 9 .now (.done)))))))))))) (.seq (.reg qN1) (.seq (.seq (.reg qN1) (.block (.loop [(5, qcP), (6, qcI), (7, qcI), (8, qcS), (9, qcS), (10, qcI)] (fun k1 s w => q17McodeLists.b1 R k1 s.1 s.2.1 s.2.2.1 s.2.2.2.1 s.2.2.2.2.1 s.2.2.2.2.2.1 w) (fun k1 => .seq (.seq (.reg qN5) (.cond (.leaf) (.leaf))) (.join [(5, qcP), (6, qcI), (7, qcI), (8, qcS), (9, qcS), (10, qcI)] (fun s w => q17McodeLists.j2 R k1 s.1 s.2.1 s.2.2.1 s.2.2.2.1 s.2.2.2.2.1 s.2.2.2.2.2.1 w) (.block (.seq (.reg (.op 0 .now (.op 1 .now (.op 2 qpA (.op 3 (.rd (.one (.at .bool))) (.done)))))) (.cond (.reg (.op 0 .now (.op 1 .now (.op 2 (.wr (.one qcS)) (.op 3 (.wr (.one qcS)) (.op 4 .now (.done))))))) (.leaf)))) (.reg qN3)))))) (.seq (.reg (.op 0 .now (.op 1 .now (.op 2 (.cl (.tup [.agg [.sl, .sl, .sl, .sl], .at (.int .i64)])) (.op 3 .now (.op 4 .now (.op 5 .now (.op 6 (.wr (.one (.at .addr))) (.op 7 .wu (.op 8 .now (.done))))))))))) (.seq (.reg (.op 0 .now (.op 1 .now (.op 2 (.cl (.tup [.agg [.sl, .sl, .sl, .sl], .at (.int .i64)])) (.op 3 .now (.op 4 .now (.op 5 .now (.op 6 (.wr (.one (.at .addr))) (.op 7 .wu (.op 8 .now (.done))))))))))) (.seq (.reg (.op 0 (.wr (.one qcS)) (.op 1 .now (.op 2 (.wr (.one qcS)) (.op 3 .now (.done)))))) (.seq (.seq (.reg qN1) (.block (.loop [(5, qcP), (6, qcI), (9, qcS), (11, .at .addr), (12, qcI), (13, .at .addr), (14, qcI), (15, qcS), (16, qcI)] (fun k2 s w => q17McodeLists.b2 R k2 s.1 s.2.1 s.2.2.1 s.2.2.2.1 s.2.2.2.2.1 s.2.2.2.2.2.1 s.2.2.2.2.2.2.1 s.2.2.2.2.2.2.2.1 s.2.2.2.2.2.2.2.2.1 w) (fun k2 => .seq (.seq (.reg qN4) (.cond (.leaf) (.leaf))) (.seq (.block (.reg (.op 0 .now (.op 1 .now (.op 2 .now (.op 3 qpA (.op 4 .wu (.done)))))))) (.reg qN3)))))) (.seq (.reg (.op 0 .now (.op 1 .now (.op 2 (.cl (.tup [.agg [.sl, .sl, .sl, .sl], .at (.int .i64)])) (.op 3 .now (.op 4 .now (.op 5 .now (.op 6 (.wr (.one (.at .addr))) (.op 7 .wu (.op 8 .now (.done))))))))))) (.seq (.join [(5, qcP), (9, qcS), (11, .at .addr), (13, .at .addr), (15, qcS), (17, .at .addr), (148, .at .bool)] (fun s w => q17McodeLists.j3 R s.1 s.2.1 s.2.2.1 s.2.2.2.1 s.2.2.2.2.1 s.2.2.2.2.2.1 s.2.2.2.2.2.2.1 w) (.reg (.op 0 .now (.op 1 .now (.op 2 .now (.split 2 (.skip 3 (.skip 4 (.op 5 .now (.op 6 .now (.skip 7 (.skip 8 (.op 9 .now (.op 10 .now (.skip 11 (.skip 12 (.skip 13 (.skip 14 (.skip 15 (.op 16 .now (.op 17 .now (.skip 18 (.skip 19 (.skip 20 (.skip 21 (.skip 22 (.op 23 .now (.op 24 .now (.skip 25 (.skip 26 (.skip 27 (.skip 28 (.skip 29 (.skip 30 (.op 31 .now (.op 32 .now (.skip 33 (.skip 34 (.skip 35 (.skip 36 (.skip 37 (.skip 38 (.op 39 .now (.op 40 .now (.skip 41 (.skip 42 (.skip 43 (.skip 44 (.skip 45 (.op 46 .now (.op 47 .now (.skip 48 (.skip 49 (.skip 50 (.skip 51 (.skip 52 (.skip 53 (.op 54 .now (.done))))))))))))))))))))))))))))))))))))))))))))))))))))) (.op 3 .now (.op 4 .now (.op 5 .now (.op 6 .now (.split 6 (.skip 7 (.skip 8 (.op 9 .now (.op 10 .now (.skip 11 (.skip 12 (.skip 13 (.skip 14 (.skip 15 (.op 16 .now (.op 17 .now (.skip 18 (.skip 19 (.skip 20 (.skip 21 (.skip 22 (.op 23 .now (.op 24 .now (.skip 25 (.skip 26 (.skip 27 (.skip 28 (.skip 29 (.skip 30 (.op 31 .now (.op 32 .now (.skip 33 (.skip 34 (.skip 35 (.skip 36 (.skip 37 (.skip 38 (.op 39 .now (.op 40 .now (.skip 41 (.skip 42 (.skip 43 (.skip 44 (.skip 45 (.op 46 .now (.op 47 .now (.skip 48 (.skip 49 (.skip 50 (.skip 51 (.skip 52 (.skip 53 (.op 54 .now (.done))))))))))))))))))))))))))))))))))))))))))))))))) (.op 7 .now (.op 8 .now (.op 9 .now (.op 10 .now (.split 10 (.skip 11 (.skip 12 (.skip 13 (.skip 14 (.skip 15 (.op 16 .now (.op 17 .now (.skip 18 (.skip 19 (.skip 20 (.skip 21 (.skip 22 (.op 23 .now (.op 24 .now (.skip 25 (.skip 26 (.skip 27 (.skip 28 (.skip 29 (.skip 30 (.op 31 .now (.op 32 .now (.skip 33 (.skip 34 (.skip 35 (.skip 36 (.skip 37 (.skip 38 (.op 39 .now (.op 40 .now (.skip 41 (.skip 42 (.skip 43 (.skip 44 (.skip 45 (.op 46 .now (.op 47 .now (.skip 48 (.skip 49 (.skip 50 (.skip 51 (.skip 52 (.skip 53 (.op 54 .now (.done))))))))))))))))))))))))))))))))))))))))))))) (.op 11 .now (.op 12 qrS (.op 13 .now (.op 14 (.cl (.one (.at .bool))) (.op 15 .now (.op 16 .now (.op 17 .now (.split 17 (.skip 18 (.skip 19 (.skip 20 (.skip 21 (.skip 22 (.op 23 .now (.op 24 .now (.skip 25 (.skip 26 (.skip 27 (.skip 28 (.skip 29 (.skip 30 (.op 31 .now (.op 32 .now (.skip 33 (.skip 34 (.skip 35 (.skip 36 (.skip 37 (.skip 38 (.op 39 .now (.op 40 .now (.skip 41 (.skip 42 (.skip 43 (.skip 44 (.skip 45 (.op 46 .now (.op 47 .now (.skip 48 (.skip 49 (.skip 50 (.skip 51 (.skip 52 (.skip 53 (.op 54 .now (.done)))))))))))))))))))))))))))))))))))))) (.op 18 .now (.op 19 qrS (.op 20 .now (.op 21 (.cl (.one (.at .bool))) (.op 22 .now (.op 23 .now (.op 24 .now (.split 24 (.skip 25 (.skip 26 (.skip 27 (.skip 28 (.skip 29 (.skip 30 (.op 31 .now (.op 32 .now (.skip 33 (.skip 34 (.skip 35 (.skip 36 (.skip 37 (.skip 38 (.op 39 .now (.op 40 .now (.skip 41 (.skip 42 (.skip 43 (.skip 44 (.skip 45 (.op 46 .now (.op 47 .now (.skip 48 (.skip 49 (.skip 50 (.skip 51 (.skip 52 (.skip 53 (.op 54 .now (.done))))))))))))))))))))))))))))))) (.op 25 .now (.op 26 qrS (.op 27 .now (.op 28 qrS (.op 29 (.cl (.one (.at .bool))) (.op 30 .now (.op 31 .now (.op 32 .now (.split 32 (.skip 33 (.skip 34 (.skip 35 (.skip 36 (.skip 37 (.skip 38 (.op 39 .now (.op 40 .now (.skip 41 (.skip 42 (.skip 43 (.skip 44 (.skip 45 (.op 46 .now (.op 47 .now (.skip 48 (.skip 49 (.skip 50 (.skip 51 (.skip 52 (.skip 53 (.op 54 .now (.done))))))))))))))))))))))) (.op 33 .now (.op 34 qrS (.op 35 .now (.op 36 qrS (.op 37 (.cl (.one (.at .bool))) (.op 38 .now (.op 39 .now (.op 40 .now (.split 40 (.skip 41 (.skip 42 (.skip 43 (.skip 44 (.skip 45 (.op 46 .now (.op 47 .now (.skip 48 (.skip 49 (.skip 50 (.skip 51 (.skip 52 (.skip 53 (.op 54 .now (.done))))))))))))))) (.op 41 .now (.op 42 qrS (.op 43 .now (.op 44 .now (.op 45 .now (.op 46 .now (.op 47 .now (.split 47 (.skip 48 (.skip 49 (.skip 50 (.skip 51 (.skip 52 (.skip 53 (.op 54 .now (.done)))))))) (.op 48 .now (.op 49 qrS (.op 50 .now (.op 51 .now (.op 52 .now (.op 53 .now (.op 54 .now (.done))))))))))))))))))))))))))))))))))))))))))))))))))))))))))))))))) (.cond (.seq (.reg qN1) (.leaf)) (.leaf))) (.seq (.reg (.op 0 .now (.op 1 qrS (.op 2 (.cl (.one qcS)) (.op 3 .now (.done)))))) (.seq (.reg (.op 0 (.wr (.one qcS)) (.op 1 .now (.op 2 qrS (.op 3 (.wr (.one qcS)) (.op 4 .now (.done))))))) (.seq (.reg qN1) (.seq (.reg qN1) (.seq (.seq (.reg (.op 0 (.rd (.one (.agg [.sl, .sl, .sl, .sl]))) (.op 1 (.rd (.one (.agg [.sl, .sl, .sl, .sl]))) (.op 2 (.rd (.one (.agg [.sl, .sl, .sl, .sl]))) (.op 3 (.wr (.one qcS)) (.op 4 .now (.op 5 .now (.done)))))))) (.block (.loop [(5, qcP), (9, qcS), (11, .at .addr), (13, .at .addr), (15, qcS), (19, qcS), (20, qcS), (21, qcS), (22, qcS), (159, qcS), (160, qcI), (161, qcI)] (fun k3 s w => q17McodeLists.b3 R k3 s.1 s.2.1 s.2.2.1 s.2.2.2.1 s.2.2.2.2.1 s.2.2.2.2.2.1 s.2.2.2.2.2.2.1 s.2.2.2.2.2.2.2.1 s.2.2.2.2.2.2.2.2.1 s.2.2.2.2.2.2.2.2.2.1 s.2.2.2.2.2.2.2.2.2.2.1 s.2.2.2.2.2.2.2.2.2.2.2.1 w) (fun k3 => .seq (.reg qN1) (.seq (.cond (.leaf) (.leaf)) (.seq (.block (.seq (.reg (.op 0 qpA (.op 1 (.rd (.one (.agg [.sl, .sl, .sl, .sl]))) (.op 2 (.wr (.one (.at .addr))) (.op 3 .wu (.done)))))) (.seq (.reg (.op 0 .now (.op 1 .now (.op 2 qrS (.op 3 .now (.op 4 qrS (.op 5 (.wr (.one qcS)) (.op 6 (.wr (.one qcS)) (.op 7 .now (.done)))))))))) (.reg (.op 0 .now (.op 1 .now (.op 2 qrS (.op 3 (.wr (.one qcS)) (.op 4 .now (.done)))))))))) (.reg qN2))))))) (.seq (.join [(5, qcP), (9, qcS), (11, .at .addr), (13, .at .addr), (15, qcS), (19, qcS), (20, qcS), (184, .at .bool)] (fun s w => q17McodeLists.j4 R s.1 s.2.1 s.2.2.1 s.2.2.2.1 s.2.2.2.2.1 s.2.2.2.2.2.1 s.2.2.2.2.2.2.1 s.2.2.2.2.2.2.2.1 w) (.reg (.op 0 .now (.op 1 (.cl (.one (.at .bool))) (.op 2 .now (.op 3 .now (.split 3 (.skip 4 (.skip 5 (.skip 6 (.op 7 .now (.done))))) (.op 4 .now (.op 5 (.cl (.one (.at .bool))) (.op 6 .now (.op 7 .now (.done))))))))))) (.cond (.seq (.reg qN1) (.leaf)) (.leaf))) (.seq (.seq (.reg qN1) (.block (.loop [(5, qcP), (9, qcS), (11, .at .addr), (13, .at .addr), (15, qcS), (19, qcS), (20, qcS), (25, qcI)] (fun k4 s w => q17McodeLists.b4 R k4 s.1 s.2.1 s.2.2.1 s.2.2.2.1 s.2.2.2.2.1 s.2.2.2.2.2.1 s.2.2.2.2.2.2.1 s.2.2.2.2.2.2.2.1 w) (fun k4 => .seq (.seq (.reg (.op 0 .now (.op 1 .now (.op 2 qrS (.op 3 .now (.op 4 .now (.done))))))) (.cond (.leaf) (.leaf))) (.seq (.block (.reg (.op 0 .now (.op 1 qrS (.op 2 .now (.op 3 qpA (.op 4 .wu (.done)))))))) (.reg qN3)))))) (.seq (.join [(5, qcP), (9, qcS), (15, qcS), (19, qcS), (20, qcS), (206, .at .bool)] (fun s w => q17McodeLists.j5 R s.1 s.2.1 s.2.2.1 s.2.2.2.1 s.2.2.2.2.1 s.2.2.2.2.2.1 w) (.reg (.op 0 .now (.op 1 qrS (.op 2 .now (.op 3 .now (.op 4 .now (.split 4 (.op 5 .now (.op 6 qrS (.op 7 qpA (.op 8 qrS (.op 9 (.pu (.one (.at .bool))) (.op 10 .now (.done))))))) (.skip 5 (.skip 6 (.skip 7 (.skip 8 (.skip 9 (.op 10 .now (.done)))))))))))))) (.cond (.seq (.reg qN1) (.leaf)) (.leaf))) (.seq (.reg (.op 0 .now (.op 1 .now (.op 2 (.cl (.tup [.agg [.sl, .sl, .sl, .sl], .at (.int .i64)])) (.op 3 .now (.op 4 .now (.op 5 .now (.op 6 (.wr (.one (.at .addr))) (.op 7 .wu (.op 8 .now (.done))))))))))) (.seq (.reg (.op 0 .now (.op 1 .now (.op 2 .now (.split 2 (.op 3 .now (.op 4 qrS (.op 5 .now (.op 6 (.cl (.one (.at .bool))) (.op 7 .now (.op 8 .now (.split 8 (.op 9 .now (.op 10 qrS (.op 11 .now (.op 12 (.cl (.one (.at .bool))) (.op 13 .now (.op 14 .now (.split 14 (.op 15 .now (.op 16 qrS (.op 17 .now (.op 18 (.cl (.one (.at .bool))) (.op 19 .now (.op 20 .now (.split 20 (.op 21 .now (.op 22 .now (.op 23 .now (.op 24 .now (.split 24 (.skip 25 (.skip 26 (.skip 27 (.skip 28 (.op 29 .now (.op 30 .now (.op 31 .now (.done)))))))) (.op 25 .now (.op 26 qpA (.op 27 (.rd (.one qcI)) (.op 28 .now (.op 29 .now (.op 30 .now (.op 31 .now (.done))))))))))))) (.skip 21 (.skip 22 (.skip 23 (.skip 24 (.skip 25 (.skip 26 (.skip 27 (.skip 28 (.skip 29 (.op 30 .now (.op 31 .now (.done))))))))))))))))))) (.skip 15 (.skip 16 (.skip 17 (.skip 18 (.op 19 .now (.op 20 .now (.skip 21 (.skip 22 (.skip 23 (.skip 24 (.skip 25 (.skip 26 (.skip 27 (.skip 28 (.skip 29 (.op 30 .now (.op 31 .now (.done))))))))))))))))))))))))) (.skip 9 (.skip 10 (.skip 11 (.skip 12 (.op 13 .now (.op 14 .now (.skip 15 (.skip 16 (.skip 17 (.skip 18 (.op 19 .now (.op 20 .now (.skip 21 (.skip 22 (.skip 23 (.skip 24 (.skip 25 (.skip 26 (.skip 27 (.skip 28 (.skip 29 (.op 30 .now (.op 31 .now (.done))))))))))))))))))))))))))))))) (.skip 3 (.skip 4 (.skip 5 (.skip 6 (.op 7 .now (.op 8 .now (.skip 9 (.skip 10 (.skip 11 (.skip 12 (.op 13 .now (.op 14 .now (.skip 15 (.skip 16 (.skip 17 (.skip 18 (.op 19 .now (.op 20 .now (.skip 21 (.skip 22 (.skip 23 (.skip 24 (.skip 25 (.skip 26 (.skip 27 (.skip 28 (.skip 29 (.op 30 .now (.op 31 .now (.done))))))))))))))))))))))))))))))))))) (.leaf))))))))))))))))))))))
theorem q17McodeLists.run (R : EPq) (v0 : (Int × Int × Int × Int × Unit)) (v1 : Sl) (w : World) (h : q17McodeLists.M R v0 v1 w) : Calls Tryz.prog 6 #[(.agg #[(.int .i64 v0.1), (.int .i64 v0.2.1), (.int .i64 v0.2.2.1), (.int .i64 v0.2.2.2.1)]), (.slice v1.base v1.len v1.cap)] w R := by
  refine aaZ mix_eqd Tryz.func6 (c := q17McodeLists.body) (by kernel_rfl) [.at .bool] (q17McodeLists.ann R) 244 Tryz.ntmps6 [.tmp 4] (by kernel_rfl) (Nat.le_of_ble_eq_true (by kernel_rfl)) ?_ ?_
  · exact ⟨tv, ⟨tv, ⟨⟨fun s w => mq, tv, ⟨⟨tv, tv⟩, tv⟩⟩, ⟨tv, ⟨tv, ⟨⟨tv, (fun k1 => ⟨fun s w => mq, ⟨⟨tv, ⟨tv, tv⟩⟩, ⟨fun s w => mq, ⟨tv, ⟨tv, tv⟩⟩, tv⟩⟩⟩)⟩, ⟨tv, ⟨tv, ⟨tv, ⟨⟨tv, (fun k2 => ⟨fun s w => mq, ⟨⟨tv, ⟨tv, tv⟩⟩, ⟨tv, tv⟩⟩⟩)⟩, ⟨tv, ⟨⟨fun s w => mq, tv, ⟨⟨tv, tv⟩, tv⟩⟩, ⟨tv, ⟨tv, ⟨tv, ⟨tv, ⟨⟨tv, (fun k3 => ⟨fun s w => mq, ⟨tv, ⟨⟨tv, tv⟩, ⟨⟨tv, ⟨tv, tv⟩⟩, tv⟩⟩⟩⟩)⟩, ⟨⟨fun s w => mq, tv, ⟨⟨tv, tv⟩, tv⟩⟩, ⟨⟨tv, (fun k4 => ⟨fun s w => mq, ⟨⟨tv, ⟨tv, tv⟩⟩, ⟨tv, tv⟩⟩⟩)⟩, ⟨⟨fun s w => mq, tv, ⟨⟨tv, tv⟩, tv⟩⟩, ⟨tv, ⟨tv, tv⟩⟩⟩⟩⟩⟩⟩⟩⟩⟩⟩⟩⟩⟩⟩⟩⟩⟩⟩⟩⟩⟩
  · exact Eq.mp (show q17McodeLists.M R v0 v1 w = _ by kernel_rfl) h
noncomputable def q17made.body : Code := (Tryz.f10.body).getD .skip
def q17made.j1 (R : EPq)  (v5 : Int) (v6 : Int) (v7 : (Option Addr)) (v8 : Int) (w : World) : Prop :=
  Cd (v8 != 0) (R (.returned (.tuple #[(.pointer none), (.int .i64 v5), (.int .i64 v6)])) w) (R (.returned (.tuple #[(.pointer v7), (.int .i64 v5), (.int .i64 v6)])) w)
def q17made.M (R : EPq) (v0 : (Int × Int × Int × Int × Unit)) (w : World) : Prop :=
  Wr Tryz.prog (Instr.box 23 (.agg #[(.int .i64 v0.1), (.int .i64 v0.2.1), (.int .i64 v0.2.2.1), (.int .i64 v0.2.2.2.1)])) (.one (.at .addr)) (fun (x1 : Addr) w2 =>
  Rd Tryz.prog (Instr.loadAt 3 (.pointer (some (Addr.add x1 2)))) (.one (.at (.int .i64))) (fun (x3 : Int) w4 =>
  Cl Tryz.prog 16 #[(.int .i64 x3), (.int .i64 1), (.int .i64 20)] (.one (.at (.int .i64))) (fun (x5 : Int) w6 =>
  Rd Tryz.prog (Instr.loadAt 3 (.pointer (some (Addr.add x1 3)))) (.one (.at (.int .i64))) (fun (x7 : Int) w8 =>
  Cl Tryz.prog 16 #[(.int .i64 x7), (.int .i64 1), (.int .i64 12)] (.one (.at (.int .i64))) (fun (x9 : Int) w10 =>
  Held w10.drew (fun S11 => RdS Tryz.prog S11 (Instr.loadAt 3 (.pointer (some x1))) (.one (.at (.int .i64))) (fun (x12 : Int) w13 =>
  RdS Tryz.prog S11 (Instr.loadAt 3 (.pointer (some (Addr.add x1 1)))) (.one (.at (.int .i64))) (fun (x14 : Int) w15 =>
  Cl Tryz.prog 16 #[(.int .i64 x12), (.int .i64 0), (.int .i64 1)] (.one (.at (.int .i64))) (fun (x16 : Int) w17 =>
  S11 w17 ∧ (Cl Tryz.prog 16 #[(.int .i64 x14), (.int .i64 0), (.int .i64 2)] (.one (.at (.int .i64))) (fun (x18 : Int) w19 =>
  S11 w19 ∧ (Cl Tryz.prog 32 #[(.int .i64 x16), (.int .i64 x18), (.int .i64 x5), (.int .i64 x9)] (.tup [.at .ptr, .at (.int .i64)]) (fun x20 w21 =>
  S11 w21 ∧ (q17made.j1 R x5 x9 x20.1 x20.2.1 w21)) w19)) w17)) w15) w13) w10.drew)) w8) w6) w4) w2) w
noncomputable def q17made.ann (R : EPq) : Ann :=
  .seq (.reg (.op 0 (.wr (.one (.at .addr))) (.op 1 .now (.op 2 .now (.op 3 .now (.done)))))) (.seq (.reg (.op 0 .now (.op 1 (.rd (.one qcI)) (.op 2 (.cl (.one qcI)) (.op 3 .now (.done)))))) (.seq (.reg (.op 0 .now (.op 1 (.rd (.one qcI)) (.op 2 (.cl (.one qcI)) (.op 3 .now (.done)))))) (.join [(5, qcI), (6, qcI), (7, qcP), (8, qcI)] (fun s w => q17made.j1 R s.1 s.2.1 s.2.2.1 s.2.2.2.1 w) (.regD (.op 0 .now (.op 1 (.rd (.one qcI)) (.op 3 .now (.op 4 (.rd (.one qcI)) (.op 6 .now (.op 7 .now (.op 2 (.cl (.one qcI)) (.op 5 (.cl (.one qcI)) (.op 8 (.cl (.tup [.at .ptr, .at (.int .i64)])) (.op 9 .now (.op 10 .now (.op 11 .now (.op 12 .now (.op 13 .now (.done)))))))))))))))) (.seq (.seq (.reg qN2) (.cond (.seq (.reg qN5) (.leaf)) (.leaf))) (.seq (.reg qN6) (.leaf))))))
theorem q17made.run (R : EPq) (v0 : (Int × Int × Int × Int × Unit)) (w : World) (h : q17made.M R v0 w) : Calls Tryz.prog 10 #[(.agg #[(.int .i64 v0.1), (.int .i64 v0.2.1), (.int .i64 v0.2.2.1), (.int .i64 v0.2.2.2.1)])] w R := by
  refine aaZ mix_eqd Tryz.func10 (c := q17made.body) (by kernel_rfl) [.at .ptr, .at (.int .i64), .at (.int .i64)] (q17made.ann R) 34 Tryz.ntmps10 [.tmp 2, .tmp 3, .tmp 4] (by kernel_rfl) (Nat.le_of_ble_eq_true (by kernel_rfl)) ?_ ?_
  · exact ⟨tv, ⟨tv, ⟨tv, ⟨fun s w => mq, (show Region.noSelect _ = true by kernel_rfl), ⟨⟨tv, ⟨⟨tv, tv⟩, tv⟩⟩, ⟨tv, tv⟩⟩⟩⟩⟩⟩
  · exact Eq.mp (show q17made.M R v0 w = _ by kernel_rfl) h
noncomputable def q17awake.body : Code := (Tryz.f11.body).getD .skip
def q17awake.j4 (R : EPq)  (v1 : (Option Addr)) (v3 : Sl) (t63 : Bool) (w : World) : Prop :=
  Cd t63 (R (.returned (.bool false)) w) (Wr Tryz.prog (Instr.buildSlice 24 0 #[]) (.one (.at .sl)) (fun (x16 : Sl) w17 =>
  Wr Tryz.prog (Instr.buildSlice 24 2 #[(0, (.int .u8 6)), (1, (.int .u8 1))]) (.one (.at .sl)) (fun (x18 : Sl) w19 =>
  Wr Tryz.prog (Instr.buildSlice 30 2 #[(0, (.slice x16.base x16.len x16.cap)), (1, (.slice x18.base x18.len x18.cap))]) (.one (.at .sl)) (fun (x20 : Sl) w21 =>
  Cl Tryz.prog 19 #[(.pointer v1), (.slice v3.base v3.len v3.cap), (.slice x20.base x20.len x20.cap)] (.one (.at (.int .i64))) (fun (x22 : Int) w23 =>
  Cd (x22 != 0) (R (.returned (.bool false)) w23) (Wr Tryz.prog (Instr.buildSlice 24 2 #[(0, (.int .u8 5)), (1, (.int .u8 0))]) (.one (.at .sl)) (fun (x24 : Sl) w25 =>
  Wr Tryz.prog (Instr.buildSlice 24 2 #[(0, (.int .u8 7)), (1, (.int .u8 1))]) (.one (.at .sl)) (fun (x26 : Sl) w27 =>
  Wr Tryz.prog (Instr.buildSlice 24 2 #[(0, (.int .u8 3)), (1, (.int .u8 2))]) (.one (.at .sl)) (fun (x28 : Sl) w29 =>
  Wr Tryz.prog (Instr.buildSlice 30 3 #[(0, (.slice x24.base x24.len x24.cap)), (1, (.slice x26.base x26.len x26.cap)), (2, (.slice x28.base x28.len x28.cap))]) (.one (.at .sl)) (fun (x30 : Sl) w31 =>
  Cl Tryz.prog 20 #[(.slice v3.base v3.len v3.cap), (.slice x30.base x30.len x30.cap)] (.one (.at .bool)) (fun (x32 : Bool) w33 =>
  R (.returned (.bool x32)) w33) w31) w29) w27) w25) w23)) w21) w19) w17) w)
def q17awake.j3 (R : EPq)  (v1 : (Option Addr)) (v3 : Sl) (t43 : Bool) (w : World) : Prop :=
  Cd t43 (R (.returned (.bool false)) w) (Pu Tryz.prog (Instr.indexAt 30 (.slice v3.base v3.len v3.cap) (.int .i64 0)) (.one (.at .addr)) (fun (x13 : Addr) w14 =>
  Wu Tryz.prog (Instr.storeAt 24 (.pointer (some x13)) (.slice none 0 0)) (fun w15 =>
  Cl Tryz.prog 21 #[(.pointer v1), (.slice v3.base v3.len v3.cap)] (.one (.at (.int .i64))) (fun (x34 : Int) w35 =>
  Cd (x34 != 0) (q17awake.j4 R v1 v3 true w35) (Wr Tryz.prog (Instr.buildSlice 24 2 #[(0, (.int .u8 5)), (1, (.int .u8 0))]) (.one (.at .sl)) (fun (x36 : Sl) w37 =>
  Wr Tryz.prog (Instr.buildSlice 24 2 #[(0, (.int .u8 7)), (1, (.int .u8 1))]) (.one (.at .sl)) (fun (x38 : Sl) w39 =>
  Wr Tryz.prog (Instr.buildSlice 24 2 #[(0, (.int .u8 1)), (1, (.int .u8 2))]) (.one (.at .sl)) (fun (x40 : Sl) w41 =>
  Wr Tryz.prog (Instr.buildSlice 30 3 #[(0, (.slice x36.base x36.len x36.cap)), (1, (.slice x38.base x38.len x38.cap)), (2, (.slice x40.base x40.len x40.cap))]) (.one (.at .sl)) (fun (x42 : Sl) w43 =>
  Cl Tryz.prog 20 #[(.slice v3.base v3.len v3.cap), (.slice x42.base x42.len x42.cap)] (.one (.at .bool)) (fun (x44 : Bool) w45 =>
  Cd (!x44) (q17awake.j4 R v1 v3 true w45) (Cl Tryz.prog 33 #[(.pointer v1)] (.one (.at (.int .i64))) (fun (x46 : Int) w47 =>
  q17awake.j4 R v1 v3 (x46 != 1) w47) w45)) w43) w41) w39) w37) w35)) w15) w14) w)
def q17awake.j2 (R : EPq)  (v1 : (Option Addr)) (v3 : Sl) (t31 : Bool) (w : World) : Prop :=
  Cd t31 (R (.returned (.bool false)) w) (Cl Tryz.prog 14 #[(.pointer v1), (.slice v3.base v3.len v3.cap)] (.tup [.at .bool, .at (.int .i64)]) (fun x11 w12 =>
  Cd (!x11.1) (q17awake.j3 R v1 v3 true w12) (q17awake.j3 R v1 v3 (x11.2.1 != 0) w12)) w)
def q17awake.j1 (R : EPq)  (v1 : (Option Addr)) (t14 : Bool) (w : World) : Prop :=
  Cd t14 (R (.returned (.bool false)) w) (Wr Tryz.prog (Instr.buildSlice 24 2 #[(0, (.int .u8 5)), (1, (.int .u8 0))]) (.one (.at .sl)) (fun (x3 : Sl) w4 =>
  Wr Tryz.prog (Instr.buildSlice 24 2 #[(0, (.int .u8 7)), (1, (.int .u8 1))]) (.one (.at .sl)) (fun (x5 : Sl) w6 =>
  Wr Tryz.prog (Instr.buildSlice 24 2 #[(0, (.int .u8 0)), (1, (.int .u8 0))]) (.one (.at .sl)) (fun (x7 : Sl) w8 =>
  Wr Tryz.prog (Instr.buildSlice 30 3 #[(0, (.slice x3.base x3.len x3.cap)), (1, (.slice x5.base x5.len x5.cap)), (2, (.slice x7.base x7.len x7.cap))]) (.one (.at .sl)) (fun (x9 : Sl) w10 =>
  Cl Tryz.prog 13 #[(.pointer v1), (.slice x9.base x9.len x9.cap)] (.one (.at (.int .i64))) (fun (x48 : Int) w49 =>
  Cd (x48 != 0) (q17awake.j2 R v1 x9 true w49) (Wr Tryz.prog (Instr.buildSlice 24 2 #[(0, (.int .u8 5)), (1, (.int .u8 0))]) (.one (.at .sl)) (fun (x50 : Sl) w51 =>
  Wr Tryz.prog (Instr.buildSlice 24 2 #[(0, (.int .u8 7)), (1, (.int .u8 1))]) (.one (.at .sl)) (fun (x52 : Sl) w53 =>
  Wr Tryz.prog (Instr.buildSlice 24 2 #[(0, (.int .u8 1)), (1, (.int .u8 2))]) (.one (.at .sl)) (fun (x54 : Sl) w55 =>
  Wr Tryz.prog (Instr.buildSlice 30 3 #[(0, (.slice x50.base x50.len x50.cap)), (1, (.slice x52.base x52.len x52.cap)), (2, (.slice x54.base x54.len x54.cap))]) (.one (.at .sl)) (fun (x56 : Sl) w57 =>
  Cl Tryz.prog 20 #[(.slice x9.base x9.len x9.cap), (.slice x56.base x56.len x56.cap)] (.one (.at .bool)) (fun (x58 : Bool) w59 =>
  q17awake.j2 R v1 x9 (!x58) w59) w57) w55) w53) w51) w49)) w10) w8) w6) w4) w)
def q17awake.M (R : EPq)  (w : World) : Prop :=
  Cl Tryz.prog 32 #[(.int .i64 0), (.int .i64 0), (.int .i64 2), (.int .i64 1)] (.tup [.at .ptr, .at (.int .i64)]) (fun x1 w2 =>
  Cd (x1.2.1 != 0) (q17awake.j1 R x1.1 true w2) (Pu Tryz.prog (do eqGuard .eql 26 (.tmp 12) (.const (.pointer none)) (.pointer x1.1) (.pointer none); binOp .eql 26 (.pointer x1.1) (.pointer none)) (.one (.at .bool)) (fun (x60 : Bool) w61 =>
  q17awake.j1 R x1.1 x60 w61) w2)) w
noncomputable def q17awake.ann (R : EPq) : Ann :=
  .seq (.reg qN1) (.seq (.reg (.op 0 (.cl (.tup [.at .ptr, .at (.int .i64)])) (.op 1 .now (.op 2 .now (.op 3 .now (.op 4 .now (.op 5 .now (.done)))))))) (.seq (.join [(1, qcP), (14, .at .bool)] (fun s w => q17awake.j1 R s.1 s.2.1 w) (.reg (.op 0 .now (.op 1 .now (.op 2 .now (.split 2 (.skip 3 (.skip 4 (.op 5 .now (.done)))) (.op 3 .now (.op 4 (.pu (.one (.at .bool))) (.op 5 .now (.done))))))))) (.cond (.seq (.reg qN1) (.leaf)) (.leaf))) (.seq (.reg (.op 0 (.wr (.one qcS)) (.op 1 (.wr (.one qcS)) (.op 2 (.wr (.one qcS)) (.op 3 (.wr (.one qcS)) (.op 4 .now (.done))))))) (.seq (.join [(1, qcP), (3, qcS), (31, .at .bool)] (fun s w => q17awake.j2 R s.1 s.2.1 s.2.2.1 w) (.reg (.op 0 .now (.op 1 .now (.op 2 (.cl (.one qcI)) (.op 3 .now (.op 4 .now (.split 4 (.skip 5 (.skip 6 (.skip 7 (.skip 8 (.skip 9 (.skip 10 (.skip 11 (.op 12 .now (.done))))))))) (.op 5 .now (.op 6 (.wr (.one qcS)) (.op 7 (.wr (.one qcS)) (.op 8 (.wr (.one qcS)) (.op 9 (.wr (.one qcS)) (.op 10 (.cl (.one (.at .bool))) (.op 11 .now (.op 12 .now (.done)))))))))))))))) (.cond (.seq (.reg qN1) (.leaf)) (.leaf))) (.seq (.reg (.op 0 .now (.op 1 .now (.op 2 (.cl (.tup [.at .bool, .at (.int .i64)])) (.op 3 .now (.op 4 .now (.op 5 .now (.op 6 .now (.op 7 .now (.done)))))))))) (.seq (.join [(1, qcP), (3, qcS), (43, .at .bool)] (fun s w => q17awake.j3 R s.1 s.2.1 s.2.2.1 w) (.reg (.op 0 .now (.op 1 .now (.op 2 .now (.split 2 (.skip 3 (.skip 4 (.op 5 .now (.done)))) (.op 3 .now (.op 4 .now (.op 5 .now (.done))))))))) (.cond (.seq (.reg qN1) (.leaf)) (.leaf))) (.seq (.reg (.op 0 .now (.op 1 qpA (.op 2 .wu (.done))))) (.seq (.join [(1, qcP), (3, qcS), (63, .at .bool)] (fun s w => q17awake.j4 R s.1 s.2.1 s.2.2.1 w) (.reg (.op 0 .now (.op 1 .now (.op 2 (.cl (.one qcI)) (.op 3 .now (.op 4 .now (.split 4 (.skip 5 (.skip 6 (.skip 7 (.skip 8 (.skip 9 (.skip 10 (.skip 11 (.op 12 .now (.op 13 .now (.skip 14 (.skip 15 (.skip 16 (.op 17 .now (.done)))))))))))))) (.op 5 .now (.op 6 (.wr (.one qcS)) (.op 7 (.wr (.one qcS)) (.op 8 (.wr (.one qcS)) (.op 9 (.wr (.one qcS)) (.op 10 (.cl (.one (.at .bool))) (.op 11 .now (.op 12 .now (.op 13 .now (.split 13 (.skip 14 (.skip 15 (.skip 16 (.op 17 .now (.done))))) (.op 14 .now (.op 15 (.cl (.one qcI)) (.op 16 .now (.op 17 .now (.done)))))))))))))))))))))) (.cond (.seq (.reg qN1) (.leaf)) (.leaf))) (.seq (.seq (.reg (.op 0 .now (.op 1 .now (.op 2 (.wr (.one qcS)) (.op 3 (.wr (.one qcS)) (.op 4 (.wr (.one qcS)) (.op 5 (.cl (.one qcI)) (.op 6 .now (.done))))))))) (.cond (.seq (.reg qN1) (.leaf)) (.leaf))) (.seq (.reg (.op 0 .now (.op 1 (.wr (.one qcS)) (.op 2 (.wr (.one qcS)) (.op 3 (.wr (.one qcS)) (.op 4 (.wr (.one qcS)) (.op 5 (.cl (.one (.at .bool))) (.op 6 .now (.done))))))))) (.leaf)))))))))))
theorem q17awake.run (R : EPq)  (w : World) (h : q17awake.M R  w) : Calls Tryz.prog 11 #[] w R := by
  refine aaZ mix_eqd Tryz.func11 (c := q17awake.body) (by kernel_rfl) [.at .bool] (q17awake.ann R) 77 Tryz.ntmps11 [.tmp 0] (by kernel_rfl) (Nat.le_of_ble_eq_true (by kernel_rfl)) ?_ ?_
  · exact ⟨tv, ⟨tv, ⟨⟨fun s w => mq, tv, ⟨⟨tv, tv⟩, tv⟩⟩, ⟨tv, ⟨⟨fun s w => mq, tv, ⟨⟨tv, tv⟩, tv⟩⟩, ⟨tv, ⟨⟨fun s w => mq, tv, ⟨⟨tv, tv⟩, tv⟩⟩, ⟨tv, ⟨⟨fun s w => mq, tv, ⟨⟨tv, tv⟩, tv⟩⟩, ⟨⟨tv, ⟨⟨tv, tv⟩, tv⟩⟩, ⟨tv, tv⟩⟩⟩⟩⟩⟩⟩⟩⟩⟩⟩
  · exact Eq.mp (show q17awake.M R  w = _ by kernel_rfl) h
noncomputable def q17pick.body : Code := (Tryz.f15.body).getD .skip
def q17pick.b2 (R : EPq) (k1 : (Int × Int × Sl × Sl × Int × Unit) → WPq) (k2 : (Int × Int × Sl × Sl × Int × Int × Unit) → WPq) (v0 : Int) (v1 : Int) (v2 : Sl) (v7 : Sl) (v8 : Int) (v10 : Int) (w : World) : Prop :=
  Pu Tryz.prog (Instr.indexAt 36 (.slice v7.base v7.len v7.cap) (.int .i64 v10)) (.one (.at .addr)) (fun (x5 : Addr) w6 =>
  Rd Tryz.prog (Instr.loadAt 4 (.pointer (some x5))) (.one (.at .bool)) (fun (x7 : Bool) w8 =>
  Cd x7 (Pu Tryz.prog (do eqGuard .rem 3 (.tmp 36) (.tmp 37) (.int .i64 (IntKind.wrap .i64 (v10 + 1))) (.int .i64 v0); binOp .rem 3 (.int .i64 (IntKind.wrap .i64 (v10 + 1))) (.int .i64 v0)) (.one (.at (.int .i64))) (fun (x9 : Int) w10 =>
  k2 (v0, v1, v2, v7, v8, x9, ()) w10) w8) (Pu Tryz.prog (Instr.indexAt 36 (.slice v7.base v7.len v7.cap) (.int .i64 v10)) (.one (.at .addr)) (fun (x11 : Addr) w12 =>
  Wu Tryz.prog (Instr.storeAt 4 (.pointer (some x11)) (.bool true)) (fun w13 =>
  k1 (v0, v1, v2, v7, (IntKind.wrap .i64 (v8 + 1)), ()) w13) w12) w8)) w6) w
def q17pick.l2 (R : EPq) (k1 : (Int × Int × Sl × Sl × Int × Unit) → WPq) : (Int × Int × Sl × Sl × Int × Int × Unit) → World → Prop := aoZ (fun k2 s w => q17pick.b2 R k1 k2 s.1 s.2.1 s.2.2.1 s.2.2.2.1 s.2.2.2.2.1 s.2.2.2.2.2.1 w)
def q17pick.j1 (R : EPq)  (k1 : (Int × Int × Sl × Sl × Int × Unit) → WPq) (v0 : Int) (v1 : Int) (v2 : Sl) (v7 : Sl) (v8 : Int) (v9 : Int) (w : World) : Prop :=
  Cl Tryz.prog 16 #[(.int .i64 v9), (.int .i64 0), (.int .i64 (IntKind.wrap .i64 (v0 - 1)))] (.one (.at (.int .i64))) (fun (x3 : Int) w4 =>
  q17pick.l2 R k1 (v0, v1, v2, v7, v8, x3, ()) w4) w
def q17pick.b1 (R : EPq) (k1 : (Int × Int × Sl × Sl × Int × Unit) → WPq) (v0 : Int) (v1 : Int) (v2 : Sl) (v7 : Sl) (v8 : Int) (w : World) : Prop :=
  Cd (decide (v8 < v1)) (Cd (decide (v8 < ((v2.len : Nat) : Int))) (Pu Tryz.prog (Instr.indexAt 25 (.slice v2.base v2.len v2.cap) (.int .i64 v8)) (.one (.at .addr)) (fun (x14 : Addr) w15 =>
  Rd Tryz.prog (Instr.loadAt 3 (.pointer (some x14))) (.one (.at (.int .i64))) (fun (x16 : Int) w17 =>
  q17pick.j1 R k1 v0 v1 v2 v7 v8 x16 w17) w15) w) (q17pick.j1 R k1 v0 v1 v2 v7 v8 v8 w)) (R (.returned (.slice v7.base v7.len v7.cap)) w)
def q17pick.l1 (R : EPq) : (Int × Int × Sl × Sl × Int × Unit) → World → Prop := aoZ (fun k1 s w => q17pick.b1 R k1 s.1 s.2.1 s.2.2.1 s.2.2.2.1 s.2.2.2.2.1 w)
def q17pick.M (R : EPq) (v0 : Int) (v1 : Int) (v2 : Sl) (w : World) : Prop :=
  Wr Tryz.prog (Instr.makeSlice 36 (.int .i64 v0) (.int .i64 v0)) (.one (.at .sl)) (fun (x1 : Sl) w2 =>
  q17pick.l1 R (v0, v1, v2, x1, 0, ()) w2) w
noncomputable def q17pick.ann (R : EPq) : Ann :=
  .seq (.reg qN1) (.seq (.reg (.op 0 .now (.op 1 (.wr (.one qcS)) (.op 2 .now (.done))))) (.seq (.seq (.reg qN1) (.block (.loop [(0, qcI), (1, qcI), (2, qcS), (7, qcS), (8, qcI)] (fun k1 s w => q17pick.b1 R k1 s.1 s.2.1 s.2.2.1 s.2.2.2.1 s.2.2.2.2.1 w) (fun k1 => .seq (.seq (.reg qN3) (.cond (.leaf) (.leaf))) (.seq (.block (.seq (.reg qN2) (.join [(0, qcI), (1, qcI), (2, qcS), (7, qcS), (8, qcI), (9, qcI)] (fun s w => q17pick.j1 R k1 s.1 s.2.1 s.2.2.1 s.2.2.2.1 s.2.2.2.2.1 s.2.2.2.2.2.1 w) (.seq (.reg qN4) (.cond (.reg (.op 0 .now (.op 1 .now (.op 2 qpA (.op 3 (.rd (.one qcI)) (.op 4 .now (.done))))))) (.leaf))) (.seq (.reg (.op 0 .now (.op 1 .now (.op 2 .now (.op 3 (.cl (.one qcI)) (.op 4 .now (.done))))))) (.seq (.block (.loop [(0, qcI), (1, qcI), (2, qcS), (7, qcS), (8, qcI), (10, qcI)] (fun k2 s w => q17pick.b2 R k1 k2 s.1 s.2.1 s.2.2.1 s.2.2.2.1 s.2.2.2.2.1 s.2.2.2.2.2.1 w) (fun k2 => .seq (.seq (.reg (.op 0 .now (.op 1 .now (.op 2 qpA (.op 3 (.rd (.one (.at .bool))) (.done)))))) (.cond (.leaf) (.leaf))) (.block (.reg (.op 0 .now (.op 1 .now (.op 2 .now (.op 3 (.pu (.one qcI)) (.op 4 .now (.done))))))))))) (.reg (.op 0 .now (.op 1 .now (.op 2 qpA (.op 3 .wu (.done))))))))))) (.reg qN3)))))) (.seq (.reg qN2) (.leaf))))
theorem q17pick.run (R : EPq) (v0 : Int) (v1 : Int) (v2 : Sl) (w : World) (h : q17pick.M R v0 v1 v2 w) : Calls Tryz.prog 15 #[(.int .i64 v0), (.int .i64 v1), (.slice v2.base v2.len v2.cap)] w R := by
  refine aaZ mix_eqd Tryz.func15 (c := q17pick.body) (by kernel_rfl) [.at .sl] (q17pick.ann R) 43 Tryz.ntmps15 [.tmp 6] (by kernel_rfl) (Nat.le_of_ble_eq_true (by kernel_rfl)) ?_ ?_
  · exact ⟨tv, ⟨tv, ⟨⟨tv, (fun k1 => ⟨fun s w => mq, ⟨⟨tv, ⟨tv, tv⟩⟩, ⟨⟨tv, ⟨fun s w => mq, ⟨tv, ⟨tv, tv⟩⟩, ⟨tv, ⟨(fun k2 => ⟨fun s w => mq, ⟨⟨tv, ⟨tv, tv⟩⟩, tv⟩⟩), tv⟩⟩⟩⟩, tv⟩⟩⟩)⟩, ⟨tv, tv⟩⟩⟩⟩
  · exact Eq.mp (show q17pick.M R v0 v1 v2 w = _ by kernel_rfl) h
noncomputable def q17into.body : Code := (Tryz.f16.body).getD .skip
def q17into.M (R : EPq) (v0 : Int) (v1 : Int) (v2 : Int) (w : World) : Prop :=
  Pu Tryz.prog (do eqGuard .rem 3 (.tmp 13) (.tmp 14) (.int .i64 v0) (.int .i64 (IntKind.wrap .i64 ((IntKind.wrap .i64 (v2 - v1)) + 1))); binOp .rem 3 (.int .i64 v0) (.int .i64 (IntKind.wrap .i64 ((IntKind.wrap .i64 (v2 - v1)) + 1)))) (.one (.at (.int .i64))) (fun (x1 : Int) w2 =>
  Pu Tryz.prog (do eqGuard .rem 3 (.tmp 17) (.tmp 18) (.int .i64 (IntKind.wrap .i64 (x1 + (IntKind.wrap .i64 ((IntKind.wrap .i64 (v2 - v1)) + 1))))) (.int .i64 (IntKind.wrap .i64 ((IntKind.wrap .i64 (v2 - v1)) + 1))); binOp .rem 3 (.int .i64 (IntKind.wrap .i64 (x1 + (IntKind.wrap .i64 ((IntKind.wrap .i64 (v2 - v1)) + 1))))) (.int .i64 (IntKind.wrap .i64 ((IntKind.wrap .i64 (v2 - v1)) + 1)))) (.one (.at (.int .i64))) (fun (x3 : Int) w4 =>
  R (.returned (.int .i64 (IntKind.wrap .i64 (v1 + x3)))) w4) w2) w
noncomputable def q17into.ann (R : EPq) : Ann :=
  .seq (.reg qN1) (.seq (.reg qN5) (.seq (.reg (.op 0 .now (.op 1 .now (.op 2 .now (.op 3 (.pu (.one qcI)) (.op 4 .now (.op 5 .now (.op 6 .now (.op 7 (.pu (.one qcI)) (.op 8 .now (.op 9 .now (.done)))))))))))) (.leaf)))
theorem q17into.run (R : EPq) (v0 : Int) (v1 : Int) (v2 : Int) (w : World) (h : q17into.M R v0 v1 v2 w) : Calls Tryz.prog 16 #[(.int .i64 v0), (.int .i64 v1), (.int .i64 v2)] w R := by
  refine aaZ mix_eqd Tryz.func16 (c := q17into.body) (by kernel_rfl) [.at (.int .i64)] (q17into.ann R) 21 Tryz.ntmps16 [.tmp 6] (by kernel_rfl) (Nat.le_of_ble_eq_true (by kernel_rfl)) ?_ ?_
  · exact ⟨tv, ⟨tv, ⟨tv, tv⟩⟩⟩
  · exact Eq.mp (show q17into.M R v0 v1 v2 w = _ by kernel_rfl) h
noncomputable def q17copied.body : Code := (Tryz.f18.body).getD .skip
def q17copied.b1 (R : EPq) (k1 : (Sl × Sl × Int × Unit) → WPq) (v0 : Sl) (v3 : Sl) (v4 : Int) (w : World) : Prop :=
  Cd (decide (v4 < ((v0.len : Nat) : Int))) (Wr Tryz.prog (Instr.buildSlice 24 0 #[]) (.one (.at .sl)) (fun (x3 : Sl) w4 =>
  Pu Tryz.prog (Instr.indexAt 30 (.slice v0.base v0.len v0.cap) (.int .i64 v4)) (.one (.at .addr)) (fun (x5 : Addr) w6 =>
  Rd Tryz.prog (Instr.loadAt 24 (.pointer (some x5))) (.one (.at .sl)) (fun (x7 : Sl) w8 =>
  Wr Tryz.prog (Builtin.append_ #[24, 24] 24 #[(.slice x3.base x3.len x3.cap), (.slice x7.base x7.len x7.cap)]) (.one (.at .sl)) (fun (x9 : Sl) w10 =>
  Pu Tryz.prog (Instr.indexAt 30 (.slice v3.base v3.len v3.cap) (.int .i64 v4)) (.one (.at .addr)) (fun (x11 : Addr) w12 =>
  Wu Tryz.prog (Instr.storeAt 24 (.pointer (some x11)) (.slice x9.base x9.len x9.cap)) (fun w13 =>
  k1 (v0, v3, (IntKind.wrap .i64 (v4 + 1)), ()) w13) w12) w10) w8) w6) w4) w) (R (.returned (.slice v3.base v3.len v3.cap)) w)
def q17copied.l1 (R : EPq) : (Sl × Sl × Int × Unit) → World → Prop := aoZ (fun k1 s w => q17copied.b1 R k1 s.1 s.2.1 s.2.2.1 w)
def q17copied.M (R : EPq) (v0 : Sl) (w : World) : Prop :=
  Wr Tryz.prog (Instr.makeSlice 30 (.int .i64 ((v0.len : Nat) : Int)) (.int .i64 ((v0.len : Nat) : Int))) (.one (.at .sl)) (fun (x1 : Sl) w2 =>
  q17copied.l1 R (v0, x1, 0, ()) w2) w
noncomputable def q17copied.ann (R : EPq) : Ann :=
  .seq (.reg qN1) (.seq (.reg (.op 0 .now (.op 1 .now (.op 2 (.wr (.one qcS)) (.op 3 .now (.done)))))) (.seq (.seq (.reg qN1) (.block (.loop [(0, qcS), (3, qcS), (4, qcI)] (fun k1 s w => q17copied.b1 R k1 s.1 s.2.1 s.2.2.1 w) (fun k1 => .seq (.seq (.reg qN4) (.cond (.leaf) (.leaf))) (.seq (.block (.reg (.op 0 .now (.op 1 .now (.op 2 (.wr (.one qcS)) (.op 3 .now (.op 4 .now (.op 5 qpA (.op 6 qrS (.op 7 (.wr (.one qcS)) (.op 8 qpA (.op 9 .wu (.done))))))))))))) (.reg qN3)))))) (.seq (.reg qN2) (.leaf))))
theorem q17copied.run (R : EPq) (v0 : Sl) (w : World) (h : q17copied.M R v0 w) : Calls Tryz.prog 18 #[(.slice v0.base v0.len v0.cap)] w R := by
  refine aaZ mix_eqd Tryz.func18 (c := q17copied.body) (by kernel_rfl) [.at .sl] (q17copied.ann R) 24 Tryz.ntmps18 [.tmp 2] (by kernel_rfl) (Nat.le_of_ble_eq_true (by kernel_rfl)) ?_ ?_
  · exact ⟨tv, ⟨tv, ⟨⟨tv, (fun k1 => ⟨fun s w => mq, ⟨⟨tv, ⟨tv, tv⟩⟩, ⟨tv, tv⟩⟩⟩)⟩, ⟨tv, tv⟩⟩⟩⟩
  · exact Eq.mp (show q17copied.M R v0 w = _ by kernel_rfl) h
noncomputable def q17alike.body : Code := (Tryz.f20.body).getD .skip
def q17alike.b1 (R : EPq) (k1 : (Sl × Sl × Int × Unit) → WPq) (v0 : Sl) (v1 : Sl) (v5 : Int) (w : World) : Prop :=
  Cd (decide (v5 < ((v0.len : Nat) : Int))) (Held w.drew (fun S1 => Pu Tryz.prog (Instr.indexAt 30 (.slice v0.base v0.len v0.cap) (.int .i64 v5)) (.one (.at .addr)) (fun (x2 : Addr) w3 =>
  RdS Tryz.prog S1 (Instr.loadAt 24 (.pointer (some x2))) (.one (.at .sl)) (fun (x4 : Sl) w5 =>
  Pu Tryz.prog (Instr.indexAt 30 (.slice v1.base v1.len v1.cap) (.int .i64 v5)) (.one (.at .addr)) (fun (x6 : Addr) w7 =>
  RdS Tryz.prog S1 (Instr.loadAt 24 (.pointer (some x6))) (.one (.at .sl)) (fun (x8 : Sl) w9 =>
  Cl Tryz.prog 38 #[(.slice x4.base x4.len x4.cap), (.slice x8.base x8.len x8.cap)] (.one (.at .bool)) (fun (x10 : Bool) w11 =>
  S1 w11 ∧ (Cd (!x10) (R (.returned (.bool false)) w11) (k1 (v0, v1, (IntKind.wrap .i64 (v5 + 1)), ()) w11))) w9) w7) w5) w3) w.drew)) (R (.returned (.bool true)) w)
def q17alike.l1 (R : EPq) : (Sl × Sl × Int × Unit) → World → Prop := aoZ (fun k1 s w => q17alike.b1 R k1 s.1 s.2.1 s.2.2.1 w)
def q17alike.M (R : EPq) (v0 : Sl) (v1 : Sl) (w : World) : Prop :=
  Cd (((v0.len : Nat) : Int) != ((v1.len : Nat) : Int)) (R (.returned (.bool false)) w) (q17alike.l1 R (v0, v1, 0, ()) w)
noncomputable def q17alike.ann (R : EPq) : Ann :=
  .seq (.reg qN1) (.seq (.seq (.reg qN5) (.cond (.seq (.reg qN1) (.leaf)) (.leaf))) (.seq (.seq (.reg qN1) (.block (.loop [(0, qcS), (1, qcS), (5, qcI)] (fun k1 s w => q17alike.b1 R k1 s.1 s.2.1 s.2.2.1 w) (fun k1 => .seq (.seq (.reg qN4) (.cond (.leaf) (.leaf))) (.seq (.block (.seq (.regD (.op 0 .now (.op 1 .now (.op 2 qpA (.op 3 qrS (.op 4 .now (.op 5 .now (.op 6 qpA (.op 7 qrS (.op 8 (.cl (.one (.at .bool))) (.op 9 .now (.done)))))))))))) (.cond (.seq (.reg qN1) (.leaf)) (.leaf)))) (.reg qN3)))))) (.seq (.reg qN1) (.leaf))))
theorem q17alike.run (R : EPq) (v0 : Sl) (v1 : Sl) (w : World) (h : q17alike.M R v0 v1 w) : Calls Tryz.prog 20 #[(.slice v0.base v0.len v0.cap), (.slice v1.base v1.len v1.cap)] w R := by
  refine aaZ mix_eqd Tryz.func20 (c := q17alike.body) (by kernel_rfl) [.at .bool] (q17alike.ann R) 27 Tryz.ntmps20 [.tmp 4] (by kernel_rfl) (Nat.le_of_ble_eq_true (by kernel_rfl)) ?_ ?_
  · exact ⟨tv, ⟨⟨tv, ⟨⟨tv, tv⟩, tv⟩⟩, ⟨⟨tv, (fun k1 => ⟨fun s w => mq, ⟨⟨tv, ⟨tv, tv⟩⟩, ⟨⟨(show Region.noSelect _ = true by kernel_rfl), ⟨⟨tv, tv⟩, tv⟩⟩, tv⟩⟩⟩)⟩, ⟨tv, tv⟩⟩⟩⟩
  · exact Eq.mp (show q17alike.M R v0 v1 w = _ by kernel_rfl) h
noncomputable def q17same.body : Code := (Tryz.f23.body).getD .skip
def q17same.b1 (R : EPq) (k1 : (Sl × Sl × Int × Unit) → WPq) (v0 : Sl) (v1 : Sl) (v5 : Int) (w : World) : Prop :=
  Cd (decide (v5 < ((v0.len : Nat) : Int))) (Pu Tryz.prog (Instr.indexAt 25 (.slice v0.base v0.len v0.cap) (.int .i64 v5)) (.one (.at .addr)) (fun (x1 : Addr) w2 =>
  RdS Tryz.prog (Same w.drew) (Instr.loadAt 3 (.pointer (some x1))) (.one (.at (.int .i64))) (fun (x3 : Int) w4 =>
  Pu Tryz.prog (Instr.indexAt 25 (.slice v1.base v1.len v1.cap) (.int .i64 v5)) (.one (.at .addr)) (fun (x5 : Addr) w6 =>
  RdS Tryz.prog (Same w.drew) (Instr.loadAt 3 (.pointer (some x5))) (.one (.at (.int .i64))) (fun (x7 : Int) w8 =>
  Cd (x3 != x7) (R (.returned (.bool false)) w8) (k1 (v0, v1, (IntKind.wrap .i64 (v5 + 1)), ()) w8)) w6) w4) w2) w.drew) (R (.returned (.bool true)) w)
def q17same.l1 (R : EPq) : (Sl × Sl × Int × Unit) → World → Prop := aoZ (fun k1 s w => q17same.b1 R k1 s.1 s.2.1 s.2.2.1 w)
def q17same.M (R : EPq) (v0 : Sl) (v1 : Sl) (w : World) : Prop :=
  Cd (((v0.len : Nat) : Int) != ((v1.len : Nat) : Int)) (R (.returned (.bool false)) w) (q17same.l1 R (v0, v1, 0, ()) w)
noncomputable def q17same.ann (R : EPq) : Ann :=
  .seq (.reg qN1) (.seq (.seq (.reg qN5) (.cond (.seq (.reg qN1) (.leaf)) (.leaf))) (.seq (.seq (.reg qN1) (.block (.loop [(0, qcS), (1, qcS), (5, qcI)] (fun k1 s w => q17same.b1 R k1 s.1 s.2.1 s.2.2.1 w) (fun k1 => .seq (.seq (.reg qN4) (.cond (.leaf) (.leaf))) (.seq (.block (.seq (.regQ (.op 0 .now (.op 1 .now (.op 2 qpA (.op 3 (.rd (.one qcI)) (.op 4 .now (.op 5 .now (.op 6 qpA (.op 7 (.rd (.one qcI)) (.op 8 .now (.done))))))))))) (.cond (.seq (.reg qN1) (.leaf)) (.leaf)))) (.reg qN3)))))) (.seq (.reg qN1) (.leaf))))
theorem q17same.run (R : EPq) (v0 : Sl) (v1 : Sl) (w : World) (h : q17same.M R v0 v1 w) : Calls Tryz.prog 23 #[(.slice v0.base v0.len v0.cap), (.slice v1.base v1.len v1.cap)] w R := by
  refine aaZ mix_eqd Tryz.func23 (c := q17same.body) (by kernel_rfl) [.at .bool] (q17same.ann R) 26 Tryz.ntmps23 [.tmp 4] (by kernel_rfl) (Nat.le_of_ble_eq_true (by kernel_rfl)) ?_ ?_
  · exact ⟨tv, ⟨⟨tv, ⟨⟨tv, tv⟩, tv⟩⟩, ⟨⟨tv, (fun k1 => ⟨fun s w => mq, ⟨⟨tv, ⟨tv, tv⟩⟩, ⟨⟨(show Region.noSelect _ = true by kernel_rfl), ⟨⟨tv, tv⟩, tv⟩⟩, tv⟩⟩⟩)⟩, ⟨tv, tv⟩⟩⟩⟩
  · exact Eq.mp (show q17same.M R v0 v1 w = _ by kernel_rfl) h
noncomputable def q17apartInts.body : Code := (Tryz.f24.body).getD .skip
def q17apartInts.b2 (R : EPq) (k1 : (Sl × Int × Unit) → WPq) (k2 : (Sl × Int × Int × Unit) → WPq) (v0 : Sl) (v3 : Int) (v4 : Int) (w : World) : Prop :=
  Pu Tryz.prog (Instr.indexAt 53 (.slice v0.base v0.len v0.cap) (.int .i64 v3)) (.one (.at .addr)) (fun (x1 : Addr) w2 =>
  Rd Tryz.prog (Instr.loadAt 25 (.pointer (some x1))) (.one (.at .sl)) (fun (x3 : Sl) w4 =>
  Cd (decide (v4 < ((x3.len : Nat) : Int))) (Pu Tryz.prog (Instr.indexAt 53 (.slice v0.base v0.len v0.cap) (.int .i64 v3)) (.one (.at .addr)) (fun (x5 : Addr) w6 =>
  Rd Tryz.prog (Instr.loadAt 25 (.pointer (some x5))) (.one (.at .sl)) (fun (x7 : Sl) w8 =>
  Pu Tryz.prog (Instr.indexAt 25 (.slice x7.base x7.len x7.cap) (.int .i64 v4)) (.one (.at .addr)) (fun (x9 : Addr) w10 =>
  Wu Tryz.prog (Instr.storeAt 3 (.pointer (some x9)) (.int .i64 (IntKind.wrap .i64 ((IntKind.wrap .i64 ((-2) * v3)) - 1)))) (fun w11 =>
  k2 (v0, v3, (IntKind.wrap .i64 (v4 + 1)), ()) w11) w10) w8) w6) w4) (k1 (v0, (IntKind.wrap .i64 (v3 + 1)), ()) w4)) w2) w
def q17apartInts.l2 (R : EPq) (k1 : (Sl × Int × Unit) → WPq) : (Sl × Int × Int × Unit) → World → Prop := aoZ (fun k2 s w => q17apartInts.b2 R k1 k2 s.1 s.2.1 s.2.2.1 w)
def q17apartInts.b4 (R : EPq) (k3 : (Sl × Sl × Int × Unit) → WPq) (k4 : (Sl × Sl × Int × Sl × Int × Unit) → WPq) (v0 : Sl) (v5 : Sl) (v6 : Int) (v7 : Sl) (v8 : Int) (w : World) : Prop :=
  Cd (decide (v8 < 80)) (Wr Tryz.prog (Instr.buildSlice 25 1 #[(0, (.int .i64 (IntKind.wrap .i64 ((IntKind.wrap .i64 ((-2) * v6)) - 2))))]) (.one (.at .sl)) (fun (x18 : Sl) w19 =>
  Wr Tryz.prog (Builtin.append_ #[25, 25] 25 #[(.slice v7.base v7.len v7.cap), (.slice x18.base x18.len x18.cap)]) (.one (.at .sl)) (fun (x20 : Sl) w21 =>
  k4 (v0, v5, v6, x20, (IntKind.wrap .i64 (v8 + 1)), ()) w21) w19) w) (Pu Tryz.prog (Instr.indexAt 53 (.slice v5.base v5.len v5.cap) (.int .i64 v6)) (.one (.at .addr)) (fun (x22 : Addr) w23 =>
  Wu Tryz.prog (Instr.storeAt 25 (.pointer (some x22)) (.slice v7.base v7.len v7.cap)) (fun w24 =>
  k3 (v0, v5, (IntKind.wrap .i64 (v6 + 1)), ()) w24) w23) w)
def q17apartInts.l4 (R : EPq) (k3 : (Sl × Sl × Int × Unit) → WPq) : (Sl × Sl × Int × Sl × Int × Unit) → World → Prop := aoZ (fun k4 s w => q17apartInts.b4 R k3 k4 s.1 s.2.1 s.2.2.1 s.2.2.2.1 s.2.2.2.2.1 w)
def q17apartInts.j1 (R : EPq)  (k5 : (Sl × Sl × Int × Unit) → WPq) (k6 : (Sl × Sl × Int × Int × Int × Unit) → WPq) (v0 : Sl) (v5 : Sl) (v9 : Int) (v10 : Int) (v11 : Int) (t129 : Bool) (w : World) : Prop :=
  Cd t129 (R (.returned (.bool false)) w) (k6 (v0, v5, v9, v10, (IntKind.wrap .i64 (v11 + 1)), ()) w)
def q17apartInts.b6 (R : EPq) (k5 : (Sl × Sl × Int × Unit) → WPq) (k6 : (Sl × Sl × Int × Int × Int × Unit) → WPq) (v0 : Sl) (v5 : Sl) (v9 : Int) (v10 : Int) (v11 : Int) (w : World) : Prop :=
  Pu Tryz.prog (Instr.indexAt 53 (.slice v5.base v5.len v5.cap) (.int .i64 v9)) (.one (.at .addr)) (fun (x29 : Addr) w30 =>
  Rd Tryz.prog (Instr.loadAt 25 (.pointer (some x29))) (.one (.at .sl)) (fun (x31 : Sl) w32 =>
  Cd (decide (v11 < ((x31.len : Nat) : Int))) (Cd (decide (v11 < v10)) (Pu Tryz.prog (Instr.indexAt 53 (.slice v5.base v5.len v5.cap) (.int .i64 v9)) (.one (.at .addr)) (fun (x33 : Addr) w34 =>
  Rd Tryz.prog (Instr.loadAt 25 (.pointer (some x33))) (.one (.at .sl)) (fun (x35 : Sl) w36 =>
  Pu Tryz.prog (Instr.indexAt 25 (.slice x35.base x35.len x35.cap) (.int .i64 v11)) (.one (.at .addr)) (fun (x37 : Addr) w38 =>
  Rd Tryz.prog (Instr.loadAt 3 (.pointer (some x37))) (.one (.at (.int .i64))) (fun (x39 : Int) w40 =>
  Cd (x39 != (IntKind.wrap .i64 ((IntKind.wrap .i64 ((-2) * v9)) - 1))) (q17apartInts.j1 R k5 k6 v0 v5 v9 v10 v11 true w40) (Pu Tryz.prog (Instr.indexAt 53 (.slice v0.base v0.len v0.cap) (.int .i64 v9)) (.one (.at .addr)) (fun (x41 : Addr) w42 =>
  Rd Tryz.prog (Instr.loadAt 25 (.pointer (some x41))) (.one (.at .sl)) (fun (x43 : Sl) w44 =>
  Pu Tryz.prog (Instr.indexAt 25 (.slice x43.base x43.len x43.cap) (.int .i64 v11)) (.one (.at .addr)) (fun (x45 : Addr) w46 =>
  Rd Tryz.prog (Instr.loadAt 3 (.pointer (some x45))) (.one (.at (.int .i64))) (fun (x47 : Int) w48 =>
  Cd (x47 != (IntKind.wrap .i64 ((IntKind.wrap .i64 ((-2) * v9)) - 1))) (q17apartInts.j1 R k5 k6 v0 v5 v9 v10 v11 true w48) (Cd (decide (v11 ≥ v10)) (Pu Tryz.prog (Instr.indexAt 53 (.slice v5.base v5.len v5.cap) (.int .i64 v9)) (.one (.at .addr)) (fun (x49 : Addr) w50 =>
  Rd Tryz.prog (Instr.loadAt 25 (.pointer (some x49))) (.one (.at .sl)) (fun (x51 : Sl) w52 =>
  Pu Tryz.prog (Instr.indexAt 25 (.slice x51.base x51.len x51.cap) (.int .i64 v11)) (.one (.at .addr)) (fun (x53 : Addr) w54 =>
  Rd Tryz.prog (Instr.loadAt 3 (.pointer (some x53))) (.one (.at (.int .i64))) (fun (x55 : Int) w56 =>
  q17apartInts.j1 R k5 k6 v0 v5 v9 v10 v11 (x55 != (IntKind.wrap .i64 ((IntKind.wrap .i64 ((-2) * v9)) - 2))) w56) w54) w52) w50) w48) (q17apartInts.j1 R k5 k6 v0 v5 v9 v10 v11 false w48))) w46) w44) w42) w40)) w38) w36) w34) w32) (Cd (decide (v11 ≥ v10)) (Pu Tryz.prog (Instr.indexAt 53 (.slice v5.base v5.len v5.cap) (.int .i64 v9)) (.one (.at .addr)) (fun (x57 : Addr) w58 =>
  Rd Tryz.prog (Instr.loadAt 25 (.pointer (some x57))) (.one (.at .sl)) (fun (x59 : Sl) w60 =>
  Pu Tryz.prog (Instr.indexAt 25 (.slice x59.base x59.len x59.cap) (.int .i64 v11)) (.one (.at .addr)) (fun (x61 : Addr) w62 =>
  Rd Tryz.prog (Instr.loadAt 3 (.pointer (some x61))) (.one (.at (.int .i64))) (fun (x63 : Int) w64 =>
  q17apartInts.j1 R k5 k6 v0 v5 v9 v10 v11 (x63 != (IntKind.wrap .i64 ((IntKind.wrap .i64 ((-2) * v9)) - 2))) w64) w62) w60) w58) w32) (q17apartInts.j1 R k5 k6 v0 v5 v9 v10 v11 false w32))) (k5 (v0, v5, (IntKind.wrap .i64 (v9 + 1)), ()) w32)) w30) w
def q17apartInts.l6 (R : EPq) (k5 : (Sl × Sl × Int × Unit) → WPq) : (Sl × Sl × Int × Int × Int × Unit) → World → Prop := aoZ (fun k6 s w => q17apartInts.b6 R k5 k6 s.1 s.2.1 s.2.2.1 s.2.2.2.1 s.2.2.2.2.1 w)
def q17apartInts.b5 (R : EPq) (k5 : (Sl × Sl × Int × Unit) → WPq) (v0 : Sl) (v5 : Sl) (v9 : Int) (w : World) : Prop :=
  Cd (decide (v9 < ((v0.len : Nat) : Int))) (Pu Tryz.prog (Instr.indexAt 53 (.slice v0.base v0.len v0.cap) (.int .i64 v9)) (.one (.at .addr)) (fun (x25 : Addr) w26 =>
  Rd Tryz.prog (Instr.loadAt 25 (.pointer (some x25))) (.one (.at .sl)) (fun (x27 : Sl) w28 =>
  q17apartInts.l6 R k5 (v0, v5, v9, ((x27.len : Nat) : Int), 0, ()) w28) w26) w) (R (.returned (.bool true)) w)
def q17apartInts.l5 (R : EPq) : (Sl × Sl × Int × Unit) → World → Prop := aoZ (fun k5 s w => q17apartInts.b5 R k5 s.1 s.2.1 s.2.2.1 w)
def q17apartInts.b3 (R : EPq) (k3 : (Sl × Sl × Int × Unit) → WPq) (v0 : Sl) (v5 : Sl) (v6 : Int) (w : World) : Prop :=
  Cd (decide (v6 < ((v0.len : Nat) : Int))) (Pu Tryz.prog (Instr.indexAt 53 (.slice v0.base v0.len v0.cap) (.int .i64 v6)) (.one (.at .addr)) (fun (x14 : Addr) w15 =>
  Rd Tryz.prog (Instr.loadAt 25 (.pointer (some x14))) (.one (.at .sl)) (fun (x16 : Sl) w17 =>
  q17apartInts.l4 R k3 (v0, v5, v6, x16, 0, ()) w17) w15) w) (q17apartInts.l5 R (v0, v5, 0, ()) w)
def q17apartInts.l3 (R : EPq) : (Sl × Sl × Int × Unit) → World → Prop := aoZ (fun k3 s w => q17apartInts.b3 R k3 s.1 s.2.1 s.2.2.1 w)
def q17apartInts.b1 (R : EPq) (k1 : (Sl × Int × Unit) → WPq) (v0 : Sl) (v3 : Int) (w : World) : Prop :=
  Cd (decide (v3 < ((v0.len : Nat) : Int))) (q17apartInts.l2 R k1 (v0, v3, 0, ()) w) (Wr Tryz.prog (Instr.makeSlice 53 (.int .i64 ((v0.len : Nat) : Int)) (.int .i64 ((v0.len : Nat) : Int))) (.one (.at .sl)) (fun (x12 : Sl) w13 =>
  q17apartInts.l3 R (v0, x12, 0, ()) w13) w)
def q17apartInts.l1 (R : EPq) : (Sl × Int × Unit) → World → Prop := aoZ (fun k1 s w => q17apartInts.b1 R k1 s.1 s.2.1 w)
def q17apartInts.M (R : EPq) (v0 : Sl) (w : World) : Prop :=
  q17apartInts.l1 R (v0, 0, ()) w
noncomputable def q17apartInts.ann (R : EPq) : Ann :=
  .seq (.reg qN1) (.seq (.seq (.reg qN1) (.block (.loop [(0, qcS), (3, qcI)] (fun k1 s w => q17apartInts.b1 R k1 s.1 s.2.1 w) (fun k1 => .seq (.seq (.reg qN4) (.cond (.leaf) (.leaf))) (.seq (.block (.seq (.reg qN1) (.block (.loop [(0, qcS), (3, qcI), (4, qcI)] (fun k2 s w => q17apartInts.b2 R k1 k2 s.1 s.2.1 s.2.2.1 w) (fun k2 => .seq (.seq (.reg (.op 0 .now (.op 1 .now (.op 2 .now (.op 3 qpA (.op 4 qrS (.op 5 .now (.op 6 .now (.done))))))))) (.cond (.leaf) (.leaf))) (.seq (.block (.reg (.op 0 .now (.op 1 .now (.op 2 qpA (.op 3 qrS (.op 4 .now (.op 5 .now (.op 6 .now (.op 7 .now (.op 8 qpA (.op 9 .wu (.done))))))))))))) (.reg qN3))))))) (.reg qN3)))))) (.seq (.reg (.op 0 .now (.op 1 .now (.op 2 (.wr (.one qcS)) (.op 3 .now (.done)))))) (.seq (.seq (.reg qN1) (.block (.loop [(0, qcS), (5, qcS), (6, qcI)] (fun k3 s w => q17apartInts.b3 R k3 s.1 s.2.1 s.2.2.1 w) (fun k3 => .seq (.seq (.reg qN4) (.cond (.leaf) (.leaf))) (.seq (.block (.seq (.reg (.op 0 .now (.op 1 .now (.op 2 qpA (.op 3 qrS (.op 4 .now (.done))))))) (.seq (.seq (.reg qN1) (.block (.loop [(0, qcS), (5, qcS), (6, qcI), (7, qcS), (8, qcI)] (fun k4 s w => q17apartInts.b4 R k3 k4 s.1 s.2.1 s.2.2.1 s.2.2.2.1 s.2.2.2.2.1 w) (fun k4 => .seq (.seq (.reg qN2) (.cond (.leaf) (.leaf))) (.seq (.block (.reg (.op 0 .now (.op 1 .now (.op 2 .now (.op 3 .now (.op 4 (.wr (.one qcS)) (.op 5 (.wr (.one qcS)) (.op 6 .now (.done)))))))))) (.reg qN3)))))) (.reg (.op 0 .now (.op 1 .now (.op 2 .now (.op 3 qpA (.op 4 .wu (.done)))))))))) (.reg qN3)))))) (.seq (.seq (.reg qN1) (.block (.loop [(0, qcS), (5, qcS), (9, qcI)] (fun k5 s w => q17apartInts.b5 R k5 s.1 s.2.1 s.2.2.1 w) (fun k5 => .seq (.seq (.reg qN4) (.cond (.leaf) (.leaf))) (.seq (.block (.seq (.reg (.op 0 .now (.op 1 .now (.op 2 qpA (.op 3 qrS (.op 4 .now (.op 5 .now (.done)))))))) (.seq (.reg qN1) (.block (.loop [(0, qcS), (5, qcS), (9, qcI), (10, qcI), (11, qcI)] (fun k6 s w => q17apartInts.b6 R k5 k6 s.1 s.2.1 s.2.2.1 s.2.2.2.1 s.2.2.2.2.1 w) (fun k6 => .seq (.seq (.reg (.op 0 .now (.op 1 .now (.op 2 .now (.op 3 qpA (.op 4 qrS (.op 5 .now (.op 6 .now (.done))))))))) (.cond (.leaf) (.leaf))) (.seq (.block (.join [(0, qcS), (5, qcS), (9, qcI), (10, qcI), (11, qcI), (129, .at .bool)] (fun s w => q17apartInts.j1 R k5 k6 s.1 s.2.1 s.2.2.1 s.2.2.2.1 s.2.2.2.2.1 s.2.2.2.2.2.1 w) (.reg (.op 0 .now (.op 1 .now (.op 2 .now (.op 3 .now (.split 3 (.op 4 .now (.op 5 .now (.op 6 qpA (.op 7 qrS (.op 8 .now (.op 9 qpA (.op 10 (.rd (.one qcI)) (.op 11 .now (.op 12 .now (.op 13 .now (.op 14 .now (.op 15 .now (.split 15 (.skip 16 (.skip 17 (.skip 18 (.skip 19 (.skip 20 (.skip 21 (.skip 22 (.skip 23 (.skip 24 (.skip 25 (.skip 26 (.op 27 .now (.op 28 .now (.op 29 .now (.skip 30 (.skip 31 (.skip 32 (.skip 33 (.skip 34 (.skip 35 (.skip 36 (.skip 37 (.skip 38 (.skip 39 (.skip 40 (.skip 41 (.skip 42 (.skip 43 (.skip 44 (.skip 45 (.op 46 .now (.done)))))))))))))))))))))))))))))))) (.op 16 .now (.op 17 .now (.op 18 qpA (.op 19 qrS (.op 20 .now (.op 21 qpA (.op 22 (.rd (.one qcI)) (.op 23 .now (.op 24 .now (.op 25 .now (.op 26 .now (.op 27 .now (.op 28 .now (.op 29 .now (.split 29 (.skip 30 (.skip 31 (.skip 32 (.skip 33 (.skip 34 (.skip 35 (.skip 36 (.skip 37 (.skip 38 (.skip 39 (.skip 40 (.skip 41 (.skip 42 (.skip 43 (.skip 44 (.skip 45 (.op 46 .now (.done)))))))))))))))))) (.op 30 .now (.op 31 .now (.op 32 .now (.op 33 .now (.split 33 (.op 34 .now (.op 35 .now (.op 36 qpA (.op 37 qrS (.op 38 .now (.op 39 qpA (.op 40 (.rd (.one qcI)) (.op 41 .now (.op 42 .now (.op 43 .now (.op 44 .now (.op 45 .now (.op 46 .now (.done)))))))))))))) (.skip 34 (.skip 35 (.skip 36 (.skip 37 (.skip 38 (.skip 39 (.skip 40 (.skip 41 (.skip 42 (.skip 43 (.skip 44 (.op 45 .now (.op 46 .now (.done))))))))))))))))))))))))))))))))))))))))))))))) (.skip 4 (.skip 5 (.skip 6 (.skip 7 (.skip 8 (.skip 9 (.skip 10 (.skip 11 (.skip 12 (.skip 13 (.skip 14 (.skip 15 (.skip 16 (.skip 17 (.skip 18 (.skip 19 (.skip 20 (.skip 21 (.skip 22 (.skip 23 (.skip 24 (.skip 25 (.skip 26 (.skip 27 (.op 28 .now (.op 29 .now (.op 30 .now (.op 31 .now (.op 32 .now (.op 33 .now (.split 33 (.op 34 .now (.op 35 .now (.op 36 qpA (.op 37 qrS (.op 38 .now (.op 39 qpA (.op 40 (.rd (.one qcI)) (.op 41 .now (.op 42 .now (.op 43 .now (.op 44 .now (.op 45 .now (.op 46 .now (.done)))))))))))))) (.skip 34 (.skip 35 (.skip 36 (.skip 37 (.skip 38 (.skip 39 (.skip 40 (.skip 41 (.skip 42 (.skip 43 (.skip 44 (.op 45 .now (.op 46 .now (.done))))))))))))))))))))))))))))))))))))))))))))))))))) (.cond (.seq (.reg qN1) (.leaf)) (.leaf)))) (.reg qN3)))))))) (.reg qN3)))))) (.seq (.reg qN1) (.leaf))))))
theorem q17apartInts.run (R : EPq) (v0 : Sl) (w : World) (h : q17apartInts.M R v0 w) : Calls Tryz.prog 24 #[(.slice v0.base v0.len v0.cap)] w R := by
  refine aaZ mix_eqd Tryz.func24 (c := q17apartInts.body) (by kernel_rfl) [.at .bool] (q17apartInts.ann R) 130 Tryz.ntmps24 [.tmp 2] (by kernel_rfl) (Nat.le_of_ble_eq_true (by kernel_rfl)) ?_ ?_
  · exact ⟨tv, ⟨⟨tv, (fun k1 => ⟨fun s w => mq, ⟨⟨tv, ⟨tv, tv⟩⟩, ⟨⟨tv, (fun k2 => ⟨fun s w => mq, ⟨⟨tv, ⟨tv, tv⟩⟩, ⟨tv, tv⟩⟩⟩)⟩, tv⟩⟩⟩)⟩, ⟨tv, ⟨⟨tv, (fun k3 => ⟨fun s w => mq, ⟨⟨tv, ⟨tv, tv⟩⟩, ⟨⟨tv, ⟨⟨tv, (fun k4 => ⟨fun s w => mq, ⟨⟨tv, ⟨tv, tv⟩⟩, ⟨tv, tv⟩⟩⟩)⟩, tv⟩⟩, tv⟩⟩⟩)⟩, ⟨⟨tv, (fun k5 => ⟨fun s w => mq, ⟨⟨tv, ⟨tv, tv⟩⟩, ⟨⟨tv, ⟨tv, (fun k6 => ⟨fun s w => mq, ⟨⟨tv, ⟨tv, tv⟩⟩, ⟨⟨fun s w => mq, tv, ⟨⟨tv, tv⟩, tv⟩⟩, tv⟩⟩⟩)⟩⟩, tv⟩⟩⟩)⟩, ⟨tv, tv⟩⟩⟩⟩⟩⟩
  · exact Eq.mp (show q17apartInts.M R v0 w = _ by kernel_rfl) h
noncomputable def q17apart.body : Code := (Tryz.f25.body).getD .skip
def q17apart.b2 (R : EPq) (k1 : (Sl × Int × Unit) → WPq) (k2 : (Sl × Int × Int × Unit) → WPq) (v0 : Sl) (v3 : Int) (v4 : Int) (w : World) : Prop :=
  Pu Tryz.prog (Instr.indexAt 30 (.slice v0.base v0.len v0.cap) (.int .i64 v3)) (.one (.at .addr)) (fun (x1 : Addr) w2 =>
  Rd Tryz.prog (Instr.loadAt 24 (.pointer (some x1))) (.one (.at .sl)) (fun (x3 : Sl) w4 =>
  Cd (decide (v4 < ((x3.len : Nat) : Int))) (Pu Tryz.prog (Instr.indexAt 30 (.slice v0.base v0.len v0.cap) (.int .i64 v3)) (.one (.at .addr)) (fun (x5 : Addr) w6 =>
  Rd Tryz.prog (Instr.loadAt 24 (.pointer (some x5))) (.one (.at .sl)) (fun (x7 : Sl) w8 =>
  Pu Tryz.prog (Instr.indexAt 24 (.slice x7.base x7.len x7.cap) (.int .i64 v4)) (.one (.at .addr)) (fun (x9 : Addr) w10 =>
  Wu Tryz.prog (Instr.storeAt 5 (.pointer (some x9)) (.int .u8 (IntKind.wrap .u8 (IntKind.wrap .i64 ((IntKind.wrap .i64 (2 * v3)) + 1))))) (fun w11 =>
  k2 (v0, v3, (IntKind.wrap .i64 (v4 + 1)), ()) w11) w10) w8) w6) w4) (k1 (v0, (IntKind.wrap .i64 (v3 + 1)), ()) w4)) w2) w
def q17apart.l2 (R : EPq) (k1 : (Sl × Int × Unit) → WPq) : (Sl × Int × Int × Unit) → World → Prop := aoZ (fun k2 s w => q17apart.b2 R k1 k2 s.1 s.2.1 s.2.2.1 w)
def q17apart.b4 (R : EPq) (k3 : (Sl × Sl × Int × Unit) → WPq) (k4 : (Sl × Sl × Int × Sl × Int × Unit) → WPq) (v0 : Sl) (v5 : Sl) (v6 : Int) (v7 : Sl) (v8 : Int) (w : World) : Prop :=
  Cd (decide (v8 < 80)) (Wr Tryz.prog (Instr.buildSlice 24 1 #[(0, (.int .u8 (IntKind.wrap .u8 (IntKind.wrap .i64 ((IntKind.wrap .i64 (2 * v6)) + 2)))))]) (.one (.at .sl)) (fun (x18 : Sl) w19 =>
  Wr Tryz.prog (Builtin.append_ #[24, 24] 24 #[(.slice v7.base v7.len v7.cap), (.slice x18.base x18.len x18.cap)]) (.one (.at .sl)) (fun (x20 : Sl) w21 =>
  k4 (v0, v5, v6, x20, (IntKind.wrap .i64 (v8 + 1)), ()) w21) w19) w) (Pu Tryz.prog (Instr.indexAt 30 (.slice v5.base v5.len v5.cap) (.int .i64 v6)) (.one (.at .addr)) (fun (x22 : Addr) w23 =>
  Wu Tryz.prog (Instr.storeAt 24 (.pointer (some x22)) (.slice v7.base v7.len v7.cap)) (fun w24 =>
  k3 (v0, v5, (IntKind.wrap .i64 (v6 + 1)), ()) w24) w23) w)
def q17apart.l4 (R : EPq) (k3 : (Sl × Sl × Int × Unit) → WPq) : (Sl × Sl × Int × Sl × Int × Unit) → World → Prop := aoZ (fun k4 s w => q17apart.b4 R k3 k4 s.1 s.2.1 s.2.2.1 s.2.2.2.1 s.2.2.2.2.1 w)
def q17apart.j1 (R : EPq)  (k5 : (Sl × Sl × Int × Unit) → WPq) (k6 : (Sl × Sl × Int × Int × Int × Unit) → WPq) (v0 : Sl) (v5 : Sl) (v9 : Int) (v10 : Int) (v11 : Int) (t134 : Bool) (w : World) : Prop :=
  Cd t134 (R (.returned (.bool false)) w) (k6 (v0, v5, v9, v10, (IntKind.wrap .i64 (v11 + 1)), ()) w)
def q17apart.b6 (R : EPq) (k5 : (Sl × Sl × Int × Unit) → WPq) (k6 : (Sl × Sl × Int × Int × Int × Unit) → WPq) (v0 : Sl) (v5 : Sl) (v9 : Int) (v10 : Int) (v11 : Int) (w : World) : Prop :=
  Pu Tryz.prog (Instr.indexAt 30 (.slice v5.base v5.len v5.cap) (.int .i64 v9)) (.one (.at .addr)) (fun (x29 : Addr) w30 =>
  Rd Tryz.prog (Instr.loadAt 24 (.pointer (some x29))) (.one (.at .sl)) (fun (x31 : Sl) w32 =>
  Cd (decide (v11 < ((x31.len : Nat) : Int))) (Cd (decide (v11 < v10)) (Pu Tryz.prog (Instr.indexAt 30 (.slice v5.base v5.len v5.cap) (.int .i64 v9)) (.one (.at .addr)) (fun (x33 : Addr) w34 =>
  Rd Tryz.prog (Instr.loadAt 24 (.pointer (some x33))) (.one (.at .sl)) (fun (x35 : Sl) w36 =>
  Pu Tryz.prog (Instr.indexAt 24 (.slice x35.base x35.len x35.cap) (.int .i64 v11)) (.one (.at .addr)) (fun (x37 : Addr) w38 =>
  Rd Tryz.prog (Instr.loadAt 5 (.pointer (some x37))) (.one (.at (.int .u8))) (fun (x39 : Int) w40 =>
  Cd (x39 != (IntKind.wrap .u8 (IntKind.wrap .i64 ((IntKind.wrap .i64 (2 * v9)) + 1)))) (q17apart.j1 R k5 k6 v0 v5 v9 v10 v11 true w40) (Pu Tryz.prog (Instr.indexAt 30 (.slice v0.base v0.len v0.cap) (.int .i64 v9)) (.one (.at .addr)) (fun (x41 : Addr) w42 =>
  Rd Tryz.prog (Instr.loadAt 24 (.pointer (some x41))) (.one (.at .sl)) (fun (x43 : Sl) w44 =>
  Pu Tryz.prog (Instr.indexAt 24 (.slice x43.base x43.len x43.cap) (.int .i64 v11)) (.one (.at .addr)) (fun (x45 : Addr) w46 =>
  Rd Tryz.prog (Instr.loadAt 5 (.pointer (some x45))) (.one (.at (.int .u8))) (fun (x47 : Int) w48 =>
  Cd (x47 != (IntKind.wrap .u8 (IntKind.wrap .i64 ((IntKind.wrap .i64 (2 * v9)) + 1)))) (q17apart.j1 R k5 k6 v0 v5 v9 v10 v11 true w48) (Cd (decide (v11 ≥ v10)) (Pu Tryz.prog (Instr.indexAt 30 (.slice v5.base v5.len v5.cap) (.int .i64 v9)) (.one (.at .addr)) (fun (x49 : Addr) w50 =>
  Rd Tryz.prog (Instr.loadAt 24 (.pointer (some x49))) (.one (.at .sl)) (fun (x51 : Sl) w52 =>
  Pu Tryz.prog (Instr.indexAt 24 (.slice x51.base x51.len x51.cap) (.int .i64 v11)) (.one (.at .addr)) (fun (x53 : Addr) w54 =>
  Rd Tryz.prog (Instr.loadAt 5 (.pointer (some x53))) (.one (.at (.int .u8))) (fun (x55 : Int) w56 =>
  q17apart.j1 R k5 k6 v0 v5 v9 v10 v11 (x55 != (IntKind.wrap .u8 (IntKind.wrap .i64 ((IntKind.wrap .i64 (2 * v9)) + 2)))) w56) w54) w52) w50) w48) (q17apart.j1 R k5 k6 v0 v5 v9 v10 v11 false w48))) w46) w44) w42) w40)) w38) w36) w34) w32) (Cd (decide (v11 ≥ v10)) (Pu Tryz.prog (Instr.indexAt 30 (.slice v5.base v5.len v5.cap) (.int .i64 v9)) (.one (.at .addr)) (fun (x57 : Addr) w58 =>
  Rd Tryz.prog (Instr.loadAt 24 (.pointer (some x57))) (.one (.at .sl)) (fun (x59 : Sl) w60 =>
  Pu Tryz.prog (Instr.indexAt 24 (.slice x59.base x59.len x59.cap) (.int .i64 v11)) (.one (.at .addr)) (fun (x61 : Addr) w62 =>
  Rd Tryz.prog (Instr.loadAt 5 (.pointer (some x61))) (.one (.at (.int .u8))) (fun (x63 : Int) w64 =>
  q17apart.j1 R k5 k6 v0 v5 v9 v10 v11 (x63 != (IntKind.wrap .u8 (IntKind.wrap .i64 ((IntKind.wrap .i64 (2 * v9)) + 2)))) w64) w62) w60) w58) w32) (q17apart.j1 R k5 k6 v0 v5 v9 v10 v11 false w32))) (k5 (v0, v5, (IntKind.wrap .i64 (v9 + 1)), ()) w32)) w30) w
def q17apart.l6 (R : EPq) (k5 : (Sl × Sl × Int × Unit) → WPq) : (Sl × Sl × Int × Int × Int × Unit) → World → Prop := aoZ (fun k6 s w => q17apart.b6 R k5 k6 s.1 s.2.1 s.2.2.1 s.2.2.2.1 s.2.2.2.2.1 w)
def q17apart.b5 (R : EPq) (k5 : (Sl × Sl × Int × Unit) → WPq) (v0 : Sl) (v5 : Sl) (v9 : Int) (w : World) : Prop :=
  Cd (decide (v9 < ((v0.len : Nat) : Int))) (Pu Tryz.prog (Instr.indexAt 30 (.slice v0.base v0.len v0.cap) (.int .i64 v9)) (.one (.at .addr)) (fun (x25 : Addr) w26 =>
  Rd Tryz.prog (Instr.loadAt 24 (.pointer (some x25))) (.one (.at .sl)) (fun (x27 : Sl) w28 =>
  q17apart.l6 R k5 (v0, v5, v9, ((x27.len : Nat) : Int), 0, ()) w28) w26) w) (R (.returned (.bool true)) w)
def q17apart.l5 (R : EPq) : (Sl × Sl × Int × Unit) → World → Prop := aoZ (fun k5 s w => q17apart.b5 R k5 s.1 s.2.1 s.2.2.1 w)
def q17apart.b3 (R : EPq) (k3 : (Sl × Sl × Int × Unit) → WPq) (v0 : Sl) (v5 : Sl) (v6 : Int) (w : World) : Prop :=
  Cd (decide (v6 < ((v0.len : Nat) : Int))) (Pu Tryz.prog (Instr.indexAt 30 (.slice v0.base v0.len v0.cap) (.int .i64 v6)) (.one (.at .addr)) (fun (x14 : Addr) w15 =>
  Rd Tryz.prog (Instr.loadAt 24 (.pointer (some x14))) (.one (.at .sl)) (fun (x16 : Sl) w17 =>
  q17apart.l4 R k3 (v0, v5, v6, x16, 0, ()) w17) w15) w) (q17apart.l5 R (v0, v5, 0, ()) w)
def q17apart.l3 (R : EPq) : (Sl × Sl × Int × Unit) → World → Prop := aoZ (fun k3 s w => q17apart.b3 R k3 s.1 s.2.1 s.2.2.1 w)
def q17apart.b1 (R : EPq) (k1 : (Sl × Int × Unit) → WPq) (v0 : Sl) (v3 : Int) (w : World) : Prop :=
  Cd (decide (v3 < ((v0.len : Nat) : Int))) (q17apart.l2 R k1 (v0, v3, 0, ()) w) (Wr Tryz.prog (Instr.makeSlice 30 (.int .i64 ((v0.len : Nat) : Int)) (.int .i64 ((v0.len : Nat) : Int))) (.one (.at .sl)) (fun (x12 : Sl) w13 =>
  q17apart.l3 R (v0, x12, 0, ()) w13) w)
def q17apart.l1 (R : EPq) : (Sl × Int × Unit) → World → Prop := aoZ (fun k1 s w => q17apart.b1 R k1 s.1 s.2.1 w)
def q17apart.M (R : EPq) (v0 : Sl) (w : World) : Prop :=
  q17apart.l1 R (v0, 0, ()) w
noncomputable def q17apart.ann (R : EPq) : Ann :=
  .seq (.reg qN1) (.seq (.seq (.reg qN1) (.block (.loop [(0, qcS), (3, qcI)] (fun k1 s w => q17apart.b1 R k1 s.1 s.2.1 w) (fun k1 => .seq (.seq (.reg qN4) (.cond (.leaf) (.leaf))) (.seq (.block (.seq (.reg qN1) (.block (.loop [(0, qcS), (3, qcI), (4, qcI)] (fun k2 s w => q17apart.b2 R k1 k2 s.1 s.2.1 s.2.2.1 w) (fun k2 => .seq (.seq (.reg (.op 0 .now (.op 1 .now (.op 2 .now (.op 3 qpA (.op 4 qrS (.op 5 .now (.op 6 .now (.done))))))))) (.cond (.leaf) (.leaf))) (.seq (.block (.reg (.op 0 .now (.op 1 .now (.op 2 qpA (.op 3 qrS (.op 4 .now (.op 5 .now (.op 6 .now (.op 7 .now (.op 8 .now (.op 9 qpA (.op 10 .wu (.done)))))))))))))) (.reg qN3))))))) (.reg qN3)))))) (.seq (.reg (.op 0 .now (.op 1 .now (.op 2 (.wr (.one qcS)) (.op 3 .now (.done)))))) (.seq (.seq (.reg qN1) (.block (.loop [(0, qcS), (5, qcS), (6, qcI)] (fun k3 s w => q17apart.b3 R k3 s.1 s.2.1 s.2.2.1 w) (fun k3 => .seq (.seq (.reg qN4) (.cond (.leaf) (.leaf))) (.seq (.block (.seq (.reg (.op 0 .now (.op 1 .now (.op 2 qpA (.op 3 qrS (.op 4 .now (.done))))))) (.seq (.seq (.reg qN1) (.block (.loop [(0, qcS), (5, qcS), (6, qcI), (7, qcS), (8, qcI)] (fun k4 s w => q17apart.b4 R k3 k4 s.1 s.2.1 s.2.2.1 s.2.2.2.1 s.2.2.2.2.1 w) (fun k4 => .seq (.seq (.reg qN2) (.cond (.leaf) (.leaf))) (.seq (.block (.reg (.op 0 .now (.op 1 .now (.op 2 .now (.op 3 .now (.op 4 .now (.op 5 (.wr (.one qcS)) (.op 6 (.wr (.one qcS)) (.op 7 .now (.done))))))))))) (.reg qN3)))))) (.reg (.op 0 .now (.op 1 .now (.op 2 .now (.op 3 qpA (.op 4 .wu (.done)))))))))) (.reg qN3)))))) (.seq (.seq (.reg qN1) (.block (.loop [(0, qcS), (5, qcS), (9, qcI)] (fun k5 s w => q17apart.b5 R k5 s.1 s.2.1 s.2.2.1 w) (fun k5 => .seq (.seq (.reg qN4) (.cond (.leaf) (.leaf))) (.seq (.block (.seq (.reg (.op 0 .now (.op 1 .now (.op 2 qpA (.op 3 qrS (.op 4 .now (.op 5 .now (.done)))))))) (.seq (.reg qN1) (.block (.loop [(0, qcS), (5, qcS), (9, qcI), (10, qcI), (11, qcI)] (fun k6 s w => q17apart.b6 R k5 k6 s.1 s.2.1 s.2.2.1 s.2.2.2.1 s.2.2.2.2.1 w) (fun k6 => .seq (.seq (.reg (.op 0 .now (.op 1 .now (.op 2 .now (.op 3 qpA (.op 4 qrS (.op 5 .now (.op 6 .now (.done))))))))) (.cond (.leaf) (.leaf))) (.seq (.block (.join [(0, qcS), (5, qcS), (9, qcI), (10, qcI), (11, qcI), (134, .at .bool)] (fun s w => q17apart.j1 R k5 k6 s.1 s.2.1 s.2.2.1 s.2.2.2.1 s.2.2.2.2.1 s.2.2.2.2.2.1 w) (.reg (.op 0 .now (.op 1 .now (.op 2 .now (.op 3 .now (.split 3 (.op 4 .now (.op 5 .now (.op 6 qpA (.op 7 qrS (.op 8 .now (.op 9 qpA (.op 10 qrB (.op 11 .now (.op 12 .now (.op 13 .now (.op 14 .now (.op 15 .now (.op 16 .now (.split 16 (.skip 17 (.skip 18 (.skip 19 (.skip 20 (.skip 21 (.skip 22 (.skip 23 (.skip 24 (.skip 25 (.skip 26 (.skip 27 (.skip 28 (.op 29 .now (.op 30 .now (.op 31 .now (.skip 32 (.skip 33 (.skip 34 (.skip 35 (.skip 36 (.skip 37 (.skip 38 (.skip 39 (.skip 40 (.skip 41 (.skip 42 (.skip 43 (.skip 44 (.skip 45 (.skip 46 (.skip 47 (.skip 48 (.op 49 .now (.done)))))))))))))))))))))))))))))))))) (.op 17 .now (.op 18 .now (.op 19 qpA (.op 20 qrS (.op 21 .now (.op 22 qpA (.op 23 qrB (.op 24 .now (.op 25 .now (.op 26 .now (.op 27 .now (.op 28 .now (.op 29 .now (.op 30 .now (.op 31 .now (.split 31 (.skip 32 (.skip 33 (.skip 34 (.skip 35 (.skip 36 (.skip 37 (.skip 38 (.skip 39 (.skip 40 (.skip 41 (.skip 42 (.skip 43 (.skip 44 (.skip 45 (.skip 46 (.skip 47 (.skip 48 (.op 49 .now (.done))))))))))))))))))) (.op 32 .now (.op 33 .now (.op 34 .now (.op 35 .now (.split 35 (.op 36 .now (.op 37 .now (.op 38 qpA (.op 39 qrS (.op 40 .now (.op 41 qpA (.op 42 qrB (.op 43 .now (.op 44 .now (.op 45 .now (.op 46 .now (.op 47 .now (.op 48 .now (.op 49 .now (.done))))))))))))))) (.skip 36 (.skip 37 (.skip 38 (.skip 39 (.skip 40 (.skip 41 (.skip 42 (.skip 43 (.skip 44 (.skip 45 (.skip 46 (.skip 47 (.op 48 .now (.op 49 .now (.done)))))))))))))))))))))))))))))))))))))))))))))))))) (.skip 4 (.skip 5 (.skip 6 (.skip 7 (.skip 8 (.skip 9 (.skip 10 (.skip 11 (.skip 12 (.skip 13 (.skip 14 (.skip 15 (.skip 16 (.skip 17 (.skip 18 (.skip 19 (.skip 20 (.skip 21 (.skip 22 (.skip 23 (.skip 24 (.skip 25 (.skip 26 (.skip 27 (.skip 28 (.skip 29 (.op 30 .now (.op 31 .now (.op 32 .now (.op 33 .now (.op 34 .now (.op 35 .now (.split 35 (.op 36 .now (.op 37 .now (.op 38 qpA (.op 39 qrS (.op 40 .now (.op 41 qpA (.op 42 qrB (.op 43 .now (.op 44 .now (.op 45 .now (.op 46 .now (.op 47 .now (.op 48 .now (.op 49 .now (.done))))))))))))))) (.skip 36 (.skip 37 (.skip 38 (.skip 39 (.skip 40 (.skip 41 (.skip 42 (.skip 43 (.skip 44 (.skip 45 (.skip 46 (.skip 47 (.op 48 .now (.op 49 .now (.done)))))))))))))))))))))))))))))))))))))))))))))))))))))) (.cond (.seq (.reg qN1) (.leaf)) (.leaf)))) (.reg qN3)))))))) (.reg qN3)))))) (.seq (.reg qN1) (.leaf))))))
theorem q17apart.run (R : EPq) (v0 : Sl) (w : World) (h : q17apart.M R v0 w) : Calls Tryz.prog 25 #[(.slice v0.base v0.len v0.cap)] w R := by
  refine aaZ mix_eqd Tryz.func25 (c := q17apart.body) (by kernel_rfl) [.at .bool] (q17apart.ann R) 135 Tryz.ntmps25 [.tmp 2] (by kernel_rfl) (Nat.le_of_ble_eq_true (by kernel_rfl)) ?_ ?_
  · exact ⟨tv, ⟨⟨tv, (fun k1 => ⟨fun s w => mq, ⟨⟨tv, ⟨tv, tv⟩⟩, ⟨⟨tv, (fun k2 => ⟨fun s w => mq, ⟨⟨tv, ⟨tv, tv⟩⟩, ⟨tv, tv⟩⟩⟩)⟩, tv⟩⟩⟩)⟩, ⟨tv, ⟨⟨tv, (fun k3 => ⟨fun s w => mq, ⟨⟨tv, ⟨tv, tv⟩⟩, ⟨⟨tv, ⟨⟨tv, (fun k4 => ⟨fun s w => mq, ⟨⟨tv, ⟨tv, tv⟩⟩, ⟨tv, tv⟩⟩⟩)⟩, tv⟩⟩, tv⟩⟩⟩)⟩, ⟨⟨tv, (fun k5 => ⟨fun s w => mq, ⟨⟨tv, ⟨tv, tv⟩⟩, ⟨⟨tv, ⟨tv, (fun k6 => ⟨fun s w => mq, ⟨⟨tv, ⟨tv, tv⟩⟩, ⟨⟨fun s w => mq, tv, ⟨⟨tv, tv⟩, tv⟩⟩, tv⟩⟩⟩)⟩⟩, tv⟩⟩⟩)⟩, ⟨tv, tv⟩⟩⟩⟩⟩⟩
  · exact Eq.mp (show q17apart.M R v0 w = _ by kernel_rfl) h
noncomputable def q17equal.body : Code := (Tryz.f38.body).getD .skip
def q17equal.b1 (R : EPq) (k1 : (Sl × Sl × Int × Unit) → WPq) (v0 : Sl) (v1 : Sl) (v5 : Int) (w : World) : Prop :=
  Cd (decide (v5 < ((v0.len : Nat) : Int))) (Pu Tryz.prog (Instr.indexAt 24 (.slice v0.base v0.len v0.cap) (.int .i64 v5)) (.one (.at .addr)) (fun (x1 : Addr) w2 =>
  RdS Tryz.prog (Same w.drew) (Instr.loadAt 5 (.pointer (some x1))) (.one (.at (.int .u8))) (fun (x3 : Int) w4 =>
  Pu Tryz.prog (Instr.indexAt 24 (.slice v1.base v1.len v1.cap) (.int .i64 v5)) (.one (.at .addr)) (fun (x5 : Addr) w6 =>
  RdS Tryz.prog (Same w.drew) (Instr.loadAt 5 (.pointer (some x5))) (.one (.at (.int .u8))) (fun (x7 : Int) w8 =>
  Cd (x3 != x7) (R (.returned (.bool false)) w8) (k1 (v0, v1, (IntKind.wrap .i64 (v5 + 1)), ()) w8)) w6) w4) w2) w.drew) (R (.returned (.bool true)) w)
def q17equal.l1 (R : EPq) : (Sl × Sl × Int × Unit) → World → Prop := aoZ (fun k1 s w => q17equal.b1 R k1 s.1 s.2.1 s.2.2.1 w)
def q17equal.M (R : EPq) (v0 : Sl) (v1 : Sl) (w : World) : Prop :=
  Cd (((v0.len : Nat) : Int) != ((v1.len : Nat) : Int)) (R (.returned (.bool false)) w) (q17equal.l1 R (v0, v1, 0, ()) w)
noncomputable def q17equal.ann (R : EPq) : Ann :=
  .seq (.reg qN1) (.seq (.seq (.reg qN5) (.cond (.seq (.reg qN1) (.leaf)) (.leaf))) (.seq (.seq (.reg qN1) (.block (.loop [(0, qcS), (1, qcS), (5, qcI)] (fun k1 s w => q17equal.b1 R k1 s.1 s.2.1 s.2.2.1 w) (fun k1 => .seq (.seq (.reg qN4) (.cond (.leaf) (.leaf))) (.seq (.block (.seq (.regQ (.op 0 .now (.op 1 .now (.op 2 qpA (.op 3 qrB (.op 4 .now (.op 5 .now (.op 6 qpA (.op 7 qrB (.op 8 .now (.done))))))))))) (.cond (.seq (.reg qN1) (.leaf)) (.leaf)))) (.reg qN3)))))) (.seq (.reg qN1) (.leaf))))
theorem q17equal.run (R : EPq) (v0 : Sl) (v1 : Sl) (w : World) (h : q17equal.M R v0 v1 w) : Calls Tryz.prog 38 #[(.slice v0.base v0.len v0.cap), (.slice v1.base v1.len v1.cap)] w R := by
  refine aaZ mix_eqd Tryz.func38 (c := q17equal.body) (by kernel_rfl) [.at .bool] (q17equal.ann R) 26 Tryz.ntmps38 [.tmp 4] (by kernel_rfl) (Nat.le_of_ble_eq_true (by kernel_rfl)) ?_ ?_
  · exact ⟨tv, ⟨⟨tv, ⟨⟨tv, tv⟩, tv⟩⟩, ⟨⟨tv, (fun k1 => ⟨fun s w => mq, ⟨⟨tv, ⟨tv, tv⟩⟩, ⟨⟨(show Region.noSelect _ = true by kernel_rfl), ⟨⟨tv, tv⟩, tv⟩⟩, tv⟩⟩⟩)⟩, ⟨tv, tv⟩⟩⟩⟩
  · exact Eq.mp (show q17equal.M R v0 v1 w = _ by kernel_rfl) h
end Go.Proofs.YtbiilejgfihohaaGreat
namespace Go.Proofs.YtbiilejgfihohaaGreat
open Go Go.Cu Go.RowKit
def intoI (n lo hi : Int) : Int := lo + n % (hi - lo + 1)
theorem tmod_fix (n w : Int) (hw : 0 < w) : Int.tmod (Int.tmod n w + w) w = n % w := by
  have h1 : -w < Int.tmod n w := by
    exact Int.lt_tmod_of_pos n hw
  have h2 : Int.tmod n w < w := Int.tmod_lt_of_pos n hw
  rw [Int.tmod_eq_emod_of_nonneg (by omega), Int.add_emod_right]
  have h3 : n = Int.tmod n w + w * Int.tdiv n w := by have := Int.mul_tdiv_add_tmod n w; omega
  have h4 : n % w = (Int.tmod n w + w * Int.tdiv n w) % w := congrArg (· % w) h3
  rw [h4, Int.add_mul_emod_self_left]
theorem into_gv {w : World} {n lo hi : Int} (h1 : -1 ≤ lo) (h2 : lo ≤ hi) (h3 : hi ≤ 65536) (hn : -9223372036854775808 ≤ n) (hn' : n ≤ 9223372036854775807) : Gv Tryz.prog 16 #[.int .i64 n, .int .i64 lo, .int .i64 hi] (.int .i64 (intoI n lo hi)) w := by
  refine q17into.run _ n lo hi w ?_
  unfold q17into.M
  have hw : 0 < hi - lo + 1 := by omega
  rw [acZ (x := hi - lo) (by omega) (by omega), acZ (x := hi - lo + 1) (by omega) (by omega)]
  have b1 : -(hi - lo + 1) < Int.tmod n (hi - lo + 1) := by
    exact Int.lt_tmod_of_pos n hw
  have b2 : Int.tmod n (hi - lo + 1) < hi - lo + 1 := Int.tmod_lt_of_pos n hw
  refine Pu_rem (by omega) ?_
  refine Pu_rem (by omega) ?_
  rw [acZ (x := Int.tmod n (hi - lo + 1) + (hi - lo + 1)) (by omega) (by omega), tmod_fix n _ hw]
  have b3 := Int.emod_nonneg n (show hi - lo + 1 ≠ 0 by omega)
  have b4 := Int.emod_lt_of_pos n hw
  rw [acZ (by omega) (by omega)]
  exact ⟨rfl, Ex.refl _⟩
theorem into_range {n lo hi : Int} (h : lo ≤ hi) : lo ≤ intoI n lo hi ∧ intoI n lo hi ≤ hi := by
  have b3 := Int.emod_nonneg n (show hi - lo + 1 ≠ 0 by omega)
  have b4 := Int.emod_lt_of_pos n (show 0 < hi - lo + 1 by omega)
  unfold intoI
  omega
def I64 (n : Int) : Prop := -9223372036854775808 ≤ n ∧ n ≤ 9223372036854775807
abbrev CodeI : Type := Int × Int × Int × Int × Unit
structure Code64 (n : CodeI) : Prop where
  f : I64 n.1
  b : I64 n.2.1
  k : I64 n.2.2.1
  m : I64 n.2.2.2.1
def cF (n : CodeI) : Int := intoI n.1 0 1
def cB (n : CodeI) : Nat := (intoI n.2.1 0 2).toNat
def cK (n : CodeI) : Nat := (intoI n.2.2.1 1 20).toNat
def cM (n : CodeI) : Nat := (intoI n.2.2.2.1 1 12).toNat
theorem cF_ok (n : CodeI) : cF n = 0 ∨ cF n = 1 := by
  have := into_range (n := n.1) (show (0 : Int) ≤ 1 by omega)
  unfold cF; omega
theorem cB_ok (n : CodeI) : cB n ≤ 2 ∧ intoI n.2.1 0 2 = (cB n : Int) := by
  have := into_range (n := n.2.1) (show (0 : Int) ≤ 2 by omega)
  unfold cB; omega
theorem cK_ok (n : CodeI) : 1 ≤ cK n ∧ cK n ≤ 20 ∧ intoI n.2.2.1 1 20 = (cK n : Int) := by
  have := into_range (n := n.2.2.1) (show (1 : Int) ≤ 20 by omega)
  unfold cK; omega
theorem cM_ok (n : CodeI) : 1 ≤ cM n ∧ cM n ≤ 12 ∧ intoI n.2.2.2.1 1 12 = (cM n : Int) := by
  have := into_range (n := n.2.2.2.1) (show (1 : Int) ≤ 12 by omega)
  unfold cM; omega
theorem made_ok {W0 w : World} {T : Ths} (j : Nat) {n : CodeI} (hS : Sep W0 w T) (hn : Code64 n) :
    Cl Tryz.prog 10 #[.agg #[.int .i64 n.1, .int .i64 n.2.1, .int .i64 n.2.2.1, .int .i64 n.2.2.2.1]] (.tup [.at .ptr, .at (.int .i64), .at (.int .i64)]) (fun x w' => ∃ a T' Q, x = (at0 a.cp, (cK n : Int), (cM n : Int), ()) ∧ Sep W0 w' T' ∧ (∀ q, (∀ i, q ≠ .tm i) → (∀ i, i < 4 → q ≠ .bx (4 * j + i)) → q ≠ .ps 3 → T' q = T q) ∧ Cod T' j a (cF n) (cK n) (cM n) (cB n) Q [] 0) w := by
  refine q17made.run _ n w ?_
  generalize hRR : (fun (e : Ending) (w' : World) => ∃ x : Option Addr × Int × Int × Unit, e = .returned ((Sh.tup [.at .ptr, .at (.int .i64), .at (.int .i64)]).enc x) ∧ ∃ a T' Q, x = (at0 a.cp, (cK n : Int), (cM n : Int), ()) ∧ Sep W0 w' T' ∧ (∀ q, (∀ i, q ≠ .tm i) → (∀ i, i < 4 → q ≠ .bx (4 * j + i)) → q ≠ .ps 3 → T' q = T q) ∧ Cod T' j a (cF n) (cK n) (cM n) (cB n) Q [] 0) = R
  unfold q17made.M
  obtain ⟨k1, k2, k3⟩ := cK_ok n
  obtain ⟨m1, m2, m3⟩ := cM_ok n
  obtain ⟨b1, b2⟩ := cB_ok n
  refine Wr_box fun w1 hB hx1 => ?_
  have hS1 := hS.box (.ps 3) hx1 hB
  generalize hg : w.heap.size = g at hB hS1 ⊢
  rw [show (⟨g, 0, none⟩ : Addr).add 2 = ⟨g, 2, none⟩ from rfl, show (⟨g, 0, none⟩ : Addr).add 3 = ⟨g, 3, none⟩ from rfl, show (⟨g, 0, none⟩ : Addr).add 1 = ⟨g, 1, none⟩ from rfl]
  refine aiZ (c := .int .i64) (x := n.2.2.1) hB (by kernel_rfl) rfl ?_
  refine Cl_gv (d := .one (.at (.int .i64))) (x := intoI n.2.2.1 1 20) (into_gv (by decide) (by decide) (by decide) hn.k.1 hn.k.2) fun w2 hx2 => ?_
  refine aiZ (c := .int .i64) (x := n.2.2.2.1) (hB.ex hx2) (by kernel_rfl) rfl ?_
  refine Cl_gv (d := .one (.at (.int .i64))) (x := intoI n.2.2.2.1 1 12) (into_gv (by decide) (by decide) (by decide) hn.m.1 hn.m.2) fun w3 hx3 => ?_
  have hx13 := (hx1.trans hx2).trans hx3
  have hd := Ex.drew w3
  have hB3 := ((hB.ex hx2).ex hx3).ex hd
  refine apZ (fun w' => Has w' g [.int .i64 n.1, .int .i64 n.2.1, .int .i64 n.2.2.1, .int .i64 n.2.2.2.1] 23) hB3 ?_
  refine akZ (c := .int .i64) (x := n.1) (fun w' h => h) (by kernel_rfl) rfl ?_
  refine akZ (c := .int .i64) (x := n.2.1) (fun w' h => h) (by kernel_rfl) rfl ?_
  refine Cl_gv (d := .one (.at (.int .i64))) (x := intoI n.1 0 1) (into_gv (by decide) (by decide) (by decide) hn.f.1 hn.f.2) fun w4 hx4 => ⟨hB3.ex hx4, ?_⟩
  refine Cl_gv (d := .one (.at (.int .i64))) (x := intoI n.2.1 0 2) (into_gv (by decide) (by decide) (by decide) hn.b.1 hn.b.2) fun w5 hx5 => ⟨(hB3.ex hx4).ex hx5, ?_⟩
  have hx15 := ((hx13.trans hd).trans hx4).trans hx5
  have hS5 := ((((hS1.exx hx2).exx hx3).exx hd).exx hx4).exx hx5
  rw [b2, k3, m3]
  refine aeZ (mnew_ok (j := j) hS5 (cF_ok n) b1 k1 m1 (by omega)) ?_
  rintro _ w6 ⟨a, T', Q, rfl, hS6, hT', hC⟩
  refine ⟨hS6.has ((hT' (.ps 3) (by simp) (by simp)).trans (Ths.up_same _ _ _)), ?_⟩
  unfold q17made.j1
  refine Cd_f ?_
  subst hRR
  exact ⟨_, rfl, a, T', Q, rfl, hS6, fun q h1 h2 h3 => (hT' q h1 h2).trans (Ths.up_ne _ _ h3), hC⟩
theorem equal_gv {w : World} {a b : Sl} {x y : List F8} (ha : Rds f8v w a x) (hb : Rds f8v w b y) (hl : x.length ≤ 140737488355328) : Gv Tryz.prog 38 #[.slice a.base a.len a.cap, .slice b.base b.len b.cap] (.bool (decide (x = y))) w := by
  refine q17equal.run _ a b w ?_
  unfold q17equal.M
  have e1 := ha.1
  have e2 := hb.1
  refine Cd_ne (fun h => ⟨?_, Ex.refl _⟩) (fun h => ?_)
  · rw [decide_eq_false (fun e => h (by rw [e1, e2, e]))]
  have hxy : x.length = y.length := by omega
  unfold q17equal.l1
  refine adZ (fun st w' => ∃ i : Nat, st = (a, b, (i : Int), ()) ∧ i ≤ x.length ∧ Ex w w' ∧ ∀ j, j < i → x[j]? = y[j]?) (fun st _ => (((a.len : Nat) : Int) - st.2.2.1).toNat) ?_ ⟨0, rfl, Nat.zero_le _, Ex.refl _, fun j h => by omega⟩
  rintro k _ w1 ⟨i, rfl, hi, hx, heq⟩ hk
  unfold q17equal.b1
  dsimp only at hk ⊢
  refine abZ (fun hlt => ?_) (fun hge => ?_)
  · obtain ⟨p, hp⟩ := atx (l := x) (i := i) (by omega)
    obtain ⟨q, hq⟩ := atx (l := y) (i := i) (by omega)
    have hx2 := hx.trans (Ex.drew w1)
    refine rdS_ent (ha.ex hx2) (fun w' h => by cases h; exact ⟨x, ha.ex hx2, hp⟩) hp ?_
    refine rdS_ent (hb.ex hx2) (fun w' h => by cases h; exact ⟨y, hb.ex hx2, hq⟩) hq ?_
    refine Cd_ne (fun hne => ⟨?_, hx2⟩) (fun he => ?_)
    · rw [decide_eq_false (fun e => hne (by rw [e, hq] at hp; rw [Option.some.inj hp]))]
    · have hpq : p = q := BitVec.eq_of_toNat_eq (by omega)
      rw [acZ (by omega) (by omega), show (i : Int) + 1 = ((i + 1 : Nat) : Int) by omega]
      refine hk _ _ ⟨i + 1, rfl, by omega, hx2, fun j hj => ?_⟩ (by dsimp only; omega)
      by_cases hji : j = i
      · rw [hji, hp, hq, hpq]
      · exact heq j (by omega)
  · refine ⟨?_, hx⟩
    rw [decide_eq_true (List.ext_getElem? fun j => ?_)]
    by_cases hj : j < i
    · exact heq j hj
    · rw [List.getElem?_eq_none (by omega), List.getElem?_eq_none (by omega)]
theorem alike_gv {w : World} {a b : Sl} {ha hb : List Sl} {A B : Mtx} (hA : MatR w a ha A) (hB : MatR w b hb B) (hl : A.length ≤ 65536) (hrl : ∀ r ∈ A, r.length ≤ 140737488355328) : Gv Tryz.prog 20 #[.slice a.base a.len a.cap, .slice b.base b.len b.cap] (.bool (decide (A = B))) w := by
  refine q17alike.run _ a b w ?_
  unfold q17alike.M
  have e1 := hA.hdr.1
  have e2 := hB.hdr.1
  have e3 := hA.len
  have e4 := hB.len
  refine Cd_ne (fun h => ⟨?_, Ex.refl _⟩) (fun h => ?_)
  · rw [decide_eq_false (fun e => h (by rw [e1, e2, e3, e4, e]))]
  have hxy : A.length = B.length := by omega
  unfold q17alike.l1
  refine adZ (fun st w' => ∃ i : Nat, st = (a, b, (i : Int), ()) ∧ i ≤ A.length ∧ Ex w w' ∧ ∀ j, j < i → A[j]? = B[j]?) (fun st _ => (((a.len : Nat) : Int) - st.2.2.1).toNat) ?_ ⟨0, rfl, Nat.zero_le _, Ex.refl _, fun j h => by omega⟩
  rintro k _ w1 ⟨i, rfl, hi, hx, heq⟩ hk
  unfold q17alike.b1
  dsimp only at hk ⊢
  refine abZ (fun hlt => ?_) (fun hge => ?_)
  · obtain ⟨p, hp⟩ := atx (l := A) (i := i) (by omega)
    obtain ⟨q, hq⟩ := atx (l := B) (i := i) (by omega)
    obtain ⟨gp, hgp⟩ := atx (l := ha) (i := i) (by omega)
    obtain ⟨gq, hgq⟩ := atx (l := hb) (i := i) (by omega)
    have hx2 := hx.trans (Ex.drew w1)
    have hA2 := hA.ex hx2
    have hB2 := hB.ex hx2
    refine apZ (fun w' => MatR w' a ha A ∧ MatR w' b hb B) ⟨hA2, hB2⟩ ?_
    refine rdS_hdr hA2.hdr (fun w' h => h.1.hdr) hgp ?_
    refine rdS_hdr hB2.hdr (fun w' h => h.2.hdr) hgq ?_
    refine Cl_gv (d := .one (.at .bool)) (x := decide (p = q)) (equal_gv (hA2.row i gp p hgp hp) (hB2.row i gq q hgq hq) (hrl p (List.mem_of_getElem? hp))) fun w3 hx3 => ⟨⟨hA2.ex hx3, hB2.ex hx3⟩, ?_⟩
    refine Cd_not (fun hne => ⟨?_, hx2.trans hx3⟩) (fun he => ?_)
    · rw [decide_eq_false (fun e => of_decide_eq_false hne (by rw [e, hq] at hp; exact (Option.some.inj hp).symm))]
    · rw [acZ (by omega) (by omega), show (i : Int) + 1 = ((i + 1 : Nat) : Int) by omega]
      refine hk _ _ ⟨i + 1, rfl, by omega, hx2.trans hx3, fun j hj => ?_⟩ (by dsimp only; omega)
      by_cases hji : j = i
      · rw [hji, hp, hq, of_decide_eq_true he]
      · exact heq j (by omega)
  · refine ⟨?_, hx⟩
    rw [decide_eq_true (List.ext_getElem? fun j => ?_)]
    by_cases hj : j < i
    · exact heq j hj
    · rw [List.getElem?_eq_none (by omega), List.getElem?_eq_none (by omega)]
theorem copied_ok {W0 w : World} {T : Ths} (ko : Ky) {s : Sl} {hs : List Sl} {M : Mtx} (hS : Sep W0 w T) (hR : Keep W0 T (fun q => q = ko) (fun w => MatR w s hs M)) (hl : M.length ≤ 65536) (hrl : ∀ r ∈ M, r.length ≤ 140737488355328) :
    Cl Tryz.prog 18 #[.slice s.base s.len s.cap] (.one (.at .sl)) (fun s' w' => ∃ hs', Sep W0 w' (T.up ko (ShT s' hs' M))) w := by
  refine q17copied.run _ s w ?_
  generalize hRR : (fun (e : Ending) (w' : World) => ∃ s' : Sl, e = .returned ((Sh.one (.at .sl)).enc s') ∧ ∃ hs', Sep W0 w' (T.up ko (ShT s' hs' M))) = R
  unfold q17copied.M
  have hM := hR.here hS
  have e1 := hM.hdr.1
  have e2 := hM.len
  refine Wr_make (f := slV) (z := ⟨none, 0, 0⟩) tBB iS rfl M.length (by omega) (by omega) (by omega) (by omega) fun t w1 ht hB1 hx1 => ?_
  have hO1 : Own slV 24 w.heap.size w1 t (List.replicate M.length ⟨none, 0, 0⟩) := by rw [ht]; exact own_of_has (by simp) (by omega) hB1 (Nat.le_refl _)
  have hS1 := sh_init (k := ko) hS hx1 hO1
  unfold q17copied.l1
  refine adZ (fun st w' => ∃ (i : Nat) (hs' : List Sl), st = (s, t, (i : Int), ()) ∧ i ≤ M.length ∧ Sep W0 w' (T.up ko (ShT t hs' (M.take i ++ List.replicate (M.length - i) [])))) (fun st _ => (((s.len : Nat) : Int) - st.2.2.1).toNat) ?_ ⟨0, _, rfl, Nat.zero_le _, by simpa using hS1⟩
  rintro k _ w2 ⟨i, hs', rfl, hi, hS2⟩ hk
  unfold q17copied.b1
  dsimp only at hk ⊢
  refine abZ (fun hlt => ?_) (fun hge => ?_)
  · obtain ⟨r, hr⟩ := atx (l := M) (i := i) (by omega)
    obtain ⟨g, hg⟩ := atx (l := hs) (i := i) (by omega)
    have hM2 : MatR w2 s hs M := hR w2 _ hS2 (fun q hq => Ths.up_ne _ _ hq)
    refine Wr_lit (f := f8v) (e := 5) (base := w2.heap.size) [] (by kernel_rfl) (Nat.le_refl _) (by simp) fun s4 w4 ho4 hx4 _ => ?_
    refine rd_hdr (hM2.hdr.ex hx4) hg ?_
    have hrr := hrl r (List.mem_of_getElem? hr)
    refine Wr_append (f := f8v) (l := []) (base := w2.heap.size) tB iB rfl ho4 ((hM2.row i g r hg hr).ex hx4) (fun _ => rfl) (by simp; omega) (by simp; omega) hx4.size fun d w5 ho hm hin => ?_
    rw [List.nil_append] at ho
    have hx5 := hx4.into hm (fun b hb => (ho4.base b hb).1)
    obtain ⟨q1, q2, _⟩ := sh_get hS2 (Ths.up_same _ _ _)
    have hcl : (M.take i ++ List.replicate (M.length - i) ([] : List F8)).length = M.length := by rw [List.length_append, List.length_take, List.length_replicate]; omega
    refine Wu_set (f := slV) (x := d) (i := i) (q1.ex hx5) (by omega) tBB sS sS rfl rfl fun w6 hO6 hm6 => ?_
    have hS6 := sh_new hS2 (Ths.up_same _ _ _) hx5 ho (by omega) hO6 hm6
    rw [Ths.up_up] at hS6
    have e : (M.take i ++ List.replicate (M.length - i) ([] : List F8)).set i r = M.take (i + 1) ++ List.replicate (M.length - (i + 1)) [] := by
      have h1 : List.replicate (M.length - i) ([] : List F8) = (List.replicate M.length []).drop i := by rw [List.drop_replicate]
      have h2 : List.replicate (M.length - (i + 1)) ([] : List F8) = (List.replicate M.length []).drop (i + 1) := by rw [List.drop_replicate]
      rw [h1, h2]
      exact stepG (by simp) hr
    rw [e] at hS6
    rw [acZ (by omega) (by omega), show (i : Int) + 1 = ((i + 1 : Nat) : Int) by omega]
    exact hk _ _ ⟨i + 1, _, rfl, by omega, hS6⟩ (by dsimp only; omega)
  · have hil : i = M.length := by omega
    subst hil
    subst hRR
    refine ⟨t, rfl, hs', ?_⟩
    simpa using hS2
end Go.Proofs.YtbiilejgfihohaaGreat
namespace Go.Proofs.YtbiilejgfihohaaGreat
open Go Go.Cu Go.RowKit
abbrev bV (b : Bool) : Value := .bool b
theorem tO : Tryz.prog.underlying 36 = some (.slice 4) := by kernel_rfl
theorem sO : sizeIs Tryz.prog 4 1 = true := by kernel_rfl
theorem iO : (Tryz.prog.info? 4).map (fun i => (i.zero, i.size, i.bytes)) = some (some (.bool false), 1, 1) := by kernel_rfl
theorem oO : isOne Tryz.prog 4 = true := by kernel_rfl
theorem rd_bool {w : World} {s : Sl} {l : List Bool} {ik : IntKind} {i : Nat} {x : Bool} {K : Bool → World → Prop} (hr : Rds bV w s l) (hx : l[i]? = some x) (hk : K x w) :
    Pu Tryz.prog (Instr.indexAt 36 (.slice s.base s.len s.cap) (.int ik (i : Int))) (.one (.at .addr)) (fun a w1 => Rd Tryz.prog (Instr.loadAt 4 (.pointer (some a))) (.one (.at .bool)) K w1) w := by
  have hlt := (List.getElem?_eq_some_iff.1 hx).1
  refine Pu_idx hr tO sO (by omega) (by omega) fun a y hy hc _ => ?_
  rw [Int.toNat_natCast, hx] at hy
  cases hy
  exact Rd_one (c := .bool) oO hc hk
theorem rd_i64 {w : World} {s : Sl} {l : List Int} {ik : IntKind} {i : Nat} {x : Int} {K : Int → World → Prop} (hr : Rds i64v w s l) (hx : l[i]? = some x) (hk : K x w) :
    Pu Tryz.prog (Instr.indexAt 25 (.slice s.base s.len s.cap) (.int ik (i : Int))) (.one (.at .addr)) (fun a w1 => Rd Tryz.prog (Instr.loadAt 3 (.pointer (some a))) (.one (.at (.int .i64))) K w1) w := by
  have hlt := (List.getElem?_eq_some_iff.1 hx).1
  refine Pu_idx hr tI sI (by omega) (by omega) fun a y hy hc _ => ?_
  rw [Int.toNat_natCast, hx] at hy
  cases hy
  exact Rd_one (c := .int .i64) (by kernel_rfl) hc hk
def nextF (B : List Bool) (n : Nat) : Nat → Nat → Nat
  | 0, x => x
  | f + 1, x => if B.getD x false then nextF B n f ((x + 1) % n) else x
def pickP (P : List Int) (i : Nat) : Int := if i < P.length then P.getD i 0 else (i : Int)
def pickB (n : Nat) (P : List Int) : Nat → List Bool
  | 0 => List.replicate n false
  | i + 1 => (pickB n P i).set (nextF (pickB n P i) n n (intoI (pickP P i) 0 ((n : Int) - 1)).toNat) true
def trues (B : List Bool) : Nat := (B.filter id).length
def muP (p n x : Nat) : Nat := if x ≤ p then p - x else p + n - x
theorem muP_step {p n x : Nat} (hp : p < n) (hx : x < n) (h : x ≠ p) : muP p n ((x + 1) % n) + 1 = muP p n x ∧ (x + 1) % n < n := by
  by_cases e : x + 1 = n
  · rw [e, Nat.mod_self]
    unfold muP
    rw [if_pos (Nat.zero_le _), if_neg (by omega)]
    omega
  · rw [Nat.mod_eq_of_lt (by omega)]
    unfold muP
    by_cases e2 : x ≤ p
    · rw [if_pos e2, if_pos (by omega)]; omega
    · rw [if_neg e2, if_neg (by omega)]; omega
theorem muP_lt {p n x : Nat} (hp : p < n) (hx : x < n) : muP p n x < n := by
  unfold muP; split <;> omega
theorem nextF_ok {B : List Bool} {n p : Nat} (hp : p < n) (hB : B.getD p false = false) : ∀ (f x : Nat), x < n → muP p n x < f → nextF B n f x < n ∧ B.getD (nextF B n f x) false = false
  | 0, x, _, h => by omega
  | f + 1, x, hx, h => by
    unfold nextF
    by_cases e : B.getD x false = true
    · rw [if_pos e]
      have hne : x ≠ p := fun e' => by rw [e', hB] at e; cases e
      have := muP_step hp hx hne
      exact nextF_ok hp hB f _ this.2 (by omega)
    · rw [if_neg e]
      exact ⟨hx, by simpa using e⟩
theorem trues_set : ∀ {B : List Bool} {i : Nat}, i < B.length → B.getD i false = false → trues (B.set i true) = trues B + 1
  | [], i, h, _ => by simp at h
  | b :: B, 0, h, h0 => by
    have : b = false := by simpa using h0
    subst this
    simp [trues]
  | b :: B, i + 1, h, h0 => by
    have ih := trues_set (B := B) (i := i) (by simpa using h) (by simpa using h0)
    unfold trues at ih ⊢
    rw [List.set_cons_succ]
    cases b
    · simpa using ih
    · simpa using ih
theorem trues_false {n : Nat} : ∀ {B : List Bool}, B.length = n → trues B < n → ∃ p, p < n ∧ B.getD p false = false := by
  induction n with
  | zero => intro B _ h; omega
  | succ n ih =>
    intro B hl h
    match B, hl with
    | b :: B, hl =>
      cases b with
      | false => exact ⟨0, by omega, rfl⟩
      | true =>
        obtain ⟨p, h1, h2⟩ := ih (B := B) (by simpa using hl) (by unfold trues at h ⊢; simp at h; omega)
        exact ⟨p + 1, by omega, by simpa using h2⟩
theorem pickB_ok {n : Nat} (P : List Int) (hn : 1 ≤ n) : ∀ i, i ≤ n → (pickB n P i).length = n ∧ trues (pickB n P i) = i
  | 0, _ => ⟨by simp [pickB], by simp [pickB, trues]⟩
  | i + 1, h => by
    obtain ⟨h1, h2⟩ := pickB_ok P hn i (by omega)
    obtain ⟨p, hp1, hp2⟩ := trues_false h1 (by omega)
    have hr := into_range (n := pickP P i) (show (0 : Int) ≤ (n : Int) - 1 by omega)
    have := nextF_ok hp1 hp2 n (intoI (pickP P i) 0 ((n : Int) - 1)).toNat (by omega) (muP_lt hp1 (by omega))
    unfold pickB
    exact ⟨by rw [List.length_set]; exact h1, by rw [trues_set (by rw [h1]; exact this.1) this.2, h2]⟩
theorem pick_sep_ok {W0 w : World} {T : Ths} (ko : Ky) {sp : Sl} {P : List Int} {n c : Nat} (hS : Sep W0 w T) (hR : Keep W0 T (fun q => q = ko) (fun w => Rds i64v w sp P)) (hP : ∀ x ∈ P, I64 x) (hn1 : 1 ≤ n) (hn2 : n ≤ 65536) (hc : c ≤ n) :
    Cl Tryz.prog 15 #[natV n, natV c, .slice sp.base sp.len sp.cap] (.one (.at .sl)) (fun s w' => Sep W0 w' (T.up ko (Owt bV 4 s (pickB n P c)))) w := by
  refine q17pick.run _ (n : Int) (c : Int) sp w ?_
  generalize hRR : (fun (e : Ending) (w' : World) => ∃ s : Sl, e = .returned ((Sh.one (.at .sl)).enc s) ∧ Sep W0 w' (T.up ko (Owt bV 4 s (pickB n P c)))) = R
  unfold q17pick.M
  refine Wr_make (f := bV) (z := false) tO iO rfl n (by omega) (by omega) rfl rfl fun s w1 hs1 hB1 hx1 => ?_
  have hO1 : Own bV 4 w.heap.size w1 s (List.replicate n false) := by rw [hs1]; exact own_of_has (by simp) (by omega) hB1 (Nat.le_refl _)
  have hS1 := hS.newOwn ko hx1 hO1
  unfold q17pick.l1
  refine adZ (fun st w' => ∃ i : Nat, st = ((n : Int), (c : Int), sp, s, (i : Int), ()) ∧ i ≤ c ∧ Sep W0 w' (T.up ko (Owt bV 4 s (pickB n P i)))) (fun st _ => ((c : Int) - st.2.2.2.2.1).toNat) ?_ ⟨0, rfl, Nat.zero_le _, hS1⟩
  rintro k _ w2 ⟨i, rfl, hi, hS2⟩ hk
  unfold q17pick.b1
  dsimp only at hk ⊢
  obtain ⟨hBl, hBt⟩ := pickB_ok P hn1 i (by omega)
  refine abZ (fun hlt => ?_) (fun hge => ?_)
  · have step : I64 (pickP P i) → q17pick.j1 R k (n : Int) (c : Int) sp s (i : Int) (pickP P i) w2 := by
      intro h64
      unfold q17pick.j1
      rw [acZ (x := (n : Int) - 1) (by omega) (by omega)]
      refine Cl_gv (d := .one (.at (.int .i64))) (x := intoI (pickP P i) 0 ((n : Int) - 1)) (into_gv (by omega) (by omega) (by omega) h64.1 h64.2) fun w3 hx3 => ?_
      have hS3 := hS2.exx hx3
      obtain ⟨p, hp1, hp2⟩ := trues_false hBl (by omega)
      have hr := into_range (n := pickP P i) (show (0 : Int) ≤ (n : Int) - 1 by omega)
      have hpb : pickB n P (i + 1) = (pickB n P i).set (nextF (pickB n P i) n n (intoI (pickP P i) 0 ((n : Int) - 1)).toNat) true := rfl
      generalize hx0 : (intoI (pickP P i) 0 ((n : Int) - 1)).toNat = x0 at hpb
      rw [show intoI (pickP P i) 0 ((n : Int) - 1) = (x0 : Int) by omega]
      generalize hBe : pickB n P i = B at hBl hBt hS3 hp2 hpb
      unfold q17pick.l2
      refine adZ (fun st w' => ∃ (x f : Nat), st = ((n : Int), (c : Int), sp, s, (i : Int), (x : Int), ()) ∧ x < n ∧ muP p n x < f ∧ nextF B n f x = nextF B n n x0 ∧ w' = w3) (fun st _ => muP p n st.2.2.2.2.2.1.toNat) ?_ ⟨x0, n, rfl, by omega, muP_lt hp1 (by omega), rfl, rfl⟩
      rintro k2 _ w4 ⟨x, f, rfl, hx, hmu, hnf, rfl⟩ hk2
      unfold q17pick.b2
      dsimp only at hk2 ⊢
      have hO4 := hS3.owt (Ths.up_same _ _ _)
      obtain ⟨b, hb⟩ := atx (l := B) (i := x) (by omega)
      have hbD : B.getD x false = b := by rw [List.getD_eq_getElem?_getD, hb]; rfl
      obtain ⟨f', rfl⟩ : ∃ f', f = f' + 1 := ⟨f - 1, by omega⟩
      have hnf' : nextF B n (f' + 1) x = if B.getD x false then nextF B n f' ((x + 1) % n) else x := rfl
      refine rd_bool hO4.rds hb ?_
      refine Cd_of (fun hbt => ?_) (fun hbf => ?_)
      · rw [acZ (by omega) (by omega), show (x : Int) + 1 = ((x + 1 : Nat) : Int) by omega]
        refine Pu_rem (by omega) ?_
        have em : Int.tmod ((x + 1 : Nat) : Int) (n : Int) = (((x + 1) % n : Nat) : Int) := by
          rw [Int.tmod_eq_emod_of_nonneg (by omega)]; norm_cast
        rw [em]
        have hne : x ≠ p := fun e => by rw [e, hp2] at hbD; rw [← hbD] at hbt; cases hbt
        have hms := muP_step hp1 hx hne
        refine hk2 _ _ ⟨(x + 1) % n, f', rfl, hms.2, by omega, ?_, rfl⟩ ?_
        · rw [← hnf, hnf', hbD, hbt, if_pos rfl]
        · dsimp only
          rw [Int.toNat_natCast, Int.toNat_natCast]; omega
      · have hat : nextF B n n x0 = x := by rw [← hnf, hnf', hbD, hbf, if_neg (by simp)]
        refine Wu_set (f := bV) (x := true) (i := x) hO4 (by omega) tO sO sO rfl rfl fun w5 hO5 hm5 => ?_
        have hS5 := hS3.grow (Ths.up_same _ _ _) hO5 hm5 (fun b hb => .inl hb)
        rw [Ths.up_up] at hS5
        rw [acZ (by omega) (by omega), show (i : Int) + 1 = ((i + 1 : Nat) : Int) by omega]
        refine hk _ _ ⟨i + 1, rfl, by omega, ?_⟩ (by dsimp only; omega)
        rw [hpb, hat]
        exact hS5
    refine abZ (fun hp => ?_) (fun hp => ?_)
    · have hPr : Rds i64v w2 sp P := hR w2 _ hS2 (fun q hq => Ths.up_ne _ _ hq)
      have hPl := hPr.1
      obtain ⟨x, hx⟩ := atx (l := P) (i := i) (by omega)
      have e : pickP P i = x := by unfold pickP; rw [if_pos (by omega), List.getD_eq_getElem?_getD, hx]; rfl
      refine rd_i64 hPr hx ?_
      rw [e] at step
      exact step (hP x (List.mem_of_getElem? hx))
    · have hPr : Rds i64v w2 sp P := hR w2 _ hS2 (fun q hq => Ths.up_ne _ _ hq)
      have hPl := hPr.1
      have e : pickP P i = (i : Int) := by unfold pickP; rw [if_neg (by omega)]
      rw [e] at step
      exact step ⟨by omega, by omega⟩
  · have hic : i = c := by omega
    subst hic
    subst hRR
    exact ⟨s, rfl, hS2⟩
end Go.Proofs.YtbiilejgfihohaaGreat
namespace Go.Proofs.YtbiilejgfihohaaGreat
open Go Go.Cu Go.RowKit
def givenM (Fm : Mtx) : List Nat := (List.range Fm.length).filter (fun i => decide ((Fm.getD i []).length ≠ 0))
theorem givenL_eq {w : World} {s : Sl} {hs : List Sl} {M : Mtx} (h : MatR w s hs M) : givenL hs M.length = givenM M := by
  unfold givenL givenM
  refine List.filter_congr fun i hi => ?_
  have hil := List.mem_range.1 hi
  obtain ⟨r, hr⟩ := atx hil
  obtain ⟨g, hg⟩ := atx (l := hs) (i := i) (by rw [h.len]; exact hil)
  have hl := (h.row i g r hg hr).1
  have e : M.getD i [] = r := by rw [List.getD_eq_getElem?_getD, hr]; rfl
  rw [e]
  by_cases h0 : r.length = 0
  · have e2 : decide (r.length ≠ 0) = false := decide_eq_false (fun h => h h0)
    rw [e2]
    exact decide_eq_false (fun ⟨g', hg', h'⟩ => by rw [hg] at hg'; cases hg'; omega)
  · have e2 : decide (r.length ≠ 0) = true := decide_eq_true h0
    rw [e2]
    exact decide_eq_true ⟨g, hg, by omega⟩
def GiveR (W0 : World) (T : Ths) (j : Nat) (a : CodA) (f : Int) (k m b n : Nat) (Q M : Mtx) (es : List Tr.Ent) (clock : Int) (ks : Ky) (s : Sl) (da : Bool) (x : Int) (w' : World) : Prop :=
  (missL M = [] ∧ x = 0 ∧ Sep W0 w' T) ∨ (m < (missL M).length ∧ x = 9 ∧ Sep W0 w' T) ∨
      ((missL M).length ≤ m ∧ x = 0 ∧ ∃ T' hs' D es' clock', Sep W0 w' T' ∧ decM k (gM k Q) (presL k (k + m) (missL M)) (missL M) = some D ∧ T' ks = ShT s hs' (giveM da k n (usedM M (presL k (k + m) (missL M))) ((missL M).zip D) M) ∧ Cod T' j a f k m b Q es' clock' ∧ clock' ≤ clock + 1 ∧ (es = [] → es'.length = 1) ∧ ∀ q, ¬ GvK j q → q ≠ ks → T' q = T q)
theorem recon_ok {W0 w : World} {T : Ths} {j : Nat} {a : CodA} {f : Int} {k m b n : Nat} {Q M : Mtx} {es : List Tr.Ent} {clock : Int} {ks : Ky} {s : Sl} {hs : List Sl} (hS : Sep W0 w T) (hC : Cod T j a f k m b Q es clock) (hk : T ks = ShT s hs M) (hkb : ∀ i, ks ≠ .bx i) (hkg : ¬ GvK j ks)
    (hM : M.length = k + m) (hMn : ∀ x ∈ M, x.length = 0 ∨ x.length = n) (hne : (missL M).length < k + m) (hn1 : 1 ≤ n) (hn2 : n ≤ 140737488355328) (hcl : clock < 4611686018427387904) :
    Cl Tryz.prog 21 #[.pointer (at0 a.cp), .slice s.base s.len s.cap] (.one (.at (.int .i64))) (GiveR W0 T j a f k m b n Q M es clock ks s false) w := by
  refine mC_Reconstruct.run _ (at0 a.cp) s w ?_
  unfold mC_Reconstruct.M
  exact aeZ (give_ok false hS hC hk hkb hkg hM hMn hne hn1 hn2 hcl) fun x w' h => ⟨x, rfl, h⟩
structure Lit (w0 w : World) (hs : List Sl) (M : Mtx) : Prop where
  ex : Ex w0 w
  len : hs.length = M.length
  row : ∀ (i : Nat) (h : Sl) (r : List F8), hs[i]? = some h → M[i]? = some r → Own f8v 5 w0.heap.size w h r
  dis : ∀ (i j : Nat) (h h' : Sl), i ≠ j → hs[i]? = some h → hs[j]? = some h' → ∀ b, SlIn h b → ¬ SlIn h' b
theorem Lit.nil (w : World) : Lit w w [] [] := ⟨Ex.refl _, rfl, fun i h r h1 _ => (by simp at h1), fun i j h h' _ h1 _ => (by simp at h1)⟩
theorem Lit.low {w0 w : World} {hs : List Sl} {M : Mtx} (h : Lit w0 w hs M) {i : Nat} {g : Sl} (hg : hs[i]? = some g) {b : Nat} (hb : SlIn g b) : w0.heap.size ≤ b ∧ b < w.heap.size := by
  obtain ⟨r, hr⟩ := atx (l := M) (i := i) (by rw [← h.len]; exact (List.getElem?_eq_some_iff.1 hg).1)
  exact (h.row i g r hg hr).base b hb
theorem snoc_at {α : Type} {l : List α} {x y : α} {i : Nat} (h : (l ++ [x])[i]? = some y) : (i < l.length ∧ l[i]? = some y) ∨ (i = l.length ∧ y = x) := by
  by_cases hi : i < l.length
  · rw [List.getElem?_append_left hi] at h; exact .inl ⟨hi, h⟩
  · rw [List.getElem?_append_right (by omega)] at h
    have h0 : i - l.length = 0 := by
      rcases Nat.eq_zero_or_pos (i - l.length) with h1 | h1
      · exact h1
      · rw [List.getElem?_eq_none (by simp; omega)] at h; cases h
    rw [h0] at h
    exact .inr ⟨by omega, (by simpa using h.symm)⟩
theorem Lit.snoc {w0 w w' : World} {hs : List Sl} {M : Mtx} {h : Sl} {r : List F8} (hL : Lit w0 w hs M) (ho : Own f8v 5 w.heap.size w' h r) (hx : Ex w w') : Lit w0 w' (hs ++ [h]) (M ++ [r]) := by
  have hs0 := hL.ex.size
  refine ⟨hL.ex.trans hx, by simp [hL.len], fun i g q h1 h2 => ?_, fun i j g g' hne h1 h2 b hb hb' => ?_⟩
  · rcases snoc_at h1 with ⟨a1, a2⟩ | ⟨a1, rfl⟩
    · rw [List.getElem?_append_left (by rw [← hL.len]; exact a1)] at h2
      exact (hL.row i g q a2 h2).ex hx
    · rw [a1, hL.len, List.getElem?_append_right (Nat.le_refl _), Nat.sub_self] at h2
      have : r = q := by simpa using h2
      subst this
      exact ho.weak hs0
  · rcases snoc_at h1 with ⟨a1, a2⟩ | ⟨a1, rfl⟩
    · rcases snoc_at h2 with ⟨c1, c2⟩ | ⟨c1, rfl⟩
      · exact hL.dis i j g g' hne a2 c2 b hb hb'
      · have := (hL.low a2 hb).2
        have := (ho.base b hb').1
        omega
    · rcases snoc_at h2 with ⟨c1, c2⟩ | ⟨c1, rfl⟩
      · have := (hL.low c2 hb').2
        have := (ho.base b hb).1
        omega
      · omega
theorem Lit.fin {W0 w0 w w' : World} {T : Ths} {s : Sl} {hs : List Sl} {M : Mtx} (ks : Ky) (hS : Sep W0 w0 T) (hL : Lit w0 w hs M) (ho : Own slV 24 w.heap.size w' s hs) (hx : Ex w w') : Sep W0 w' (T.up ks (ShT s hs M)) := by
  have hs0 := hL.ex.size
  refine hS.new ks (G := fun b => w0.heap.size ≤ b ∧ b < w'.heap.size) (hL.ex.trans hx) ⟨ho.weak (Nat.zero_le _), hL.len, fun i h r h1 h2 => ((hL.row i h r h1 h2).ex hx).weak (Nat.zero_le _), hL.dis, fun i h h1 b hb => ⟨fun hb' => ?_, ?_⟩, fun b hb => ?_⟩ (fun b hb => hb)
  · have := (hL.low h1 hb).2
    have := (ho.base b hb').1
    omega
  · have := hL.low h1 hb
    exact ⟨this.1, Nat.lt_of_lt_of_le this.2 hx.size⟩
  · have := ho.base b hb
    exact ⟨Nat.le_trans hs0 this.1, this.2⟩
theorem Wr_row2 {w0 w : World} {hs : List Sl} {M : Mtx} {p q : F8} {a b : Int} {K : Sl → World → Prop} (ha : a = (p.toNat : Int)) (hb : b = (q.toNat : Int)) (hL : Lit w0 w hs M) (hk : ∀ h w', Lit w0 w' (hs ++ [h]) (M ++ [[p, q]]) → K h w') :
    Wr Tryz.prog (Instr.buildSlice 24 2 #[(0, (.int .u8 a)), (1, (.int .u8 b))]) (.one (.at .sl)) K w := by
  subst ha hb
  exact Wr_lit (f := f8v) (e := 5) (base := w.heap.size) [p, q] (by kernel_rfl) (Nat.le_refl _) (by simp) fun s w' ho hx _ => hk s w' (hL.snoc ho hx)
theorem Wr_row0 {w0 w : World} {hs : List Sl} {M : Mtx} {K : Sl → World → Prop} (hL : Lit w0 w hs M) (hk : ∀ h w', Lit w0 w' (hs ++ [h]) (M ++ [[]]) → K h w') :
    Wr Tryz.prog (Instr.buildSlice 24 0 #[]) (.one (.at .sl)) K w :=
  Wr_lit (f := f8v) (e := 5) (base := w.heap.size) [] (by kernel_rfl) (Nat.le_refl _) (by simp) fun s w' ho hx _ => hk s w' (hL.snoc ho hx)
theorem Wr_hd3 {W0 w0 w : World} {T : Ths} {a b c : Sl} {M : Mtx} {K : Sl → World → Prop} (ks : Ky) (hS : Sep W0 w0 T) (hL : Lit w0 w [a, b, c] M) (hk : ∀ s w', Sep W0 w' (T.up ks (ShT s [a, b, c] M)) → K s w') :
    Wr Tryz.prog (Instr.buildSlice 30 3 #[(0, (.slice a.base a.len a.cap)), (1, (.slice b.base b.len b.cap)), (2, (.slice c.base c.len c.cap))]) (.one (.at .sl)) K w :=
  Wr_lit (f := slV) (e := 24) (base := w.heap.size) [a, b, c] (by kernel_rfl) (Nat.le_refl _) (by simp) fun s w' ho hx _ => hk s w' (hL.fin ks hS ho hx)
theorem Wr_hd2 {W0 w0 w : World} {T : Ths} {a b : Sl} {M : Mtx} {K : Sl → World → Prop} (ks : Ky) (hS : Sep W0 w0 T) (hL : Lit w0 w [a, b] M) (hk : ∀ s w', Sep W0 w' (T.up ks (ShT s [a, b] M)) → K s w') :
    Wr Tryz.prog (Instr.buildSlice 30 2 #[(0, (.slice a.base a.len a.cap)), (1, (.slice b.base b.len b.cap))]) (.one (.at .sl)) K w :=
  Wr_lit (f := slV) (e := 24) (base := w.heap.size) [a, b] (by kernel_rfl) (Nat.le_refl _) (by simp) fun s w' ho hx _ => hk s w' (hL.fin ks hS ho hx)
def JK (q : Ky) : Prop := GnK q ∨ (∃ i, q = .rs i) ∨ (∃ i, q = .rk i) ∨ (∃ i, q = .ps i) ∨ (∃ i, q = .pk i) ∨ ∃ i, q = .mx 1 i
theorem gv_jk {j : Nat} {q : Ky} (h : GvK j q) : JK q ∨ q = .bx (4 * j + 3) := by
  unfold GvK PlK at h
  unfold JK
  rcases h with (h | h | h | h | h | h | h) | h | h | h
  · exact .inl (.inl h)
  · exact .inr h
  · exact .inl (.inr (.inl ⟨_, h⟩))
  · exact .inl (.inr (.inl ⟨_, h⟩))
  · exact .inl (.inr (.inr (.inr (.inl ⟨_, h⟩))))
  · exact .inl (.inr (.inr (.inr (.inl ⟨_, h⟩))))
  · exact .inl (.inr (.inr (.inr (.inr (.inr ⟨_, h⟩)))))
  · exact .inl (.inr (.inl ⟨_, h⟩))
  · exact .inl (.inr (.inr (.inl ⟨_, h⟩)))
  · exact .inl (.inr (.inr (.inr (.inl ⟨_, h⟩))))
theorem up_jk {q : Ky} (h : UpK q) : JK q := by
  rcases h with h | h
  · exact .inr (.inr (.inl ⟨_, h⟩))
  · exact .inr (.inr (.inl ⟨_, h⟩))
abbrev QA : Mtx := [[3#8, 2#8]]
abbrev MA0 : Mtx := [[5#8, 0#8], [7#8, 1#8], [0#8, 0#8]]
abbrev MA1 : Mtx := [[5#8, 0#8], [7#8, 1#8], [1#8, 2#8]]
abbrev MA2 : Mtx := [[], [7#8, 1#8], [1#8, 2#8]]
abbrev MA3 : Mtx := [[5#8, 0#8], [7#8, 1#8], [3#8, 2#8]]
abbrev FA : Mtx := [[], [6#8, 1#8]]
theorem aw_par : parM 0 2 1 = some QA := by decide +kernel
theorem aw_enc : encM 0 2 2 2 QA MA0 = MA1 := by decide +kernel
theorem aw_agr : agreeM 0 2 2 QA (MA1.take 2) (MA1.drop 2) = true := by decide +kernel
theorem aw_dec : decM 2 (gM 2 QA) [1, 2] [0] = some [[245#8, 244#8]] := by decide +kernel
theorem aw_miss : missL MA2 = [0] := by decide +kernel
theorem aw_pres : presL 2 3 [0] = [1, 2] := by decide +kernel
theorem aw_give : giveM false 2 2 (usedM MA2 [1, 2]) ([0].zip [[245#8, 244#8]]) MA2 = MA1 := by decide +kernel
theorem aw_given : givenM FA = [1] := by decide +kernel
theorem aw_upd : MA1.take 2 ++ updM 0 2 QA MA1 FA [1] (MA1.drop 2) = MA3 := by decide +kernel
theorem shp_of {M : Mtx} {a n : Nat} (h : M.length = a ∧ M.all (fun r => decide (r.length = n)) = true) : Shp M a n := ⟨h.1, fun r hr => of_decide_eq_true (List.all_eq_true.1 h.2 r hr)⟩
theorem awake_ok {W0 w : World} {T : Ths} (hS : Sep W0 w T) : Cl Tryz.prog 11 #[] (.one (.at .bool)) (fun x w' => x = true ∧ ∃ T', Sep W0 w' T' ∧ ∀ q, ¬ JK q → (∀ i, i < 4 → q ≠ .bx (36 + i)) → T' q = T q) w := by
  refine q17awake.run _ w ?_
  generalize hRR : (fun (e : Ending) (w' : World) => ∃ x : Bool, e = .returned ((Sh.one (.at .bool)).enc x) ∧ x = true ∧ ∃ T', Sep W0 w' T' ∧ ∀ q, ¬ JK q → (∀ i, i < 4 → q ≠ .bx (36 + i)) → T' q = T q) = R
  unfold q17awake.M
  have jpk : ∀ i, JK (.pk i) := fun i => .inr (.inr (.inr (.inr (.inl ⟨i, rfl⟩))))
  have nbk : ∀ i j : Nat, Ky.pk i ≠ .bx j := fun i j => by simp
  have ngv : ∀ i, ¬ GvK 9 (.pk i) := fun i => by unfold GvK PlK GnK; simp
  have nup : ∀ i, ¬ UpK (.pk i) := fun i => by unfold UpK; simp
  refine aeZ (mnew_ok (j := 9) (f := 0) (k := 2) (m := 1) (b := 0) hS (.inl rfl) (by omega) (by omega) (by omega) (by omega)) ?_
  rintro _ w1 ⟨a, T1, Q, rfl, hS1, hT1, hC1⟩
  obtain rfl : Q = QA := by
    have := hC1.hQ
    rw [aw_par] at this
    exact (Option.some.inj this).symm
  have hT1' : ∀ q, ¬ JK q → (∀ i, i < 4 → q ≠ .bx (36 + i)) → T1 q = T q := fun q h1 h2 => hT1 q (fun i e => h1 (.inl (.inl ⟨i, e⟩))) h2
  refine Cd_f (Pu_codnil ?_)
  unfold q17awake.j1
  refine Cd_f ?_
  refine Wr_row2 (p := 5#8) (q := 0#8) rfl rfl (Lit.nil w1) fun h1 w2 hL2 => Wr_row2 (p := 7#8) (q := 1#8) rfl rfl hL2 fun h2 w3 hL3 => Wr_row2 (p := 0#8) (q := 0#8) rfl rfl hL3 fun h3 w4 hL4 => ?_
  refine Wr_hd3 (M := MA0) (.pk 0) hS1 hL4 fun s w5 hS5 => ?_
  generalize hhs : [h1, h2, h3] = hs5 at hS5
  have hC5 := hC1.next (T' := T1.up (.pk 0) (ShT s hs5 MA0)) (fun i => Ths.up_ne _ _ (by simp))
  refine aeZ (encode_ok hS5 hC5 (Ths.up_same _ _ _) (nbk 0) (shp_of (M := MA0) (a := 2 + 1) (n := 2) (by decide)) (by omega) (by omega)) ?_
  rintro _ w6 ⟨rfl, hS6⟩
  rw [Ths.up_up, aw_enc] at hS6
  have hC6 := hC1.next (T' := T1.up (.pk 0) (ShT s hs5 MA1)) (fun i => Ths.up_ne _ _ (by simp))
  refine Cd_f ?_
  have same : ∀ {w7 w8 : World} {T7 : Ths} {hs7 : List Sl} {M : Mtx} {K : Bool → World → Prop} {p q : Int} {P Q' : F8}, p = (P.toNat : Int) → q = (Q'.toNat : Int) → M = [[5#8, 0#8], [7#8, 1#8], [P, Q']] → Sep W0 w7 T7 → T7 (.pk 0) = ShT s hs7 M → (∀ w9 T9, Sep W0 w9 T9 → (∀ x, x ≠ .pk 1 → T9 x = T7 x) → K true w9) →
      Wr Tryz.prog (Instr.buildSlice 24 2 #[(0, (.int .u8 5)), (1, (.int .u8 0))]) (.one (.at .sl)) (fun (x50 : Sl) w51 => Wr Tryz.prog (Instr.buildSlice 24 2 #[(0, (.int .u8 7)), (1, (.int .u8 1))]) (.one (.at .sl)) (fun (x52 : Sl) w53 => Wr Tryz.prog (Instr.buildSlice 24 2 #[(0, (.int .u8 p)), (1, (.int .u8 q))]) (.one (.at .sl)) (fun (x54 : Sl) w55 =>
        Wr Tryz.prog (Instr.buildSlice 30 3 #[(0, (.slice x50.base x50.len x50.cap)), (1, (.slice x52.base x52.len x52.cap)), (2, (.slice x54.base x54.len x54.cap))]) (.one (.at .sl)) (fun (x56 : Sl) w57 => Cl Tryz.prog 20 #[(.slice s.base s.len s.cap), (.slice x56.base x56.len x56.cap)] (.one (.at .bool)) K w57) w55) w53) w51) w7 := by
    intro w7 w8 T7 hs7 M K p q P Q' hp hq hM h7 h7k hk
    refine Wr_row2 (p := 5#8) (q := 0#8) rfl rfl (Lit.nil w7) fun h1 w2 hL2 => Wr_row2 (p := 7#8) (q := 1#8) rfl rfl hL2 fun h2 w3 hL3 => Wr_row2 (p := P) (q := Q') hp hq hL3 fun h3 w4 hL4 => ?_
    refine Wr_hd3 (M := [[5#8, 0#8], [7#8, 1#8], [P, Q']]) (.pk 1) h7 hL4 fun s2 w5 hS5 => ?_
    have hA := sh_matR hS5 ((Ths.up_ne _ _ (by simp)).trans h7k)
    have hB := sh_matR hS5 (Ths.up_same _ _ _)
    subst hM
    refine Cl_gv (d := .one (.at .bool)) (x := true) ?_ fun w6 hx6 => hk w6 _ (hS5.exx hx6) (fun x hx => Ths.up_ne _ _ hx)
    have := alike_gv hA hB (by simp) (fun r hr => by
      simp only [List.mem_cons, List.mem_nil_iff, or_false] at hr
      rcases hr with rfl | rfl | rfl <;> simp)
    rw [decide_eq_true (by rfl)] at this
    exact this
  refine same (w8 := w6) (P := 1#8) (Q' := 2#8) rfl rfl rfl hS6 (Ths.up_same _ _ _) fun w7 T7 hS7 hT7 => ?_
  unfold q17awake.j2
  refine Cd_f ?_
  have h7k : T7 (.pk 0) = ShT s hs5 MA1 := (hT7 _ (by simp)).trans (Ths.up_same _ _ _)
  have hT7' : ∀ q, ¬ JK q → (∀ i, i < 4 → q ≠ .bx (36 + i)) → T7 q = T q := fun q a1 a2 => by
    have n0 : q ≠ .pk 0 := fun e => a1 (e ▸ jpk 0)
    rw [hT7 q (fun e => a1 (e ▸ jpk 1)), Ths.up_ne _ _ n0]; exact hT1' q a1 a2
  have hC7 : Cod T7 9 a 0 2 1 0 QA [] 0 := hC6.next (fun i => hT7 _ (by simp))
  refine aeZ (verify_ok hS7 hC7 h7k (nbk 0) (shp_of (M := MA1) (a := 2 + 1) (n := 2) (by decide)) (by omega) (by omega)) ?_
  rintro _ w8 ⟨rfl, hx8⟩
  rw [aw_agr]
  refine Cd_f ?_
  unfold q17awake.j3
  refine Cd_f ?_
  have hS8 := hS7.exx hx8
  obtain ⟨q1, q2, _⟩ := sh_get hS8 h7k
  have hl5 : hs5.length = 3 := q2
  obtain ⟨g0, hg0⟩ := atx (l := hs5) (i := 0) (by omega)
  refine Wu_set (f := slV) (x := ⟨none, 0, 0⟩) (i := 0) q1 (by omega) tBB sS sS rfl rfl fun w9 hO9 hm9 => ?_
  have hS9 := sh_out (q := .pk 2) (by simp) hS8 h7k hg0 rfl hO9 hm9
  generalize hT9e : (T7.up (.pk 0) (ShT s (hs5.set 0 ⟨none, 0, 0⟩) (List.set MA1 0 []))).up (.pk 2) (Rdo f8v g0 [5#8, 0#8]) = T9 at hS9
  have h9k : T9 (.pk 0) = ShT s (hs5.set 0 ⟨none, 0, 0⟩) MA2 := by rw [← hT9e, Ths.up_ne _ _ (by simp), Ths.up_same]; rfl
  have hT9 : ∀ q, q ≠ .pk 0 → q ≠ .pk 2 → T9 q = T7 q := fun q a1 a2 => by rw [← hT9e, Ths.up_ne _ _ a2, Ths.up_ne _ _ a1]
  have hC9 : Cod T9 9 a 0 2 1 0 QA [] 0 := hC7.next (fun i => hT9 _ (by simp) (by simp))
  refine aeZ (recon_ok (n := 2) hS9 hC9 h9k (nbk 0) (ngv 0) rfl (fun x hx => ?_) (by rw [aw_miss]; decide) (by omega) (by omega) (by omega)) ?_
  · simp only [List.mem_cons, List.mem_nil_iff, or_false] at hx
    rcases hx with rfl | rfl | rfl <;> simp
  rintro x w10 h10
  unfold GiveR at h10
  rw [aw_miss, aw_pres] at h10
  rcases h10 with ⟨h, _⟩ | ⟨h, _⟩ | ⟨_, rfl, T10, hs10, D, es', clock', hS10, hD, h10k, hC10, hcl, hone, hT10⟩
  · cases h
  · simp at h
  rw [aw_dec] at hD
  cases hD
  rw [aw_give] at h10k
  refine Cd_f ?_
  have hT10' : ∀ q, ¬ JK q → (∀ i, i < 4 → q ≠ .bx (36 + i)) → T10 q = T q := fun q a1 a2 => by
    have hne0 : q ≠ .pk 0 := fun e => a1 (e ▸ jpk 0)
    rw [hT10 q (fun h => (gv_jk h).elim a1 (fun e => a2 3 (by omega) e)) hne0, hT9 q hne0 (fun e => a1 (e ▸ jpk 2))]
    exact hT7' q a1 a2
  refine same (w8 := w10) (P := 1#8) (Q' := 2#8) rfl rfl rfl hS10 h10k fun w11 T11 hS11 hT11 => ?_
  refine Cd_f ?_
  have hC11 : Cod T11 9 a 0 2 1 0 QA es' clock' := hC10.next (fun i => hT11 _ (by simp))
  refine Cl_gv (d := .one (.at (.int .i64))) (x := (es'.length : Int)) (cached_gv hS11 hC11) fun w12 hx12 => ?_
  rw [hone rfl]
  unfold q17awake.j4
  refine Cd_f ?_
  have hS12 := hS11.exx hx12
  refine Wr_row0 (Lit.nil w12) fun h1 w13 hL13 => Wr_row2 (p := 6#8) (q := 1#8) rfl rfl hL13 fun h2 w14 hL14 => ?_
  refine Wr_hd2 (M := FA) (.pk 3) hS12 hL14 fun sf w15 hS15 => ?_
  have h15k : (T11.up (.pk 3) (ShT sf [h1, h2] FA)) (.pk 0) = ShT s hs10 MA1 := by rw [Ths.up_ne _ _ (by simp), hT11 _ (by simp)]; exact h10k
  have hC15 := hC11.next (T' := T11.up (.pk 3) (ShT sf [h1, h2] FA)) (fun i => Ths.up_ne _ _ (by simp))
  refine aeZ (update_ok (kf := .pk 3) hS15 hC15 h15k (nbk 0) (Ths.up_same _ _ _) (by simp) (nup 0) (nup 3) (shp_of (M := MA1) (a := 2 + 1) (n := 2) (by decide)) rfl (fun x hx => ?_) (by omega) (by omega)) ?_
  · simp only [List.mem_cons, List.mem_nil_iff, or_false] at hx
    rcases hx with rfl | rfl <;> simp
  rintro _ w16 ⟨rfl, T16, hS16, h16k, hT16⟩
  have hgl : givenL [h1, h2] 2 = [1] := by
    have := givenL_eq (sh_matR hS15 (Ths.up_same _ _ _))
    rw [← aw_given]
    exact this
  rw [hgl, aw_upd] at h16k
  refine Cd_f ?_
  refine same (w8 := w16) (P := 3#8) (Q' := 2#8) rfl rfl rfl hS16 h16k fun w17 T17 hS17 hT17 => ?_
  subst hRR
  refine ⟨true, rfl, rfl, T17, hS17, fun q a1 a2 => ?_⟩
  have hne0 : q ≠ .pk 0 := fun e => a1 (e ▸ jpk 0)
  have hne3 : q ≠ .pk 3 := fun e => a1 (e ▸ jpk 3)
  rw [hT17 q (fun e => a1 (e ▸ jpk 1)), hT16 q hne0 (fun h => a1 (up_jk h)), Ths.up_ne _ _ hne3, hT11 q (fun e => a1 (e ▸ jpk 1))]
  exact hT10' q a1 a2
end Go.Proofs.YtbiilejgfihohaaGreat
namespace Go.Proofs.YtbiilejgfihohaaGreat
open Go Go.Cu
theorem getD_get {α : Type} {l : List α} {i : Nat} {d x : α} (h : l[i]? = some x) : l.getD i d = x := by rw [List.getD_eq_getElem?_getD, h]; rfl
end Go.Proofs.YtbiilejgfihohaaGreat
namespace Go.Proofs.YtbiilejgfihohaaGreat
open Go Go.Cu Go.RowKit
theorem Cod.next4 {T T' : Ths} {j : Nat} {a : CodA} {f : Int} {k m b : Nat} {Q : Mtx} {es : List Tr.Ent} {clock : Int} (h : Cod T j a f k m b Q es clock) (hT : ∀ i, i < 4 → T' (.bx (4 * j + i)) = T (.bx (4 * j + i))) : Cod T' j a f k m b Q es clock :=
  { h with c0 := (hT 0 (by omega)).trans h.c0, c1 := (hT 1 (by omega)).trans h.c1, c2 := (hT 2 (by omega)).trans h.c2, c3 := (hT 3 (by omega)).trans h.c3 }
theorem jk_bx (i : Nat) : ¬ JK (.bx i) := by unfold JK GnK; simp
theorem trues_range (B : List Bool) : ((List.range B.length).filter (fun r => B.getD r false)).length = trues B := by
  have h1 : B = (List.range B.length).map (fun r => B.getD r false) := by
    refine List.ext_getElem? fun i => ?_
    rw [List.getElem?_map]
    by_cases h : i < B.length
    · rw [List.getElem?_range h, List.getElem?_eq_getElem h]
      show _ = some (B.getD i false)
      rw [List.getD_eq_getElem?_getD, List.getElem?_eq_getElem h]; rfl
    · rw [List.getElem?_eq_none (by omega), List.getElem?_eq_none (by rw [List.length_range]; omega)]; rfl
  unfold trues
  have h2 : (B.filter id).length = (((List.range B.length).map (fun r => B.getD r false)).filter id).length := congrArg (fun l => (List.filter id l).length) h1
  rw [h2, List.filter_map, List.length_map]
  rfl
theorem open_ok {W w : World} {T : Ths} (j : Nat) {n : CodeI} (hj : j < 9) (hS : Sep W w T) (hn : Code64 n) {K : Option Addr × Int × Int × Unit → Bool → World → Prop}
    (hK : ∀ a T' Q w', Sep W w' T' → Cod T' j a (cF n) (cK n) (cM n) (cB n) Q [] 0 → (∀ q, ¬ JK q → (∀ i, i < 4 → q ≠ .bx (4 * j + i)) → (∀ i, i < 4 → q ≠ .bx (36 + i)) → T' q = T q) → K (at0 a.cp, (cK n : Int), (cM n : Int), ()) true w') :
    Cl Tryz.prog 10 #[.agg #[.int .i64 n.1, .int .i64 n.2.1, .int .i64 n.2.2.1, .int .i64 n.2.2.2.1]] (.tup [.at .ptr, .at (.int .i64), .at (.int .i64)]) (fun x w' => Cl Tryz.prog 11 #[] (.one (.at .bool)) (fun y w'' => K x y w'') w') w := by
  refine aeZ (made_ok j hS hn) ?_
  rintro _ w1 ⟨a, T1, Q, rfl, hS1, hT1, hC1⟩
  refine aeZ (awake_ok hS1) ?_
  rintro _ w2 ⟨rfl, T2, hS2, hT2⟩
  refine hK a T2 Q w2 hS2 (hC1.next4 (fun i hi => hT2 _ (jk_bx _) (fun i' hi' e => by rw [Ky.bx.injEq] at e; omega))) (fun q h1 h2 h3 => (hT2 q h1 h3).trans (hT1 q (fun i e => h1 (.inl (.inl ⟨i, e⟩))) h2 (fun e => h1 (.inr (.inr (.inr (.inl ⟨_, e⟩))))))) 
end Go.Proofs.YtbiilejgfihohaaGreat
namespace Go.Proofs.YtbiilejgfihohaaGreat
open Go Go.Cu Go.RowKit
theorem Sep.move {W0 w : World} {T : Ths} {k q : Ky} (hS : Sep W0 w T) (hkq : k ≠ q) : Sep W0 w ((T.up q (T k)).up k Th.none) := by
  obtain ⟨hm, F, h1, h2, h3⟩ := hS
  refine ⟨hm, fun j => if j = k then (fun _ => False) else if j = q then F k else F j, fun j => ?_, fun j b hb => ?_, fun i j b hij hi hj => ?_⟩
  · unfold Ths.up
    dsimp only
    by_cases e : j = k
    · rw [if_pos e, if_pos e]; trivial
    · rw [if_neg e, if_neg e]
      by_cases e2 : j = q
      · rw [if_pos e2, if_pos e2]; exact h1 k
      · rw [if_neg e2, if_neg e2]; exact h1 j
  · dsimp only at hb
    by_cases e : j = k
    · rw [if_pos e] at hb; exact hb.elim
    · rw [if_neg e] at hb
      by_cases e2 : j = q
      · rw [if_pos e2] at hb; exact h2 k b hb
      · rw [if_neg e2] at hb; exact h2 j b hb
  · dsimp only at hi hj
    by_cases e : i = k
    · rw [if_pos e] at hi; exact hi.elim
    · rw [if_neg e] at hi
      by_cases e' : j = k
      · rw [if_pos e'] at hj; exact hj.elim
      · rw [if_neg e'] at hj
        by_cases e2 : i = q
        · rw [if_pos e2] at hi
          rw [if_neg (fun e3 => hij (e2.trans e3.symm))] at hj
          exact h3 k j b (fun e3 => e' e3.symm) hi hj
        · rw [if_neg e2] at hi
          by_cases e3 : j = q
          · rw [if_pos e3] at hj; exact h3 i k b e hi hj
          · rw [if_neg e3] at hj; exact h3 i j b hij hi hj
end Go.Proofs.YtbiilejgfihohaaGreat
namespace Go.Proofs.YtbiilejgfihohaaGreat
open Go Go.Cu Go.RowKit
theorem u8_nat (n : Nat) : IntKind.wrap .u8 (n : Int) = ((BitVec.ofNat 8 n).toNat : Int) := by
  rw [wrap_u8_mod, BitVec.toNat_ofNat]
end Go.Proofs.YtbiilejgfihohaaGreat
namespace Go.Proofs.YtbiilejgfihohaaGreat
open Go Go.Cu Go.RowKit
theorem plan_new {w : World} {x : Ats P4} {K : Addr → World → Prop} (hk : ∀ w', Has w' w.heap.size (afZ P4 x) 49 → Ex w w' → K ⟨w.heap.size, 0, none⟩ w') :
    Wr Tryz.prog (Instr.alloc 49 true (.tuple #[])) (.one (.at .addr)) (fun (a : Addr) w1 => Wu Tryz.prog (Instr.storeAt 49 (.pointer (some a)) (.agg (afZ P4 x).toArray)) (fun w2 => K a w2) w1) w := by
  refine alloc4 fun w1 hB1 hx1 => ?_
  refine sto4 (x := x) hB1 rfl fun w2 hB2 hm2 => ?_
  exact hk w2 hB2 (hx1.into hm2 (fun i hi => by omega))
theorem bools_num (B : List Bool) (n : Nat) : NumL n ((List.range n).filter (fun r => B.getD r false)) := by
  have hp : ((List.range n).filter (fun r => B.getD r false)).Pairwise (· < ·) := List.Pairwise.sublist (List.filter_sublist (l := List.range n)) List.pairwise_lt_range
  refine ⟨fun x hx => List.mem_range.1 (List.mem_filter.1 hx).1, fun i x y h1 h2 => ?_⟩
  rw [List.pairwise_iff_getElem] at hp
  obtain ⟨a1, e1⟩ := List.getElem?_eq_some_iff.1 h1
  obtain ⟨a2, e2⟩ := List.getElem?_eq_some_iff.1 h2
  have := hp i (i + 1) a1 a2 (by omega)
  rw [e1, e2] at this
  exact this
theorem filt_succ {B : List Bool} {j : Nat} : (List.range (j + 1)).filter (fun r => B.getD r false) = (List.range j).filter (fun r => B.getD r false) ++ (if B.getD j false = true then [j] else []) := by
  rw [List.range_succ, List.filter_append]
  congr 1
  cases h : B.getD j false with
  | true => rw [if_pos rfl, List.filter_cons, if_pos h]; rfl
  | false => rw [if_neg (by simp), List.filter_cons, if_neg (by rw [h]; simp)]; rfl
end Go.Proofs.YtbiilejgfihohaaGreat
namespace Go.Proofs.YtbiilejgfihohaaGreat
open Go Go.Cu Go.RowKit
structure RowIn {α : Type} (f : α → Value) (e : TypeId) (w : World) (g : Nat) (cs : List Value) (s : Sl) (l : List α) : Prop where
  base : s.base = at0 g
  has : Has w g cs e
  len : s.len = l.length
  cap : s.len ≤ s.cap
  room : s.cap ≤ cs.length
  most : s.cap ≤ maxLen
  cells : cs.take l.length = l.map f
theorem RowIn.mo {α : Type} {f : α → Value} {e : TypeId} {w w' : World} {g : Nat} {cs : List Value} {s : Sl} {l : List α} {X : Nat → Prop} (h : RowIn f e w g cs s l) (m : Mo X w w') (hx : ¬ X g) : RowIn f e w' g cs s l := { h with has := h.has.mo m hx }
theorem RowIn.ex {α : Type} {f : α → Value} {e : TypeId} {w w' : World} {g : Nat} {cs : List Value} {s : Sl} {l : List α} (h : RowIn f e w g cs s l) (x : Ex w w') : RowIn f e w' g cs s l := { h with has := h.has.ex x }
theorem RowIn.cell {α : Type} {f : α → Value} {e : TypeId} {w : World} {g : Nat} {cs : List Value} {s : Sl} {l : List α} (h : RowIn f e w g cs s l) {i : Nat} {x : α} (hi : l[i]? = some x) : w.cell? ((⟨g, 0, none⟩ : Addr).add i) = some (f x) := by
  have : (⟨g, 0, none⟩ : Addr).add i = ⟨g, i, none⟩ := by
    unfold Addr.add; split
    · rename_i e; rw [e]
    · simp
  rw [this]
  refine (h.has.cell i).trans ?_
  have hil := (List.getElem?_eq_some_iff.1 hi).1
  have h2 : (cs.take l.length)[i]? = some (f x) := by rw [h.cells, List.getElem?_map, hi]; rfl
  rwa [List.getElem?_take, if_pos hil] at h2
theorem RowIn.rds {α : Type} {f : α → Value} {e : TypeId} {w : World} {g : Nat} {cs : List Value} {s : Sl} {l : List α} (h : RowIn f e w g cs s l) : Rds f w s l :=
  ⟨h.len, h.cap, fun i x hi => ⟨_, h.base, h.cell hi⟩⟩
theorem RowIn.short {α : Type} {f : α → Value} {e : TypeId} {w : World} {g : Nat} {cs : List Value} {s s' : Sl} {l m : List α} (h : RowIn f e w g cs s (l ++ m)) (hb : s'.base = s.base) (hl : s'.len = l.length) (hc : s'.len ≤ s'.cap) (hr : s'.cap ≤ cs.length) (hm : s'.cap ≤ maxLen) : RowIn f e w g cs s' l := by
  refine ⟨hb.trans h.base, h.has, hl, hc, hr, hm, ?_⟩
  have := congrArg (List.take l.length) h.cells
  rw [List.take_take, List.length_append, Nat.min_eq_left (by omega), List.map_append, List.take_append_of_le_length (by rw [List.length_map]; exact Nat.le_refl _)] at this
  exact this.trans (List.take_of_length_le (by rw [List.length_map]; exact Nat.le_refl _))
theorem Wr_app {α : Type} {f : α → Value} {t ty e : TypeId} {s x : Sl} {l m : List α} {z : Value} {bytes g : Nat} {cs : List Value} {k : Sl → World → Prop} {w : World}
    (ht : (Tryz.prog).underlying t = some (.slice e)) (hi : ((Tryz.prog).info? e).map (fun i => (i.zero, i.size, i.bytes)) = some (some z, 1, bytes)) (hz : z.cells.size = 1)
    (h : RowIn f e w g cs s l) (hr : Rds f w x m) (h1 : ∀ y, (f y).oneCell' = true) (hm : m ≠ []) (h63 : l.length + m.length ≤ 140737488355328) (hbytes : (l.length + m.length) * bytes ≤ 140737488355328)
    (hk1 : ∀ s' w' cs', RowIn f e w' g cs' s' (l ++ m) → s'.base = s.base → s'.cap = s.cap → cs'.length = cs.length → Mo (fun b => b = g) w w' → k s' w')
    (hk2 : ∀ s' w' cs', RowIn f e w' w.heap.size cs' s' (l ++ m) → Ex w w' → k s' w') :
    Wr Tryz.prog (Builtin.append_ #[t, t] ty #[.slice s.base s.len s.cap, .slice x.base x.len x.cap]) (.one (.at .sl)) k w := by
  obtain ⟨i, hi0, hz0, hs0, hb0⟩ := info_parts hi
  subst hb0
  have hml : maxLen = 9223372036854775807 := rfl
  obtain ⟨sb, sl, sc⟩ := s
  obtain ⟨xb, xl, xc⟩ := x
  obtain ⟨hbase, hhas, hsl, hcap, hroomc, hmost, hcells⟩ := h
  have hxl : xl = m.length := hr.1
  dsimp only at hbase hsl hcap hroomc hmost hxl
  subst hsl hxl hbase
  obtain ⟨a, rfl⟩ : ∃ a, xb = some a := by
    cases m with
    | nil => exact absurd rfl hm
    | cons y r => obtain ⟨a, ha, _⟩ := hr.2.2 0 y rfl; exact ⟨a, ha⟩
  have hmpos : 0 < m.length := List.length_pos_iff.2 hm
  have hnews : ∀ j u, (m.map f)[j]? = some u → w.cell? (a.add j) = some u := by
    intro j u hj
    simp only [List.getElem?_map] at hj
    cases hmj : m[j]? with
    | none => rw [hmj] at hj; cases hj
    | some y =>
      rw [hmj] at hj; cases hj
      obtain ⟨a', ha', hc⟩ := hr.2.2 j y hmj
      cases ha'; exact hc
  have hu1 : ∀ u ∈ m.map f, u.oneCell' = true := fun u hu => by obtain ⟨y, _, rfl⟩ := List.mem_map.1 hu; exact h1 y
  have hself : RowIn f e w g cs ⟨at0 g, l.length, sc⟩ l := ⟨rfl, hhas, rfl, hcap, hroomc, hmost, hcells⟩
  by_cases hroom : l.length + m.length ≤ sc
  · have hrun := run_append_room (P := Tryz.prog) w t ty e i ht hi0 g l.length sc cs.toArray hhas a m.length xc (m.map f) (by simp [hs0]) hnews hu1 hroom (by rw [hs0, Nat.mul_one, List.length_map, List.size_toArray]; omega)
    have hcs' : (cs.toArray.toList.take (l.length * i.size) ++ m.map f ++ cs.toArray.toList.drop (l.length * i.size + (m.map f).length)).length = cs.length := by
      rw [hs0, Nat.mul_one, List.length_append, List.length_append, List.length_take, List.length_drop, List.length_map]
      show min l.length cs.length + m.length + (cs.length - (l.length + m.length)) = cs.length
      omega
    refine ⟨⟨at0 g, l.length + m.length, sc⟩, _, hrun, hk1 _ _ _ ⟨rfl, setRow_heap w g cs.toArray _ e _ hhas, by simp, hroom, by rw [hcs']; exact hroomc, hmost, ?_⟩ rfl rfl hcs' (Mo.setRow w g _)⟩
    rw [hs0, Nat.mul_one, List.append_assoc, List.take_append]
    show List.take (l ++ m).length (List.take l.length cs) ++ _ = _
    rw [hcells, List.length_append, List.map_append, List.take_of_length_le (by rw [List.length_map]; omega)]
    congr 1
    rw [List.take_append_of_le_length (by rw [List.length_map, List.length_map]; omega), List.take_of_length_le (by rw [List.length_map, List.length_map]; omega)]
  · have hge : l.length + m.length ≤ grownCap w (l.length + m.length) sc e := grownCap_ge w _ sc e
    have hle : grownCap w (l.length + m.length) sc e ≤ maxLen := grownCap_le_maxLen w _ sc e (by rw [hml]; omega)
    have hrun := run_append_grow (P := Tryz.prog) w t ty e i z ht hi0 hz0 ⟨g, 0, none⟩ l.length sc (l.map f) (by simp [hs0]) (fun j u hj => by
      simp only [List.getElem?_map] at hj
      cases hlj : l[j]? with
      | none => rw [hlj] at hj; cases hj
      | some y => rw [hlj] at hj; cases hj; exact hself.cell hlj) a m.length xc (m.map f) (by simp [hs0]) hnews (by omega) (by omega) (growslice_fits (by omega) hbytes)
    refine ⟨⟨at0 w.heap.size, _, _⟩, _, hrun, hk2 _ _ _ ⟨rfl, Has.alloc w.drew _ e, by simp, hge, ?_, hle, ?_⟩ ((Ex.drew w).trans (Ex.alloc w.drew _))⟩
    · have hzc : (Builtin.zeroCells z.cells (grownCap w (l.length + m.length) sc e - (l.length + m.length))).size = grownCap w (l.length + m.length) sc e - (l.length + m.length) := (size_zeroCells _ _).trans (by rw [hz]; exact Nat.mul_one _)
      have e1 : ∀ C : Array Value, (((List.map f l).toArray ++ (List.map f m).toArray ++ C).toList).length = l.length + m.length + C.size := fun C => by simp [Nat.add_assoc]
      have e2 := e1 (Builtin.zeroCells z.cells (grownCap w (l.length + m.length) sc e - (l.length + m.length)))
      rw [hzc] at e2
      have e3 : grownCap w (l.length + m.length) sc e ≤ l.length + m.length + (grownCap w (l.length + m.length) sc e - (l.length + m.length)) := by omega
      exact Nat.le_trans e3 (Nat.le_of_eq e2.symm)
    · rw [Array.toList_append, Array.toList_append]
      show List.take (l ++ m).length (List.map f l ++ List.map f m ++ _) = _
      rw [← List.map_append, List.take_append_of_le_length (by rw [List.length_map]; exact Nat.le_refl _), List.take_of_length_le (by rw [List.length_map]; exact Nat.le_refl _)]
end Go.Proofs.YtbiilejgfihohaaGreat
namespace Go.Proofs.YtbiilejgfihohaaGreat
open Go Go.Cu Go.RowKit
theorem rdS_nat {w : World} {s : Sl} {L : List Nat} {ik : IntKind} {i x : Nat} {K : Int → World → Prop} (hr : Rds natV w s L) (hx : L[i]? = some x) (hk : K (x : Int) w) :
    Pu Tryz.prog (Instr.indexAt 25 (.slice s.base s.len s.cap) (.int ik (i : Int))) (.one (.at .addr)) (fun a w1 => RdS Tryz.prog (Same w) (Instr.loadAt 3 (.pointer (some a))) (.one (.at (.int .i64))) K w1) w := by
  have hlt := (List.getElem?_eq_some_iff.1 hx).1
  refine Pu_idxB hr tI sI (by omega) (by omega) fun a2 y2 ha2 hy2 => ?_
  rw [Int.toNat_natCast, hx] at hy2
  cases hy2
  exact RdS_same (Rd_one (c := .int .i64) (x := (x : Int)) (by kernel_rfl) (show _ = some (natV x) from rds_at (f := natV) hr ha2 hx) hk)
theorem same_gv {w : World} {a b : Sl} {x y : List Nat} (ha : Rds natV w a x) (hb : Rds natV w b y) (hl : x.length ≤ 1048576) : Gv Tryz.prog 23 #[.slice a.base a.len a.cap, .slice b.base b.len b.cap] (.bool (decide (x = y))) w := by
  refine q17same.run _ a b w ?_
  unfold q17same.M
  have e1 := ha.1
  have e2 := hb.1
  refine Cd_ne (fun h => ⟨?_, Ex.refl _⟩) (fun h => ?_)
  · rw [decide_eq_false (fun e => h (by rw [e1, e2, e]))]
  have hxy : x.length = y.length := by omega
  unfold q17same.l1
  refine adZ (fun st w' => ∃ i : Nat, st = (a, b, (i : Int), ()) ∧ i ≤ x.length ∧ Ex w w' ∧ ∀ j, j < i → x[j]? = y[j]?) (fun st _ => (((a.len : Nat) : Int) - st.2.2.1).toNat) ?_ ⟨0, rfl, Nat.zero_le _, Ex.refl _, fun j h => by omega⟩
  rintro k _ w1 ⟨i, rfl, hi, hx, heq⟩ hk
  unfold q17same.b1
  dsimp only at hk ⊢
  refine abZ (fun hlt => ?_) (fun hge => ?_)
  · obtain ⟨p, hp⟩ := atx (l := x) (i := i) (by omega)
    obtain ⟨q, hq⟩ := atx (l := y) (i := i) (by omega)
    have hx2 := hx.trans (Ex.drew w1)
    refine rdS_nat (ha.ex hx2) hp ?_
    refine rdS_nat (hb.ex hx2) hq ?_
    refine Cd_ne (fun hne => ⟨?_, hx2⟩) (fun he => ?_)
    · rw [decide_eq_false (fun e => hne (by rw [e, hq] at hp; rw [Option.some.inj hp]))]
    · have hpq : p = q := by omega
      rw [acZ (by omega) (by omega), show (i : Int) + 1 = ((i + 1 : Nat) : Int) by omega]
      refine hk _ _ ⟨i + 1, rfl, by omega, hx2, fun j hj => ?_⟩ (by dsimp only; omega)
      by_cases hji : j = i
      · rw [hji, hp, hq, hpq]
      · exact heq j (by omega)
  · refine ⟨?_, hx⟩
    rw [decide_eq_true (List.ext_getElem? fun j => ?_)]
    by_cases hj : j < i
    · exact heq j hj
    · rw [List.getElem?_eq_none (by omega), List.getElem?_eq_none (by omega)]
end Go.Proofs.YtbiilejgfihohaaGreat
