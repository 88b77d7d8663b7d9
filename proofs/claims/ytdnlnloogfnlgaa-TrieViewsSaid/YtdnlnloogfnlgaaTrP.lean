/- Put. -/
import Derived.Test.YtdnlnloogfnlgaaTrO
import Derived.Test.YtdnlnloogfnlgaaTrN
set_option linter.all false
namespace Go.Proofs.Ytdnlnloogfnlgaa
open Go Go.Cu Go.RowKit
set_option linter.unusedVariables false
set_option maxHeartbeats 4000000
theorem Mem.grow {w : World} {own vown own2 vown2 : Nat → Prop} {tb : Nat} {lim n clock : Int} {ns : List Path} {y : Lay} (h : Mem w own vown tb lim n clock ns y) (h1 : ∀ b, own b → own2 b) (h2 : ∀ b, vown b → vown2 b) (h3 : ∀ b, vown2 b → own2 b) (h4 : ∀ b, own2 b → b < w.heap.size)
    (h5 : ∀ b, vown2 b → vown b ∨ ¬ own b) : Mem w own2 vown2 tb lim n clock ns y :=
  { h with
    vals := fun p hp hh => (h.vals p hp hh).weak h2
    ownN := fun p hp => by
      obtain ⟨a, b, c, d⟩ := h.ownN p hp
      exact ⟨h1 _ a, h1 _ b, fun e => (h5 _ e).elim c (fun g => g a), fun e => (h5 _ e).elim d (fun g => g b)⟩
    ownT := ⟨h1 _ h.ownT.1, fun e => (h5 _ e).elim h.ownT.2 (fun g => g h.ownT.1)⟩
    ownV := h3
    ownL := h4 }
/-- the node is there, and the count is right: the value is set -/
theorem put_set {R : Ending → World → Prop} {w : World} {own vown F : Nat → Prop} {tb : Nat} {lim n clock : Int} {ns : List Path} {y : Lay} {p : Path} {s : Sl} {v : List (List Int)} (h : Mem w own vown tb lim n clock ns y) (hp : p ∈ ns) (h0 : 0 ≤ clock) (hc : clock < 9223372036854775807)
    (hv : Nest b8 F w s v) (hl : RowsLe v)
    (hR : ∀ own2 vown2 s2 w2, (∀ b, own b → own2 b) → (∀ b, own2 b → own b ∨ w.heap.size ≤ b) → Mem w2 own2 vown2 tb lim n (clock + 1) ns { y with here := upd y.here p true, val := upd y.val p s2, rows := upd y.rows p v, used := upd y.used p (clock + 1) } → Mo own w w2 → R (.returned (.int .i64 0)) w2) :
    trie_Trie_Put.j3 R (some ⟨tb, 0, none⟩) s (ndP y p) w := by
  unfold trie_Trie_Put.j3
  refine Calls.mono (copied_nest s v F w hv hl) ?_
  rintro en w1 ⟨s2, rfl, hn, hx1⟩
  refine ⟨s2, rfl, ?_⟩
  have hm1 : Mem w1 (fun b => own b ∨ (w.heap.size ≤ b ∧ b < w1.heap.size)) (fun b => vown b ∨ (w.heap.size ≤ b ∧ b < w1.heap.size)) tb lim n clock ns y := by
    refine (h.ex hx1).grow (fun b => .inl) (fun b => .inl) (fun b hb => hb.elim (fun g => .inl (h.ownV b g)) .inr) (fun b hb => hb.elim (fun g => Nat.lt_of_lt_of_le (h.ownL b g) hx1.size) (fun g => g.2)) (fun b hb => hb.elim .inl (fun g => .inr (fun e => ?_)))
    have := h.ownL b e
    omega
  have hB1 := hm1.node p hp
  refine Pu_nil ?_
  refine Wu_store (v := .bool true) hB1 (by kernel_rfl) (by simp [Value.cells, Value.oneCell']) (Nat.le_of_ble_eq_true (by kernel_rfl)) fun w2 hB2 hmo2 => ?_
  refine Pu_nil ?_
  refine Wu_store (v := slv s2) hB2 (by kernel_rfl) (by simp [Value.cells, Value.oneCell']) (Nat.le_of_ble_eq_true (by kernel_rfl)) fun w3 hB3 hmo3 => ?_
  have hmo13 : Mo (fun b => b = y.nd p) w1 w3 := hmo2.trans hmo3 (fun _ => id) (fun _ _ => id)
  have hB3' : Has w3 (y.nd p) [.map (some (y.mp p)), .bool true, slv s2, .int .i64 (y.used p)] 81 := hB3
  have hm3 : Mem w3 (fun b => own b ∨ (w.heap.size ≤ b ∧ b < w1.heap.size)) (fun b => vown b ∨ (w.heap.size ≤ b ∧ b < w1.heap.size)) tb lim n clock ns { y with here := upd y.here p true, val := upd y.val p s2, rows := upd y.rows p v } := by
    refine hm1.node_set hp hmo13 rfl rfl ?_ (fun q hq => ⟨upd_other _ _ hq, upd_other _ _ hq, upd_other _ _ hq, rfl⟩) (fun _ => ?_)
    · show Has w3 (y.nd p) [.map (some (y.mp p)), .bool (upd y.here p true p), slv (upd y.val p s2 p), .int .i64 (y.used p)] _
      rw [upd_same, upd_same]; exact hB3'
    · show Nest b8 _ w3 (upd y.val p s2 p) (upd y.rows p v p)
      rw [upd_same, upd_same]
      exact (hn.nest.weak (fun b hb => .inr hb)).mo hmo13 (fun b hb e => (hm1.ownN p hp).2.2.1 (by rw [← (show b = y.nd p from e)]; exact hb))
  have hu := use_ok hm3 hp h0 hc
  refine Calls.mono hu ?_
  rintro en w4 ⟨rfl, hm4, hmo4⟩
  refine ⟨(), rfl, ?_⟩
  refine hR _ _ s2 w4 (fun b => .inl) (fun b hb => hb.elim .inl (fun g => .inr g.1)) hm4 ?_
  have k1 : Mo own w w3 := hx1.mo (hmo13.weak (Y := own) (fun b _ hb => by rw [hb]; exact (h.ownN p hp).1))
  exact k1.trans hmo4 (fun _ => id) (fun b hb hh => hh.elim id (fun g => absurd g.1 (by omega)))
structure Grown (l : Path) (i : Nat) (ns : List Path) (y : Lay) (ns2 : List Path) (y2 : Lay) : Prop where
  mem : ∀ q, q ∈ ns2 ↔ q ∈ ns ∨ (q <+: l ∧ q.length ≤ i)
  nodup : ns.Nodup → ns2.Nodup
  old : ∀ q ∈ ns, y2.here q = y.here q ∧ y2.rows q = y.rows q ∧ y2.used q = y.used q
  new : ∀ q ∈ ns2, q ∉ ns → y2.here q = false ∧ y2.used q = 0
theorem Grown.here {l : Path} {i : Nat} {ns ns2 : List Path} {y y2 : Lay} (g : Grown l i ns y ns2 y2) (hs : i + 1 ≤ l.length) (hin : l.take (i + 1) ∈ ns2) : Grown l (i + 1) ns y ns2 y2 := by
  refine { g with mem := fun q => ?_ }
  rw [g.mem]
  constructor
  · rintro (h | ⟨h1, h2⟩)
    · exact .inl h
    · exact .inr ⟨h1, by omega⟩
  · rintro (h | ⟨h1, h2⟩)
    · exact .inl h
    · by_cases h3 : q.length ≤ i
      · exact .inr ⟨h1, h3⟩
      · have e : q = l.take (i + 1) := by
          have := List.prefix_iff_eq_take.1 h1
          rw [this]; congr 1; omega
        rw [← e] at hin
        exact (g.mem q).1 hin
theorem Grown.add {l : Path} {i b m : Nat} {ns ns2 : List Path} {y y2 : Lay} (g : Grown l i ns y ns2 y2) (hs : i + 1 ≤ l.length) (hin : l.take (i + 1) ∉ ns2) : Grown l (i + 1) ns y (l.take (i + 1) :: ns2) (addLay y2 (l.take (i + 1)) b m) := by
  have hne : ∀ q ∈ ns2, q ≠ l.take (i + 1) := fun q hq e => hin (e ▸ hq)
  have hold : ∀ q ∈ ns, q ∈ ns2 := fun q hq => (g.mem q).2 (.inl hq)
  refine { mem := fun q => ?_, nodup := fun hn => List.nodup_cons.2 ⟨hin, g.nodup hn⟩, old := fun q hq => ?_, new := fun q hq hqn => ?_ }
  · rw [List.mem_cons, g.mem]
    constructor
    · rintro (rfl | h | ⟨h1, h2⟩)
      · exact .inr ⟨List.take_prefix _ _, by rw [List.length_take]; omega⟩
      · exact .inl h
      · exact .inr ⟨h1, by omega⟩
    · rintro (h | ⟨h1, h2⟩)
      · exact .inr (.inl h)
      · by_cases h3 : q.length ≤ i
        · exact .inr (.inr ⟨h1, h3⟩)
        · left
          have := List.prefix_iff_eq_take.1 h1
          rw [this]; congr 1; omega
  · have h := hne q (hold q hq)
    show upd y2.here _ false q = _ ∧ upd y2.rows _ [] q = _ ∧ upd y2.used _ 0 q = _
    rw [upd_other _ _ h, upd_other _ _ h, upd_other _ _ h]
    exact g.old q hq
  · show upd y2.here _ false q = _ ∧ upd y2.used _ 0 q = _
    rcases List.mem_cons.1 hq with rfl | hq
    · rw [upd_same, upd_same]; exact ⟨rfl, rfl⟩
    · rw [upd_other _ _ (hne q hq), upd_other _ _ (hne q hq)]
      exact g.new q hq hqn
theorem put_walk {R : Ending → World → Prop} {w : World} {own vown F : Nat → Prop} {tb : Nat} {lim n clock : Int} {ns : List Path} {y : Lay} {l : Path} {s vs : Sl} {v : List (List Int)} (h : Mem w own vown tb lim n clock ns y) (h0 : 0 ≤ clock) (hc : clock < 9223372036854775807)
    (hr : Rds i64v w s l) (hs : ∀ a, s.base = some a → ¬ own a.block) (hll : l.length ≤ 9223372036854775806) (hn0 : 0 ≤ n) (hn1 : n ≤ 1024)
    (hv : Nest b8 F w vs v) (hF : ∀ b, F b → ¬ own b) (hl : RowsLe v)
    (hR : ∀ own2 vown2 s2 w2 ns2 y2, (∀ b, own b → own2 b) → (∀ b, own2 b → own b ∨ w.heap.size ≤ b) → Grown l l.length ns y ns2 y2 → Mem w2 own2 vown2 tb lim (if y2.here l = true then n else n + 1) (clock + 1) ns2 { y2 with here := upd y2.here l true, val := upd y2.val l s2, rows := upd y2.rows l v, used := upd y2.used l (clock + 1) } → Mo own w w2 → R (.returned (.int .i64 0)) w2) :
    trie_Trie_Put.j1 R (some ⟨tb, 0, none⟩) s vs w := by
  unfold trie_Trie_Put.j1
  refine Pu_nil ?_
  refine Rd_has h.top (by kernel_rfl) rfl ?_
  unfold trie_Trie_Put.l1
  rw [hr.1]
  refine loopW_of (fun st w' => st.1 = some ⟨tb, 0, none⟩ ∧ st.2.1 = vs ∧ st.2.2.2.1 = s ∧ st.2.2.2.2.1 = (l.length : Int) ∧ ∃ i : Nat, i ≤ l.length ∧ st.2.2.2.2.2.1 = (i : Int) ∧ ∃ own2 ns2 y2, (∀ b, own b → own2 b) ∧ (∀ b, own2 b → own b ∨ w.heap.size ≤ b) ∧ Grown l i ns y ns2 y2 ∧ Mem w' own2 vown tb lim n clock ns2 y2 ∧ Mo own w w' ∧ st.2.2.1 = ndP y2 (l.take i)) (fun st _ => l.length - st.2.2.2.2.2.1.toNat) ?_
    ⟨rfl, rfl, rfl, rfl, 0, Nat.zero_le _, rfl, own, ns, y, fun _ => id, fun _ => .inl, ⟨fun q => ⟨.inl, fun g => g.elim id (fun g => ?_)⟩, id, fun q _ => ⟨rfl, rfl, rfl⟩, fun q hq hn => absurd hq hn⟩, h, Mo.refl _ _, rfl⟩
  · rintro k ⟨t', vs', p', s', n', i', u⟩ w' hI hk
    dsimp only at hI hk ⊢
    obtain ⟨rfl, rfl, rfl, rfl, i, hi, rfl, own2, ns2, y2, ho1, ho2, hg, hm, hmo, rfl⟩ := hI
    unfold trie_Trie_Put.b1
    have hin : l.take i ∈ ns2 := (hg.mem _).2 (.inr ⟨List.take_prefix _ _, by rw [List.length_take]; omega⟩)
    have hnode := hm.node _ hin
    refine Cd_dec (fun hlt => ?_) (fun hge => ?_)
    · refine Pu_idx (hr.mo hmo hs) tI sI (by omega) (by omega) fun a x hx1 hc1 _ => ?_
      refine Rd_one (c := .int .i64) (x := x) oI hc1 ?_
      rw [Int.toNat_natCast] at hx1
      refine Pu_nil ?_
      refine Rd_has (c := .map) (x := some (y2.mp (l.take i))) hnode (by kernel_rfl) rfl ?_
      obtain ⟨kl, hmap, hkids, hget⟩ := hm.child (x := x) hin
      have htk : l.take i ++ [x] = l.take (i + 1) := by rw [List.take_add_one, hx1]; rfl
      refine Rd_lookup tMap uInt zN hmap hget ?_
      refine Pu_eqnil tN ?_
      by_cases hnx : l.take i ++ [x] ∈ ns2
      · rw [if_pos hnx]
        refine Cd_f ?_
        unfold trie_Trie_Put.j2
        rw [wrap64 (x := (i : Int) + 1) (by omega) (by omega)]
        rw [htk] at hnx ⊢
        exact hk _ _ ⟨rfl, rfl, rfl, rfl, i + 1, by omega, by simp, own2, ns2, y2, ho1, ho2, hg.here (by omega) hnx, hm, hmo, rfl⟩ (by simp only; omega)
      · rw [if_neg hnx]
        refine Cd_t ?_
        refine Calls.mono (fresh_ok w') ?_
        rintro en w1 ⟨m, b, rfl, hB, hmb, hb1, hm1, hml, hx1'⟩
        refine ⟨some ⟨b, 0, none⟩, rfl, ?_⟩
        refine Pu_nil ?_
        refine Rd_has (c := .map) (x := some (y2.mp (l.take i))) (hnode.ex hx1') (by kernel_rfl) rfl ?_
        refine Wu_update tMap uInt (hmap.ex hx1') fun w2 hm2 hmo2 => ?_
        have hadd := hm.add hin hnx hx1' hB hmb hb1 hm1 (hmap.ex hx1') hkids hmo2 hm2
        unfold trie_Trie_Put.j2
        rw [wrap64 (x := (i : Int) + 1) (by omega) (by omega)]
        rw [htk] at hnx hadd
        refine hk _ _ ⟨rfl, rfl, rfl, rfl, i + 1, by omega, by simp, _, _, _, fun c hc => .inl (ho1 c hc), ?_, hg.add (by omega) hnx, hadd, ?_, ?_⟩ (by simp only; omega)
        · rintro c (hc | rfl | rfl)
          · exact ho2 c hc
          · have := hmo.size; right; omega
          · have := hmo.size; right; omega
        · refine hmo.trans (hx1'.mo hmo2) (fun _ => id) (fun c hc e => ?_)
          have e : c = y2.mp (l.take i) := e
          rcases ho2 _ (hm.ownN _ hin).2.1 with g | g
          · rw [e]; exact g
          · omega
        · show some _ = some _
          congr 2
          exact (upd_same _ _ _).symm
    · have : i = l.length := by omega
      subst this
      rw [List.take_length] at hin hnode ⊢
      have hF2 := hv.mo hmo hF
      refine Pu_nil ?_
      refine Rd_has (c := .bool) (x := y2.here l) hnode (by kernel_rfl) rfl ?_
      refine Cd_not (fun hf => ?_) (fun ht => ?_)
      · refine Pu_nil ?_
        refine Rd_has hm.top (by kernel_rfl) rfl ?_
        refine Pu_nil ?_
        rw [wrap64 (x := n + 1) (by omega) (by omega)]
        refine Wu_store (v := .int .i64 (n + 1)) hm.top sI (by simp [Value.cells, Value.oneCell']) (Nat.le_of_ble_eq_true (by kernel_rfl)) fun w4 hB4 hmo4 => ?_
        have hm4 := hm.top_set (n' := n + 1) (clock' := clock) hB4 hmo4
        have hmo5 : Mo own w w4 := hmo.trans hmo4 (fun _ => id) (fun b _ hb => by rw [hb]; exact h.ownT.1)
        refine put_set hm4 hin h0 hc (hv.mo hmo5 hF) hl fun own3 vown3 s2 w2 e1 e2 e3 e4 => ?_
        refine hR own3 vown3 s2 w2 ns2 y2 (fun b hb => e1 b (ho1 b hb)) (fun b hb => (e2 b hb).elim (ho2 b) (fun g => .inr (Nat.le_trans hmo5.size g))) hg (by rw [if_neg (by rw [hf]; simp)]; exact e3) ?_
        exact hmo5.trans e4 (fun _ => id) (fun b hb g => (ho2 b g).elim id (fun g => absurd g (by omega)))
      · refine put_set hm hin h0 hc hF2 hl fun own3 vown3 s2 w2 e1 e2 e3 e4 => ?_
        refine hR own3 vown3 s2 w2 ns2 y2 (fun b hb => e1 b (ho1 b hb)) (fun b hb => (e2 b hb).elim (ho2 b) (fun g => .inr (Nat.le_trans hmo.size g))) hg (by rw [if_pos ht]; exact e3) ?_
        exact hmo.trans e4 (fun _ => id) (fun b hb g => (ho2 b g).elim id (fun g => absurd g (by omega)))
  · have : q = [] := List.eq_nil_of_length_eq_zero (by omega)
    rw [this]; exact h.root
end Go.Proofs.Ytdnlnloogfnlgaa
