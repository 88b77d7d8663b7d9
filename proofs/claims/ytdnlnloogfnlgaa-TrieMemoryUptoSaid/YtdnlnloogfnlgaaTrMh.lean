/- culletlaw12.TrieMemory: its loops and its parts. -/
import Derived.Test.YtdnlnloogfnlgaaTrMg
set_option linter.all false
namespace Go.Proofs.Ytdnlnloogfnlgaa
open Go Go.Cu Go.RowKit
set_option linter.unusedVariables false
set_option maxHeartbeats 4000000
theorem mem_l2 {s : Sl} {l : List Int} {W w : World} {own : Nat → Prop} {tb : Nat} {clk : Int} {v u : Iv} {g : List (List Int)} (hs : Rds i64v W s l) (hl : l.length ≤ 17592186044000) (h : St W w own tb [(l, g)] clk [v, u] [g, g]) (hc : clk < 1000) :
    culletlaw12_TrieMemory.l2 (fun en w' => en = .returned (.bool true) ∧ Ex W w') (s, some ⟨tb, 0, none⟩, 0, v.s, u.s, ((v.s.len : Nat) : Int), 0, ()) w := by
  have hn0 := h.ls.each 0 v g rfl rfl
  have hvl : v.s.len = g.length := by rw [hn0.out.1, hn0.len]
  have hgs := h.sm g (List.mem_cons_self ..)
  rw [hvl]
  unfold culletlaw12_TrieMemory.l2
  refine loopW_of (fun st w' => st.1 = s ∧ st.2.1 = some ⟨tb, 0, none⟩ ∧ st.2.2.1 = 0 ∧ st.2.2.2.1 = v.s ∧ st.2.2.2.2.1 = u.s ∧ st.2.2.2.2.2.1 = (g.length : Int) ∧ ∃ i : Nat, i ≤ g.length ∧ st.2.2.2.2.2.2.1 = (i : Int) ∧ ∃ g', Dims g' g ∧ St W w' own tb [(l, g)] clk [v, u] [g', g]) (fun st _ => g.length - st.2.2.2.2.2.2.1.toNat) ?_
    ⟨rfl, rfl, rfl, rfl, rfl, rfl, 0, Nat.zero_le _, rfl, g, rfl, h⟩
  rintro k ⟨a1, a2, a3, a4, a5, a6, i', e⟩ w1 hI hk
  dsimp only at hI hk ⊢
  obtain ⟨rfl, rfl, rfl, rfl, rfl, rfl, i, hi, rfl, g1, hd1, h1⟩ := hI
  have hn1 := h1.ls.each 0 v g1 rfl rfl
  unfold culletlaw12_TrieMemory.b2
  refine Cd_dec (fun hlt => ?_) (fun hge => ?_)
  · have hil : i < g1.length := by rw [hd1.len]; omega
    refine Pu_idx hn1.out.rds tBB sBB (by omega) (by have := hn1.len; omega) fun a r hr hc1 _ => ?_
    rw [Int.toNat_natCast] at hr
    refine Rd_one (c := .sl) (x := r) oBB hc1 ?_
    have hrl := hn1.row i r _ hr (List.getElem?_eq_getElem hil)
    have hlen := (h1.sm g1 (List.mem_cons_self ..)).2 _ (List.getElem_mem hil)
    unfold culletlaw12_TrieMemory.l3
    refine loopW_of (fun st w' => st.1 = a1 ∧ st.2.1 = some ⟨tb, 0, none⟩ ∧ st.2.2.1 = 0 ∧ st.2.2.2.1 = v.s ∧ st.2.2.2.2.1 = u.s ∧ st.2.2.2.2.2.1 = (i : Int) ∧ st.2.2.2.2.2.2.1 = (g.length : Int) ∧ st.2.2.2.2.2.2.2.1 = (i : Int) ∧ st.2.2.2.2.2.2.2.2.1 = (r.len : Int) ∧ ∃ p : Nat, p ≤ r.len ∧ st.2.2.2.2.2.2.2.2.2.1 = (p : Int) ∧ ∃ g', Dims g' g ∧ St W w' own tb [(l, g)] clk [v, u] [g', g]) (fun st _ => r.len - st.2.2.2.2.2.2.2.2.2.1.toNat) ?_
      ⟨rfl, rfl, rfl, rfl, rfl, rfl, rfl, rfl, rfl, 0, Nat.zero_le _, rfl, g1, hd1, h1⟩
    rintro k2 ⟨b1, b2, b3, b4, b5, b6, b7, b8', b9, p', e2⟩ w2 hI2 hk2
    dsimp only at hI2 hk2 ⊢
    obtain ⟨rfl, rfl, rfl, rfl, rfl, rfl, rfl, rfl, rfl, p, hp, rfl, g2, hd2, h2⟩ := hI2
    have hn2 := h2.ls.each 0 v g2 rfl rfl
    have hil2 : i < g2.length := by rw [hd2.len]; omega
    unfold culletlaw12_TrieMemory.b3
    refine Cd_dec (fun hlt2 => ?_) (fun hge2 => ?_)
    · refine Pu_idx hn2.out.rds tBB sBB (by omega) (by have := hn2.len; omega) fun a r2 hr2 hc2 _ => ?_
      rw [Int.toNat_natCast, hr] at hr2
      cases hr2
      refine Rd_one (c := .sl) (x := r) oBB hc2 ?_
      have hg2 := List.getElem?_eq_getElem hil2
      have hrow := hn2.row i r _ hr hg2
      generalize g2[i] = q at hg2 hrow
      have hrq : r.len = q.length := hrow.1
      refine Pu_idx hrow.rds tB sB (by omega) (by omega) fun a3 x hx hc3 _ => ?_
      refine Rd_one (c := .int .u8) (x := x) oB hc3 ?_
      refine Wu_set (f := b8) (x := bXor .u8 x 85) hrow (by omega) tB sB sB rfl rfl fun w3 ho3 hm3 => ?_
      have hn3 := hn2.set hr ho3 hm3
      have hm3' : Mo (fun b => v.lo ≤ b ∧ b < v.up) w2 w3 := hm3.weak (fun b _ hb => hn2.low hr hb)
      have hd3 : Dims (g2.set i (q.set p (bXor .u8 x 85))) g := hd2.set hg2 (by simp)
      have h3 : St W w3 own tb [(l, g)] clk [v, u] [g2.set i (q.set p (bXor .u8 x 85)), g] := h2.touch (hm3'.weak (fun b _ hb => in_of (vs := [v, u]) (j := 0) rfl hb.1 hb.2)) (h2.ls.set (j := 0) (v := v) rfl hn3 hm3') (fun m hm => by
        simp at hm
        rcases hm with rfl | rfl
        · exact hd3.sm hgs
        · exact hgs)
      rw [wrap64 (x := (p : Int) + 1) (by omega) (by have := hrl.1; omega)]
      exact hk2 _ _ ⟨rfl, rfl, rfl, rfl, rfl, rfl, rfl, rfl, rfl, p + 1, by omega, by dsimp only; omega, _, hd3, h3⟩ (by simp only; omega)
    · rw [wrap64 (x := (i : Int) + 1) (by omega) (by omega)]
      exact hk _ _ ⟨rfl, rfl, rfl, rfl, rfl, rfl, i + 1, by omega, by dsimp only; omega, g2, hd2, h2⟩ (by simp only; omega)
  · have hg1 := h1.sm g1 (List.mem_cons_self ..)
    refine Wr_lit (f := i64v) (e := 3) (base := w1.heap.size) [0, 255] (by kernel_rfl) (Nat.le_refl _) (by simp) fun s2 w2 ho2 hx2 _ => ?_
    have h2 := h1.more hx2
    refine Cl_of (h2.put (V := g1) (F := fun b => v.lo ≤ b ∧ b < v.up) rfl (by omega) (ho2.weak h1.ex.size) (fun b hb ho => by have := h1.tr.ownL b ho; have := (ho2.base b hb).1; omega) (by simp) (h2.ls.each 0 v g1 rfl rfl).nest (fun b hb ho => h2.off b ho (in_of (vs := [v, u]) (j := 0) rfl hb.1 hb.2)) (small_rows hg1)) ?_
    rintro en w3 ⟨rfl, hm3, own3, hown3, h3⟩
    refine ⟨(0 : Int), rfl, ?_⟩
    have hA : ([0, 255], g1) ∈ putE [(l, g)] 3 [0, 255] g1 := by simp [putE]
    have hA1 : ∀ V, ([0, 255], V) ∈ putE [(l, g)] 3 [0, 255] g1 → V = g1 := fun V hV => by
      by_cases hE : l = [0, 255]
      · simp [putE, without, hE] at hV
        exact hV
      · simp [putE, without, hE] at hV
        rcases hV with hV | hV
        · exact hV
        · exact (hE hV.1.symm).elim
    have hB : ∃ V, (l, V) ∈ putE [(l, g)] 3 [0, 255] g1 := by
      by_cases hE : l = [0, 255]
      · exact ⟨g1, by simp [putE, without, hE]⟩
      · exact ⟨g, by simp [putE, without, hE]⟩
    have hB1 : l ≠ [0, 255] → ∀ V, (l, V) ∈ putE [(l, g)] 3 [0, 255] g1 → V = g := fun hE V hV => by
      simp [putE, without, hE] at hV
      exact hV
    generalize putE [(l, g)] 3 [0, 255] g1 = es at h3 hA hA1 hB hB1
    obtain ⟨V0, hV0⟩ := hB
    refine Cl_sl (copyKey_sl a1 l w3 (hs.ex h3.ex) hl) fun k4 w4 hk4 hx4 => ?_
    have h4 := h3.more hx4
    refine Cl_of (h4.peek hV0 hk4.rds hl) ?_
    rintro en w5 ⟨x, V, rfl, hV, hn5, hx5, _, _, _, h5⟩
    refine ⟨(x, true, ()), rfl, ?_⟩
    refine Wr_lit (f := i64v) (e := 3) (base := w5.heap.size) [0, 255] (by kernel_rfl) (Nat.le_refl _) (by simp) fun s6 w6 ho6 hx6 _ => ?_
    have h6 := h5.more hx6
    refine Cl_of (h6.peek hA ho6.rds (by simp)) ?_
    rintro en w7 ⟨y, V2, rfl, hV2, hn7, hx7, _, _, _, h7⟩
    refine ⟨(y, true, ()), rfl, ?_⟩
    obtain rfl := hA1 V2 hV2
    dsimp only
    refine Cd_ne (fun h => (h rfl).elim) (fun _ => ?_)
    refine Cd_ne (fun h => (h rfl).elim) (fun _ => ?_)
    refine Cd_not (fun h => by cases h) (fun _ => ?_)
    refine Cd_not (fun h => by cases h) (fun _ => ?_)
    refine Cl_gv (d := .one (.at .bool)) (x := decide (V2 = V2)) (sameValue_gv y v.s V2 V2 _ _ w7 hn7.nest (h7.ls.each 0 v V2 rfl rfl).nest (small_rows hg1)) fun w8 hx8 => ?_
    rw [show (!decide (V2 = V2)) = false by simp]
    have h8 := h7.more hx8
    refine mem_j4 hs hl h8.ex (fun hne => ?_)
    obtain rfl := hB1 hne V hV
    exact ⟨_, _, V, (hn5.nest.ex (hx6.trans (hx7.trans hx8))), (h8.ls.each 1 u V rfl rfl).nest, small_rows hgs⟩
theorem mem_j3 {s : Sl} {l : List Int} {W w : World} {own : Nat → Prop} {tb : Nat} {clk : Int} {v : Iv} {g ls : List (List Int)} (hs : Rds i64v W s l) (hl : l.length ≤ 17592186044000) (hgood : goodB l = true) (h : St W w own tb [(l, ls)] clk [v] [g]) (hc : clk < 900) :
    culletlaw12_TrieMemory.j3 (fun en w' => en = .returned (.bool true) ∧ Ex W w') s (some ⟨tb, 0, none⟩) v.s false w := by
  unfold culletlaw12_TrieMemory.j3
  refine Cd_f ?_
  have hgs := h.sm g (List.mem_cons_self ..)
  refine Cl_sl (copyKey_sl s l w (hs.ex h.ex) hl) fun k2 w2 hk2 hx2 => ?_
  have h2 := h.more hx2
  refine Cl_of (h2.put (V := g) (F := fun b => v.lo ≤ b ∧ b < v.up) hgood (by omega) (hk2.weak h.ex.size) (fun b hb ho => by have := h.tr.ownL b ho; have := (hk2.base b hb).1; omega) hl (h2.ls.each 0 v g rfl rfl).nest (fun b hb ho => h2.off b ho (in_of (vs := [v]) (j := 0) rfl hb.1 hb.2)) (small_rows hgs)) ?_
  rintro en w3 ⟨rfl, hm3, own3, hown3, h3⟩
  refine ⟨(0 : Int), rfl, ?_⟩
  rw [show putE [(l, ls)] 3 l g = [(l, g)] by simp [putE, without]] at h3
  refine Cl_of (copyValue_nest v.s g _ w3 (h3.ls.each 0 v g rfl rfl).nest (small_rows hgs)) ?_
  rintro en w4 ⟨was, rfl, hn4, hx4⟩
  refine ⟨was, rfl, ?_⟩
  obtain ⟨ss, h4⟩ := (h3.more hx4).add hn4 h3.up h3.tr.ownL h3.ex.size hx4.size hgs
  exact mem_l2 (u := ⟨w3.heap.size, w4.heap.size, was, ss⟩) hs hl h4 (by omega)
theorem mem_j2 {s s2 : Sl} {l : List Int} {W w : World} {own : Nat → Prop} {tb : Nat} {clk : Int} {a b c v : Iv} {g ls : List (List Int)} (hs : Rds i64v W s l) (hl : l.length ≤ 17592186044000) (hgood : goodB l = true) (hs2 : Nest b8 (fun _ => True) W s2 ls) (h : St W w own tb [(l, ls)] clk [a, b, c, v] [ls, ls, ls, g]) (hc : clk < 800) :
    culletlaw12_TrieMemory.j2 (fun en w' => en = .returned (.bool true) ∧ Ex W w') s s2 (some ⟨tb, 0, none⟩) v.s a.s b.s c.s false w := by
  unfold culletlaw12_TrieMemory.j2
  refine Cd_f ?_
  have hlss := h.sm ls (List.mem_cons_self ..)
  refine Wr_lit (f := slv) (e := 30) (base := w.heap.size) [a.s, b.s, c.s, v.s] (by kernel_rfl) (Nat.le_refl _) (by simp) fun s1 w1 ho1 hx1 hin1 => ?_
  have h1 := h.more hx1
  refine Cl_of (grownOver_ok (vs := [a, b, c, v]) h1.ls h1.up ho1 (fun x hx hx2 => ?_) h1.sm (by simp)) ?_
  · have := (h.iv hx2).2
    have := hin1 x hx
    omega
  rintro en w2 ⟨rfl, hL2, hm2⟩
  refine ⟨true, rfl, ?_⟩
  have h2 := h1.touch hm2 hL2 (h1.sm.fill _)
  refine Cd_not (fun h => by cases h) (fun _ => ?_)
  obtain ⟨g3, hg3⟩ : ∃ g3, (fillG [ls, ls, ls, g].length [ls, ls, ls, g])[3]? = some g3 := ⟨_, List.getElem?_eq_getElem (by rw [fillG_len]; exact Nat.lt_succ_self 3)⟩
  have h3 := h2.only (j := 3) (v := v) rfl hg3
  refine Cl_sl (copyKey_sl s l w2 (hs.ex h3.ex) hl) fun k4 w4 hk4 hx4 => ?_
  have h4 := h3.more hx4
  refine Cl_of (h4.get (by omega) hk4.rds hl) ?_
  rintro en w5 ⟨d, rfl, hn5, _, _, _, _, h5⟩
  refine ⟨(d, true, ()), rfl, ?_⟩
  dsimp only
  refine Cd_not (fun h => by cases h) (fun _ => ?_)
  refine Cl_gv (d := .one (.at .bool)) (x := decide (ls = ls)) (sameValue_gv d s2 ls ls _ _ w5 hn5.nest (hs2.ex h5.ex) (small_rows hlss)) fun w6 hx6 => ?_
  rw [show (!decide (ls = ls)) = false by simp]
  exact mem_j3 hs hl hgood (h5.more hx6) (by omega)
theorem mem_l1 {s s2 k : Sl} {l lk : List Int} {W w : World} {own : Nat → Prop} {tb : Nat} {clk : Int} {v : Iv} {g ls : List (List Int)} (hs : Rds i64v W s l) (hl : l.length ≤ 17592186044000) (hgood : goodB l = true) (hs2 : Nest b8 (fun _ => True) W s2 ls) (hls : ls.length ≤ 1048576 ∧ ∀ r ∈ ls, r.length ≤ 140737488351232)
    (h : St W w own tb [(l, ls)] clk [v] [g]) (hc : clk < 700) (hk : Own i64v 3 W.heap.size w k lk) (hkl : lk.length ≤ 17592186044000) (hkno : ∀ b, SlIn k b → ¬ own b ∧ ¬ InIv [v] b) :
    culletlaw12_TrieMemory.l1 (fun en w' => en = .returned (.bool true) ∧ Ex W w') (s, s2, some ⟨tb, 0, none⟩, 0, k, v.s, ((k.len : Nat) : Int), 0, ()) w := by
  have hkl2 : k.len = lk.length := hk.1
  rw [hkl2]
  unfold culletlaw12_TrieMemory.l1
  refine loopW_of (fun st w' => st.1 = s ∧ st.2.1 = s2 ∧ st.2.2.1 = some ⟨tb, 0, none⟩ ∧ st.2.2.2.1 = 0 ∧ st.2.2.2.2.1 = k ∧ st.2.2.2.2.2.1 = v.s ∧ st.2.2.2.2.2.2.1 = (lk.length : Int) ∧ ∃ i : Nat, i ≤ lk.length ∧ st.2.2.2.2.2.2.2.1 = (i : Int) ∧ St W w' own tb [(l, ls)] clk [v] [g] ∧ ∃ l', l'.length = lk.length ∧ Own i64v 3 W.heap.size w' k l') (fun st _ => lk.length - st.2.2.2.2.2.2.2.1.toNat) ?_
    ⟨rfl, rfl, rfl, rfl, rfl, rfl, rfl, 0, Nat.zero_le _, rfl, h, lk, rfl, hk⟩
  rintro kk ⟨a1, a2, a3, a4, a5, a6, a7, i', e⟩ w1 hI hkk
  dsimp only at hI hkk ⊢
  obtain ⟨rfl, rfl, rfl, rfl, rfl, rfl, rfl, i, hi, rfl, h1, l1, hl1, ho1⟩ := hI
  unfold culletlaw12_TrieMemory.b1
  refine Cd_dec (fun hlt => ?_) (fun hge => ?_)
  · refine Wu_set (f := i64v) (x := 3000) ho1 (by omega) tI sI sI rfl rfl fun w2 ho2 hm2 => ?_
    have h2 := h1.other hm2 (fun b hb => ⟨(ho1.base b hb).1, hkno b hb⟩)
    rw [wrap64 (x := (i : Int) + 1) (by omega) (by omega)]
    exact hkk _ _ ⟨rfl, rfl, rfl, rfl, rfl, rfl, rfl, i + 1, by omega, by dsimp only; omega, h2, _, by simp [hl1], ho2⟩ (by simp only; omega)
  · refine Cl_sl (copyKey_sl a1 l w1 (hs.ex h1.ex) hl) fun k2 w2 hk2 hx2 => ?_
    have h2 := h1.more hx2
    refine Cl_of (h2.get (by omega) hk2.rds hl) ?_
    rintro en w3 ⟨xa, rfl, hna, p1, p2, p3, p4, h3⟩
    refine ⟨(xa, true, ()), rfl, ?_⟩
    obtain ⟨sa, h3⟩ := h3.add hna p4 p2 p3 p1 hls
    have ha := h3.ls.each 1 _ ls rfl rfl
    refine Cl_sl (copyKey_sl a1 l w3 (hs.ex h3.ex) hl) fun k4 w4 hk4 hx4 => ?_
    have h4 := h3.more hx4
    refine Cl_of (h4.get (by omega) hk4.rds hl) ?_
    rintro en w5 ⟨xb, rfl, hnb, p1, p2, p3, p4, h5⟩
    refine ⟨(xb, true, ()), rfl, ?_⟩
    obtain ⟨sb, h5⟩ := h5.add hnb p4 p2 p3 p1 hls
    refine Cl_sl (copyKey_sl a1 l w5 (hs.ex h5.ex) hl) fun k6 w6 hk6 hx6 => ?_
    have h6 := h5.more hx6
    refine Cl_of (h6.peek (List.mem_cons_self ..) hk6.rds hl) ?_
    rintro en w7 ⟨xc, V, rfl, hV, hnc, hx7, p2, p3, p4, h7⟩
    simp at hV
    subst hV
    refine ⟨(xc, true, ()), rfl, ?_⟩
    obtain ⟨sc, h7⟩ := h7.add hnc p4 p2 p3 hx7.size hls
    have h8 := h7.turn
    dsimp only
    refine Cd_ne (fun h => (h rfl).elim) (fun _ => ?_)
    refine Cd_not (fun h => by cases h) (fun _ => ?_)
    refine Cd_not (fun h => by cases h) (fun _ => ?_)
    refine Cd_not (fun h => by cases h) (fun _ => ?_)
    refine Cl_gv (d := .one (.at .bool)) (x := decide (V = V)) (sameValue_gv xa a2 V V _ _ w7 (h8.ls.each 0 _ V rfl rfl).nest (hs2.ex h8.ex) (small_rows hls)) fun w9 hx9 => ?_
    refine Cd_not (fun h => by simp at h) (fun _ => ?_)
    have h9 := h8.more hx9
    refine Cl_gv (d := .one (.at .bool)) (x := decide (V = V)) (sameValue_gv xb a2 V V _ _ w9 (h9.ls.each 1 _ V rfl rfl).nest (hs2.ex h9.ex) (small_rows hls)) fun w10 hx10 => ?_
    refine Cd_not (fun h => by simp at h) (fun _ => ?_)
    have h10 := h9.more hx10
    refine Cl_gv (d := .one (.at .bool)) (x := decide (V = V)) (sameValue_gv xc a2 V V _ _ w10 (h10.ls.each 2 _ V rfl rfl).nest (hs2.ex h10.ex) (small_rows hls)) fun w11 hx11 => ?_
    rw [show (!decide (V = V)) = false by simp]
    exact mem_j2 (a := ⟨_, _, xa, sa⟩) (b := ⟨_, _, xb, sb⟩) (c := ⟨_, _, xc, sc⟩) hs hl hgood hs2 (h10.more hx11) (by omega)
theorem memory_law (s s2 : Sl) (l : List Int) (ls : List (List Int)) (W : World) (hs : Rds i64v W s l) (hl : l.length ≤ 17592186044000) (hs2 : Nest b8 (fun _ => True) W s2 ls) (hle : RowsLe ls) (hsm : ls.length ≤ 1048576) : Gv Try.prog 5 #[slv s, slv s2] (.bool true) W := by
  have hls : ls.length ≤ 1048576 ∧ ∀ r ∈ ls, r.length ≤ 140737488351232 := ⟨hsm, hle.2⟩
  refine culletlaw12_TrieMemory.run _ s s2 W ?_
  unfold culletlaw12_TrieMemory.M
  refine Cl_of (new_ok 3 W) ?_
  rintro en w1 ⟨hx1, (⟨hb, _⟩ | ⟨_, tb, rfl, htb, hst⟩)⟩
  · omega
  refine ⟨(some ⟨tb, 0, none⟩, 0, ()), rfl, ?_⟩
  have h1 : St W w1 (fun b => W.heap.size ≤ b ∧ b < w1.heap.size) tb [] 0 [] [] := ⟨hx1, hst, fun b hb => hb.1, ⟨rfl, fun j v m hv => by simp at hv, fun i j u v hu => by simp at hu, fun v hv => by simp at hv⟩, fun u hu => by simp at hu, fun u hu => by simp at hu, fun b hb ⟨v, hv, _⟩ => by simp at hv, fun g hg => by simp at hg⟩
  generalize (fun b => W.heap.size ≤ b ∧ b < w1.heap.size) = own at h1
  refine Cl_gv (d := .one (.at .bool)) (x := true) (fixed_gv w1) fun w2 hx2 => ?_
  have h2 := h1.more hx2
  refine Cd_not (fun h => by cases h) (fun _ => ?_)
  refine Pu_eqnil tT ?_
  refine Cd_f ?_
  dsimp only
  rw [show ((0 : Int) != 0) = false from rfl]
  unfold culletlaw12_TrieMemory.j1
  refine Cd_f ?_
  refine Cl_gv (d := .one (.at .bool)) (x := goodB l) (good_gv s l w2 (hs.ex h2.ex) (by omega)) fun w3 hx3 => ?_
  have h3 := h2.more hx3
  refine Cd_not (fun hbad => ?_) (fun hgood => ?_)
  · refine Cl_sl (copyKey_sl s l w3 (hs.ex h3.ex) hl) fun k4 w4 hk4 hx4 => ?_
    have h4 := h3.more hx4
    refine Cl_of (put_ok (F := fun _ => False) h4.tr (by omega) k4 nilS l [] hk4.rds (by omega) (fun a ha ho => by have := h3.tr.ownL _ ho; have := (hk4.base _ (slin_of ha)).1; omega) (Nest.nil _ _ _) (fun b hb => hb.elim) ⟨by simp, by simp⟩) ?_
    rintro en w5 (⟨_, rfl, hx5⟩ | ⟨hb, _⟩)
    · exact ⟨(120 : Int), rfl, rfl, h4.ex.trans hx5⟩
    · rw [hbad] at hb; cases hb
  · refine Cl_sl (copyKey_sl s l w3 (hs.ex h3.ex) hl) fun k4 w4 hk4 hx4 => ?_
    have h4 := h3.more hx4
    refine Cl_of (copyValue_nest s2 ls _ w4 (hs2.ex h4.ex) hle) ?_
    rintro en w5 ⟨vs, rfl, hn5, hx5⟩
    refine ⟨vs, rfl, ?_⟩
    obtain ⟨ss, h5⟩ := (h4.more hx5).add hn5 h4.up h4.tr.ownL h4.ex.size hx5.size hls
    have hk5 := hk4.ex hx5
    refine Cl_of (h5.put (V := ls) (F := fun b => w4.heap.size ≤ b ∧ b < w5.heap.size) hgood (by omega) (hk5.weak h3.ex.size) (fun b hb ho => by have := h3.tr.ownL b ho; have := (hk4.base b hb).1; omega) hl (h5.ls.each 0 _ ls rfl rfl).nest (fun b hb ho => h5.off b ho (in_of (j := 0) rfl hb.1 hb.2)) hle) ?_
    rintro en w6 ⟨rfl, hm6, own6, hown6, h6⟩
    refine ⟨(0 : Int), rfl, ?_⟩
    rw [show putE [] 3 l ls = [(l, ls)] by simp [putE, without]] at h6
    have hk6 : Own i64v 3 W.heap.size w6 k4 l := (hk5.weak h3.ex.size).mo hm6 (fun b hb ho => by have := h3.tr.ownL b ho; have := (hk4.base b hb).1; omega)
    have hn6 := h6.ls.each 0 _ ls rfl rfl
    refine Cl_of (filled_ok 99 hn6 hle) ?_
    rintro en w7 ⟨rfl, hn7, hm7⟩
    refine ⟨(), rfl, ?_⟩
    have h7 := h6.touch (hm7.weak (fun b _ hb => in_of (j := 0) rfl hb.1 hb.2)) (h6.ls.set (j := 0) rfl hn7 hm7) (fun m hm => by
      simp at hm
      subst hm
      exact small_fill _ hls)
    have hk4b : ∀ b, SlIn k4 b → w3.heap.size ≤ b ∧ b < w4.heap.size := fun b hb => hk4.base b hb
    have hkiv : ∀ b, SlIn k4 b → ¬ InIv [⟨w4.heap.size, w5.heap.size, vs, ss⟩] b := fun b hb ⟨u, hu, h8, h9⟩ => by
      simp at hu
      subst hu
      have := (hk4b b hb).2
      dsimp only at h8
      omega
    refine mem_l1 (v := ⟨w4.heap.size, w5.heap.size, vs, ss⟩) (lk := l) hs hl hgood hs2 hls h7 (by omega) (hk6.mo hm7 (fun b hb hb2 => by have := (hk4b b hb).2; have h9 : w4.heap.size ≤ b := hb2.1; omega)) hl (fun b hb => ⟨fun ho => ?_, hkiv b hb⟩)
    rcases hown6 b ho with h8 | h8
    · have := h3.tr.ownL b h8
      have := (hk4b b hb).1
      omega
    · have := (hk4b b hb).2
      have := hx5.size
      omega
end Go.Proofs.Ytdnlnloogfnlgaa
