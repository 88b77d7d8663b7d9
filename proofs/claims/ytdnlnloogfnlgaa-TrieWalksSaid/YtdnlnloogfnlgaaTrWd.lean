/- culletlaw12.TrieWalks: what stays and what the pieces of the outer round do. -/
import Derived.Test.YtdnlnloogfnlgaaTrWc
set_option linter.all false
namespace Go.Proofs.Ytdnlnloogfnlgaa
open Go Go.Cu Go.RowKit
set_option linter.unusedVariables false
set_option maxHeartbeats 4000000
structure Cs where
  b5 : Nat
  b6 : Nat
  b7 : Nat
  b11 : Nat
  b12 : Nat
  bx : Nat
  s : Sl
  want : Sl
  sl : Sl
  ks : List Path
  F : Nat → Prop
  tb : Nat
def Cst (c : Cs) (b : Nat) : Prop := b = c.b5 ∨ b = c.b6 ∨ b = c.b7 ∨ b = c.b11 ∨ b = c.b12 ∨ b = c.bx ∨ c.F b
structure Con (c : Cs) (w : World) : Prop where
  h5 : Has w c.b5 [slv c.s] 22
  h6 : Has w c.b6 [.bool false] 4
  h7 : Has w c.b7 [.pointer (some ⟨c.tb, 0, none⟩)] 23
  h11 : Has w c.b11 [slv c.want] 45
  h12 : Has w c.b12 [seqV c.bx] 71
  hx : Has w c.bx [slv c.sl] 45
  n1 : Nest i64v c.F w c.want c.ks
  n2 : Nest i64v c.F w c.sl c.ks
theorem Con.mo {c : Cs} {w w' : World} {X : Nat → Prop} (h : Con c w) (k : Mo X w w') (hx : ∀ b, Cst c b → ¬ X b) : Con c w' :=
  ⟨h.h5.mo k (hx _ (.inl rfl)), h.h6.mo k (hx _ (.inr (.inl rfl))), h.h7.mo k (hx _ (.inr (.inr (.inl rfl)))), h.h11.mo k (hx _ (.inr (.inr (.inr (.inl rfl))))), h.h12.mo k (hx _ (.inr (.inr (.inr (.inr (.inl rfl)))))), h.hx.mo k (hx _ (.inr (.inr (.inr (.inr (.inr (.inl rfl))))))),
    h.n1.mo k (fun b hb => hx b (.inr (.inr (.inr (.inr (.inr (.inr hb))))))), h.n2.mo k (fun b hb => hx b (.inr (.inr (.inr (.inr (.inr (.inr hb)))))))⟩
theorem Con.ex {c : Cs} {w w' : World} (h : Con c w) (k : Ex w w') : Con c w' := h.mo k (fun _ _ => id)
structure Sw (W : World) (tb : Nat) (lim : Int) (Res : Nat → Prop) (w : World) (clk : Int) : Prop where
  ex : Ex W w
  res : ∀ b, Res b → b < w.heap.size
  tri : ∃ own es clock, (∀ b, own b → W.heap.size ≤ b ∧ ¬ Res b) ∧ TrieSt w own tb lim es clock ∧ clock ≤ clk
section
variable {W w w' : World} {tb : Nat} {lim : Int} {Res Res' X : Nat → Prop} {clk : Int}
theorem Sw.mo (h : Sw W tb lim Res w clk) (k : Mo X w w') (hx : ∀ b, b < w.heap.size → X b → Res b ∧ W.heap.size ≤ b) : Sw W tb lim Res w' clk := by
  obtain ⟨own, es, clock, h1, h2, h3⟩ := h.tri
  have k' : Mo (fun b => X b ∧ b < w.heap.size) w w' := k.weak (fun b hb h => ⟨h, hb⟩)
  exact ⟨h.ex.into k' (fun b hb => (hx b hb.2 hb.1).2), fun b hb => Nat.lt_of_lt_of_le (h.res b hb) k.size, own, es, clock, h1, h2.mo k' (fun b hb hb2 => (h1 b hb).2 (hx b hb2.2 hb2.1).1), h3⟩
theorem Sw.more (h : Sw W tb lim Res w clk) (k : Ex w w') : Sw W tb lim Res w' clk := h.mo k (fun _ _ h => h.elim)
theorem Sw.grow (h : Sw W tb lim Res w clk) (k : Ex w w') (hr : ∀ b, Res' b → Res b ∨ w.heap.size ≤ b ∧ b < w'.heap.size) : Sw W tb lim Res' w' clk := by
  obtain ⟨own, es, clock, h1, h2, h3⟩ := h.tri
  refine ⟨h.ex.trans k, fun b hb => ?_, own, es, clock, fun b hb => ⟨(h1 b hb).1, fun hb2 => ?_⟩, h2.ex k, h3⟩
  · rcases hr b hb with h4 | h4
    · exact Nat.lt_of_lt_of_le (h.res b h4) k.size
    · exact h4.2
  · rcases hr b hb2 with h4 | h4
    · exact (h1 b hb).2 h4
    · have := h2.ownL b hb
      omega
theorem Sw.less (h : Sw W tb lim Res w clk) (hr : ∀ b, Res' b → Res b) : Sw W tb lim Res' w clk := h.grow (Ex.refl w) (fun b hb => .inl (hr b hb))
theorem Sw.late {clk' : Int} (h : Sw W tb lim Res w clk) (hc : clk ≤ clk') : Sw W tb lim Res w clk' := by
  obtain ⟨own, es, clock, h1, h2, h3⟩ := h.tri
  exact ⟨h.ex, h.res, own, es, clock, h1, h2, by omega⟩
theorem Sw.done (h : Sw W tb lim Res w clk) (hc : clk < 4611686018427387904) (o : OpK) (hop : OpOk W o) :
    Calls Try.prog 28 #[.pointer (some ⟨tb, 0, none⟩), .agg (encAts oAts o.o).toArray] w fun en w' => en = .returned (.tuple #[]) ∧ Mo (fun b => W.heap.size ≤ b ∧ ¬ Res b) w w' ∧ Sw W tb lim Res w' (clk + 1) := by
  obtain ⟨own, es, clock, h1, h2, h3⟩ := h.tri
  refine Calls.mono (done_ok h2 (by omega) o (hop.ex h.ex)) ?_
  rintro en w1 ⟨rfl, hsz, hm, own2, es2, clock2, h4, h5, h6⟩
  have hm' : Mo (fun b => W.heap.size ≤ b ∧ ¬ Res b) w w1 := hm.weak (fun b _ hb => h1 b hb)
  have hW := h.ex.size
  refine ⟨rfl, hm', h.ex.into hm' (fun b hb => hb.1), fun b hb => Nat.lt_of_lt_of_le (h.res b hb) hsz, own2, es2, clock2, fun b hb => ?_, h5, by omega⟩
  rcases h4 b hb with h7 | h7
  · exact h1 b h7
  · exact ⟨by omega, fun h8 => by have := h.res b h8; omega⟩
end
section
variable {c : Cs} {w : World} {bn i : Nat} {k : Sl} {l : Path} {B : Nat}
theorem walks_q1 {K : (Addr × Addr × Addr × Addr × Addr × Addr × Sl × Unit) → World → Prop} (h : Con c w) (hbn : Has w bn [.int .i64 (i : Int)] 3) (hl : c.ks[i]? = some l) (hlen : c.ks.length ≤ 1024) (hll : l.length ≤ 300) (hk : Cu.Own i64v 3 B w k l)
    (hK : ∀ w', Ex w w' → K (⟨c.b5, 0, none⟩, ⟨c.b6, 0, none⟩, ⟨c.b7, 0, none⟩, ⟨c.b11, 0, none⟩, ⟨c.b12, 0, none⟩, ⟨bn, 0, none⟩, k, ()) w') :
    culletlaw12_TrieWalks.q1.M (fun _ _ => False) K ⟨c.b5, 0, none⟩ ⟨c.b6, 0, none⟩ ⟨c.b7, 0, none⟩ ⟨c.b11, 0, none⟩ ⟨c.b12, 0, none⟩ ⟨bn, 0, none⟩ k w := by
  have hjl := (List.getElem?_eq_some_iff.1 hl).1
  have hwl := nest_len h.n1
  obtain ⟨rs, r1, r2, _, r4⟩ := h.n1
  unfold culletlaw12_TrieWalks.q1.M
  refine Rd_has (c := .int .i64) (x := (i : Int)) hbn (by kernel_rfl) rfl ?_
  refine Rd_has (c := .sl) (x := c.want) h.h11 (by kernel_rfl) rfl ?_
  refine Cd_dec (fun h => absurd h (by omega)) (fun _ => ?_)
  refine Rd_has (c := .sl) (x := c.want) h.h11 (by kernel_rfl) rfl ?_
  refine Rd_has (c := .int .i64) (x := (i : Int)) hbn (by kernel_rfl) rfl ?_
  refine Pu_idx r1 tII sII (by omega) (by omega) fun a r hr hc _ => ?_
  refine Rd_one (c := .sl) (x := r) oII hc ?_
  rw [Int.toNat_natCast] at hr
  obtain ⟨hrr, _⟩ := r4 i r l hr hl
  refine Cl_gv (d := .one (.at .bool)) (x := decide (l = l)) (same_gv k r l l w hk.rds hrr (by omega)) fun w1 hx1' => ?_
  unfold culletlaw12_TrieWalks.q1.j1
  exact Cd_not (fun h => by simp at h) (fun _ => hK w1 hx1')
theorem walks_q2 {K : (Addr × Addr × Addr × Addr × Addr × Addr × Sl × Bool × Unit) → World → Prop} (h : Con c w) (hbn : Has w bn [.int .i64 (i : Int)] 3)
    (hK : K (⟨c.b5, 0, none⟩, ⟨c.b6, 0, none⟩, ⟨c.b7, 0, none⟩, ⟨c.b11, 0, none⟩, ⟨c.b12, 0, none⟩, ⟨bn, 0, none⟩, k, decide ((i : Int) < ((c.s.len : Nat) : Int)), ()) w) :
    culletlaw12_TrieWalks.q2.M (fun _ _ => False) K ⟨c.b5, 0, none⟩ ⟨c.b6, 0, none⟩ ⟨c.b7, 0, none⟩ ⟨c.b11, 0, none⟩ ⟨c.b12, 0, none⟩ ⟨bn, 0, none⟩ k w := by
  unfold culletlaw12_TrieWalks.q2.M
  refine Rd_has (c := .int .i64) (x := (i : Int)) hbn (by kernel_rfl) rfl ?_
  refine Rd_has (c := .sl) (x := c.s) h.h5 (by kernel_rfl) rfl ?_
  exact hK
theorem walks_q3 {W : World} {lim clk : Int} {Res : Nat → Prop} {os : List OpK} {K : (Addr × Addr × Addr × Addr × Addr × Addr × Sl × Unit) → World → Prop} (h : Con c w) (hS : Sw W c.tb lim Res w clk) (hc : clk < 4611686018427387904) (hsc : Script W c.s os) (hbn : Has w bn [.int .i64 (i : Int)] 3) (hi : i < c.s.len)
    (hK : ∀ w', Mo (fun b => W.heap.size ≤ b ∧ ¬ Res b) w w' → Sw W c.tb lim Res w' (clk + 1) → K (⟨c.b5, 0, none⟩, ⟨c.b6, 0, none⟩, ⟨c.b7, 0, none⟩, ⟨c.b11, 0, none⟩, ⟨c.b12, 0, none⟩, ⟨bn, 0, none⟩, k, ()) w') :
    culletlaw12_TrieWalks.q3.M K ⟨c.b5, 0, none⟩ ⟨c.b6, 0, none⟩ ⟨c.b7, 0, none⟩ ⟨c.b11, 0, none⟩ ⟨c.b12, 0, none⟩ ⟨bn, 0, none⟩ k w := by
  obtain ⟨hra, hops, hsm⟩ := hsc
  have hd := Ex.drew w
  have h5 := h.h5.ex hd
  have h7 := h.h7.ex hd
  have hn := hbn.ex hd
  have hra' := hra.ex (hS.ex.trans hd)
  have hlen : c.s.len = os.length := by rw [hra.1, List.length_map]
  have hio : i < os.length := by omega
  obtain ⟨o, ho⟩ : ∃ o, o = os[i] := ⟨_, rfl⟩
  have hop : OpOk W o := by rw [ho]; exact hops _ (List.getElem_mem hio)
  have hoi : (os.map (·.o))[i]? = some o.o := by rw [List.getElem?_map, List.getElem?_eq_getElem hio, ho]; rfl
  have fin : ∀ x : OpT, x = o.o → Cl Try.prog 28 #[.pointer (some ⟨c.tb, 0, none⟩), .agg #[(.int .i64 x.1), (.int .i64 x.2.1), (.slice x.2.2.1.base x.2.2.1.len x.2.2.1.cap), (.slice x.2.2.2.1.base x.2.2.2.1.len x.2.2.2.1.cap)]] (.tup []) (fun _ w' => K (⟨c.b5, 0, none⟩, ⟨c.b6, 0, none⟩, ⟨c.b7, 0, none⟩, ⟨c.b11, 0, none⟩, ⟨c.b12, 0, none⟩, ⟨bn, 0, none⟩, k, ()) w') w.drew := by
    rintro x rfl
    refine Cl_of ((hS.more hd).done hc o hop) ?_
    rintro en w2 ⟨rfl, hm, hS2⟩
    exact ⟨(), rfl, hK w2 (hd.mo hm) hS2⟩
  have idx : ∀ {k' : Addr → World → Prop}, (∀ a, (∀ (j : Nat) v, (encAts oAts o.o)[j]? = some v → w.drew.cell? (a.add j) = some v) → k' a w.drew) → Pu Try.prog (Instr.indexAt 22 (.slice c.s.base c.s.len c.s.cap) (.int .i64 (i : Int))) (.one (.at .addr)) k' w.drew := by
    intro k' hk'
    refine Pu_idxA hra' tOps (by kernel_rfl) (by omega) (by rw [List.length_map]; omega) fun a ov hov hc' _ => ?_
    rw [Int.toNat_natCast, hoi] at hov
    cases hov
    exact hk' a hc'
  unfold culletlaw12_TrieWalks.q3.M
  repeat' first
    | apply And.intro
    | refine Rd_has (c := .ptr) (x := some ⟨c.tb, 0, none⟩) h7 (by kernel_rfl) rfl ?_
    | refine Rd_has (c := .sl) (x := c.s) h5 (by kernel_rfl) rfl ?_
    | refine Rd_has (c := .int .i64) (x := (i : Int)) hn (by kernel_rfl) rfl ?_
    | (refine idx fun a ha => ?_)
    | (refine Rd_agg (x := o.o) (by kernel_rfl) (by assumption) ?_)
    | exact fin o.o rfl
theorem walks_q6 {K : (Addr × Addr × Addr × Addr × Addr × Addr × Unit) → World → Prop} (hbn : Has w bn [.int .i64 (i : Int)] 3) (hi : i < 1024) (hll : l.length ≤ 300) (hk : Cu.Own i64v 3 B w k l) (hkn : ∀ b, SlIn k b → b ≠ bn)
    (hK : ∀ w', Mo (fun b => SlIn k b ∨ b = bn) w w' → Has w' bn [.int .i64 ((i + 1 : Nat) : Int)] 3 → K (⟨c.b5, 0, none⟩, ⟨c.b6, 0, none⟩, ⟨c.b7, 0, none⟩, ⟨c.b11, 0, none⟩, ⟨c.b12, 0, none⟩, ⟨bn, 0, none⟩, ()) w') :
    culletlaw12_TrieWalks.q6.M (fun _ _ => False) K ⟨c.b5, 0, none⟩ ⟨c.b6, 0, none⟩ ⟨c.b7, 0, none⟩ ⟨c.b11, 0, none⟩ ⟨c.b12, 0, none⟩ ⟨bn, 0, none⟩ k w := by
  have hkl : k.len = l.length := hk.1
  unfold culletlaw12_TrieWalks.q6.M culletlaw12_TrieWalks.q6.l1
  rw [hkl]
  refine loopW_of (fun st w' => st.1 = ⟨c.b5, 0, none⟩ ∧ st.2.1 = ⟨c.b6, 0, none⟩ ∧ st.2.2.1 = ⟨c.b7, 0, none⟩ ∧ st.2.2.2.1 = ⟨c.b11, 0, none⟩ ∧ st.2.2.2.2.1 = ⟨c.b12, 0, none⟩ ∧ st.2.2.2.2.2.1 = ⟨bn, 0, none⟩ ∧ st.2.2.2.2.2.2.1 = k ∧ st.2.2.2.2.2.2.2.1 = (l.length : Int) ∧ ∃ p : Nat, p ≤ l.length ∧ st.2.2.2.2.2.2.2.2.1 = (p : Int) ∧ Mo (SlIn k) w w' ∧ ∃ l', l'.length = l.length ∧ Cu.Own i64v 3 B w' k l') (fun st _ => l.length - st.2.2.2.2.2.2.2.2.1.toNat) ?_
    ⟨rfl, rfl, rfl, rfl, rfl, rfl, rfl, rfl, 0, Nat.zero_le _, rfl, Mo.refl _ _, l, rfl, hk⟩
  rintro kk ⟨a1, a2, a3, a4, a5, a6, a7, a8, p', u⟩ w2 hI hkk
  dsimp only at hI hkk ⊢
  obtain ⟨rfl, rfl, rfl, rfl, rfl, rfl, rfl, rfl, p, hp, rfl, hm, l', hl', ho⟩ := hI
  unfold culletlaw12_TrieWalks.q6.b1
  refine Cd_dec (fun hlt => ?_) (fun hge => ?_)
  · refine Wu_set (f := i64v) (x := -9) ho (by omega) tI sI sI rfl rfl fun w3 ho3 hm3 => ?_
    rw [wrap64 (x := (p : Int) + 1) (by omega) (by omega)]
    exact hkk _ _ ⟨rfl, rfl, rfl, rfl, rfl, rfl, rfl, rfl, p + 1, by omega, by dsimp only; omega, hm.trans hm3 (fun _ => id) (fun _ _ => id), _, by simp [hl'], ho3⟩ (by simp only; omega)
  · have hbn2 := hbn.mo hm (fun h => (hkn _ h) rfl)
    refine Rd_has (c := .int .i64) (x := (i : Int)) hbn2 (by kernel_rfl) rfl ?_
    rw [wrap64 (x := (i : Int) + 1) (by omega) (by omega)]
    refine Wu_store (v := .int .i64 ((i : Int) + 1)) hbn2 (by kernel_rfl) (by simp [Value.cells, Value.oneCell']) (Nat.le_of_ble_eq_true (by kernel_rfl)) fun w3 hB3 hm3 => ?_
    have hB3 : Has w3 bn [.int .i64 ((i : Int) + 1)] 3 := hB3
    exact hK w3 (hm.trans hm3 (fun _ => .inl) (fun _ _ => .inr)) (by rw [show ((i + 1 : Nat) : Int) = (i : Int) + 1 by omega]; exact hB3)
end
end Go.Proofs.Ytdnlnloogfnlgaa
