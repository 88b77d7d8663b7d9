/- culletlaw12.TrieWalks: what the inner round's body does. -/
import Derived.Test.YtdnlnloogfnlgaaTrDo
import Derived.Test.YtdnlnloogfnlgaaWp
set_option linter.all false
namespace Go.Proofs.Ytdnlnloogfnlgaa
open Go Go.Cu Go.RowKit
set_option linter.unusedVariables false
set_option maxHeartbeats 4000000
theorem walks_r1 {K X6 : (Addr × Addr × Addr × Addr × Unit) → World → Prop} {b11 bn bm n j B : Nat} {t6 : Addr} {x want : Sl} {ks : List Path} {l : Path} {F : Nat → Prop} {w : World}
    (hB : Has w b11 [slv want] 45) (hnw : Nest i64v F w want ks) (hbn : Has w bn [.int .i64 (n : Int)] 3) (hbm : Has w bm [.int .i64 (j : Int)] 3) (hl : ks[j]? = some l) (hlen : ks.length ≤ 1024) (hll : l.length ≤ 300) (hx : Own i64v 3 B w x l)
    (hx1 : ∀ b, SlIn x b → b ≠ bn ∧ b ≠ bm) (hnm : bn ≠ bm)
    (hK : ∀ w', Mo (fun b => SlIn x b ∨ b = bm) w w' → Has w' bm [.int .i64 ((j + 1 : Nat) : Int)] 3 → (j + 1 ≤ n → K (t6, ⟨b11, 0, none⟩, ⟨bn, 0, none⟩, ⟨bm, 0, none⟩, ()) w') ∧ (n < j + 1 → X6 (t6, ⟨b11, 0, none⟩, ⟨bn, 0, none⟩, ⟨bm, 0, none⟩, ()) w')) :
    culletlaw12_TrieWalks.r1.M (fun _ _ => False) K X6 t6 ⟨b11, 0, none⟩ ⟨bn, 0, none⟩ ⟨bm, 0, none⟩ x w := by
  have hjl := (List.getElem?_eq_some_iff.1 hl).1
  have hwl := nest_len hnw
  obtain ⟨rs, r1, r2, _, r4⟩ := hnw
  unfold culletlaw12_TrieWalks.r1.M
  refine Rd_has (c := .int .i64) (x := (j : Int)) hbm (by kernel_rfl) rfl ?_
  refine Rd_has (c := .sl) (x := want) hB (by kernel_rfl) rfl ?_
  refine Cd_dec (fun h => absurd h (by omega)) (fun _ => ?_)
  refine Rd_has (c := .sl) (x := want) hB (by kernel_rfl) rfl ?_
  refine Rd_has (c := .int .i64) (x := (j : Int)) hbm (by kernel_rfl) rfl ?_
  refine Pu_idx r1 tII sII (by omega) (by omega) fun a r hr hc _ => ?_
  refine Rd_one (c := .sl) (x := r) oII hc ?_
  rw [Int.toNat_natCast] at hr
  obtain ⟨hrr, _⟩ := r4 j r l hr hl
  refine Cl_gv (d := .one (.at .bool)) (x := decide (l = l)) (same_gv x r l l w hx.rds hrr (by omega)) fun w1 hx1' => ?_
  unfold culletlaw12_TrieWalks.r1.j1
  refine Cd_not (fun h => by simp at h) (fun _ => ?_)
  have hxl : x.len = l.length := hx.1
  rw [hxl]
  unfold culletlaw12_TrieWalks.r1.l1
  refine loopW_of (fun st w' => st.1 = t6 ∧ st.2.1 = ⟨b11, 0, none⟩ ∧ st.2.2.1 = ⟨bn, 0, none⟩ ∧ st.2.2.2.1 = ⟨bm, 0, none⟩ ∧ st.2.2.2.2.1 = x ∧ st.2.2.2.2.2.1 = (l.length : Int) ∧ ∃ p : Nat, p ≤ l.length ∧ st.2.2.2.2.2.2.1 = (p : Int) ∧ Mo (SlIn x) w w' ∧ ∃ l', l'.length = l.length ∧ Own i64v 3 B w' x l') (fun st _ => l.length - st.2.2.2.2.2.2.1.toNat) ?_
    ⟨rfl, rfl, rfl, rfl, rfl, rfl, 0, Nat.zero_le _, rfl, hx1'.weak (fun _ _ h => h.elim), l, rfl, hx.ex hx1'⟩
  rintro k ⟨a1, a2, a3, a4, a5, a6, p', u⟩ w2 hI hk
  dsimp only at hI hk ⊢
  obtain ⟨rfl, rfl, rfl, rfl, rfl, rfl, p, hp, rfl, hm, l', hl', ho⟩ := hI
  unfold culletlaw12_TrieWalks.r1.b1
  refine Cd_dec (fun hlt => ?_) (fun hge => ?_)
  · refine Wu_set (f := i64v) (x := -7) ho (by omega) tI sI sI rfl rfl fun w3 ho3 hm3 => ?_
    rw [wrap64 (x := (p : Int) + 1) (by omega) (by omega)]
    exact hk _ _ ⟨rfl, rfl, rfl, rfl, rfl, rfl, p + 1, by omega, by dsimp only; omega, hm.trans hm3 (fun _ => id) (fun _ _ => id), _, by simp [hl'], ho3⟩ (by simp only; omega)
  · have hbm2 := hbm.mo hm (fun h => (hx1 _ h).2 rfl)
    have hbn2 := hbn.mo hm (fun h => (hx1 _ h).1 rfl)
    refine Rd_has (c := .int .i64) (x := (j : Int)) hbm2 (by kernel_rfl) rfl ?_
    rw [wrap64 (x := (j : Int) + 1) (by omega) (by omega)]
    refine Wu_store (v := .int .i64 ((j : Int) + 1)) hbm2 (by kernel_rfl) (by simp [Value.cells, Value.oneCell']) (Nat.le_of_ble_eq_true (by kernel_rfl)) fun w3 hB3 hm3 => ?_
    have hB3 : Has w3 bm [.int .i64 ((j : Int) + 1)] 3 := hB3
    refine Rd_has (c := .int .i64) (x := (j : Int) + 1) hB3 (by kernel_rfl) rfl ?_
    refine Rd_has (c := .int .i64) (x := (n : Int)) (hbn2.mo hm3 hnm) (by kernel_rfl) rfl ?_
    obtain ⟨h1, h2⟩ := hK w3 (hm.trans hm3 (fun _ => .inl) (fun _ _ => .inr)) (by rw [show ((j + 1 : Nat) : Int) = (j : Int) + 1 by omega]; exact hB3)
    exact Cd_dec (fun h => h2 (by omega)) (fun h => h1 (by omega))
end Go.Proofs.Ytdnlnloogfnlgaa
