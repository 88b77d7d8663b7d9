/- Keys of what was found; Under; Len. -/
import Derived.Test.YtdnlnloogfnlgaaTrJ
set_option linter.all false
namespace Go.Proofs.Ytdnlnloogfnlgaa
open Go Go.Cu Go.RowKit
set_option linter.unusedVariables false
set_option maxHeartbeats 4000000
theorem keys_nest (base : Nat) (s : Sl) (ks : List (Path × Int)) (w : World) (h : FoundAt base w s ks) (hl : ks.length ≤ 1024) (hk : ∀ k ∈ ks, k.1.length ≤ 300) :
    Calls Try.prog 50 #[slv s] w fun en w' => ∃ s', en = .returned (slv s') ∧ NestOwn i64v 3 29 w.heap.size w' s' (ks.map (·.1)) ∧ Ex w w' := by
  have h1 := h.len
  obtain ⟨es, e1, e2, e3⟩ := h
  refine trie_keys.run _ s w ?_
  unfold trie_keys.M
  rw [h1]
  refine Wr_make (f := slv) (z := ⟨none, 0, 0⟩) (e := 29) (bytes := 24) tII (by kernel_rfl) rfl ks.length (by omega) (by omega) rfl rfl fun so w2 hso hB2 hx2 => ?_
  unfold trie_keys.l1
  refine loopW_of (fun st w' => Ex w w' ∧ st.1 = so ∧ st.2.1 = s ∧ st.2.2.1 = (ks.length : Int) ∧ ∃ (i : Nat) (rows : List Sl), i ≤ ks.length ∧ st.2.2.2.1 = (i : Int) ∧ rows.length = i ∧ RowsOwn i64v 3 w.heap.size w' rows ((ks.map (·.1)).take i) ∧ Has w' w.heap.size ((rows ++ List.replicate (ks.length - i) (⟨none, 0, 0⟩ : Sl)).map slv) 29 ∧
      ∀ (j : Nat) (si : Sl) b, rows[j]? = some si → SlIn si b → b ≠ w.heap.size) (fun st _ => ks.length - st.2.2.2.1.toNat) ?_
    ⟨hx2, rfl, rfl, rfl, 0, [], Nat.zero_le _, rfl, rfl, RowsOwn.nil _ _ _ _, by simpa using hB2, fun j si b h => by simp at h⟩
  rintro k ⟨out, t', n', i', u⟩ w' hI hkk
  dsimp only at hI hkk ⊢
  obtain ⟨hx, rfl, rfl, rfl, i, rows, hi, rfl, hri, hro, hB, hne⟩ := hI
  unfold trie_keys.b1
  refine Cd_dec (fun hlt => ?_) (fun hge => ?_)
  · have hik : i < ks.length := by omega
    have hk1 : ks[i]? = some ks[i] := List.getElem?_eq_getElem hik
    refine Pu_idxA (e1.rda.ex hx) tF (by kernel_rfl) (by omega) (by omega) fun a x hxg hc _ => ?_
    rw [Int.toNat_natCast] at hxg
    refine Rd_agg (ats := fAts) (x := x) (by kernel_rfl) hc ?_
    obtain ⟨_, hok, _⟩ := e3 i x _ hxg hk1
    have hkl := hk ks[i] (List.getElem_mem hik)
    refine Wr_alloc (z := .agg #[slv nilS, .int .i64 0]) (by kernel_rfl) fun w3 hB3 hx3 => ?_
    refine Wu_store (v := .agg #[slv x.1, .int .i64 x.2.1]) hB3 (by kernel_rfl) (fd_one x) (Nat.le_of_ble_eq_true (by kernel_rfl)) fun w4 hB4 hm4 => ?_
    have hx34 : Ex w' w4 := hx3.into hm4 (fun b hb => by rw [hb]; exact Nat.le_refl _)
    refine Rd_has (c := .sl) (x := x.1) hB4 (by kernel_rfl) rfl ?_
    refine Wr_append (s := ⟨none, 0, 0⟩) (l := []) tI iI rfl (Own.nil i64v 3 w4.heap.size w4) ((hok.rds.ex hx).ex hx34) (fun y => rfl) (by simp; omega) (by simp; omega) (Nat.le_refl _) fun s5 w5 ho5 hm5 hin5 => ?_
    rw [List.nil_append] at ho5
    have hx5 : Ex w4 w5 := hm5.new (fun i ⟨a, ha, _⟩ => by cases ha)
    rw [hso]
    refine Pu_ix (s := ⟨some ⟨w.heap.size, 0, none⟩, ks.length, ks.length⟩) tII sII rfl (by omega) (by show (i : Int) < (ks.length : Int); omega) ?_
    rw [Int.toNat_natCast, add_lit]
    have hx45 := hx34.trans hx5
    have hB5 := hB.ex hx45
    refine Wu_store (v := slv s5) hB5 sII (by simp [Value.cells, Value.oneCell']) (by simp [Value.cells]; omega) fun w6 hB6 hm6 => ?_
    rw [wrap64 (x := (i : Int) + 1) (by omega) (by omega)]
    rw [← hso]
    have hx6 : Ex w w6 := (hx.trans hx45).into hm6 (fun b hb => by rw [hb]; exact Nat.le_refl _)
    have hnew : ∀ b, SlIn s5 b → w'.heap.size ≤ b := fun b hb => by have := (ho5.base b hb).1; have := hx34.size; omega
    have hgl : w.heap.size < w'.heap.size := hB.lt
    have hro6 : RowsOwn i64v 3 w.heap.size w6 (rows ++ [s5]) ((ks.map (·.1)).take i ++ [ks[i].1]) := by
      refine (hro.snoc hx45 (ho5.weak (by have := hx.size; have := hx34.size; omega)) hnew).mo hm6 fun j si b hj hb hn => ?_
      rcases snoc_cases hj with ⟨hj', _⟩ | ⟨_, rfl⟩
      · exact hne j si b hj' hb hn
      · have := hnew b hb
        have hn : b = w.heap.size := hn
        omega
    refine hkk _ _ ⟨hx6, rfl, rfl, rfl, i + 1, rows ++ [s5], by omega, by simp, by simp [hri], ?_, ?_, ?_⟩ (by simp only; omega)
    · rw [List.take_add_one, List.getElem?_map, hk1]; exact hro6
    · have hrep : ks.length - i = (ks.length - (i + 1)) + 1 := by omega
      rw [hrep] at hB6
      have := set_next rows s5 (⟨none, 0, 0⟩ : Sl) (ks.length - (i + 1)) slv
      rw [hri] at this
      rw [← this]
      exact hB6
    · intro j si b hj hb hn
      rcases snoc_cases hj with ⟨hj', _⟩ | ⟨_, rfl⟩
      · exact hne j si b hj' hb hn
      · have := hnew b hb; omega
  · have hie : i = ks.length := by omega
    subst hie
    rw [List.take_of_length_le (by simp)] at hro
    rw [Nat.sub_self, List.replicate_zero, List.append_nil] at hB
    refine ⟨out, rfl, ?_, hx⟩
    rw [hso]
    exact hro.nestOwn (own_of_has hri (by omega) hB (Nat.le_refl _)) (fun j si b hj hb hn => hne j si b hj hb hn.fresh)
end Go.Proofs.Ytdnlnloogfnlgaa
