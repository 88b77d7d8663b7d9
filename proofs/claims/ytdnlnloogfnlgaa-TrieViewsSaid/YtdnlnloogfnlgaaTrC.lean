/- The program's own copies of values and keys. -/
import Derived.Test.YtdnlnloogfnlgaaTrB
set_option linter.all false
namespace Go.Proofs.Ytdnlnloogfnlgaa
open Go Go.Cu Go.RowKit
set_option linter.unusedVariables false
set_option maxHeartbeats 2000000
/-- rows, each a list of one's own, in blocks of their own -/
structure RowsOwn {α : Type} (f : α → Value) (e : TypeId) (base : Nat) (w : World) (ss : List Sl) (ls : List (List α)) : Prop where
  len : ss.length = ls.length
  own : ∀ (i : Nat) (s' : Sl) (l : List α), ss[i]? = some s' → ls[i]? = some l → Own f e base w s' l
  apart : ∀ (i j : Nat) (si sj : Sl) (b : Nat), ss[i]? = some si → ss[j]? = some sj → i ≠ j → SlIn si b → ¬ SlIn sj b
theorem RowsOwn.nil {α : Type} (f : α → Value) (e : TypeId) (base : Nat) (w : World) : RowsOwn f e base w [] [] := ⟨rfl, fun i s' l h => (by simp at h), fun i j si sj b h => (by simp at h)⟩
theorem RowsOwn.blk {α : Type} {f : α → Value} {e : TypeId} {base : Nat} {w : World} {ss : List Sl} {ls : List (List α)} (h : RowsOwn f e base w ss ls) {i : Nat} {si : Sl} {b : Nat} (hi : ss[i]? = some si) (hb : SlIn si b) : base ≤ b ∧ b < w.heap.size := by
  have hil : i < ls.length := by rw [← h.len]; exact (List.getElem?_eq_some_iff.1 hi).1
  exact (h.own i si _ hi (List.getElem?_eq_getElem hil)).base b hb
theorem RowsOwn.mo {α : Type} {f : α → Value} {e : TypeId} {base : Nat} {X : Nat → Prop} {w w' : World} {ss : List Sl} {ls : List (List α)} (h : RowsOwn f e base w ss ls) (k : Mo X w w') (hx : ∀ (i : Nat) (si : Sl) b, ss[i]? = some si → SlIn si b → ¬ X b) : RowsOwn f e base w' ss ls :=
  ⟨h.len, fun i s' l hs hl => (h.own i s' l hs hl).mo k (fun b hb => hx i s' b hs hb), h.apart⟩
theorem snoc_cases {α : Type} {l : List α} {x y : α} {i : Nat} (h : (l ++ [x])[i]? = some y) : (l[i]? = some y ∧ i < l.length) ∨ (i = l.length ∧ y = x) := by
  by_cases hlt : i < l.length
  · rw [List.getElem?_append_left hlt] at h; exact .inl ⟨h, hlt⟩
  · rw [List.getElem?_append_right (by omega)] at h
    have hlt2 := (List.getElem?_eq_some_iff.1 h).1
    simp at hlt2
    have : i = l.length := by omega
    subst this
    rw [Nat.sub_self] at h
    simp at h
    exact .inr ⟨rfl, h.symm⟩
/-- one row more, all of it behind what was there -/
theorem RowsOwn.snoc {α : Type} {f : α → Value} {e : TypeId} {base : Nat} {w0 w1 : World} {ss : List Sl} {ls : List (List α)} {row : Sl} {l : List α} (h : RowsOwn f e base w0 ss ls) (hx : Ex w0 w1) (hr : Own f e base w1 row l) (hnew : ∀ b, SlIn row b → w0.heap.size ≤ b) :
    RowsOwn f e base w1 (ss ++ [row]) (ls ++ [l]) := by
  refine ⟨by simp [h.len], fun i si m hi hm => ?_, fun i j si sj b hi hj hij hbi hbj => ?_⟩
  · rcases snoc_cases hi with ⟨hi', hlt⟩ | ⟨rfl, rfl⟩
    · rw [List.getElem?_append_left (by rw [← h.len]; exact hlt)] at hm
      exact (h.own i si m hi' hm).ex hx
    · rw [h.len, List.getElem?_append_right (Nat.le_refl _), Nat.sub_self] at hm
      simp at hm
      subst hm; exact hr
  · rcases snoc_cases hi with ⟨hi', _⟩ | ⟨rfl, rfl⟩
    · rcases snoc_cases hj with ⟨hj', _⟩ | ⟨rfl, rfl⟩
      · exact h.apart i j si sj b hi' hj' hij hbi hbj
      · have := (h.blk hi' hbi).2; have := hnew b hbj; omega
    · rcases snoc_cases hj with ⟨hj', _⟩ | ⟨rfl, rfl⟩
      · have := (h.blk hj' hbj).2; have := hnew b hbi; omega
      · exact hij rfl
theorem RowsOwn.nestOwn {α : Type} {f : α → Value} {e eo : TypeId} {base : Nat} {w : World} {ss : List Sl} {ls : List (List α)} {s : Sl} (h : RowsOwn f e base w ss ls) (ho : Own slv eo base w s ss) (hne : ∀ (i : Nat) (si : Sl) b, ss[i]? = some si → SlIn si b → ¬ SlIn s b) : NestOwn f e eo base w s ls :=
  ⟨ss, ho, h.len, h.own, h.apart, hne⟩
theorem set_next {α : Type} (rows : List α) (x z : α) (n : Nat) (f : α → Value) : (((rows ++ List.replicate (n + 1) z).map f).take rows.length ++ [f x] ++ ((rows ++ List.replicate (n + 1) z).map f).drop (rows.length + 1)) = (rows ++ [x] ++ List.replicate n z).map f := by
  rw [← List.map_take, ← List.map_drop, List.take_left, List.replicate_succ, List.drop_append, List.drop_of_length_le (by omega)]
  simp
theorem copied_nest (s : Sl) (ls : List (List Int)) (F : Nat → Prop) (w : World) (hr : Nest b8 F w s ls) (hl : RowsLe ls) :
    Calls Try.prog 43 #[slv s] w fun en w' => ∃ s', en = .returned (slv s') ∧ NestOwn b8 5 52 w.heap.size w' s' ls ∧ Ex w w' := by
  have h1 := nest_len hr
  obtain ⟨ss0, r1, r2, r3, r4⟩ := hr
  have hl1 := hl.1
  refine trie_copied.run _ s w ?_
  unfold trie_copied.M
  rw [h1]
  refine Wr_make (f := slv) (z := ⟨none, 0, 0⟩) (e := 52) (bytes := 24) tBB (by kernel_rfl) rfl ls.length (by omega) (by omega) rfl rfl fun so w2 hso hB2 hx2 => ?_
  unfold trie_copied.l1
  refine loopW_of (fun st w' => Ex w w' ∧ st.1 = so ∧ st.2.1 = s ∧ st.2.2.1 = (ls.length : Int) ∧ ∃ (i : Nat) (rows : List Sl), i ≤ ls.length ∧ st.2.2.2.1 = (i : Int) ∧ rows.length = i ∧ RowsOwn b8 5 w.heap.size w' rows (ls.take i) ∧ Has w' w.heap.size ((rows ++ List.replicate (ls.length - i) (⟨none, 0, 0⟩ : Sl)).map slv) 52 ∧
      ∀ (j : Nat) (si : Sl) b, rows[j]? = some si → SlIn si b → b ≠ w.heap.size) (fun st _ => ls.length - st.2.2.2.1.toNat) ?_
    ⟨hx2, rfl, rfl, rfl, 0, [], Nat.zero_le _, rfl, rfl, RowsOwn.nil _ _ _ _, by simpa using hB2, fun j si b h => by simp at h⟩
  rintro k ⟨out, t', n', i', u⟩ w' hI hk
  dsimp only at hI hk ⊢
  obtain ⟨hx, rfl, rfl, rfl, i, rows, hi, rfl, hri, hro, hB, hne⟩ := hI
  unfold trie_copied.b1
  refine Cd_dec (fun h => ?_) (fun h => ?_)
  · refine Pu_idx (r1.ex hx) tBB sBB (by omega) (by omega) fun a x hx1 hc1 _ => ?_
    refine Rd_one (c := .sl) (x := x) oBB hc1 ?_
    rw [Int.toNat_natCast] at hx1
    have hil : i < ls.length := by omega
    have hl1' : ls[i]? = some ls[i] := List.getElem?_eq_getElem hil
    have hrow := (r4 i x _ hx1 hl1').1
    have hrl := hl.2 ls[i] (List.getElem_mem hil)
    refine Wr_append (s := ⟨none, 0, 0⟩) (l := []) tB iB rfl (Own.nil b8 5 w'.heap.size w') (hrow.ex hx) (fun y => rfl) (by simp; omega) (by simp; omega) (Nat.le_refl _) fun s2 w3 ho3 hm3 hin3 => ?_
    rw [List.nil_append] at ho3
    have hx3 : Ex w' w3 := hm3.new (fun i ⟨a, ha, _⟩ => by cases ha)
    rw [hso]
    refine Pu_ix (s := ⟨some ⟨w.heap.size, 0, none⟩, ls.length, ls.length⟩) tBB sBB rfl (by omega) (by show (i : Int) < (ls.length : Int); omega) ?_
    rw [Int.toNat_natCast, add_lit]
    have hB3 := hB.ex hx3
    refine Wu_store (v := slv s2) hB3 sBB (by simp [Value.cells, Value.oneCell']) (by simp [Value.cells]; omega) fun w4 hB4 hm4 => ?_
    rw [wrap64 (x := (i : Int) + 1) (by omega) (by omega)]
    rw [← hso]
    have hx4 : Ex w w4 := (hx.trans hx3).into hm4 (fun b hb => by rw [hb]; exact Nat.le_refl _)
    have hnew : ∀ b, SlIn s2 b → w'.heap.size ≤ b := fun b hb => (ho3.base b hb).1
    have hgl : w.heap.size < w'.heap.size := hB.lt
    have hro4 : RowsOwn b8 5 w.heap.size w4 (rows ++ [s2]) (ls.take i ++ [ls[i]]) := by
      refine (hro.snoc hx3 (ho3.weak hx.size) hnew).mo hm4 fun j si b hj hb hn => ?_
      rcases snoc_cases hj with ⟨hj', _⟩ | ⟨_, rfl⟩
      · exact hne j si b hj' hb hn
      · have := hnew b hb; omega
    refine hk _ _ ⟨hx4, rfl, rfl, rfl, i + 1, rows ++ [s2], by omega, by simp, by simp [hri], ?_, ?_, ?_⟩ (by simp only; omega)
    · rw [List.take_add_one, hl1']; exact hro4
    · have hrep : ls.length - i = (ls.length - (i + 1)) + 1 := by omega
      rw [hrep] at hB4
      have := set_next rows s2 (⟨none, 0, 0⟩ : Sl) (ls.length - (i + 1)) slv
      rw [hri] at this
      rw [← this]
      exact hB4
    · intro j si b hj hb hn
      rcases snoc_cases hj with ⟨hj', _⟩ | ⟨_, rfl⟩
      · exact hne j si b hj' hb hn
      · have := hnew b hb; omega
  · have : i = ls.length := by omega
    subst this
    rw [List.take_length] at hro
    rw [Nat.sub_self, List.replicate_zero, List.append_nil] at hB
    refine ⟨out, rfl, ?_, hx⟩
    rw [hso]
    exact hro.nestOwn (own_of_has hri (by omega) hB (Nat.le_refl _)) (fun j si b hj hb hn => hne j si b hj hb hn.fresh)
theorem clone_own (s : Sl) (l : List Int) (w : World) (hr : Rds i64v w s l) (hl : l.length ≤ 17592186044000) : GivesSl Try.prog 52 #[slv s] i64v 3 l w := by
  refine slices_Clone_intint.run _ s w ?_
  unfold slices_Clone_intint.M
  refine Pu_eqnilS tI ?_
  · refine Cd_of (fun hn => ?_) (fun hn => ?_)
    · have hb : s.base = none := by simpa using hn
      have : l = [] := by
        cases l with
        | nil => rfl
        | cons y r => obtain ⟨a, ha, _⟩ := hr.2.2 0 y rfl; rw [hb] at ha; cases ha
      subst this
      exact ⟨⟨none, 0, 0⟩, rfl, Own.nil _ _ _ _, Ex.refl w⟩
    · refine Wr_lit (f := i64v) (e := 3) (base := w.heap.size) [] (by kernel_rfl) (Nat.le_refl _) (by simp) fun s1 w1 ho1 hx1 _ => ?_
      refine Wr_append tI iI rfl ho1 (hr.ex hx1) (fun y => rfl) (by simp; omega) (by simp; omega) hx1.size fun s2 w2 ho2 hm2 _ => ?_
      rw [List.nil_append] at ho2
      exact ⟨s2, rfl, ho2, hx1.into hm2 (fun i hi => (ho1.base i hi).1)⟩
end Go.Proofs.Ytdnlnloogfnlgaa
