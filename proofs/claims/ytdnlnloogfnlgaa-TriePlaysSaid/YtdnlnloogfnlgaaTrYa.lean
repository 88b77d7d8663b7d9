/- The document's trie: a list, the last used first. -/
import Derived.Test.YtdnlnloogfnlgaaTrFa
import Derived.Test.YtdnlnloogfnlgaaTrVa
set_option linter.all false
namespace Go.Proofs.Ytdnlnloogfnlgaa
open Go Go.Cu Go.RowKit
set_option linter.unusedVariables false
set_option maxHeartbeats 4000000
theorem tE : Try.prog.underlying 59 = some (.slice 99) := by kernel_rfl
theorem sE : sizeIs Try.prog 99 hAts.length = true := by kernel_rfl
theorem aE : isAggN Try.prog 99 hAts.length = true := by kernel_rfl
theorem iE : (Try.prog.info? 99).map (fun i => (i.zero, i.size, i.bytes)) = some (some (.agg (encAts hAts ((nilS, nilS, ()) : HT)).toArray), hAts.length, 48) := by kernel_rfl
theorem tRef : Try.prog.underlying 67 = some (.pointer 61) := by kernel_rfl
/-- without the place z -/
def rm {α : Type} : Int → List α → List α
  | _, [] => []
  | z, x :: l => if z = 0 then rm (z - 1) l else x :: rm (z - 1) l
theorem rm_snoc {α : Type} (x : α) : ∀ (l : List α) (z : Int), rm z (l ++ [x]) = rm z l ++ (if (l.length : Int) = z then [] else [x])
  | [], z => by
    simp only [List.nil_append, rm, List.length_nil]
    by_cases h : z = 0
    · subst h; simp
    · rw [if_neg h, if_neg (by simpa using fun e => h e.symm)]
  | y :: l, z => by
    rw [List.cons_append]
    unfold rm
    rw [rm_snoc x l (z - 1)]
    have : ((y :: l).length : Int) = z ↔ (l.length : Int) = z - 1 := by rw [List.length_cons]; omega
    simp only [this]
    split <;> simp
theorem rm_neg {α : Type} : ∀ (l : List α) (z : Int), z < 0 → rm z l = l
  | [], _, _ => rfl
  | x :: l, z, h => by unfold rm; rw [if_neg (by omega), rm_neg l (z - 1) (by omega)]
theorem rm_at {α : Type} : ∀ (l : List α) (i : Nat), rm (i : Int) l = l.take i ++ l.drop (i + 1)
  | [], i => by simp [rm]
  | x :: l, 0 => by unfold rm; rw [if_pos (by omega), rm_neg l _ (by omega)]; simp
  | x :: l, i + 1 => by
    unfold rm
    rw [if_neg (by omega), show ((i + 1 : Nat) : Int) - 1 = (i : Int) by omega, rm_at l i]
    simp
theorem rm_map {α β : Type} (f : α → β) : ∀ (l : List α) (z : Int), rm z (l.map f) = (rm z l).map f
  | [], _ => rfl
  | x :: l, z => by
    rw [List.map_cons]
    unfold rm
    rw [rm_map f l (z - 1)]
    split <;> simp
theorem rm_sub {α : Type} {x : α} : ∀ (l : List α) (z : Int), x ∈ rm z l → x ∈ l
  | [], _, h => h
  | y :: l, z, h => by
    unfold rm at h
    split at h
    · exact List.mem_cons_of_mem _ (rm_sub l _ h)
    · rcases List.mem_cons.1 h with h | h
      · exact h ▸ List.mem_cons_self
      · exact List.mem_cons_of_mem _ (rm_sub l _ h)
theorem rm_len {α : Type} : ∀ (l : List α) (z : Int), (rm z l).length ≤ l.length
  | [], _ => Nat.le_refl _
  | y :: l, z => by
    unfold rm
    have := rm_len l (z - 1)
    split <;> simp only [List.length_cons] <;> omega
theorem rm_without {bk : List HeldK} {l : Path} {z : Int} (hn : (bk.map (·.key)).Nodup) (hz : FindsAt bk l z) : (rm z bk).map HeldK.ent = without (bk.map HeldK.ent) l := by
  rcases hz with ⟨rfl, hno⟩ | ⟨i, x, rfl, hi, rfl⟩
  · rw [rm_neg _ _ (by omega), without_none]
    intro e he
    obtain ⟨y, hy, rfl⟩ := List.mem_map.1 he
    exact hno y hy
  · rw [rm_at]
    obtain ⟨hil, he⟩ := List.getElem?_eq_some_iff.1 hi
    have hs : bk = bk.take i ++ x :: bk.drop (i + 1) := by rw [← he, ← List.drop_eq_getElem_cons hil, List.take_append_drop]
    have hw : ∀ l1 : List HeldK, (∀ y ∈ l1, y.key ≠ x.key) → (l1.map HeldK.ent).filter (fun e => decide (e.1 ≠ x.key)) = l1.map HeldK.ent := by
      intro l1 h1
      rw [List.filter_eq_self]
      intro e he
      obtain ⟨y, hy, rfl⟩ := List.mem_map.1 he
      exact decide_eq_true (h1 y hy)
    unfold without
    conv => rhs; rw [hs]
    rw [List.map_append, List.map_append, List.map_cons, List.filter_append, List.filter_cons]
    rw [hw _ (fun y hy => ((mem_erase hn hi).1 (List.mem_append.2 (.inl hy))).2), hw _ (fun y hy => ((mem_erase hn hi).1 (List.mem_append.2 (.inr hy))).2)]
    simp
/-- the document's trie in memory -/
structure RefAt (ro : Nat → Prop) (w : World) (s : Sl) (bk : List HeldK) : Prop where
  sl : RdA hAts w s (bk.map (·.h))
  sb : ∀ a, s.base = some a → ro a.block
  keys : ∀ x ∈ bk, Rds i64v w x.h.1 x.key ∧ ∀ a, x.h.1.base = some a → ro a.block
  vals : ∀ x ∈ bk, Nest b8 ro w x.h.2.1 x.val
  lens : ∀ x ∈ bk, x.key.length ≤ 256 ∧ RowsLe x.val
theorem RefAt.mo {ro X : Nat → Prop} {w w' : World} {s : Sl} {bk : List HeldK} (h : RefAt ro w s bk) (k : Mo X w w') (hx : ∀ b, ro b → ¬ X b) : RefAt ro w' s bk :=
  ⟨h.sl.mo k (fun a ha => hx _ (h.sb a ha)), h.sb, fun x hx' => ⟨(h.keys x hx').1.mo k (fun a ha => hx _ ((h.keys x hx').2 a ha)), (h.keys x hx').2⟩, fun x hx' => (h.vals x hx').mo k hx, h.lens⟩
theorem RefAt.ex {ro : Nat → Prop} {w w' : World} {s : Sl} {bk : List HeldK} (h : RefAt ro w s bk) (k : Ex w w') : RefAt ro w' s bk := h.mo k (fun _ _ => id)
theorem RefAt.len {ro : Nat → Prop} {w : World} {s : Sl} {bk : List HeldK} (h : RefAt ro w s bk) : s.len = bk.length := by rw [h.sl.1, List.length_map]
def refV (lim : Int) (s : Sl) : List Value := [.int .i64 lim, slv s]
/-- with its own entries es, all but its own two cells in blocks 'ro' -/
structure RefSt (ro : Nat → Prop) (w : World) (rb : Nat) (lim : Int) (es : List Ent) (s : Sl) (bk : List HeldK) : Prop where
  top : Has w rb (refV lim s) 61
  apart : ¬ ro rb
  low : ∀ b, ro b → b < w.heap.size
  at_ : RefAt ro w s bk
  ents : bk.map HeldK.ent = es
theorem RefSt.mo {ro X : Nat → Prop} {w w' : World} {rb : Nat} {lim : Int} {es : List Ent} {s : Sl} {bk : List HeldK} (h : RefSt ro w rb lim es s bk) (k : Mo X w w') (hx : ∀ b, ro b ∨ b = rb → ¬ X b) : RefSt ro w' rb lim es s bk :=
  ⟨h.top.mo k (hx rb (.inr rfl)), h.apart, fun b hb => Nat.lt_of_lt_of_le (h.low b hb) k.size, h.at_.mo k (fun b hb => hx b (.inl hb)), h.ents⟩
theorem RefSt.ex {ro : Nat → Prop} {w w' : World} {rb : Nat} {lim : Int} {es : List Ent} {s : Sl} {bk : List HeldK} (h : RefSt ro w rb lim es s bk) (k : Ex w w') : RefSt ro w' rb lim es s bk := h.mo k (fun _ _ => id)
theorem RefSt.keys {ro : Nat → Prop} {w : World} {rb : Nat} {lim : Int} {es : List Ent} {s : Sl} {bk : List HeldK} (h : RefSt ro w rb lim es s bk) : bk.map (·.key) = es.map (·.1) := by
  rw [← h.ents, List.map_map]; rfl
theorem refFind_ok {ro : Nat → Prop} {w : World} {rb : Nat} {lim : Int} {es : List Ent} {s : Sl} {bk : List HeldK} {ks : Sl} {l : Path} (h : RefSt ro w rb lim es s bk) (hk : Rds i64v w ks l) (hs : bk.length ≤ 1024) :
    Calls Try.prog 70 #[.pointer (some ⟨rb, 0, none⟩), slv ks] w fun en w' => ∃ z, en = .returned (.int .i64 z) ∧ Ex w w' ∧ FindsAt bk l z := by
  refine culletref12_Trie_Find.run _ _ ks w ?_
  unfold culletref12_Trie_Find.M
  refine Pu_nil ?_
  refine Rd_has (c := .sl) (x := s) h.top (by kernel_rfl) rfl ?_
  unfold culletref12_Trie_Find.l1
  have hat := h.at_
  rw [hat.len]
  refine loopW_of (fun st w' => st.1 = ks ∧ st.2.1 = s ∧ st.2.2.1 = (bk.length : Int) ∧ Ex w w' ∧ ∃ i : Nat, i ≤ bk.length ∧ st.2.2.2.1 = (i : Int) ∧ ∀ x ∈ bk.take i, x.key ≠ l) (fun st _ => bk.length - st.2.2.2.1.toNat) ?_
    ⟨rfl, rfl, rfl, Ex.refl w, 0, Nat.zero_le _, rfl, by simp⟩
  rintro k ⟨a1, a2, a3, i', u⟩ w' hI hk2
  dsimp only at hI hk2 ⊢
  obtain ⟨rfl, rfl, rfl, hx, i, hi, rfl, hno⟩ := hI
  unfold culletref12_Trie_Find.b1
  refine Cd_dec (fun hlt => ?_) (fun hge => ?_)
  · have hib : i < bk.length := by omega
    have h' := hat.ex hx
    refine Pu_idxA h'.sl tE sE (by omega) (by rw [List.length_map]; omega) fun a hv hhv hc _ => ?_
    rw [Int.toNat_natCast, List.getElem?_map, List.getElem?_eq_getElem hib] at hhv
    obtain rfl : bk[i].h = hv := by simpa using hhv
    have hbi : bk[i]? = some bk[i] := List.getElem?_eq_getElem hib
    refine Rd_agg (x := bk[i].h) aE hc ?_
    refine Wr_alloc (z := .agg (encAts hAts ((nilS, nilS, ()) : HT)).toArray) (by kernel_rfl) fun w3 hB3 hx3 => ?_
    refine Wu_store (v := .agg (encAts hAts bk[i].h).toArray) hB3 (by kernel_rfl) (held_one bk[i].h) (Nat.le_of_ble_eq_true (by kernel_rfl)) fun w4 hB4 hm4 => ?_
    have hB4' : Has w4 w'.heap.size [slv bk[i].h.1, slv bk[i].h.2.1] 99 := hB4
    have hx4 : Ex w' w4 := hx3.into hm4 (fun i hi => by rw [hi]; exact Nat.le_refl _)
    refine Rd_has (c := .sl) (x := bk[i].h.1) hB4' (by kernel_rfl) rfl ?_
    have hm := List.getElem_mem hib
    have hl := (hat.lens _ hm).1
    refine Cl_gv (same_gv bk[i].h.1 a1 bk[i].key l w4 ((h'.keys _ hm).1.ex hx4) (hk.ex (hx.trans hx4)) (by omega)) fun w5 hx5 => ?_
    have hx05 := (hx.trans hx4).trans hx5
    refine Cd_dec (fun heq => ⟨_, rfl, hx05, .inr ⟨i, bk[i], rfl, hbi, heq⟩⟩) (fun hne => ?_)
    rw [wrap64 (x := (i : Int) + 1) (by omega) (by omega)]
    refine hk2 _ _ ⟨rfl, rfl, rfl, hx05, i + 1, by omega, by simp, fun x hx' => ?_⟩ (by simp only; omega)
    rw [List.take_add_one, hbi] at hx'
    rcases List.mem_append.1 hx' with h1 | h1
    · exact hno x h1
    · obtain rfl : x = bk[i] := by simpa using h1
      exact hne
  · have : i = bk.length := by omega
    subst this
    rw [List.take_length] at hno
    exact ⟨_, rfl, hx, .inl ⟨rfl, hno⟩⟩
/-- First: the new entry, then the others -/
theorem first_ok {ro : Nat → Prop} {w : World} {rb : Nat} {lim : Int} {es : List Ent} {s : Sl} {bk : List HeldK} (h : RefSt ro w rb lim es s bk) (hs : bk.length ≤ 1024) (e : HT) (z : Int) (hz : -1 ≤ z) :
    Calls Try.prog 69 #[.pointer (some ⟨rb, 0, none⟩), .agg (encAts hAts e).toArray, .int .i64 z] w fun en w' => ∃ s', en = .returned (.tuple #[]) ∧ Has w' rb (refV lim s') 61 ∧
      OwnA hAts 99 w.heap.size w' s' (e :: rm z (bk.map (·.h))) ∧ Mo (fun b => b = rb) w w' := by
  refine culletref12_Trie_First.run _ _ e z w ?_
  unfold culletref12_Trie_First.M
  refine Wr_box fun w1 hB1 hx1 => ?_
  refine Rd_hasN (x := e) hB1 (by kernel_rfl) rfl ?_
  refine Wr_litA (ats := hAts) (e := 99) (base := w.heap.size) [e] (by kernel_rfl) hx1.size (by simp) fun s2 w2 ho2 hx2 _ => ?_
  have k2 := hx1.trans hx2
  refine Pu_nil ?_
  refine Rd_has (c := .sl) (x := s) (h.top.ex k2) (by kernel_rfl) rfl ?_
  unfold culletref12_Trie_First.l1
  have hat := h.at_
  rw [hat.len]
  refine loopW_of (fun st w' => st.1 = some ⟨rb, 0, none⟩ ∧ st.2.1 = z ∧ st.2.2.2.1 = s ∧ st.2.2.2.2.1 = (bk.length : Int) ∧ Ex w w' ∧ ∃ i : Nat, i ≤ bk.length ∧ st.2.2.2.2.2.1 = (i : Int) ∧ OwnA hAts 99 w.heap.size w' st.2.2.1 (e :: rm z ((bk.map (·.h)).take i))) (fun st _ => bk.length - st.2.2.2.2.2.1.toNat) ?_
    ⟨rfl, rfl, rfl, rfl, k2, 0, Nat.zero_le _, rfl, ho2⟩
  rintro k ⟨a1, a2, nx, a3, a4, i', u⟩ w' hI hk
  dsimp only at hI hk ⊢
  obtain ⟨rfl, rfl, rfl, rfl, hx, i, hi, rfl, ho⟩ := hI
  unfold culletref12_Trie_First.b1
  have hml : (bk.map (·.h)).length = bk.length := List.length_map _
  refine Cd_dec (fun hlt => ?_) (fun hge => ?_)
  · have hib : i < bk.length := by omega
    have h' := hat.ex hx
    refine Pu_idxA h'.sl tE sE (by omega) (by rw [List.length_map]; omega) fun a hv hhv hc _ => ?_
    rw [Int.toNat_natCast, List.getElem?_map, List.getElem?_eq_getElem hib] at hhv
    obtain rfl : bk[i].h = hv := by simpa using hhv
    refine Rd_agg (x := bk[i].h) aE hc ?_
    refine Wr_alloc (z := .agg (encAts hAts ((nilS, nilS, ()) : HT)).toArray) (by kernel_rfl) fun w3 hB3 hx3 => ?_
    refine Wu_store (v := .agg (encAts hAts bk[i].h).toArray) hB3 (by kernel_rfl) (held_one bk[i].h) (Nat.le_of_ble_eq_true (by kernel_rfl)) fun w4 hB4 hm4 => ?_
    have hx4 : Ex w' w4 := hx3.into hm4 (fun i hi => by rw [hi]; exact Nat.le_refl _)
    have k4 := hx.trans hx4
    have htk : (bk.map (·.h)).take (i + 1) = (bk.map (·.h)).take i ++ [bk[i].h] := by
      rw [List.take_add_one, List.getElem?_map, List.getElem?_eq_getElem hib]; rfl
    have htl : (((bk.map (·.h)).take i).length : Int) = (i : Int) := by rw [List.length_take, hml]; omega
    have hrl := rm_len ((bk.map (·.h)).take i) a2
    refine Cd_ne (fun hne => ?_) (fun heq => ?_)
    · refine Rd_hasN (x := bk[i].h) (cs := encAts hAts bk[i].h) hB4 (by kernel_rfl) rfl ?_
      refine Wr_litA (ats := hAts) (e := 99) (base := w4.heap.size) [bk[i].h] (by kernel_rfl) (Nat.le_refl _) (by simp) fun s5 w5 ho5 hx5 _ => ?_
      have k5 := k4.trans hx5
      refine Wr_appendA tE iE rfl (ho.ex (hx4.trans hx5)) ho5.rda (fun y => held_one y) (by simp only [List.length_cons, List.length_nil]; omega) (by simp only [List.length_cons, List.length_nil]; omega) k5.size fun s6 w6 ho6 hm6 hin6 => ?_
      unfold culletref12_Trie_First.j1
      rw [wrap64 (x := (i : Int) + 1) (by omega) (by omega)]
      refine hk _ _ ⟨rfl, rfl, rfl, rfl, k5.into hm6 (fun b hb => (ho.base b hb).1), i + 1, by omega, by simp, ?_⟩ (by simp only; omega)
      rw [htk, rm_snoc, htl, if_neg hne]
      exact ho6
    · unfold culletref12_Trie_First.j1
      rw [wrap64 (x := (i : Int) + 1) (by omega) (by omega)]
      refine hk _ _ ⟨rfl, rfl, rfl, rfl, k4, i + 1, by omega, by simp, ?_⟩ (by simp only; omega)
      rw [htk, rm_snoc, htl, if_pos heq, List.append_nil]
      exact ho.ex hx4
  · have : i = bk.length := by omega
    subst this
    rw [List.take_of_length_le (by omega)] at ho
    refine Pu_nil ?_
    refine Wu_store (v := slv nx) (h.top.ex hx) (by kernel_rfl) (by simp [Value.cells, Value.oneCell']) (Nat.le_of_ble_eq_true (by kernel_rfl)) fun w3 hB3 hm3 => ?_
    refine ⟨nx, rfl, hB3, ho.mo hm3 (fun b hb e => ?_), hx.mo hm3⟩
    have e2 : b = rb := e
    have := (ho.base b hb).1; have := h.top.lt; omega
end Go.Proofs.Ytdnlnloogfnlgaa
