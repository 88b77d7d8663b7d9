/- Storing into a slice of one's own; parts of slices of structs. -/
import Derived.Test.YtmmejgneelkhkaaDoorAggLib
import Derived.Test.YtmmejgneelkhkaaDoorStepLib
set_option linter.all false
namespace Go.Cu
open Go Go.RowKit
theorem Addr_add_zero (g : Nat) : (⟨g, 0, none⟩ : Addr).add 0 = ⟨g, 0, none⟩ := add_lit g 0
theorem OwnA.inv {ats : List At} {e : TypeId} {base : Nat} {w : World} {s : Sl} {l : List (Ats ats)} (h : OwnA ats e base w s l) (hl : 0 < l.length) :
    ∃ g cs, s.base = some ⟨g, 0, none⟩ ∧ base ≤ g ∧ Has w g cs e ∧ s.len = l.length ∧ s.len ≤ s.cap ∧ s.cap ≤ maxLen ∧ cs.length = s.cap * ats.length ∧ cs.take (l.length * ats.length) = l.flatMap (encAts ats) := by
  obtain ⟨h1, h2, h3⟩ := h
  rcases h3 with ⟨e1, e2⟩ | ⟨g, cap, cur, e1, hb, hg, hnc, hcm, hcs, ht⟩
  · omega
  · injection e1 with q1 q2 q3
    subst q3
    refine ⟨g, cur.toList, q1, hb, ?_, h1, hnc, hcm, ?_, ?_⟩
    · unfold Has; rw [hg]
    · simpa using hcs
    · rw [← h1]; exact ht
theorem OwnA.mk {ats : List At} {e : TypeId} {base g : Nat} {w : World} {s : Sl} {l : List (Ats ats)} {cs : List Value} (hs : s.base = some ⟨g, 0, none⟩) (hb : base ≤ g) (hB : Has w g cs e) (h1 : s.len = l.length) (h2 : s.len ≤ s.cap) (h3 : s.cap ≤ maxLen) (h4 : cs.length = s.cap * ats.length) (h5 : cs.take (l.length * ats.length) = l.flatMap (encAts ats)) : OwnA ats e base w s l := by
  refine ⟨h1, by rw [h1]; exact flat_len l, .inr ⟨g, s.cap, cs.toArray, by rw [hs], hb, hB, h2, h3, by simpa using h4, by rw [h1]; simpa using h5⟩⟩
theorem Own.inv {α : Type} {f : α → Value} {e : TypeId} {base : Nat} {w : World} {s : Sl} {l : List α} (h : Own f e base w s l) (hl : 0 < l.length) :
    ∃ g cs, s.base = some ⟨g, 0, none⟩ ∧ base ≤ g ∧ Has w g cs e ∧ s.len = l.length ∧ s.len ≤ s.cap ∧ s.cap ≤ maxLen ∧ cs.length = s.cap ∧ cs.take l.length = l.map f := by
  obtain ⟨h1, h2, h3⟩ := h
  rcases h3 with ⟨e1, e2⟩ | ⟨g, cap, cur, e1, hb, hg, hnc, hcm, hcs, ht⟩
  · omega
  · injection e1 with q1 q2 q3
    subst q3
    refine ⟨g, cur.toList, q1, hb, ?_, h1, hnc, hcm, ?_, ?_⟩
    · unfold Has; rw [hg]
    · simpa using hcs
    · rw [← h1]; simpa using ht
theorem Own.mk {α : Type} {f : α → Value} {e : TypeId} {base g : Nat} {w : World} {s : Sl} {l : List α} {cs : List Value} (hs : s.base = some ⟨g, 0, none⟩) (hb : base ≤ g) (hB : Has w g cs e) (h1 : s.len = l.length) (h2 : s.len ≤ s.cap) (h3 : s.cap ≤ maxLen) (h4 : cs.length = s.cap) (h5 : cs.take l.length = l.map f) : Own f e base w s l := by
  refine ⟨h1, by rw [h1]; simp, .inr ⟨g, s.cap, cs.toArray, by rw [hs], hb, hB, h2, h3, by simpa using h4, by rw [h1]; simpa using h5⟩⟩
theorem flat_set {ats : List At} (x : Ats ats) : ∀ (l : List (Ats ats)) (i : Nat), i < l.length → (l.set i x).flatMap (encAts ats) = (l.flatMap (encAts ats)).take (i * ats.length) ++ encAts ats x ++ (l.flatMap (encAts ats)).drop (i * ats.length + ats.length)
  | y :: l, 0, _ => by
    rw [List.set_cons_zero, List.flatMap_cons, List.flatMap_cons, Nat.zero_mul, List.take_zero, List.nil_append, Nat.zero_add, List.drop_append_of_le_length (by rw [encAts_len]; exact Nat.le_refl _), List.drop_of_length_le (by rw [encAts_len]; exact Nat.le_refl _), List.nil_append]
  | y :: l, i + 1, h => by
    have e1 : (i + 1) * ats.length = ats.length + i * ats.length := by rw [Nat.add_mul, Nat.one_mul, Nat.add_comm]
    have hy := encAts_len ats y
    have t1 : ∀ (F : List Value) j, (encAts ats y ++ F).take (ats.length + j) = encAts ats y ++ F.take j := fun F j => by rw [← hy, List.take_length_add_append]
    have t2 : ∀ (F : List Value) j, (encAts ats y ++ F).drop (ats.length + j) = F.drop j := fun F j => by rw [← hy, List.drop_length_add_append]
    rw [List.set_cons_succ, List.flatMap_cons, List.flatMap_cons, flat_set x l i (by simpa using h), e1, t1, Nat.add_assoc, t2, List.append_assoc, List.append_assoc, List.append_assoc]
theorem take_set_take {α : Type} {cs u : List α} {m i n : Nat} (hu : u.length = n) (hi : i + n ≤ m) (hm : m ≤ cs.length) : (cs.take i ++ u ++ cs.drop (i + n)).take m = (cs.take m).take i ++ u ++ (cs.take m).drop (i + n) := by
  have hA : (cs.take i ++ u).length = i + n := by rw [List.length_append, List.length_take, hu]; omega
  have h1 : (cs.take i ++ u ++ cs.drop (i + n)).take m = (cs.take i ++ u) ++ (cs.drop (i + n)).take (m - (i + n)) := by
    have h3 := List.take_length_add_append (l₁ := cs.take i ++ u) (l₂ := cs.drop (i + n)) (i := m - (i + n))
    rw [show (cs.take i ++ u).length + (m - (i + n)) = m by omega] at h3
    exact h3
  rw [h1, List.take_take, Nat.min_eq_left (by omega), List.drop_take]
section
variable {P : Program}
/-- a struct is stored in a slice of one's own -/
theorem Wu_setA {ats : List At} {t tS e : TypeId} {base : Nat} {s : Sl} {l : List (Ats ats)} {ik : IntKind} {i : Nat} {x : Ats ats} {k : World → Prop} {w : World} (ho : OwnA ats e base w s l) (hi : i < l.length) (ht : P.underlying tS = some (.slice e)) (hs : sizeIs P e ats.length = true) (hst : sizeIs P t ats.length = true)
    (h1 : ∀ u ∈ encAts ats x, u.oneCell' = true) (hk : ∀ w', OwnA ats e base w' s (l.set i x) → Mo (SlIn s) w w' → k w') :
    Pu P (Instr.indexAt tS (.slice s.base s.len s.cap) (.int ik (i : Int))) (.one (.at .addr)) (fun a w1 => Wu P (Instr.storeAt t (.pointer (some a)) (.agg (encAts ats x).toArray)) k w1) w := by
  obtain ⟨g, cs, hsb, hb, hB, hl, hlc, hcm, hcs, htk⟩ := ho.inv (by omega)
  have hn := encAts_len ats x
  have hmul : l.length * ats.length ≤ cs.length := by rw [hcs]; exact Nat.mul_le_mul_right _ (by omega)
  have hil : i * ats.length + ats.length ≤ l.length * ats.length := by
    have := Nat.mul_le_mul_right ats.length (show i + 1 ≤ l.length by omega)
    rw [Nat.add_mul, Nat.one_mul] at this; exact this
  refine ⟨⟨g, i * ats.length, none⟩, fun w' => ?_, ?_⟩
  · have := run_indexAt (P := P) (s := s) (ik := ik) (i := (i : Int)) (w := w') ht hs hsb (by omega) (by omega)
    rw [Int.toNat_natCast, add_lit] at this
    exact this
  · have hsz : (Value.agg (encAts ats x).toArray).cells.size = ats.length := by simp [Value.cells, hn]
    refine Wu_store (v := .agg (encAts ats x).toArray) hB (by rw [hsz]; exact hst) (fun u hu => h1 u (by simpa [Value.cells] using hu)) (by rw [hsz]; omega) fun w' hB' hm => ?_
    rw [hsz] at hB'
    have hcell : (Value.agg (encAts ats x).toArray).cells.toList = encAts ats x := by simp [Value.cells]
    rw [hcell] at hB'
    refine hk w' (OwnA.mk hsb hb hB' (by simp [hl]) hlc hcm (by simp [hn, List.length_take, List.length_drop]; omega) ?_) (hm.weak fun b _ hb => ⟨_, hsb, hb.symm⟩)
    rw [List.length_set, take_set_take hn hil hmul, htk, flat_set x l i hi]
/-- one cell is stored in a slice of one's own -/
theorem Wu_set {α : Type} {f : α → Value} {t tS e : TypeId} {base : Nat} {s : Sl} {l : List α} {ik : IntKind} {i : Nat} {x : α} {k : World → Prop} {w : World} (ho : Own f e base w s l) (hi : i < l.length) (ht : P.underlying tS = some (.slice e)) (hs : sizeIs P e 1 = true) (hst : sizeIs P t 1 = true)
    (h1 : (f x).oneCell' = true) (hc : (f x).cells = #[f x]) (hk : ∀ w', Own f e base w' s (l.set i x) → Mo (SlIn s) w w' → k w') :
    Pu P (Instr.indexAt tS (.slice s.base s.len s.cap) (.int ik (i : Int))) (.one (.at .addr)) (fun a w1 => Wu P (Instr.storeAt t (.pointer (some a)) (f x)) k w1) w := by
  obtain ⟨g, cs, hsb, hb, hB, hl, hlc, hcm, hcs, htk⟩ := ho.inv (by omega)
  refine ⟨⟨g, i, none⟩, fun w' => ?_, ?_⟩
  · have := run_indexAt (P := P) (s := s) (ik := ik) (i := (i : Int)) (w := w') ht hs hsb (by omega) (by omega)
    rw [Int.toNat_natCast, add_lit, Nat.mul_one] at this
    exact this
  · have hone : ∀ u ∈ (f x).cells.toList, u.oneCell' = true := by
      intro u hu
      rw [hc] at hu
      obtain rfl : u = f x := by simpa using hu
      exact h1
    refine Wu_store (v := f x) hB (by rw [hc]; exact hst) hone (by rw [hc]; simp; omega) fun w' hB' hm => ?_
    rw [hc] at hB'
    have hB' : Has w' g (cs.take i ++ [f x] ++ cs.drop (i + 1)) e := hB'
    refine hk w' (Own.mk hsb hb hB' (by simp [hl]) hlc hcm (by simp [List.length_take, List.length_drop]; omega) ?_) (hm.weak fun b _ hb => ⟨_, hsb, hb.symm⟩)
    have h9 := take_set_take (cs := cs) (u := [f x]) (m := l.length) (i := i) (n := 1) rfl (by omega) (by omega)
    rw [List.length_set, h9, htk, List.map_set, List.set_eq_take_append_cons_drop, if_pos (by rw [List.length_map]; exact hi), List.append_assoc]; rfl
/-- `s[:n]` of a slice of one's own -/
theorem Pu_takeA {ats : List At} {t e : TypeId} {base : Nat} {s : Sl} {l : List (Ats ats)} {ik : IntKind} {n : Nat} {k : Sl → World → Prop} {w : World} (ho : OwnA ats e base w s l) (hl : 0 < l.length) (hn : n ≤ l.length) (ht : P.underlying t = some (.slice e)) (hs : sizeIs P e ats.length = true)
    (hk : ∀ s', OwnA ats e base w s' (l.take n) → s'.base = s.base → k s' w) : Pu P (Instr.sliceAt t (.slice s.base s.len s.cap) none (some (.int ik (n : Int))) none) (.one (.at .sl)) k w := by
  obtain ⟨g, cs, hsb, hb, hB, hll, hlc, hcm, hcs, htk⟩ := ho.inv hl
  refine ⟨⟨s.base, n, s.cap⟩, fun w' => ?_, hk _ (OwnA.mk hsb hb hB (by simp; omega) (by simp only; omega) hcm hcs ?_) rfl⟩
  · have := run_sliceAt (P := P) (s := s) (w := w') (l := 0) (h := n) (hi := some (.int ik (n : Int))) ht hs (.inl ⟨rfl, rfl⟩) (.inr ⟨ik, rfl⟩) (Nat.zero_le _) (by omega)
    rw [Nat.zero_mul, hsb] at this
    simp only [Option.map_some, Addr_add_zero, ite_self, Nat.sub_zero] at this
    rw [hsb]
    exact this
  · have e1 : (l.take n).flatMap (encAts ats) = (l.flatMap (encAts ats)).take (n * ats.length) := by
      have h2 : l.flatMap (encAts ats) = (l.take n).flatMap (encAts ats) ++ (l.drop n).flatMap (encAts ats) := by rw [← List.flatMap_append, List.take_append_drop]
      have h3 : ((l.take n).flatMap (encAts ats)).length = n * ats.length := by rw [flat_len, List.length_take, Nat.min_eq_left hn]
      rw [h2, ← h3, List.take_left]
    rw [e1, ← htk, List.take_take, List.length_take]
    congr 1
    rw [Nat.min_eq_left hn, Nat.min_eq_left (Nat.mul_le_mul_right _ hn)]
/-- `s[n:]` -/
theorem Pu_dropA {ats : List At} {t e : TypeId} {s : Sl} {l : List (Ats ats)} {ik : IntKind} {n : Nat} {k : Sl → World → Prop} {w : World} (hr : RdA ats w s l) (hn : n ≤ l.length) (ht : P.underlying t = some (.slice e)) (hs : sizeIs P e ats.length = true)
    (hk : ∀ s', RdA ats w s' (l.drop n) → k s' w) : Pu P (Instr.sliceAt t (.slice s.base s.len s.cap) (some (.int ik (n : Int))) none none) (.one (.at .sl)) k w := by
  have hl := hr.1
  have hc := hr.2.1
  refine ⟨⟨if s.cap = n then s.base else s.base.map (·.add (n * ats.length)), s.len - n, s.cap - n⟩, fun w' => run_sliceAt (P := P) (s := s) (w := w') (l := n) (h := s.len) ht hs (.inr ⟨ik, rfl⟩) (.inl ⟨rfl, rfl⟩) (by omega) hc, hk _ ⟨by simp; omega, by simp only; omega, fun i x hi => ?_⟩⟩
  rw [List.getElem?_drop] at hi
  obtain ⟨a, ha, hcell⟩ := hr.2.2 _ _ hi
  have hlt := (List.getElem?_eq_some_iff.1 hi).1
  refine ⟨a.add (n * ats.length), by simp only; rw [if_neg (by omega), ha]; rfl, fun j v hj => ?_⟩
  have := hcell j v hj
  rw [Nat.add_mul, ← Addr.add_add] at this
  exact this
end
end Go.Cu
