/- Steps over pointers and maps; lists of lists. -/
import Derived.Test.YtmmejgneelkhkaaDoorMapLib
import Derived.Laws.Pointers
import Derived.Laws.Cover3
set_option linter.all false
namespace Go.Cu
open Go Go.RowKit
section
variable {P : Program}
theorem Pu_idxB {α : Type} {f : α → Value} {t e : TypeId} {s : Sl} {l : List α} {ik : IntKind} {i : Int} {k : Addr → World → Prop} {w : World} (hr : Rds f w s l) (ht : P.underlying t = some (.slice e)) (hs : sizeIs P e 1 = true) (h0 : 0 ≤ i) (h1 : i < l.length)
    (hk : ∀ b x, s.base = some b → l[i.toNat]? = some x → k (b.add i.toNat) w) : Pu P (Instr.indexAt t (.slice s.base s.len s.cap) (.int ik i)) (.one (.at .addr)) k w := by
  have hlt : i.toNat < l.length := by omega
  obtain ⟨a, ha, _⟩ := hr.2.2 i.toNat _ (List.getElem?_eq_getElem hlt)
  exact Pu_ix ht hs ha h0 (by rw [hr.1]; exact h1) (hk a _ ha (List.getElem?_eq_getElem hlt))
theorem Pu_nil {a : Addr} {k : Addr → World → Prop} {w : World} (hk : k a w) : Pu P (nilCk (some a)) (.one (.at .addr)) k w := ⟨a, fun _ => rfl, hk⟩
theorem Pu_eqnil {t e : TypeId} {x y : Operand} {p : Option Addr} {k : Bool → World → Prop} {w : World} (ht : P.underlying t = some (.pointer e)) (hk : k p.isNone w) :
    Pu P (do eqGuard .eql t x y (.pointer p) (.pointer none); binOp .eql t (.pointer p) (.pointer none)) (.one (.at .bool)) k w := by
  refine ⟨p.isNone, fun w' => ?_, hk⟩
  have hg : (eqGuard .eql t x y (.pointer p) (.pointer none)).run P w' = .ok () w' := by rfl
  have ht' : P.underlying t = some (.pointer (P.pointee t)) := by
    have : P.pointee t = e := by simp [Program.pointee, ht]
    rw [this]; exact ht
  rw [run_bind, hg]
  show (binOp .eql t (.pointer p) (.pointer none)).run P w' = _
  simp [binOp, run_equal_pointer_nil w' t p ht']
  rfl
theorem Pu_nenil {t e : TypeId} {x y : Operand} {p : Option Addr} {k : Bool → World → Prop} {w : World} (ht : P.underlying t = some (.pointer e)) (hk : k p.isSome w) :
    Pu P (do eqGuard .neq t x y (.pointer p) (.pointer none); binOp .neq t (.pointer p) (.pointer none)) (.one (.at .bool)) k w := by
  refine ⟨p.isSome, fun w' => ?_, hk⟩
  have hg : (eqGuard .neq t x y (.pointer p) (.pointer none)).run P w' = .ok () w' := by rfl
  have ht' : P.underlying t = some (.pointer (P.pointee t)) := by
    have : P.pointee t = e := by simp [Program.pointee, ht]
    rw [this]; exact ht
  rw [run_bind, hg]
  show (binOp .neq t (.pointer p) (.pointer none)).run P w' = _
  simp [binOp, run_equal_pointer_nil w' t p ht']
  cases p <;> rfl
theorem Pu_eqnilS {t e : TypeId} {x y : Operand} {s : Sl} {k : Bool → World → Prop} {w : World} (ht : P.underlying t = some (.slice e)) (hk : k s.base.isNone w) :
    Pu P (do eqGuard .eql t x y (.slice s.base s.len s.cap) (.slice none 0 0); binOp .eql t (.slice s.base s.len s.cap) (.slice none 0 0)) (.one (.at .bool)) k w := by
  refine ⟨s.base.isNone, fun w' => ?_, hk⟩
  have hg : (eqGuard .eql t x y (.slice s.base s.len s.cap) (.slice none 0 0)).run P w' = .ok () w' := by rfl
  rw [run_bind, hg]
  show (binOp .eql t (.slice s.base s.len s.cap) (.slice none 0 0)).run P w' = _
  simp [binOp, run_equal_slice_nil w' t e s.base s.len s.cap ht]
  rfl
theorem Rd_lookup {t kt e : TypeId} {k : IntKind} {b : Nat} {l : List (Int × Value)} {x : Int} {z : Option Addr} {K : Option Addr → World → Prop} {w : World} (ht : P.underlying t = some (.map kt e)) (hk : P.underlying kt = some (.int k))
    (hz : (P.info? e).bind (·.zero) = some (.pointer none)) (hm : MapIs w b l) (hv : getM (.pointer none) (lk l x 0) = .pointer z) (hK : K z w) :
    Rd P (Instr.lookup t (.map (some b)) (.int .i64 x) false) (.one (.at .ptr)) K w := ⟨z, by rw [run_lookup ht hk hz hm, hv]; rfl, hK⟩
theorem RdS_lookup {S : World → Prop} {t kt e : TypeId} {k : IntKind} {b : Nat} {l : List (Int × Value)} {x : Int} {z : Option Addr} {K : Option Addr → World → Prop} {w : World} (ht : P.underlying t = some (.map kt e)) (hk : P.underlying kt = some (.int k))
    (hz : (P.info? e).bind (·.zero) = some (.pointer none)) (hm : ∀ w', S w' → MapIs w' b l) (hv : getM (.pointer none) (lk l x 0) = .pointer z) (hK : K z w) :
    RdS P S (Instr.lookup t (.map (some b)) (.int .i64 x) false) (.one (.at .ptr)) K w := ⟨z, fun w' hS => by rw [run_lookup ht hk hz (hm w' hS), hv]; rfl, hK⟩
theorem getM_mem {l : List (Int × Value)} {x : Int} {v z : Value} {w : World} {b : Nat} (hm : MapIs w b l) (h : (x, v) ∈ l) : getM z (lk l x 0) = v := by
  obtain ⟨_, _, _, _, hn, _⟩ := hm
  obtain ⟨j, hj⟩ := lk_of_mem 0 hn h
  rw [hj]; rfl
theorem getM_not {l : List (Int × Value)} {x : Int} {z : Value} (h : ∀ v, (x, v) ∉ l) : getM z (lk l x 0) = z := by
  cases hl : lk l x 0 with
  | none => rfl
  | some y =>
    obtain ⟨j, v⟩ := y
    exact absurd (List.mem_of_getElem? (lk_some hl).2) (h v)
theorem putM_mem {l : List (Int × Value)} {x : Int} {v : Value} (hn : (l.map (·.1)).Nodup) (y : Int) (u : Value) : (y, u) ∈ putM l x v ↔ (y = x ∧ u = v) ∨ (y ≠ x ∧ (y, u) ∈ l) := by
  unfold putM
  cases hl : lk l x 0 with
  | none =>
    have := lk_none hl
    simp only [List.mem_append, List.mem_cons, Prod.mk.injEq, List.not_mem_nil, or_false]
    constructor
    · rintro (h | h)
      · exact .inr ⟨this _ h, h⟩
      · exact .inl h
    · rintro (h | h)
      · exact .inr h
      · exact .inl h.2
  | some z =>
    obtain ⟨j, v0⟩ := z
    have hj := (lk_some hl).2
    rw [Nat.sub_zero] at hj
    have hjl : j < l.length := (List.getElem?_eq_some_iff.1 hj).1
    have uniq : ∀ (i : Nat) (u : Value), l[i]? = some (x, u) → i = j := by
      intro i u hi
      have hil : i < l.length := (List.getElem?_eq_some_iff.1 hi).1
      have h1 : (l.map (·.1))[i]? = some x := by rw [List.getElem?_map, hi]; rfl
      have h2 : (l.map (·.1))[j]? = some x := by rw [List.getElem?_map, hj]; rfl
      exact (List.getElem?_inj (by simpa using hil) hn).1 (h1.trans h2.symm)
    constructor
    · intro h
      obtain ⟨i, hi⟩ := List.getElem?_of_mem h
      rw [List.getElem?_set] at hi
      by_cases hji : j = i
      · subst hji
        rw [if_pos rfl, if_pos hjl] at hi
        cases hi; exact .inl ⟨rfl, rfl⟩
      · rw [if_neg hji] at hi
        refine .inr ⟨fun hy => ?_, List.mem_of_getElem? hi⟩
        subst hy
        exact hji (uniq i u hi).symm
    · rintro (⟨rfl, rfl⟩ | ⟨hy, h⟩)
      · exact List.mem_of_getElem? (i := j) (by rw [List.getElem?_set, if_pos rfl, if_pos hjl])
      · obtain ⟨i, hi⟩ := List.getElem?_of_mem h
        refine List.mem_of_getElem? (i := i) ?_
        rw [List.getElem?_set, if_neg]
        · exact hi
        · intro hji
          subst hji
          rw [hj] at hi; cases hi; exact hy rfl
theorem delM_mem {l : List (Int × Value)} {x : Int} (hn : (l.map (·.1)).Nodup) (y : Int) (u : Value) : (y, u) ∈ delM l x ↔ y ≠ x ∧ (y, u) ∈ l := by
  unfold delM
  cases hl : lk l x 0 with
  | none =>
    have := lk_none hl
    exact ⟨fun h => ⟨this _ h, h⟩, fun h => h.2⟩
  | some z =>
    obtain ⟨j, v0⟩ := z
    have hj := (lk_some hl).2
    rw [Nat.sub_zero] at hj
    have hjl : j < l.length := (List.getElem?_eq_some_iff.1 hj).1
    have uniq : ∀ (i : Nat) (u : Value), l[i]? = some (x, u) → i = j := by
      intro i u hi
      have hil : i < l.length := (List.getElem?_eq_some_iff.1 hi).1
      have h1 : (l.map (·.1))[i]? = some x := by rw [List.getElem?_map, hi]; rfl
      have h2 : (l.map (·.1))[j]? = some x := by rw [List.getElem?_map, hj]; rfl
      exact (List.getElem?_inj (by simpa using hil) hn).1 (h1.trans h2.symm)
    rw [List.mem_eraseIdx_iff_getElem?]
    constructor
    · rintro ⟨i, hij, hi⟩
      refine ⟨fun hy => ?_, List.mem_of_getElem? hi⟩
      subst hy
      exact hij (uniq i u hi)
    · rintro ⟨hy, h⟩
      obtain ⟨i, hi⟩ := List.getElem?_of_mem h
      refine ⟨i, fun hij => ?_, hi⟩
      subst hij
      rw [hj] at hi; cases hi; exact hy rfl
theorem Wu_update {t kt e : TypeId} {k : IntKind} {b : Nat} {l : List (Int × Value)} {x : Int} {v : Value} {K : World → Prop} {w : World} (ht : P.underlying t = some (.map kt e)) (hk : P.underlying kt = some (.int k)) (hm : MapIs w b l)
    (hK : ∀ w', MapIs w' b (putM l x v) → Mo (fun c => c = b) w w' → K w') : Wu P (Instr.mapUpdate t (.map (some b)) (.int .i64 x) v) K w := by
  obtain ⟨w', h1, h2, h3⟩ := run_update (v := v) (x := x) ht hk hm
  exact ⟨w', h1, hK w' h2 h3⟩
theorem Wr_delete {t t2 ty kt e : TypeId} {k : IntKind} {b : Nat} {l : List (Int × Value)} {x : Int} {K : Value → World → Prop} {w : World} (ht : P.underlying t = some (.map kt e)) (hk : P.underlying kt = some (.int k)) (hm : MapIs w b l)
    (hK : ∀ w', MapIs w' b (delM l x) → Mo (fun c => c = b) w w' → K (.tuple #[]) w') : Wr P (Builtin.delete_ #[t, t2] ty #[.map (some b), .int .i64 x]) (.one (.at .any)) K w := by
  obtain ⟨w', h1, h2, h3⟩ := run_delete (ty := ty) (t2 := t2) (x := x) ht hk hm
  exact ⟨.tuple #[], w', h1, hK w' h2 h3⟩
theorem Wr_makeMap {t : TypeId} {K : Option Nat → World → Prop} {w : World} (hK : ∀ w', MapIs w' w.heap.size [] → Ex w w' → K (some w.heap.size) w') : Wr P (Instr.makeMap t none) (.one (.at .map)) K w :=
  ⟨some w.heap.size, w.alloc (.map #[] 0), rfl, hK _ (MapIs.new w) (Ex.alloc w _)⟩
theorem MapIs.len {w : World} {b : Nat} {l : List (Int × Value)} (h : MapIs w b l) : ∃ es c, w.heap[b]? = some (.map es c) ∧ es.size = l.length := by
  obtain ⟨es, c, h1, h2, _⟩ := h
  exact ⟨es, c, h1, by have := congrArg List.length h2; simpa using this⟩
theorem Rd_lenMap {t ty kt e : TypeId} {b : Nat} {l : List (Int × Value)} {K : Int → World → Prop} {w : World} (ht : P.underlying t = some (.map kt e)) (hm : MapIs w b l) (hK : K l.length w) :
    Rd P (Builtin.len_ #[t] ty #[.map (some b)]) (.one (.at (.int .i64))) K w := by
  obtain ⟨es, c, h1, h2⟩ := hm.len
  refine ⟨(l.length : Int), ?_, hK⟩
  simp [Builtin.len_, Builtin.lenOf, run_underlying ht, run_getObj_map h1, h2, Sh.enc, Cx.enc, At.enc, goInt]
end
/-! ### Lists of lists -/
abbrev slv : Sl → Value := fun s => .slice s.base s.len s.cap
/-- s reads as a list of lists; all that it holds lies in blocks that meet F -/
def Nest {α : Type} (f : α → Value) (F : Nat → Prop) (w : World) (s : Sl) (ls : List (List α)) : Prop :=
  ∃ ss : List Sl, Rds slv w s ss ∧ ss.length = ls.length ∧ (∀ a, s.base = some a → F a.block) ∧ ∀ (i : Nat) (s' : Sl) (l : List α), ss[i]? = some s' → ls[i]? = some l → Rds f w s' l ∧ ∀ a, s'.base = some a → F a.block
theorem Nest.mo {α : Type} {f : α → Value} {F X : Nat → Prop} {w w' : World} {s : Sl} {ls : List (List α)} (h : Nest f F w s ls) (k : Mo X w w') (hx : ∀ b, F b → ¬ X b) : Nest f F w' s ls := by
  obtain ⟨ss, h1, h2, h3, h4⟩ := h
  exact ⟨ss, h1.mo k (fun a ha => hx _ (h3 a ha)), h2, h3, fun i s' l hs hl => ⟨(h4 i s' l hs hl).1.mo k (fun a ha => hx _ ((h4 i s' l hs hl).2 a ha)), (h4 i s' l hs hl).2⟩⟩
theorem Nest.ex {α : Type} {f : α → Value} {F : Nat → Prop} {w w' : World} {s : Sl} {ls : List (List α)} (h : Nest f F w s ls) (k : Ex w w') : Nest f F w' s ls := h.mo k (fun _ _ => id)
theorem Nest.weak {α : Type} {f : α → Value} {F G : Nat → Prop} {w : World} {s : Sl} {ls : List (List α)} (h : Nest f F w s ls) (hg : ∀ b, F b → G b) : Nest f G w s ls := by
  obtain ⟨ss, h1, h2, h3, h4⟩ := h
  exact ⟨ss, h1, h2, fun a ha => hg _ (h3 a ha), fun i s' l hs hl => ⟨(h4 i s' l hs hl).1, fun a ha => hg _ ((h4 i s' l hs hl).2 a ha)⟩⟩
theorem Nest.nil {α : Type} (f : α → Value) (F : Nat → Prop) (w : World) : Nest f F w ⟨none, 0, 0⟩ [] :=
  ⟨[], Rds.nil _ _, rfl, fun a h => (by cases h), fun i s' l h => (by simp at h)⟩
/-- a list of lists of one's own: the outer list and each row in a block of its own -/
def NestOwn {α : Type} (f : α → Value) (e eo : TypeId) (base : Nat) (w : World) (s : Sl) (ls : List (List α)) : Prop :=
  ∃ ss : List Sl, Own slv eo base w s ss ∧ ss.length = ls.length ∧ (∀ (i : Nat) (s' : Sl) (l : List α), ss[i]? = some s' → ls[i]? = some l → Own f e base w s' l) ∧
    (∀ (i j : Nat) (si sj : Sl) (b : Nat), ss[i]? = some si → ss[j]? = some sj → i ≠ j → SlIn si b → ¬ SlIn sj b) ∧ ∀ (i : Nat) (si : Sl) (b : Nat), ss[i]? = some si → SlIn si b → ¬ SlIn s b
theorem slin_of {s : Sl} {a : Addr} (h : s.base = some a) : SlIn s a.block := ⟨a, h, rfl⟩
theorem NestOwn.nest {α : Type} {f : α → Value} {e eo : TypeId} {base : Nat} {w : World} {s : Sl} {ls : List (List α)} (h : NestOwn f e eo base w s ls) : Nest f (fun b => base ≤ b ∧ b < w.heap.size) w s ls := by
  obtain ⟨ss, h1, h2, h3, h4, h5⟩ := h
  exact ⟨ss, h1.rds, h2, fun a ha => h1.base _ (slin_of ha), fun i s' l hs hl => ⟨(h3 i s' l hs hl).rds, fun a ha => (h3 i s' l hs hl).base _ (slin_of ha)⟩⟩
theorem NestOwn.ex {α : Type} {f : α → Value} {e eo : TypeId} {base : Nat} {w w' : World} {s : Sl} {ls : List (List α)} (h : NestOwn f e eo base w s ls) (k : Ex w w') : NestOwn f e eo base w' s ls := by
  obtain ⟨ss, h1, h2, h3, h4⟩ := h
  exact ⟨ss, h1.ex k, h2, fun i s' l hs hl => (h3 i s' l hs hl).ex k, h4⟩
theorem NestOwn.mo {α : Type} {f : α → Value} {e eo : TypeId} {base : Nat} {X : Nat → Prop} {w w' : World} {s : Sl} {ls : List (List α)} (h : NestOwn f e eo base w s ls) (k : Mo X w w') (hx : ∀ b, base ≤ b → b < w.heap.size → ¬ X b) : NestOwn f e eo base w' s ls := by
  obtain ⟨ss, h1, h2, h3, h4⟩ := h
  exact ⟨ss, h1.mo k (fun b hb => hx b (h1.base b hb).1 (h1.base b hb).2), h2, fun i s' l hs hl => (h3 i s' l hs hl).mo k (fun b hb => hx b ((h3 i s' l hs hl).base b hb).1 ((h3 i s' l hs hl).base b hb).2), h4⟩
theorem NestOwn.weak {α : Type} {f : α → Value} {e eo : TypeId} {base base' : Nat} {w : World} {s : Sl} {ls : List (List α)} (h : NestOwn f e eo base w s ls) (hb : base' ≤ base) : NestOwn f e eo base' w s ls := by
  obtain ⟨ss, h1, h2, h3, h4⟩ := h
  exact ⟨ss, h1.weak hb, h2, fun i s' l hs hl => (h3 i s' l hs hl).weak hb, h4⟩
theorem NestOwn.nil {α : Type} (f : α → Value) (e eo : TypeId) (base : Nat) (w : World) : NestOwn f e eo base w ⟨none, 0, 0⟩ [] :=
  ⟨[], Own.nil _ _ _ _, rfl, fun i s' l h => (by simp at h), fun i j si sj b h => (by simp at h), fun i si b h => (by simp at h)⟩
/-- one row more -/
theorem NestOwn.snoc {α : Type} {f : α → Value} {e eo : TypeId} {base : Nat} {w0 w1 w2 : World} {s s' row : Sl} {ls : List (List α)} {l : List α} {ss : List Sl}
    (ho : Own slv eo base w0 s ss) (hlen : ss.length = ls.length) (hrow : ∀ (i : Nat) (s' : Sl) (l : List α), ss[i]? = some s' → ls[i]? = some l → Own f e base w0 s' l)
    (hd : ∀ (i j : Nat) (si sj : Sl) (b : Nat), ss[i]? = some si → ss[j]? = some sj → i ≠ j → SlIn si b → ¬ SlIn sj b) (hs : ∀ (i : Nat) (si : Sl) (b : Nat), ss[i]? = some si → SlIn si b → ¬ SlIn s b)
    (hx01 : Ex w0 w1) (hr1 : Own f e base w1 row l) (hnew : ∀ b, SlIn row b → w0.heap.size ≤ b)
    (ho2 : Own slv eo base w2 s' (ss ++ [row])) (hm : Mo (SlIn s) w1 w2) (hin : ∀ b, SlIn s' b → SlIn s b ∨ w1.heap.size ≤ b) : NestOwn f e eo base w2 s' (ls ++ [l]) := by
  have hblk : ∀ (i : Nat) (si : Sl) (b : Nat), ss[i]? = some si → SlIn si b → b < w0.heap.size := by
    intro i si b hi hb
    have hil : i < ls.length := by rw [← hlen]; exact (List.getElem?_eq_some_iff.1 hi).1
    exact ((hrow i si _ hi (List.getElem?_eq_getElem hil)).base b hb).2
  have cases' : ∀ (i : Nat) (si : Sl), (ss ++ [row])[i]? = some si → (ss[i]? = some si ∧ i < ss.length) ∨ (i = ss.length ∧ si = row) := by
    intro i si hi
    by_cases hlt : i < ss.length
    · rw [List.getElem?_append_left hlt] at hi; exact .inl ⟨hi, hlt⟩
    · rw [List.getElem?_append_right (by omega)] at hi
      have hlt2 := (List.getElem?_eq_some_iff.1 hi).1
      simp at hlt2
      have : i = ss.length := by omega
      subst this
      rw [Nat.sub_self] at hi
      simp at hi
      exact .inr ⟨rfl, hi.symm⟩
  refine ⟨ss ++ [row], ho2, by simp [hlen], ?_, ?_, ?_⟩
  · intro i si m hi hl
    rcases cases' i si hi with ⟨hi', hlt⟩ | ⟨rfl, rfl⟩
    · rw [List.getElem?_append_left (by omega)] at hl
      exact ((hrow i si m hi' hl).ex hx01).mo hm (fun b hb => hs i si b hi' hb)
    · rw [hlen, List.getElem?_append_right (Nat.le_refl _), Nat.sub_self] at hl
      simp at hl
      subst hl
      exact hr1.mo hm (fun b hb hn => by have := (ho.base b hn).2; have := hnew b hb; omega)
  · intro i j si sj b hi hj hij hbi hbj
    rcases cases' i si hi with ⟨hi', _⟩ | ⟨rfl, rfl⟩
    · rcases cases' j sj hj with ⟨hj', _⟩ | ⟨rfl, rfl⟩
      · exact hd i j si sj b hi' hj' hij hbi hbj
      · have := hblk i si b hi' hbi; have := hnew b hbj; omega
    · rcases cases' j sj hj with ⟨hj', _⟩ | ⟨rfl, rfl⟩
      · have := hblk j sj b hj' hbj; have := hnew b hbi; omega
      · exact hij rfl
  · intro i si b hi hb hbs
    rcases cases' i si hi with ⟨hi', hlt⟩ | ⟨rfl, rfl⟩
    · rcases hin b hbs with h | h
      · exact hs i si b hi' hb h
      · have := hblk i si b hi' hb; have := hx01.size; omega
    · rcases hin b hbs with h | h
      · have := (ho.base b h).2; have := hnew b hb; omega
      · have := (hr1.base b hb).2; omega
end Go.Cu
