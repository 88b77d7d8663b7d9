/- Laws of single steps, over the lifted sentences: what is read, made, written, and what of the world stays. -/
import Derived.Test.YtmmejgneelkhkaaDoorOps
import Derived.Below
import Derived.OwnWalk
import Derived.Laws.AppendOwn
import Derived.Laws.MakeOwn
import Derived.Laws.CopyRow
import Derived.Laws.Rows
import Derived.DataElems
set_option linter.all false
namespace Go.Cu
open Go Go.RowKit

/-! ### What of a world stays -/
structure Mo (X : Nat → Prop) (w w' : World) : Prop where
  os : w'.os = w.os
  tape : w'.tape = w.tape
  output : w'.output = w.output
  size : w.heap.size ≤ w'.heap.size
  keep : ∀ b, b < w.heap.size → ¬ X b → w'.heap[b]? = w.heap[b]?
abbrev Nob : Nat → Prop := fun _ => False
/-- nothing that was there has changed -/
abbrev Ex (w w' : World) : Prop := Mo Nob w w'
theorem Mo.refl (X : Nat → Prop) (w : World) : Mo X w w := ⟨rfl, rfl, rfl, Nat.le_refl _, fun _ _ _ => rfl⟩
theorem Ex.refl (w : World) : Ex w w := Mo.refl _ w
theorem Mo.trans {X Y Z : Nat → Prop} {a b c : World} (h : Mo X a b) (k : Mo Y b c) (h1 : ∀ i, X i → Z i) (h2 : ∀ i, i < a.heap.size → Y i → Z i) : Mo Z a c :=
  ⟨k.os.trans h.os, k.tape.trans h.tape, k.output.trans h.output, Nat.le_trans h.size k.size, fun b hb hz =>
    (k.keep b (Nat.lt_of_lt_of_le hb h.size) (fun hy => hz (h2 b hb hy))).trans (h.keep b hb (fun hx => hz (h1 b hx)))⟩
theorem Ex.trans {a b c : World} (h : Ex a b) (k : Ex b c) : Ex a c := Mo.trans h k (fun _ => id) (fun _ _ => id)
theorem Mo.ex {X : Nat → Prop} {a b c : World} (h : Mo X a b) (k : Ex b c) : Mo X a c := Mo.trans h k (fun _ => id) (fun _ _ => False.elim)
theorem Ex.mo {X : Nat → Prop} {a b c : World} (h : Ex a b) (k : Mo X b c) : Mo X a c := Mo.trans h k (fun _ => False.elim) (fun _ _ => id)
theorem Mo.weak {X Y : Nat → Prop} {a b : World} (h : Mo X a b) (hx : ∀ i, i < a.heap.size → X i → Y i) : Mo Y a b :=
  ⟨h.os, h.tape, h.output, h.size, fun b hb hy => h.keep b hb (fun x => hy (hx b hb x))⟩
/-- what was written lies behind all that was there -/
theorem Mo.new {X : Nat → Prop} {a b : World} (h : Mo X a b) (hx : ∀ i, X i → a.heap.size ≤ i) : Ex a b :=
  h.weak fun i hi x => absurd (hx i x) (by omega)
theorem Ex.into {X : Nat → Prop} {a b c : World} (h : Ex a b) (k : Mo X b c) (hx : ∀ i, X i → a.heap.size ≤ i) : Ex a c :=
  Mo.trans h k (fun _ => id) (fun i hi hy => absurd (hx i hy) (by omega))
theorem Ex.drew (w : World) : Ex w w.drew := ⟨rfl, rfl, rfl, Nat.le_refl _, fun _ _ _ => rfl⟩
theorem Ex.alloc (w : World) (o : Obj) : Ex w (w.alloc o) := ⟨rfl, rfl, rfl, by simp, fun b hb _ => Below.heap_alloc w o b hb⟩
theorem Mo.below {X : Nat → Prop} {N : Nat} {a b c : World} (h : Below N a b) (k : Mo X b c) (hN : N ≤ b.heap.size) (hx : ∀ i, X i → N ≤ i) : Below N a c :=
  h.trans ⟨k.os, k.tape, k.output, k.size, fun i hi => k.keep i (by omega) (fun x => absurd (hx i x) (by omega))⟩
theorem Ex.below {a b : World} (h : Ex a b) : Below a.heap.size a b := ⟨h.os, h.tape, h.output, h.size, fun i hi => h.keep i hi id⟩
theorem Ex.of_below {a b : World} (h : Below a.heap.size a b) : Ex a b := ⟨h.os, h.tape, h.output, h.size, fun i hi _ => h.block i hi⟩
theorem Mo.cell {X : Nat → Prop} {w w' : World} (h : Mo X w w') {a : Addr} {v : Value} (hc : w.cell? a = some v) (hx : ¬ X a.block) : w'.cell? a = some v := by
  rw [World.cell?_of_block (h.keep a.block (World.block_lt_of_cell? w a hc) hx)]; exact hc
theorem Ex.cell {w w' : World} (h : Ex w w') {a : Addr} {v : Value} (hc : w.cell? a = some v) : w'.cell? a = some v := Mo.cell h hc id

/-! ### A block that is known whole -/
def Has (w : World) (B : Nat) (cs : List Value) (t : TypeId) : Prop := w.heap[B]? = some (.cells cs.toArray t (0, 0))
theorem Has.lt {w : World} {B : Nat} {cs : List Value} {t : TypeId} (h : Has w B cs t) : B < w.heap.size := by
  rcases Nat.lt_or_ge B w.heap.size with h' | h'
  · exact h'
  · unfold Has at h; rw [Array.getElem?_eq_none h'] at h; cases h
theorem Has.mo {X : Nat → Prop} {w w' : World} {B : Nat} {cs : List Value} {t : TypeId} (h : Has w B cs t) (k : Mo X w w') (hx : ¬ X B) : Has w' B cs t :=
  (k.keep B h.lt hx).trans h
theorem Has.ex {w w' : World} {B : Nat} {cs : List Value} {t : TypeId} (h : Has w B cs t) (k : Ex w w') : Has w' B cs t := h.mo k id
theorem Has.alloc (w : World) (cs : Array Value) (t : TypeId) : Has (w.alloc (.cells cs t)) w.heap.size cs.toList t := by
  unfold Has; show (w.heap.push _)[_]? = _; simp
theorem Has.cell {w : World} {B : Nat} {cs : List Value} {t : TypeId} (h : Has w B cs t) (i : Nat) : w.cell? ⟨B, i, none⟩ = cs[i]? := by
  unfold Has at h; simp [World.cell?, h]
theorem Has.set {w : World} {B : Nat} {cs : List Value} {t : TypeId} (h : Has w B cs t) (i : Nat) (v : Value) : Has (w.setCell ⟨B, i, none⟩ v) B (cs.set i v) t := by
  unfold Has at *
  simp only [World.setCell, Array.getElem?_modify, if_true, h, Option.map_some]
  simp
theorem Has.frozen {w : World} {B : Nat} {cs : List Value} {t : TypeId} (h : Has w B cs t) (i : Nat) : w.frozen? ⟨B, i, none⟩ = false := by
  unfold Has at h; simp [World.frozen?, h]
theorem Mo.setCell (w : World) (a : Addr) (v : Value) : Mo (fun b => b = a.block) w (w.setCell a v) :=
  ⟨rfl, rfl, rfl, by simp, fun b _ hb => Below.heap_setCell _ _ _ _ hb⟩
theorem Mo.setRow (w : World) (g : Nat) (cs : Array Value) : Mo (fun b => b = g) w (w.setRow g cs) :=
  ⟨rfl, rfl, rfl, by simp, fun b _ hb => setRow_other w g b cs hb⟩

/-! ### Types -/
def isOne (P : Program) (t : TypeId) : Bool := match P.underlying t with
  | some (.struct _) | some (.array _ _) | none => false
  | some _ => true
def isAggN (P : Program) (t : TypeId) (n : Nat) : Bool := match P.underlying t with
  | some (.struct _) | some (.array _ _) => match P.info? t with
    | some i => Nat.beq i.size n
    | none => false
  | _ => false
def sizeIs (P : Program) (t : TypeId) (n : Nat) : Bool := match P.info? t with
  | some i => Nat.beq i.size n
  | none => false
section
variable {P : Program}
theorem run_isAgg_one {t : TypeId} (h : isOne P t = true) (w : World) : (isAgg t).run P w = .ok false w := by
  unfold isOne at h
  cases hu : P.underlying t with
  | none => rw [hu] at h; cases h
  | some d => rw [hu] at h; unfold isAgg; rw [run_bind, run_underlying hu]; cases d <;> first | rfl | cases h
theorem run_isAgg_agg {t : TypeId} {n : Nat} (h : isAggN P t n = true) (w : World) : (isAgg t).run P w = .ok true w ∧ (sizeOf t).run P w = .ok n w := by
  unfold isAggN at h
  cases hu : P.underlying t with
  | none => rw [hu] at h; cases h
  | some d =>
    rw [hu] at h
    have h1 : (isAgg t).run P w = .ok true w := by unfold isAgg; rw [run_bind, run_underlying hu]; cases d <;> first | rfl | cases h
    refine ⟨h1, ?_⟩
    cases hi : P.info? t with
    | none => rw [hi] at h; cases d <;> cases h
    | some i =>
      rw [hi] at h
      have : i.size = n := by cases d <;> first | exact Nat.eq_of_beq_eq_true h | cases h
      simp [sizeOf, typeInfo, hi, this]
theorem run_sizeOf {t : TypeId} {n : Nat} (h : sizeIs P t n = true) (w : World) : (sizeOf t).run P w = .ok n w := by
  unfold sizeIs at h
  cases hi : P.info? t with
  | none => rw [hi] at h; cases h
  | some i => rw [hi] at h; have := Nat.eq_of_beq_eq_true h; simp [sizeOf, typeInfo, hi, this]

/-! ### Reading -/
theorem run_load_one {t : TypeId} {a : Addr} {v : Value} {w : World} (h : isOne P t = true) (hc : w.cell? a = some v) : (Instr.loadAt t (.pointer (some a))).run P w = .ok v w := by
  have e : Instr.loadAt t (.pointer (some a)) = loadVar t a := rfl
  rw [e]
  unfold loadVar
  rw [run_bind, run_isAgg_one h]
  simp only [Bool.false_eq_true, if_false]
  show Sem.run P (Sem.load .plain a .pure) w = _
  simp only [Sem.run, hc]
theorem run_load_agg {t : TypeId} {a : Addr} {cs : List Value} {w : World} (h : isAggN P t cs.length = true) (hc : ∀ j v, cs[j]? = some v → w.cell? (a.add j) = some v) :
    (Instr.loadAt t (.pointer (some a))).run P w = .ok (.agg cs.toArray) w := by
  have e : Instr.loadAt t (.pointer (some a)) = loadVar t a := rfl
  rw [e]
  unfold loadVar
  rw [run_bind, (run_isAgg_agg h w).1]
  simp only [if_true]
  rw [run_bind, (run_isAgg_agg h w).2]
  simp only
  rw [run_bind, run_loadCells_list w a cs hc]
  rfl
/-- a cell is read -/
theorem Rd_one {t : TypeId} {a : Addr} {c : At} {x : c.T} {k : c.T → World → Prop} {w : World} (h : isOne P t = true) (hc : w.cell? a = some (c.enc x)) (hk : k x w) :
    Rd P (Instr.loadAt t (.pointer (some a))) (.one (.at c)) k w := ⟨x, run_load_one h hc, hk⟩
theorem RdS_one {S : World → Prop} {t : TypeId} {a : Addr} {c : At} {x : c.T} {k : c.T → World → Prop} {w : World} (h : isOne P t = true) (hc : ∀ w', S w' → w'.cell? a = some (c.enc x)) (hk : k x w) :
    RdS P S (Instr.loadAt t (.pointer (some a))) (.one (.at c)) k w := ⟨x, fun w' hS => run_load_one h (hc w' hS), hk⟩
/-- a cell of a known block is read -/
theorem Rd_has {t : TypeId} {B i : Nat} {cs : List Value} {e : TypeId} {c : At} {x : c.T} {k : c.T → World → Prop} {w : World} (hB : Has w B cs e) (h : isOne P t = true) (hi : cs[i]? = some (c.enc x)) (hk : k x w) :
    Rd P (Instr.loadAt t (.pointer (some ⟨B, i, none⟩))) (.one (.at c)) k w := Rd_one h ((hB.cell i).trans hi) hk
theorem RdS_has {S : World → Prop} {t : TypeId} {B i : Nat} {cs : List Value} {e : TypeId} {c : At} {x : c.T} {k : c.T → World → Prop} {w : World} (hB : ∀ w', S w' → Has w' B cs e) (h : isOne P t = true) (hi : cs[i]? = some (c.enc x)) (hk : k x w) :
    RdS P S (Instr.loadAt t (.pointer (some ⟨B, i, none⟩))) (.one (.at c)) k w := RdS_one h (fun w' hS => ((hB w' hS).cell i).trans hi) hk
theorem has_part {w : World} {B i : Nat} {cs : List Value} {e : TypeId} {l : List At} {x : Ats l} (hB : Has w B cs e) (hx : (cs.drop i).take (encAts l x).length = encAts l x) :
    ∀ j v, (encAts l x)[j]? = some v → w.cell? ((⟨B, i, none⟩ : Addr).add j) = some v := by
  intro j v hj
  have e : ((⟨B, i, none⟩ : Addr).add j) = ⟨B, i + j, none⟩ := by
    unfold Addr.add; split
    · rename_i h; subst h; rfl
    · rfl
  rw [e, hB.cell]
  rw [← hx] at hj
  rw [List.getElem?_take] at hj
  split at hj
  · rwa [List.getElem?_drop] at hj
  · cases hj
/-- several cells of a known block are read -/
theorem Rd_hasN {t : TypeId} {B i : Nat} {cs : List Value} {e : TypeId} {l : List At} {x : Ats l} {k : Ats l → World → Prop} {w : World} (hB : Has w B cs e) (h : isAggN P t (encAts l x).length = true)
    (hx : (cs.drop i).take (encAts l x).length = encAts l x) (hk : k x w) : Rd P (Instr.loadAt t (.pointer (some ⟨B, i, none⟩))) (.one (.agg l)) k w :=
  ⟨x, run_load_agg h (has_part hB hx), hk⟩
theorem RdS_hasN {S : World → Prop} {t : TypeId} {B i : Nat} {cs : List Value} {e : TypeId} {l : List At} {x : Ats l} {k : Ats l → World → Prop} {w : World} (hB : ∀ w', S w' → Has w' B cs e) (h : isAggN P t (encAts l x).length = true)
    (hx : (cs.drop i).take (encAts l x).length = encAts l x) (hk : k x w) : RdS P S (Instr.loadAt t (.pointer (some ⟨B, i, none⟩))) (.one (.agg l)) k w :=
  ⟨x, fun w' hS => run_load_agg h (has_part (hB w' hS) hx), hk⟩
theorem RdS_same {s : Sem Value} {d : Sh} {k : d.T → World → Prop} {w : World} (h : Rd P s d k w) : RdS P (Same w) s d k w := by
  obtain ⟨x, hx, hk⟩ := h
  exact ⟨x, fun w' hw => (by cases hw; exact hx), hk⟩

/-! ### Making -/
theorem Wr_new {s : Sem Value} {d : Sh} {k : d.T → World → Prop} {w w' : World} {x : d.T} (h : s.run P w = .ok (d.enc x) w') (hk : k x w') : Wr P s d k w := ⟨x, w', h, hk⟩
/-- a box: a new block of its own -/
theorem Wr_box {t : TypeId} {v : Value} {k : Addr → World → Prop} {w : World} (hk : ∀ w', Has w' w.heap.size v.cells.toList t → Ex w w' → k ⟨w.heap.size, 0, none⟩ w') :
    Wr P (Instr.box t v) (.one (.at .addr)) k w :=
  ⟨_, _, rfl, hk (w.alloc (.cells v.cells t)) (Has.alloc w v.cells t) (Ex.alloc w _)⟩
theorem Wr_alloc {t : TypeId} {z : Value} {k : Addr → World → Prop} {w : World} (hz : (P.info? t).bind (·.zero) = some z) (hk : ∀ w', Has w' w.heap.size z.cells.toList t → Ex w w' → k ⟨w.heap.size, 0, none⟩ w') :
    Wr P (Instr.alloc t true (.tuple #[])) (.one (.at .addr)) k w := by
  refine ⟨_, w.alloc (.cells z.cells t), ?_, hk _ (Has.alloc w z.cells t) (Ex.alloc w _)⟩
  cases hi : P.info? t with
  | none => rw [hi] at hz; cases hz
  | some i =>
    rw [hi] at hz
    have hz : i.zero = some z := hz
    simp [Instr.alloc, zeroValue, typeInfo, hi, hz, newVar, newRow, newObj, Cx.enc, At.enc, Sh.enc, Sem.run, Result.andThen]
/-! ### Writing into a known block -/
theorem run_store_has {t : TypeId} {B i : Nat} {cs : List Value} {e : TypeId} {v : Value} {w : World} (hB : Has w B cs e) (hs : sizeIs P t v.cells.size = true) (h1 : ∀ u ∈ v.cells.toList, u.oneCell' = true) (hi : i + v.cells.size ≤ cs.length) :
    (Instr.storeAt t (.pointer (some ⟨B, i, none⟩)) v).run P w = .ok () (w.setRow B (cs.take i ++ v.cells.toList ++ cs.drop (i + v.cells.size)).toArray) := by
  have e1 : Instr.storeAt t (.pointer (some ⟨B, i, none⟩)) v = storeVar t ⟨B, i, none⟩ v := rfl
  rw [e1]
  unfold storeVar
  rw [run_bind, run_sizeOf hs]
  simp only [ne_eq, not_true_eq_false, if_false]
  have := run_storeCells_at P B i e v.cells.toList 0 cs.toArray w hB (by simpa using hi) h1
  simpa using this
theorem Wu_store {t : TypeId} {B i : Nat} {cs : List Value} {e : TypeId} {v : Value} {k : World → Prop} {w : World} (hB : Has w B cs e) (hs : sizeIs P t v.cells.size = true) (h1 : ∀ u ∈ v.cells.toList, u.oneCell' = true) (hi : i + v.cells.size ≤ cs.length)
    (hk : ∀ w', Has w' B (cs.take i ++ v.cells.toList ++ cs.drop (i + v.cells.size)) e → Mo (fun b => b = B) w w' → k w') : Wu P (Instr.storeAt t (.pointer (some ⟨B, i, none⟩)) v) k w :=
  ⟨_, run_store_has hB hs h1 hi, hk _ (setRow_heap w B _ _ e _ hB) (Mo.setRow w B _)⟩

/-! ### Calls -/
theorem Cl_of {f : FuncId} {args : Array Value} {d : Sh} {k : d.T → World → Prop} {w : World} {R : Ending → World → Prop} (h : Calls P f args w R) (hk : ∀ e w', R e w' → ∃ x, e = .returned (d.enc x) ∧ k x w') : Cl P f args d k w :=
  Calls.mono h hk
theorem Cd_of {c : Bool} {A B : Prop} (h1 : c = true → A) (h2 : c = false → B) : Cd c A B := ⟨h1, h2⟩
theorem Cd_dec {p : Prop} [Decidable p] {A B : Prop} (h1 : p → A) (h2 : ¬ p → B) : Cd (decide p) A B := ⟨fun h => h1 (of_decide_eq_true h), fun h => h2 (of_decide_eq_false h)⟩
theorem Cd_eq {x y : Int} {A B : Prop} (h1 : x = y → A) (h2 : x ≠ y → B) : Cd (x == y) A B := ⟨fun h => h1 (by simpa using h), fun h => h2 (by simpa using h)⟩
theorem Cd_ne {x y : Int} {A B : Prop} (h1 : x ≠ y → A) (h2 : x = y → B) : Cd (x != y) A B := ⟨fun h => h1 (by simpa using h), fun h => h2 (by simpa using h)⟩
theorem bne_t {x y : Int} (h : (x != y) = true) : x ≠ y := by simpa using h
theorem bne_f {x y : Int} (h : (x != y) = false) : x = y := by simpa using h
theorem beq_t {x y : Int} (h : (x == y) = true) : x = y := by simpa using h
theorem beq_f {x y : Int} (h : (x == y) = false) : x ≠ y := by simpa using h
theorem Cd_not {c : Bool} {A B : Prop} (h1 : c = false → A) (h2 : c = true → B) : Cd (!c) A B := ⟨fun h => h1 (by simpa using h), fun h => h2 (by simpa using h)⟩
theorem Cd_t {A B : Prop} (h : A) : Cd true A B := ⟨fun _ => h, fun h => (by cases h)⟩
theorem Cd_f {A B : Prop} (h : B) : Cd false A B := ⟨fun h => (by cases h), fun _ => h⟩
theorem Held_of {w : World} {f : (World → Prop) → Prop} (S : World → Prop) (h : S w) (hf : f S) : Held w f := ⟨S, h, hf⟩
/-- as is usual: nothing that was there is changed -/
theorem Held_ex {w : World} {f : (World → Prop) → Prop} (hf : f (Ex w)) : Held w f := ⟨Ex w, Ex.refl w, hf⟩

/-! ### Slices that are read: elements of one cell each -/
def Rds {α : Type} (f : α → Value) (w : World) (s : Sl) (l : List α) : Prop :=
  s.len = l.length ∧ s.len ≤ s.cap ∧ ∀ i x, l[i]? = some x → ∃ a, s.base = some a ∧ w.cell? (a.add i) = some (f x)
theorem Addr.add_block (a : Addr) (n : Nat) : (a.add n).block = a.block := by unfold Addr.add; split <;> rfl
theorem Rds.mo {α : Type} {f : α → Value} {X : Nat → Prop} {w w' : World} {s : Sl} {l : List α} (h : Rds f w s l) (k : Mo X w w') (hx : ∀ a, s.base = some a → ¬ X a.block) : Rds f w' s l :=
  ⟨h.1, h.2.1, fun i x hi => by
    obtain ⟨a, ha, hc⟩ := h.2.2 i x hi
    exact ⟨a, ha, k.cell hc (by rw [Addr.add_block]; exact hx a ha)⟩⟩
theorem Rds.ex {α : Type} {f : α → Value} {w w' : World} {s : Sl} {l : List α} (h : Rds f w s l) (k : Ex w w') : Rds f w' s l := h.mo k (fun _ _ => id)
theorem Rds.nil {α : Type} (f : α → Value) (w : World) : Rds f w ⟨none, 0, 0⟩ [] := ⟨rfl, Nat.le_refl _, fun i x h => by simp at h⟩
theorem run_indexAt {t e : TypeId} {s : Sl} {ik : IntKind} {i : Int} {n : Nat} {a : Addr} {w : World} (ht : P.underlying t = some (.slice e)) (hs : sizeIs P e n = true) (ha : s.base = some a) (h0 : 0 ≤ i) (h1 : i < s.len) :
    (Instr.indexAt t (.slice s.base s.len s.cap) (.int ik i)).run P w = .ok (.pointer (some (a.add (i.toNat * n)))) w := by
  have hsz := run_sizeOf hs
  simp [Instr.indexAt, asIntOf, run_underlying ht, ha, h0, h1, hsz]
theorem Pu_idx {α : Type} {f : α → Value} {t e : TypeId} {s : Sl} {l : List α} {ik : IntKind} {i : Int} {k : Addr → World → Prop} {w : World} (hr : Rds f w s l) (ht : P.underlying t = some (.slice e)) (hs : sizeIs P e 1 = true)
    (h0 : 0 ≤ i) (h1 : i < l.length) (hk : ∀ a x, l[i.toNat]? = some x → w.cell? a = some (f x) → s.base.map (·.block) = some a.block → k a w) :
    Pu P (Instr.indexAt t (.slice s.base s.len s.cap) (.int ik i)) (.one (.at .addr)) k w := by
  have hlt : i.toNat < l.length := by omega
  obtain ⟨a, ha, hc⟩ := hr.2.2 i.toNat _ (List.getElem?_eq_getElem hlt)
  refine ⟨a.add i.toNat, fun w' => ?_, hk _ _ (List.getElem?_eq_getElem hlt) hc (by rw [ha]; simp [Addr.add_block])⟩
  have := run_indexAt (P := P) (ik := ik) (w := w') ht hs ha h0 (by rw [hr.1]; exact h1)
  rw [Nat.mul_one] at this
  exact this
theorem run_sliceAt {t e : TypeId} {s : Sl} {lo hi : Option Value} {l h n : Nat} {w : World} (ht : P.underlying t = some (.slice e)) (hs : sizeIs P e n = true)
    (hlo : (lo = none ∧ l = 0) ∨ ∃ k, lo = some (.int k l)) (hhi : (hi = none ∧ h = s.len) ∨ ∃ k, hi = some (.int k h)) (h1 : l ≤ h) (h2 : h ≤ s.cap) :
    (Instr.sliceAt t (.slice s.base s.len s.cap) lo hi none).run P w = .ok (.slice (if s.cap = l then s.base else s.base.map (·.add (l * n))) (h - l) (s.cap - l)) w := by
  have hsz := run_sizeOf hs
  rcases hlo with ⟨rfl, rfl⟩ | ⟨k1, rfl⟩ <;> rcases hhi with ⟨rfl, rfl⟩ | ⟨k2, rfl⟩ <;>
    simp [Instr.sliceAt, Instr.slice, Instr.sliceBounds, Instr.sliceBound, run_underlying ht, asIntOf, hsz, h1, h2] <;> omega
theorem Rds.slice {α : Type} {f : α → Value} {w : World} {s : Sl} {l : List α} (hr : Rds f w s l) {lo hi : Nat} (h1 : lo ≤ hi) (h2 : hi ≤ l.length) :
    Rds f w ⟨if s.cap = lo then s.base else s.base.map (·.add lo), hi - lo, s.cap - lo⟩ ((l.take hi).drop lo) := by
  have hc := hr.2.1
  have hl := hr.1
  refine ⟨by simp; omega, by simp only; omega, fun i x hi' => ?_⟩
  rw [List.getElem?_drop, List.getElem?_take] at hi'
  split at hi'
  · rename_i hlt
    obtain ⟨a, ha, hcell⟩ := hr.2.2 _ _ hi'
    simp only
    rw [if_neg (by omega), ha]
    exact ⟨_, rfl, by rw [Addr.add_add]; exact hcell⟩
  · cases hi'
theorem Pu_slice {α : Type} {f : α → Value} {t e : TypeId} {s : Sl} {l : List α} {lo hi : Option Value} (a b : Nat) {k : Sl → World → Prop} {w : World} (hr : Rds f w s l) (ht : P.underlying t = some (.slice e)) (hs : sizeIs P e 1 = true)
    (hlo : (lo = none ∧ a = 0) ∨ ∃ k, lo = some (.int k a)) (hhi : (hi = none ∧ b = l.length) ∨ ∃ k, hi = some (.int k b)) (h1 : a ≤ b) (h2 : b ≤ l.length)
    (hk : ∀ s', (∀ w', Rds f w' s l → Rds f w' s' ((l.take b).drop a)) → s'.len = b - a → s'.cap = s.cap - a → (∀ x, s'.base = some x → ∃ y, s.base = some y ∧ x.block = y.block) → k s' w) :
    Pu P (Instr.sliceAt t (.slice s.base s.len s.cap) lo hi none) (.one (.at .sl)) k w := by
  have hc := hr.2.1
  have hl := hr.1
  refine ⟨⟨if s.cap = a then s.base else s.base.map (·.add a), b - a, s.cap - a⟩, fun w' => ?_, hk _ (fun w' h => h.slice h1 h2) rfl rfl ?_⟩
  · have := run_sliceAt (P := P) (s := s) (w := w') (l := a) (h := b) ht hs hlo (by rw [hl]; exact hhi) h1 (by omega)
    rw [Nat.mul_one] at this
    exact this
  · intro x hx
    simp only at hx
    split at hx
    · exact ⟨x, hx, rfl⟩
    · cases hb : s.base with
      | none => rw [hb] at hx; cases hx
      | some y => rw [hb] at hx; cases hx; exact ⟨y, rfl, Addr.add_block y a⟩

/-! ### Slices of the call's own -/
def Own {α : Type} (f : α → Value) (e : TypeId) (base : Nat) (w : World) (s : Sl) (l : List α) : Prop :=
  s.len = l.length ∧ w.ownsRow base e 1 (.slice s.base s.len s.cap) s.len (l.map f)
def SlIn (s : Sl) (b : Nat) : Prop := ∃ a, s.base = some a ∧ a.block = b
theorem Own.nil {α : Type} (f : α → Value) (e : TypeId) (base : Nat) (w : World) : Own f e base w ⟨none, 0, 0⟩ [] := ⟨rfl, World.ownsRow_nil w base e 1⟩
theorem Own.base {α : Type} {f : α → Value} {e : TypeId} {base : Nat} {w : World} {s : Sl} {l : List α} (h : Own f e base w s l) : ∀ b, SlIn s b → base ≤ b ∧ b < w.heap.size := by
  intro b ⟨a, ha, hb⟩
  exact h.2.lt b (by simp [Value.ownBlock, ha, hb])
theorem Own.rds {α : Type} {f : α → Value} {e : TypeId} {base : Nat} {w : World} {s : Sl} {l : List α} (h : Own f e base w s l) : Rds f w s l := by
  obtain ⟨h1, h2⟩ := h
  obtain ⟨sb, sl, sc⟩ := s
  simp only at h1 h2
  refine ⟨h1, ?_, fun i x hi => ?_⟩
  · rcases h2.2 with ⟨e, _⟩ | ⟨g, cap, cur, e, _, _, hc, _⟩
    · cases e; exact Nat.le_refl _
    · cases e; exact hc
  · have hx : (l.map f)[i]? = some (f x) := by simp [hi]
    rcases h2.2 with ⟨e, e'⟩ | ⟨g, cap, cur, e, r⟩
    · cases e
      have : l = [] := List.eq_nil_of_length_eq_zero (by omega)
      subst this; simp at hi
    · cases e
      exact ⟨_, rfl, h2.cells (g := g) rfl i _ hx⟩
theorem Own.mo {α : Type} {f : α → Value} {e : TypeId} {base : Nat} {X : Nat → Prop} {w w' : World} {s : Sl} {l : List α} (h : Own f e base w s l) (k : Mo X w w') (hx : ∀ b, SlIn s b → ¬ X b) : Own f e base w' s l := by
  refine ⟨h.1, h.2.1, ?_⟩
  rcases h.2.2 with h2 | ⟨g, cap, cur, e1, hb, hg, r⟩
  · exact .inl h2
  · refine .inr ⟨g, cap, cur, e1, hb, ?_, r⟩
    have hlt : g < w.heap.size := by
      rcases Nat.lt_or_ge g w.heap.size with h' | h'
      · exact h'
      · rw [Array.getElem?_eq_none h'] at hg; cases hg
    rw [k.keep g hlt (hx g ⟨⟨g, 0, none⟩, by injection e1, rfl⟩)]
    exact hg
theorem Own.ex {α : Type} {f : α → Value} {e : TypeId} {base : Nat} {w w' : World} {s : Sl} {l : List α} (h : Own f e base w s l) (k : Ex w w') : Own f e base w' s l := h.mo k (fun _ _ => id)
theorem Own.weak {α : Type} {f : α → Value} {e : TypeId} {base base' : Nat} {w : World} {s : Sl} {l : List α} (h : Own f e base w s l) (hb : base' ≤ base) : Own f e base' w s l := by
  refine ⟨h.1, h.2.1, ?_⟩
  rcases h.2.2 with h2 | ⟨g, cap, cur, e1, hb', r⟩
  · exact .inl h2
  · exact .inr ⟨g, cap, cur, e1, Nat.le_trans hb hb', r⟩
theorem ownBlock_in {s : Sl} {b : Nat} : some b = (Value.slice s.base s.len s.cap).ownBlock ↔ SlIn s b := by
  unfold SlIn
  cases hb : s.base with
  | none => simp [Value.ownBlock]
  | some a => simp [Value.ownBlock, eq_comm]
theorem ownsRow_grown {w : World} {base n cap : Nat} {e : TypeId} {xs : List Value} {rest : Array Value} (hb : base ≤ w.heap.size) (hn : xs.length = n) (hc : n ≤ cap) (hm : cap ≤ maxLen) (hr : rest.size = cap - n) :
    (w.alloc (.cells (xs.toArray ++ rest) e)).ownsRow base e 1 (.slice (some ⟨w.heap.size, 0, none⟩) n cap) n xs := by
  refine ⟨by rw [Nat.mul_one]; exact hn, .inr ⟨w.heap.size, cap, _, rfl, hb, heap_alloc_new w _, hc, hm, ?_, ?_⟩⟩
  · simp [hn, hr]; omega
  · rw [Nat.mul_one, ← hn]; simp
/-- append to a slice of one's own: the slice lies where it lay, or in a new block -/
theorem Wr_append {α : Type} {f : α → Value} {t ty e : TypeId} {base : Nat} {s x : Sl} {l m : List α} {z : Value} {bytes : Nat} {k : Sl → World → Prop} {w : World}
    (ht : P.underlying t = some (.slice e)) (hi : (P.info? e).map (fun i => (i.zero, i.size, i.bytes)) = some (some z, 1, bytes)) (hz : z.cells.size = 1)
    (hown : Own f e base w s l) (hr : Rds f w x m) (h1 : ∀ y, (f y).oneCell' = true) (h63 : l.length + m.length ≤ 140737488355328) (hbytes : (l.length + m.length) * bytes ≤ 140737488355328) (hbase : base ≤ w.heap.size)
    (hk : ∀ s' w', Own f e base w' s' (l ++ m) → Mo (SlIn s) w w' → (∀ b, SlIn s' b → SlIn s b ∨ w.heap.size ≤ b) → k s' w') :
    Wr P (Builtin.append_ #[t, t] ty #[.slice s.base s.len s.cap, .slice x.base x.len x.cap]) (.one (.at .sl)) k w := by
  obtain ⟨i, hi0, hz0, hs0, hb0⟩ := info_parts hi
  subst hb0
  have hml : maxLen = 9223372036854775807 := rfl
  obtain ⟨sb, sl, sc⟩ := s
  obtain ⟨xb, xl, xc⟩ := x
  have hsl : sl = l.length := hown.1
  have hxl : xl = m.length := hr.1
  have hcap : sl ≤ sc := hown.rds.2.1
  subst hsl hxl
  have hnews : ∀ a, xb = some a → ∀ j u, (m.map f)[j]? = some u → w.cell? (a.add j) = some u := by
    intro a ha j u hj
    simp only [List.getElem?_map] at hj
    cases hmj : m[j]? with
    | none => rw [hmj] at hj; cases hj
    | some y =>
      rw [hmj] at hj; cases hj
      obtain ⟨a', ha', hc⟩ := hr.2.2 j y hmj
      simp only [ha] at ha'; cases ha'; exact hc
  have hu1 : ∀ u ∈ m.map f, u.oneCell' = true := fun u hu => by obtain ⟨y, _, rfl⟩ := List.mem_map.1 hu; exact h1 y
  have hnone : xb = none → m = [] := fun hx => by
    cases m with
    | nil => rfl
    | cons y r => obtain ⟨a, ha, _⟩ := hr.2.2 0 y rfl; simp only [hx] at ha; cases ha
  have same : m = [] → (Builtin.append_ #[t, t] ty #[.slice sb l.length sc, .slice xb m.length xc]).run P w = .ok (.slice sb l.length sc) w := by
    intro hm; subst hm
    have hl0 : ∀ a : Addr, (loadCells a 0).run P w = .ok #[] w := fun a => by simpa using run_loadCells_list (P := P) w a [] (by simp)
    cases sb <;> cases xb <;> simp [Builtin.append_, run_underlying ht, sizeOf, typeInfo, hi0, hs0, Builtin.lenOf, Builtin.firstCells, hcap, storeCells, hl0]
  by_cases hm : m = []
  · subst hm
    exact ⟨⟨sb, l.length, sc⟩, w, same rfl, hk _ _ (by simpa using hown) (Mo.refl _ _) (fun b hb => .inl hb)⟩
  · obtain ⟨a, rfl⟩ : ∃ a, xb = some a := by
      cases xb with
      | none => exact absurd (hnone rfl) hm
      | some a => exact ⟨a, rfl⟩
    have hmpos : 0 < m.length := List.length_pos_iff.2 hm
    have hge : ∀ old, l.length + m.length ≤ grownCap w (l.length + m.length) old e := fun old => grownCap_ge w _ old e
    have hle : ∀ old, grownCap w (l.length + m.length) old e ≤ maxLen := fun old => grownCap_le_maxLen w _ old e (by rw [hml]; omega)
    have fin : ∀ old, (Builtin.append_ #[t, t] ty #[.slice sb l.length sc, .slice (some a) m.length xc]).run P w = .ok (.slice (some ⟨w.heap.size, 0, none⟩) (l.length + m.length) (grownCap w (l.length + m.length) old e))
        (w.drew.alloc (.cells ((l.map f).toArray ++ (m.map f).toArray ++ Builtin.zeroCells z.cells (grownCap w (l.length + m.length) old e - (l.length + m.length))) e)) →
        Wr P (Builtin.append_ #[t, t] ty #[.slice sb l.length sc, .slice (some a) m.length xc]) (.one (.at .sl)) k w := by
      intro old hrun
      refine ⟨⟨some ⟨w.heap.size, 0, none⟩, _, _⟩, _, hrun, hk _ _ ⟨by simp, ?_⟩ ?_ (fun b hb => .inr ?_)⟩
      · have hxs : (l.map f).toArray ++ (m.map f).toArray = ((l ++ m).map f).toArray := by simp
        rw [hxs]
        exact ownsRow_grown (w := w.drew) hbase (by simp) (hge old) (hle old) ((size_zeroCells _ _).trans (by rw [hz]; exact Nat.mul_one _))
      · exact ((Ex.drew w).trans (Ex.alloc w.drew _)).weak (fun _ _ h => h.elim)
      · obtain ⟨a', ha', hb'⟩ := hb
        cases ha'; exact Nat.le_of_eq hb'
    rcases hown.2.2 with ⟨e1, e2⟩ | ⟨g, cap, cur, e1, hbg, hg, hnc, hcm, hcs, htake⟩
    · have hl : l = [] := List.eq_nil_of_length_eq_zero e2
      subst hl
      cases e1
      refine fin 0 ?_
      have := run_append_nil (P := P) w t ty e i z ht hi0 hz0 a m.length xc (m.map f) (by simp [hs0]) (hnews a rfl) hmpos (by simp at h63; omega) (by simp at hbytes; omega)
      simpa using this
    · cases e1
      by_cases hroom : l.length + m.length ≤ sc
      · have hfit : l.length * i.size + (m.map f).length ≤ cur.size := by rw [hs0, hcs, Nat.mul_one, Nat.mul_one, List.length_map]; exact hroom
        have hrun := run_append_room (P := P) w t ty e i ht hi0 g l.length sc cur hg a m.length xc (m.map f) (by simp [hs0]) (hnews a rfl) hu1 hroom hfit
        refine ⟨⟨some ⟨g, 0, none⟩, _, sc⟩, _, hrun, hk _ _ ⟨by simp, by simp, .inr ⟨g, sc, _, rfl, hbg, setRow_heap w g cur _ e _ hg, hroom, hcm, ?_, ?_⟩⟩ ?_ (fun b hb => .inl hb)⟩
        · simp only [hs0, Nat.mul_one, List.size_toArray, List.length_append, List.length_take, List.length_drop, Array.length_toList, List.length_map] at hcs ⊢
          omega
        · simp only [hs0, Nat.mul_one] at htake ⊢
          rw [htake]
          simp only [List.map_append, List.append_assoc]
          rw [show l.length + m.length = (List.map f l ++ List.map f m).length by simp, ← List.append_assoc]
          exact List.take_left
        · exact (Mo.setRow w g _).weak (fun b _ hb => ⟨_, rfl, hb.symm⟩)
      · refine fin sc ?_
        have holds : ∀ j u, (l.map f)[j]? = some u → w.cell? ((⟨g, 0, none⟩ : Addr).add j) = some u := hown.2.cells (g := g) rfl
        exact run_append_grow (P := P) w t ty e i z ht hi0 hz0 ⟨g, 0, none⟩ l.length sc (l.map f) (by simp [hs0]) holds a m.length xc (m.map f) (by simp [hs0]) (hnews a rfl) (by omega) (by omega) (growslice_fits (by omega) hbytes)
end
end Go.Cu
