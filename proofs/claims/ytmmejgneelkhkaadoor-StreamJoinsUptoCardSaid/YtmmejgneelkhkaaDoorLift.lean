/- The lift: what a function's code comes to, as a sentence over plain values, and that the walk of the code follows from it. -/
import Derived.Calls
import Derived.Orders
import Derived.OrdersHeld
import Derived.KernelRfl
import Derived.Scope
set_option linter.all false
namespace Go.Cu
open Go

/-! ### Kinds of values -/
inductive At where
  | int (k : IntKind) | bool | str | sl | ptr | addr | map | any
  deriving DecidableEq, Inhabited
structure Sl where
  base : Option Addr
  len : Nat
  cap : Nat
@[reducible] def At.T : At → Type
  | .int _ => Int | .bool => Bool | .str => ByteArray | .sl => Sl | .ptr => Option Addr | .addr => Addr | .map => Option Nat | .any => Value
def At.enc : (a : At) → a.T → Value
  | .int k, n => .int k n
  | .bool, b => .bool b
  | .str, s => .string s
  | .sl, s => .slice s.base s.len s.cap
  | .ptr, a => .pointer a
  | .addr, a => .pointer (some a)
  | .map, r => .map r
  | .any, v => v
def kEq : IntKind → IntKind → Bool
  | .i8, .i8 | .i16, .i16 | .i32, .i32 | .i64, .i64 | .u8, .u8 | .u16, .u16 | .u32, .u32 | .u64, .u64 => true
  | _, _ => false
theorem kEq_eq {a b : IntKind} (h : kEq a b = true) : a = b := by cases a <;> cases b <;> first | rfl | cases h
def At.dec : (a : At) → Value → Option a.T
  | .int k, .int k' n => match kEq k k' with | true => some n | false => none
  | .bool, .bool b => some b
  | .str, .string s => some s
  | .sl, .slice b n c => some ⟨b, n, c⟩
  | .ptr, .pointer a => some a
  | .addr, .pointer (some a) => some a
  | .map, .map r => some r
  | .any, v => some v
  | _, _ => none
theorem At.enc_dec {a : At} {v : Value} {x : a.T} (h : a.dec v = some x) : a.enc x = v := by
  cases a with
  | int k =>
    cases v <;> simp only [At.dec] at h <;> try cases h
    rename_i k' n
    cases e : kEq k k' <;> rw [e] at h <;> simp only at h <;> cases h
    rw [kEq_eq e]; rfl
  | addr =>
    cases v <;> simp only [At.dec] at h <;> try cases h
    rename_i p
    cases p <;> simp only [At.dec] at h <;> cases h
    rfl
  | any => simp only [At.dec] at h; cases h; rfl
  | _ => cases v <;> simp only [At.dec] at h <;> cases h <;> rfl
@[reducible] def Ats : List At → Type
  | [] => Unit
  | a :: r => a.T × Ats r
def encAts : (l : List At) → Ats l → List Value
  | [], _ => []
  | a :: r, x => a.enc x.1 :: encAts r x.2
def decAts : (l : List At) → List Value → Option (Ats l)
  | [], [] => some ()
  | a :: r, v :: vs => match a.dec v with
    | some x => match decAts r vs with
      | some y => some (x, y)
      | none => none
    | none => none
  | _, _ => none
theorem enc_decAts : ∀ {l : List At} {vs : List Value} {x : Ats l}, decAts l vs = some x → encAts l x = vs
  | [], [], _, _ => rfl
  | [], _ :: _, _, h => by cases h
  | _ :: _, [], _, h => by cases h
  | a :: r, v :: vs, x, h => by
    simp only [decAts] at h
    cases ha : a.dec v with
    | none => rw [ha] at h; cases h
    | some y =>
      rw [ha] at h
      cases hr : decAts r vs with
      | none => rw [hr] at h; cases h
      | some z => rw [hr] at h; cases h; simp only [encAts]; rw [At.enc_dec ha, enc_decAts hr]
inductive Cx where
  | at (a : At) | agg (l : List At)
  deriving Inhabited
@[reducible] def Cx.T : Cx → Type
  | .at a => a.T
  | .agg l => Ats l
def Cx.enc : (c : Cx) → c.T → Value
  | .at a, x => a.enc x
  | .agg l, x => .agg (encAts l x).toArray
def Cx.dec : (c : Cx) → Value → Option c.T
  | .at a, v => a.dec v
  | .agg l, .agg cs => decAts l cs.toList
  | .agg _, _ => none
theorem Cx.enc_dec {c : Cx} {v : Value} {x : c.T} (h : c.dec v = some x) : c.enc x = v := by
  cases c with
  | «at» a => exact At.enc_dec h
  | agg l =>
    cases v <;> simp only [Cx.dec] at h <;> try cases h
    simp only [Cx.enc]; rw [enc_decAts h]
@[reducible] def Cxs : List Cx → Type
  | [] => Unit
  | a :: r => a.T × Cxs r
def encCxs : (l : List Cx) → Cxs l → List Value
  | [], _ => []
  | a :: r, x => a.enc x.1 :: encCxs r x.2
/-- a result: one value, or several -/
inductive Sh where
  | one (c : Cx) | tup (l : List Cx) | nxt (a b : At)
  deriving Inhabited
@[reducible] def Sh.T : Sh → Type
  | .one c => c.T
  | .tup l => Cxs l
  | .nxt a b => Option (a.T × b.T)
def Sh.enc : (s : Sh) → s.T → Value
  | .one c, x => c.enc x
  | .tup l, x => .tuple (encCxs l x).toArray
  | .nxt a b, x => .tuple ⟨.bool x.isSome :: (match x with | some (k, v) => [a.enc k, b.enc v] | none => [])⟩

/-! ### What is known of a frame's slots -/
abbrev Env := List (Nat × Value)
def find : Env → Nat → Option Value
  | [], _ => none
  | (j, v) :: r, i => match Nat.beq j i with
    | true => some v
    | false => find r i
def ev (L : Env) : Operand → Option Value
  | .tmp t => find L t
  | .const v => some v
  | .global g => some (.pointer (some ⟨g, 0, none⟩))
  | .func f => some (.func (.func f) #[] #[])
def evD (L : Env) (x : Operand) : Value := match ev L x with
  | some v => v
  | none => undef
structure Slots (n : Nat) (a : Act) (L : Env) : Prop where
  size : a.tmps.size = n
  defers : a.defers = []
  vals : ∀ i v, find L i = some v → i < n ∧ a.tmps[i]? = some v
theorem Slots.ev {n : Nat} {a : Act} {L : Env} (h : Slots n a L) {x : Operand} {v : Value} (hx : ev L x = some v) : a.eval x = v := by
  cases x with
  | tmp t =>
    have := (h.vals t v hx).2
    simp only [Act.eval, Array.getD_eq_getD_getElem?, this, Option.getD_some]
  | const u => exact Option.some.inj hx
  | global g => exact Option.some.inj hx
  | func f => exact Option.some.inj hx
def push (n : Nat) (d : Option Tmp) (v : Value) (L : Env) : Env := match d with
  | some t => (t, v) :: L
  | none => L
theorem Slots.put {n : Nat} {a : Act} {L : Env} (h : Slots n a L) (d : Option Tmp) (v : Value) (hd : ∀ t, d = some t → t < n) : Slots n (a.put d v) (push n d v L) := by
  cases d with
  | none => exact h
  | some t =>
    have ht := hd t rfl
    refine ⟨by simp [Act.put, h.size], by simp [Act.put, h.defers], fun i u hu => ?_⟩
    simp only [push, find] at hu
    cases hb : Nat.beq t i with
    | true =>
      rw [hb] at hu; simp only at hu
      have e : t = i := Nat.eq_of_beq_eq_true hb
      subst e
      cases hu
      exact ⟨ht, by simp [Act.put, h.size, ht]⟩
    | false =>
      rw [hb] at hu; simp only at hu
      have e : t ≠ i := Nat.ne_of_beq_eq_false hb
      obtain ⟨h1, h2⟩ := h.vals i u hu
      exact ⟨h1, by simp [Act.put, Array.getElem?_setIfInBounds_ne e, h2]⟩
/-- a slot that is known to hold a Bool holds what the Bool has been found to be -/
theorem Slots.refine {n : Nat} {a : Act} {L : Env} (h : Slots n a L) {t : Nat} {c b : Bool} (hf : find L t = some (.bool c)) (hb : c = b) : Slots n a ((t, .bool b) :: L) := by
  subst hb
  refine ⟨h.size, h.defers, fun i u hu => ?_⟩
  simp only [find] at hu
  cases e : Nat.beq t i with
  | true =>
    rw [e] at hu; simp only at hu; cases hu
    have e' : t = i := Nat.eq_of_beq_eq_true e
    subst e'
    exact h.vals _ _ hf
  | false => rw [e] at hu; simp only at hu; exact h.vals i u hu

/-! ### States at joins and loops: some slots, by their kinds -/
@[reducible] def St : List (Nat × Cx) → Type
  | [] => Unit
  | (_, c) :: r => c.T × St r
def encS : (l : List (Nat × Cx)) → St l → Env
  | [], _ => []
  | (i, c) :: r, x => (i, c.enc x.1) :: encS r x.2
def projS : (l : List (Nat × Cx)) → Env → Option (St l)
  | [], _ => some ()
  | (i, c) :: r, L => match find L i with
    | some v => match c.dec v with
      | some x => match projS r L with
        | some y => some (x, y)
        | none => none
      | none => none
    | none => none
theorem find_encS : ∀ {l : List (Nat × Cx)} {L : Env} {s : St l}, projS l L = some s → ∀ i v, find (encS l s) i = some v → find L i = some v
  | [], _, _, _, _, _, h => by cases h
  | (j, c) :: r, L, s, hp, i, v, h => by
    simp only [projS] at hp
    cases hf : find L j with
    | none => rw [hf] at hp; cases hp
    | some u =>
      rw [hf] at hp
      cases hd : c.dec u with
      | none => simp only [hd] at hp; cases hp
      | some x =>
        simp only [hd] at hp
        cases hr : projS r L with
        | none => simp only [hr] at hp; cases hp
        | some y =>
          simp only [hr] at hp; cases hp
          simp only [encS, find] at h
          cases hb : Nat.beq j i with
          | true =>
            rw [hb] at h; simp only at h; cases h
            have e : j = i := Nat.eq_of_beq_eq_true hb
            subst e
            rw [Cx.enc_dec hd]; exact hf
          | false => rw [hb] at h; simp only at h; exact find_encS hr i v h
theorem Slots.proj {n : Nat} {a : Act} {L : Env} {l : List (Nat × Cx)} {s : St l} (h : Slots n a L) (hp : projS l L = some s) : Slots n a (encS l s) :=
  ⟨h.size, h.defers, fun i v hv => h.vals i v (find_encS hp i v hv)⟩
end Go.Cu
