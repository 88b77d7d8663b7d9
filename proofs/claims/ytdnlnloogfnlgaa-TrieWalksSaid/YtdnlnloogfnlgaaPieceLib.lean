/- Pieces of a body: the loop's body, and a block that is left by its number. -/
import Derived.Test.YtdnlnloogfnlgaaLiftR
import Derived.OrdersIn
set_option linter.all false
namespace Go.Cu
open Go
def cP : Code → Code
  | .loop x => x
  | _ => .skip
def cT : Code → Code
  | .cond _ x _ => x
  | _ => .skip
def exitQ (id : Nat) (l : List (Nat × Cx)) (X : St l → World → Prop) (Q : Post) : Post := fun e L w =>
  match e with
  | .exit j => match Nat.beq j id with
    | true => projK l X L w
    | false => Q (.exit j) L w
  | e => Q e L w
/-! ### A drawing region, every order told apart -/
def tagAt : List Tag → Nat → Tag
  | t :: _, 0 => t
  | _ :: r, n + 1 => tagAt r n
  | [], _ => .now
def allA : List Nat → (Nat → Prop) → Prop
  | [], _ => True
  | [i], p => p i
  | i :: r, p => p i ∧ allA r p
theorem allA_mem : ∀ {l : List Nat} {p : Nat → Prop}, allA l p → ∀ i ∈ l, p i
  | [], _, _, i, hi => by cases hi
  | [j], p, h, i, hi => by obtain rfl := List.mem_singleton.1 hi; exact h
  | j :: k :: r, p, h, i, hi => by
    rcases List.mem_cons.1 hi with rfl | hi
    · exact h.1
    · exact allA_mem h.2 i hi
def liftA (P : Program) (n : Nat) (ops : Array Oper) (tags : List Tag) (K : Env → World → Prop) : Nat → Array Bool → Env → World → Prop
  | 0, b, L, w => match Region.ready .any ops b with
    | [] => K L w
    | _ => False
  | f + 1, b, L, w => match Region.ready .any ops b with
    | [] => K L w
    | x :: r => allA (x :: r) fun i => match ops[i]? with
      | none => False
      | some o => match gd ops o L with
        | some true => opKR P n o (tagAt tags i) L (fun v w' => liftA P n ops tags K f (b.setIfInBounds i true) (push n o.dst v L) w') w
        | _ => False
theorem liftA_sound {P : Program} {ds : List Deferred} {n m : Nat} {r : Option Nat} {ops : Array Oper} {tags : List Tag} {K : Env → World → Prop} {Q : Exit → Act → World → Prop} (hq : ∀ a L w, SlotsD ds n a L → K L w → Q .normal a w) :
    ∀ (f : Nat) (b : Array Bool) (L : Env) (a : Act) (w : World), SlotsD ds n a L → liftA P n ops tags K f b L w → wpAnyIn (FR r) m P .any ops Q f b a w := by
  intro f
  induction f with
  | zero =>
    intro b L a w hs h
    unfold liftA at h
    unfold wpAnyIn
    cases hr : Region.ready .any ops b with
    | nil => rw [hr] at h; exact ⟨rfl, hq _ _ _ hs h⟩
    | cons x xs => rw [hr] at h; exact h.elim
  | succ f ih =>
    intro b L a w hs h
    unfold liftA at h
    unfold wpAnyIn
    cases hr : Region.ready .any ops b with
    | nil => rw [hr] at h; exact ⟨fun _ => hq _ _ _ hs h, fun i hi => by cases hi⟩
    | cons x xs =>
      rw [hr] at h
      refine ⟨fun h0 => (by cases h0), fun i hi => ?_⟩
      have hp := allA_mem h i hi
      unfold wpOpIn
      cases ho : ops[i]? with
      | none => rw [ho] at hp; exact hp.elim
      | some o =>
        rw [ho] at hp; simp only at hp
        cases hg : gd ops o L with
        | none => rw [hg] at hp; exact hp.elim
        | some g =>
          rw [hg] at hp
          cases g <;> simp only at hp
          simp only [gd_wanted hs.base hg, if_true]
          exact opKR_sound hs hp fun v w' hv => ih _ _ _ w' (hs.put o.dst v (opKR_dst hp)) hv
def cO : Code → Array Oper
  | .region _ ops _ => ops
  | _ => #[]
end Go.Cu
