/- What a world holds, thing by thing, each thing in blocks of its own. -/
import Derived.Test.YtmmejgneelkhkaaDoorGrowLib
set_option linter.all false
namespace Go.Cu
open Go Go.RowKit
/-- a thing: what a world holds in some blocks, whatever happens elsewhere -/
structure Th where
  h : World → (Nat → Prop) → Prop
  fr : ∀ {w w' : World} {X F : Nat → Prop}, h w F → Mo X w w' → (∀ b, F b → ¬ X b) → h w' F
def Th.none : Th := ⟨fun _ _ => True, fun _ _ _ => trivial⟩
inductive Ky where
  | ps (i : Nat) | pk (i : Nat) | rs (i : Nat) | rk (i : Nat) | tm (i : Nat) | bx (i : Nat)
  deriving DecidableEq
abbrev Ths := Ky → Th
def Ths.up (T : Ths) (k : Ky) (t : Th) : Ths := fun j => if j = k then t else T j
theorem Ths.up_same (T : Ths) (k : Ky) (t : Th) : T.up k t k = t := if_pos rfl
theorem Ths.up_ne (T : Ths) {j k : Ky} (t : Th) (h : j ≠ k) : T.up k t j = T j := if_neg h
theorem Ths.up_id (T : Ths) (k : Ky) : T.up k (T k) = T := by
  funext j; unfold Ths.up; split
  · rename_i h; rw [h]
  · rfl
theorem Ths.up_up (T : Ths) (k : Ky) (t u : Th) : (T.up k t).up k u = T.up k u := by
  funext j; unfold Ths.up; split <;> rfl
theorem Ths.up_comm (T : Ths) {j k : Ky} (t u : Th) (h : j ≠ k) : (T.up k t).up j u = (T.up j u).up k t := by
  funext i; unfold Ths.up; split
  · rename_i e; subst e; rw [if_neg h]
  · rfl
structure Sep (W0 w : World) (T : Ths) : Prop where
  mo : Mo (fun b => W0.heap.size ≤ b) W0 w
  ex : ∃ F : Ky → Nat → Prop, (∀ k, (T k).h w (F k)) ∧ (∀ k b, F k b → W0.heap.size ≤ b ∧ b < w.heap.size) ∧ ∀ k j b, k ≠ j → F k b → ¬ F j b
theorem Sep.init (W : World) : Sep W W (fun _ => Th.none) := ⟨Mo.refl _ _, fun _ _ => False, fun _ => trivial, fun _ _ h => h.elim, fun _ _ _ _ h => h.elim⟩
theorem Sep.get {W0 w : World} {T : Ths} {t : Th} (h : Sep W0 w T) (k : Ky) (hk : T k = t) : ∃ F : Nat → Prop, t.h w F ∧ (∀ b, F b → W0.heap.size ≤ b ∧ b < w.heap.size) ∧
    ∀ (w' : World) (t' : Th) (G : Nat → Prop), Mo F w w' → t'.h w' G → (∀ b, G b → F b ∨ (w.heap.size ≤ b ∧ b < w'.heap.size)) → Sep W0 w' (T.up k t') := by
  obtain ⟨hm, F, h1, h2, h3⟩ := h
  refine ⟨F k, hk ▸ h1 k, h2 k, fun w' t' G m ht hG => ⟨Mo.trans hm m (fun _ => id) (fun i _ hi => (h2 k i hi).1), fun j => if j = k then G else F j, fun j => ?_, fun j b hb => ?_, fun i j b hij hi hj => ?_⟩⟩
  · unfold Ths.up
    dsimp only
    by_cases e : j = k
    · rw [if_pos e, if_pos e]; exact ht
    · rw [if_neg e, if_neg e]; exact (T j).fr (h1 j) m (fun b hb hb' => h3 j k b e hb hb')
  · dsimp only at hb
    by_cases e : j = k
    · rw [if_pos e] at hb
      rcases hG b hb with h | h
      · exact ⟨(h2 k b h).1, Nat.lt_of_lt_of_le (h2 k b h).2 m.size⟩
      · exact ⟨Nat.le_trans hm.size h.1, h.2⟩
    · rw [if_neg e] at hb
      exact ⟨(h2 j b hb).1, Nat.lt_of_lt_of_le (h2 j b hb).2 m.size⟩
  · dsimp only at hi hj
    by_cases e : i = k
    · rw [if_pos e] at hi
      rw [if_neg (fun e' => hij (e.trans e'.symm))] at hj
      rcases hG b hi with h | h
      · exact h3 k j b (fun e' => hij (e.trans e')) h hj
      · exact absurd (h2 j b hj).2 (by omega)
    · rw [if_neg e] at hi
      by_cases e' : j = k
      · rw [if_pos e'] at hj
        rcases hG b hj with h | h
        · exact h3 i k b e hi h
        · exact absurd (h2 i b hi).2 (by omega)
      · rw [if_neg e'] at hj
        exact h3 i j b hij hi hj
theorem Sep.apart {W0 w : World} {T : Ths} (h : Sep W0 w T) {k j : Ky} (hkj : k ≠ j) : ∃ F G : Nat → Prop, (T k).h w F ∧ (T j).h w G ∧ ∀ b, F b → ¬ G b := by
  obtain ⟨_, F, h1, _, h3⟩ := h
  exact ⟨F k, F j, h1 k, h1 j, fun b => h3 k j b hkj⟩
theorem Sep.exx {W0 w w' : World} {T : Ths} (h : Sep W0 w T) (x : Ex w w') : Sep W0 w' T := by
  obtain ⟨hm, F, h1, h2, h3⟩ := h
  exact ⟨hm.ex x, F, fun k => (T k).fr (h1 k) x (fun _ _ => id), fun k b hb => ⟨(h2 k b hb).1, Nat.lt_of_lt_of_le (h2 k b hb).2 x.size⟩, h3⟩
theorem Sep.drop {W0 w : World} {T : Ths} (h : Sep W0 w T) (k : Ky) : Sep W0 w (T.up k Th.none) := by
  obtain ⟨F, _, _, hc⟩ := h.get k rfl
  exact hc w Th.none (fun _ => False) (Mo.refl _ _) trivial (fun _ h => h.elim)
theorem Sep.new {W0 w w' : World} {T : Ths} (h : Sep W0 w T) (k : Ky) {t : Th} {G : Nat → Prop} (x : Ex w w') (ht : t.h w' G) (hG : ∀ b, G b → w.heap.size ≤ b ∧ b < w'.heap.size) : Sep W0 w' (T.up k t) := by
  obtain ⟨F, _, _, hc⟩ := h.get k rfl
  exact hc w' t G (x.weak (fun _ _ h => h.elim)) ht (fun b hb => .inr (hG b hb))
/-- what lay there before -/
theorem Sep.old {α : Type} {f : α → Value} {W0 w : World} {T : Ths} {s : Sl} {l : List α} (h : Sep W0 w T) (hr : Rds f W0 s l) : Rds f w s l :=
  ⟨hr.1, hr.2.1, fun i x hi => by
    obtain ⟨a, ha, hc⟩ := hr.2.2 i x hi
    have := World.block_lt_of_cell? _ _ hc
    exact ⟨a, ha, h.mo.cell hc (by omega)⟩⟩
theorem Sep.oldA {ats : List At} {W0 w : World} {T : Ths} {s : Sl} {l : List (Ats ats)} (h : Sep W0 w T) (hr : RdA ats W0 s l) : RdA ats w s l :=
  ⟨hr.1, hr.2.1, fun i x hi => by
    obtain ⟨a, ha, hc⟩ := hr.2.2 i x hi
    refine ⟨a, ha, fun j v hj => ?_⟩
    have := World.block_lt_of_cell? _ _ (hc j v hj)
    exact h.mo.cell (hc j v hj) (by omega)⟩
/-! ### Some things -/
def Cel (g : Nat) (cs : List Value) (e : TypeId) : Th := ⟨fun w F => Has w g cs e ∧ F g, fun h m hx => ⟨h.1.mo m (hx _ h.2), h.2⟩⟩
def Rdo {α : Type} (f : α → Value) (s : Sl) (l : List α) : Th := ⟨fun w F => Rds f w s l ∧ ∀ b, SlIn s b → F b, fun h m hx => ⟨h.1.mo m (fun a ha => hx _ (h.2 _ (slin_of ha))), h.2⟩⟩
/-- a list of one's own -/
def Owt {α : Type} (f : α → Value) (e : TypeId) (s : Sl) (l : List α) : Th := ⟨fun w F => Own f e 0 w s l ∧ ∀ b, SlIn s b → F b, fun h m hx => ⟨h.1.mo m (fun b hb => hx b (h.2 b hb)), h.2⟩⟩
theorem Sep.owt {α : Type} {f : α → Value} {e : TypeId} {W0 w : World} {T : Ths} {k : Ky} {s : Sl} {l : List α} (h : Sep W0 w T) (hk : T k = Owt f e s l) : Own f e 0 w s l := by
  obtain ⟨F, ht, _⟩ := h.get k hk
  exact ht.1
theorem Sep.grow {α : Type} {f : α → Value} {e : TypeId} {W0 w w' : World} {T : Ths} {k : Ky} {s s' : Sl} {l l' : List α} (h : Sep W0 w T) (hk : T k = Owt f e s l) (ho : Own f e 0 w' s' l') (m : Mo (SlIn s) w w') (hin : ∀ b, SlIn s' b → SlIn s b ∨ w.heap.size ≤ b) : Sep W0 w' (T.up k (Owt f e s' l')) := by
  obtain ⟨F, ht, _, hc⟩ := h.get k hk
  exact hc w' _ (SlIn s') (m.weak (fun b _ hb => ht.2 b hb)) ⟨ho, fun _ hb => hb⟩ (fun b hb => by
    rcases hin b hb with h | h
    · exact .inl (ht.2 b h)
    · exact .inr ⟨h, (ho.base b hb).2⟩)
theorem Sep.newOwn {α : Type} {f : α → Value} {e : TypeId} {W0 w w' : World} {T : Ths} {s : Sl} {l : List α} (h : Sep W0 w T) (k : Ky) (x : Ex w w') (ho : Own f e w.heap.size w' s l) : Sep W0 w' (T.up k (Owt f e s l)) :=
  h.new k (G := fun b => SlIn s b) x ⟨ho.weak (Nat.zero_le _), fun _ hb => hb⟩ (fun b hb => ho.base b hb)
theorem Ths.up_back (T : Ths) {j k : Ky} (t u v : Th) (h : j ≠ k) : ((T.up k t).up j u).up k v = (T.up k v).up j u := by
  rw [Ths.up_comm _ _ _ (fun e => h e.symm), Ths.up_up]
theorem Ths.up_again (T : Ths) {j k : Ky} (t u v : Th) (h : j ≠ k) : ((T.up k t).up j u).up k v = (T.up j u).up k v := by
  rw [Ths.up_comm T t u h, Ths.up_up]
theorem Sep.has {W0 w : World} {T : Ths} {k : Ky} {g : Nat} {cs : List Value} {e : TypeId} (h : Sep W0 w T) (hk : T k = Cel g cs e) : Has w g cs e := by
  obtain ⟨F, ht, _⟩ := h.get k hk
  exact ht.1
theorem Sep.rds {α : Type} {f : α → Value} {W0 w : World} {T : Ths} {k : Ky} {s : Sl} {l : List α} (h : Sep W0 w T) (hk : T k = Rdo f s l) : Rds f w s l := by
  obtain ⟨F, ht, _⟩ := h.get k hk
  exact ht.1
theorem Sep.cel {W0 w w' : World} {T : Ths} {k : Ky} {g : Nat} {cs cs' : List Value} {e : TypeId} (h : Sep W0 w T) (hk : T k = Cel g cs e) (hB : Has w' g cs' e) (m : Mo (fun b => b = g) w w') : Sep W0 w' (T.up k (Cel g cs' e)) := by
  obtain ⟨F, ht, _, hc⟩ := h.get k hk
  exact hc w' _ (fun b => b = g) (m.weak (fun b _ hb => hb ▸ ht.2)) ⟨hB, rfl⟩ (fun b hb => .inl (hb ▸ ht.2))
theorem Sep.box {W0 w w' : World} {T : Ths} {cs : List Value} {e : TypeId} (h : Sep W0 w T) (k : Ky) (x : Ex w w') (hB : Has w' w.heap.size cs e) : Sep W0 w' (T.up k (Cel w.heap.size cs e)) :=
  h.new k (G := fun b => b = w.heap.size) x ⟨hB, rfl⟩ (fun b hb => by subst hb; exact ⟨Nat.le_refl _, hB.lt⟩)
theorem Sep.own {α : Type} {f : α → Value} {e : TypeId} {W0 w w' : World} {T : Ths} {s : Sl} {l : List α} (h : Sep W0 w T) (k : Ky) (x : Ex w w') (ho : Own f e w.heap.size w' s l) : Sep W0 w' (T.up k (Rdo f s l)) :=
  h.new k (G := fun b => SlIn s b) x ⟨ho.rds, fun _ hb => hb⟩ (fun b hb => ho.base b hb)
end Go.Cu
