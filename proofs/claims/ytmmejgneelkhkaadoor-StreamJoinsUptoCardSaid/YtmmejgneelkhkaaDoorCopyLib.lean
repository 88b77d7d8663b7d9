/- Copies into a known block, and numbers out of their bytes. -/
import Derived.Test.YtmmejgneelkhkaaDoorBytesLib
set_option linter.all false
namespace Go.Cu
open Go Go.RowKit
theorem wrap_u64_id {x : Int} (h0 : 0 ≤ x) (h1 : x < 18446744073709551616) : IntKind.wrap .u64 x = x := by
  unfold IntKind.wrap
  simp [IntKind.bits, IntKind.signed]
  omega
theorem wrap_u8_mod (n : Nat) : IntKind.wrap .u8 (n : Int) = ((n % 256 : Nat) : Int) := by
  unfold IntKind.wrap
  simp [IntKind.bits, IntKind.signed]
theorem ofInt_toNat64 {n : Nat} (h : n < 18446744073709551616) : (BitVec.ofInt 64 (n : Int)).toNat = n := by
  rw [BitVec.toNat_ofInt]
  have : ((n : Int) % ((2 ^ 64 : Nat) : Int)).toNat = n % 2 ^ 64 := by rw [← Int.natCast_emod]; rfl
  rw [this]; exact Nat.mod_eq_of_lt h
theorem byte_or {a x : Nat} (hx : x < 256) (ha : a * 256 + x < 18446744073709551616) : bOr .u64 (shL .u64 (a : Int) 8) (IntKind.wrap .u64 (x : Int)) = ((a * 256 + x : Nat) : Int) := by
  have h1 : shL .u64 (a : Int) 8 = ((a * 256 : Nat) : Int) := by
    unfold shL
    rw [show (2 : Int) ^ (min (8 : Int).toNat (IntKind.bits .u64)) = 256 by rfl, show (a : Int) * 256 = ((a * 256 : Nat) : Int) by omega]
    exact wrap_u64_id (by omega) (by omega)
  have h2 : IntKind.wrap .u64 (x : Int) = (x : Int) := wrap_u64_id (by omega) (by omega)
  rw [h1, h2]
  have e : a * 256 ||| x = a * 256 + x := by
    have := Nat.two_pow_add_eq_or_of_lt (i := 8) (b := x) hx a
    rw [Nat.mul_comm a 256]; exact this.symm
  generalize a * 256 = A at *
  unfold bOr
  have e64 : ∀ y z : Int, (BitVec.ofInt (IntKind.bits .u64) y ||| BitVec.ofInt (IntKind.bits .u64) z).toNat = (BitVec.ofInt 64 y ||| BitVec.ofInt 64 z).toNat := fun _ _ => rfl
  rw [e64, BitVec.toNat_or, ofInt_toNat64 (by omega), ofInt_toNat64 (by omega), e]
  exact wrap_u64_id (by omega) (by omega)
theorem numF_le : ∀ (n v : Nat), v < 256 ^ n → n ≤ 8 → numF (le n (v : Int)) = (v : Int)
  | 0, v, h, _ => by
    have : v = 0 := by simpa using h
    subst this; rfl
  | n + 1, v, h, hn => by
    have hs : shR .u64 (v : Int) 8 = ((v / 256 : Nat) : Int) := by
      unfold shR
      rw [show (2 : Int) ^ (min (8 : Int).toNat (IntKind.bits .u64)) = 256 by rfl, Int.fdiv_eq_ediv_of_nonneg _ (by omega)]
      omega
    have hp : 256 ^ (n + 1) = 256 ^ n * 256 := Nat.pow_succ ..
    have ih := numF_le n (v / 256) (by omega) (by omega)
    have h8 : 256 ^ (n + 1) ≤ 256 ^ 8 := Nat.pow_le_pow_right (by omega) hn
    have e8 : (256 : Nat) ^ 8 = 18446744073709551616 := by decide
    show bOr .u64 (shL .u64 (numF (le n (shR .u64 (v : Int) 8))) 8) (IntKind.wrap .u64 (IntKind.wrap .u8 (v : Int))) = _
    rw [hs, ih, wrap_u8_mod, byte_or (by omega) (by omega)]
    omega
section
variable {P : Program}
/-- the rest of a known block from one place on -/
theorem Pu_sub {t e : TypeId} {B n o : Nat} {k1 : IntKind} {k : Sl → World → Prop} {w : World} (ht : P.underlying t = some (.slice e)) (hs : sizeIs P e 1 = true) (ho : o < n) (hk : k ⟨some ⟨B, o, none⟩, n - o, n - o⟩ w) :
    Pu P (Instr.sliceAt t (.slice (some ⟨B, 0, none⟩) n n) (some (.int k1 (o : Int))) none none) (.one (.at .sl)) k w := by
  refine ⟨_, fun w' => ?_, hk⟩
  have := run_sliceAt (P := P) (s := ⟨some ⟨B, 0, none⟩, n, n⟩) (w := w') (l := o) (h := n) ht hs (.inr ⟨k1, rfl⟩) (.inl ⟨rfl, rfl⟩) (by omega) (Nat.le_refl _)
  rw [Nat.mul_one] at this
  simp only at this
  rw [if_neg (by omega)] at this
  simp only [Option.map_some, add_lit] at this
  exact this
/-- what is read is laid down over a part of a known block -/
theorem Wr_copy {α : Type} {f : α → Value} {dT sT ty e t : TypeId} {g o n c : Nat} {cs m : List α} {x : Sl} {k : Int → World → Prop} {w : World}
    (hu : P.underlying dT = some (.slice e)) (hs : (P.info? e).map (·.size) = some 1) (hB : Has w g (cs.map f) t) (hr : Rds f w x m) (h1 : ∀ y, (f y).oneCell' = true)
    (hm : m ≠ []) (hfit : o + m.length ≤ cs.length) (hn : m.length ≤ n)
    (hk : ∀ w', Has w' g ((cs.take o ++ m ++ cs.drop (o + m.length)).map f) t → Mo (fun b => b = g) w w' → k m.length w') :
    Wr P (Builtin.copy_ #[dT, sT] ty #[.slice (some ⟨g, o, none⟩) n c, .slice x.base x.len x.cap]) (.one (.at (.int .i64))) k w := by
  obtain ⟨xb, xl, xc⟩ := x
  have hxl : xl = m.length := hr.1
  subst hxl
  obtain ⟨a, rfl⟩ : ∃ a, xb = some a := by
    cases m with
    | nil => exact absurd rfl hm
    | cons y r => obtain ⟨a, ha, _⟩ := hr.2.2 0 y rfl; exact ⟨a, ha⟩
  have hrun := run_copy_row P w dT sT ty e g o n c a m.length xc (cs.map f).toArray t (m.map f) hu hs hB (by simp only [List.length_map]; exact (Nat.min_eq_left hn).symm)
    (fun j v hj => by
      simp only [List.getElem?_map] at hj
      cases hmj : m[j]? with
      | none => rw [hmj] at hj; cases hj
      | some y =>
        rw [hmj] at hj; cases hj
        obtain ⟨a', ha', hc⟩ := hr.2.2 j y hmj
        cases ha'; exact hc)
    (by simpa using hfit) (fun u hu => by obtain ⟨y, _, rfl⟩ := List.mem_map.1 hu; exact h1 y)
  rw [List.length_map] at hrun
  refine ⟨(m.length : Int), _, hrun, hk _ ?_ (Mo.setRow w g _)⟩
  · have := setRow_heap w g _ ((cs.map f).toArray.toList.take o ++ m.map f ++ (cs.map f).toArray.toList.drop (o + (m.map f).length)).toArray t (0, 0) hB
    unfold Has
    rw [List.length_map] at this
    rw [this]
    simp
end
end Go.Cu
