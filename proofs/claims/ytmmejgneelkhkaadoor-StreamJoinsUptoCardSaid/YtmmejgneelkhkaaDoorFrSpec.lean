/- What the numbers of shards, lengths and heads come to, as plain functions. -/
import Derived.Test.YtmmejgneelkhkaaDoorLib
set_option linter.all false
namespace Go.Cu
open Go
theorem wrap64 {x : Int} (h0 : -9223372036854775808 ≤ x) (h1 : x ≤ 9223372036854775807) : IntKind.wrap .i64 x = x := by
  rw [IntKind.wrap_i64]; omega

def famOk (f : Int) : Bool := decide (0 ≤ f ∧ f ≤ 2)
/-- the least power of two from p on that is n or more, within so many steps -/
def pwF : Nat → Int → Int → Int
  | 0, p, _ => p
  | k + 1, p, n => if p < n then pwF k (2 * p) n else p
def pow2F (n : Int) : Int := pwF 17 1 n
def paramsF (f k m : Int) : Int :=
  if ¬ (0 ≤ f ∧ f ≤ 2) then 2
  else if k < 1 ∨ m < 1 ∨ k > 65536 ∨ m > 65536 then 4
  else if f ≠ 2 then (if k + m > 256 then 4 else 0)
  else if k + pow2F m > 65536 then 4 else 0
/-- the length of a shard, of numbers that are good -/
def lenF (f k n : Int) : Int :=
  let l := Int.tdiv (n + k - 1) k
  if f = 2 ∧ Int.tmod l 2 = 1 then l + 1 else l
def lengthF (f k m n : Int) : Int × Int :=
  if paramsF f k m ≠ 0 then (0, paramsF f k m)
  else if n < 1 then (0, 163) else if n > 1099511627776 then (0, 5) else (lenF f k n, 0)
theorem pwF_bound : ∀ (k : Nat) (p n : Int), 1 ≤ p → p ≤ 65536 → n ≤ 65536 → 1 ≤ pwF k p n ∧ pwF k p n ≤ 65536 * 2
  | 0, p, n, h1, h2, _ => by simp only [pwF]; omega
  | k + 1, p, n, h1, h2, hn => by
    simp only [pwF]
    split
    · by_cases h : 2 * p ≤ 65536
      · exact pwF_bound k (2 * p) n (by omega) h hn
      · cases k with
        | zero => simp only [pwF]; omega
        | succ k => simp only [pwF]; rw [if_neg (by omega)]; omega
    · omega
theorem params_good {f k m : Int} (h : paramsF f k m = 0) : 0 ≤ f ∧ f ≤ 2 ∧ 1 ≤ k ∧ k ≤ 65536 ∧ 1 ≤ m ∧ m ≤ 65536 := by
  unfold paramsF at h
  split at h
  · omega
  · split at h
    · omega
    · omega
theorem tdiv_up {n k : Int} (hn : 1 ≤ n) (hk : 1 ≤ k) : 1 ≤ Int.tdiv (n + k - 1) k ∧ Int.tdiv (n + k - 1) k ≤ n := by
  rw [Int.tdiv_eq_ediv_of_nonneg (by omega)]
  constructor
  · exact Int.le_ediv_of_mul_le (by omega) (by omega)
  · have : (n + k - 1) / k < n + 1 := Int.ediv_lt_of_lt_mul (by omega) (by
      have := Int.mul_le_mul_of_nonneg_left hk (show 0 ≤ n by omega)
      rw [Int.add_mul]; omega)
    omega
theorem lenF_bound {f k n : Int} (hn : 1 ≤ n) (hk : 1 ≤ k) : 1 ≤ lenF f k n ∧ lenF f k n ≤ n + 1 := by
  have := tdiv_up hn hk
  unfold lenF
  simp only
  split <;> omega
/-- division rounded up, by a quotient and a rest -/
theorem tdiv_up_eq {n k : Int} (hn : 1 ≤ n) (hk : 1 ≤ k) : Int.tdiv (n + k - 1) k = if Int.tmod n k > 0 then Int.tdiv n k + 1 else Int.tdiv n k := by
  rw [Int.tdiv_eq_ediv_of_nonneg (by omega), Int.tdiv_eq_ediv_of_nonneg (by omega), Int.tmod_eq_emod_of_nonneg (by omega)]
  have h1 := Int.emod_add_mul_ediv n k
  have h2 := Int.emod_nonneg n (show k ≠ 0 by omega)
  have h3 := Int.emod_lt_of_pos n (show 0 < k by omega)
  split
  · have : n + k - 1 = (n % k - 1) + k * (n / k + 1) := by rw [Int.mul_add, Int.mul_one]; omega
    rw [this, Int.add_mul_ediv_left _ _ (by omega), Int.ediv_eq_zero_of_lt (by omega) (by omega)]; omega
  · have : n + k - 1 = (k - 1) + k * (n / k) := by omega
    rw [this, Int.add_mul_ediv_left _ _ (by omega), Int.ediv_eq_zero_of_lt (by omega) (by omega)]; omega
theorem tdiv_nonneg' {a b : Int} (ha : 0 ≤ a) (hb : 0 < b) : 0 ≤ Int.tdiv a b ∧ Int.tdiv a b ≤ a := by
  rw [Int.tdiv_eq_ediv_of_nonneg ha]
  exact ⟨Int.ediv_nonneg ha (by omega), Int.ediv_le_self b ha⟩
theorem tmod_bound {a b : Int} (ha : 0 ≤ a) (hb : 0 < b) : 0 ≤ Int.tmod a b ∧ Int.tmod a b < b := by
  rw [Int.tmod_eq_emod_of_nonneg ha]
  exact ⟨Int.emod_nonneg a (by omega), Int.emod_lt_of_pos a hb⟩
/-! ### Single steps on integers -/
section
variable {P : Program}
theorem run_quo {t : TypeId} {x y : Operand} {ik : IntKind} {a b : Int} {w : World} (hb : b ≠ 0) : (do eqGuard .quo t x y (.int ik a) (.int ik b); binOp .quo t (.int ik a) (.int ik b) : Sem Value).run P w = .ok (.int ik (ik.wrap (a.tdiv b))) w := by
  rw [run_bind]
  have : (eqGuard .quo t x y (.int ik a) (.int ik b)).run P w = .ok () w := rfl
  rw [this]
  simp [binOp, Op.intDiv, hb]
theorem run_rem {t : TypeId} {x y : Operand} {ik : IntKind} {a b : Int} {w : World} (hb : b ≠ 0) : (do eqGuard .rem t x y (.int ik a) (.int ik b); binOp .rem t (.int ik a) (.int ik b) : Sem Value).run P w = .ok (.int ik (a.tmod b)) w := by
  rw [run_bind]
  have : (eqGuard .rem t x y (.int ik a) (.int ik b)).run P w = .ok () w := rfl
  rw [this]
  simp [binOp, Op.intDiv, hb]
theorem Pu_quo {t : TypeId} {x y : Operand} {ik : IntKind} {a b : Int} {k : Int → World → Prop} {w : World} (hb : b ≠ 0) (hk : k (ik.wrap (a.tdiv b)) w) :
    Pu P (do eqGuard .quo t x y (.int ik a) (.int ik b); binOp .quo t (.int ik a) (.int ik b)) (.one (.at (.int ik))) k w := ⟨_, fun _ => run_quo hb, hk⟩
theorem Pu_rem {t : TypeId} {x y : Operand} {ik : IntKind} {a b : Int} {k : Int → World → Prop} {w : World} (hb : b ≠ 0) (hk : k (a.tmod b) w) :
    Pu P (do eqGuard .rem t x y (.int ik a) (.int ik b); binOp .rem t (.int ik a) (.int ik b)) (.one (.at (.int ik))) k w := ⟨_, fun _ => run_rem hb, hk⟩
/-- what a call that gives one value and changes nothing comes to -/
def Gives (P : Program) (f : FuncId) (args : Array Value) (v : Value) : Prop := ∀ w, Calls P f args w fun e w' => e = .returned v ∧ Ex w w'
theorem Cl_gives {f : FuncId} {args : Array Value} {d : Sh} {x : d.T} {k : d.T → World → Prop} {w : World} (h : Gives P f args (d.enc x)) (hk : ∀ w', Ex w w' → k x w') : Cl P f args d k w :=
  Calls.mono (h w) fun _ w' ⟨he, hx⟩ => ⟨x, he, hk w' hx⟩
end
end Go.Cu
