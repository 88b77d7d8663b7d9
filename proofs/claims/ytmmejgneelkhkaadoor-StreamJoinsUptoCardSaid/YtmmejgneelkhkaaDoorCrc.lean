/- The check sum: four steps by bits are one step by the table of sixteen. -/
import Derived.Test.YtmmejgneelkhkaaDoorFrSpec
set_option linter.all false
namespace Go.Cu
open Go
/-- one bit, as the definition has it -/
def crcBit (r : Int) : Int := if bAnd .u32 r 1 = 1 then bXor .u32 (shR .u32 r 1) 3988292384 else shR .u32 r 1
def crcBits : Nat → Int → Int
  | 0, r => r
  | k + 1, r => crcBits k (crcBit r)
def crcByte (r x : Int) : Int := crcBits 8 (bXor .u32 r (IntKind.wrap .u32 x))
def crcRun (r : Int) (l : List Int) : Int := l.foldl crcByte r
def foldF (s : Int) (l : List Int) : Int := bNot .u32 (crcRun (bNot .u32 s) l)
def halvesL : List Int := [0, 498536548, 997073096, 651767980, 1994146192, 1802195444, 1303535960, 1342533948, 3988292384, 4027552580, 3604390888, 3412177804, 2607071920, 2262029012, 2685067896, 3183342108]

def bit (r : BitVec 32) : BitVec 32 := (r >>> 1) ^^^ (if r.getLsbD 0 then 3988292384#32 else 0#32)
theorem bit_xor (x y : BitVec 32) : bit (x ^^^ y) = bit x ^^^ bit y := by
  unfold bit
  rw [BitVec.ushiftRight_xor_distrib, BitVec.getLsbD_xor]
  generalize x >>> 1 = a
  generalize y >>> 1 = b
  cases x.getLsbD 0 <;> cases y.getLsbD 0 <;> simp only [Bool.xor_false, Bool.xor_true, Bool.not_false, Bool.not_true, Bool.false_eq_true, if_true, if_false, BitVec.xor_zero]
  · ac_rfl
  · ac_rfl
  · have : a ^^^ 3988292384#32 ^^^ (b ^^^ 3988292384#32) = (a ^^^ b) ^^^ (3988292384#32 ^^^ 3988292384#32) := by ac_rfl
    rw [this, BitVec.xor_self, BitVec.xor_zero]
theorem bit_even {x : BitVec 32} (h : x.getLsbD 0 = false) : bit x = x >>> 1 := by unfold bit; rw [h]; simp
theorem bit4_high (r : BitVec 32) : bit (bit (bit (bit (r &&& ~~~15#32)))) = r >>> 4 := by
  have g : ∀ i, i < 4 → (r &&& ~~~15#32).getLsbD i = false := by
    intro i hi
    rw [BitVec.getLsbD_and]
    have : (~~~15#32).getLsbD i = false := by
      have : i = 0 ∨ i = 1 ∨ i = 2 ∨ i = 3 := by omega
      rcases this with rfl | rfl | rfl | rfl <;> decide
    rw [this, Bool.and_false]
  have s1 : ∀ (x : BitVec 32) (k : Nat), (x >>> k).getLsbD 0 = x.getLsbD k := fun x k => by simp
  have e1 : bit (r &&& ~~~15#32) = (r &&& ~~~15#32) >>> 1 := bit_even (g 0 (by decide))
  have e2 : ∀ k, k < 3 → bit ((r &&& ~~~15#32) >>> (k + 1)) = (r &&& ~~~15#32) >>> (k + 2) := fun k hk =>
    (bit_even (by rw [s1]; exact g (k + 1) (by omega))).trans (BitVec.shiftRight_add _ _ _).symm
  rw [e1, e2 0 (by decide), e2 1 (by decide), e2 2 (by decide)]
  apply BitVec.eq_of_getLsbD_eq
  intro i hi
  rw [show 2 + 2 = 4 by rfl]
  simp only [BitVec.getLsbD_ushiftRight, BitVec.getLsbD_and]
  by_cases h : 4 + i < 32
  · have : (~~~15#32).getLsbD (4 + i) = true := by
      rw [BitVec.getLsbD_not]
      have : (15#32).getLsbD (4 + i) = false := by
        rw [BitVec.getLsbD_ofNat]
        have : Nat.testBit 15 (4 + i) = false := Nat.testBit_lt_two_pow (by
          have : 2 ^ 4 ≤ 2 ^ (4 + i) := Nat.pow_le_pow_right (by decide) (by omega)
          omega)
        rw [this]; simp
      rw [this]; simp; omega
    rw [this, Bool.and_true]
  · rw [BitVec.getLsbD_of_ge r (4 + i) (by omega)]; simp
def tabBV (i : Nat) : BitVec 32 := BitVec.ofInt 32 (halvesL.getD i 0)
theorem bit4_low : ∀ t : BitVec 4, bit (bit (bit (bit (t.setWidth 32)))) = tabBV t.toNat := by decide
theorem bit4 (r : BitVec 32) : bit (bit (bit (bit r))) = (r >>> 4) ^^^ tabBV (r &&& 15#32).toNat := by
  have e : r = (r &&& ~~~15#32) ^^^ (r &&& 15#32) := by
    apply BitVec.eq_of_getLsbD_eq
    intro i hi
    simp only [BitVec.getLsbD_xor, BitVec.getLsbD_and, BitVec.getLsbD_not]
    cases r.getLsbD i <;> cases (15#32).getLsbD i <;> simp [hi]
  have hlow : ((r &&& 15#32).setWidth 4).setWidth 32 = r &&& 15#32 := by
    apply BitVec.eq_of_toNat_eq
    have : (r &&& 15#32).toNat < 16 := by
      rw [BitVec.toNat_and]
      exact Nat.lt_of_le_of_lt Nat.and_le_right (by decide)
    simp only [BitVec.toNat_setWidth]
    omega
  have hn : ((r &&& 15#32).setWidth 4).toNat = (r &&& 15#32).toNat := by
    have : (r &&& 15#32).toNat < 16 := by
      rw [BitVec.toNat_and]
      exact Nat.lt_of_le_of_lt Nat.and_le_right (by decide)
    simp only [BitVec.toNat_setWidth]
    omega
  have h1 := bit4_low ((r &&& 15#32).setWidth 4)
  rw [hlow, hn] at h1
  conv => lhs; rw [e]
  rw [bit_xor, bit_xor, bit_xor, bit_xor, bit4_high, h1]

/-! ### The same on integers -/
def U32 (r : Int) : Prop := 0 ≤ r ∧ r < 4294967296
theorem toNat_u32 {r : Int} (h : U32 r) : (BitVec.ofInt 32 r).toNat = r.toNat := by
  obtain ⟨h0, h1⟩ := h
  rw [BitVec.toNat_ofInt]
  have : r % ((2 ^ 32 : Nat) : Int) = r := Int.emod_eq_of_lt h0 (by simpa using h1)
  rw [this]
theorem wrap_nat32 (x : BitVec 32) : IntKind.wrap .u32 ((x.toNat : Nat) : Int) = (x.toNat : Int) := by
  have := x.isLt
  unfold IntKind.wrap
  simp [IntKind.bits, IntKind.signed]
  omega
theorem u32_nat (x : BitVec 32) : U32 (x.toNat : Int) := by have := x.isLt; exact ⟨by omega, by omega⟩
theorem bXor_bv (a b : Int) : bXor .u32 a b = ((BitVec.ofInt 32 a ^^^ BitVec.ofInt 32 b).toNat : Int) := wrap_nat32 _
theorem bAnd_bv (a b : Int) : bAnd .u32 a b = ((BitVec.ofInt 32 a &&& BitVec.ofInt 32 b).toNat : Int) := wrap_nat32 _
theorem ofInt_nat (x : BitVec 32) : BitVec.ofInt 32 (x.toNat : Int) = x := by
  apply BitVec.eq_of_toNat_eq
  rw [toNat_u32 (u32_nat x)]; omega
theorem shR_bv {r : Int} (h : U32 r) (k : Nat) (hk : k < 32) : shR .u32 r (k : Int) = ((BitVec.ofInt 32 r >>> k).toNat : Int) := by
  have hr := toNat_u32 h
  obtain ⟨h0, h1⟩ := h
  unfold shR
  have : min ((k : Int).toNat) (IntKind.u32).bits = k := by show min k 32 = k; omega
  rw [this, BitVec.toNat_ushiftRight, hr, Nat.shiftRight_eq_div_pow]
  obtain ⟨m, rfl⟩ := Int.eq_ofNat_of_zero_le h0
  rw [Int.toNat_natCast]
  have : ((2 : Int) ^ k) = ((2 ^ k : Nat) : Int) := by simp
  rw [this, Int.fdiv_eq_ediv_of_nonneg _ (Int.natCast_nonneg _)]
  rfl
theorem crcBit_bv {r : Int} (h : U32 r) : crcBit r = ((bit (BitVec.ofInt 32 r)).toNat : Int) := by
  unfold crcBit bit
  have hs : shR .u32 r 1 = ((BitVec.ofInt 32 r >>> 1).toNat : Int) := shR_bv h 1 (by decide)
  have ha : (bAnd .u32 r 1 = 1) ↔ (BitVec.ofInt 32 r).getLsbD 0 = true := by
    rw [bAnd_bv, show BitVec.ofInt 32 1 = 1#32 by decide, BitVec.getLsbD]
    rw [BitVec.toNat_and]
    have : (1#32).toNat = 1 := by decide
    rw [this, Nat.and_one_is_mod, Nat.testBit_zero]
    simp; omega
  by_cases hb : (BitVec.ofInt 32 r).getLsbD 0 = true
  · rw [if_pos (ha.2 hb), if_pos hb, hs, bXor_bv, ofInt_nat]; rfl
  · rw [if_neg (fun h => hb (ha.1 h)), if_neg hb, hs]; simp
theorem crcBit_u32 {r : Int} (h : U32 r) : U32 (crcBit r) := by rw [crcBit_bv h]; exact u32_nat _
theorem crcBits_u32 : ∀ (k : Nat) {r : Int}, U32 r → U32 (crcBits k r)
  | 0, _, h => h
  | k + 1, _, h => crcBits_u32 k (crcBit_u32 h)
theorem tab_at (i : Nat) (hi : i < 16) : ((tabBV i).toNat : Int) = halvesL.getD i 0 := by
  have : ∀ j : Fin 16, ((tabBV j.val).toNat : Int) = halvesL.getD j.val 0 := by decide
  exact this ⟨i, hi⟩
/-- half a byte at once -/
theorem crc_half {r : Int} (h : U32 r) : bXor .u32 (shR .u32 r 4) (halvesL.getD (bAnd .u32 r 15).toNat 0) = crcBits 4 r := by
  have h4 : crcBits 4 r = ((bit (bit (bit (bit (BitVec.ofInt 32 r))))).toNat : Int) := by
    show crcBit (crcBit (crcBit (crcBit r))) = _
    have e1 := crcBit_bv h
    rw [e1, crcBit_bv (u32_nat _), ofInt_nat, crcBit_bv (u32_nat _), ofInt_nat, crcBit_bv (u32_nat _), ofInt_nat]
  rw [h4, bit4]
  have hs : shR .u32 r 4 = ((BitVec.ofInt 32 r >>> 4).toNat : Int) := shR_bv h 4 (by decide)
  have ha : (bAnd .u32 r 15).toNat = (BitVec.ofInt 32 r &&& 15#32).toNat := by
    rw [bAnd_bv, show BitVec.ofInt 32 15 = 15#32 by decide]; omega
  have hlt : (BitVec.ofInt 32 r &&& 15#32).toNat < 16 := by
    rw [BitVec.toNat_and]
    exact Nat.lt_of_le_of_lt Nat.and_le_right (by decide)
  rw [hs, ha, bXor_bv, ofInt_nat, ← tab_at _ hlt, ofInt_nat]
theorem bAnd_15 (r : Int) : 0 ≤ bAnd .u32 r 15 ∧ bAnd .u32 r 15 < 16 := by
  rw [bAnd_bv]
  have hlt : (BitVec.ofInt 32 r &&& BitVec.ofInt 32 15).toNat < 16 := by
    rw [BitVec.toNat_and, show (BitVec.ofInt 32 15).toNat = 15 by decide]
    exact Nat.lt_of_le_of_lt Nat.and_le_right (by decide)
  omega
theorem bXor_u32 (a b : Int) : U32 (bXor .u32 a b) := by rw [bXor_bv]; exact u32_nat _
theorem bNot_u32 (a : Int) : U32 (bNot .u32 a) := bXor_u32 _ _
theorem crcBits_add : ∀ (a b : Nat) (r : Int), crcBits (a + b) r = crcBits b (crcBits a r)
  | 0, b, r => by simp [crcBits]
  | a + 1, b, r => by rw [show a + 1 + b = (a + b) + 1 by omega]; exact crcBits_add a b (crcBit r)
/-- the sum is a sum -/
theorem foldF_u32 (s : Int) (l : List Int) : U32 (foldF s l) := bNot_u32 _
theorem crcRun_u32 (l : List Int) : ∀ (r : Int), U32 r → U32 (crcRun r l) := by
  induction l with
  | nil => intro r h; exact h
  | cons x l ih => intro r h; exact ih _ (crcBits_u32 8 (bXor_u32 _ _))
theorem crcRun_snoc (r : Int) (l : List Int) (x : Int) : crcRun r (l ++ [x]) = crcByte (crcRun r l) x := by simp [crcRun]
end Go.Cu
