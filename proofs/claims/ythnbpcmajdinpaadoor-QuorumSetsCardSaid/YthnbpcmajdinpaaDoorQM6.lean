/- Plain facts: a number made of bits from above. -/
import Derived.Test.YthnbpcmajdinpaaDoorTestQ20
namespace Go.Eng.M
open Go
set_option linter.unusedSimpArgs false
set_option linter.unusedVariables false
/-- c bits more, the highest first. -/
def ofN (p : Nat → Bool) : Nat → Nat → Nat
  | 0, g => g
  | c + 1, g => ofN p c (2 * g + (p c).toNat)
def inc (g : Int) (b : Bool) : Int := bif b && decide (g.tmod 2 = 0) then g + 1 else g
theorem inc_false (g : Int) : inc g false = g := rfl
theorem ofN_lt {p : Nat → Bool} : ∀ {c g k : Nat}, g < 2 ^ k → ofN p c g < 2 ^ (k + c)
  | 0, g, k, h => h
  | c + 1, g, k, h => by
    have h1 : 2 * g + (p c).toNat < 2 ^ (k + 1) := by
      have : (p c).toNat ≤ 1 := by cases p c <;> decide
      rw [Nat.pow_succ]; omega
    have := ofN_lt (p := p) (c := c) h1
    rw [show k + (c + 1) = k + 1 + c by omega]
    exact this
theorem bit_low (g : Nat) (b : Bool) : (2 * g + b.toNat).testBit 0 = b := by
  rw [Nat.testBit_zero]
  cases b
  · simp only [Bool.toNat_false, decide_eq_false_iff_not]; omega
  · simp only [Bool.toNat_true, decide_eq_true_eq]; omega
theorem bit_high (g t : Nat) (b : Bool) : (2 * g + b.toNat).testBit (t + 1) = g.testBit t := by
  rw [Nat.testBit_succ]
  have : (2 * g + b.toNat) / 2 = g := by cases b <;> simp <;> omega
  rw [this]
theorem ofN_bit {p : Nat → Bool} : ∀ (c g t : Nat), (ofN p c g).testBit t = if t < c then p t else g.testBit (t - c)
  | 0, g, t => by simp [ofN]
  | c + 1, g, t => by
    rw [ofN, ofN_bit c]
    by_cases h : t < c
    · rw [if_pos h, if_pos (by omega)]
    · rw [if_neg h]
      by_cases h2 : t = c
      · subst h2
        rw [if_pos (by omega), Nat.sub_self, bit_low]
      · rw [if_neg (by omega), show t - c = (t - (c + 1)) + 1 by omega, bit_high]
theorem ofN_congr {p q : Nat → Bool} : ∀ {c g : Nat}, (∀ j, j < c → p j = q j) → ofN p c g = ofN q c g
  | 0, g, h => rfl
  | c + 1, g, h => by
    rw [ofN, ofN, h c (by omega)]
    exact ofN_congr fun j hj => h j (by omega)
end Go.Eng.M
