/- Plain facts on how many bits a number of 32 bits has. -/
import Derived.Test.YthnbpcmajdinpaaDoorQM
namespace Go.Eng.M
open Go
set_option linter.unusedSimpArgs false
set_option linter.unusedVariables false

def p8 (x : Nat) : Nat := x % 2 + (x / 2 % 2 + (x / 4 % 2 + (x / 8 % 2 + (x / 16 % 2 + (x / 32 % 2 + (x / 64 % 2 + x / 128 % 2))))))
theorem p8_mod (x : Nat) : p8 (x % 256) = p8 x := by
  unfold p8
  have h1 : x % 256 % 2 = x % 2 := by omega
  have h2 : x % 256 / 2 % 2 = x / 2 % 2 := by omega
  have h3 : x % 256 / 4 % 2 = x / 4 % 2 := by omega
  have h4 : x % 256 / 8 % 2 = x / 8 % 2 := by omega
  have h5 : x % 256 / 16 % 2 = x / 16 % 2 := by omega
  have h6 : x % 256 / 32 % 2 = x / 32 % 2 := by omega
  have h7 : x % 256 / 64 % 2 = x / 64 % 2 := by omega
  have h8 : x % 256 / 128 % 2 = x / 128 % 2 := by omega
  rw [h1, h2, h3, h4, h5, h6, h7, h8]
theorem p8_le (x : Nat) : p8 x ≤ 8 := by unfold p8; omega
theorem filter_sum {p : Nat → Bool} : ∀ l : List Nat, (l.filter p).length = (l.map fun i => (p i).toNat).sum
  | [] => rfl
  | x :: l => by
    cases h : p x <;> simp [List.filter_cons, h, filter_sum l]; omega
theorem bit_nat (s i : Nat) : (s.testBit i).toNat = s / 2 ^ i % 2 := by
  rw [Nat.testBit_eq_decide_div_mod_eq]
  rcases Nat.mod_two_eq_zero_or_one (s / 2 ^ i) with h | h <;> simp [h]
theorem range32 : List.range 32 = [0, 1, 2, 3, 4, 5, 6, 7, 8, 9, 10, 11, 12, 13, 14, 15, 16, 17, 18, 19, 20, 21, 22, 23, 24, 25, 26, 27, 28, 29, 30, 31] := by decide
theorem pc_bytes (s : Nat) : (bitsL s).length = p8 s + p8 (s / 256) + p8 (s / 65536) + p8 (s / 16777216) := by
  unfold bitsL
  rw [filter_sum, range32]
  simp only [List.map_cons, List.map_nil, List.sum_cons, List.sum_nil, bit_nat, p8, Nat.div_div_eq_div_mul, Nat.reducePow, Nat.reduceMul, Nat.div_one, Nat.add_zero, Nat.add_assoc]

def tab : ByteArray := ⟨((List.range 256).map fun b => UInt8.ofNat (p8 b)).toArray⟩
theorem tab_size : tab.size = 256 := by
  unfold tab ByteArray.size; simp
theorem tab_at {b : Nat} (h : b < 256) : sbyte tab b = (p8 b : Int) := by
  unfold sbyte
  have := p8_le b
  simp [tab, h, UInt8.toNat_ofNat']
  omega
theorem and255 {n : Nat} (h : n < 2 ^ 32) : bitI .and .u32 (n : Int) 255 = ((n % 256 : Nat) : Int) := by
  have := and_u32 n 255 h (by decide)
  rw [show ((255 : Nat) : Int) = 255 from rfl] at this
  rw [this]
  congr 1
  exact Nat.and_two_pow_sub_one_eq_mod n 8
theorem shr32 (n k : Nat) (hk : k ≤ 32) : ((n : Int)).fdiv (2 ^ min (Int.toNat (k : Int)) IntKind.u32.bits) = ((n / 2 ^ k : Nat) : Int) := by
  have : (2 ^ min (Int.toNat (k : Int)) IntKind.u32.bits : Int) = ((2 ^ k : Nat) : Int) := by
    rw [Int.toNat_natCast, show IntKind.u32.bits = 32 from rfl, Nat.min_eq_left hk]; simp
  rw [this, Int.fdiv_eq_ediv_of_nonneg _ (Int.natCast_nonneg _)]
  rfl
/-- the library's sum of four bytes' bits -/
theorem ones_table {a : Int} (h : inU32 a = true) :
    0 ≤ a.fdiv (2 ^ min (Int.toNat 24) IntKind.u32.bits) ∧ a.fdiv (2 ^ min (Int.toNat 24) IntKind.u32.bits) < (tab.size : Int) ∧
    0 ≤ bitI .and .u32 (a.fdiv (2 ^ min (Int.toNat 16) IntKind.u32.bits)) 255 ∧ bitI .and .u32 (a.fdiv (2 ^ min (Int.toNat 16) IntKind.u32.bits)) 255 < (tab.size : Int) ∧
    0 ≤ bitI .and .u32 (a.fdiv (2 ^ min (Int.toNat 8) IntKind.u32.bits)) 255 ∧ bitI .and .u32 (a.fdiv (2 ^ min (Int.toNat 8) IntKind.u32.bits)) 255 < (tab.size : Int) ∧
    0 ≤ bitI .and .u32 a 255 ∧ bitI .and .u32 a 255 < (tab.size : Int) ∧
    IntKind.i64.wrap (IntKind.u8.wrap (IntKind.u8.wrap (IntKind.u8.wrap (sbyte tab (a.fdiv (2 ^ min (Int.toNat 24) IntKind.u32.bits)).toNat +
      sbyte tab (bitI .and .u32 (a.fdiv (2 ^ min (Int.toNat 16) IntKind.u32.bits)) 255).toNat) + sbyte tab (bitI .and .u32 (a.fdiv (2 ^ min (Int.toNat 8) IntKind.u32.bits)) 255).toNat) +
      sbyte tab (bitI .and .u32 a 255).toNat)) = (pc a : Int) := by
  obtain ⟨h1, h2⟩ := inU32_iff.1 h
  obtain ⟨n, rfl⟩ := Int.eq_ofNat_of_zero_le h1
  have hn : n < 2 ^ 32 := by omega
  have e24 : ((n : Int)).fdiv (2 ^ min (Int.toNat 24) IntKind.u32.bits) = ((n / 16777216 : Nat) : Int) := shr32 n 24 (by decide)
  have e16 : ((n : Int)).fdiv (2 ^ min (Int.toNat 16) IntKind.u32.bits) = ((n / 65536 : Nat) : Int) := shr32 n 16 (by decide)
  have e8 : ((n : Int)).fdiv (2 ^ min (Int.toNat 8) IntKind.u32.bits) = ((n / 256 : Nat) : Int) := shr32 n 8 (by decide)
  have hp : (pc (n : Int) : Int) = (p8 n + p8 (n / 256) + p8 (n / 65536) + p8 (n / 16777216) : Nat) := by
    unfold pc; rw [Int.toNat_natCast, pc_bytes]
  rw [e24, e16, e8, and255 (show n / 65536 < 2 ^ 32 by omega), and255 (show n / 256 < 2 ^ 32 by omega), and255 hn, tab_size, hp]
  simp only [Int.toNat_natCast]
  rw [tab_at (show n / 16777216 < 256 by omega), tab_at (show n / 65536 % 256 < 256 by omega), tab_at (show n / 256 % 256 < 256 by omega), tab_at (show n % 256 < 256 by omega), p8_mod, p8_mod, p8_mod]
  have b1 := p8_le n
  have b2 := p8_le (n / 256)
  have b3 := p8_le (n / 65536)
  have b4 := p8_le (n / 16777216)
  refine ⟨by omega, by omega, by omega, by omega, by omega, by omega, by omega, by omega, ?_⟩
  simp only [IntKind.wrap, IntKind.signed, IntKind.bits]
  simp
  omega
end Go.Eng.M
