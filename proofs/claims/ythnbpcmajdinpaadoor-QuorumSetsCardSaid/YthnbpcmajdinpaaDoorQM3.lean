/- Plain facts on sets of bits: what two sets have in common. -/
import Derived.Test.YthnbpcmajdinpaaDoorQM2
namespace Go.Eng.M
open Go
set_option linter.unusedSimpArgs false
set_option linter.unusedVariables false

def tb (s : Int) (i : Nat) : Bool := s.toNat.testBit i
def cnt (p : Nat → Bool) : Nat := ((List.range 32).filter p).length
theorem pc_cnt (s : Int) : pc s = cnt (tb s) := rfl
theorem cnt_or (p q : Nat → Bool) : cnt p + cnt q = cnt (fun i => p i || q i) + cnt (fun i => p i && q i) := by
  unfold cnt
  generalize List.range 32 = l
  induction l with
  | nil => rfl
  | cons x l ih => cases hp : p x <;> cases hq : q x <;> simp [List.filter_cons, hp, hq] <;> omega
theorem cnt_mono {p q : Nat → Bool} (h : ∀ i, i < 32 → p i = true → q i = true) : cnt p ≤ cnt q := by
  unfold cnt
  have : ∀ l : List Nat, (∀ i ∈ l, p i = true → q i = true) → (l.filter p).length ≤ (l.filter q).length := by
    intro l
    induction l with
    | nil => intro _; simp
    | cons x l ih =>
      intro h
      have h1 := ih fun i hi => h i (by simp [hi])
      cases hp : p x with
      | true => simp [List.filter_cons, hp, h x (by simp) hp]; exact h1
      | false => cases hq : q x <;> simp [List.filter_cons, hp, hq] <;> omega
  exact this _ fun i hi => h i (by simpa using hi)
theorem cnt_congr {p q : Nat → Bool} (h : ∀ i, i < 32 → p i = q i) : cnt p = cnt q :=
  Nat.le_antisymm (cnt_mono fun i hi hp => by rw [← h i hi]; exact hp) (cnt_mono fun i hi hp => by rw [h i hi]; exact hp)

theorem u32_nat {x : Int} (h : inU32 x = true) : ∃ n : Nat, x = n ∧ n < 2 ^ 32 := by
  obtain ⟨h1, h2⟩ := inU32_iff.1 h
  obtain ⟨n, rfl⟩ := Int.eq_ofNat_of_zero_le h1
  exact ⟨n, rfl, by omega⟩
theorem nat_u32 {n : Nat} (h : n < 2 ^ 32) : inU32 (n : Int) = true := inU32_iff.2 ⟨by omega, by omega⟩
theorem tb_and {x y : Int} (hx : inU32 x = true) (hy : inU32 y = true) : inU32 (bitI .and .u32 x y) = true ∧ ∀ i, tb (bitI .and .u32 x y) i = (tb x i && tb y i) := by
  obtain ⟨n, rfl, hn⟩ := u32_nat hx
  obtain ⟨m, rfl, hm⟩ := u32_nat hy
  rw [and_u32 n m hn hm]
  exact ⟨nat_u32 (Nat.lt_of_le_of_lt Nat.and_le_left hn), fun i => by simp [tb, Nat.testBit_and]⟩
theorem tb_or {x y : Int} (hx : inU32 x = true) (hy : inU32 y = true) : inU32 (bitI .or .u32 x y) = true ∧ ∀ i, tb (bitI .or .u32 x y) i = (tb x i || tb y i) := by
  obtain ⟨n, rfl, hn⟩ := u32_nat hx
  obtain ⟨m, rfl, hm⟩ := u32_nat hy
  rw [or_u32 n m hn hm]
  exact ⟨nat_u32 (Nat.or_lt_two_pow hn hm), fun i => by simp [tb, Nat.testBit_or]⟩
theorem tb_andNot {x y : Int} (hx : inU32 x = true) (hy : inU32 y = true) : inU32 (bitI .andNot .u32 x y) = true ∧ ∀ i, i < 32 → tb (bitI .andNot .u32 x y) i = (tb x i && !tb y i) := by
  obtain ⟨n, rfl, hn⟩ := u32_nat hx
  obtain ⟨m, rfl, hm⟩ := u32_nat hy
  have e : bitI .andNot .u32 (n : Int) (m : Int) = (((BitVec.ofInt 32 (n : Int) &&& ~~~ BitVec.ofInt 32 (m : Int)).toNat : Nat) : Int) := by
    show IntKind.u32.wrap (((BitVec.ofInt 32 (n : Int) &&& ~~~ BitVec.ofInt 32 (m : Int)).toNat : Nat) : Int) = _
    rw [wrap_u32_nat, Nat.mod_eq_of_lt (BitVec.isLt _)]
  rw [e]
  refine ⟨nat_u32 (BitVec.isLt _), fun i hi => ?_⟩
  have h1 : (BitVec.ofInt 32 (n : Int)).getLsbD i = n.testBit i := by rw [BitVec.getLsbD, ofInt_nat n hn]
  have h2 : (BitVec.ofInt 32 (m : Int)).getLsbD i = m.testBit i := by rw [BitVec.getLsbD, ofInt_nat m hm]
  show ((BitVec.ofInt 32 (n : Int) &&& ~~~ BitVec.ofInt 32 (m : Int)).toNat : Int).toNat.testBit i = _
  rw [Int.toNat_natCast]
  show (BitVec.ofInt 32 (n : Int) &&& ~~~ BitVec.ofInt 32 (m : Int)).getLsbD i = _
  rw [BitVec.getLsbD_and, BitVec.getLsbD_not, h1, h2]
  simp [tb, hi]
end Go.Eng.M
