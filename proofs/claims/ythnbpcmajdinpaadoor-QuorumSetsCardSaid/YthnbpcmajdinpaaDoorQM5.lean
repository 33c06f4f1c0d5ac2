/- Plain facts on a search along a list. -/
import Derived.Test.YthnbpcmajdinpaaDoorTestQ16
namespace Go.Eng.M
open Go
set_option linter.unusedSimpArgs false
set_option linter.unusedVariables false
/-- is there one from i on? -/
def anyIn (p : Nat → Bool) (i n : Nat) : Bool := (List.range (n - i)).any fun d => p (i + d)
theorem anyIn_iff {p : Nat → Bool} {i n : Nat} : anyIn p i n = true ↔ ∃ j, i ≤ j ∧ j < n ∧ p j = true := by
  unfold anyIn
  rw [List.any_eq_true]
  constructor
  · rintro ⟨d, hd, h⟩
    exact ⟨i + d, by omega, by have := List.mem_range.1 hd; omega, h⟩
  · rintro ⟨j, h1, h2, h3⟩
    exact ⟨j - i, List.mem_range.2 (by omega), by rw [show i + (j - i) = j by omega]; exact h3⟩
theorem anyIn_end {p : Nat → Bool} {i n : Nat} (h : n ≤ i) : anyIn p i n = false := by
  cases hb : anyIn p i n with
  | false => rfl
  | true => obtain ⟨j, h1, h2, _⟩ := anyIn_iff.1 hb; omega
theorem anyIn_step {p : Nat → Bool} {i n : Nat} (h : i < n) : anyIn p i n = (p i || anyIn p (i + 1) n) := by
  rw [Bool.eq_iff_iff, Bool.or_eq_true, anyIn_iff, anyIn_iff]
  constructor
  · rintro ⟨j, h1, h2, h3⟩
    by_cases e : j = i
    · subst e; exact .inl h3
    · exact .inr ⟨j, by omega, h2, h3⟩
  · rintro (h3 | ⟨j, h1, h2, h3⟩)
    · exact ⟨i, Nat.le_refl _, h, h3⟩
    · exact ⟨j, by omega, h2, h3⟩
theorem anyIn_congr {p q : Nat → Bool} {i n : Nat} (h : ∀ j, p j = q j) : anyIn p i n = anyIn q i n := by
  rw [show p = q from funext h]
end Go.Eng.M
