/- num: products: the program's Mul. -/
import Derived.Test.YtffpnoieklnejaaU10
namespace Go.Eng.U
open Go Go.Eng Go.Proofs Go.Eng.M
set_option linter.unusedSimpArgs false
set_option linter.unusedVariables false
theorem quo_iff {u v : Int} (hv : 0 < v) : (u ≤ Int.tdiv 4611686018427387904 v) = (u * v ≤ 4611686018427387904) := by
  rw [Int.tdiv_eq_ediv_of_nonneg (by decide)]
  exact propext (Int.le_ediv_iff_mul_le hv)
theorem quo_wrap {v : Int} (hv : 0 < v) : IntKind.i64.wrap (Int.tdiv 4611686018427387904 v) = Int.tdiv 4611686018427387904 v := by
  rw [Int.tdiv_eq_ediv_of_nonneg (by decide), wrapE]
  have h1 : (4611686018427387904 : Int) / v ≤ 4611686018427387904 := Int.ediv_le_self _ (by decide)
  have h2 : 0 ≤ (4611686018427387904 : Int) / v := Int.ediv_nonneg (by decide) (by omega)
  omega
theorem law19 (a b : Int) : Gives (bodyE (P := Try.prog) (Γ := Γu) [d23, d24, d26] Lno false 34 [.tmp 4, .tmp 5] (bodyOf Try.f19) [.v (.int .i64 a), .v (.int .i64 b)] []) (.tup [.v (.int .i64 (mulF a b)), .v (.int .i64 (mulE a b))]) := ⟨by
  rw [run19]
  cases hab : (inN a && inN b) with
  | false =>
    obtain ⟨e1, e2⟩ := mul_no hab
    rw [e1, e2]
    have h : ¬ ((-4611686018427387904 ≤ a ∧ a ≤ 4611686018427387904) ∧ (-4611686018427387904 ≤ b ∧ b ≤ 4611686018427387904)) := fun h => by
      rw [inN_iff.2 h.1, inN_iff.2 h.2] at hab; exact absurd hab (by decide)
    by_cases g1 : -4611686018427387904 ≤ a
    · by_cases g2 : a ≤ 4611686018427387904
      · by_cases g3 : -4611686018427387904 ≤ b
        · have g4 : ¬ b ≤ 4611686018427387904 := fun g4 => h ⟨⟨g1, g2⟩, g3, g4⟩
          simp [g1, g2, g3, g4, le_tup2]
        · simp [g1, g2, g3, le_tup2]
      · simp [g1, g2, le_tup2]
    · simp [g1, le_tup2]
  | true =>
    simp only [Bool.and_eq_true] at hab
    obtain ⟨ha, hb⟩ := hab
    have ha' := inN_iff.1 ha
    have hb' := inN_iff.1 hb
    obtain ⟨k3, k4⟩ := mul_of ha hb rfl
    rw [k3, k4]
    by_cases a0 : a = 0
    · subst a0; simp [hb'.1, hb'.2, le_tup2]
    by_cases b0 : b = 0
    · subst b0; simp [ha'.1, ha'.2, le_tup2]
    by_cases bn : b < 0
    · have e1 : IntKind.i64.wrap (-b) = -b := by rw [wrapE]; omega
      have q1 := quo_wrap (v := -b) (by omega)
      by_cases an : a < 0
      · have e2 : IntKind.i64.wrap (-a) = -a := by rw [wrapE]; omega
        have q2 := quo_iff (u := -a) (v := -b) (by omega)
        rw [Int.neg_mul_neg] at q2
        have hy := Int.mul_pos_of_neg_of_neg an bn
        generalize a * b = y at q2 hy
        simp only [ha'.1, ha'.2, hb'.1, hb'.2, a0, b0, bn, an, decide_true, decide_false, cond_true, cond_false, Bool.not_true, Bool.not_false, Int.zero_sub, e1, e2, q1, q2]
        by_cases c : y ≤ 4611686018427387904
        · simp [c, le_tup2, wrapE, b0] <;> (try omega) <;> (and_intros <;> intros <;> (try split) <;> omega)
        · simp [c, le_tup2, wrapE, b0] <;> (try omega) <;> (and_intros <;> intros <;> (try split) <;> omega)
      · have q2 := quo_iff (u := a) (v := -b) (by omega)
        rw [Int.mul_neg] at q2
        have hy := Int.mul_neg_of_pos_of_neg (show 0 < a by omega) bn
        generalize a * b = y at q2 hy
        simp only [ha'.1, ha'.2, hb'.1, hb'.2, a0, b0, bn, an, decide_true, decide_false, cond_true, cond_false, Bool.not_true, Bool.not_false, Int.zero_sub, e1, q1, q2]
        by_cases c : -y ≤ 4611686018427387904
        · simp [c, le_tup2, wrapE, b0] <;> (try omega) <;> (and_intros <;> intros <;> (try split) <;> omega)
        · simp [c, le_tup2, wrapE, b0] <;> (try omega) <;> (and_intros <;> intros <;> (try split) <;> omega)
    · have q1 := quo_wrap (v := b) (by omega)
      by_cases an : a < 0
      · have e2 : IntKind.i64.wrap (-a) = -a := by rw [wrapE]; omega
        have q2 := quo_iff (u := -a) (v := b) (by omega)
        rw [Int.neg_mul] at q2
        have hy := Int.mul_neg_of_neg_of_pos an (show 0 < b by omega)
        generalize a * b = y at q2 hy
        simp only [ha'.1, ha'.2, hb'.1, hb'.2, a0, b0, bn, an, decide_true, decide_false, cond_true, cond_false, Bool.not_true, Bool.not_false, Int.zero_sub, e2, q1, q2]
        by_cases c : -y ≤ 4611686018427387904
        · simp [c, le_tup2, wrapE, b0] <;> (try omega) <;> (and_intros <;> intros <;> (try split) <;> omega)
        · simp [c, le_tup2, wrapE, b0] <;> (try omega) <;> (and_intros <;> intros <;> (try split) <;> omega)
      · have q2 := quo_iff (u := a) (v := b) (by omega)
        have hy := Int.mul_pos (show 0 < a by omega) (show 0 < b by omega)
        generalize a * b = y at q2 hy
        simp only [ha'.1, ha'.2, hb'.1, hb'.2, a0, b0, bn, an, decide_true, decide_false, cond_true, cond_false, Bool.not_true, Bool.not_false, Int.zero_sub, q1, q2]
        by_cases c : y ≤ 4611686018427387904
        · simp [c, le_tup2, wrapE, b0] <;> (try omega) <;> (and_intros <;> intros <;> (try split) <;> omega)
        · simp [c, le_tup2, wrapE, b0] <;> (try omega) <;> (and_intros <;> intros <;> (try split) <;> omega)⟩
end Go.Eng.U
