/- num: products by halves: the document's Mul. -/
import Derived.Test.YtffpnoieklnejaaU9
namespace Go.Eng.U
open Go Go.Eng Go.Proofs Go.Eng.M
set_option linter.unusedSimpArgs false
set_option linter.unusedVariables false
def mulOk (a b : Int) : Bool := inN a && inN b && inN (a * b)
def mulF (a b : Int) : Int := bif mulOk a b then a * b else 0
def mulE (a b : Int) : Int := bif mulOk a b then 0 else 10
theorem mul_of {a b x : Int} (ha : inN a = true) (hb : inN b = true) (hx : a * b = x) : mulF a b = (if (-4611686018427387904 ≤ x ∧ x ≤ 4611686018427387904) then x else 0) ∧ mulE a b = (if (-4611686018427387904 ≤ x ∧ x ≤ 4611686018427387904) then 0 else 10) := by
  subst hx
  unfold mulF mulE mulOk
  rw [ha, hb]
  by_cases h : (-4611686018427387904 ≤ a * b ∧ a * b ≤ 4611686018427387904)
  · rw [inN_iff.2 h, if_pos h, if_pos h]; exact ⟨rfl, rfl⟩
  · have : inN (a * b) = false := by
      cases hh : inN (a * b) with
      | false => rfl
      | true => exact absurd (inN_iff.1 hh) h
    rw [this, if_neg h, if_neg h]; exact ⟨rfl, rfl⟩
theorem mul_no {a b : Int} (h : (inN a && inN b) = false) : mulF a b = 0 ∧ mulE a b = 10 := by
  unfold mulF mulE mulOk
  rw [h]; exact ⟨rfl, rfl⟩
theorem add_of {a b : Int} (ha : inN a = true) (hb : inN b = true) : addF a b = (if (-4611686018427387904 ≤ a + b ∧ a + b ≤ 4611686018427387904) then a + b else 0) ∧ addE a b = (if (-4611686018427387904 ≤ a + b ∧ a + b ≤ 4611686018427387904) then 0 else 10) := by
  unfold addF addE addOk
  rw [ha, hb]
  by_cases h : (-4611686018427387904 ≤ a + b ∧ a + b ≤ 4611686018427387904)
  · rw [inN_iff.2 h, if_pos h, if_pos h]; exact ⟨rfl, rfl⟩
  · have : inN (a + b) = false := by
      cases hh : inN (a + b) with
      | false => rfl
      | true => exact absurd (inN_iff.1 hh) h
    rw [this, if_neg h, if_neg h]; exact ⟨rfl, rfl⟩
/-- the half and its product -/
theorem half {a b : Int} (hb : 2 ≤ b) : ∃ h r : Int, b.tdiv 2 = h ∧ b.tmod 2 = r ∧ b = 2 * h + r ∧ (r = 0 ∨ r = 1) ∧ 1 ≤ h ∧ a * b = 2 * (a * h) + r * a ∧ (0 < a → a ≤ a * h) ∧ (a < 0 → a * h ≤ a) ∧ (a = 0 → a * h = 0) := by
  refine ⟨b / 2, b % 2, Int.tdiv_eq_ediv_of_nonneg (by omega), Int.tmod_eq_emod_of_nonneg (by omega), by omega, by omega, by omega, ?_, fun ha => ?_, fun ha => ?_, fun ha => by rw [ha, Int.zero_mul]⟩
  · have e : b = 2 * (b / 2) + b % 2 := by omega
    calc a * b = a * (2 * (b / 2) + b % 2) := by rw [← e]
      _ = 2 * (a * (b / 2)) + b % 2 * a := by rw [Int.mul_add, Int.mul_left_comm, Int.mul_comm a (b % 2)]
  · have := Int.mul_le_mul_of_nonneg_left (show 1 ≤ b / 2 by omega) (Int.le_of_lt ha)
    rwa [Int.mul_one] at this
  · have := Int.mul_le_mul_of_nonpos_left (Int.le_of_lt ha) (show 1 ≤ b / 2 by omega)
    rwa [Int.mul_one] at this
def GM (a b : Int) : AV := .tup [.v (.int .i64 (mulF a b)), .v (.int .i64 (mulE a b))]
theorem lawMul (T0 : List (CT Try.prog Γu)) (pre : Int → Int → Bool) (hs : ∀ a b, pre a b = true → Gives (bodyE T0 Lno false 70 [.tmp 4, .tmp 5] (bodyOf Try.f20) [.v (.int .i64 a), .v (.int .i64 b)] []) (.tup [.v (.int .i64 (mulF a b)), .v (.int .i64 (mulE a b))])) (a b : Int)
    (h1 : inN b = true → b < 0 → pre a (-b) = true) (h2 : inN b = true → 2 ≤ b → pre a (b.tdiv 2) = true) :
    Gives (bodyE (P := Try.prog) (Γ := Γu) [S.c25, mulP T0 pre (fun a b => .tup [.v (.int .i64 (mulF a b)), .v (.int .i64 (mulE a b))]) hs, c16'] Lno false 70 [.tmp 4, .tmp 5] (bodyOf Try.f20) [.v (.int .i64 a), .v (.int .i64 b)] []) (.tup [.v (.int .i64 (mulF a b)), .v (.int .i64 (mulE a b))]) := ⟨by
  rw [run20]
  cases hab : (inN a && inN b) with
  | false =>
    obtain ⟨e1, e2⟩ := mul_no hab
    rw [e1, e2]
    have : (bif !bif decide ((-4611686018427387904 : Int) ≤ a) then decide (a ≤ (4611686018427387904 : Int)) else false then true
      else !bif decide ((-4611686018427387904 : Int) ≤ b) then decide (b ≤ (4611686018427387904 : Int)) else false) = true := by
      have e : (bif !bif decide ((-4611686018427387904 : Int) ≤ a) then decide (a ≤ (4611686018427387904 : Int)) else false then true
        else !bif decide ((-4611686018427387904 : Int) ≤ b) then decide (b ≤ (4611686018427387904 : Int)) else false) = !(inN a && inN b) := by
        unfold inN
        cases decide ((-4611686018427387904 : Int) ≤ a) <;> cases decide (a ≤ (4611686018427387904 : Int)) <;> cases decide ((-4611686018427387904 : Int) ≤ b) <;> cases decide (b ≤ (4611686018427387904 : Int)) <;> rfl
      rw [e, hab]; rfl
    rw [this]
    simp only [Tree.sat_br, Tree.sat_leaf, LeH_nil, and_true, le_tup2]
    exact ⟨fun _ => trivial, fun h => absurd h (by decide)⟩
  | true =>
    simp only [Bool.and_eq_true] at hab
    obtain ⟨ha, hb⟩ := hab
    have ha' := inN_iff.1 ha
    have hb' := inN_iff.1 hb
    have hin : (bif !bif decide ((-4611686018427387904 : Int) ≤ a) then decide (a ≤ (4611686018427387904 : Int)) else false then true
      else !bif decide ((-4611686018427387904 : Int) ≤ b) then decide (b ≤ (4611686018427387904 : Int)) else false) = false := by
      rw [decide_eq_true ha'.1, decide_eq_true ha'.2, decide_eq_true hb'.1, decide_eq_true hb'.2]; rfl
    rw [hin]
    simp only [Tree.sat_br, Tree.sat_leaf, Tree.sat_chk, LeH_nil, and_true, le_tup2, decide_eq_true_eq, decide_eq_false_iff_not, Bool.and_eq_true, true_and]
    refine ⟨fun h => absurd h (by decide), fun _ => ⟨fun hneg => ?_, fun hpos => ⟨fun hz => ?_, fun hnz => ⟨fun h1' => ?_, fun hn1 => ?_⟩⟩⟩⟩
    · have e : IntKind.i64.wrap (0 - b) = -b := by rw [wrapE]; omega
      rw [e]
      have hnb : inN (-b) = true := inN_iff.2 ⟨by omega, by omega⟩
      obtain ⟨k1, k2⟩ := mul_of ha hnb (x := -(a * b)) (by rw [Int.mul_neg])
      obtain ⟨k3, k4⟩ := mul_of ha hb rfl
      refine ⟨h1 hb hneg, ?_⟩
      rw [k1, k2, k3, k4]
      generalize a * b = x
      rw [wrapE]
      constructor <;> (repeat' split) <;> omega
    · have hz' : b = 0 ∨ a = 0 := by
        by_cases h0 : b = 0
        · exact .inl h0
        · rw [decide_eq_false h0] at hz; exact .inr (of_decide_eq_true hz)
      obtain ⟨k3, k4⟩ := mul_of ha hb (x := 0) (by rcases hz' with h0 | h0 <;> rw [h0] <;> simp)
      rw [k3, k4]; decide
    · obtain ⟨k3, k4⟩ := mul_of ha hb (x := a) (by rw [h1', Int.mul_one])
      rw [k3, k4, if_pos ha', if_pos ha']; exact ⟨rfl, rfl⟩
    · have hb0 : b ≠ 0 := fun h0 => by rw [decide_eq_true h0] at hnz; simp at hnz
      have ha0 : a ≠ 0 := fun h0 => by rw [decide_eq_false hb0, decide_eq_true h0] at hnz; simp at hnz
      obtain ⟨h, r, e1, e2, e3, e4, e5, e6, e7, e8, _⟩ := half (a := a) (b := b) (by omega)
      have hh : inN h = true := inN_iff.2 ⟨by omega, by omega⟩
      have hp := h2 hb (by omega)
      rw [e1] at hp ⊢
      have ew : IntKind.i64.wrap h = h := by rw [wrapE]; omega
      rw [ew, e2]
      obtain ⟨k1, k2⟩ := mul_of ha hh (x := a * h) rfl
      obtain ⟨k3, k4⟩ := mul_of ha hb (x := 2 * (a * h) + r * a) e6
      have er : r * a = (if r = 0 then 0 else a) := by rcases e4 with rfl | rfl <;> simp
      rw [er] at k3 k4
      rw [k1, k2, k3, k4]
      generalize a * h = x at e7 e8
      refine ⟨hp, ?_⟩
      by_cases c1 : (-4611686018427387904 ≤ x ∧ x ≤ 4611686018427387904)
      · have hx : inN x = true := inN_iff.2 c1
        obtain ⟨k5, k6⟩ := add_of hx hx
        simp only [if_pos c1]
        rw [k5, k6]
        refine ⟨fun h0 => by simp at h0, fun _ => ⟨by simp, fun hc => ?_, fun hc => ?_⟩⟩
        · by_cases c2 : (-4611686018427387904 ≤ x + x ∧ x + x ≤ 4611686018427387904)
          · simp only [if_pos c2] at hc ⊢
            have hr : r = 1 := by
              simpa using hc
            subst hr
            obtain ⟨k7, k8⟩ := add_of (inN_iff.2 c2) ha
            rw [k7, k8]
            simp only [show ¬ ((1 : Int) = 0) by decide, if_false]
            constructor <;> (repeat' split) <;> omega
          · simp only [if_neg c2] at hc
            exact absurd hc (by simp)
        · by_cases c2 : (-4611686018427387904 ≤ x + x ∧ x + x ≤ 4611686018427387904)
          · simp only [if_pos c2] at hc ⊢
            have hr : r = 0 := by
              have : ¬ r = 1 := by simpa using hc
              omega
            subst hr
            simp only [if_true]
            constructor <;> (repeat' split) <;> omega
          · simp only [if_neg c2]
            rcases e4 with rfl | rfl
            · simp only [if_true]
              constructor <;> (repeat' split) <;> omega
            · simp only [show ¬ ((1 : Int) = 0) by decide, if_false]
              constructor <;> (repeat' split) <;> omega
      · simp only [if_neg c1]
        refine ⟨fun _ => ?_, fun h0 => absurd h0 (by simp)⟩
        rcases e4 with rfl | rfl <;> simp <;> omega⟩
/-- a level of the recursion: what stands below, and what it answers where b lies within k bits -/
def preK (k : Nat) (a b : Int) : Bool := decide (0 ≤ b) && decide (b < 2 ^ k)
noncomputable def mulT : (k : Nat) → { T0 : List (CT Try.prog Γu) // ∀ a b, preK k a b = true → Gives (bodyE T0 Lno false 70 [.tmp 4, .tmp 5] (bodyOf Try.f20) [.v (.int .i64 a), .v (.int .i64 b)] []) (.tup [.v (.int .i64 (mulF a b)), .v (.int .i64 (mulE a b))]) }
  | 0 => ⟨[S.c25, mulP [] (fun _ _ => false) (fun a b => .tup [.v (.int .i64 (mulF a b)), .v (.int .i64 (mulE a b))]) (fun _ _ h => absurd h (by decide)), c16'], fun a b h => lawMul _ _ _ a b (fun _ hb => by
      simp only [preK, Bool.and_eq_true, decide_eq_true_eq] at h; omega) (fun _ hb => by
      simp only [preK, Bool.and_eq_true, decide_eq_true_eq] at h
      have : (2 : Int) ^ 0 = 1 := rfl
      omega)⟩
  | k + 1 => ⟨[S.c25, mulP (mulT k).1 (preK k) (fun a b => .tup [.v (.int .i64 (mulF a b)), .v (.int .i64 (mulE a b))]) (mulT k).2, c16'], fun a b h => lawMul _ _ _ a b (fun _ hb => by
      simp only [preK, Bool.and_eq_true, decide_eq_true_eq] at h; omega) (fun _ hb => by
      simp only [preK, Bool.and_eq_true, decide_eq_true_eq] at h ⊢
      rw [Int.tdiv_eq_ediv_of_nonneg (by omega)]
      have e : (2 : Int) ^ (k + 1) = 2 * 2 ^ k := by rw [Int.pow_succ, Int.mul_comm]
      rw [e] at h
      omega)⟩
noncomputable def c20' : CT Try.prog Γu := mulP [S.c25, mulP (mulT 63).1 (preK 63) (fun a b => .tup [.v (.int .i64 (mulF a b)), .v (.int .i64 (mulE a b))]) (mulT 63).2, c16'] (fun _ _ => true) (fun a b => .tup [.v (.int .i64 (mulF a b)), .v (.int .i64 (mulE a b))])
  (fun a b _ => lawMul _ _ _ a b (fun hin hb => by
      have h := inN_iff.1 hin
      simp only [preK, Bool.and_eq_true, decide_eq_true_eq]
      have e : (2 : Int) ^ 63 = 9223372036854775808 := by decide
      rw [e]; omega) (fun hin hb => by
      have h := inN_iff.1 hin
      simp only [preK, Bool.and_eq_true, decide_eq_true_eq]
      have e : (2 : Int) ^ 63 = 9223372036854775808 := by decide
      rw [e, Int.tdiv_eq_ediv_of_nonneg (by omega)]; omega))
end Go.Eng.U
