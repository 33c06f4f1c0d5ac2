/- Plain facts on sets of bits. -/
import Derived.Test.YtnpfcaecaflfbaaDoorEngY
namespace Go.Eng.M
open Go
set_option linter.unusedSimpArgs false
set_option linter.unusedVariables false

def bitsL (s : Nat) : List Nat := (List.range 32).filter fun i => s.testBit i
theorem mem_bitsL {s i : Nat} (h : s < 2 ^ 32) : i ∈ bitsL s ↔ s.testBit i = true := by
  unfold bitsL
  rw [List.mem_filter, List.mem_range]
  refine ⟨fun h => h.2, fun hb => ⟨?_, hb⟩⟩
  rcases Nat.lt_or_ge i 32 with hi | hi
  · exact hi
  · rw [Nat.testBit_lt_two_pow (Nat.lt_of_lt_of_le h (Nat.pow_le_pow_right (by decide) hi))] at hb; simp at hb

/-- the lowest bit -/
theorem low_split {s t : Nat} (ht : s.testBit t = true) (hlo : ∀ i, i < t → s.testBit i = false) : ∃ q, s = 2 ^ t * (2 * q + 1) := by
  have h1 : s % 2 ^ t = 0 := by
    apply Nat.eq_of_testBit_eq
    intro i
    rw [Nat.testBit_mod_two_pow, Nat.zero_testBit]
    by_cases hi : i < t
    · simp [hi, hlo i hi]
    · simp [hi]
  have h2 : s / 2 ^ t % 2 = 1 := by
    have := ht
    rw [Nat.testBit_eq_decide_div_mod_eq] at this
    simpa using this
  refine ⟨s / 2 ^ t / 2, ?_⟩
  have h3 := Nat.div_add_mod s (2 ^ t)
  rw [h1] at h3
  have h4 := Nat.div_add_mod (s / 2 ^ t) 2
  rw [h2] at h4
  rw [h4]; omega
theorem pred_bit {s t : Nat} (ht : s.testBit t = true) (hlo : ∀ i, i < t → s.testBit i = false) (i : Nat) : (s - 1).testBit i = if i < t then true else if i = t then false else s.testBit i := by
  obtain ⟨q, rfl⟩ := low_split ht hlo
  have hp : 0 < 2 ^ t := Nat.two_pow_pos t
  have e : 2 ^ t * (2 * q + 1) - 1 = 2 ^ t * (2 * q) + (2 ^ t - 1) := by rw [Nat.mul_add, Nat.mul_one]; omega
  rw [e, Nat.testBit_two_pow_mul_add _ (by omega)]
  by_cases hi : i < t
  · simp [hi, Nat.testBit_two_pow_sub_one]
  · simp only [hi, if_false]
    have h2 : (2 ^ t * (2 * q + 1)).testBit i = (2 * q + 1).testBit (i - t) := by
      have := Nat.testBit_two_pow_mul_add (2 * q + 1) hp i (b := 0)
      rw [Nat.add_zero] at this
      rw [this]; simp [hi]
    rw [h2]
    by_cases he : i = t
    · subst he; simp [Nat.testBit_zero]
    · simp only [he, if_false]
      obtain ⟨d, rfl⟩ : ∃ d, i = t + (d + 1) := ⟨i - t - 1, by omega⟩
      rw [show t + (d + 1) - t = d + 1 by omega, Nat.testBit_succ, Nat.testBit_succ]
      congr 1
      omega

theorem filter_head {p : Nat → Bool} : ∀ {l : List Nat}, l.Pairwise (· < ·) → ∀ {t : Nat} {r : List Nat}, l.filter p = t :: r → p t = true ∧ (∀ i ∈ l, i < t → p i = false) ∧ r = l.filter fun i => p i && decide (i ≠ t)
  | [], _, t, r, h => by simp at h
  | x :: l, hp, t, r, h => by
    obtain ⟨hx, hl⟩ := List.pairwise_cons.1 hp
    by_cases hpx : p x = true
    · rw [List.filter_cons_of_pos hpx] at h
      simp only [List.cons.injEq] at h
      obtain ⟨rfl, rfl⟩ := h
      refine ⟨hpx, fun i hi hlt => ?_, ?_⟩
      · rcases List.mem_cons.1 hi with rfl | hi
        · omega
        · have := hx i hi; omega
      · rw [List.filter_cons_of_neg (by simp)]
        refine List.filter_congr fun i hi => ?_
        have := hx i hi
        have hne : i ≠ x := by omega
        simp [hne]
    · rw [List.filter_cons_of_neg hpx] at h
      obtain ⟨h1, h2, h3⟩ := filter_head hl h
      have hx' : p x = false := by simpa using hpx
      refine ⟨h1, fun i hi hlt => ?_, ?_⟩
      · rcases List.mem_cons.1 hi with rfl | hi
        · exact hx'
        · exact h2 i hi hlt
      · rw [List.filter_cons_of_neg (by simp [hx'])]; exact h3

theorem bitsL_zero : bitsL 0 = [] := by decide
theorem bitsL_ne {s : Nat} (h0 : s ≠ 0) (h : s < 2 ^ 32) : bitsL s ≠ [] := by
  intro he
  apply h0
  apply Nat.eq_of_testBit_eq
  intro i
  rw [Nat.zero_testBit]
  cases hb : s.testBit i with
  | false => rfl
  | true => have := (mem_bitsL h).2 hb; rw [he] at this; simp at this
/-- the lowest first -/
theorem bitsL_step {s : Nat} (h0 : s ≠ 0) (h : s < 2 ^ 32) : ∃ t, t < 32 ∧ bitsL s = t :: bitsL (s &&& (s - 1)) ∧ s.testBit t = true ∧ (∀ i, i < t → s.testBit i = false) := by
  cases hb : bitsL s with
  | nil => exact absurd hb (bitsL_ne h0 h)
  | cons t r =>
    have hb' := hb
    unfold bitsL at hb
    obtain ⟨h1, h2, h3⟩ := filter_head List.pairwise_lt_range hb
    have ht : t < 32 := by
      have : t ∈ bitsL s := by rw [hb']; simp
      unfold bitsL at this
      exact List.mem_range.1 (List.mem_filter.1 this).1
    have hlo : ∀ i, i < t → s.testBit i = false := fun i hi => h2 i (by simp; omega) hi
    refine ⟨t, ht, ?_, h1, hlo⟩
    rw [h3]
    congr 1
    unfold bitsL
    refine List.filter_congr fun i hi => ?_
    rw [Nat.testBit_and, pred_bit h1 hlo]
    by_cases hlt : i < t
    · simp [hlt, hlo i hlt]
    · by_cases he : i = t
      · simp [he]
      · simp [hlt, he]

/-- the lowest bit alone -/
theorem low_bit {s t : Nat} (h0 : s ≠ 0) (h : s < 2 ^ 32) (ht : s.testBit t = true) (hlo : ∀ i, i < t → s.testBit i = false) : s &&& (2 ^ 32 - s) = 2 ^ t := by
  apply Nat.eq_of_testBit_eq
  intro i
  have hs : 2 ^ 32 - s = 2 ^ 32 - ((s - 1) + 1) := by omega
  rw [Nat.testBit_and, hs, Nat.testBit_two_pow_sub_succ (by omega), pred_bit ht hlo, Nat.testBit_two_pow]
  have ht32 : t < 32 := by
    rcases Nat.lt_or_ge t 32 with hi | hi
    · exact hi
    · rw [Nat.testBit_lt_two_pow (Nat.lt_of_lt_of_le h (Nat.pow_le_pow_right (by decide) hi))] at ht; simp at ht
  by_cases hlt : i < t
  · simp [hlt, hlo i hlt]; omega
  · by_cases he : i = t
    · subst he; simp [ht, ht32]
    · have he' : ¬ t = i := fun e => he e.symm
      cases hb : s.testBit i <;> simp [hlt, he, he', hb]

/-! ### Go's integers of 32 bits without a sign -/
theorem wrap_u32 {n : Int} (h : 0 ≤ n) (h' : n < 4294967296) : IntKind.u32.wrap n = n := by
  simp [IntKind.wrap, IntKind.signed, IntKind.bits]; omega
theorem wrap_u32_nat (n : Nat) : IntKind.u32.wrap (n : Int) = ((n % 2 ^ 32 : Nat) : Int) := by
  simp [IntKind.wrap, IntKind.signed, IntKind.bits]
theorem ofInt_nat (a : Nat) (h : a < 2 ^ 32) : (BitVec.ofInt 32 (a : Int)).toNat = a := by
  simp [BitVec.toNat_ofInt]; omega
theorem and_u32 (a b : Nat) (ha : a < 2 ^ 32) (hb : b < 2 ^ 32) : bitI .and .u32 (a : Int) (b : Int) = ((a &&& b : Nat) : Int) := by
  show IntKind.u32.wrap (((BitVec.ofInt 32 (a : Int) &&& BitVec.ofInt 32 (b : Int)).toNat : Nat) : Int) = _
  rw [BitVec.toNat_and, ofInt_nat a ha, ofInt_nat b hb, wrap_u32_nat, Nat.mod_eq_of_lt (Nat.lt_of_le_of_lt Nat.and_le_left ha)]
theorem or_u32 (a b : Nat) (ha : a < 2 ^ 32) (hb : b < 2 ^ 32) : bitI .or .u32 (a : Int) (b : Int) = ((a ||| b : Nat) : Int) := by
  show IntKind.u32.wrap (((BitVec.ofInt 32 (a : Int) ||| BitVec.ofInt 32 (b : Int)).toNat : Nat) : Int) = _
  rw [BitVec.toNat_or, ofInt_nat a ha, ofInt_nat b hb, wrap_u32_nat, Nat.mod_eq_of_lt (Nat.or_lt_two_pow ha hb)]

def deb : List Int := [0, 1, 28, 2, 29, 14, 24, 3, 30, 22, 20, 15, 25, 17, 4, 8, 31, 27, 13, 23, 21, 19, 16, 7, 26, 12, 18, 6, 11, 5, 10, 9]
theorem deb_all : ∀ t : Fin 32, (2 ^ t.val * 125613361 % 2 ^ 32 / 2 ^ 27 < 32) ∧ deb.getD (2 ^ t.val * 125613361 % 2 ^ 32 / 2 ^ 27) 0 = (t.val : Int) := by decide
def tz (s : Int) : Int := (((bitsL s.toNat).headD 32 : Nat) : Int)
theorem tz_step {n : Nat} (h0 : n ≠ 0) (h : n < 2 ^ 32) : bitsL n = (tz n).toNat :: bitsL (n &&& (n - 1)) ∧ 0 ≤ tz n ∧ tz n < 32 := by
  obtain ⟨t, ht, hb, _, _⟩ := bitsL_step h0 h
  have e : tz n = t := by unfold tz; rw [Int.toNat_natCast, hb]; rfl
  rw [e, hb]
  exact ⟨by simp, by omega, by omega⟩
theorem tz_table {s : Int} (h0 : s ≠ 0) (hlo : 0 ≤ s) (hhi : s < 4294967296) :
    0 ≤ (IntKind.u32.wrap (bitI .and .u32 s (IntKind.u32.wrap (0 - s)) * 125613361)).fdiv (2 ^ min (Int.toNat 27) IntKind.u32.bits) ∧
    (IntKind.u32.wrap (bitI .and .u32 s (IntKind.u32.wrap (0 - s)) * 125613361)).fdiv (2 ^ min (Int.toNat 27) IntKind.u32.bits) < 32 ∧
    IntKind.i64.wrap (deb.getD ((IntKind.u32.wrap (bitI .and .u32 s (IntKind.u32.wrap (0 - s)) * 125613361)).fdiv (2 ^ min (Int.toNat 27) IntKind.u32.bits)).toNat 0) = tz s := by
  obtain ⟨n, rfl⟩ := Int.eq_ofNat_of_zero_le hlo
  have hn0 : n ≠ 0 := fun e => h0 (by rw [e]; rfl)
  have hn : n < 2 ^ 32 := by omega
  obtain ⟨t, ht, hb, h1, h2⟩ := bitsL_step hn0 hn
  have e1 : IntKind.u32.wrap (0 - (n : Int)) = ((2 ^ 32 - n : Nat) : Int) := by
    simp [IntKind.wrap, IntKind.signed, IntKind.bits]; omega
  have e2 : bitI .and .u32 (n : Int) (IntKind.u32.wrap (0 - (n : Int))) = ((2 ^ t : Nat) : Int) := by
    rw [e1, and_u32 _ _ hn (by omega), low_bit hn0 hn h1 h2]
  have e3 : IntKind.u32.wrap (bitI .and .u32 (n : Int) (IntKind.u32.wrap (0 - (n : Int))) * 125613361) = ((2 ^ t * 125613361 % 2 ^ 32 : Nat) : Int) := by
    rw [e2, show ((2 ^ t : Nat) : Int) * 125613361 = ((2 ^ t * 125613361 : Nat) : Int) by simp, wrap_u32_nat]
  have e4 : (IntKind.u32.wrap (bitI .and .u32 (n : Int) (IntKind.u32.wrap (0 - (n : Int))) * 125613361)).fdiv (2 ^ min (Int.toNat 27) IntKind.u32.bits) = ((2 ^ t * 125613361 % 2 ^ 32 / 2 ^ 27 : Nat) : Int) := by
    rw [e3]
    have : (2 ^ min (Int.toNat 27) IntKind.u32.bits : Int) = ((2 ^ 27 : Nat) : Int) := by decide
    rw [this]
    rw [Int.fdiv_eq_ediv_of_nonneg _ (by omega)]
    rfl
  rw [e4]
  obtain ⟨d1, d2⟩ := deb_all ⟨t, ht⟩
  refine ⟨by omega, by exact_mod_cast d1, ?_⟩
  rw [Int.toNat_natCast, d2]
  unfold tz
  rw [Int.toNat_natCast, hb]
  simp only [List.headD_cons]
  simp [IntKind.wrap, IntKind.signed, IntKind.bits]
  omega
/-! ### lists of integers as blocks -/
def ints (g : Nat → Int) : Nat → List AV := fun i => [.v (.int .i64 (g i))]
theorem ints_len (g : Nat → Int) (e : Nat) : (ints g e).length = 1 := rfl
def getI : List AV → Int
  | [.v (.int _ x)] => x
  | _ => 0
open Classical in
noncomputable def isInts (f : Nat → List AV) : Bool := decide (∀ i, ∃ x, f i = [.v (.int .i64 x)])
open Classical in
theorem isInts_eq {f : Nat → List AV} (h : isInts f = true) : f = ints fun i => getI (f i) := by
  unfold isInts at h
  have := of_decide_eq_true h
  funext i
  obtain ⟨x, hx⟩ := this i
  simp only [ints, hx, getI]
open Classical in
theorem isInts_ints (g : Nat → Int) : isInts (ints g) = true := by
  unfold isInts
  exact decide_eq_true fun i => ⟨g i, rfl⟩

@[simp] theorem getI_ints (g : Nat → Int) (j : Nat) : getI (ints g j) = g j := rfl
@[simp] theorem getI_one (k : IntKind) (x : Int) : getI [.v (.int k x)] = x := rfl
theorem ints_congr {g g' : Nat → Int} {j : Nat} (h : g j = g' j) : ints g j = ints g' j := by simp only [ints, h]
theorem out_eq {ex : AEx} {fr fr' : List AV} {H H' : Heap} (h : fr = fr') (h' : H = H') : some (Out.mk ex fr H) = some (Out.mk ex fr' H') := by rw [h, h']
theorem arr_eq {sz n n' : Nat} {f f' : Nat → List AV} (hn : n = n') (h : ∀ j, f j = f' j) : some (Blk.arr sz n f) = some (Blk.arr sz n' f') := by rw [hn, show f = f' from funext h]
def inU32 (s : Int) : Bool := decide (0 ≤ s) && decide (s < 4294967296)
theorem inU32_iff {s : Int} : inU32 s = true ↔ 0 ≤ s ∧ s < 4294967296 := by simp [inU32]
def pc (s : Int) : Nat := (bitsL s.toNat).length
def nth (s : Int) (j : Nat) : Int := (((bitsL s.toNat).getD j 0 : Nat) : Int)
theorem pc_zero : pc 0 = 0 := by decide
/-- a set without its lowest -/
def less (s : Int) : Int := bitI .and .u32 s (IntKind.u32.wrap (s - 1))
theorem less_eq {s : Int} (h0 : s ≠ 0) (h : inU32 s = true) : inU32 (less s) = true ∧ bitsL s.toNat = (tz s).toNat :: bitsL (less s).toNat ∧ 0 ≤ tz s ∧ tz s < 32 := by
  obtain ⟨h1, h2⟩ := inU32_iff.1 h
  obtain ⟨n, rfl⟩ := Int.eq_ofNat_of_zero_le h1
  have hn0 : n ≠ 0 := fun e => h0 (by rw [e]; rfl)
  have hn : n < 2 ^ 32 := by omega
  have e1 : IntKind.u32.wrap ((n : Int) - 1) = ((n - 1 : Nat) : Int) := by
    rw [wrap_u32 (by omega) (by omega)]; omega
  have e2 : less (n : Int) = ((n &&& (n - 1) : Nat) : Int) := by
    unfold less
    rw [e1, and_u32 _ _ hn (by omega)]
  have hlt : n &&& (n - 1) < 2 ^ 32 := Nat.lt_of_le_of_lt Nat.and_le_left hn
  obtain ⟨k1, k2, k3⟩ := tz_step hn0 hn
  rw [e2, Int.toNat_natCast, Int.toNat_natCast]
  exact ⟨inU32_iff.2 ⟨by omega, by omega⟩, k1, k2, k3⟩
theorem pc_step {s : Int} (h0 : s ≠ 0) (h : inU32 s = true) : pc s = pc (less s) + 1 := by
  unfold pc; rw [(less_eq h0 h).2.1]; rfl
theorem nth_step {s : Int} (h0 : s ≠ 0) (h : inU32 s = true) (j : Nat) : nth s j = bif Nat.beq j 0 then tz s else nth (less s) (j - 1) := by
  obtain ⟨_, h2, h3, _⟩ := less_eq h0 h
  unfold nth
  rw [h2]
  cases j with
  | zero => simp [Nat.beq_refl]; omega
  | succ j => simp [show (j + 1).beq 0 = false from rfl]
theorem room8 {b n : Nat} (hb : b = 8) (h : n ≤ 1000000000) : roomOk b n = true := by
  subst hb
  unfold roomOk
  exact decide_eq_true (by omega)
end Go.Eng.M
