/- Plain facts on sets of bits: a set's list rises, and makes it again. -/
import Derived.Test.YthnbpcmajdinpaaDoorTestQ11
namespace Go.Eng.M
open Go Go.Eng.Q
set_option linter.unusedSimpArgs false
set_option linter.unusedVariables false

open Classical in
noncomputable def sameF (f : Nat → List AV) (g : Nat → Int) : Bool := decide (f = ints g)
open Classical in
theorem sameF_iff {f : Nat → List AV} {g : Nat → Int} : sameF f g = true ↔ f = ints g := by unfold sameF; exact decide_eq_true_iff
theorem bitsL_sorted (s : Nat) : (bitsL s).Pairwise (· < ·) := List.Pairwise.filter _ List.pairwise_lt_range
theorem nth_mem {s : Int} {j : Nat} (h : j < pc s) : ∃ t : Nat, nth s j = t ∧ t ∈ bitsL s.toNat ∧ (bitsL s.toNat)[j]? = some t := by
  have h' : j < (bitsL s.toNat).length := h
  refine ⟨(bitsL s.toNat)[j], ?_, List.getElem_mem h', by simp [h']⟩
  unfold nth
  rw [List.getD_eq_getElem?_getD]; simp [h']
theorem nth_ok {s : Int} (hs : inU32 s = true) {j : Nat} (h : j < pc s) : okB (nth s j) = true ∧ tb s (nth s j).toNat = true := by
  obtain ⟨t, e, ht, _⟩ := nth_mem h
  obtain ⟨n, rfl, hn⟩ := u32_nat hs
  rw [Int.toNat_natCast] at ht
  have h1 := (mem_bitsL hn).1 ht
  have h2 : t < 32 := by
    unfold bitsL at ht
    exact List.mem_range.1 (List.mem_filter.1 ht).1
  rw [e]
  exact ⟨okB_iff.2 ⟨by omega, by omega⟩, by simpa [tb] using h1⟩
theorem nth_lt {s : Int} {i j : Nat} (hij : i < j) (h : j < pc s) : nth s i < nth s j := by
  obtain ⟨t, e, _, ht⟩ := nth_mem (s := s) (j := i) (by omega)
  obtain ⟨u, e', _, hu⟩ := nth_mem h
  obtain ⟨l1, h1⟩ := List.getElem?_eq_some_iff.1 ht
  obtain ⟨l2, h2⟩ := List.getElem?_eq_some_iff.1 hu
  have := List.pairwise_iff_getElem.1 (bitsL_sorted s.toNat) i j l1 l2 hij
  rw [h1, h2] at this
  rw [e, e']; omega
def upto (s : Int) : Nat → Int
  | 0 => 0
  | i + 1 => putU (upto s i) (nth s i)
theorem tb_put {s k : Int} (hs : inU32 s = true) (hk : okB k = true) : inU32 (putU s k) = true ∧ ∀ i, tb (putU s k) i = (tb s i || decide (i = k.toNat)) := by
  unfold putU
  rw [hk, cond_true]
  obtain ⟨h1, h2⟩ := tb_or hs (pow_one hk).2
  refine ⟨h1, fun i => ?_⟩
  refine (h2 i).trans ?_
  have e : tb ((2 ^ k.toNat : Nat) : Int) i = decide (i = k.toNat) := by
    unfold tb
    rw [Int.toNat_natCast, Nat.testBit_two_pow]
    by_cases h : k.toNat = i
    · simp [h]
    · have : ¬ i = k.toNat := fun e => h e.symm
      simp [h, this]
  rw [e]
theorem upto_ok {s : Int} (hs : inU32 s = true) : ∀ i, i ≤ pc s → inU32 (upto s i) = true ∧ ∀ t, tb (upto s i) t = true ↔ ∃ j, j < i ∧ (nth s j).toNat = t := by
  intro i
  induction i with
  | zero => intro _; exact ⟨(by decide : inU32 0 = true), fun t => by simp [upto, tb]⟩
  | succ i ih =>
    intro hi
    obtain ⟨h1, h2⟩ := ih (by omega)
    obtain ⟨k1, k2⟩ := tb_put h1 (nth_ok hs (j := i) (by omega)).1
    refine ⟨k1, fun t => ?_⟩
    show tb (putU (upto s i) (nth s i)) t = true ↔ _
    rw [k2, Bool.or_eq_true, h2, decide_eq_true_eq]
    constructor
    · rintro (⟨j, hj, e⟩ | e)
      · exact ⟨j, by omega, e⟩
      · exact ⟨i, by omega, e.symm⟩
    · rintro ⟨j, hj, e⟩
      by_cases h : j = i
      · subst h; exact .inr e.symm
      · exact .inl ⟨j, by omega, e⟩
theorem u32_ext {x y : Int} (hx : inU32 x = true) (hy : inU32 y = true) (h : ∀ t, tb x t = tb y t) : x = y := by
  obtain ⟨n, rfl, _⟩ := u32_nat hx
  obtain ⟨m, rfl, _⟩ := u32_nat hy
  have : n = m := Nat.eq_of_testBit_eq fun t => by simpa [tb] using h t
  rw [this]
theorem mem_nth {s : Int} (hs : inU32 s = true) {t : Nat} : tb s t = true ↔ ∃ j, j < pc s ∧ (nth s j).toNat = t := by
  obtain ⟨n, rfl, hn⟩ := u32_nat hs
  constructor
  · intro h
    have h1 : t ∈ bitsL n := (mem_bitsL hn).2 (by simpa [tb] using h)
    obtain ⟨j, hj, e⟩ := List.getElem_of_mem h1
    refine ⟨j, hj, ?_⟩
    unfold nth
    rw [Int.toNat_natCast, List.getD_eq_getElem?_getD]
    simp [hj, e]
  · rintro ⟨j, hj, rfl⟩
    exact (nth_ok (nat_u32 hn) hj).2
theorem upto_all {s : Int} (hs : inU32 s = true) : upto s (pc s) = s := by
  obtain ⟨h1, h2⟩ := upto_ok hs (pc s) (Nat.le_refl _)
  refine u32_ext h1 hs fun t => ?_
  have := (h2 t).trans (mem_nth hs).symm
  cases h : tb s t with
  | true => exact this.2 h
  | false =>
    cases h' : tb (upto s (pc s)) t with
    | false => rfl
    | true => rw [this.1 h'] at h; simp at h
end Go.Eng.M
