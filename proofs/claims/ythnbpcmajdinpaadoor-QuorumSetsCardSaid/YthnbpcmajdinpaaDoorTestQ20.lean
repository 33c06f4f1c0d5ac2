/- quorum.Check and the document's. -/
import Derived.Test.YthnbpcmajdinpaaDoorTestQ19
import Derived.Test.YthnbpcmajdinpaaDoorTestQ9
namespace Go.Eng.Q
open Go Go.Eng Go.Eng.M Go.Proofs
set_option linter.unusedSimpArgs false
set_option linter.unusedVariables false
theorem run22 (f s : Int) : bodyE (P := Tryd.prog) (Γ := Γq) [c13, c20] L22 false 25 [.tmp 4] (bodyOf Tryd.f22) [.v (.int .i64 f), .v (.int .u32 s)] [] =
  Tree.chk (true && true)
  (Tree.br (decide (timesF (3 : Int) f = (0 : Int)))
    (Tree.leaf { val := AV.v (Value.int IntKind.i64 (1 : Int)), H := [] })
    (Tree.chk (inU32 s)
      (Tree.chk
        (true && true && true && (pc s).beq (pc s) && true && decide ((0 : Int) ≤ (↑(pc s) : Int)) &&
          decide (pc s ≤ (1000000 : Nat)))
        (Tree.chk (isInts (ints (nth s)))
          (Tree.br (anyIn (fun j => decide (timesF (3 : Int) f ≤ getI (ints (nth s) j))) (Int.toNat (0 : Int)) (pc s))
            (Tree.leaf { val := AV.v (Value.int IntKind.i64 (40 : Int)), H := [] })
            (Tree.leaf { val := AV.v (Value.int IntKind.i64 (0 : Int)), H := [] })))))) := by kernel_rfl
theorem run21 (f s : Int) : bodyE (P := Tryd.prog) (Γ := Γq) [c8, c9] L0 false 15 [.tmp 4] (bodyOf Tryd.f21) [.v (.int .i64 f), .v (.int .u32 s)] [] =
  Tree.chk (true && true)
  (Tree.br (decide (timesF (3 : Int) f = (0 : Int)))
    (Tree.leaf { val := AV.v (Value.int IntKind.i64 (1 : Int)), H := [] })
    (Tree.chk (true && true)
      (Tree.br (!decide (bitI BinOp.andNot IntKind.u32 s (fullF f) = (0 : Int)))
        (Tree.leaf { val := AV.v (Value.int IntKind.i64 (40 : Int)), H := [] })
        (Tree.leaf { val := AV.v (Value.int IntKind.i64 (0 : Int)), H := [] })))) := by kernel_rfl
def checkF (f s : Int) : Int := if f < 1 ∨ 3 < f then 1 else if anyIn (fun j => decide (timesF 3 f ≤ getI (ints (nth s) j))) 0 (pc s) = true then 40 else 0
theorem full_tb {f : Int} (h : ¬ (f < 1 ∨ 3 < f)) (t : Nat) : tb (fullF f) t = decide ((t : Int) < timesF 3 f) := by
  have key : ∀ m : Nat, (2 ^ m - 1).testBit t = decide (t < m) := fun m => Nat.testBit_two_pow_sub_one m t
  rcases few h with rfl | rfl | rfl
  · have : (t : Int) < timesF 3 1 ↔ t < 4 := by rw [show timesF 3 1 = 4 by decide]; omega
    rw [show tb (fullF 1) t = (2 ^ 4 - 1).testBit t from rfl, key]; simp only [this]
  · have : (t : Int) < timesF 3 2 ↔ t < 7 := by rw [show timesF 3 2 = 7 by decide]; omega
    rw [show tb (fullF 2) t = (2 ^ 7 - 1).testBit t from rfl, key]; simp only [this]
  · have : (t : Int) < timesF 3 3 ↔ t < 10 := by rw [show timesF 3 3 = 10 by decide]; omega
    rw [show tb (fullF 3) t = (2 ^ 10 - 1).testBit t from rfl, key]; simp only [this]
theorem out_any {f s : Int} (h : ¬ (f < 1 ∨ 3 < f)) (hs : inU32 s = true) : bitI .andNot .u32 s (fullF f) = 0 ↔ anyIn (fun j => decide (timesF 3 f ≤ getI (ints (nth s) j))) 0 (pc s) = false := by
  obtain ⟨h1, h2⟩ := tb_andNot hs (full_in f)
  constructor
  · intro h0
    cases hb : anyIn (fun j => decide (timesF 3 f ≤ getI (ints (nth s) j))) 0 (pc s) with
    | false => rfl
    | true =>
      obtain ⟨j, _, hj, h3⟩ := anyIn_iff.1 hb
      have h4 : timesF 3 f ≤ nth s j := of_decide_eq_true h3
      obtain ⟨k1, k2⟩ := nth_ok hs hj
      have k3 := okB_iff.1 k1
      have := h2 (nth s j).toNat (by omega)
      have h5 : ¬ ((nth s j).toNat : Int) < timesF 3 f := by omega
      have z : tb 0 (nth s j).toNat = false := by simp [tb]
      rw [h0, k2, full_tb h, decide_eq_false h5, z] at this
      exact absurd this (by decide)
  · intro hb
    refine u32_ext h1 (by decide) fun t => ?_
    have h0 : tb 0 t = false := by simp [tb]
    rw [h0]
    rcases Nat.lt_or_ge t 32 with ht | ht
    · rw [h2 t ht]
      cases hst : tb s t with
      | false => rfl
      | true =>
        obtain ⟨j, hj, e⟩ := (mem_nth hs).1 hst
        have k3 := okB_iff.1 (nth_ok hs hj).1
        have : ¬ timesF 3 f ≤ nth s j := fun hle => by
          have := (anyIn_iff (p := fun j => decide (timesF 3 f ≤ getI (ints (nth s) j))) (i := 0) (n := pc s)).2 ⟨j, Nat.zero_le j, hj, decide_eq_true hle⟩
          rw [hb] at this; simp at this
        have h5 : (t : Int) < timesF 3 f := by omega
        rw [full_tb h]; simp [h5]
    · obtain ⟨n, e, hn⟩ := u32_nat h1
      rw [e, tb, Int.toNat_natCast]
      exact Nat.testBit_lt_two_pow (Nat.lt_of_lt_of_le hn (Nat.pow_le_pow_right (by decide) ht))
noncomputable def c22 : CT Tryd.prog Γq := CT.fun2 22 Tryd.f22 (bodyOf Tryd.f22) [c13, c20] L22 false 25 [.tmp 4] .i64 .u32 (fun _ s => inU32 s) (fun f s => .v (.int .i64 (checkF f s))) Tryd.func22 (by kernel_rfl) (by kernel_rfl) (by kernel_rfl) (by kernel_rfl) (by decide) (oneLoop (b := loop22) (by kernel_rfl) loop22_ok) (fun f s hs => by
  rw [run22]
  have hpc := pc_le s
  simp only [Tree.sat_br, Tree.sat_leaf, Tree.sat_chk, Bool.true_and, Bool.and_true, Nat.beq_refl, hs, isInts_ints, Bool.and_eq_true, decide_eq_true_eq, decide_eq_false_iff_not, Int.toNat_zero, times_zero]
  refine ⟨trivial, fun h => ⟨.int (by rw [checkF, if_pos h]), trivial⟩, fun h => ⟨trivial, ⟨by omega, by omega⟩, trivial, fun h' => ⟨.int ?_, trivial⟩, fun h' => ⟨.int ?_, trivial⟩⟩⟩
  · rw [checkF, if_neg h, if_pos h']
  · rw [checkF, if_neg h, if_neg (by rw [h']; simp)])
noncomputable def c21 : CT Tryd.prog Γq := CT.fun2 21 Tryd.f21 (bodyOf Tryd.f21) [c8, c9] L0 false 15 [.tmp 4] .i64 .u32 (fun _ s => inU32 s) (fun f s => .v (.int .i64 (checkF f s))) Tryd.func21 (by kernel_rfl) (by kernel_rfl) (by kernel_rfl) (by kernel_rfl) (by decide) (noLoops (by kernel_rfl)) (fun f s hs => by
  rw [run21]
  simp only [Tree.sat_br, Tree.sat_leaf, Tree.sat_chk, Bool.and_self, Bool.not_eq_true', Bool.not_eq_false', decide_eq_true_eq, decide_eq_false_iff_not, times_zero]
  refine ⟨trivial, fun h => ⟨.int (by rw [checkF, if_pos h]), trivial⟩, fun h => ⟨trivial, fun h' => ⟨.int ?_, trivial⟩, fun h' => ⟨.int ?_, trivial⟩⟩⟩
  · rw [checkF, if_neg h, if_pos]
    cases hb : anyIn (fun j => decide (timesF 3 f ≤ getI (ints (nth s) j))) 0 (pc s) with
    | true => rfl
    | false => exact absurd ((out_any h hs).2 hb) h'
  · rw [checkF, if_neg h, if_neg]
    rw [(out_any h hs).1 h']; simp)
end Go.Eng.Q
