/- The document's Has. -/
import Derived.Test.YthnbpcmajdinpaaDoorTestQ17
namespace Go.Eng.Q
open Go Go.Eng Go.Eng.M Go.Proofs
set_option linter.unusedSimpArgs false
set_option linter.unusedVariables false
theorem run23 (s k : Int) : bodyE (P := Tryd.prog) (Γ := Γq) [c20] L23 false 21 [.tmp 4] (bodyOf Tryd.f23) [.v (.int .u32 s), .v (.int .i64 k)] [] =
  Tree.chk (inU32 s)
  (Tree.chk
    (true && true && true && (pc s).beq (pc s) && true && decide ((0 : Int) ≤ (↑(pc s) : Int)) &&
      decide (pc s ≤ (1000000 : Nat)))
    (Tree.chk (isInts (ints (nth s)))
      (Tree.br (anyIn (fun j => decide (getI (ints (nth s) j) = k)) (Int.toNat (0 : Int)) (pc s))
        (Tree.leaf { val := AV.v (Value.bool true), H := [] })
        (Tree.leaf { val := AV.v (Value.bool false), H := [] })))) := by kernel_rfl
theorem any_has {s k : Int} (hs : inU32 s = true) : anyIn (fun j => decide (getI (ints (nth s) j) = k)) 0 (pc s) = hasB s k := by
  rw [Bool.eq_iff_iff, anyIn_iff, hasB, Bool.and_eq_true, mem_nth hs]
  constructor
  · rintro ⟨j, _, hj, h⟩
    have h' : nth s j = k := of_decide_eq_true h
    rw [← h']
    exact ⟨(nth_ok hs hj).1, j, hj, rfl⟩
  · rintro ⟨hk, j, hj, h⟩
    refine ⟨j, Nat.zero_le _, hj, decide_eq_true ?_⟩
    have h1 := okB_iff.1 (nth_ok hs hj).1
    have h2 := okB_iff.1 hk
    show nth s j = k
    omega
noncomputable def c23 : CT Tryd.prog Γq := CT.fun2 23 Tryd.f23 (bodyOf Tryd.f23) [c20] L23 false 21 [.tmp 4] .u32 .i64 (fun s _ => inU32 s) (fun s k => .sb (hasB s k)) Tryd.func23 (by kernel_rfl) (by kernel_rfl) (by kernel_rfl) (by kernel_rfl) (by decide) (oneLoop (b := loop23) (by kernel_rfl) loop23_ok) (fun s k hs => by
  rw [run23]
  have hpc := pc_le s
  simp only [Tree.sat_br, Tree.sat_leaf, Tree.sat_chk, Bool.true_and, Bool.and_true, Nat.beq_refl, hs, isInts_ints, Bool.and_eq_true, decide_eq_true_eq, Int.toNat_zero, any_has hs]
  refine ⟨trivial, ⟨by omega, by omega⟩, trivial, fun h => ⟨?_, trivial⟩, fun h => ⟨?_, trivial⟩⟩
  · rw [h]; exact .bs true
  · rw [h]; exact .bs false)
end Go.Eng.Q
