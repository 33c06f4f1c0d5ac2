/- The document's list, the document's Has and Check. -/
import Derived.Test.YthnbpcmajdinpaaDoorTestQ15
namespace Go.Eng.Q
open Go Go.Eng Go.Eng.M Go.Proofs
set_option linter.unusedSimpArgs false
set_option linter.unusedVariables false
theorem run20 (s : Int) : bodyE (P := Tryd.prog) (Γ := Γq) [] L20 false 19 [.tmp 2] (bodyOf Tryd.f20) [.v (.int .u32 s)] [] =
  Tree.chk
  (true && true && true && true && inU32 s && true && true && decide (s.toNat < (4294967296 : Nat)) &&
    decide ((0 : Nat) + pc s ≤ (1000000 : Nat)))
  (Tree.chk (isInts fun x => List.map AV.v (Value.int IntKind.i64 (0 : Int)).cells.toList)
    (Tree.leaf
      { val := AV.hs (0 : Nat) (0 : Nat) ((0 : Nat) + pc s),
        H :=
          [some
              (Blk.arr (1 : Nat) ((0 : Nat) + pc s) fun i =>
                [AV.v
                    (Value.int IntKind.i64
                      (bif decide (i < (0 : Nat)) then getI [AV.v (Value.int IntKind.i64 (0 : Int))]
                      else
                        bif decide (i < (0 : Nat) + pc s) then nth s (i - (0 : Nat)) + (0 : Int) else (0 : Int)))])] })) := by kernel_rfl
noncomputable def c20 : CT Tryd.prog Γq := CT.summed 20 Tryd.f20 (bodyOf Tryd.f20) [] L20 false 19 [.tmp 2] spec17 Tryd.func20 (by kernel_rfl) (by kernel_rfl) (by kernel_rfl) (by kernel_rfl)
  (fun args Hin r h => by
    unfold spec17 at h
    split at h
    · exact oneLoop (b := loop20) (by kernel_rfl) loop20_ok
    · simp [Tree.get] at h) (by
  intro args Hin r h
  unfold spec17 at h
  split at h
  · rename_i s
    have hc := (Tree.chk_get h).1
    replace h := Tree.leaf_get (Tree.chk_get h).2
    subst h
    refine ⟨by simp, ?_⟩
    rw [run20]
    have := pc_le s
    have h2 := inU32_iff.1 hc
    simp only [Tree.sat_chk, Tree.sat_leaf, Bool.and_eq_true, decide_eq_true_eq, true_and, and_true]
    refine ⟨⟨⟨hc, by omega⟩, by omega⟩, isInts_ints fun _ => 0, by rw [Nat.zero_add]; exact .refl _, ?_⟩
    show LeH _ [some (Blk.arr 1 (pc s) (ints (nth s)))]
    refine ⟨OLe.arr (by rw [Nat.zero_add]) (fun e he => ?_) (fun e => rfl), trivial⟩
    have : e < pc s := by omega
    simp [ints, this]
  · simp [Tree.get] at h)
end Go.Eng.Q
