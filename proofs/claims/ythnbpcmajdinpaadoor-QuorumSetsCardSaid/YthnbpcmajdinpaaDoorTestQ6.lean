import Derived.Test.YthnbpcmajdinpaaDoorTestQ5
namespace Go.Eng.Q
open Go Go.Eng Go.Eng.M Go.Proofs
set_option linter.unusedSimpArgs false
set_option linter.unusedVariables false
/-! ### the chapter's examples -/
noncomputable def spec7 : List AV → List Blk → Tree Res := fun args Hin => match args, Hin with
  | [], [] => .leaf { val := .v (.bool true) }
  | _, _ => .fail
theorem run7 : (bodyE (P := Tryd.prog) (Γ := Γq) [c17, c11, c12, c8] L0 false 36 [.tmp 0] (bodyOf Tryd.f7) [] []).get = some { val := .sb true, H := [] } := by kernel_rfl
noncomputable def c7 : CT Tryd.prog Γq := CT.summed 7 Tryd.f7 (bodyOf Tryd.f7) [c17, c11, c12, c8] L0 false 36 [.tmp 0] spec7 Tryd.func7 (by kernel_rfl) (by kernel_rfl) (by kernel_rfl) (by kernel_rfl) (fun _ _ _ _ => noLoops (by kernel_rfl)) (by
  intro args Hin r h
  unfold spec7 at h
  split at h
  · obtain rfl := Tree.leaf_get h
    exact ⟨by simp, Tree.sat_iff.2 ⟨_, run7, .sb true, trivial⟩⟩
  · simp [Tree.get] at h)
end Go.Eng.Q
