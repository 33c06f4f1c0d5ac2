import Derived.Test.YthnbpcmajdinpaaDoorTestQ6
namespace Go.Eng.Q
open Go Go.Eng Go.Eng.M Go.Proofs
set_option linter.unusedSimpArgs false
set_option linter.unusedVariables false
/-! ### the law QuorumCounts -/
theorem run4 (f r : Int) : bodyE (P := Tryd.prog) (Γ := Γq) [c7, c13, c8, c11, c14, c12, c9, c10, c15, c16] L0 false 48 [.tmp 4] (bodyOf Tryd.f4) [.v (.int .i64 f), .v (.int .i64 r)] [] =
    .chk true (.br (decide (0 < timesF 3 f))
      (.chk (bif decide (timesF 3 f = timesF 3 f) then bif decide (timesF 2 f = timesF 2 f) then bif decide (timesF 1 f = IntKind.i64.wrap (f + 1)) then (inU32 (fullF f) && bif decide (((pc (fullF f) : Nat) : Int) = timesF 3 f) then true else true) else true else true else true)
        (.leaf { val := .sb (bif decide (timesF 3 f = timesF 3 f) then bif decide (timesF 2 f = timesF 2 f) then bif decide (timesF 1 f = IntKind.i64.wrap (f + 1)) then bif decide (((pc (fullF f) : Nat) : Int) = timesF 3 f) then decide (leadF f r = leadF f r) else false else false else false else false), H := [] }))
      (.chk (bif decide (timesF 3 f = timesF 3 f) then bif decide (timesF 2 f = timesF 2 f) then bif decide (timesF 1 f = 0) then (inU32 (fullF f) && bif decide (((pc (fullF f) : Nat) : Int) = timesF 3 f) then true else true) else true else true else true)
        (.leaf { val := .sb (bif decide (timesF 3 f = timesF 3 f) then bif decide (timesF 2 f = timesF 2 f) then bif decide (timesF 1 f = 0) then bif decide (((pc (fullF f) : Nat) : Int) = timesF 3 f) then decide (leadF f r = leadF f r) else false else false else false else false), H := [] }))) := by kernel_rfl
theorem full_pc (f : Int) : inU32 (fullF f) = true ∧ ((pc (fullF f) : Nat) : Int) = timesF 3 f := by
  by_cases h : f < 1 ∨ 3 < f
  · rw [fullF, if_pos h, timesF, if_pos h]; decide
  · rcases few h with rfl | rfl | rfl <;> decide
noncomputable def c4 : CT Tryd.prog Γq := CT.fun2 4 Tryd.f4 (bodyOf Tryd.f4) [c7, c13, c8, c11, c14, c12, c9, c10, c15, c16] L0 false 48 [.tmp 4] .i64 .i64 (fun _ _ => true) (fun _ _ => .v (.bool true)) Tryd.func4 (by kernel_rfl) (by kernel_rfl) (by kernel_rfl) (by kernel_rfl) (by decide) (noLoops (by kernel_rfl)) (fun f r _ => by
  rw [run4]
  obtain ⟨h1, h2⟩ := full_pc f
  simp only [Tree.sat_br, Tree.sat_leaf, Tree.sat_chk, decide_eq_true_eq, decide_eq_false_iff_not, h1, h2, decide_true, cond_true, Bool.true_and]
  refine ⟨trivial, fun h => ?_, fun h => ?_⟩
  · have hf : ¬ (f < 1 ∨ 3 < f) := fun h' => by rw [timesF, if_pos h'] at h; omega
    have e : timesF 1 f = IntKind.i64.wrap (f + 1) := by
      rw [timesF, if_neg hf, wrap64 (by omega) (by omega)]; omega
    simp [e, AV.le.sb]
  · have hf : f < 1 ∨ 3 < f := Classical.byContradiction fun h' => h (by rw [timesF, if_neg h']; omega)
    have e : timesF 1 f = 0 := by rw [timesF, if_pos hf]
    simp [e, AV.le.sb])
end Go.Eng.Q
