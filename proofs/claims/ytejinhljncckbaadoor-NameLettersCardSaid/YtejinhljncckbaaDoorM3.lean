/- name: letters, contracts. -/
import Derived.Test.YtejinhljncckbaaDoorM2
namespace Go.Eng.Nm
open Go Go.Eng Go.Proofs
set_option linter.unusedSimpArgs false
set_option linter.unusedVariables false
theorem autoL1 {f : Func} {T : List (CT Tryd.prog Γm)} {N : Nat} : ∀ (j : Nat) (b : Code), (loopBodies (bodyOf f))[j]? = some b → LoopOK Tryd.prog Γm 0 N b (autoL false 10 T false 0 N (loopBodies (bodyOf f)) 1 j) := autoL_ok 1
noncomputable def c10' : CT Tryd.prog Γm := CT.val1 10 Tryd.f10 (bodyOf Tryd.f10) [S.c25] (autoL false 10 [S.c25] false 0 19 (loopBodies (bodyOf Tryd.f10)) 1) false 19 [.tmp 2] .i32 (fun _ => true) (fun c => .sb (letterB c)) Tryd.func10 (by kernel_rfl) (by kernel_rfl) (by kernel_rfl) (by kernel_rfl) (by decide) autoL1 (fun c _ => law10 c)
noncomputable def c26' : CT Tryd.prog Γm := CT.val1 26 Tryd.f26 (bodyOf Tryd.f26) [S.c25] (autoL false 10 [S.c25] false 0 16 (loopBodies (bodyOf Tryd.f26)) 1) false 16 [.tmp 2] .i32 (fun _ => true) (fun c => .sb (greatB c)) Tryd.func26 (by kernel_rfl) (by kernel_rfl) (by kernel_rfl) (by kernel_rfl) (by decide) autoL1 (fun c _ => law26 c)
noncomputable def c9' : CT Tryd.prog Γm := CT.val1 9 Tryd.f9 (bodyOf Tryd.f9) [] Lno false 33 [.tmp 2] .i64 (fun _ => true) (fun c => .sb (greatB c)) Tryd.func9 (by kernel_rfl) (by kernel_rfl) (by kernel_rfl) (by kernel_rfl) (by decide) (noLoops (by kernel_rfl)) (fun c _ => law9 c)
noncomputable def c11' : CT Tryd.prog Γm := CT.val1 11 Tryd.f11 (bodyOf Tryd.f11) [] Lno false 45 [.tmp 2] .i64 (fun _ => true) (fun c => .sb (letterB c)) Tryd.func11 (by kernel_rfl) (by kernel_rfl) (by kernel_rfl) (by kernel_rfl) (by decide) (noLoops (by kernel_rfl)) (fun c _ => law11 c)
def smallF (c : Int) : Int := bif greatB c then c + 32 else c
theorem great_iff {c : Int} : greatB c = true ↔ ((65 ≤ c ∧ c ≤ 90) ∨ (192 ≤ c ∧ c ≤ 222 ∧ c ≠ 215) ∨ (913 ≤ c ∧ c ≤ 937 ∧ c ≠ 930)) := by simp [greatB]
theorem run12 (c : Int) : bodyE (P := Tryd.prog) (Γ := Γm) [c26'] Lno false 8 [.tmp 2] (bodyOf Tryd.f12) [.v (.int .i32 c)] [] =
  Tree.chk (true && true)
  (Tree.br (greatB c) (Tree.leaf { val := AV.v (Value.int IntKind.i32 (IntKind.i32.wrap (c + (32 : Int)))), H := [] })
    (Tree.leaf { val := AV.v (Value.int IntKind.i32 c), H := [] })) := by kernel_rfl

theorem wrap32 {n : Int} (h : -2147483648 ≤ n) (h' : n < 2147483648) : IntKind.i32.wrap n = n := by
  simp only [IntKind.wrap, IntKind.signed, IntKind.bits]; simp; omega
theorem law12 (c : Int) : Gives (bodyE (P := Tryd.prog) (Γ := Γm) [c26'] Lno false 8 [.tmp 2] (bodyOf Tryd.f12) [.v (.int .i32 c)] []) (.v (.int .i32 (smallF c))) := ⟨by
  rw [run12]
  simp only [Tree.sat_br, Tree.sat_chk, Tree.sat_leaf, Bool.and_self, true_and, LeH_nil, and_true]
  refine ⟨fun h => ?_, fun h => ?_⟩
  · have := great_iff.1 h
    rw [wrap32 (by omega) (by omega), smallF, h]; exact .refl _
  · rw [smallF, h]; exact .refl _⟩
noncomputable def c12' : CT Tryd.prog Γm := CT.val1 12 Tryd.f12 (bodyOf Tryd.f12) [c26'] Lno false 8 [.tmp 2] .i32 (fun _ => true) (fun c => .v (.int .i32 (smallF c))) Tryd.func12 (by kernel_rfl) (by kernel_rfl) (by kernel_rfl) (by kernel_rfl) (by decide) (noLoops (by kernel_rfl)) (fun c _ => law12 c)
end Go.Eng.Nm
