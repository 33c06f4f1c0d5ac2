/- tape: the chapter's example. -/
import Derived.Test.YtbjfbghmokkloaaEngAB
import Derived.Test.YtbjfbghmokkloaaChecked
import Derived.KernelRfl
namespace Go.Eng.T
open Go Go.Eng Go.Proofs
set_option linter.unusedSimpArgs false
set_option linter.unusedVariables false
noncomputable def Γt (g : Nat) : AV := .any
noncomputable def bodyOf (fn : Func) : Code := match fn.body with | some c => c | none => .skip
noncomputable def Lno : Nat → LSpec := fun _ => ⟨[], [], fun _ _ => .fail⟩
/-- (*hallmoot/tape.Tape).ready -/
noncomputable def c20 : CT Try.prog Γt := CT.auto true 100 3 [] 20 Try.f20 (bodyOf Try.f20) false 11 [.tmp 2] Try.func20 (by kernel_rfl) (by kernel_rfl) (by kernel_rfl) (by kernel_rfl)
/-- (*hallmoot/tape.Tape).stroke -/
noncomputable def c22 : CT Try.prog Γt := CT.auto true 100 3 [] 22 Try.f22 (bodyOf Try.f22) false 23 [.tmp 2] Try.func22 (by kernel_rfl) (by kernel_rfl) (by kernel_rfl) (by kernel_rfl)
/-- (*hallmoot/tape.Tape).within -/
noncomputable def c23 : CT Try.prog Γt := CT.auto true 100 3 [c22] 23 Try.f23 (bodyOf Try.f23) false 19 [.tmp 8] Try.func23 (by kernel_rfl) (by kernel_rfl) (by kernel_rfl) (by kernel_rfl)
/-- (*hallmoot/tape.Tape).end -/
noncomputable def c19 : CT Try.prog Γt := CT.auto true 100 3 [] 19 Try.f19 (bodyOf Try.f19) false 13 [.tmp 2] Try.func19 (by kernel_rfl) (by kernel_rfl) (by kernel_rfl) (by kernel_rfl)
/-- bytes.Clone -/
noncomputable def c21 : CT Try.prog Γt := CT.auto true 100 3 [] 21 Try.f21 (bodyOf Try.f21) false 8 [.tmp 2] Try.func21 (by kernel_rfl) (by kernel_rfl) (by kernel_rfl) (by kernel_rfl)
/-- (*hallmoot/tape.Tape).Write -/
noncomputable def c15 : CT Try.prog Γt := CT.auto true 100 3 [c20, c22] 15 Try.f15 (bodyOf Try.f15) false 52 [.tmp 4] Try.func15 (by kernel_rfl) (by kernel_rfl) (by kernel_rfl) (by kernel_rfl)
/-- (*hallmoot/tape.Tape).Hold -/
noncomputable def c16 : CT Try.prog Γt := CT.auto true 100 3 [c20, c22, c19] 16 Try.f16 (bodyOf Try.f16) false 18 [.tmp 2] Try.func16 (by kernel_rfl) (by kernel_rfl) (by kernel_rfl) (by kernel_rfl)
/-- (*hallmoot/tape.Tape).Shed -/
noncomputable def c17 : CT Try.prog Γt := CT.auto true 100 3 [c20, c23] 17 Try.f17 (bodyOf Try.f17) false 44 [.tmp 4] Try.func17 (by kernel_rfl) (by kernel_rfl) (by kernel_rfl) (by kernel_rfl)
/-- (*hallmoot/tape.Tape).Back -/
noncomputable def c18 : CT Try.prog Γt := CT.auto true 100 3 [c20, c23, c19] 18 Try.f18 (bodyOf Try.f18) false 47 [.tmp 4] Try.func18 (by kernel_rfl) (by kernel_rfl) (by kernel_rfl) (by kernel_rfl)
/-- (*hallmoot/tape.Tape).Fuse -/
noncomputable def c14 : CT Try.prog Γt := CT.auto true 100 3 [] 14 Try.f14 (bodyOf Try.f14) false 15 [.tmp 4] Try.func14 (by kernel_rfl) (by kernel_rfl) (by kernel_rfl) (by kernel_rfl)
/-- (*hallmoot/tape.Tape).Crash -/
noncomputable def c11 : CT Try.prog Γt := CT.auto true 100 3 [c19] 11 Try.f11 (bodyOf Try.f11) false 49 [.tmp 4] Try.func11 (by kernel_rfl) (by kernel_rfl) (by kernel_rfl) (by kernel_rfl)
/-- (*hallmoot/tape.Tape).Read -/
noncomputable def c12 : CT Try.prog Γt := CT.auto true 100 3 [c20, c21] 12 Try.f12 (bodyOf Try.f12) false 20 [.tmp 2, .tmp 3, .tmp 4] Try.func12 (by kernel_rfl) (by kernel_rfl) (by kernel_rfl) (by kernel_rfl)
/-- hallmoot/hallmootlaw17.Do -/
noncomputable def c9 : CT Try.prog Γt := CT.auto true 100 3 [c15, c16, c17, c18, c14, c11, c12] 9 Try.f9 (bodyOf Try.f9) false 52 [.tmp 4] Try.func9 (by kernel_rfl) (by kernel_rfl) (by kernel_rfl) (by kernel_rfl)
/-- hallmoot/tape.New -/
noncomputable def c7 : CT Try.prog Γt := CT.auto true 100 3 [] 7 Try.f7 (bodyOf Try.f7) false 13 [.tmp 2, .tmp 3] Try.func7 (by kernel_rfl) (by kernel_rfl) (by kernel_rfl) (by kernel_rfl)
/-- (*hallmoot/tape.Tape).On -/
noncomputable def c10 : CT Try.prog Γt := CT.auto true 100 3 [] 10 Try.f10 (bodyOf Try.f10) false 12 [.tmp 2] Try.func10 (by kernel_rfl) (by kernel_rfl) (by kernel_rfl) (by kernel_rfl)
/-- (*hallmoot/tape.Tape).Places -/
noncomputable def c13 : CT Try.prog Γt := CT.auto true 100 3 [c19] 13 Try.f13 (bodyOf Try.f13) false 17 [.tmp 2, .tmp 3, .tmp 4] Try.func13 (by kernel_rfl) (by kernel_rfl) (by kernel_rfl) (by kernel_rfl)
theorem run6 : (bodyE (P := Try.prog) (Γ := Γt) [c7, c9, c12] (autoL true 100 [c7, c9, c12] false 0 51 (loopBodies (bodyOf Try.f6)) 3) false 51 [.tmp 0] (bodyOf Try.f6) [] []).get = some ⟨.sb true, []⟩ := by kernel_rfl
/-- the example holds -/
noncomputable def c6 : CT Try.prog Γt := CT.fact 6 Try.f6 (bodyOf Try.f6) [c7, c9, c12] (autoL true 100 [c7, c9, c12] false 0 51 (loopBodies (bodyOf Try.f6)) 3) false 51 [.tmp 0] Try.func6 (by kernel_rfl) (by kernel_rfl) (by kernel_rfl) (by kernel_rfl) (autoL_ok 3) (.sb true) (.sb true) run6
namespace S
/-- (*hallmoot/tape.Tape).ready -/
noncomputable def c20 : CT Try.prog Γt := CT.auto false 100 3 [] 20 Try.f20 (bodyOf Try.f20) false 11 [.tmp 2] Try.func20 (by kernel_rfl) (by kernel_rfl) (by kernel_rfl) (by kernel_rfl)
/-- (*hallmoot/tape.Tape).stroke -/
noncomputable def c22 : CT Try.prog Γt := CT.auto false 100 3 [] 22 Try.f22 (bodyOf Try.f22) false 23 [.tmp 2] Try.func22 (by kernel_rfl) (by kernel_rfl) (by kernel_rfl) (by kernel_rfl)
/-- (*hallmoot/tape.Tape).within -/
noncomputable def c23 : CT Try.prog Γt := CT.auto false 100 3 [c22] 23 Try.f23 (bodyOf Try.f23) false 19 [.tmp 8] Try.func23 (by kernel_rfl) (by kernel_rfl) (by kernel_rfl) (by kernel_rfl)
/-- (*hallmoot/tape.Tape).end -/
noncomputable def c19 : CT Try.prog Γt := CT.auto false 100 3 [] 19 Try.f19 (bodyOf Try.f19) false 13 [.tmp 2] Try.func19 (by kernel_rfl) (by kernel_rfl) (by kernel_rfl) (by kernel_rfl)
/-- bytes.Clone -/
noncomputable def c21 : CT Try.prog Γt := CT.auto false 100 3 [] 21 Try.f21 (bodyOf Try.f21) false 8 [.tmp 2] Try.func21 (by kernel_rfl) (by kernel_rfl) (by kernel_rfl) (by kernel_rfl)
/-- (*hallmoot/tape.Tape).Write -/
noncomputable def c15 : CT Try.prog Γt := CT.auto false 100 3 [c20, c22] 15 Try.f15 (bodyOf Try.f15) false 52 [.tmp 4] Try.func15 (by kernel_rfl) (by kernel_rfl) (by kernel_rfl) (by kernel_rfl)
/-- (*hallmoot/tape.Tape).Hold -/
noncomputable def c16 : CT Try.prog Γt := CT.auto false 100 3 [c20, c22, c19] 16 Try.f16 (bodyOf Try.f16) false 18 [.tmp 2] Try.func16 (by kernel_rfl) (by kernel_rfl) (by kernel_rfl) (by kernel_rfl)
/-- (*hallmoot/tape.Tape).Shed -/
noncomputable def c17 : CT Try.prog Γt := CT.auto false 100 3 [c20, c23] 17 Try.f17 (bodyOf Try.f17) false 44 [.tmp 4] Try.func17 (by kernel_rfl) (by kernel_rfl) (by kernel_rfl) (by kernel_rfl)
/-- (*hallmoot/tape.Tape).Back -/
noncomputable def c18 : CT Try.prog Γt := CT.auto false 100 3 [c20, c23, c19] 18 Try.f18 (bodyOf Try.f18) false 47 [.tmp 4] Try.func18 (by kernel_rfl) (by kernel_rfl) (by kernel_rfl) (by kernel_rfl)
/-- (*hallmoot/tape.Tape).Fuse -/
noncomputable def c14 : CT Try.prog Γt := CT.auto false 100 3 [] 14 Try.f14 (bodyOf Try.f14) false 15 [.tmp 4] Try.func14 (by kernel_rfl) (by kernel_rfl) (by kernel_rfl) (by kernel_rfl)
/-- (*hallmoot/tape.Tape).Crash -/
noncomputable def c11 : CT Try.prog Γt := CT.auto false 100 3 [c19] 11 Try.f11 (bodyOf Try.f11) false 49 [.tmp 4] Try.func11 (by kernel_rfl) (by kernel_rfl) (by kernel_rfl) (by kernel_rfl)
/-- (*hallmoot/tape.Tape).Read -/
noncomputable def c12 : CT Try.prog Γt := CT.auto false 100 3 [c20, c21] 12 Try.f12 (bodyOf Try.f12) false 20 [.tmp 2, .tmp 3, .tmp 4] Try.func12 (by kernel_rfl) (by kernel_rfl) (by kernel_rfl) (by kernel_rfl)
/-- hallmoot/hallmootlaw17.Do -/
noncomputable def c9 : CT Try.prog Γt := CT.auto false 100 3 [c15, c16, c17, c18, c14, c11, c12] 9 Try.f9 (bodyOf Try.f9) false 52 [.tmp 4] Try.func9 (by kernel_rfl) (by kernel_rfl) (by kernel_rfl) (by kernel_rfl)
/-- (*hallmoot/tape.Tape).On -/
noncomputable def c10 : CT Try.prog Γt := CT.auto false 100 3 [] 10 Try.f10 (bodyOf Try.f10) false 12 [.tmp 2] Try.func10 (by kernel_rfl) (by kernel_rfl) (by kernel_rfl) (by kernel_rfl)
/-- (*hallmoot/tape.Tape).Places -/
noncomputable def c13 : CT Try.prog Γt := CT.auto false 100 3 [c19] 13 Try.f13 (bodyOf Try.f13) false 17 [.tmp 2, .tmp 3, .tmp 4] Try.func13 (by kernel_rfl) (by kernel_rfl) (by kernel_rfl) (by kernel_rfl)
end S
end Go.Eng.T
