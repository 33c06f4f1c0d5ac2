/- num: the chapter's example. -/
import Derived.Test.YtffpnoieklnejaaEngAB
import Derived.Test.YtffpnoieklnejaaChecked
import Derived.KernelRfl
namespace Go.Eng.U
open Go Go.Eng Go.Proofs
set_option linter.unusedSimpArgs false
set_option linter.unusedVariables false
noncomputable def Γu (g : Nat) : AV := .any
noncomputable def bodyOf (fn : Func) : Code := match fn.body with | some c => c | none => .skip
noncomputable def Lno : Nat → LSpec := fun _ => ⟨[], [], fun _ _ => .fail⟩
/-- hallmoot/num.Within -/
noncomputable def c12 : CT Try.prog Γu := CT.auto true 100 3 [] 12 Try.f12 (bodyOf Try.f12) false 15 [.tmp 6] Try.func12 (by kernel_rfl) (by kernel_rfl) (by kernel_rfl) (by kernel_rfl)
/-- hallmoot/num.may -/
noncomputable def c23 : CT Try.prog Γu := CT.auto true 100 3 [c12] 23 Try.f23 (bodyOf Try.f23) false 15 [.tmp 2] Try.func23 (by kernel_rfl) (by kernel_rfl) (by kernel_rfl) (by kernel_rfl)
/-- hallmoot/num.told -/
noncomputable def c24 : CT Try.prog Γu := CT.auto true 100 3 [c23] 24 Try.f24 (bodyOf Try.f24) false 15 [.tmp 4, .tmp 5] Try.func24 (by kernel_rfl) (by kernel_rfl) (by kernel_rfl) (by kernel_rfl)
/-- hallmoot/num.Add -/
noncomputable def c15 : CT Try.prog Γu := CT.auto true 100 3 [c23, c24] 15 Try.f15 (bodyOf Try.f15) false 33 [.tmp 4, .tmp 5] Try.func15 (by kernel_rfl) (by kernel_rfl) (by kernel_rfl) (by kernel_rfl)
/-- hallmoot/num.form -/
noncomputable def c21 : CT Try.prog Γu := CT.auto true 100 3 [] 21 Try.f21 (bodyOf Try.f21) false 54 [.tmp 2, .tmp 3, .tmp 4] Try.func21 (by kernel_rfl) (by kernel_rfl) (by kernel_rfl) (by kernel_rfl)
/-- hallmoot/num.Read -/
noncomputable def c8 : CT Try.prog Γu := CT.auto true 100 3 [c21, c12] 8 Try.f8 (bodyOf Try.f8) false 59 [.tmp 6, .tmp 7] Try.func8 (by kernel_rfl) (by kernel_rfl) (by kernel_rfl) (by kernel_rfl)
/-- hallmoot/num.Print -/
noncomputable def c10 : CT Try.prog Γu := CT.auto true 100 3 [] 10 Try.f10 (bodyOf Try.f10) false 35 [.tmp 2] Try.func10 (by kernel_rfl) (by kernel_rfl) (by kernel_rfl) (by kernel_rfl)
theorem run7 : (bodyE (P := Try.prog) (Γ := Γu) [c15, c8, c10] (autoL true 100 [c15, c8, c10] false 0 37 (loopBodies (bodyOf Try.f7)) 3) false 37 [.tmp 0] (bodyOf Try.f7) [] []).get = some ⟨.sb true, []⟩ := by kernel_rfl
/-- the example holds -/
noncomputable def c7 : CT Try.prog Γu := CT.fact 7 Try.f7 (bodyOf Try.f7) [c15, c8, c10] (autoL true 100 [c15, c8, c10] false 0 37 (loopBodies (bodyOf Try.f7)) 3) false 37 [.tmp 0] Try.func7 (by kernel_rfl) (by kernel_rfl) (by kernel_rfl) (by kernel_rfl) (autoL_ok 3) (.sb true) (.sb true) run7
namespace S
/-- hallmoot/num.Within -/
noncomputable def c12 : CT Try.prog Γu := CT.auto false 100 3 [] 12 Try.f12 (bodyOf Try.f12) false 15 [.tmp 6] Try.func12 (by kernel_rfl) (by kernel_rfl) (by kernel_rfl) (by kernel_rfl)
/-- hallmoot/num.may -/
noncomputable def c23 : CT Try.prog Γu := CT.auto false 100 3 [c12] 23 Try.f23 (bodyOf Try.f23) false 15 [.tmp 2] Try.func23 (by kernel_rfl) (by kernel_rfl) (by kernel_rfl) (by kernel_rfl)
/-- hallmoot/num.told -/
noncomputable def c24 : CT Try.prog Γu := CT.auto false 100 3 [c23] 24 Try.f24 (bodyOf Try.f24) false 15 [.tmp 4, .tmp 5] Try.func24 (by kernel_rfl) (by kernel_rfl) (by kernel_rfl) (by kernel_rfl)
/-- hallmoot/num.Add -/
noncomputable def c15 : CT Try.prog Γu := CT.auto false 100 3 [c23, c24] 15 Try.f15 (bodyOf Try.f15) false 33 [.tmp 4, .tmp 5] Try.func15 (by kernel_rfl) (by kernel_rfl) (by kernel_rfl) (by kernel_rfl)
/-- hallmoot/hallmootref01.in -/
noncomputable def c25 : CT Try.prog Γu := CT.auto false 100 3 [] 25 Try.f25 (bodyOf Try.f25) false 9 [.tmp 2] Try.func25 (by kernel_rfl) (by kernel_rfl) (by kernel_rfl) (by kernel_rfl)
/-- hallmoot/hallmootref01.Add -/
noncomputable def c16 : CT Try.prog Γu := CT.auto false 100 3 [c25] 16 Try.f16 (bodyOf Try.f16) false 37 [.tmp 4, .tmp 5] Try.func16 (by kernel_rfl) (by kernel_rfl) (by kernel_rfl) (by kernel_rfl)
end S
end Go.Eng.U
