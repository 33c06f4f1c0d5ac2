/- wire: the chapter's example. -/
import Derived.Test.YtaeehckolckbmaaEngAB
import Derived.Test.YtaeehckolckbmaaChecked
import Derived.KernelRfl
namespace Go.Eng.W
open Go Go.Eng Go.Proofs
set_option linter.unusedSimpArgs false
set_option linter.unusedVariables false
noncomputable def Γw (g : Nat) : AV := .any
noncomputable def bodyOf (fn : Func) : Code := match fn.body with | some c => c | none => .skip
/-- slices.Clone[[]byte,byte] -/
noncomputable def c19 : CT Try.prog Γw := CT.auto true 100 3 [] 19 Try.f19 (bodyOf Try.f19) false 8 [.tmp 2] Try.func19 (by kernel_rfl) (by kernel_rfl) (by kernel_rfl) (by kernel_rfl)
/-- hallmoot/wire.Num -/
noncomputable def c7 : CT Try.prog Γw := CT.auto true 100 3 [c19] 7 Try.f7 (bodyOf Try.f7) false 30 [.tmp 4, .tmp 5] Try.func7 (by kernel_rfl) (by kernel_rfl) (by kernel_rfl) (by kernel_rfl)
/-- hallmoot/wire.New -/
noncomputable def c18 : CT Try.prog Γw := CT.auto true 100 3 [c19] 18 Try.f18 (bodyOf Try.f18) false 7 [.tmp 2] Try.func18 (by kernel_rfl) (by kernel_rfl) (by kernel_rfl) (by kernel_rfl)
/-- (*hallmoot/wire.Reader).Fail -/
noncomputable def c12 : CT Try.prog Γw := CT.auto true 100 3 [] 12 Try.f12 (bodyOf Try.f12) false 24 [] Try.func12 (by kernel_rfl) (by kernel_rfl) (by kernel_rfl) (by kernel_rfl)
/-- (*hallmoot/wire.Reader).Num -/
noncomputable def c13 : CT Try.prog Γw := CT.auto true 100 3 [c12] 13 Try.f13 (bodyOf Try.f13) false 75 [.tmp 2] Try.func13 (by kernel_rfl) (by kernel_rfl) (by kernel_rfl) (by kernel_rfl)
/-- (*hallmoot/wire.Reader).Done -/
noncomputable def c17 : CT Try.prog Γw := CT.auto true 100 3 [] 17 Try.f17 (bodyOf Try.f17) false 24 [.tmp 2] Try.func17 (by kernel_rfl) (by kernel_rfl) (by kernel_rfl) (by kernel_rfl)
/-- (*hallmoot/wire.Reader).Most -/
noncomputable def c14 : CT Try.prog Γw := CT.auto true 100 3 [c13, c12] 14 Try.f14 (bodyOf Try.f14) false 14 [.tmp 4] Try.func14 (by kernel_rfl) (by kernel_rfl) (by kernel_rfl) (by kernel_rfl)
/-- (*hallmoot/wire.Reader).Rest -/
noncomputable def c16 : CT Try.prog Γw := CT.auto true 100 3 [] 16 Try.f16 (bodyOf Try.f16) false 10 [.tmp 2] Try.func16 (by kernel_rfl) (by kernel_rfl) (by kernel_rfl) (by kernel_rfl)
/-- (*hallmoot/wire.Reader).Text -/
noncomputable def c15 : CT Try.prog Γw := CT.auto true 100 3 [c14, c16, c12] 15 Try.f15 (bodyOf Try.f15) false 32 [.tmp 2] Try.func15 (by kernel_rfl) (by kernel_rfl) (by kernel_rfl) (by kernel_rfl)
theorem run6 : (bodyE (P := Try.prog) (Γ := Γw) [c7, c18, c13, c17] (autoL true 100 [c7, c18, c13, c17] false 0 31 (loopBodies (bodyOf Try.f6)) 1) false 31 [.tmp 0] (bodyOf Try.f6) [] []).get = some ⟨.sb true, []⟩ := by kernel_rfl
end Go.Eng.W
