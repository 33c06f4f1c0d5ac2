/- name: the chapter's example. -/
import Derived.Test.YtejinhljncckbaaDoorEngAB
import Derived.Test.YtejinhljncckbaaDoorChecked
import Derived.KernelRfl
namespace Go.Eng.Nm
open Go Go.Eng Go.Proofs
set_option linter.unusedSimpArgs false
set_option linter.unusedVariables false
noncomputable def Γm (g : Nat) : AV := .any
noncomputable def bodyOf (fn : Func) : Code := match fn.body with | some c => c | none => .skip
noncomputable def Lno : Nat → LSpec := fun _ => ⟨[], [], fun _ _ => .fail⟩
/-- (hallmoot/name.span).has -/
noncomputable def c25 : CT Tryd.prog Γm := CT.auto true 100 3 [] 25 Tryd.f25 (bodyOf Tryd.f25) false 21 [.tmp 4] Tryd.func25 (by kernel_rfl) (by kernel_rfl) (by kernel_rfl) (by kernel_rfl)
/-- hallmoot/name.great -/
noncomputable def c26 : CT Tryd.prog Γm := CT.auto true 100 3 [c25] 26 Tryd.f26 (bodyOf Tryd.f26) false 16 [.tmp 2] Tryd.func26 (by kernel_rfl) (by kernel_rfl) (by kernel_rfl) (by kernel_rfl)
/-- hallmoot/name.Small -/
noncomputable def c12 : CT Tryd.prog Γm := CT.auto true 100 3 [c26] 12 Tryd.f12 (bodyOf Tryd.f12) false 8 [.tmp 2] Tryd.func12 (by kernel_rfl) (by kernel_rfl) (by kernel_rfl) (by kernel_rfl)
/-- hallmoot/name.Letter -/
noncomputable def c10 : CT Tryd.prog Γm := CT.auto true 100 3 [c25] 10 Tryd.f10 (bodyOf Tryd.f10) false 19 [.tmp 2] Tryd.func10 (by kernel_rfl) (by kernel_rfl) (by kernel_rfl) (by kernel_rfl)
/-- hallmoot/name.broken -/
noncomputable def c28 : CT Tryd.prog Γm := CT.auto true 100 3 [] 28 Tryd.f28 (bodyOf Tryd.f28) false 20 [.tmp 6] Tryd.func28 (by kernel_rfl) (by kernel_rfl) (by kernel_rfl) (by kernel_rfl)
/-- unicode/utf8.appendRuneNonASCII -/
noncomputable def c34 : CT Tryd.prog Γm := CT.auto true 100 3 [] 34 Tryd.f34 (bodyOf Tryd.f34) false 78 [.tmp 4] Tryd.func34 (by kernel_rfl) (by kernel_rfl) (by kernel_rfl) (by kernel_rfl)
/-- unicode/utf8.AppendRune -/
noncomputable def c29 : CT Tryd.prog Γm := CT.auto true 100 3 [c34] 29 Tryd.f29 (bodyOf Tryd.f29) false 16 [.tmp 4] Tryd.func29 (by kernel_rfl) (by kernel_rfl) (by kernel_rfl) (by kernel_rfl)
/-- hallmoot/name.Check -/
noncomputable def c17 : CT Tryd.prog Γm := CT.auto true 100 3 [c10] 17 Tryd.f17 (bodyOf Tryd.f17) false 41 [.tmp 2] Tryd.func17 (by kernel_rfl) (by kernel_rfl) (by kernel_rfl) (by kernel_rfl)
/-- hallmoot/name.Fold -/
noncomputable def c21 : CT Tryd.prog Γm := CT.auto true 100 3 [c28, c29, c12, c17] 21 Tryd.f21 (bodyOf Tryd.f21) false 30 [.tmp 2, .tmp 3] Tryd.func21 (by kernel_rfl) (by kernel_rfl) (by kernel_rfl) (by kernel_rfl)
/-- hallmoot/name.Cut -/
noncomputable def c14 : CT Tryd.prog Γm := CT.auto true 100 3 [] 14 Tryd.f14 (bodyOf Tryd.f14) false 25 [.tmp 4, .tmp 5] Tryd.func14 (by kernel_rfl) (by kernel_rfl) (by kernel_rfl) (by kernel_rfl)
theorem run8 : (bodyE (P := Tryd.prog) (Γ := Γm) [c21, c14, c17] (autoL true 100 [c21, c14, c17] false 0 35 (loopBodies (bodyOf Tryd.f8)) 3) false 35 [.tmp 0] (bodyOf Tryd.f8) [] []).get = some ⟨.sb true, []⟩ := by kernel_rfl
/-- the example holds -/
noncomputable def c8 : CT Tryd.prog Γm := CT.fact 8 Tryd.f8 (bodyOf Tryd.f8) [c21, c14, c17] (autoL true 100 [c21, c14, c17] false 0 35 (loopBodies (bodyOf Tryd.f8)) 3) false 35 [.tmp 0] Tryd.func8 (by kernel_rfl) (by kernel_rfl) (by kernel_rfl) (by kernel_rfl) (autoL_ok 3) (.sb true) (.sb true) run8
namespace S
/-- (hallmoot/name.span).has -/
noncomputable def c25 : CT Tryd.prog Γm := CT.auto false 100 3 [] 25 Tryd.f25 (bodyOf Tryd.f25) false 21 [.tmp 4] Tryd.func25 (by kernel_rfl) (by kernel_rfl) (by kernel_rfl) (by kernel_rfl)
/-- hallmoot/name.great -/
noncomputable def c26 : CT Tryd.prog Γm := CT.auto false 100 3 [c25] 26 Tryd.f26 (bodyOf Tryd.f26) false 16 [.tmp 2] Tryd.func26 (by kernel_rfl) (by kernel_rfl) (by kernel_rfl) (by kernel_rfl)
/-- hallmoot/name.Small -/
noncomputable def c12 : CT Tryd.prog Γm := CT.auto false 100 3 [c26] 12 Tryd.f12 (bodyOf Tryd.f12) false 8 [.tmp 2] Tryd.func12 (by kernel_rfl) (by kernel_rfl) (by kernel_rfl) (by kernel_rfl)
/-- hallmoot/name.Letter -/
noncomputable def c10 : CT Tryd.prog Γm := CT.auto false 100 3 [c25] 10 Tryd.f10 (bodyOf Tryd.f10) false 19 [.tmp 2] Tryd.func10 (by kernel_rfl) (by kernel_rfl) (by kernel_rfl) (by kernel_rfl)
/-- hallmoot/hallmootref02.Great -/
noncomputable def c9 : CT Tryd.prog Γm := CT.auto false 100 3 [] 9 Tryd.f9 (bodyOf Tryd.f9) false 33 [.tmp 2] Tryd.func9 (by kernel_rfl) (by kernel_rfl) (by kernel_rfl) (by kernel_rfl)
/-- hallmoot/hallmootref02.Letter -/
noncomputable def c11 : CT Tryd.prog Γm := CT.auto false 100 3 [] 11 Tryd.f11 (bodyOf Tryd.f11) false 45 [.tmp 2] Tryd.func11 (by kernel_rfl) (by kernel_rfl) (by kernel_rfl) (by kernel_rfl)
end S
end Go.Eng.Nm
