/- courier: the chapter's example. -/
import Derived.Test.YtjmnnpgmjlfenaaDoorEngAB
import Derived.Test.YtjmnnpgmjlfenaaDoorChecked
import Derived.KernelRfl
namespace Go.Eng.C
open Go Go.Eng Go.Proofs
set_option linter.unusedSimpArgs false
set_option linter.unusedVariables false
noncomputable def Γc (g : Nat) : AV := .any
noncomputable def bodyOf (fn : Func) : Code := match fn.body with | some c => c | none => .skip
noncomputable def Lno : Nat → LSpec := fun _ => ⟨[], [], fun _ _ => .fail⟩
/-- (hallmoot/name.span).has -/
noncomputable def c32 : CT Tryd.prog Γc := CT.auto true 100 3 [] 32 Tryd.f32 (bodyOf Tryd.f32) false 21 [.tmp 4] Tryd.func32 (by kernel_rfl) (by kernel_rfl) (by kernel_rfl) (by kernel_rfl)
/-- hallmoot/name.Letter -/
noncomputable def c26 : CT Tryd.prog Γc := CT.auto true 100 3 [c32] 26 Tryd.f26 (bodyOf Tryd.f26) false 19 [.tmp 2] Tryd.func26 (by kernel_rfl) (by kernel_rfl) (by kernel_rfl) (by kernel_rfl)
/-- hallmoot/name.Check -/
noncomputable def c20 : CT Tryd.prog Γc := CT.auto true 100 3 [c26] 20 Tryd.f20 (bodyOf Tryd.f20) false 41 [.tmp 2] Tryd.func20 (by kernel_rfl) (by kernel_rfl) (by kernel_rfl) (by kernel_rfl)
/-- hallmoot/name.broken -/
noncomputable def c33 : CT Tryd.prog Γc := CT.auto true 100 3 [] 33 Tryd.f33 (bodyOf Tryd.f33) false 20 [.tmp 6] Tryd.func33 (by kernel_rfl) (by kernel_rfl) (by kernel_rfl) (by kernel_rfl)
/-- hallmoot/name.Value -/
noncomputable def c28 : CT Tryd.prog Γc := CT.auto true 100 3 [c33] 28 Tryd.f28 (bodyOf Tryd.f28) false 28 [.tmp 2] Tryd.func28 (by kernel_rfl) (by kernel_rfl) (by kernel_rfl) (by kernel_rfl)
/-- hallmoot/num.Within -/
noncomputable def c27 : CT Tryd.prog Γc := CT.auto true 100 3 [] 27 Tryd.f27 (bodyOf Tryd.f27) false 15 [.tmp 6] Tryd.func27 (by kernel_rfl) (by kernel_rfl) (by kernel_rfl) (by kernel_rfl)
/-- hallmoot/tx.Check -/
noncomputable def c21 : CT Tryd.prog Γc := CT.auto true 100 3 [c20, c28, c27] 21 Tryd.f21 (bodyOf Tryd.f21) false 66 [.tmp 2] Tryd.func21 (by kernel_rfl) (by kernel_rfl) (by kernel_rfl) (by kernel_rfl)
/-- hallmoot/courier.New -/
noncomputable def c8 : CT Tryd.prog Γc := CT.auto true 100 3 [c20] 8 Tryd.f8 (bodyOf Tryd.f8) false 21 [.tmp 4, .tmp 5] Tryd.func8 (by kernel_rfl) (by kernel_rfl) (by kernel_rfl) (by kernel_rfl)
/-- (*hallmoot/courier.Courier).Give -/
noncomputable def c9 : CT Tryd.prog Γc := CT.auto true 100 3 [c21] 9 Tryd.f9 (bodyOf Tryd.f9) false 65 [.cell 4 32, .tmp 5] Tryd.func9 (by kernel_rfl) (by kernel_rfl) (by kernel_rfl) (by kernel_rfl)
/-- (*hallmoot/courier.Courier).Tick -/
noncomputable def c10 : CT Tryd.prog Γc := CT.auto true 100 3 [] 10 Tryd.f10 (bodyOf Tryd.f10) false 77 [.tmp 2] Tryd.func10 (by kernel_rfl) (by kernel_rfl) (by kernel_rfl) (by kernel_rfl)
/-- (*hallmoot/courier.Courier).end -/
noncomputable def c22 : CT Tryd.prog Γc := CT.auto true 100 3 [] 22 Tryd.f22 (bodyOf Tryd.f22) false 78 [.tmp 4] Tryd.func22 (by kernel_rfl) (by kernel_rfl) (by kernel_rfl) (by kernel_rfl)
/-- (*hallmoot/courier.Courier).Hear -/
noncomputable def c11 : CT Tryd.prog Γc := CT.auto true 100 3 [c22] 11 Tryd.f11 (bodyOf Tryd.f11) false 48 [.tmp 4] Tryd.func11 (by kernel_rfl) (by kernel_rfl) (by kernel_rfl) (by kernel_rfl)
/-- (*hallmoot/courier.Courier).Orders -/
noncomputable def c12 : CT Tryd.prog Γc := CT.auto true 100 3 [] 12 Tryd.f12 (bodyOf Tryd.f12) false 24 [.tmp 2] Tryd.func12 (by kernel_rfl) (by kernel_rfl) (by kernel_rfl) (by kernel_rfl)
/-- (*hallmoot/courier.Courier).Counts -/
noncomputable def c17 : CT Tryd.prog Γc := CT.auto true 100 3 [] 17 Tryd.f17 (bodyOf Tryd.f17) false 19 [.tmp 2, .tmp 3, .tmp 4] Tryd.func17 (by kernel_rfl) (by kernel_rfl) (by kernel_rfl) (by kernel_rfl)
theorem run6 : (bodyE (P := Tryd.prog) (Γ := Γc) [c8, c9, c10, c11] (autoL true 100 [c8, c9, c10, c11] false 0 54 (loopBodies (bodyOf Tryd.f6)) 3) false 54 [.tmp 0] (bodyOf Tryd.f6) [] []).get = some ⟨.sb true, []⟩ := by kernel_rfl
/-- the example holds -/
noncomputable def c6 : CT Tryd.prog Γc := CT.fact 6 Tryd.f6 (bodyOf Tryd.f6) [c8, c9, c10, c11] (autoL true 100 [c8, c9, c10, c11] false 0 54 (loopBodies (bodyOf Tryd.f6)) 3) false 54 [.tmp 0] Tryd.func6 (by kernel_rfl) (by kernel_rfl) (by kernel_rfl) (by kernel_rfl) (autoL_ok 3) (.sb true) (.sb true) run6
namespace S
/-- (*hallmoot/courier.Courier).Give -/
noncomputable def c9 : CT Tryd.prog Γc := CT.auto false 100 3 [] 9 Tryd.f9 (bodyOf Tryd.f9) false 65 [.cell 4 32, .tmp 5] Tryd.func9 (by kernel_rfl) (by kernel_rfl) (by kernel_rfl) (by kernel_rfl)
/-- (*hallmoot/courier.Courier).Tick -/
noncomputable def c10 : CT Tryd.prog Γc := CT.auto false 100 3 [] 10 Tryd.f10 (bodyOf Tryd.f10) false 77 [.tmp 2] Tryd.func10 (by kernel_rfl) (by kernel_rfl) (by kernel_rfl) (by kernel_rfl)
/-- (*hallmoot/courier.Courier).Hear -/
noncomputable def c11 : CT Tryd.prog Γc := CT.auto false 100 3 [] 11 Tryd.f11 (bodyOf Tryd.f11) false 48 [.tmp 4] Tryd.func11 (by kernel_rfl) (by kernel_rfl) (by kernel_rfl) (by kernel_rfl)
/-- (*hallmoot/courier.Courier).Orders -/
noncomputable def c12 : CT Tryd.prog Γc := CT.auto false 100 3 [] 12 Tryd.f12 (bodyOf Tryd.f12) false 24 [.tmp 2] Tryd.func12 (by kernel_rfl) (by kernel_rfl) (by kernel_rfl) (by kernel_rfl)
/-- (*hallmoot/courier.Courier).Counts -/
noncomputable def c17 : CT Tryd.prog Γc := CT.auto false 100 3 [] 17 Tryd.f17 (bodyOf Tryd.f17) false 19 [.tmp 2, .tmp 3, .tmp 4] Tryd.func17 (by kernel_rfl) (by kernel_rfl) (by kernel_rfl) (by kernel_rfl)
end S
end Go.Eng.C
