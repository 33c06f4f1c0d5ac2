/- net: the chapter's example. -/
import Derived.Test.YtdgmdjoaapdgbaaEngAB
import Derived.Test.YtdgmdjoaapdgbaaChecked
import Derived.KernelRfl
namespace Go.Eng.N
open Go Go.Eng Go.Proofs
set_option linter.unusedSimpArgs false
set_option linter.unusedVariables false
noncomputable def Γn (g : Nat) : AV := .any
noncomputable def bodyOf (fn : Func) : Code := match fn.body with | some c => c | none => .skip
noncomputable def Lno : Nat → LSpec := fun _ => ⟨[], [], fun _ _ => .fail⟩
/-- hallmoot/net.New -/
noncomputable def c8 : CT Try.prog Γn := CT.auto true 100 3 [] 8 Try.f8 (bodyOf Try.f8) false 13 [.tmp 2, .tmp 3] Try.func8 (by kernel_rfl) (by kernel_rfl) (by kernel_rfl) (by kernel_rfl)
/-- (*hallmoot/net.Net).add -/
noncomputable def c20 : CT Try.prog Γn := CT.auto true 100 3 [] 20 Try.f20 (bodyOf Try.f20) false 32 [.tmp 4] Try.func20 (by kernel_rfl) (by kernel_rfl) (by kernel_rfl) (by kernel_rfl)
/-- (*hallmoot/net.Net).At -/
noncomputable def c17 : CT Try.prog Γn := CT.auto true 100 3 [] 17 Try.f17 (bodyOf Try.f17) false 30 [.cell 4 30, .tmp 5] Try.func17 (by kernel_rfl) (by kernel_rfl) (by kernel_rfl) (by kernel_rfl)
/-- slices.Clone[[]hallmoot/net.Item,hallmoot/net.Item] -/
noncomputable def c22 : CT Try.prog Γn := CT.auto true 100 3 [] 22 Try.f22 (bodyOf Try.f22) false 8 [.tmp 2] Try.func22 (by kernel_rfl) (by kernel_rfl) (by kernel_rfl) (by kernel_rfl)
/-- (*hallmoot/net.Net).Send -/
noncomputable def c9 : CT Try.prog Γn := CT.auto true 100 3 [c20] 9 Try.f9 (bodyOf Try.f9) false 16 [.tmp 4] Try.func9 (by kernel_rfl) (by kernel_rfl) (by kernel_rfl) (by kernel_rfl)
/-- (*hallmoot/net.Net).Len -/
noncomputable def c10 : CT Try.prog Γn := CT.auto true 100 3 [] 10 Try.f10 (bodyOf Try.f10) false 10 [.tmp 2] Try.func10 (by kernel_rfl) (by kernel_rfl) (by kernel_rfl) (by kernel_rfl)
/-- (*hallmoot/net.Net).Lost -/
noncomputable def c19 : CT Try.prog Γn := CT.auto true 100 3 [] 19 Try.f19 (bodyOf Try.f19) false 9 [.tmp 2] Try.func19 (by kernel_rfl) (by kernel_rfl) (by kernel_rfl) (by kernel_rfl)
theorem run7 : (bodyE (P := Try.prog) (Γ := Γn) [c8, c9, c19, c10] (autoL true 100 [c8, c9, c19, c10] false 0 31 (loopBodies (bodyOf Try.f7)) 3) false 31 [.tmp 0] (bodyOf Try.f7) [] []).get = some ⟨.sb true, []⟩ := by kernel_rfl
/-- the example holds -/
noncomputable def c7 : CT Try.prog Γn := CT.fact 7 Try.f7 (bodyOf Try.f7) [c8, c9, c19, c10] (autoL true 100 [c8, c9, c19, c10] false 0 31 (loopBodies (bodyOf Try.f7)) 3) false 31 [.tmp 0] Try.func7 (by kernel_rfl) (by kernel_rfl) (by kernel_rfl) (by kernel_rfl) (autoL_ok 3) (.sb true) (.sb true) run7
namespace S
/-- (*hallmoot/net.Net).At -/
noncomputable def c17 : CT Try.prog Γn := CT.auto false 100 3 [] 17 Try.f17 (bodyOf Try.f17) false 30 [.cell 4 30, .tmp 5] Try.func17 (by kernel_rfl) (by kernel_rfl) (by kernel_rfl) (by kernel_rfl)
/-- slices.Clone[[]hallmoot/net.Item,hallmoot/net.Item] -/
noncomputable def c22 : CT Try.prog Γn := CT.auto false 100 3 [] 22 Try.f22 (bodyOf Try.f22) false 8 [.tmp 2] Try.func22 (by kernel_rfl) (by kernel_rfl) (by kernel_rfl) (by kernel_rfl)
/-- slices.Delete[[]hallmoot/net.Item,hallmoot/net.Item] -/
noncomputable def c21 : CT Try.prog Γn := CT.auto false 100 3 [] 21 Try.f21 (bodyOf Try.f21) false 33 [.tmp 6] Try.func21 (by kernel_rfl) (by kernel_rfl) (by kernel_rfl) (by kernel_rfl)
/-- (*hallmoot/net.Net).add -/
noncomputable def c20 : CT Try.prog Γn := CT.auto false 100 3 [] 20 Try.f20 (bodyOf Try.f20) false 32 [.tmp 4] Try.func20 (by kernel_rfl) (by kernel_rfl) (by kernel_rfl) (by kernel_rfl)
/-- (*hallmoot/net.Net).Send -/
noncomputable def c9 : CT Try.prog Γn := CT.auto false 100 3 [c20] 9 Try.f9 (bodyOf Try.f9) false 16 [.tmp 4] Try.func9 (by kernel_rfl) (by kernel_rfl) (by kernel_rfl) (by kernel_rfl)
/-- (*hallmoot/net.Net).Len -/
noncomputable def c10 : CT Try.prog Γn := CT.auto false 100 3 [] 10 Try.f10 (bodyOf Try.f10) false 10 [.tmp 2] Try.func10 (by kernel_rfl) (by kernel_rfl) (by kernel_rfl) (by kernel_rfl)
/-- (*hallmoot/net.Net).Take -/
noncomputable def c11 : CT Try.prog Γn := CT.auto false 100 3 [c17, c21] 11 Try.f11 (bodyOf Try.f11) false 29 [.cell 4 30, .tmp 5] Try.func11 (by kernel_rfl) (by kernel_rfl) (by kernel_rfl) (by kernel_rfl)
/-- (*hallmoot/net.Net).Items -/
noncomputable def c12 : CT Try.prog Γn := CT.auto false 100 3 [c22] 12 Try.f12 (bodyOf Try.f12) false 10 [.tmp 2] Try.func12 (by kernel_rfl) (by kernel_rfl) (by kernel_rfl) (by kernel_rfl)
/-- (*hallmoot/net.Net).Double -/
noncomputable def c15 : CT Try.prog Γn := CT.auto false 100 3 [c17, c20] 15 Try.f15 (bodyOf Try.f15) false 19 [.tmp 4] Try.func15 (by kernel_rfl) (by kernel_rfl) (by kernel_rfl) (by kernel_rfl)
/-- (*hallmoot/net.Net).Lost -/
noncomputable def c19 : CT Try.prog Γn := CT.auto false 100 3 [] 19 Try.f19 (bodyOf Try.f19) false 9 [.tmp 2] Try.func19 (by kernel_rfl) (by kernel_rfl) (by kernel_rfl) (by kernel_rfl)
end S
end Go.Eng.N
