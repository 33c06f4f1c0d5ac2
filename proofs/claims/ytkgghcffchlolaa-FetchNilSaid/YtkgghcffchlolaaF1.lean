/- fetch: the chapter's example. -/
import Derived.Test.YtkgghcffchlolaaEngAB
import Derived.Test.YtkgghcffchlolaaChecked
import Derived.KernelRfl
namespace Go.Eng.F
open Go Go.Eng Go.Proofs
set_option linter.unusedSimpArgs false
set_option linter.unusedVariables false
noncomputable def Γf (g : Nat) : AV := .any
noncomputable def bodyOf (fn : Func) : Code := match fn.body with | some c => c | none => .skip
noncomputable def Lno : Nat → LSpec := fun _ => ⟨[], [], fun _ _ => .fail⟩
/-- hallmoot/quorum.may -/
noncomputable def c31 : CT Try.prog Γf := CT.auto true 100 3 [] 31 Try.f31 (bodyOf Try.f31) false 9 [.tmp 2] Try.func31 (by kernel_rfl) (by kernel_rfl) (by kernel_rfl) (by kernel_rfl)
/-- hallmoot/quorum.times -/
noncomputable def c30 : CT Try.prog Γf := CT.auto true 100 3 [c31] 30 Try.f30 (bodyOf Try.f30) false 15 [.tmp 4] Try.func30 (by kernel_rfl) (by kernel_rfl) (by kernel_rfl) (by kernel_rfl)
/-- hallmoot/quorum.All -/
noncomputable def c17 : CT Try.prog Γf := CT.auto true 100 3 [c30] 17 Try.f17 (bodyOf Try.f17) false 5 [.tmp 2] Try.func17 (by kernel_rfl) (by kernel_rfl) (by kernel_rfl) (by kernel_rfl)
/-- hallmoot/fetch.New -/
noncomputable def c7 : CT Try.prog Γf := CT.auto true 100 3 [c17] 7 Try.f7 (bodyOf Try.f7) false 34 [.tmp 8, .tmp 9] Try.func7 (by kernel_rfl) (by kernel_rfl) (by kernel_rfl) (by kernel_rfl)
/-- (*hallmoot/fetch.Fetch).find$1 -/
noncomputable def c34 : CT Try.prog Γf := CT.auto true 100 3 [] 34 Try.f34 (bodyOf Try.f34) false 9 [.tmp 4] Try.func34 (by kernel_rfl) (by kernel_rfl) (by kernel_rfl) (by kernel_rfl)
/-- slices.BinarySearchFunc[[]hallmoot/fetch.wish,hallmoot/fetch.wish,int] -/
noncomputable def c33 : CT Try.prog Γf := CT.auto true 100 3 [c34] 33 Try.f33 (bodyOf Try.f33) false 49 [.tmp 6, .tmp 7] Try.func33 (by kernel_rfl) (by kernel_rfl) (by kernel_rfl) (by kernel_rfl)
/-- (*hallmoot/fetch.Fetch).find -/
noncomputable def c21 : CT Try.prog Γf := CT.auto true 100 3 [c33, c34] 21 Try.f21 (bodyOf Try.f21) false 14 [.tmp 4, .tmp 5] Try.func21 (by kernel_rfl) (by kernel_rfl) (by kernel_rfl) (by kernel_rfl)
/-- slices.Insert[[]hallmoot/fetch.wish,hallmoot/fetch.wish] -/
noncomputable def c22 : CT Try.prog Γf := CT.auto true 100 3 [] 22 Try.f22 (bodyOf Try.f22) false 95 [.tmp 6] Try.func22 (by kernel_rfl) (by kernel_rfl) (by kernel_rfl) (by kernel_rfl)
/-- (*hallmoot/fetch.Fetch).Want -/
noncomputable def c9 : CT Try.prog Γf := CT.auto true 100 3 [c21, c22] 9 Try.f9 (bodyOf Try.f9) false 44 [.tmp 4] Try.func9 (by kernel_rfl) (by kernel_rfl) (by kernel_rfl) (by kernel_rfl)
/-- (*hallmoot/fetch.Fetch).Got$1 -/
noncomputable def c25 : CT Try.prog Γf := CT.auto true 100 3 [] 25 Try.f25 (bodyOf Try.f25) false 8 [.tmp 3] Try.func25 (by kernel_rfl) (by kernel_rfl) (by kernel_rfl) (by kernel_rfl)
/-- (*hallmoot/fetch.Fetch).Tick$1 -/
noncomputable def c28 : CT Try.prog Γf := CT.auto true 100 3 [] 28 Try.f28 (bodyOf Try.f28) false 11 [.tmp 3] Try.func28 (by kernel_rfl) (by kernel_rfl) (by kernel_rfl) (by kernel_rfl)
/-- slices.IndexFunc[[]hallmoot/fetch.wish,hallmoot/fetch.wish] -/
noncomputable def c24 : CT Try.prog Γf := CT.auto true 100 3 [c25, c28] 24 Try.f24 (bodyOf Try.f24) false 19 [.tmp 4] Try.func24 (by kernel_rfl) (by kernel_rfl) (by kernel_rfl) (by kernel_rfl)
/-- slices.Delete[[]hallmoot/fetch.wish,hallmoot/fetch.wish] -/
noncomputable def c26 : CT Try.prog Γf := CT.auto true 100 3 [] 26 Try.f26 (bodyOf Try.f26) true 33 [.tmp 6] Try.func26 (by kernel_rfl) (by kernel_rfl) (by kernel_rfl) (by kernel_rfl)
/-- (*hallmoot/fetch.Fetch).Got -/
noncomputable def c11 : CT Try.prog Γf := CT.auto true 100 3 [c24, c25, c26] 11 Try.f11 (bodyOf Try.f11) false 27 [.tmp 4] Try.func11 (by kernel_rfl) (by kernel_rfl) (by kernel_rfl) (by kernel_rfl)
/-- slices.DeleteFunc[[]hallmoot/fetch.wish,hallmoot/fetch.wish] -/
noncomputable def c27 : CT Try.prog Γf := CT.auto true 100 3 [c24, c28] 27 Try.f27 (bodyOf Try.f27) false 42 [.tmp 4] Try.func27 (by kernel_rfl) (by kernel_rfl) (by kernel_rfl) (by kernel_rfl)
/-- (*hallmoot/fetch.Fetch).Tick -/
noncomputable def c13 : CT Try.prog Γf := CT.auto true 100 3 [c27, c24, c28] 13 Try.f13 (bodyOf Try.f13) false 75 [.tmp 2] Try.func13 (by kernel_rfl) (by kernel_rfl) (by kernel_rfl) (by kernel_rfl)
/-- (*hallmoot/fetch.Fetch).Clear -/
noncomputable def c15 : CT Try.prog Γf := CT.auto true 100 3 [] 15 Try.f15 (bodyOf Try.f15) false 7 [] Try.func15 (by kernel_rfl) (by kernel_rfl) (by kernel_rfl) (by kernel_rfl)
/-- (*hallmoot/fetch.Fetch).Wants -/
noncomputable def c16 : CT Try.prog Γf := CT.auto true 100 3 [] 16 Try.f16 (bodyOf Try.f16) false 24 [.tmp 2] Try.func16 (by kernel_rfl) (by kernel_rfl) (by kernel_rfl) (by kernel_rfl)
theorem run6 : (bodyE (P := Try.prog) (Γ := Γf) [c7, c9, c11, c13] (autoL true 100 [c7, c9, c11, c13] false 0 62 (loopBodies (bodyOf Try.f6)) 3) false 62 [.tmp 0] (bodyOf Try.f6) [] []).get = some ⟨.sb true, []⟩ := by kernel_rfl
/-- the example holds -/
noncomputable def c6 : CT Try.prog Γf := CT.fact 6 Try.f6 (bodyOf Try.f6) [c7, c9, c11, c13] (autoL true 100 [c7, c9, c11, c13] false 0 62 (loopBodies (bodyOf Try.f6)) 3) false 62 [.tmp 0] Try.func6 (by kernel_rfl) (by kernel_rfl) (by kernel_rfl) (by kernel_rfl) (autoL_ok 3) (.sb true) (.sb true) run6
namespace S
/-- (*hallmoot/fetch.Fetch).Want -/
noncomputable def c9 : CT Try.prog Γf := CT.auto false 100 3 [] 9 Try.f9 (bodyOf Try.f9) false 44 [.tmp 4] Try.func9 (by kernel_rfl) (by kernel_rfl) (by kernel_rfl) (by kernel_rfl)
/-- (*hallmoot/fetch.Fetch).Got -/
noncomputable def c11 : CT Try.prog Γf := CT.auto false 100 3 [] 11 Try.f11 (bodyOf Try.f11) false 27 [.tmp 4] Try.func11 (by kernel_rfl) (by kernel_rfl) (by kernel_rfl) (by kernel_rfl)
/-- (*hallmoot/fetch.Fetch).Tick -/
noncomputable def c13 : CT Try.prog Γf := CT.auto false 100 3 [] 13 Try.f13 (bodyOf Try.f13) false 75 [.tmp 2] Try.func13 (by kernel_rfl) (by kernel_rfl) (by kernel_rfl) (by kernel_rfl)
/-- (*hallmoot/fetch.Fetch).Clear -/
noncomputable def c15 : CT Try.prog Γf := CT.auto false 100 3 [] 15 Try.f15 (bodyOf Try.f15) false 7 [] Try.func15 (by kernel_rfl) (by kernel_rfl) (by kernel_rfl) (by kernel_rfl)
/-- (*hallmoot/fetch.Fetch).Wants -/
noncomputable def c16 : CT Try.prog Γf := CT.auto false 100 3 [] 16 Try.f16 (bodyOf Try.f16) false 24 [.tmp 2] Try.func16 (by kernel_rfl) (by kernel_rfl) (by kernel_rfl) (by kernel_rfl)
end S
end Go.Eng.F
