/- pool: the chapter's example. -/
import Derived.Test.YthkoglcbldmdpaaDoorEngAB
import Derived.Test.YthkoglcbldmdpaaDoorChecked
import Derived.KernelRfl
namespace Go.Eng.Po
open Go Go.Eng Go.Proofs
set_option linter.unusedSimpArgs false
set_option linter.unusedVariables false
noncomputable def Γo (g : Nat) : AV := .any
noncomputable def bodyOf (fn : Func) : Code := match fn.body with | some c => c | none => .skip
noncomputable def Lno : Nat → LSpec := fun _ => ⟨[], [], fun _ _ => .fail⟩
/-- (hallmoot/name.span).has -/
noncomputable def c42 : CT Tryd.prog Γo := CT.auto true 100 3 [] 42 Tryd.f42 (bodyOf Tryd.f42) false 21 [.tmp 4] Tryd.func42 (by kernel_rfl) (by kernel_rfl) (by kernel_rfl) (by kernel_rfl)
/-- hallmoot/name.Letter -/
noncomputable def c37 : CT Tryd.prog Γo := CT.auto true 100 3 [c42] 37 Tryd.f37 (bodyOf Tryd.f37) false 19 [.tmp 2] Tryd.func37 (by kernel_rfl) (by kernel_rfl) (by kernel_rfl) (by kernel_rfl)
/-- hallmoot/name.Check -/
noncomputable def c29 : CT Tryd.prog Γo := CT.auto true 100 3 [c37] 29 Tryd.f29 (bodyOf Tryd.f29) false 41 [.tmp 2] Tryd.func29 (by kernel_rfl) (by kernel_rfl) (by kernel_rfl) (by kernel_rfl)
/-- hallmoot/name.broken -/
noncomputable def c38 : CT Tryd.prog Γo := CT.auto true 100 3 [] 38 Tryd.f38 (bodyOf Tryd.f38) false 20 [.tmp 6] Tryd.func38 (by kernel_rfl) (by kernel_rfl) (by kernel_rfl) (by kernel_rfl)
/-- hallmoot/name.Value -/
noncomputable def c31 : CT Tryd.prog Γo := CT.auto true 100 3 [c38] 31 Tryd.f31 (bodyOf Tryd.f31) false 28 [.tmp 2] Tryd.func31 (by kernel_rfl) (by kernel_rfl) (by kernel_rfl) (by kernel_rfl)
/-- hallmoot/num.Within -/
noncomputable def c30 : CT Tryd.prog Γo := CT.auto true 100 3 [] 30 Tryd.f30 (bodyOf Tryd.f30) false 15 [.tmp 6] Tryd.func30 (by kernel_rfl) (by kernel_rfl) (by kernel_rfl) (by kernel_rfl)
/-- hallmoot/tx.Check -/
noncomputable def c22 : CT Tryd.prog Γo := CT.auto true 100 3 [c29, c31, c30] 22 Tryd.f22 (bodyOf Tryd.f22) false 66 [.tmp 2] Tryd.func22 (by kernel_rfl) (by kernel_rfl) (by kernel_rfl) (by kernel_rfl)
/-- slices.Index[[]hallmoot/api.Tx,hallmoot/api.Tx] -/
noncomputable def c32 : CT Tryd.prog Γo := CT.auto true 100 3 [] 32 Tryd.f32 (bodyOf Tryd.f32) false 19 [.tmp 4] Tryd.func32 (by kernel_rfl) (by kernel_rfl) (by kernel_rfl) (by kernel_rfl)
/-- slices.Contains[[]hallmoot/api.Tx,hallmoot/api.Tx] -/
noncomputable def c23 : CT Tryd.prog Γo := CT.auto true 100 3 [c32] 23 Tryd.f23 (bodyOf Tryd.f23) false 9 [.tmp 4] Tryd.func23 (by kernel_rfl) (by kernel_rfl) (by kernel_rfl) (by kernel_rfl)
/-- hallmoot/pool.New -/
noncomputable def c7 : CT Tryd.prog Γo := CT.auto true 100 3 [] 7 Tryd.f7 (bodyOf Tryd.f7) false 13 [.tmp 2, .tmp 3] Tryd.func7 (by kernel_rfl) (by kernel_rfl) (by kernel_rfl) (by kernel_rfl)
/-- (*hallmoot/pool.Pool).Add -/
noncomputable def c9 : CT Tryd.prog Γo := CT.auto true 100 3 [c22, c23] 9 Tryd.f9 (bodyOf Tryd.f9) false 41 [.tmp 4] Tryd.func9 (by kernel_rfl) (by kernel_rfl) (by kernel_rfl) (by kernel_rfl)
/-- (*hallmoot/pool.Pool).Len -/
noncomputable def c12 : CT Tryd.prog Γo := CT.auto true 100 3 [] 12 Tryd.f12 (bodyOf Tryd.f12) false 10 [.tmp 2] Tryd.func12 (by kernel_rfl) (by kernel_rfl) (by kernel_rfl) (by kernel_rfl)
theorem run6 : (bodyE (P := Tryd.prog) (Γ := Γo) [c7, c9, c12] (autoL true 100 [c7, c9, c12] false 0 36 (loopBodies (bodyOf Tryd.f6)) 3) false 36 [.tmp 0] (bodyOf Tryd.f6) [] []).get = some ⟨.sb true, []⟩ := by kernel_rfl
/-- the example holds -/
noncomputable def c6 : CT Tryd.prog Γo := CT.fact 6 Tryd.f6 (bodyOf Tryd.f6) [c7, c9, c12] (autoL true 100 [c7, c9, c12] false 0 36 (loopBodies (bodyOf Tryd.f6)) 3) false 36 [.tmp 0] Tryd.func6 (by kernel_rfl) (by kernel_rfl) (by kernel_rfl) (by kernel_rfl) (autoL_ok 3) (.sb true) (.sb true) run6
namespace S
/-- (*hallmoot/pool.Pool).Add -/
noncomputable def c9 : CT Tryd.prog Γo := CT.auto false 100 3 [] 9 Tryd.f9 (bodyOf Tryd.f9) false 41 [.tmp 4] Tryd.func9 (by kernel_rfl) (by kernel_rfl) (by kernel_rfl) (by kernel_rfl)
/-- (*hallmoot/pool.Pool).All -/
noncomputable def c10 : CT Tryd.prog Γo := CT.auto false 100 3 [] 10 Tryd.f10 (bodyOf Tryd.f10) false 10 [.tmp 2] Tryd.func10 (by kernel_rfl) (by kernel_rfl) (by kernel_rfl) (by kernel_rfl)
/-- (*hallmoot/pool.Pool).Batch -/
noncomputable def c11 : CT Tryd.prog Γo := CT.auto false 100 3 [c10] 11 Tryd.f11 (bodyOf Tryd.f11) false 55 [.tmp 6] Tryd.func11 (by kernel_rfl) (by kernel_rfl) (by kernel_rfl) (by kernel_rfl)
/-- (*hallmoot/pool.Pool).keep -/
noncomputable def c26 : CT Tryd.prog Γo := CT.auto false 100 3 [] 26 Tryd.f26 (bodyOf Tryd.f26) false 29 [.tmp 4] Tryd.func26 (by kernel_rfl) (by kernel_rfl) (by kernel_rfl) (by kernel_rfl)
/-- (*hallmoot/pool.Pool).Drop -/
noncomputable def c18 : CT Tryd.prog Γo := CT.auto false 100 3 [c26] 18 Tryd.f18 (bodyOf Tryd.f18) false 8 [.tmp 4] Tryd.func18 (by kernel_rfl) (by kernel_rfl) (by kernel_rfl) (by kernel_rfl)
/-- (*hallmoot/pool.Pool).Past -/
noncomputable def c20 : CT Tryd.prog Γo := CT.auto false 100 3 [c26] 20 Tryd.f20 (bodyOf Tryd.f20) false 10 [.tmp 6] Tryd.func20 (by kernel_rfl) (by kernel_rfl) (by kernel_rfl) (by kernel_rfl)
/-- (*hallmoot/pool.Pool).Len -/
noncomputable def c12 : CT Tryd.prog Γo := CT.auto false 100 3 [] 12 Tryd.f12 (bodyOf Tryd.f12) false 10 [.tmp 2] Tryd.func12 (by kernel_rfl) (by kernel_rfl) (by kernel_rfl) (by kernel_rfl)
end S
end Go.Eng.Po
