/- sign: the chapter's example. -/
import Derived.Test.YtnpfcaecaflfbaaDoorEngAB
import Derived.Test.YtnpfcaecaflfbaaDoorChecked
import Derived.Test.YtnpfcaecaflfbaaDoorQM
import Derived.KernelRfl
namespace Go.Eng.Si
open Go Go.Eng Go.Proofs
set_option linter.unusedSimpArgs false
set_option linter.unusedVariables false
noncomputable def Γs (g : Nat) : AV := match Nat.beq g 0 with | true => .pa 1 32 fun i => [.v (.int .u8 (Go.Eng.M.deb.getD i 0))] | false => .any
noncomputable def bodyOf (fn : Func) : Code := match fn.body with | some c => c | none => .skip
noncomputable def Lno : Nat → LSpec := fun _ => ⟨[], [], fun _ _ => .fail⟩
/-- hallmoot/quorum.times -/
noncomputable def c35 : CT Tryd.prog Γs := CT.auto true 100 3 [] 35 Tryd.f35 (bodyOf Tryd.f35) false 15 [.tmp 4] Tryd.func35 (by kernel_rfl) (by kernel_rfl) (by kernel_rfl) (by kernel_rfl)
/-- hallmoot/quorum.All -/
noncomputable def c32 : CT Tryd.prog Γs := CT.auto true 100 3 [c35] 32 Tryd.f32 (bodyOf Tryd.f32) false 5 [.tmp 2] Tryd.func32 (by kernel_rfl) (by kernel_rfl) (by kernel_rfl) (by kernel_rfl)
/-- hallmoot/quorum.Full -/
noncomputable def c33 : CT Tryd.prog Γs := CT.auto true 100 3 [c32] 33 Tryd.f33 (bodyOf Tryd.f33) false 7 [.tmp 2] Tryd.func33 (by kernel_rfl) (by kernel_rfl) (by kernel_rfl) (by kernel_rfl)
/-- hallmoot/quorum.Check -/
noncomputable def c21 : CT Tryd.prog Γs := CT.auto true 100 3 [c32, c33] 21 Tryd.f21 (bodyOf Tryd.f21) false 15 [.tmp 4] Tryd.func21 (by kernel_rfl) (by kernel_rfl) (by kernel_rfl) (by kernel_rfl)
/-- math/bits.OnesCount32 -/
noncomputable def c25 : CT Tryd.prog Γs := CT.auto true 100 3 [] 25 Tryd.f25 (bodyOf Tryd.f25) false 21 [.tmp 2] Tryd.func25 (by kernel_rfl) (by kernel_rfl) (by kernel_rfl) (by kernel_rfl)
/-- hallmoot/quorum.Count -/
noncomputable def c11 : CT Tryd.prog Γs := CT.auto true 100 3 [c25] 11 Tryd.f11 (bodyOf Tryd.f11) false 5 [.tmp 2] Tryd.func11 (by kernel_rfl) (by kernel_rfl) (by kernel_rfl) (by kernel_rfl)
/-- hallmoot/sign.New -/
noncomputable def c7 : CT Tryd.prog Γs := CT.auto true 100 3 [c21, c11] 7 Tryd.f7 (bodyOf Tryd.f7) false 22 [.tmp 4, .tmp 5] Tryd.func7 (by kernel_rfl) (by kernel_rfl) (by kernel_rfl) (by kernel_rfl)
/-- (*hallmoot/sign.Sign).replica -/
noncomputable def c23 : CT Tryd.prog Γs := CT.auto true 100 3 [c32] 23 Tryd.f23 (bodyOf Tryd.f23) false 20 [.tmp 4] Tryd.func23 (by kernel_rfl) (by kernel_rfl) (by kernel_rfl) (by kernel_rfl)
/-- (*hallmoot/sign.Sign).Issue -/
noncomputable def c9 : CT Tryd.prog Γs := CT.auto true 100 3 [c23] 9 Tryd.f9 (bodyOf Tryd.f9) false 46 [.tmp 4] Tryd.func9 (by kernel_rfl) (by kernel_rfl) (by kernel_rfl) (by kernel_rfl)
/-- math/bits.TrailingZeros32 -/
noncomputable def c34 : CT Tryd.prog Γs := CT.auto true 100 3 [] 34 Tryd.f34 (bodyOf Tryd.f34) false 14 [.tmp 2] Tryd.func34 (by kernel_rfl) (by kernel_rfl) (by kernel_rfl) (by kernel_rfl)
/-- hallmoot/quorum.List -/
noncomputable def c22 : CT Tryd.prog Γs := CT.auto true 100 3 [c34] 22 Tryd.f22 (bodyOf Tryd.f22) false 16 [.tmp 2] Tryd.func22 (by kernel_rfl) (by kernel_rfl) (by kernel_rfl) (by kernel_rfl)
/-- hallmoot/quorum.may -/
noncomputable def c24 : CT Tryd.prog Γs := CT.auto true 100 3 [] 24 Tryd.f24 (bodyOf Tryd.f24) false 9 [.tmp 2] Tryd.func24 (by kernel_rfl) (by kernel_rfl) (by kernel_rfl) (by kernel_rfl)
/-- hallmoot/quorum.Has -/
noncomputable def c10 : CT Tryd.prog Γs := CT.auto true 100 3 [c24] 10 Tryd.f10 (bodyOf Tryd.f10) false 14 [.tmp 4] Tryd.func10 (by kernel_rfl) (by kernel_rfl) (by kernel_rfl) (by kernel_rfl)
/-- (*hallmoot/sign.Sign).Counts -/
noncomputable def c15 : CT Tryd.prog Γs := CT.auto true 100 3 [c23, c10] 15 Tryd.f15 (bodyOf Tryd.f15) false 35 [.tmp 4] Tryd.func15 (by kernel_rfl) (by kernel_rfl) (by kernel_rfl) (by kernel_rfl)
/-- (*hallmoot/sign.Sign).All -/
noncomputable def c8 : CT Tryd.prog Γs := CT.auto true 100 3 [c21, c22, c15] 8 Tryd.f8 (bodyOf Tryd.f8) false 38 [.tmp 6] Tryd.func8 (by kernel_rfl) (by kernel_rfl) (by kernel_rfl) (by kernel_rfl)
theorem run6 : (bodyE (P := Tryd.prog) (Γ := Γs) [c7, c9, c8] (autoL true 100 [c7, c9, c8] false 0 32 (loopBodies (bodyOf Tryd.f6)) 3) false 32 [.tmp 0] (bodyOf Tryd.f6) [] []).get = some ⟨.sb true, []⟩ := by kernel_rfl
/-- the example holds -/
noncomputable def c6 : CT Tryd.prog Γs := CT.fact 6 Tryd.f6 (bodyOf Tryd.f6) [c7, c9, c8] (autoL true 100 [c7, c9, c8] false 0 32 (loopBodies (bodyOf Tryd.f6)) 3) false 32 [.tmp 0] Tryd.func6 (by kernel_rfl) (by kernel_rfl) (by kernel_rfl) (by kernel_rfl) (autoL_ok 3) (.sb true) (.sb true) run6
namespace S
/-- (*hallmoot/sign.Sign).replica -/
noncomputable def c23 : CT Tryd.prog Γs := CT.auto false 100 3 [] 23 Tryd.f23 (bodyOf Tryd.f23) false 20 [.tmp 4] Tryd.func23 (by kernel_rfl) (by kernel_rfl) (by kernel_rfl) (by kernel_rfl)
/-- (*hallmoot/sign.Sign).Issue -/
noncomputable def c9 : CT Tryd.prog Γs := CT.auto false 100 3 [c23] 9 Tryd.f9 (bodyOf Tryd.f9) false 46 [.tmp 4] Tryd.func9 (by kernel_rfl) (by kernel_rfl) (by kernel_rfl) (by kernel_rfl)
/-- (*hallmoot/sign.Sign).Counts -/
noncomputable def c15 : CT Tryd.prog Γs := CT.auto false 100 3 [c23] 15 Tryd.f15 (bodyOf Tryd.f15) false 35 [.tmp 4] Tryd.func15 (by kernel_rfl) (by kernel_rfl) (by kernel_rfl) (by kernel_rfl)
/-- (*hallmoot/sign.Sign).All -/
noncomputable def c8 : CT Tryd.prog Γs := CT.auto false 100 3 [] 8 Tryd.f8 (bodyOf Tryd.f8) false 38 [.tmp 6] Tryd.func8 (by kernel_rfl) (by kernel_rfl) (by kernel_rfl) (by kernel_rfl)
/-- (*hallmoot/sign.Sign).Enough -/
noncomputable def c12 : CT Tryd.prog Γs := CT.auto false 100 3 [c8] 12 Tryd.f12 (bodyOf Tryd.f12) false 21 [.tmp 8] Tryd.func12 (by kernel_rfl) (by kernel_rfl) (by kernel_rfl) (by kernel_rfl)
/-- (*hallmoot/sign.Sign).Shares -/
noncomputable def c18 : CT Tryd.prog Γs := CT.auto false 100 3 [] 18 Tryd.f18 (bodyOf Tryd.f18) false 10 [.tmp 2] Tryd.func18 (by kernel_rfl) (by kernel_rfl) (by kernel_rfl) (by kernel_rfl)
/-- (*hallmoot/sign.Sign).F -/
noncomputable def c19 : CT Tryd.prog Γs := CT.auto false 100 3 [] 19 Tryd.f19 (bodyOf Tryd.f19) false 9 [.tmp 2] Tryd.func19 (by kernel_rfl) (by kernel_rfl) (by kernel_rfl) (by kernel_rfl)
/-- (*hallmoot/sign.Sign).Bad -/
noncomputable def c20 : CT Tryd.prog Γs := CT.auto false 100 3 [] 20 Tryd.f20 (bodyOf Tryd.f20) false 9 [.tmp 2] Tryd.func20 (by kernel_rfl) (by kernel_rfl) (by kernel_rfl) (by kernel_rfl)
end S
end Go.Eng.Si
