/- wire: no reader. -/
import Derived.Test.YtaeehckolckbmaaW1
namespace Go.Eng.W
open Go Go.Eng Go.Proofs
set_option linter.unusedSimpArgs false
set_option linter.unusedVariables false
noncomputable def c6 : CT Try.prog Γw := CT.fact 6 Try.f6 (bodyOf Try.f6) [c7, c18, c13, c17] (autoL true 100 [c7, c18, c13, c17] false 0 31 (loopBodies (bodyOf Try.f6)) 1) false 31 [.tmp 0] Try.func6 (by kernel_rfl) (by kernel_rfl) (by kernel_rfl) (by kernel_rfl) (autoL_ok 1) (.sb true) (.sb true) run6
noncomputable def Lno : Nat → LSpec := fun _ => ⟨[], [], fun _ _ => .fail⟩
namespace S
/-- (*hallmoot/wire.Reader).Fail -/
noncomputable def c12 : CT Try.prog Γw := CT.auto false 100 3 [] 12 Try.f12 (bodyOf Try.f12) false 24 [] Try.func12 (by kernel_rfl) (by kernel_rfl) (by kernel_rfl) (by kernel_rfl)
/-- (*hallmoot/wire.Reader).Num -/
noncomputable def c13 : CT Try.prog Γw := CT.auto false 100 3 [c12] 13 Try.f13 (bodyOf Try.f13) false 75 [.tmp 2] Try.func13 (by kernel_rfl) (by kernel_rfl) (by kernel_rfl) (by kernel_rfl)
/-- (*hallmoot/wire.Reader).Done -/
noncomputable def c17 : CT Try.prog Γw := CT.auto false 100 3 [] 17 Try.f17 (bodyOf Try.f17) false 24 [.tmp 2] Try.func17 (by kernel_rfl) (by kernel_rfl) (by kernel_rfl) (by kernel_rfl)
/-- (*hallmoot/wire.Reader).Most -/
noncomputable def c14 : CT Try.prog Γw := CT.auto false 100 3 [c13, c12] 14 Try.f14 (bodyOf Try.f14) false 14 [.tmp 4] Try.func14 (by kernel_rfl) (by kernel_rfl) (by kernel_rfl) (by kernel_rfl)
/-- (*hallmoot/wire.Reader).Rest -/
noncomputable def c16 : CT Try.prog Γw := CT.auto false 100 3 [] 16 Try.f16 (bodyOf Try.f16) false 10 [.tmp 2] Try.func16 (by kernel_rfl) (by kernel_rfl) (by kernel_rfl) (by kernel_rfl)
/-- (*hallmoot/wire.Reader).Text -/
noncomputable def c15 : CT Try.prog Γw := CT.auto false 100 3 [c14, c16, c12] 15 Try.f15 (bodyOf Try.f15) false 32 [.tmp 2] Try.func15 (by kernel_rfl) (by kernel_rfl) (by kernel_rfl) (by kernel_rfl)
end S
theorem run4 (m e : Int) : bodyE (P := Try.prog) (Γ := Γw) [c6, S.c12, S.c13, S.c14, S.c15, S.c16, S.c17] Lno false 35 [.tmp 4] (bodyOf Try.f4) [.v (.int .i64 m), .v (.int .i64 e)] [] =
  Tree.br true
  (Tree.br (decide (m < (0 : Int)))
    (Tree.br true
      (Tree.br false
        (Tree.br true
          (Tree.br true (Tree.leaf { val := AV.sb true, H := [] })
            (Tree.leaf { val := AV.v (Value.bool false), H := [] }))
          (Tree.leaf { val := AV.v (Value.bool false), H := [] }))
        (Tree.br true
          (Tree.br true
            (Tree.br true (Tree.leaf { val := AV.sb true, H := [] })
              (Tree.leaf { val := AV.v (Value.bool false), H := [] }))
            (Tree.leaf { val := AV.v (Value.bool false), H := [] }))
          Tree.fail))
      (Tree.leaf { val := AV.v (Value.bool false), H := [] }))
    (Tree.br true
      (Tree.br false
        (Tree.br true
          (Tree.br true (Tree.leaf { val := AV.sb true, H := [] })
            (Tree.leaf { val := AV.v (Value.bool false), H := [] }))
          (Tree.leaf { val := AV.v (Value.bool false), H := [] }))
        (Tree.br true
          (Tree.br true
            (Tree.br true (Tree.leaf { val := AV.sb true, H := [] })
              (Tree.leaf { val := AV.v (Value.bool false), H := [] }))
            (Tree.leaf { val := AV.v (Value.bool false), H := [] }))
          Tree.fail))
      (Tree.leaf { val := AV.v (Value.bool false), H := [] })))
  (Tree.leaf { val := AV.v (Value.bool false), H := [] }) := by kernel_rfl

theorem law4 (m e : Int) : Right (bodyE (P := Try.prog) (Γ := Γw) [c6, S.c12, S.c13, S.c14, S.c15, S.c16, S.c17] Lno false 35 [.tmp 4] (bodyOf Try.f4) [.v (.int .i64 m), .v (.int .i64 e)] []) := ⟨by
  rw [run4]
  simp [Tree.sat_br, Tree.sat_leaf]⟩
def A4 (x : Int × Int) : List AV := [.v (.int .i64 x.1), .v (.int .i64 x.2)]
noncomputable def c4 : CT Try.prog Γw := CT.law A4 (fun _ => True) 4 Try.f4 (bodyOf Try.f4) [c6, S.c12, S.c13, S.c14, S.c15, S.c16, S.c17] Lno false 35 [.tmp 4] Try.func4 (by kernel_rfl) (by kernel_rfl) (by kernel_rfl) (by kernel_rfl) (fun _ _ => by simp [A4]) (noLoops (by kernel_rfl)) (fun x _ => law4 x.1 x.2)
end Go.Eng.W
