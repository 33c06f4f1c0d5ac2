/- tape: no tape. -/
import Derived.Test.YtbjfbghmokkloaaP1
import Derived.Test.YtbjfbghmokkloaaEngAC
namespace Go.Eng.T
open Go Go.Eng Go.Proofs
set_option linter.unusedSimpArgs false
set_option linter.unusedVariables false
theorem run5 (a b : Int) (t : ByteArray) : bodyE (P := Try.prog) (Γ := Γt) [c6, S.c9, S.c10, S.c13] Lno false 32 [.tmp 2] (bodyOf Try.f5) [.agg [.v (.int .i64 a), .v (.int .i64 b), .v (.string t)]] [] =
  Tree.br (decide (a = (0 : Int)))
  (Tree.br true
    (Tree.br true (Tree.leaf { val := AV.sb true, H := [] }) (Tree.leaf { val := AV.v (Value.bool false), H := [] }))
    Tree.fail)
  (Tree.br (decide (a = (1 : Int)))
    (Tree.br false Tree.fail
      (Tree.br false Tree.fail
        (Tree.br true (Tree.leaf { val := AV.sb true, H := [] })
          (Tree.leaf { val := AV.v (Value.bool false), H := [] }))))
    (Tree.br (decide (a = (2 : Int)))
      (Tree.br true
        (Tree.br true (Tree.leaf { val := AV.sb true, H := [] })
          (Tree.leaf { val := AV.v (Value.bool false), H := [] }))
        Tree.fail)
      (Tree.br (decide (a = (3 : Int)))
        (Tree.br true
          (Tree.br true (Tree.leaf { val := AV.sb true, H := [] })
            (Tree.leaf { val := AV.v (Value.bool false), H := [] }))
          Tree.fail)
        (Tree.br (decide (a = (4 : Int)))
          (Tree.br true (Tree.leaf { val := AV.sb true, H := [] })
            (Tree.leaf { val := AV.v (Value.bool false), H := [] }))
          (Tree.br (decide (a = (5 : Int)))
            (Tree.br true (Tree.leaf { val := AV.sb true, H := [] })
              (Tree.leaf { val := AV.v (Value.bool false), H := [] }))
            (Tree.br true
              (Tree.br true (Tree.leaf { val := AV.sb true, H := [] })
                (Tree.leaf { val := AV.v (Value.bool false), H := [] }))
              Tree.fail)))))) := by kernel_rfl

theorem law5 (a b : Int) (t : ByteArray) : Right (bodyE (P := Try.prog) (Γ := Γt) [c6, S.c9, S.c10, S.c13] Lno false 32 [.tmp 2] (bodyOf Try.f5) [.agg [.v (.int .i64 a), .v (.int .i64 b), .v (.string t)]] []) := ⟨by
  rw [run5]
  simp [Tree.sat_br, Tree.sat_leaf]⟩
def A5 (x : Int × Int × ByteArray) : List AV := [.agg [.v (.int .i64 x.1), .v (.int .i64 x.2.1), .v (.string x.2.2)]]
noncomputable def c5 : CT Try.prog Γt := CT.law A5 (fun _ => True) 5 Try.f5 (bodyOf Try.f5) [c6, S.c9, S.c10, S.c13] Lno false 32 [.tmp 2] Try.func5 (by kernel_rfl) (by kernel_rfl) (by kernel_rfl) (by kernel_rfl) (fun _ _ => by simp [A5]) (noLoops (by kernel_rfl)) (fun x _ => law5 x.1 x.2.1 x.2.2)
end Go.Eng.T
