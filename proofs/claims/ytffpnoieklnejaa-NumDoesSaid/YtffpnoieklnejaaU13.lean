/- NumDoes: the law's own walk. -/
import Derived.Test.YtffpnoieklnejaaU12
namespace Go.Eng.U
open Go Go.Eng Go.Proofs Go.Eng.M
set_option linter.unusedSimpArgs false
set_option linter.unusedVariables false
theorem run5 (a b : Int) : bodyE (P := Try.prog) (Γ := Γu) [c7, c15', c16', c17', c18', c19', c20'] Lno false 71 [.tmp 4] (bodyOf Try.f5) [.v (.int .i64 a), .v (.int .i64 b)] [] =
  Tree.chk (true && true)
  (Tree.chk (true && true)
    (Tree.br (bif !decide (addF a b = addF a b) then true else !decide (addE a b = addE a b))
      (Tree.leaf { val := AV.v (Value.bool false), H := [] })
      (Tree.chk (true && true)
        (Tree.chk (true && true)
          (Tree.br (bif !decide (subF a b = subF a b) then true else !decide (subE a b = subE a b))
            (Tree.leaf { val := AV.v (Value.bool false), H := [] })
            (Tree.chk (true && true)
              (Tree.chk (true && true)
                (Tree.leaf
                  { val := AV.sb (bif decide (mulF a b = mulF a b) then decide (mulE a b = mulE a b) else false),
                    H := [] })))))))) := by kernel_rfl

theorem law5 (a b : Int) : Right (bodyE (P := Try.prog) (Γ := Γu) [c7, c15', c16', c17', c18', c19', c20'] Lno false 71 [.tmp 4] (bodyOf Try.f5) [.v (.int .i64 a), .v (.int .i64 b)] []) := ⟨by
  rw [run5]
  simp [Tree.sat_br, Tree.sat_chk, Tree.sat_leaf]⟩
def A5 (x : Int × Int) : List AV := [.v (.int .i64 x.1), .v (.int .i64 x.2)]
noncomputable def c5 : CT Try.prog Γu := CT.law A5 (fun _ => True) 5 Try.f5 (bodyOf Try.f5) [c7, c15', c16', c17', c18', c19', c20'] Lno false 71 [.tmp 4] Try.func5 (by kernel_rfl) (by kernel_rfl) (by kernel_rfl) (by kernel_rfl) (fun _ _ => by simp [A5]) (noLoops (by kernel_rfl)) (fun x _ => law5 x.1 x.2)
end Go.Eng.U
