/- fetch: no table. -/
import Derived.Test.YtkgghcffchlolaaF1
import Derived.Test.YtkgghcffchlolaaEngAC
namespace Go.Eng.F
open Go Go.Eng Go.Proofs
set_option linter.unusedSimpArgs false
set_option linter.unusedVariables false
def A4 (n : Int) : List AV := [.v (.int .i64 n)]
theorem run4 (n : Int) : (bodyE (P := Try.prog) (Γ := Γf) [c6, S.c9, S.c11, S.c13, S.c15, S.c16] Lno false 30 [.tmp 2] (bodyOf Try.f4) (A4 n) []).get = some ⟨.sb true, []⟩ := by kernel_rfl
theorem law4 (n : Int) : Right (bodyE (P := Try.prog) (Γ := Γf) [c6, S.c9, S.c11, S.c13, S.c15, S.c16] Lno false 30 [.tmp 2] (bodyOf Try.f4) (A4 n) []) := right_of (run4 n)
noncomputable def c4 : CT Try.prog Γf := CT.law A4 (fun _ => True) 4 Try.f4 (bodyOf Try.f4) [c6, S.c9, S.c11, S.c13, S.c15, S.c16] Lno false 30 [.tmp 2] Try.func4 (by kernel_rfl) (by kernel_rfl) (by kernel_rfl) (by kernel_rfl) (fun _ _ => by simp [A4]) (noLoops (by kernel_rfl)) (fun n _ => law4 n)
end Go.Eng.F
