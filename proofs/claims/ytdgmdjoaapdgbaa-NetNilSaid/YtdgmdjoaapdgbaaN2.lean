/- net: no net. -/
import Derived.Test.YtdgmdjoaapdgbaaN1
import Derived.Test.YtdgmdjoaapdgbaaEngAC
namespace Go.Eng.N
open Go Go.Eng Go.Proofs
set_option linter.unusedSimpArgs false
set_option linter.unusedVariables false
def A6 (x : Int × Int × Int × ByteArray) : List AV := [.v (.int .i64 x.1), .agg [.v (.int .i64 x.2.1), .v (.int .i64 x.2.2.1), .v (.string x.2.2.2)]]
theorem law6' (x : Int × Int × Int × ByteArray) : (bodyE (P := Try.prog) (Γ := Γn) [c7, S.c17, S.c11, S.c9, S.c15, S.c12, S.c10, S.c19] Lno false 56 [.tmp 4] (bodyOf Try.f6) (A6 x) []).get = some ⟨.sb true, []⟩ := by kernel_rfl
theorem law6 (x : Int × Int × Int × ByteArray) : Right (bodyE (P := Try.prog) (Γ := Γn) [c7, S.c17, S.c11, S.c9, S.c15, S.c12, S.c10, S.c19] Lno false 56 [.tmp 4] (bodyOf Try.f6) (A6 x) []) := right_of (law6' x)
noncomputable def c6 : CT Try.prog Γn := CT.law A6 (fun _ => True) 6 Try.f6 (bodyOf Try.f6) [c7, S.c17, S.c11, S.c9, S.c15, S.c12, S.c10, S.c19] Lno false 56 [.tmp 4] Try.func6 (by kernel_rfl) (by kernel_rfl) (by kernel_rfl) (by kernel_rfl) (fun _ _ => by simp [A6]) (noLoops (by kernel_rfl)) (fun x _ => law6 x)
end Go.Eng.N
