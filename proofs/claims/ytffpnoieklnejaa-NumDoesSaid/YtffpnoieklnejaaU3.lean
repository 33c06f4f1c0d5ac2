/- num: sums of lists: contracts of Add. -/
import Derived.Test.YtffpnoieklnejaaU2
import Derived.Test.YtffpnoieklnejaaQM
namespace Go.Eng.U
open Go Go.Eng Go.Proofs Go.Eng.M
set_option linter.unusedSimpArgs false
set_option linter.unusedVariables false
noncomputable def c15' : CT Try.prog Γu := CT.val2 15 Try.f15 (bodyOf Try.f15) [d23, d24] Lno false 33 [.tmp 4, .tmp 5] .i64 .i64 (fun _ _ => true) (fun a b => .tup [.v (.int .i64 (addF a b)), .v (.int .i64 (addE a b))]) Try.func15 (by kernel_rfl) (by kernel_rfl) (by kernel_rfl) (by kernel_rfl) (by decide) (noLoops (by kernel_rfl)) (fun a b _ => law15 a b)
noncomputable def c16' : CT Try.prog Γu := CT.val2 16 Try.f16 (bodyOf Try.f16) [S.c25] Lno false 37 [.tmp 4, .tmp 5] .i64 .i64 (fun _ _ => true) (fun a b => .tup [.v (.int .i64 (addF a b)), .v (.int .i64 (addE a b))]) Try.func16 (by kernel_rfl) (by kernel_rfl) (by kernel_rfl) (by kernel_rfl) (by decide) (noLoops (by kernel_rfl)) (fun a b _ => law16 a b)
noncomputable def loopOf (c : Code) (j : Nat) : Code := match (loopBodies c)[j]? with | some b => b | none => .skip
noncomputable def loop13 : Code := loopOf (bodyOf Try.f13) 0
noncomputable def loop14 : Code := loopOf (bodyOf Try.f14) 0
end Go.Eng.U
