/- NumDoes: contracts. -/
import Derived.Test.YtffpnoieklnejaaU11
namespace Go.Eng.U
open Go Go.Eng Go.Proofs Go.Eng.M
set_option linter.unusedSimpArgs false
set_option linter.unusedVariables false
noncomputable def c17' : CT Try.prog Γu := CT.val2 17 Try.f17 (bodyOf Try.f17) [d23, d24, c15'] Lno false 19 [.tmp 4, .tmp 5] .i64 .i64 (fun _ _ => true) (fun a b => .tup [.v (.int .i64 (subF a b)), .v (.int .i64 (subE a b))]) Try.func17 (by kernel_rfl) (by kernel_rfl) (by kernel_rfl) (by kernel_rfl) (by decide) (noLoops (by kernel_rfl)) (fun a b _ => law17 a b)
noncomputable def c18' : CT Try.prog Γu := CT.val2 18 Try.f18 (bodyOf Try.f18) [S.c25] Lno false 37 [.tmp 4, .tmp 5] .i64 .i64 (fun _ _ => true) (fun a b => .tup [.v (.int .i64 (subF a b)), .v (.int .i64 (subE a b))]) Try.func18 (by kernel_rfl) (by kernel_rfl) (by kernel_rfl) (by kernel_rfl) (by decide) (noLoops (by kernel_rfl)) (fun a b _ => law18 a b)
noncomputable def c19' : CT Try.prog Γu := CT.val2 19 Try.f19 (bodyOf Try.f19) [d23, d24, d26] Lno false 34 [.tmp 4, .tmp 5] .i64 .i64 (fun _ _ => true) (fun a b => .tup [.v (.int .i64 (mulF a b)), .v (.int .i64 (mulE a b))]) Try.func19 (by kernel_rfl) (by kernel_rfl) (by kernel_rfl) (by kernel_rfl) (by decide) (noLoops (by kernel_rfl)) (fun a b _ => law19 a b)
end Go.Eng.U
