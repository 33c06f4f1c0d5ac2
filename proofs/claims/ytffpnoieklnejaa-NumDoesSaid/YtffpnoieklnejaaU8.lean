/- num: differences and products: contracts. -/
import Derived.Test.YtffpnoieklnejaaU5
namespace Go.Eng.U
open Go Go.Eng Go.Proofs Go.Eng.M
set_option linter.unusedSimpArgs false
set_option linter.unusedVariables false
noncomputable def d26 : CT Try.prog Γu := CT.auto false 3 1 [] 26 Try.f26 (bodyOf Try.f26) false 8 [.tmp 2] Try.func26 (by kernel_rfl) (by kernel_rfl) (by kernel_rfl) (by kernel_rfl)
noncomputable def mulP (T0 : List (CT Try.prog Γu)) (pre : Int → Int → Bool) (g : Int → Int → AV) (hs : ∀ a b, pre a b = true → Gives (bodyE T0 Lno false 70 [.tmp 4, .tmp 5] (bodyOf Try.f20) [.v (.int .i64 a), .v (.int .i64 b)] []) (g a b)) : CT Try.prog Γu :=
  CT.val2 20 Try.f20 (bodyOf Try.f20) T0 Lno false 70 [.tmp 4, .tmp 5] .i64 .i64 pre g Try.func20 (by kernel_rfl) (by kernel_rfl) (by kernel_rfl) (by kernel_rfl) (by decide) (noLoops (by kernel_rfl)) hs
end Go.Eng.U
