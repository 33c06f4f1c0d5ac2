/- sign: no register. -/
import Derived.Test.YtnpfcaecaflfbaaDoorS1
import Derived.Test.YtnpfcaecaflfbaaDoorEngAC
namespace Go.Eng.Si
open Go Go.Eng Go.Proofs
set_option linter.unusedSimpArgs false
set_option linter.unusedVariables false
structure X5 where
  m0_0 : Int
  m0_1 : Int
  m0_2 : Int
  m0_3 : Int
  m0_4 : Int
  m0_5 : Int
  m0_6 : Int
  m0_7 : Int
  m0_8 : Int
  m0_9 : Int
  m0_10 : Int
  n1 : Int
  n2 : Int
def A5 (x : X5) : List AV := [.agg [.v (.int .i64 x.m0_0), .v (.int .i64 x.m0_1), .v (.int .i64 x.m0_2), .v (.int .i64 x.m0_3), .v (.int .i64 x.m0_4), .v (.int .i64 x.m0_5), .v (.int .i64 x.m0_6), .v (.int .i64 x.m0_7), .v (.int .i64 x.m0_8), .v (.int .i64 x.m0_9), .v (.int .i64 x.m0_10)], .v (.int .u32 x.n1), .v (.int .i64 x.n2)]
theorem run5 (x : X5) : (bodyE (P := Tryd.prog) (Γ := Γs) [c6, S.c9, S.c15, S.c8, S.c12, S.c18, S.c19, S.c20] Lno false 53 [.tmp 6] (bodyOf Tryd.f5) (A5 x) []).get = some ⟨.sb true, []⟩ := by kernel_rfl
theorem law5 (x : X5) : Right (bodyE (P := Tryd.prog) (Γ := Γs) [c6, S.c9, S.c15, S.c8, S.c12, S.c18, S.c19, S.c20] Lno false 53 [.tmp 6] (bodyOf Tryd.f5) (A5 x) []) := right_of (run5 x)
noncomputable def c5 : CT Tryd.prog Γs := CT.law A5 (fun _ => True) 5 Tryd.f5 (bodyOf Tryd.f5) [c6, S.c9, S.c15, S.c8, S.c12, S.c18, S.c19, S.c20] Lno false 53 [.tmp 6] Tryd.func5 (by kernel_rfl) (by kernel_rfl) (by kernel_rfl) (by kernel_rfl) (fun _ _ => by simp [A5]) (noLoops (by kernel_rfl)) (fun x _ => law5 x)
end Go.Eng.Si
