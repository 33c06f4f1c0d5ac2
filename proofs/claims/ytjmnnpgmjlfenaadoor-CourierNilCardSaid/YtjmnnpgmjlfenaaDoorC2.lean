/- courier: no courier. -/
import Derived.Test.YtjmnnpgmjlfenaaDoorC1
import Derived.Test.YtjmnnpgmjlfenaaDoorEngAC
namespace Go.Eng.C
open Go Go.Eng Go.Proofs
set_option linter.unusedSimpArgs false
set_option linter.unusedVariables false
structure TxA where
  k : Int
  f : ByteArray
  t : ByteArray
  y : ByteArray
  v : ByteArray
  a : Int
  n : Int
def A5 (x : TxA) : List AV := [.agg [.v (.int .i64 x.k), .v (.string x.f), .v (.string x.t), .v (.string x.y), .v (.string x.v), .v (.int .i64 x.a), .v (.int .i64 x.n)]]
theorem run5 (x : TxA) : (bodyE (P := Tryd.prog) (Γ := Γc) [c6, S.c9, S.c10, S.c11, S.c12, S.c17] Lno false 53 [.tmp 2] (bodyOf Tryd.f5) (A5 x) []).get = some ⟨.sb true, []⟩ := by kernel_rfl
theorem law5 (x : TxA) : Right (bodyE (P := Tryd.prog) (Γ := Γc) [c6, S.c9, S.c10, S.c11, S.c12, S.c17] Lno false 53 [.tmp 2] (bodyOf Tryd.f5) (A5 x) []) := right_of (run5 x)
noncomputable def c5 : CT Tryd.prog Γc := CT.law A5 (fun _ => True) 5 Tryd.f5 (bodyOf Tryd.f5) [c6, S.c9, S.c10, S.c11, S.c12, S.c17] Lno false 53 [.tmp 2] Tryd.func5 (by kernel_rfl) (by kernel_rfl) (by kernel_rfl) (by kernel_rfl) (fun _ _ => by simp [A5]) (noLoops (by kernel_rfl)) (fun x _ => law5 x)
end Go.Eng.C
