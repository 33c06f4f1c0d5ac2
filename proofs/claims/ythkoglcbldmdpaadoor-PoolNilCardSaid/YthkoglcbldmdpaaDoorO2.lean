/- pool: no pool. -/
import Derived.Test.YthkoglcbldmdpaaDoorO1
import Derived.Test.YthkoglcbldmdpaaDoorEngAC
namespace Go.Eng.Po
open Go Go.Eng Go.Proofs
set_option linter.unusedSimpArgs false
set_option linter.unusedVariables false
structure TxA where
  k : Int
  f : ByteArray
  t : ByteArray
  y : ByteArray
  v : ByteArray
  a : Int
  n : Int
  m : Int
def A5 (x : TxA) : List AV := [.agg [.v (.int .i64 x.k), .v (.string x.f), .v (.string x.t), .v (.string x.y), .v (.string x.v), .v (.int .i64 x.a), .v (.int .i64 x.n)], .v (.int .i64 x.m)]
theorem run5 (x : TxA) : (bodyE (P := Tryd.prog) (Γ := Γo) [c6, S.c9, S.c10, S.c11, S.c18, S.c20, S.c12] Lno false 46 [.tmp 4] (bodyOf Tryd.f5) (A5 x) []).get = some ⟨.sb true, []⟩ := by kernel_rfl
theorem law5 (x : TxA) : Right (bodyE (P := Tryd.prog) (Γ := Γo) [c6, S.c9, S.c10, S.c11, S.c18, S.c20, S.c12] Lno false 46 [.tmp 4] (bodyOf Tryd.f5) (A5 x) []) := right_of (run5 x)
noncomputable def c5 : CT Tryd.prog Γo := CT.law A5 (fun _ => True) 5 Tryd.f5 (bodyOf Tryd.f5) [c6, S.c9, S.c10, S.c11, S.c18, S.c20, S.c12] Lno false 46 [.tmp 4] Tryd.func5 (by kernel_rfl) (by kernel_rfl) (by kernel_rfl) (by kernel_rfl) (fun _ _ => by simp [A5]) (noLoops (by kernel_rfl)) (fun x _ => law5 x)
end Go.Eng.Po
