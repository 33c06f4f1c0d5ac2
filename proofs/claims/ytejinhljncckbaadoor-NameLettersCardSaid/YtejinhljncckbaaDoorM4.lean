/- NameLetters: the law's own walk. -/
import Derived.Test.YtejinhljncckbaaDoorM3
namespace Go.Eng.Nm
open Go Go.Eng Go.Proofs
set_option linter.unusedSimpArgs false
set_option linter.unusedVariables false
theorem run3 (c : Int) : bodyE (P := Tryd.prog) (Γ := Γm) [c8, c10', c11', c9', c12'] Lno false 27 [.tmp 2] (bodyOf Tryd.f3) [.v (.int .i32 c)] [] =
  Tree.chk (true && true)
  (Tree.br (greatB (IntKind.i64.wrap c))
    (Tree.chk
      (true && true && (true && true && bif letterB c == letterB (IntKind.i64.wrap c) then true && true else true))
      (Tree.leaf
        {
          val :=
            AV.sb
              (bif letterB c == letterB (IntKind.i64.wrap c) then
                decide (IntKind.i64.wrap (smallF c) = IntKind.i64.wrap (IntKind.i64.wrap c + (32 : Int)))
              else false),
          H := [] }))
    (Tree.chk
      (true && true && (true && true && bif letterB c == letterB (IntKind.i64.wrap c) then true && true else true))
      (Tree.leaf
        {
          val :=
            AV.sb
              (bif letterB c == letterB (IntKind.i64.wrap c) then
                decide (IntKind.i64.wrap (smallF c) = IntKind.i64.wrap c)
              else false),
          H := [] }))) := by kernel_rfl

theorem wrap64' {x : Int} (h : -9223372036854775808 ≤ x) (h' : x ≤ 9223372036854775807) : IntKind.i64.wrap x = x := by
  simp only [IntKind.wrap, IntKind.signed, IntKind.bits]; simp; omega
theorem law3 (c : Int) (h1 : -2147483648 ≤ c) (h2 : c ≤ 2147483647) : Right (bodyE (P := Tryd.prog) (Γ := Γm) [c8, c10', c11', c9', c12'] Lno false 27 [.tmp 2] (bodyOf Tryd.f3) [.v (.int .i32 c)] []) := ⟨by
  rw [run3]
  have e1 : IntKind.i64.wrap c = c := wrap64' (by omega) (by omega)
  have hs : smallF c = c + 32 ∨ smallF c = c := by unfold smallF; cases greatB c <;> simp
  have e2 : IntKind.i64.wrap (smallF c) = smallF c := wrap64' (by omega) (by omega)
  have e3 : IntKind.i64.wrap (c + 32) = c + 32 := wrap64' (by omega) (by omega)
  simp only [Tree.sat_br, Tree.sat_chk, Tree.sat_leaf, e1, e2, e3, beq_self_eq_true, Bool.and_self, cond_true, true_and, LeH_nil, and_true]
  refine ⟨fun h => ?_, fun h => ?_⟩
  · rw [smallF, h, cond_true, decide_eq_true rfl]; exact .sb true
  · rw [smallF, h, cond_false, decide_eq_true rfl]; exact .sb true⟩
def A3 (c : Int) : List AV := [.v (.int .i32 c)]
noncomputable def c3 : CT Tryd.prog Γm := CT.law A3 (fun c => -2147483648 ≤ c ∧ c ≤ 2147483647) 3 Tryd.f3 (bodyOf Tryd.f3) [c8, c10', c11', c9', c12'] Lno false 27 [.tmp 2] Tryd.func3 (by kernel_rfl) (by kernel_rfl) (by kernel_rfl) (by kernel_rfl) (fun _ _ => by simp [A3]) (noLoops (by kernel_rfl)) (fun c h => law3 c h.1 h.2)
end Go.Eng.Nm
