/- NumSums: the law's own walk. -/
import Derived.Test.YtffpnoieklnejaaU5
namespace Go.Eng.U
open Go Go.Eng Go.Proofs Go.Eng.M
set_option linter.unusedSimpArgs false
set_option linter.unusedVariables false
theorem run4 (m : Nat) (g : Nat → Int) : bodyE (P := Try.prog) (Γ := Γu) [c7, c13', c14'] Lno false 30 [.tmp 2] (bodyOf Try.f4) [.sl 1 m (ints g)] [] =
  Tree.br (decide ((2000 : Int) < (↑m : Int))) (Tree.leaf { val := AV.v (Value.bool true), H := [] })
  (Tree.chk (true && decide (m ≤ (2000 : Nat)) && isInts (ints g))
    (Tree.chk (true && decide (m ≤ (2000 : Nat)) && isInts (ints g))
      (Tree.leaf
        {
          val :=
            AV.sb
              (bif
                  decide
                    ((sumT (fun j => getI [AV.v (Value.int IntKind.i64 (g j))]) m (0 : Nat) (0 : Int)).fst =
                      (sumT (fun j => getI [AV.v (Value.int IntKind.i64 (g j))]) m (0 : Nat) (0 : Int)).fst) then
                decide
                  ((sumT (fun j => getI [AV.v (Value.int IntKind.i64 (g j))]) m (0 : Nat) (0 : Int)).snd =
                    (sumT (fun j => getI [AV.v (Value.int IntKind.i64 (g j))]) m (0 : Nat) (0 : Int)).snd)
              else false),
          H := [] }))) := by kernel_rfl

theorem law4 (m : Nat) (g : Nat → Int) : Right (bodyE (P := Try.prog) (Γ := Γu) [c7, c13', c14'] Lno false 30 [.tmp 2] (bodyOf Try.f4) [.sl 1 m (ints g)] []) := ⟨by
  rw [run4]
  simp only [Tree.sat_br, Tree.sat_chk, Tree.sat_leaf, isInts_ints, decide_true, cond_true, Bool.true_and, Bool.and_true, decide_eq_true_eq, decide_eq_false_iff_not, LeH_nil, and_true]
  exact ⟨fun _ => .refl _, fun h => ⟨by omega, by omega, .sb true⟩⟩⟩
def A4 (x : Nat × (Nat → Int)) : List AV := [.sl 1 x.1 (ints x.2)]
noncomputable def c4 : CT Try.prog Γu := CT.law A4 (fun _ => True) 4 Try.f4 (bodyOf Try.f4) [c7, c13', c14'] Lno false 30 [.tmp 2] Try.func4 (by kernel_rfl) (by kernel_rfl) (by kernel_rfl) (by kernel_rfl) (fun _ _ => by simp [A4]) (noLoops (by kernel_rfl)) (fun x _ => law4 x.1 x.2)
end Go.Eng.U
