/- TapeStrokes: contracts. -/
import Derived.Test.YtbjfbghmokkloaaK3
import Derived.Test.YtbjfbghmokkloaaEngAF
namespace Go.Eng.T
open Go Go.Eng Go.Proofs
set_option linter.unusedSimpArgs false
set_option linter.unusedVariables false
/-- is the tape on? -/
def isOn : List AV → List Blk → Bool
  | _, .row [_, _, _, _, _, .v (.bool false)] :: _ => true
  | _, _ => false
def has3 : List AV → List Blk → Bool
  | _, [_, _, _] => true
  | _, _ => false
noncomputable def c15i : CT Try.prog Γt := CT.inline 15 Try.f15 (bodyOf Try.f15) [c20, S.c22] L15 false 2 52 [.tmp 4] Try.func15 (by kernel_rfl) (by kernel_rfl) (by kernel_rfl) (by kernel_rfl) (oneLoop (b := loop15) (by kernel_rfl) loop15_ok)
/-- of a tape that is off -/
noncomputable def c15x (m : Nat) : CT Try.prog Γt := CT.inline 15 Try.f15 (bodyOf Try.f15) [S.c20, S.c22] Lno false m 52 [.tmp 4] Try.func15 (by kernel_rfl) (by kernel_rfl) (by kernel_rfl) (by kernel_rfl) (fun _ _ _ => fail_ok)
noncomputable def c15o : CT Try.prog Γt := CT.orElse isOn c15i (CT.orElse has3 (c15x 3) (c15x 2) rfl) rfl
end Go.Eng.T
