/- tape: writing under a fuse: a round. -/
import Derived.Test.YtbjfbghmokkloaaP1
import Derived.Test.YtbjfbghmokkloaaEngAD
namespace Go.Eng.T
open Go Go.Eng Go.Proofs
set_option linter.unusedSimpArgs false
set_option linter.unusedVariables false
noncomputable def loopOf (c : Code) (j : Nat) : Code := match (loopBodies c)[j]? with | some b => b | none => .skip
noncomputable def loop15 : Code := loopOf (bodyOf Try.f15) 0
def anyF : Nat → List AV := fun _ => [.any]
/-- a tape: how much room, what it holds, how many strokes are left, is it off -/
def tp (r : Int) (b : AV) (l : Int) (o : Bool) : Blk := .row [.v (.int .i64 r), .v (.int .i64 0), .v (.int .i64 0), b, .v (.int .i64 l), .v (.bool o)]
end Go.Eng.T
