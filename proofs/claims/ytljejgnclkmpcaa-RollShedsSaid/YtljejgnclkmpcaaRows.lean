/-
  No cell of these rows narrows 'for every input' (looked for: loops, veiled, ifaces, maps, wideKeys, modest, calm, conditions, laid).
  DERIVED. THE GIVEN ROWS OF THIS SEAT. 10 by the template 'for every input the law returns true; each argument reads behind the call as it read before'; 0 by the template 'total and deterministic' (their statements: YtljejgnclkmpcaaTotals.lean).
  GIVEN WITH THE SEED: the statements are not yours to turn. If you find one false, say at which input.
  Laid BY PROGRAM, IN A SANDBOX (cutbox-rows.mjs): the forced cells as the released guide's own fill.sh prints them over the translation 1bb1a8592bbb76de… (all of the seat's roots in one cut). By AI agents, Wed Nov 11 2026. No macro, syntax, notation, axiom, sorry.
-/
import Derived.Test.YtljejgnclkmpcaaChecked
import GoSem.Claim
import GoSem.ClaimJoined
import GoSem.ClaimMapViews
import Derived.JoinedTies
import Derived.KernelRfl
namespace Go.Proofs.Ytljejgnclkmpcaa
/- THE CELL 'sum', in the pinned program and in every row, IS THE sha256 OF THE DUMP (.gsa) THAT YtljejgnclkmpcaaProg.lean LOADS. Nothing in Lean hashes anything: it is a label: what it is worth is what the hold of that sum in a sandbox is worth. -/
noncomputable def Try.pinned : Pinned := { name := "ytljejgnclkmpcaa", sum := "1bb1a8592bbb76de9aa1b4fce8609e3aa0f0230d872841ed0f2352fb90db014d", checked := Try.checked }
namespace Rows
def none {H : Type} : Left H := { results := [], args := [] }

/-- 'hallmootlaw17.TapeFast': WHATEVER THE INPUT: true; the input reads as it did. -/
def tapeFastSpec : ChangeSpec := { name := "tapeFast", fn := fun _ => fun
  | [d1, d2] => { results := [.lit (.bool true)], args := [d1, d2] }
  | _ => none }
def tapeFastRow : OpenClaim := { program := "ytljejgnclkmpcaa", sum := "1bb1a8592bbb76de9aa1b4fce8609e3aa0f0230d872841ed0f2352fb90db014d", func := "hallmoot/hallmootlaw17.TapeFast", spec := "tapeFast", unfollowed := true, recurses := true, apart := false }
def TapeFastSaid : Prop := tapeFastRow.holds Try.pinned (OpenSpec.ofChange tapeFastSpec)

/-- ITS FALSE NEIGHBOUR: 'it returns false'. Refute it at one input. -/
def tapeFastWrong : ChangeSpec := { name := "tapeFast", fn := fun _ => fun
  | [d1, d2] => { results := [.lit (.bool false)], args := [d1, d2] }
  | _ => none }
def TapeFastWrongFalsely : Prop := tapeFastRow.holds Try.pinned (OpenSpec.ofChange tapeFastWrong)

/-- 'hallmootlaw18.RollLines': WHATEVER THE INPUT: true; the input reads as it did. -/
def rollLinesSpec : ChangeSpec := { name := "rollLines", fn := fun _ => fun
  | [d1, d2, d3] => { results := [.lit (.bool true)], args := [d1, d2, d3] }
  | _ => none }
def rollLinesRow : OpenClaim := { program := "ytljejgnclkmpcaa", sum := "1bb1a8592bbb76de9aa1b4fce8609e3aa0f0230d872841ed0f2352fb90db014d", func := "hallmoot/hallmootlaw18.RollLines", spec := "rollLines", inPlace := ["internal/abi.NoEscape", "internal/bytealg.IndexByteString"], unfollowed := true, recurses := true, apart := false }
def RollLinesSaid : Prop := rollLinesRow.holds Try.pinned (OpenSpec.ofChange rollLinesSpec)

/-- ITS FALSE NEIGHBOUR: 'it returns false'. Refute it at one input. -/
def rollLinesWrong : ChangeSpec := { name := "rollLines", fn := fun _ => fun
  | [d1, d2, d3] => { results := [.lit (.bool false)], args := [d1, d2, d3] }
  | _ => none }
def RollLinesWrongFalsely : Prop := rollLinesRow.holds Try.pinned (OpenSpec.ofChange rollLinesWrong)

/-- 'hallmootlaw18.RollBack': WHATEVER THE INPUT: true; the input reads as it did. -/
def rollBackSpec : ChangeSpec := { name := "rollBack", fn := fun _ => fun
  | [d1, d2] => { results := [.lit (.bool true)], args := [d1, d2] }
  | _ => none }
def rollBackRow : OpenClaim := { program := "ytljejgnclkmpcaa", sum := "1bb1a8592bbb76de9aa1b4fce8609e3aa0f0230d872841ed0f2352fb90db014d", func := "hallmoot/hallmootlaw18.RollBack", spec := "rollBack", inPlace := ["internal/abi.NoEscape", "internal/bytealg.IndexByteString"], unfollowed := true, recurses := true, apart := false }
def RollBackSaid : Prop := rollBackRow.holds Try.pinned (OpenSpec.ofChange rollBackSpec)

/-- ITS FALSE NEIGHBOUR: 'it returns false'. Refute it at one input. -/
def rollBackWrong : ChangeSpec := { name := "rollBack", fn := fun _ => fun
  | [d1, d2] => { results := [.lit (.bool false)], args := [d1, d2] }
  | _ => none }
def RollBackWrongFalsely : Prop := rollBackRow.holds Try.pinned (OpenSpec.ofChange rollBackWrong)

/-- 'hallmootlaw18.RollSheds': WHATEVER THE INPUT: true; the input reads as it did. -/
def rollShedsSpec : ChangeSpec := { name := "rollSheds", fn := fun _ => fun
  | [d1, d2] => { results := [.lit (.bool true)], args := [d1, d2] }
  | _ => none }
def rollShedsRow : OpenClaim := { program := "ytljejgnclkmpcaa", sum := "1bb1a8592bbb76de9aa1b4fce8609e3aa0f0230d872841ed0f2352fb90db014d", func := "hallmoot/hallmootlaw18.RollSheds", spec := "rollSheds", inPlace := ["internal/abi.NoEscape", "internal/bytealg.IndexByteString"], unfollowed := true, recurses := true, apart := false }
def RollShedsSaid : Prop := rollShedsRow.holds Try.pinned (OpenSpec.ofChange rollShedsSpec)

/-- ITS FALSE NEIGHBOUR: 'it returns false'. Refute it at one input. -/
def rollShedsWrong : ChangeSpec := { name := "rollSheds", fn := fun _ => fun
  | [d1, d2] => { results := [.lit (.bool false)], args := [d1, d2] }
  | _ => none }
def RollShedsWrongFalsely : Prop := rollShedsRow.holds Try.pinned (OpenSpec.ofChange rollShedsWrong)

/-- 'hallmootlaw18.RollNil': WHATEVER THE INPUT: true; the input reads as it did. -/
def rollNilSpec : ChangeSpec := { name := "rollNil", fn := fun _ => fun
  | [d] => { results := [.lit (.bool true)], args := [d] }
  | _ => none }
def rollNilRow : OpenClaim := { program := "ytljejgnclkmpcaa", sum := "1bb1a8592bbb76de9aa1b4fce8609e3aa0f0230d872841ed0f2352fb90db014d", func := "hallmoot/hallmootlaw18.RollNil", spec := "rollNil", inPlace := ["internal/abi.NoEscape", "internal/bytealg.IndexByteString"], unfollowed := true, recurses := true, apart := false }
def RollNilSaid : Prop := rollNilRow.holds Try.pinned (OpenSpec.ofChange rollNilSpec)

/-- ITS FALSE NEIGHBOUR: 'it returns false'. Refute it at one input. -/
def rollNilWrong : ChangeSpec := { name := "rollNil", fn := fun _ => fun
  | [d] => { results := [.lit (.bool false)], args := [d] }
  | _ => none }
def RollNilWrongFalsely : Prop := rollNilRow.holds Try.pinned (OpenSpec.ofChange rollNilWrong)

/-- 'hallmootlaw18.RollKeeps': WHATEVER THE INPUT: true; the input reads as it did. -/
def rollKeepsSpec : ChangeSpec := { name := "rollKeeps", fn := fun _ => fun
  | [d1, d2, d3, d4] => { results := [.lit (.bool true)], args := [d1, d2, d3, d4] }
  | _ => none }
def rollKeepsRow : OpenClaim := { program := "ytljejgnclkmpcaa", sum := "1bb1a8592bbb76de9aa1b4fce8609e3aa0f0230d872841ed0f2352fb90db014d", func := "hallmoot/hallmootlaw18.RollKeeps", spec := "rollKeeps", inPlace := ["internal/abi.NoEscape", "internal/bytealg.IndexByteString"], unfollowed := true, recurses := true, apart := false }
def RollKeepsSaid : Prop := rollKeepsRow.holds Try.pinned (OpenSpec.ofChange rollKeepsSpec)

/-- ITS FALSE NEIGHBOUR: 'it returns false'. Refute it at one input. -/
def rollKeepsWrong : ChangeSpec := { name := "rollKeeps", fn := fun _ => fun
  | [d1, d2, d3, d4] => { results := [.lit (.bool false)], args := [d1, d2, d3, d4] }
  | _ => none }
def RollKeepsWrongFalsely : Prop := rollKeepsRow.holds Try.pinned (OpenSpec.ofChange rollKeepsWrong)

/-- 'hallmootlaw11.CertBack': WHATEVER THE INPUT: true; the input reads as it did. -/
def certBackSpec : ChangeSpec := { name := "certBack", fn := fun _ => fun
  | [d1, d2, d3, d4] => { results := [.lit (.bool true)], args := [d1, d2, d3, d4] }
  | _ => none }
def certBackRow : OpenClaim := { program := "ytljejgnclkmpcaa", sum := "1bb1a8592bbb76de9aa1b4fce8609e3aa0f0230d872841ed0f2352fb90db014d", func := "hallmoot/hallmootlaw11.CertBack", spec := "certBack", unfollowed := true, recurses := true, apart := false }
def CertBackSaid : Prop := certBackRow.holds Try.pinned (OpenSpec.ofChange certBackSpec)

/-- ITS FALSE NEIGHBOUR: 'it returns false'. Refute it at one input. -/
def certBackWrong : ChangeSpec := { name := "certBack", fn := fun _ => fun
  | [d1, d2, d3, d4] => { results := [.lit (.bool false)], args := [d1, d2, d3, d4] }
  | _ => none }
def CertBackWrongFalsely : Prop := certBackRow.holds Try.pinned (OpenSpec.ofChange certBackWrong)

/-- 'hallmootlaw16.FetchPlays': WHATEVER THE INPUT: true; the input reads as it did. -/
def fetchPlaysSpec : ChangeSpec := { name := "fetchPlays", fn := fun _ => fun
  | [d1, d2, d3, d4, d5] => { results := [.lit (.bool true)], args := [d1, d2, d3, d4, d5] }
  | _ => none }
def fetchPlaysRow : OpenClaim := { program := "ytljejgnclkmpcaa", sum := "1bb1a8592bbb76de9aa1b4fce8609e3aa0f0230d872841ed0f2352fb90db014d", func := "hallmoot/hallmootlaw16.FetchPlays", spec := "fetchPlays", inPlace := ["slices.overlaps[hallmoot/fetch.wish]"], unfollowed := true, recurses := true, apart := false }
def FetchPlaysSaid : Prop := fetchPlaysRow.holds Try.pinned (OpenSpec.ofChange fetchPlaysSpec)

/-- ITS FALSE NEIGHBOUR: 'it returns false'. Refute it at one input. -/
def fetchPlaysWrong : ChangeSpec := { name := "fetchPlays", fn := fun _ => fun
  | [d1, d2, d3, d4, d5] => { results := [.lit (.bool false)], args := [d1, d2, d3, d4, d5] }
  | _ => none }
def FetchPlaysWrongFalsely : Prop := fetchPlaysRow.holds Try.pinned (OpenSpec.ofChange fetchPlaysWrong)

/-- 'hallmootlaw34.ShrinkDoes': WHATEVER THE INPUT: true; the input reads as it did. -/
def shrinkDoesSpec : ChangeSpec := { name := "shrinkDoes", fn := fun _ => fun
  | [d1, d2, d3] => { results := [.lit (.bool true)], args := [d1, d2, d3] }
  | _ => none }
def shrinkDoesRow : OpenClaim := { program := "ytljejgnclkmpcaa", sum := "1bb1a8592bbb76de9aa1b4fce8609e3aa0f0230d872841ed0f2352fb90db014d", func := "hallmoot/hallmootlaw34.ShrinkDoes", spec := "shrinkDoes", unfollowed := true, recurses := true, apart := false }
def ShrinkDoesSaid : Prop := shrinkDoesRow.holds Try.pinned (OpenSpec.ofChange shrinkDoesSpec)

/-- ITS FALSE NEIGHBOUR: 'it returns false'. Refute it at one input. -/
def shrinkDoesWrong : ChangeSpec := { name := "shrinkDoes", fn := fun _ => fun
  | [d1, d2, d3] => { results := [.lit (.bool false)], args := [d1, d2, d3] }
  | _ => none }
def ShrinkDoesWrongFalsely : Prop := shrinkDoesRow.holds Try.pinned (OpenSpec.ofChange shrinkDoesWrong)

/-- 'hallmootlaw34.ShrinkPlays': WHATEVER THE INPUT: true; the input reads as it did. -/
def shrinkPlaysSpec : ChangeSpec := { name := "shrinkPlays", fn := fun _ => fun
  | [d1, d2, d3] => { results := [.lit (.bool true)], args := [d1, d2, d3] }
  | _ => none }
def shrinkPlaysRow : OpenClaim := { program := "ytljejgnclkmpcaa", sum := "1bb1a8592bbb76de9aa1b4fce8609e3aa0f0230d872841ed0f2352fb90db014d", func := "hallmoot/hallmootlaw34.ShrinkPlays", spec := "shrinkPlays", unfollowed := true, recurses := true, apart := false }
def ShrinkPlaysSaid : Prop := shrinkPlaysRow.holds Try.pinned (OpenSpec.ofChange shrinkPlaysSpec)

/-- ITS FALSE NEIGHBOUR: 'it returns false'. Refute it at one input. -/
def shrinkPlaysWrong : ChangeSpec := { name := "shrinkPlays", fn := fun _ => fun
  | [d1, d2, d3] => { results := [.lit (.bool false)], args := [d1, d2, d3] }
  | _ => none }
def ShrinkPlaysWrongFalsely : Prop := shrinkPlaysRow.holds Try.pinned (OpenSpec.ofChange shrinkPlaysWrong)

/- THE SECOND FORM. 'bulk': how many values and letters a reading holds, each counted each time it is reached (what is shared counts as often as it is met; a slice's spare places count too). A statement '..UptoSaid' is the law's where the arguments, and the package variables that the reading takes, are together of bulk at most 1048576: NARROWER than '..Said'. Prove '..Said' where nothing that the law and all that it calls make is longer than what came in: it says more and counts as full. Else prove '..UptoSaid'. A law counts once. -/
mutual
def uptoBulk {H : Type} : DataW H → Nat
  | .lit (.string bytes) => bytes.length + 1
  | .lit _ => 1
  | .nil => 1
  | .ptr d => uptoBulk d + 1
  | .slice elems spare => uptoBulkAll elems + uptoBulkAll spare + 1
  | .agg parts => uptoBulkAll parts + 1
  | .iface _ d => uptoBulk d + 1
  | .map entries => uptoBulkEntries entries + 1
  | .held _ => 1
def uptoBulkAll {H : Type} : List (DataW H) → Nat
  | [] => 0
  | d :: r => uptoBulk d + uptoBulkAll r
def uptoBulkEntries {H : Type} : List (Lit × DataW H) → Nat
  | [] => 0
  | x :: r => uptoBulkEntry x + uptoBulkEntries r
def uptoBulkEntry {H : Type} : Lit × DataW H → Nat
  | (.string bytes, d) => bytes.length + uptoBulk d + 1
  | (_, d) => uptoBulk d + 1
 end
def uptoSmall : (H : Type) → List (DataW H) → Bool := fun _ ds => decide (uptoBulkAll ds ≤ 1048576)
def OpenSpec.upto (s : _root_.Go.ChangeSpec) : _root_.Go.OpenSpec := { _root_.Go.OpenSpec.ofChange s with cond := some uptoSmall }

/-- 'hallmootlaw17.TapeFast', WHERE WHAT IT READS IS OF BULK AT MOST 1048576: true; the input reads as it did. -/
def tapeFastUptoRow : OpenClaim := { program := "ytljejgnclkmpcaa", sum := "1bb1a8592bbb76de9aa1b4fce8609e3aa0f0230d872841ed0f2352fb90db014d", func := "hallmoot/hallmootlaw17.TapeFast", spec := "tapeFast", unfollowed := true, recurses := true, apart := false, narrowed := true }
def TapeFastUptoSaid : Prop := tapeFastUptoRow.holds Try.pinned (OpenSpec.upto tapeFastSpec)

/-- 'hallmootlaw18.RollLines', WHERE WHAT IT READS IS OF BULK AT MOST 1048576: true; the input reads as it did. -/
def rollLinesUptoRow : OpenClaim := { program := "ytljejgnclkmpcaa", sum := "1bb1a8592bbb76de9aa1b4fce8609e3aa0f0230d872841ed0f2352fb90db014d", func := "hallmoot/hallmootlaw18.RollLines", spec := "rollLines", inPlace := ["internal/abi.NoEscape", "internal/bytealg.IndexByteString"], unfollowed := true, recurses := true, apart := false, narrowed := true }
def RollLinesUptoSaid : Prop := rollLinesUptoRow.holds Try.pinned (OpenSpec.upto rollLinesSpec)

/-- 'hallmootlaw18.RollBack', WHERE WHAT IT READS IS OF BULK AT MOST 1048576: true; the input reads as it did. -/
def rollBackUptoRow : OpenClaim := { program := "ytljejgnclkmpcaa", sum := "1bb1a8592bbb76de9aa1b4fce8609e3aa0f0230d872841ed0f2352fb90db014d", func := "hallmoot/hallmootlaw18.RollBack", spec := "rollBack", inPlace := ["internal/abi.NoEscape", "internal/bytealg.IndexByteString"], unfollowed := true, recurses := true, apart := false, narrowed := true }
def RollBackUptoSaid : Prop := rollBackUptoRow.holds Try.pinned (OpenSpec.upto rollBackSpec)

/-- 'hallmootlaw18.RollSheds', WHERE WHAT IT READS IS OF BULK AT MOST 1048576: true; the input reads as it did. -/
def rollShedsUptoRow : OpenClaim := { program := "ytljejgnclkmpcaa", sum := "1bb1a8592bbb76de9aa1b4fce8609e3aa0f0230d872841ed0f2352fb90db014d", func := "hallmoot/hallmootlaw18.RollSheds", spec := "rollSheds", inPlace := ["internal/abi.NoEscape", "internal/bytealg.IndexByteString"], unfollowed := true, recurses := true, apart := false, narrowed := true }
def RollShedsUptoSaid : Prop := rollShedsUptoRow.holds Try.pinned (OpenSpec.upto rollShedsSpec)

/-- 'hallmootlaw18.RollNil', WHERE WHAT IT READS IS OF BULK AT MOST 1048576: true; the input reads as it did. -/
def rollNilUptoRow : OpenClaim := { program := "ytljejgnclkmpcaa", sum := "1bb1a8592bbb76de9aa1b4fce8609e3aa0f0230d872841ed0f2352fb90db014d", func := "hallmoot/hallmootlaw18.RollNil", spec := "rollNil", inPlace := ["internal/abi.NoEscape", "internal/bytealg.IndexByteString"], unfollowed := true, recurses := true, apart := false, narrowed := true }
def RollNilUptoSaid : Prop := rollNilUptoRow.holds Try.pinned (OpenSpec.upto rollNilSpec)

/-- 'hallmootlaw18.RollKeeps', WHERE WHAT IT READS IS OF BULK AT MOST 1048576: true; the input reads as it did. -/
def rollKeepsUptoRow : OpenClaim := { program := "ytljejgnclkmpcaa", sum := "1bb1a8592bbb76de9aa1b4fce8609e3aa0f0230d872841ed0f2352fb90db014d", func := "hallmoot/hallmootlaw18.RollKeeps", spec := "rollKeeps", inPlace := ["internal/abi.NoEscape", "internal/bytealg.IndexByteString"], unfollowed := true, recurses := true, apart := false, narrowed := true }
def RollKeepsUptoSaid : Prop := rollKeepsUptoRow.holds Try.pinned (OpenSpec.upto rollKeepsSpec)

/-- 'hallmootlaw11.CertBack', WHERE WHAT IT READS IS OF BULK AT MOST 1048576: true; the input reads as it did. -/
def certBackUptoRow : OpenClaim := { program := "ytljejgnclkmpcaa", sum := "1bb1a8592bbb76de9aa1b4fce8609e3aa0f0230d872841ed0f2352fb90db014d", func := "hallmoot/hallmootlaw11.CertBack", spec := "certBack", unfollowed := true, recurses := true, apart := false, narrowed := true }
def CertBackUptoSaid : Prop := certBackUptoRow.holds Try.pinned (OpenSpec.upto certBackSpec)

/-- 'hallmootlaw16.FetchPlays', WHERE WHAT IT READS IS OF BULK AT MOST 1048576: true; the input reads as it did. -/
def fetchPlaysUptoRow : OpenClaim := { program := "ytljejgnclkmpcaa", sum := "1bb1a8592bbb76de9aa1b4fce8609e3aa0f0230d872841ed0f2352fb90db014d", func := "hallmoot/hallmootlaw16.FetchPlays", spec := "fetchPlays", inPlace := ["slices.overlaps[hallmoot/fetch.wish]"], unfollowed := true, recurses := true, apart := false, narrowed := true }
def FetchPlaysUptoSaid : Prop := fetchPlaysUptoRow.holds Try.pinned (OpenSpec.upto fetchPlaysSpec)

/-- 'hallmootlaw34.ShrinkDoes', WHERE WHAT IT READS IS OF BULK AT MOST 1048576: true; the input reads as it did. -/
def shrinkDoesUptoRow : OpenClaim := { program := "ytljejgnclkmpcaa", sum := "1bb1a8592bbb76de9aa1b4fce8609e3aa0f0230d872841ed0f2352fb90db014d", func := "hallmoot/hallmootlaw34.ShrinkDoes", spec := "shrinkDoes", unfollowed := true, recurses := true, apart := false, narrowed := true }
def ShrinkDoesUptoSaid : Prop := shrinkDoesUptoRow.holds Try.pinned (OpenSpec.upto shrinkDoesSpec)

/-- 'hallmootlaw34.ShrinkPlays', WHERE WHAT IT READS IS OF BULK AT MOST 1048576: true; the input reads as it did. -/
def shrinkPlaysUptoRow : OpenClaim := { program := "ytljejgnclkmpcaa", sum := "1bb1a8592bbb76de9aa1b4fce8609e3aa0f0230d872841ed0f2352fb90db014d", func := "hallmoot/hallmootlaw34.ShrinkPlays", spec := "shrinkPlays", unfollowed := true, recurses := true, apart := false, narrowed := true }
def ShrinkPlaysUptoSaid : Prop := shrinkPlaysUptoRow.holds Try.pinned (OpenSpec.upto shrinkPlaysSpec)

end Rows
end Go.Proofs.Ytljejgnclkmpcaa
