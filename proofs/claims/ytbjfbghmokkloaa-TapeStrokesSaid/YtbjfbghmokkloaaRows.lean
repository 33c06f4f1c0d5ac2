/-
  No cell of these rows narrows 'for every input' (looked for: loops, veiled, ifaces, maps, wideKeys, modest, calm, conditions, laid).
  DERIVED. THE GIVEN ROWS OF THIS SEAT. 3 by the template 'for every input the law returns true; each argument reads behind the call as it read before'; 0 by the template 'total and deterministic' (their statements: YtbjfbghmokkloaaTotals.lean).
  GIVEN WITH THE SEED: the statements are not yours to turn. If you find one false, say at which input.
  Laid BY PROGRAM, IN A SANDBOX (cutbox-rows.mjs): the forced cells as the released guide's own fill.sh prints them over the translation abd442f3f19c4ebf… (all of the seat's roots in one cut). By AI agents, Wed Nov 11 2026. No macro, syntax, notation, axiom, sorry.
-/
import Derived.Test.YtbjfbghmokkloaaChecked
import GoSem.Claim
import GoSem.ClaimJoined
import GoSem.ClaimMapViews
import Derived.JoinedTies
import Derived.KernelRfl
namespace Go.Proofs.Ytbjfbghmokkloaa
/- THE CELL 'sum', in the pinned program and in every row, IS THE sha256 OF THE DUMP (.gsa) THAT YtbjfbghmokkloaaProg.lean LOADS. Nothing in Lean hashes anything: it is a label: what it is worth is what the hold of that sum in a sandbox is worth. -/
noncomputable def Try.pinned : Pinned := { name := "ytbjfbghmokkloaa", sum := "abd442f3f19c4ebf1d79af3a3aaa692ae1789eafadaacf0da1911c8aabcbe5d0", checked := Try.checked }
namespace Rows
def none {H : Type} : Left H := { results := [], args := [] }

/-- 'hallmootlaw17.TapeFast': WHATEVER THE INPUT: true; the input reads as it did. -/
def tapeFastSpec : ChangeSpec := { name := "tapeFast", fn := fun _ => fun
  | [d1, d2] => { results := [.lit (.bool true)], args := [d1, d2] }
  | _ => none }
def tapeFastRow : OpenClaim := { program := "ytbjfbghmokkloaa", sum := "abd442f3f19c4ebf1d79af3a3aaa692ae1789eafadaacf0da1911c8aabcbe5d0", func := "hallmoot/hallmootlaw17.TapeFast", spec := "tapeFast", unfollowed := true, recurses := true, apart := false }
def TapeFastSaid : Prop := tapeFastRow.holds Try.pinned (OpenSpec.ofChange tapeFastSpec)

/-- ITS FALSE NEIGHBOUR: 'it returns false'. Refute it at one input. -/
def tapeFastWrong : ChangeSpec := { name := "tapeFast", fn := fun _ => fun
  | [d1, d2] => { results := [.lit (.bool false)], args := [d1, d2] }
  | _ => none }
def TapeFastWrongFalsely : Prop := tapeFastRow.holds Try.pinned (OpenSpec.ofChange tapeFastWrong)

/-- 'hallmootlaw17.TapeStrokes': WHATEVER THE INPUT: true; the input reads as it did. -/
def tapeStrokesSpec : ChangeSpec := { name := "tapeStrokes", fn := fun _ => fun
  | [d1, d2, d3] => { results := [.lit (.bool true)], args := [d1, d2, d3] }
  | _ => none }
def tapeStrokesRow : OpenClaim := { program := "ytbjfbghmokkloaa", sum := "abd442f3f19c4ebf1d79af3a3aaa692ae1789eafadaacf0da1911c8aabcbe5d0", func := "hallmoot/hallmootlaw17.TapeStrokes", spec := "tapeStrokes", unfollowed := true, recurses := true, apart := false }
def TapeStrokesSaid : Prop := tapeStrokesRow.holds Try.pinned (OpenSpec.ofChange tapeStrokesSpec)

/-- ITS FALSE NEIGHBOUR: 'it returns false'. Refute it at one input. -/
def tapeStrokesWrong : ChangeSpec := { name := "tapeStrokes", fn := fun _ => fun
  | [d1, d2, d3] => { results := [.lit (.bool false)], args := [d1, d2, d3] }
  | _ => none }
def TapeStrokesWrongFalsely : Prop := tapeStrokesRow.holds Try.pinned (OpenSpec.ofChange tapeStrokesWrong)

/-- 'hallmootlaw17.TapeNil': WHATEVER THE INPUT: true; the input reads as it did. -/
def tapeNilSpec : ChangeSpec := { name := "tapeNil", fn := fun _ => fun
  | [d] => { results := [.lit (.bool true)], args := [d] }
  | _ => none }
def tapeNilRow : OpenClaim := { program := "ytbjfbghmokkloaa", sum := "abd442f3f19c4ebf1d79af3a3aaa692ae1789eafadaacf0da1911c8aabcbe5d0", func := "hallmoot/hallmootlaw17.TapeNil", spec := "tapeNil", unfollowed := true, recurses := true, apart := false }
def TapeNilSaid : Prop := tapeNilRow.holds Try.pinned (OpenSpec.ofChange tapeNilSpec)

/-- ITS FALSE NEIGHBOUR: 'it returns false'. Refute it at one input. -/
def tapeNilWrong : ChangeSpec := { name := "tapeNil", fn := fun _ => fun
  | [d] => { results := [.lit (.bool false)], args := [d] }
  | _ => none }
def TapeNilWrongFalsely : Prop := tapeNilRow.holds Try.pinned (OpenSpec.ofChange tapeNilWrong)

/- THE SECOND FORM. 'bulk': how many values and letters a reading holds, each counted each time it is reached (what is shared counts as often as it is met; a slice's spare places count too). A statement '..UptoSaid' is the law's where the arguments, and the package variables that the reading takes, are together of bulk at most 1048576: NARROWER than '..Said'. Prove '..Said' where nothing that the law and all that it calls make is longer than what came in: it says more and counts as full. Else prove '..UptoSaid'. A law counts once. -/
mutual
def uptoBulk {H : Type} : DataW H → Nat
  | .lit (.string bytes) => bytes.length + 1
  | .lit _ => 1
  | .nil => 1
  | .ptr d => uptoBulk d + 1
  | .slice elems spare => uptoBulkAll elems + uptoBulkAll spare + 1
  | .agg parts => uptoBulkAll parts + 1
  | .iface _ d => uptoBulk d + 1
  | .map entries => uptoBulkEntries entries + 1
  | .held _ => 1
def uptoBulkAll {H : Type} : List (DataW H) → Nat
  | [] => 0
  | d :: r => uptoBulk d + uptoBulkAll r
def uptoBulkEntries {H : Type} : List (Lit × DataW H) → Nat
  | [] => 0
  | x :: r => uptoBulkEntry x + uptoBulkEntries r
def uptoBulkEntry {H : Type} : Lit × DataW H → Nat
  | (.string bytes, d) => bytes.length + uptoBulk d + 1
  | (_, d) => uptoBulk d + 1
 end
def uptoSmall : (H : Type) → List (DataW H) → Bool := fun _ ds => decide (uptoBulkAll ds ≤ 1048576)
def OpenSpec.upto (s : _root_.Go.ChangeSpec) : _root_.Go.OpenSpec := { _root_.Go.OpenSpec.ofChange s with cond := some uptoSmall }

/-- 'hallmootlaw17.TapeFast', WHERE WHAT IT READS IS OF BULK AT MOST 1048576: true; the input reads as it did. -/
def tapeFastUptoRow : OpenClaim := { program := "ytbjfbghmokkloaa", sum := "abd442f3f19c4ebf1d79af3a3aaa692ae1789eafadaacf0da1911c8aabcbe5d0", func := "hallmoot/hallmootlaw17.TapeFast", spec := "tapeFast", unfollowed := true, recurses := true, apart := false, narrowed := true }
def TapeFastUptoSaid : Prop := tapeFastUptoRow.holds Try.pinned (OpenSpec.upto tapeFastSpec)

/-- 'hallmootlaw17.TapeStrokes', WHERE WHAT IT READS IS OF BULK AT MOST 1048576: true; the input reads as it did. -/
def tapeStrokesUptoRow : OpenClaim := { program := "ytbjfbghmokkloaa", sum := "abd442f3f19c4ebf1d79af3a3aaa692ae1789eafadaacf0da1911c8aabcbe5d0", func := "hallmoot/hallmootlaw17.TapeStrokes", spec := "tapeStrokes", unfollowed := true, recurses := true, apart := false, narrowed := true }
def TapeStrokesUptoSaid : Prop := tapeStrokesUptoRow.holds Try.pinned (OpenSpec.upto tapeStrokesSpec)

/-- 'hallmootlaw17.TapeNil', WHERE WHAT IT READS IS OF BULK AT MOST 1048576: true; the input reads as it did. -/
def tapeNilUptoRow : OpenClaim := { program := "ytbjfbghmokkloaa", sum := "abd442f3f19c4ebf1d79af3a3aaa692ae1789eafadaacf0da1911c8aabcbe5d0", func := "hallmoot/hallmootlaw17.TapeNil", spec := "tapeNil", unfollowed := true, recurses := true, apart := false, narrowed := true }
def TapeNilUptoSaid : Prop := tapeNilUptoRow.holds Try.pinned (OpenSpec.upto tapeNilSpec)

end Rows
end Go.Proofs.Ytbjfbghmokkloaa
