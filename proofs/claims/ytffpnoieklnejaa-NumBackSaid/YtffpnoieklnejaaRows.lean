/-
  No cell of these rows narrows 'for every input' (looked for: loops, veiled, ifaces, maps, wideKeys, modest, calm, conditions, laid).
  DERIVED. THE GIVEN ROWS OF THIS SEAT. 4 by the template 'for every input the law returns true; each argument reads behind the call as it read before'; 0 by the template 'total and deterministic' (their statements: YtffpnoieklnejaaTotals.lean).
  GIVEN WITH THE SEED: the statements are not yours to turn. If you find one false, say at which input.
  Laid BY PROGRAM, IN A SANDBOX (cutbox-rows.mjs): the forced cells as the released guide's own fill.sh prints them over the translation 8a437f4f6897bd6c… (all of the seat's roots in one cut). By AI agents, Wed Nov 11 2026. No macro, syntax, notation, axiom, sorry.
-/
import Derived.Test.YtffpnoieklnejaaChecked
import GoSem.Claim
import GoSem.ClaimJoined
import GoSem.ClaimMapViews
import Derived.JoinedTies
import Derived.KernelRfl
namespace Go.Proofs.Ytffpnoieklnejaa
/- THE CELL 'sum', in the pinned program and in every row, IS THE sha256 OF THE DUMP (.gsa) THAT YtffpnoieklnejaaProg.lean LOADS. Nothing in Lean hashes anything: it is a label: what it is worth is what the hold of that sum in a sandbox is worth. -/
noncomputable def Try.pinned : Pinned := { name := "ytffpnoieklnejaa", sum := "8a437f4f6897bd6ce5ad17ccd81528d189d4cc1534955c8ed617d936362b4f6a", checked := Try.checked }
namespace Rows
def none {H : Type} : Left H := { results := [], args := [] }

/-- 'hallmootlaw01.NumReads': WHATEVER THE INPUT: true; the input reads as it did. -/
def numReadsSpec : ChangeSpec := { name := "numReads", fn := fun _ => fun
  | [d1, d2, d3, d4] => { results := [.lit (.bool true)], args := [d1, d2, d3, d4] }
  | _ => none }
def numReadsRow : OpenClaim := { program := "ytffpnoieklnejaa", sum := "8a437f4f6897bd6ce5ad17ccd81528d189d4cc1534955c8ed617d936362b4f6a", func := "hallmoot/hallmootlaw01.NumReads", spec := "numReads", recurses := true, apart := false }
def NumReadsSaid : Prop := numReadsRow.holds Try.pinned (OpenSpec.ofChange numReadsSpec)

/-- ITS FALSE NEIGHBOUR: 'it returns false'. Refute it at one input. -/
def numReadsWrong : ChangeSpec := { name := "numReads", fn := fun _ => fun
  | [d1, d2, d3, d4] => { results := [.lit (.bool false)], args := [d1, d2, d3, d4] }
  | _ => none }
def NumReadsWrongFalsely : Prop := numReadsRow.holds Try.pinned (OpenSpec.ofChange numReadsWrong)

/-- 'hallmootlaw01.NumSums': WHATEVER THE INPUT: true; the input reads as it did. -/
def numSumsSpec : ChangeSpec := { name := "numSums", fn := fun _ => fun
  | [d] => { results := [.lit (.bool true)], args := [d] }
  | _ => none }
def numSumsRow : OpenClaim := { program := "ytffpnoieklnejaa", sum := "8a437f4f6897bd6ce5ad17ccd81528d189d4cc1534955c8ed617d936362b4f6a", func := "hallmoot/hallmootlaw01.NumSums", spec := "numSums", apart := false }
def NumSumsSaid : Prop := numSumsRow.holds Try.pinned (OpenSpec.ofChange numSumsSpec)

/-- ITS FALSE NEIGHBOUR: 'it returns false'. Refute it at one input. -/
def numSumsWrong : ChangeSpec := { name := "numSums", fn := fun _ => fun
  | [d] => { results := [.lit (.bool false)], args := [d] }
  | _ => none }
def NumSumsWrongFalsely : Prop := numSumsRow.holds Try.pinned (OpenSpec.ofChange numSumsWrong)

/-- 'hallmootlaw01.NumDoes': WHATEVER THE INPUT: true; the input reads as it did. -/
def numDoesSpec : ChangeSpec := { name := "numDoes", fn := fun _ => fun
  | [d1, d2] => { results := [.lit (.bool true)], args := [d1, d2] }
  | _ => none }
def numDoesRow : OpenClaim := { program := "ytffpnoieklnejaa", sum := "8a437f4f6897bd6ce5ad17ccd81528d189d4cc1534955c8ed617d936362b4f6a", func := "hallmoot/hallmootlaw01.NumDoes", spec := "numDoes", recurses := true, apart := false }
def NumDoesSaid : Prop := numDoesRow.holds Try.pinned (OpenSpec.ofChange numDoesSpec)

/-- ITS FALSE NEIGHBOUR: 'it returns false'. Refute it at one input. -/
def numDoesWrong : ChangeSpec := { name := "numDoes", fn := fun _ => fun
  | [d1, d2] => { results := [.lit (.bool false)], args := [d1, d2] }
  | _ => none }
def NumDoesWrongFalsely : Prop := numDoesRow.holds Try.pinned (OpenSpec.ofChange numDoesWrong)

/-- 'hallmootlaw01.NumBack': WHATEVER THE INPUT: true; the input reads as it did. -/
def numBackSpec : ChangeSpec := { name := "numBack", fn := fun _ => fun
  | [d1, d2, d3] => { results := [.lit (.bool true)], args := [d1, d2, d3] }
  | _ => none }
def numBackRow : OpenClaim := { program := "ytffpnoieklnejaa", sum := "8a437f4f6897bd6ce5ad17ccd81528d189d4cc1534955c8ed617d936362b4f6a", func := "hallmoot/hallmootlaw01.NumBack", spec := "numBack", apart := false }
def NumBackSaid : Prop := numBackRow.holds Try.pinned (OpenSpec.ofChange numBackSpec)

/-- ITS FALSE NEIGHBOUR: 'it returns false'. Refute it at one input. -/
def numBackWrong : ChangeSpec := { name := "numBack", fn := fun _ => fun
  | [d1, d2, d3] => { results := [.lit (.bool false)], args := [d1, d2, d3] }
  | _ => none }
def NumBackWrongFalsely : Prop := numBackRow.holds Try.pinned (OpenSpec.ofChange numBackWrong)

/- THE SECOND FORM. 'bulk': how many values and letters a reading holds, each counted each time it is reached (what is shared counts as often as it is met; a slice's spare places count too). A statement '..UptoSaid' is the law's where the arguments, and the package variables that the reading takes, are together of bulk at most 1048576: NARROWER than '..Said'. Prove '..Said' where nothing that the law and all that it calls make is longer than what came in: it says more and counts as full. Else prove '..UptoSaid'. A law counts once. -/
mutual
def uptoBulk {H : Type} : DataW H → Nat
  | .lit (.string bytes) => bytes.length + 1
  | .lit _ => 1
  | .nil => 1
  | .ptr d => uptoBulk d + 1
  | .slice elems spare => uptoBulkAll elems + uptoBulkAll spare + 1
  | .agg parts => uptoBulkAll parts + 1
  | .iface _ d => uptoBulk d + 1
  | .map entries => uptoBulkEntries entries + 1
  | .held _ => 1
def uptoBulkAll {H : Type} : List (DataW H) → Nat
  | [] => 0
  | d :: r => uptoBulk d + uptoBulkAll r
def uptoBulkEntries {H : Type} : List (Lit × DataW H) → Nat
  | [] => 0
  | x :: r => uptoBulkEntry x + uptoBulkEntries r
def uptoBulkEntry {H : Type} : Lit × DataW H → Nat
  | (.string bytes, d) => bytes.length + uptoBulk d + 1
  | (_, d) => uptoBulk d + 1
 end
def uptoSmall : (H : Type) → List (DataW H) → Bool := fun _ ds => decide (uptoBulkAll ds ≤ 1048576)
def OpenSpec.upto (s : _root_.Go.ChangeSpec) : _root_.Go.OpenSpec := { _root_.Go.OpenSpec.ofChange s with cond := some uptoSmall }

/-- 'hallmootlaw01.NumReads', WHERE WHAT IT READS IS OF BULK AT MOST 1048576: true; the input reads as it did. -/
def numReadsUptoRow : OpenClaim := { program := "ytffpnoieklnejaa", sum := "8a437f4f6897bd6ce5ad17ccd81528d189d4cc1534955c8ed617d936362b4f6a", func := "hallmoot/hallmootlaw01.NumReads", spec := "numReads", recurses := true, apart := false, narrowed := true }
def NumReadsUptoSaid : Prop := numReadsUptoRow.holds Try.pinned (OpenSpec.upto numReadsSpec)

/-- 'hallmootlaw01.NumSums', WHERE WHAT IT READS IS OF BULK AT MOST 1048576: true; the input reads as it did. -/
def numSumsUptoRow : OpenClaim := { program := "ytffpnoieklnejaa", sum := "8a437f4f6897bd6ce5ad17ccd81528d189d4cc1534955c8ed617d936362b4f6a", func := "hallmoot/hallmootlaw01.NumSums", spec := "numSums", apart := false, narrowed := true }
def NumSumsUptoSaid : Prop := numSumsUptoRow.holds Try.pinned (OpenSpec.upto numSumsSpec)

/-- 'hallmootlaw01.NumDoes', WHERE WHAT IT READS IS OF BULK AT MOST 1048576: true; the input reads as it did. -/
def numDoesUptoRow : OpenClaim := { program := "ytffpnoieklnejaa", sum := "8a437f4f6897bd6ce5ad17ccd81528d189d4cc1534955c8ed617d936362b4f6a", func := "hallmoot/hallmootlaw01.NumDoes", spec := "numDoes", recurses := true, apart := false, narrowed := true }
def NumDoesUptoSaid : Prop := numDoesUptoRow.holds Try.pinned (OpenSpec.upto numDoesSpec)

/-- 'hallmootlaw01.NumBack', WHERE WHAT IT READS IS OF BULK AT MOST 1048576: true; the input reads as it did. -/
def numBackUptoRow : OpenClaim := { program := "ytffpnoieklnejaa", sum := "8a437f4f6897bd6ce5ad17ccd81528d189d4cc1534955c8ed617d936362b4f6a", func := "hallmoot/hallmootlaw01.NumBack", spec := "numBack", apart := false, narrowed := true }
def NumBackUptoSaid : Prop := numBackUptoRow.holds Try.pinned (OpenSpec.upto numBackSpec)

end Rows
end Go.Proofs.Ytffpnoieklnejaa
