/-
  NARROWER THAN 'FOR EVERY INPUT', by the rows' own cells (each row's printed sentence says how): QuorumMeets: laid · QuorumCounts: laid · QuorumLists: laid · QuorumSets: laid.
  DERIVED. THE GIVEN ROWS OF THIS SEAT. 4 by the template 'for every input the law returns true; each argument reads behind the call as it read before'; 0 by the template 'total and deterministic' (their statements: YthnbpcmajdinpaaDoorTotals.lean).
  GIVEN WITH THE SEED: the statements are not yours to turn. If you find one false, say at which input.
  Laid BY PROGRAM, IN A SANDBOX (cutbox-rows.mjs): the forced cells as the released guide's own fill.sh prints them over the translation bd1eb94f0d3a9a83… (all of the seat's roots in one cut). By AI agents, Wed Nov 11 2026. No macro, syntax, notation, axiom, sorry.
-/
import Derived.Test.YthnbpcmajdinpaaDoorChecked
import GoSem.Claim
import GoSem.ClaimJoined
import GoSem.ClaimMapViews
import Derived.JoinedTies
import Derived.KernelRfl
namespace Go.Proofs.YthnbpcmajdinpaaDoor
/- THE CELL 'sum', in the pinned program and in every row, IS THE sha256 OF THE DUMP (.gsa) THAT YthnbpcmajdinpaaDoorProg.lean LOADS. Nothing in Lean hashes anything: it is a label: what it is worth is what the hold of that sum in a sandbox is worth. -/
noncomputable def Tryd.pinned : Pinned := { name := "ythnbpcmajdinpaadoor", sum := "bd1eb94f0d3a9a83f3c9d8c0d006018e147fae0b407732a03057a9451747ad4c", checked := Tryd.checked }
namespace Rows
def none {H : Type} : Left H := { results := [], args := [] }

/- WHAT THE LISTED PACKAGE-LEVEL VARIABLES READ AS WHEN THE CALL BEGINS. Each datum BY PROGRAM (the guide's laid-datum.mjs) off the statement by which the dump's own 'gosem.cut.vars' lays the variable. In a bare row this is a premise. The card (YthnbpcmajdinpaaDoorCards.lean) ties it to the program's text. -/
def laid_math_bits_deBruijn32tab {H : Type} : DataW H := .agg [.lit (.int .u8 0), .lit (.int .u8 1), .lit (.int .u8 28), .lit (.int .u8 2), .lit (.int .u8 29), .lit (.int .u8 14), .lit (.int .u8 24), .lit (.int .u8 3), .lit (.int .u8 30), .lit (.int .u8 22), .lit (.int .u8 20), .lit (.int .u8 15), .lit (.int .u8 25), .lit (.int .u8 17), .lit (.int .u8 4), .lit (.int .u8 8), .lit (.int .u8 31), .lit (.int .u8 27), .lit (.int .u8 13), .lit (.int .u8 23), .lit (.int .u8 21), .lit (.int .u8 19), .lit (.int .u8 16), .lit (.int .u8 7), .lit (.int .u8 26), .lit (.int .u8 12), .lit (.int .u8 18), .lit (.int .u8 6), .lit (.int .u8 11), .lit (.int .u8 5), .lit (.int .u8 10), .lit (.int .u8 9)]

/-- 'hallmootlaw04.QuorumMeets': WHATEVER THE INPUT: true; the input reads as it did. -/
def quorumMeetsSpec : ChangeSpec := { name := "quorumMeets", fn := fun _ => fun
  | [d1, d2, d3, d4] => { results := [.lit (.bool true)], args := [d1, d2, d3, d4] }
  | _ => none }
def quorumMeetsRow : OpenClaim := { program := "ythnbpcmajdinpaadoor", sum := "bd1eb94f0d3a9a83f3c9d8c0d006018e147fae0b407732a03057a9451747ad4c", func := "hallmoot/hallmootlaw04.QuorumMeets", spec := "quorumMeets", named := ["math/bits.deBruijn32tab"], apart := false, laid := [("math/bits.deBruijn32tab", laid_math_bits_deBruijn32tab)] }
def QuorumMeetsSaid : Prop := quorumMeetsRow.holds Tryd.pinned (OpenSpec.ofChange quorumMeetsSpec)

/-- ITS FALSE NEIGHBOUR: 'it returns false'. Refute it at one input. -/
def quorumMeetsWrong : ChangeSpec := { name := "quorumMeets", fn := fun _ => fun
  | [d1, d2, d3, d4] => { results := [.lit (.bool false)], args := [d1, d2, d3, d4] }
  | _ => none }
def QuorumMeetsWrongFalsely : Prop := quorumMeetsRow.holds Tryd.pinned (OpenSpec.ofChange quorumMeetsWrong)

/-- 'hallmootlaw04.QuorumCounts': WHATEVER THE INPUT: true; the input reads as it did. -/
def quorumCountsSpec : ChangeSpec := { name := "quorumCounts", fn := fun _ => fun
  | [d1, d2] => { results := [.lit (.bool true)], args := [d1, d2] }
  | _ => none }
def quorumCountsRow : OpenClaim := { program := "ythnbpcmajdinpaadoor", sum := "bd1eb94f0d3a9a83f3c9d8c0d006018e147fae0b407732a03057a9451747ad4c", func := "hallmoot/hallmootlaw04.QuorumCounts", spec := "quorumCounts", named := ["math/bits.deBruijn32tab"], apart := false, laid := [("math/bits.deBruijn32tab", laid_math_bits_deBruijn32tab)] }
def QuorumCountsSaid : Prop := quorumCountsRow.holds Tryd.pinned (OpenSpec.ofChange quorumCountsSpec)

/-- ITS FALSE NEIGHBOUR: 'it returns false'. Refute it at one input. -/
def quorumCountsWrong : ChangeSpec := { name := "quorumCounts", fn := fun _ => fun
  | [d1, d2] => { results := [.lit (.bool false)], args := [d1, d2] }
  | _ => none }
def QuorumCountsWrongFalsely : Prop := quorumCountsRow.holds Tryd.pinned (OpenSpec.ofChange quorumCountsWrong)

/-- 'hallmootlaw04.QuorumLists': WHATEVER THE INPUT: true; the input reads as it did. -/
def quorumListsSpec : ChangeSpec := { name := "quorumLists", fn := fun _ => fun
  | [d1, d2] => { results := [.lit (.bool true)], args := [d1, d2] }
  | _ => none }
def quorumListsRow : OpenClaim := { program := "ythnbpcmajdinpaadoor", sum := "bd1eb94f0d3a9a83f3c9d8c0d006018e147fae0b407732a03057a9451747ad4c", func := "hallmoot/hallmootlaw04.QuorumLists", spec := "quorumLists", named := ["math/bits.deBruijn32tab"], apart := false, laid := [("math/bits.deBruijn32tab", laid_math_bits_deBruijn32tab)] }
def QuorumListsSaid : Prop := quorumListsRow.holds Tryd.pinned (OpenSpec.ofChange quorumListsSpec)

/-- ITS FALSE NEIGHBOUR: 'it returns false'. Refute it at one input. -/
def quorumListsWrong : ChangeSpec := { name := "quorumLists", fn := fun _ => fun
  | [d1, d2] => { results := [.lit (.bool false)], args := [d1, d2] }
  | _ => none }
def QuorumListsWrongFalsely : Prop := quorumListsRow.holds Tryd.pinned (OpenSpec.ofChange quorumListsWrong)

/-- 'hallmootlaw04.QuorumSets': WHATEVER THE INPUT: true; the input reads as it did. -/
def quorumSetsSpec : ChangeSpec := { name := "quorumSets", fn := fun _ => fun
  | [d1, d2, d3] => { results := [.lit (.bool true)], args := [d1, d2, d3] }
  | _ => none }
def quorumSetsRow : OpenClaim := { program := "ythnbpcmajdinpaadoor", sum := "bd1eb94f0d3a9a83f3c9d8c0d006018e147fae0b407732a03057a9451747ad4c", func := "hallmoot/hallmootlaw04.QuorumSets", spec := "quorumSets", named := ["math/bits.deBruijn32tab"], apart := false, laid := [("math/bits.deBruijn32tab", laid_math_bits_deBruijn32tab)] }
def QuorumSetsSaid : Prop := quorumSetsRow.holds Tryd.pinned (OpenSpec.ofChange quorumSetsSpec)

/-- ITS FALSE NEIGHBOUR: 'it returns false'. Refute it at one input. -/
def quorumSetsWrong : ChangeSpec := { name := "quorumSets", fn := fun _ => fun
  | [d1, d2, d3] => { results := [.lit (.bool false)], args := [d1, d2, d3] }
  | _ => none }
def QuorumSetsWrongFalsely : Prop := quorumSetsRow.holds Tryd.pinned (OpenSpec.ofChange quorumSetsWrong)

/- THE SECOND FORM. 'bulk': how many values and letters a reading holds, each counted each time it is reached (what is shared counts as often as it is met; a slice's spare places count too). A statement '..UptoSaid' is the law's where the arguments, and the package variables that the reading takes, are together of bulk at most 1048576: NARROWER than '..Said'. Prove '..Said' where nothing that the law and all that it calls make is longer than what came in: it says more and counts as full. Else prove '..UptoSaid'. A law counts once. -/
mutual
def uptoBulk {H : Type} : DataW H → Nat
  | .lit (.string bytes) => bytes.length + 1
  | .lit _ => 1
  | .nil => 1
  | .ptr d => uptoBulk d + 1
  | .slice elems spare => uptoBulkAll elems + uptoBulkAll spare + 1
  | .agg parts => uptoBulkAll parts + 1
  | .iface _ d => uptoBulk d + 1
  | .map entries => uptoBulkEntries entries + 1
  | .held _ => 1
def uptoBulkAll {H : Type} : List (DataW H) → Nat
  | [] => 0
  | d :: r => uptoBulk d + uptoBulkAll r
def uptoBulkEntries {H : Type} : List (Lit × DataW H) → Nat
  | [] => 0
  | x :: r => uptoBulkEntry x + uptoBulkEntries r
def uptoBulkEntry {H : Type} : Lit × DataW H → Nat
  | (.string bytes, d) => bytes.length + uptoBulk d + 1
  | (_, d) => uptoBulk d + 1
 end
def uptoSmall : (H : Type) → List (DataW H) → Bool := fun _ ds => decide (uptoBulkAll ds ≤ 1048576)
def OpenSpec.upto (s : _root_.Go.ChangeSpec) : _root_.Go.OpenSpec := { _root_.Go.OpenSpec.ofChange s with cond := some uptoSmall }

/-- 'hallmootlaw04.QuorumMeets', WHERE WHAT IT READS IS OF BULK AT MOST 1048576: true; the input reads as it did. -/
def quorumMeetsUptoRow : OpenClaim := { program := "ythnbpcmajdinpaadoor", sum := "bd1eb94f0d3a9a83f3c9d8c0d006018e147fae0b407732a03057a9451747ad4c", func := "hallmoot/hallmootlaw04.QuorumMeets", spec := "quorumMeets", named := ["math/bits.deBruijn32tab"], apart := false, laid := [("math/bits.deBruijn32tab", laid_math_bits_deBruijn32tab)], narrowed := true }
def QuorumMeetsUptoSaid : Prop := quorumMeetsUptoRow.holds Tryd.pinned (OpenSpec.upto quorumMeetsSpec)

/-- 'hallmootlaw04.QuorumCounts', WHERE WHAT IT READS IS OF BULK AT MOST 1048576: true; the input reads as it did. -/
def quorumCountsUptoRow : OpenClaim := { program := "ythnbpcmajdinpaadoor", sum := "bd1eb94f0d3a9a83f3c9d8c0d006018e147fae0b407732a03057a9451747ad4c", func := "hallmoot/hallmootlaw04.QuorumCounts", spec := "quorumCounts", named := ["math/bits.deBruijn32tab"], apart := false, laid := [("math/bits.deBruijn32tab", laid_math_bits_deBruijn32tab)], narrowed := true }
def QuorumCountsUptoSaid : Prop := quorumCountsUptoRow.holds Tryd.pinned (OpenSpec.upto quorumCountsSpec)

/-- 'hallmootlaw04.QuorumLists', WHERE WHAT IT READS IS OF BULK AT MOST 1048576: true; the input reads as it did. -/
def quorumListsUptoRow : OpenClaim := { program := "ythnbpcmajdinpaadoor", sum := "bd1eb94f0d3a9a83f3c9d8c0d006018e147fae0b407732a03057a9451747ad4c", func := "hallmoot/hallmootlaw04.QuorumLists", spec := "quorumLists", named := ["math/bits.deBruijn32tab"], apart := false, laid := [("math/bits.deBruijn32tab", laid_math_bits_deBruijn32tab)], narrowed := true }
def QuorumListsUptoSaid : Prop := quorumListsUptoRow.holds Tryd.pinned (OpenSpec.upto quorumListsSpec)

/-- 'hallmootlaw04.QuorumSets', WHERE WHAT IT READS IS OF BULK AT MOST 1048576: true; the input reads as it did. -/
def quorumSetsUptoRow : OpenClaim := { program := "ythnbpcmajdinpaadoor", sum := "bd1eb94f0d3a9a83f3c9d8c0d006018e147fae0b407732a03057a9451747ad4c", func := "hallmoot/hallmootlaw04.QuorumSets", spec := "quorumSets", named := ["math/bits.deBruijn32tab"], apart := false, laid := [("math/bits.deBruijn32tab", laid_math_bits_deBruijn32tab)], narrowed := true }
def QuorumSetsUptoSaid : Prop := quorumSetsUptoRow.holds Tryd.pinned (OpenSpec.upto quorumSetsSpec)

end Rows
end Go.Proofs.YthnbpcmajdinpaaDoor
