/-
  NARROWER THAN 'FOR EVERY INPUT', by the rows' own cells (each row's printed sentence says how): NameLetters: laid · NameCuts: laid · NameChecks: laid · NameOrder: laid · NameBack: laid.
  DERIVED. THE GIVEN ROWS OF THIS SEAT. 5 by the template 'for every input the law returns true; each argument reads behind the call as it read before'; 0 by the template 'total and deterministic' (their statements: YtejinhljncckbaaDoorTotals.lean).
  GIVEN WITH THE SEED: the statements are not yours to turn. If you find one false, say at which input.
  Laid BY PROGRAM, IN A SANDBOX (cutbox-rows.mjs): the forced cells as the released guide's own fill.sh prints them over the translation e0de89869d8c0224… (all of the seat's roots in one cut). By AI agents, Wed Nov 11 2026. No macro, syntax, notation, axiom, sorry.
-/
import Derived.Test.YtejinhljncckbaaDoorChecked
import GoSem.PinnedTables
import GoSem.Claim
import GoSem.ClaimJoined
import GoSem.ClaimMapViews
import Derived.JoinedTies
import Derived.KernelRfl
namespace Go.Proofs.YtejinhljncckbaaDoor
/- THE CELL 'sum', in the pinned program and in every row, IS THE sha256 OF THE DUMP (.gsa) THAT YtejinhljncckbaaDoorProg.lean LOADS. Nothing in Lean hashes anything: it is a label: what it is worth is what the hold of that sum in a sandbox is worth. -/
noncomputable def Tryd.pinned : Pinned := { name := "ytejinhljncckbaadoor", sum := "e0de89869d8c022436082b9de3b4375f608a94d46d099333d901a103b59f516d", checked := Tryd.checked }
namespace Rows
def none {H : Type} : Left H := { results := [], args := [] }

/- WHAT THE LISTED PACKAGE-LEVEL VARIABLES READ AS WHEN THE CALL BEGINS. Each datum BY PROGRAM (the guide's laid-datum.mjs) off the statement by which the dump's own 'gosem.cut.vars' lays the variable. In a bare row this is a premise. The card (YtejinhljncckbaaDoorCards.lean) ties it to the program's text. -/
def laid_unicode_utf8_acceptRanges {H : Type} : DataW H := .agg [.agg [.lit (.int .u8 128), .lit (.int .u8 191)], .agg [.lit (.int .u8 160), .lit (.int .u8 191)], .agg [.lit (.int .u8 128), .lit (.int .u8 159)], .agg [.lit (.int .u8 144), .lit (.int .u8 191)], .agg [.lit (.int .u8 128), .lit (.int .u8 143)], .agg [.lit (.int .u8 0), .lit (.int .u8 0)], .agg [.lit (.int .u8 0), .lit (.int .u8 0)], .agg [.lit (.int .u8 0), .lit (.int .u8 0)], .agg [.lit (.int .u8 0), .lit (.int .u8 0)], .agg [.lit (.int .u8 0), .lit (.int .u8 0)], .agg [.lit (.int .u8 0), .lit (.int .u8 0)], .agg [.lit (.int .u8 0), .lit (.int .u8 0)], .agg [.lit (.int .u8 0), .lit (.int .u8 0)], .agg [.lit (.int .u8 0), .lit (.int .u8 0)], .agg [.lit (.int .u8 0), .lit (.int .u8 0)], .agg [.lit (.int .u8 0), .lit (.int .u8 0)]]
/-- One of Go's own tables, pinned by name: the form's constant. -/
def laid_unicode_utf8_first : DataW Unit := Go.Pinned.utf8First

/-- 'hallmootlaw02.NameLetters': WHATEVER THE INPUT: true; the input reads as it did. -/
def nameLettersSpec : ChangeSpec := { name := "nameLetters", fn := fun _ => fun
  | [d] => { results := [.lit (.bool true)], args := [d] }
  | _ => none }
def nameLettersRow : OpenClaim := { program := "ytejinhljncckbaadoor", sum := "e0de89869d8c022436082b9de3b4375f608a94d46d099333d901a103b59f516d", func := "hallmoot/hallmootlaw02.NameLetters", spec := "nameLetters", named := ["unicode/utf8.first", "unicode/utf8.acceptRanges"], apart := false, laid := [("unicode/utf8.acceptRanges", laid_unicode_utf8_acceptRanges), ("unicode/utf8.first", laid_unicode_utf8_first)] }
def NameLettersSaid : Prop := nameLettersRow.holds Tryd.pinned (OpenSpec.ofChange nameLettersSpec)

/-- ITS FALSE NEIGHBOUR: 'it returns false'. Refute it at one input. -/
def nameLettersWrong : ChangeSpec := { name := "nameLetters", fn := fun _ => fun
  | [d] => { results := [.lit (.bool false)], args := [d] }
  | _ => none }
def NameLettersWrongFalsely : Prop := nameLettersRow.holds Tryd.pinned (OpenSpec.ofChange nameLettersWrong)

/-- 'hallmootlaw02.NameCuts': WHATEVER THE INPUT: true; the input reads as it did. -/
def nameCutsSpec : ChangeSpec := { name := "nameCuts", fn := fun _ => fun
  | [d1, d2] => { results := [.lit (.bool true)], args := [d1, d2] }
  | _ => none }
def nameCutsRow : OpenClaim := { program := "ytejinhljncckbaadoor", sum := "e0de89869d8c022436082b9de3b4375f608a94d46d099333d901a103b59f516d", func := "hallmoot/hallmootlaw02.NameCuts", spec := "nameCuts", named := ["unicode/utf8.first", "unicode/utf8.acceptRanges"], apart := false, laid := [("unicode/utf8.acceptRanges", laid_unicode_utf8_acceptRanges), ("unicode/utf8.first", laid_unicode_utf8_first)] }
def NameCutsSaid : Prop := nameCutsRow.holds Tryd.pinned (OpenSpec.ofChange nameCutsSpec)

/-- ITS FALSE NEIGHBOUR: 'it returns false'. Refute it at one input. -/
def nameCutsWrong : ChangeSpec := { name := "nameCuts", fn := fun _ => fun
  | [d1, d2] => { results := [.lit (.bool false)], args := [d1, d2] }
  | _ => none }
def NameCutsWrongFalsely : Prop := nameCutsRow.holds Tryd.pinned (OpenSpec.ofChange nameCutsWrong)

/-- 'hallmootlaw02.NameChecks': WHATEVER THE INPUT: true; the input reads as it did. -/
def nameChecksSpec : ChangeSpec := { name := "nameChecks", fn := fun _ => fun
  | [d] => { results := [.lit (.bool true)], args := [d] }
  | _ => none }
def nameChecksRow : OpenClaim := { program := "ytejinhljncckbaadoor", sum := "e0de89869d8c022436082b9de3b4375f608a94d46d099333d901a103b59f516d", func := "hallmoot/hallmootlaw02.NameChecks", spec := "nameChecks", named := ["unicode/utf8.first", "unicode/utf8.acceptRanges"], apart := false, laid := [("unicode/utf8.acceptRanges", laid_unicode_utf8_acceptRanges), ("unicode/utf8.first", laid_unicode_utf8_first)] }
def NameChecksSaid : Prop := nameChecksRow.holds Tryd.pinned (OpenSpec.ofChange nameChecksSpec)

/-- ITS FALSE NEIGHBOUR: 'it returns false'. Refute it at one input. -/
def nameChecksWrong : ChangeSpec := { name := "nameChecks", fn := fun _ => fun
  | [d] => { results := [.lit (.bool false)], args := [d] }
  | _ => none }
def NameChecksWrongFalsely : Prop := nameChecksRow.holds Tryd.pinned (OpenSpec.ofChange nameChecksWrong)

/-- 'hallmootlaw02.NameOrder': WHATEVER THE INPUT: true; the input reads as it did. -/
def nameOrderSpec : ChangeSpec := { name := "nameOrder", fn := fun _ => fun
  | [d1, d2] => { results := [.lit (.bool true)], args := [d1, d2] }
  | _ => none }
def nameOrderRow : OpenClaim := { program := "ytejinhljncckbaadoor", sum := "e0de89869d8c022436082b9de3b4375f608a94d46d099333d901a103b59f516d", func := "hallmoot/hallmootlaw02.NameOrder", spec := "nameOrder", named := ["unicode/utf8.first", "unicode/utf8.acceptRanges"], apart := false, laid := [("unicode/utf8.acceptRanges", laid_unicode_utf8_acceptRanges), ("unicode/utf8.first", laid_unicode_utf8_first)] }
def NameOrderSaid : Prop := nameOrderRow.holds Tryd.pinned (OpenSpec.ofChange nameOrderSpec)

/-- ITS FALSE NEIGHBOUR: 'it returns false'. Refute it at one input. -/
def nameOrderWrong : ChangeSpec := { name := "nameOrder", fn := fun _ => fun
  | [d1, d2] => { results := [.lit (.bool false)], args := [d1, d2] }
  | _ => none }
def NameOrderWrongFalsely : Prop := nameOrderRow.holds Tryd.pinned (OpenSpec.ofChange nameOrderWrong)

/-- 'hallmootlaw02.NameBack': WHATEVER THE INPUT: true; the input reads as it did. -/
def nameBackSpec : ChangeSpec := { name := "nameBack", fn := fun _ => fun
  | [d1, d2, d3, d4] => { results := [.lit (.bool true)], args := [d1, d2, d3, d4] }
  | _ => none }
def nameBackRow : OpenClaim := { program := "ytejinhljncckbaadoor", sum := "e0de89869d8c022436082b9de3b4375f608a94d46d099333d901a103b59f516d", func := "hallmoot/hallmootlaw02.NameBack", spec := "nameBack", named := ["unicode/utf8.first", "unicode/utf8.acceptRanges"], apart := false, laid := [("unicode/utf8.acceptRanges", laid_unicode_utf8_acceptRanges), ("unicode/utf8.first", laid_unicode_utf8_first)] }
def NameBackSaid : Prop := nameBackRow.holds Tryd.pinned (OpenSpec.ofChange nameBackSpec)

/-- ITS FALSE NEIGHBOUR: 'it returns false'. Refute it at one input. -/
def nameBackWrong : ChangeSpec := { name := "nameBack", fn := fun _ => fun
  | [d1, d2, d3, d4] => { results := [.lit (.bool false)], args := [d1, d2, d3, d4] }
  | _ => none }
def NameBackWrongFalsely : Prop := nameBackRow.holds Tryd.pinned (OpenSpec.ofChange nameBackWrong)

/- THE SECOND FORM. 'bulk': how many values and letters a reading holds, each counted each time it is reached (what is shared counts as often as it is met; a slice's spare places count too). A statement '..UptoSaid' is the law's where the arguments, and the package variables that the reading takes, are together of bulk at most 1048576: NARROWER than '..Said'. Prove '..Said' where nothing that the law and all that it calls make is longer than what came in: it says more and counts as full. Else prove '..UptoSaid'. A law counts once. -/
mutual
def uptoBulk {H : Type} : DataW H → Nat
  | .lit (.string bytes) => bytes.length + 1
  | .lit _ => 1
  | .nil => 1
  | .ptr d => uptoBulk d + 1
  | .slice elems spare => uptoBulkAll elems + uptoBulkAll spare + 1
  | .agg parts => uptoBulkAll parts + 1
  | .iface _ d => uptoBulk d + 1
  | .map entries => uptoBulkEntries entries + 1
  | .held _ => 1
def uptoBulkAll {H : Type} : List (DataW H) → Nat
  | [] => 0
  | d :: r => uptoBulk d + uptoBulkAll r
def uptoBulkEntries {H : Type} : List (Lit × DataW H) → Nat
  | [] => 0
  | x :: r => uptoBulkEntry x + uptoBulkEntries r
def uptoBulkEntry {H : Type} : Lit × DataW H → Nat
  | (.string bytes, d) => bytes.length + uptoBulk d + 1
  | (_, d) => uptoBulk d + 1
 end
def uptoSmall : (H : Type) → List (DataW H) → Bool := fun _ ds => decide (uptoBulkAll ds ≤ 1048576)
def OpenSpec.upto (s : _root_.Go.ChangeSpec) : _root_.Go.OpenSpec := { _root_.Go.OpenSpec.ofChange s with cond := some uptoSmall }

/-- 'hallmootlaw02.NameLetters', WHERE WHAT IT READS IS OF BULK AT MOST 1048576: true; the input reads as it did. -/
def nameLettersUptoRow : OpenClaim := { program := "ytejinhljncckbaadoor", sum := "e0de89869d8c022436082b9de3b4375f608a94d46d099333d901a103b59f516d", func := "hallmoot/hallmootlaw02.NameLetters", spec := "nameLetters", named := ["unicode/utf8.first", "unicode/utf8.acceptRanges"], apart := false, laid := [("unicode/utf8.acceptRanges", laid_unicode_utf8_acceptRanges), ("unicode/utf8.first", laid_unicode_utf8_first)], narrowed := true }
def NameLettersUptoSaid : Prop := nameLettersUptoRow.holds Tryd.pinned (OpenSpec.upto nameLettersSpec)

/-- 'hallmootlaw02.NameCuts', WHERE WHAT IT READS IS OF BULK AT MOST 1048576: true; the input reads as it did. -/
def nameCutsUptoRow : OpenClaim := { program := "ytejinhljncckbaadoor", sum := "e0de89869d8c022436082b9de3b4375f608a94d46d099333d901a103b59f516d", func := "hallmoot/hallmootlaw02.NameCuts", spec := "nameCuts", named := ["unicode/utf8.first", "unicode/utf8.acceptRanges"], apart := false, laid := [("unicode/utf8.acceptRanges", laid_unicode_utf8_acceptRanges), ("unicode/utf8.first", laid_unicode_utf8_first)], narrowed := true }
def NameCutsUptoSaid : Prop := nameCutsUptoRow.holds Tryd.pinned (OpenSpec.upto nameCutsSpec)

/-- 'hallmootlaw02.NameChecks', WHERE WHAT IT READS IS OF BULK AT MOST 1048576: true; the input reads as it did. -/
def nameChecksUptoRow : OpenClaim := { program := "ytejinhljncckbaadoor", sum := "e0de89869d8c022436082b9de3b4375f608a94d46d099333d901a103b59f516d", func := "hallmoot/hallmootlaw02.NameChecks", spec := "nameChecks", named := ["unicode/utf8.first", "unicode/utf8.acceptRanges"], apart := false, laid := [("unicode/utf8.acceptRanges", laid_unicode_utf8_acceptRanges), ("unicode/utf8.first", laid_unicode_utf8_first)], narrowed := true }
def NameChecksUptoSaid : Prop := nameChecksUptoRow.holds Tryd.pinned (OpenSpec.upto nameChecksSpec)

/-- 'hallmootlaw02.NameOrder', WHERE WHAT IT READS IS OF BULK AT MOST 1048576: true; the input reads as it did. -/
def nameOrderUptoRow : OpenClaim := { program := "ytejinhljncckbaadoor", sum := "e0de89869d8c022436082b9de3b4375f608a94d46d099333d901a103b59f516d", func := "hallmoot/hallmootlaw02.NameOrder", spec := "nameOrder", named := ["unicode/utf8.first", "unicode/utf8.acceptRanges"], apart := false, laid := [("unicode/utf8.acceptRanges", laid_unicode_utf8_acceptRanges), ("unicode/utf8.first", laid_unicode_utf8_first)], narrowed := true }
def NameOrderUptoSaid : Prop := nameOrderUptoRow.holds Tryd.pinned (OpenSpec.upto nameOrderSpec)

/-- 'hallmootlaw02.NameBack', WHERE WHAT IT READS IS OF BULK AT MOST 1048576: true; the input reads as it did. -/
def nameBackUptoRow : OpenClaim := { program := "ytejinhljncckbaadoor", sum := "e0de89869d8c022436082b9de3b4375f608a94d46d099333d901a103b59f516d", func := "hallmoot/hallmootlaw02.NameBack", spec := "nameBack", named := ["unicode/utf8.first", "unicode/utf8.acceptRanges"], apart := false, laid := [("unicode/utf8.acceptRanges", laid_unicode_utf8_acceptRanges), ("unicode/utf8.first", laid_unicode_utf8_first)], narrowed := true }
def NameBackUptoSaid : Prop := nameBackUptoRow.holds Tryd.pinned (OpenSpec.upto nameBackSpec)

end Rows
end Go.Proofs.YtejinhljncckbaaDoor
