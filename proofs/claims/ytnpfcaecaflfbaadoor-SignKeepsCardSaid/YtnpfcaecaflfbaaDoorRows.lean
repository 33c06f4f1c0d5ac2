/-
  NARROWER THAN 'FOR EVERY INPUT', by the rows' own cells (each row's printed sentence says how): SignKeeps: laid · SignPlays: laid · SignNil: laid.
  DERIVED. THE GIVEN ROWS OF THIS SEAT. 3 by the template 'for every input the law returns true; each argument reads behind the call as it read before'; 0 by the template 'total and deterministic' (their statements: YtnpfcaecaflfbaaDoorTotals.lean).
  GIVEN WITH THE SEED: the statements are not yours to turn. If you find one false, say at which input.
  Laid BY PROGRAM, IN A SANDBOX (cutbox-rows.mjs): the forced cells as the released guide's own fill.sh prints them over the translation e6cd002a21417e46… (all of the seat's roots in one cut). By AI agents, Wed Nov 11 2026. No macro, syntax, notation, axiom, sorry.
-/
import Derived.Test.YtnpfcaecaflfbaaDoorChecked
import GoSem.Claim
import GoSem.ClaimJoined
import GoSem.ClaimMapViews
import Derived.JoinedTies
import Derived.KernelRfl
namespace Go.Proofs.YtnpfcaecaflfbaaDoor
/- THE CELL 'sum', in the pinned program and in every row, IS THE sha256 OF THE DUMP (.gsa) THAT YtnpfcaecaflfbaaDoorProg.lean LOADS. Nothing in Lean hashes anything: it is a label: what it is worth is what the hold of that sum in a sandbox is worth. -/
noncomputable def Tryd.pinned : Pinned := { name := "ytnpfcaecaflfbaadoor", sum := "e6cd002a21417e46282f11c19d3ad2afad2cc2b2e7877c00bec04d93588f3872", checked := Tryd.checked }
namespace Rows
def none {H : Type} : Left H := { results := [], args := [] }

/- WHAT THE LISTED PACKAGE-LEVEL VARIABLES READ AS WHEN THE CALL BEGINS. Each datum BY PROGRAM (the guide's laid-datum.mjs) off the statement by which the dump's own 'gosem.cut.vars' lays the variable. In a bare row this is a premise. The card (YtnpfcaecaflfbaaDoorCards.lean) ties it to the program's text. -/
def laid_math_bits_deBruijn32tab {H : Type} : DataW H := .agg [.lit (.int .u8 0), .lit (.int .u8 1), .lit (.int .u8 28), .lit (.int .u8 2), .lit (.int .u8 29), .lit (.int .u8 14), .lit (.int .u8 24), .lit (.int .u8 3), .lit (.int .u8 30), .lit (.int .u8 22), .lit (.int .u8 20), .lit (.int .u8 15), .lit (.int .u8 25), .lit (.int .u8 17), .lit (.int .u8 4), .lit (.int .u8 8), .lit (.int .u8 31), .lit (.int .u8 27), .lit (.int .u8 13), .lit (.int .u8 23), .lit (.int .u8 21), .lit (.int .u8 19), .lit (.int .u8 16), .lit (.int .u8 7), .lit (.int .u8 26), .lit (.int .u8 12), .lit (.int .u8 18), .lit (.int .u8 6), .lit (.int .u8 11), .lit (.int .u8 5), .lit (.int .u8 10), .lit (.int .u8 9)]

/-- 'hallmootlaw06.SignKeeps': WHATEVER THE INPUT: true; the input reads as it did. -/
def signKeepsSpec : ChangeSpec := { name := "signKeeps", fn := fun _ => fun
  | [d1, d2, d3, d4, d5] => { results := [.lit (.bool true)], args := [d1, d2, d3, d4, d5] }
  | _ => none }
def signKeepsRow : OpenClaim := { program := "ytnpfcaecaflfbaadoor", sum := "e6cd002a21417e46282f11c19d3ad2afad2cc2b2e7877c00bec04d93588f3872", func := "hallmoot/hallmootlaw06.SignKeeps", spec := "signKeeps", named := ["math/bits.deBruijn32tab"], plainKeys := false, apart := false, laid := [("math/bits.deBruijn32tab", laid_math_bits_deBruijn32tab)] }
def SignKeepsSaid : Prop := signKeepsRow.holds Tryd.pinned (OpenSpec.ofChange signKeepsSpec)

/-- ITS FALSE NEIGHBOUR: 'it returns false'. Refute it at one input. -/
def signKeepsWrong : ChangeSpec := { name := "signKeeps", fn := fun _ => fun
  | [d1, d2, d3, d4, d5] => { results := [.lit (.bool false)], args := [d1, d2, d3, d4, d5] }
  | _ => none }
def SignKeepsWrongFalsely : Prop := signKeepsRow.holds Tryd.pinned (OpenSpec.ofChange signKeepsWrong)

/-- 'hallmootlaw06.SignPlays': WHATEVER THE INPUT: true; the input reads as it did. -/
def signPlaysSpec : ChangeSpec := { name := "signPlays", fn := fun _ => fun
  | [d1, d2, d3] => { results := [.lit (.bool true)], args := [d1, d2, d3] }
  | _ => none }
def signPlaysRow : OpenClaim := { program := "ytnpfcaecaflfbaadoor", sum := "e6cd002a21417e46282f11c19d3ad2afad2cc2b2e7877c00bec04d93588f3872", func := "hallmoot/hallmootlaw06.SignPlays", spec := "signPlays", named := ["math/bits.deBruijn32tab"], plainKeys := false, apart := false, laid := [("math/bits.deBruijn32tab", laid_math_bits_deBruijn32tab)] }
def SignPlaysSaid : Prop := signPlaysRow.holds Tryd.pinned (OpenSpec.ofChange signPlaysSpec)

/-- ITS FALSE NEIGHBOUR: 'it returns false'. Refute it at one input. -/
def signPlaysWrong : ChangeSpec := { name := "signPlays", fn := fun _ => fun
  | [d1, d2, d3] => { results := [.lit (.bool false)], args := [d1, d2, d3] }
  | _ => none }
def SignPlaysWrongFalsely : Prop := signPlaysRow.holds Tryd.pinned (OpenSpec.ofChange signPlaysWrong)

/-- 'hallmootlaw06.SignNil': WHATEVER THE INPUT: true; the input reads as it did. -/
def signNilSpec : ChangeSpec := { name := "signNil", fn := fun _ => fun
  | [d1, d2, d3] => { results := [.lit (.bool true)], args := [d1, d2, d3] }
  | _ => none }
def signNilRow : OpenClaim := { program := "ytnpfcaecaflfbaadoor", sum := "e6cd002a21417e46282f11c19d3ad2afad2cc2b2e7877c00bec04d93588f3872", func := "hallmoot/hallmootlaw06.SignNil", spec := "signNil", named := ["math/bits.deBruijn32tab"], plainKeys := false, apart := false, laid := [("math/bits.deBruijn32tab", laid_math_bits_deBruijn32tab)] }
def SignNilSaid : Prop := signNilRow.holds Tryd.pinned (OpenSpec.ofChange signNilSpec)

/-- ITS FALSE NEIGHBOUR: 'it returns false'. Refute it at one input. -/
def signNilWrong : ChangeSpec := { name := "signNil", fn := fun _ => fun
  | [d1, d2, d3] => { results := [.lit (.bool false)], args := [d1, d2, d3] }
  | _ => none }
def SignNilWrongFalsely : Prop := signNilRow.holds Tryd.pinned (OpenSpec.ofChange signNilWrong)

/- THE SECOND FORM. 'bulk': how many values and letters a reading holds, each counted each time it is reached (what is shared counts as often as it is met; a slice's spare places count too). A statement '..UptoSaid' is the law's where the arguments, and the package variables that the reading takes, are together of bulk at most 1048576: NARROWER than '..Said'. Prove '..Said' where nothing that the law and all that it calls make is longer than what came in: it says more and counts as full. Else prove '..UptoSaid'. A law counts once. -/
mutual
def uptoBulk {H : Type} : DataW H → Nat
  | .lit (.string bytes) => bytes.length + 1
  | .lit _ => 1
  | .nil => 1
  | .ptr d => uptoBulk d + 1
  | .slice elems spare => uptoBulkAll elems + uptoBulkAll spare + 1
  | .agg parts => uptoBulkAll parts + 1
  | .iface _ d => uptoBulk d + 1
  | .map entries => uptoBulkEntries entries + 1
  | .held _ => 1
def uptoBulkAll {H : Type} : List (DataW H) → Nat
  | [] => 0
  | d :: r => uptoBulk d + uptoBulkAll r
def uptoBulkEntries {H : Type} : List (Lit × DataW H) → Nat
  | [] => 0
  | x :: r => uptoBulkEntry x + uptoBulkEntries r
def uptoBulkEntry {H : Type} : Lit × DataW H → Nat
  | (.string bytes, d) => bytes.length + uptoBulk d + 1
  | (_, d) => uptoBulk d + 1
 end
def uptoSmall : (H : Type) → List (DataW H) → Bool := fun _ ds => decide (uptoBulkAll ds ≤ 1048576)
def OpenSpec.upto (s : _root_.Go.ChangeSpec) : _root_.Go.OpenSpec := { _root_.Go.OpenSpec.ofChange s with cond := some uptoSmall }

/-- 'hallmootlaw06.SignKeeps', WHERE WHAT IT READS IS OF BULK AT MOST 1048576: true; the input reads as it did. -/
def signKeepsUptoRow : OpenClaim := { program := "ytnpfcaecaflfbaadoor", sum := "e6cd002a21417e46282f11c19d3ad2afad2cc2b2e7877c00bec04d93588f3872", func := "hallmoot/hallmootlaw06.SignKeeps", spec := "signKeeps", named := ["math/bits.deBruijn32tab"], plainKeys := false, apart := false, laid := [("math/bits.deBruijn32tab", laid_math_bits_deBruijn32tab)], narrowed := true }
def SignKeepsUptoSaid : Prop := signKeepsUptoRow.holds Tryd.pinned (OpenSpec.upto signKeepsSpec)

/-- 'hallmootlaw06.SignPlays', WHERE WHAT IT READS IS OF BULK AT MOST 1048576: true; the input reads as it did. -/
def signPlaysUptoRow : OpenClaim := { program := "ytnpfcaecaflfbaadoor", sum := "e6cd002a21417e46282f11c19d3ad2afad2cc2b2e7877c00bec04d93588f3872", func := "hallmoot/hallmootlaw06.SignPlays", spec := "signPlays", named := ["math/bits.deBruijn32tab"], plainKeys := false, apart := false, laid := [("math/bits.deBruijn32tab", laid_math_bits_deBruijn32tab)], narrowed := true }
def SignPlaysUptoSaid : Prop := signPlaysUptoRow.holds Tryd.pinned (OpenSpec.upto signPlaysSpec)

/-- 'hallmootlaw06.SignNil', WHERE WHAT IT READS IS OF BULK AT MOST 1048576: true; the input reads as it did. -/
def signNilUptoRow : OpenClaim := { program := "ytnpfcaecaflfbaadoor", sum := "e6cd002a21417e46282f11c19d3ad2afad2cc2b2e7877c00bec04d93588f3872", func := "hallmoot/hallmootlaw06.SignNil", spec := "signNil", named := ["math/bits.deBruijn32tab"], plainKeys := false, apart := false, laid := [("math/bits.deBruijn32tab", laid_math_bits_deBruijn32tab)], narrowed := true }
def SignNilUptoSaid : Prop := signNilUptoRow.holds Tryd.pinned (OpenSpec.upto signNilSpec)

end Rows
end Go.Proofs.YtnpfcaecaflfbaaDoor
