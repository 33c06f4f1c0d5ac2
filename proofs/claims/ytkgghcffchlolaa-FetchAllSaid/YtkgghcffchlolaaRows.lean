/-
  No cell of these rows narrows 'for every input' (looked for: loops, veiled, ifaces, maps, wideKeys, modest, calm, conditions, laid).
  DERIVED. THE GIVEN ROWS OF THIS SEAT. 3 by the template 'for every input the law returns true; each argument reads behind the call as it read before'; 0 by the template 'total and deterministic' (their statements: YtkgghcffchlolaaTotals.lean).
  GIVEN WITH THE SEED: the statements are not yours to turn. If you find one false, say at which input.
  Laid BY PROGRAM, IN A SANDBOX (cutbox-rows.mjs): the forced cells as the released guide's own fill.sh prints them over the translation 8541f1e22c486df6… (all of the seat's roots in one cut). By AI agents, Wed Nov 11 2026. No macro, syntax, notation, axiom, sorry.
-/
import Derived.Test.YtkgghcffchlolaaChecked
import GoSem.Claim
import GoSem.ClaimJoined
import GoSem.ClaimMapViews
import Derived.JoinedTies
import Derived.KernelRfl
namespace Go.Proofs.Ytkgghcffchlolaa
/- THE CELL 'sum', in the pinned program and in every row, IS THE sha256 OF THE DUMP (.gsa) THAT YtkgghcffchlolaaProg.lean LOADS. Nothing in Lean hashes anything: it is a label: what it is worth is what the hold of that sum in a sandbox is worth. -/
noncomputable def Try.pinned : Pinned := { name := "ytkgghcffchlolaa", sum := "8541f1e22c486df60dee4382382f7deca03d13989f111ba6fe32e112602c29d3", checked := Try.checked }
namespace Rows
def none {H : Type} : Left H := { results := [], args := [] }

/-- 'hallmootlaw16.FetchPlays': WHATEVER THE INPUT: true; the input reads as it did. -/
def fetchPlaysSpec : ChangeSpec := { name := "fetchPlays", fn := fun _ => fun
  | [d1, d2, d3, d4, d5] => { results := [.lit (.bool true)], args := [d1, d2, d3, d4, d5] }
  | _ => none }
def fetchPlaysRow : OpenClaim := { program := "ytkgghcffchlolaa", sum := "8541f1e22c486df60dee4382382f7deca03d13989f111ba6fe32e112602c29d3", func := "hallmoot/hallmootlaw16.FetchPlays", spec := "fetchPlays", inPlace := ["slices.overlaps[hallmoot/fetch.wish]"], unfollowed := true, recurses := true, apart := false }
def FetchPlaysSaid : Prop := fetchPlaysRow.holds Try.pinned (OpenSpec.ofChange fetchPlaysSpec)

/-- ITS FALSE NEIGHBOUR: 'it returns false'. Refute it at one input. -/
def fetchPlaysWrong : ChangeSpec := { name := "fetchPlays", fn := fun _ => fun
  | [d1, d2, d3, d4, d5] => { results := [.lit (.bool false)], args := [d1, d2, d3, d4, d5] }
  | _ => none }
def FetchPlaysWrongFalsely : Prop := fetchPlaysRow.holds Try.pinned (OpenSpec.ofChange fetchPlaysWrong)

/-- 'hallmootlaw16.FetchNil': WHATEVER THE INPUT: true; the input reads as it did. -/
def fetchNilSpec : ChangeSpec := { name := "fetchNil", fn := fun _ => fun
  | [d] => { results := [.lit (.bool true)], args := [d] }
  | _ => none }
def fetchNilRow : OpenClaim := { program := "ytkgghcffchlolaa", sum := "8541f1e22c486df60dee4382382f7deca03d13989f111ba6fe32e112602c29d3", func := "hallmoot/hallmootlaw16.FetchNil", spec := "fetchNil", inPlace := ["slices.overlaps[hallmoot/fetch.wish]"], unfollowed := true, recurses := true, apart := false }
def FetchNilSaid : Prop := fetchNilRow.holds Try.pinned (OpenSpec.ofChange fetchNilSpec)

/-- ITS FALSE NEIGHBOUR: 'it returns false'. Refute it at one input. -/
def fetchNilWrong : ChangeSpec := { name := "fetchNil", fn := fun _ => fun
  | [d] => { results := [.lit (.bool false)], args := [d] }
  | _ => none }
def FetchNilWrongFalsely : Prop := fetchNilRow.holds Try.pinned (OpenSpec.ofChange fetchNilWrong)

/-- 'hallmootlaw16.FetchAll': WHATEVER THE INPUT: true; the input reads as it did. -/
def fetchAllSpec : ChangeSpec := { name := "fetchAll", fn := fun _ => fun
  | [d1, d2, d3, d4] => { results := [.lit (.bool true)], args := [d1, d2, d3, d4] }
  | _ => none }
def fetchAllRow : OpenClaim := { program := "ytkgghcffchlolaa", sum := "8541f1e22c486df60dee4382382f7deca03d13989f111ba6fe32e112602c29d3", func := "hallmoot/hallmootlaw16.FetchAll", spec := "fetchAll", inPlace := ["slices.overlaps[hallmoot/fetch.wish]"], unfollowed := true, recurses := true, apart := false }
def FetchAllSaid : Prop := fetchAllRow.holds Try.pinned (OpenSpec.ofChange fetchAllSpec)

/-- ITS FALSE NEIGHBOUR: 'it returns false'. Refute it at one input. -/
def fetchAllWrong : ChangeSpec := { name := "fetchAll", fn := fun _ => fun
  | [d1, d2, d3, d4] => { results := [.lit (.bool false)], args := [d1, d2, d3, d4] }
  | _ => none }
def FetchAllWrongFalsely : Prop := fetchAllRow.holds Try.pinned (OpenSpec.ofChange fetchAllWrong)

/- THE SECOND FORM. 'bulk': how many values and letters a reading holds, each counted each time it is reached (what is shared counts as often as it is met; a slice's spare places count too). A statement '..UptoSaid' is the law's where the arguments, and the package variables that the reading takes, are together of bulk at most 1048576: NARROWER than '..Said'. Prove '..Said' where nothing that the law and all that it calls make is longer than what came in: it says more and counts as full. Else prove '..UptoSaid'. A law counts once. -/
mutual
def uptoBulk {H : Type} : DataW H → Nat
  | .lit (.string bytes) => bytes.length + 1
  | .lit _ => 1
  | .nil => 1
  | .ptr d => uptoBulk d + 1
  | .slice elems spare => uptoBulkAll elems + uptoBulkAll spare + 1
  | .agg parts => uptoBulkAll parts + 1
  | .iface _ d => uptoBulk d + 1
  | .map entries => uptoBulkEntries entries + 1
  | .held _ => 1
def uptoBulkAll {H : Type} : List (DataW H) → Nat
  | [] => 0
  | d :: r => uptoBulk d + uptoBulkAll r
def uptoBulkEntries {H : Type} : List (Lit × DataW H) → Nat
  | [] => 0
  | x :: r => uptoBulkEntry x + uptoBulkEntries r
def uptoBulkEntry {H : Type} : Lit × DataW H → Nat
  | (.string bytes, d) => bytes.length + uptoBulk d + 1
  | (_, d) => uptoBulk d + 1
 end
def uptoSmall : (H : Type) → List (DataW H) → Bool := fun _ ds => decide (uptoBulkAll ds ≤ 1048576)
def OpenSpec.upto (s : _root_.Go.ChangeSpec) : _root_.Go.OpenSpec := { _root_.Go.OpenSpec.ofChange s with cond := some uptoSmall }

/-- 'hallmootlaw16.FetchPlays', WHERE WHAT IT READS IS OF BULK AT MOST 1048576: true; the input reads as it did. -/
def fetchPlaysUptoRow : OpenClaim := { program := "ytkgghcffchlolaa", sum := "8541f1e22c486df60dee4382382f7deca03d13989f111ba6fe32e112602c29d3", func := "hallmoot/hallmootlaw16.FetchPlays", spec := "fetchPlays", inPlace := ["slices.overlaps[hallmoot/fetch.wish]"], unfollowed := true, recurses := true, apart := false, narrowed := true }
def FetchPlaysUptoSaid : Prop := fetchPlaysUptoRow.holds Try.pinned (OpenSpec.upto fetchPlaysSpec)

/-- 'hallmootlaw16.FetchNil', WHERE WHAT IT READS IS OF BULK AT MOST 1048576: true; the input reads as it did. -/
def fetchNilUptoRow : OpenClaim := { program := "ytkgghcffchlolaa", sum := "8541f1e22c486df60dee4382382f7deca03d13989f111ba6fe32e112602c29d3", func := "hallmoot/hallmootlaw16.FetchNil", spec := "fetchNil", inPlace := ["slices.overlaps[hallmoot/fetch.wish]"], unfollowed := true, recurses := true, apart := false, narrowed := true }
def FetchNilUptoSaid : Prop := fetchNilUptoRow.holds Try.pinned (OpenSpec.upto fetchNilSpec)

/-- 'hallmootlaw16.FetchAll', WHERE WHAT IT READS IS OF BULK AT MOST 1048576: true; the input reads as it did. -/
def fetchAllUptoRow : OpenClaim := { program := "ytkgghcffchlolaa", sum := "8541f1e22c486df60dee4382382f7deca03d13989f111ba6fe32e112602c29d3", func := "hallmoot/hallmootlaw16.FetchAll", spec := "fetchAll", inPlace := ["slices.overlaps[hallmoot/fetch.wish]"], unfollowed := true, recurses := true, apart := false, narrowed := true }
def FetchAllUptoSaid : Prop := fetchAllUptoRow.holds Try.pinned (OpenSpec.upto fetchAllSpec)

end Rows
end Go.Proofs.Ytkgghcffchlolaa
