/-
  NARROWER THAN 'FOR EVERY INPUT', by the rows' own cells (each row's printed sentence says how): NameCuts: laid · NameChecks: laid · NameOrder: laid · NameBack: laid · TxWrites: laid · TxParses: laid · TxTakes: laid · TxBack: laid · PoolBatch: laid · PoolPlays: laid · CourierOnce: laid · CourierPlays: laid.
  DERIVED. THE GIVEN ROWS OF THIS SEAT. 12 by the template 'for every input the law returns true; each argument reads behind the call as it read before'; 0 by the template 'total and deterministic' (their statements: YtmjbindplgpjjaaDoorTotals.lean).
  GIVEN WITH THE SEED: the statements are not yours to turn. If you find one false, say at which input.
  Laid BY PROGRAM, IN A SANDBOX (cutbox-rows.mjs): the forced cells as the released guide's own fill.sh prints them over the translation 4f6a2cd2896c0271… (all of the seat's roots in one cut). By AI agents, Wed Nov 11 2026. No macro, syntax, notation, axiom, sorry.
-/
import Derived.Test.YtmjbindplgpjjaaDoorChecked
import GoSem.PinnedTables
import GoSem.Claim
import GoSem.ClaimJoined
import GoSem.ClaimMapViews
import Derived.JoinedTies
import Derived.KernelRfl
namespace Go.Proofs.YtmjbindplgpjjaaDoor
/- THE CELL 'sum', in the pinned program and in every row, IS THE sha256 OF THE DUMP (.gsa) THAT YtmjbindplgpjjaaDoorProg.lean LOADS. Nothing in Lean hashes anything: it is a label: what it is worth is what the hold of that sum in a sandbox is worth. -/
noncomputable def Tryd.pinned : Pinned := { name := "ytmjbindplgpjjaadoor", sum := "4f6a2cd2896c027171b705186e328cc199609f5d5ad67f0cbe53c1735230c03f", checked := Tryd.checked }
namespace Rows
def none {H : Type} : Left H := { results := [], args := [] }

/- WHAT THE LISTED PACKAGE-LEVEL VARIABLES READ AS WHEN THE CALL BEGINS. Each datum BY PROGRAM (the guide's laid-datum.mjs) off the statement by which the dump's own 'gosem.cut.vars' lays the variable. In a bare row this is a premise. The card (YtmjbindplgpjjaaDoorCards.lean) ties it to the program's text. -/
def laid_unicode_utf8_acceptRanges {H : Type} : DataW H := .agg [.agg [.lit (.int .u8 128), .lit (.int .u8 191)], .agg [.lit (.int .u8 160), .lit (.int .u8 191)], .agg [.lit (.int .u8 128), .lit (.int .u8 159)], .agg [.lit (.int .u8 144), .lit (.int .u8 191)], .agg [.lit (.int .u8 128), .lit (.int .u8 143)], .agg [.lit (.int .u8 0), .lit (.int .u8 0)], .agg [.lit (.int .u8 0), .lit (.int .u8 0)], .agg [.lit (.int .u8 0), .lit (.int .u8 0)], .agg [.lit (.int .u8 0), .lit (.int .u8 0)], .agg [.lit (.int .u8 0), .lit (.int .u8 0)], .agg [.lit (.int .u8 0), .lit (.int .u8 0)], .agg [.lit (.int .u8 0), .lit (.int .u8 0)], .agg [.lit (.int .u8 0), .lit (.int .u8 0)], .agg [.lit (.int .u8 0), .lit (.int .u8 0)], .agg [.lit (.int .u8 0), .lit (.int .u8 0)], .agg [.lit (.int .u8 0), .lit (.int .u8 0)]]
/-- One of Go's own tables, pinned by name: the form's constant. -/
def laid_unicode_utf8_first : DataW Unit := Go.Pinned.utf8First

/-- 'hallmootlaw02.NameCuts': WHATEVER THE INPUT: true; the input reads as it did. -/
def nameCutsSpec : ChangeSpec := { name := "nameCuts", fn := fun _ => fun
  | [d1, d2] => { results := [.lit (.bool true)], args := [d1, d2] }
  | _ => none }
def nameCutsRow : OpenClaim := { program := "ytmjbindplgpjjaadoor", sum := "4f6a2cd2896c027171b705186e328cc199609f5d5ad67f0cbe53c1735230c03f", func := "hallmoot/hallmootlaw02.NameCuts", spec := "nameCuts", named := ["unicode/utf8.first", "unicode/utf8.acceptRanges"], plainKeys := false, apart := false, laid := [("unicode/utf8.acceptRanges", laid_unicode_utf8_acceptRanges), ("unicode/utf8.first", laid_unicode_utf8_first)] }
def NameCutsSaid : Prop := nameCutsRow.holds Tryd.pinned (OpenSpec.ofChange nameCutsSpec)

/-- ITS FALSE NEIGHBOUR: 'it returns false'. Refute it at one input. -/
def nameCutsWrong : ChangeSpec := { name := "nameCuts", fn := fun _ => fun
  | [d1, d2] => { results := [.lit (.bool false)], args := [d1, d2] }
  | _ => none }
def NameCutsWrongFalsely : Prop := nameCutsRow.holds Tryd.pinned (OpenSpec.ofChange nameCutsWrong)

/-- 'hallmootlaw02.NameChecks': WHATEVER THE INPUT: true; the input reads as it did. -/
def nameChecksSpec : ChangeSpec := { name := "nameChecks", fn := fun _ => fun
  | [d] => { results := [.lit (.bool true)], args := [d] }
  | _ => none }
def nameChecksRow : OpenClaim := { program := "ytmjbindplgpjjaadoor", sum := "4f6a2cd2896c027171b705186e328cc199609f5d5ad67f0cbe53c1735230c03f", func := "hallmoot/hallmootlaw02.NameChecks", spec := "nameChecks", named := ["unicode/utf8.first", "unicode/utf8.acceptRanges"], plainKeys := false, apart := false, laid := [("unicode/utf8.acceptRanges", laid_unicode_utf8_acceptRanges), ("unicode/utf8.first", laid_unicode_utf8_first)] }
def NameChecksSaid : Prop := nameChecksRow.holds Tryd.pinned (OpenSpec.ofChange nameChecksSpec)

/-- ITS FALSE NEIGHBOUR: 'it returns false'. Refute it at one input. -/
def nameChecksWrong : ChangeSpec := { name := "nameChecks", fn := fun _ => fun
  | [d] => { results := [.lit (.bool false)], args := [d] }
  | _ => none }
def NameChecksWrongFalsely : Prop := nameChecksRow.holds Tryd.pinned (OpenSpec.ofChange nameChecksWrong)

/-- 'hallmootlaw02.NameOrder': WHATEVER THE INPUT: true; the input reads as it did. -/
def nameOrderSpec : ChangeSpec := { name := "nameOrder", fn := fun _ => fun
  | [d1, d2] => { results := [.lit (.bool true)], args := [d1, d2] }
  | _ => none }
def nameOrderRow : OpenClaim := { program := "ytmjbindplgpjjaadoor", sum := "4f6a2cd2896c027171b705186e328cc199609f5d5ad67f0cbe53c1735230c03f", func := "hallmoot/hallmootlaw02.NameOrder", spec := "nameOrder", named := ["unicode/utf8.first", "unicode/utf8.acceptRanges"], plainKeys := false, apart := false, laid := [("unicode/utf8.acceptRanges", laid_unicode_utf8_acceptRanges), ("unicode/utf8.first", laid_unicode_utf8_first)] }
def NameOrderSaid : Prop := nameOrderRow.holds Tryd.pinned (OpenSpec.ofChange nameOrderSpec)

/-- ITS FALSE NEIGHBOUR: 'it returns false'. Refute it at one input. -/
def nameOrderWrong : ChangeSpec := { name := "nameOrder", fn := fun _ => fun
  | [d1, d2] => { results := [.lit (.bool false)], args := [d1, d2] }
  | _ => none }
def NameOrderWrongFalsely : Prop := nameOrderRow.holds Tryd.pinned (OpenSpec.ofChange nameOrderWrong)

/-- 'hallmootlaw02.NameBack': WHATEVER THE INPUT: true; the input reads as it did. -/
def nameBackSpec : ChangeSpec := { name := "nameBack", fn := fun _ => fun
  | [d1, d2, d3, d4] => { results := [.lit (.bool true)], args := [d1, d2, d3, d4] }
  | _ => none }
def nameBackRow : OpenClaim := { program := "ytmjbindplgpjjaadoor", sum := "4f6a2cd2896c027171b705186e328cc199609f5d5ad67f0cbe53c1735230c03f", func := "hallmoot/hallmootlaw02.NameBack", spec := "nameBack", named := ["unicode/utf8.first", "unicode/utf8.acceptRanges"], plainKeys := false, apart := false, laid := [("unicode/utf8.acceptRanges", laid_unicode_utf8_acceptRanges), ("unicode/utf8.first", laid_unicode_utf8_first)] }
def NameBackSaid : Prop := nameBackRow.holds Tryd.pinned (OpenSpec.ofChange nameBackSpec)

/-- ITS FALSE NEIGHBOUR: 'it returns false'. Refute it at one input. -/
def nameBackWrong : ChangeSpec := { name := "nameBack", fn := fun _ => fun
  | [d1, d2, d3, d4] => { results := [.lit (.bool false)], args := [d1, d2, d3, d4] }
  | _ => none }
def NameBackWrongFalsely : Prop := nameBackRow.holds Tryd.pinned (OpenSpec.ofChange nameBackWrong)

/-- 'hallmootlaw08.TxWrites': WHATEVER THE INPUT: true; the input reads as it did. -/
def txWritesSpec : ChangeSpec := { name := "txWrites", fn := fun _ => fun
  | [d] => { results := [.lit (.bool true)], args := [d] }
  | _ => none }
def txWritesRow : OpenClaim := { program := "ytmjbindplgpjjaadoor", sum := "4f6a2cd2896c027171b705186e328cc199609f5d5ad67f0cbe53c1735230c03f", func := "hallmoot/hallmootlaw08.TxWrites", spec := "txWrites", recurses := true, named := ["unicode/utf8.first", "unicode/utf8.acceptRanges"], plainKeys := false, apart := false, laid := [("unicode/utf8.acceptRanges", laid_unicode_utf8_acceptRanges), ("unicode/utf8.first", laid_unicode_utf8_first)] }
def TxWritesSaid : Prop := txWritesRow.holds Tryd.pinned (OpenSpec.ofChange txWritesSpec)

/-- ITS FALSE NEIGHBOUR: 'it returns false'. Refute it at one input. -/
def txWritesWrong : ChangeSpec := { name := "txWrites", fn := fun _ => fun
  | [d] => { results := [.lit (.bool false)], args := [d] }
  | _ => none }
def TxWritesWrongFalsely : Prop := txWritesRow.holds Tryd.pinned (OpenSpec.ofChange txWritesWrong)

/-- 'hallmootlaw08.TxParses': WHATEVER THE INPUT: true; the input reads as it did. -/
def txParsesSpec : ChangeSpec := { name := "txParses", fn := fun _ => fun
  | [d] => { results := [.lit (.bool true)], args := [d] }
  | _ => none }
def txParsesRow : OpenClaim := { program := "ytmjbindplgpjjaadoor", sum := "4f6a2cd2896c027171b705186e328cc199609f5d5ad67f0cbe53c1735230c03f", func := "hallmoot/hallmootlaw08.TxParses", spec := "txParses", named := ["unicode/utf8.first", "unicode/utf8.acceptRanges"], plainKeys := false, apart := false, laid := [("unicode/utf8.acceptRanges", laid_unicode_utf8_acceptRanges), ("unicode/utf8.first", laid_unicode_utf8_first)] }
def TxParsesSaid : Prop := txParsesRow.holds Tryd.pinned (OpenSpec.ofChange txParsesSpec)

/-- ITS FALSE NEIGHBOUR: 'it returns false'. Refute it at one input. -/
def txParsesWrong : ChangeSpec := { name := "txParses", fn := fun _ => fun
  | [d] => { results := [.lit (.bool false)], args := [d] }
  | _ => none }
def TxParsesWrongFalsely : Prop := txParsesRow.holds Tryd.pinned (OpenSpec.ofChange txParsesWrong)

/-- 'hallmootlaw08.TxTakes': WHATEVER THE INPUT: true; the input reads as it did. -/
def txTakesSpec : ChangeSpec := { name := "txTakes", fn := fun _ => fun
  | [d] => { results := [.lit (.bool true)], args := [d] }
  | _ => none }
def txTakesRow : OpenClaim := { program := "ytmjbindplgpjjaadoor", sum := "4f6a2cd2896c027171b705186e328cc199609f5d5ad67f0cbe53c1735230c03f", func := "hallmoot/hallmootlaw08.TxTakes", spec := "txTakes", named := ["unicode/utf8.first", "unicode/utf8.acceptRanges"], plainKeys := false, apart := false, laid := [("unicode/utf8.acceptRanges", laid_unicode_utf8_acceptRanges), ("unicode/utf8.first", laid_unicode_utf8_first)] }
def TxTakesSaid : Prop := txTakesRow.holds Tryd.pinned (OpenSpec.ofChange txTakesSpec)

/-- ITS FALSE NEIGHBOUR: 'it returns false'. Refute it at one input. -/
def txTakesWrong : ChangeSpec := { name := "txTakes", fn := fun _ => fun
  | [d] => { results := [.lit (.bool false)], args := [d] }
  | _ => none }
def TxTakesWrongFalsely : Prop := txTakesRow.holds Tryd.pinned (OpenSpec.ofChange txTakesWrong)

/-- 'hallmootlaw08.TxBack': WHATEVER THE INPUT: true; the input reads as it did. -/
def txBackSpec : ChangeSpec := { name := "txBack", fn := fun _ => fun
  | [d1, d2] => { results := [.lit (.bool true)], args := [d1, d2] }
  | _ => none }
def txBackRow : OpenClaim := { program := "ytmjbindplgpjjaadoor", sum := "4f6a2cd2896c027171b705186e328cc199609f5d5ad67f0cbe53c1735230c03f", func := "hallmoot/hallmootlaw08.TxBack", spec := "txBack", named := ["unicode/utf8.first", "unicode/utf8.acceptRanges"], plainKeys := false, apart := false, laid := [("unicode/utf8.acceptRanges", laid_unicode_utf8_acceptRanges), ("unicode/utf8.first", laid_unicode_utf8_first)] }
def TxBackSaid : Prop := txBackRow.holds Tryd.pinned (OpenSpec.ofChange txBackSpec)

/-- ITS FALSE NEIGHBOUR: 'it returns false'. Refute it at one input. -/
def txBackWrong : ChangeSpec := { name := "txBack", fn := fun _ => fun
  | [d1, d2] => { results := [.lit (.bool false)], args := [d1, d2] }
  | _ => none }
def TxBackWrongFalsely : Prop := txBackRow.holds Tryd.pinned (OpenSpec.ofChange txBackWrong)

/-- 'hallmootlaw10.PoolBatch': WHATEVER THE INPUT: true; the input reads as it did. -/
def poolBatchSpec : ChangeSpec := { name := "poolBatch", fn := fun _ => fun
  | [d1, d2, d3, d4] => { results := [.lit (.bool true)], args := [d1, d2, d3, d4] }
  | _ => none }
def poolBatchRow : OpenClaim := { program := "ytmjbindplgpjjaadoor", sum := "4f6a2cd2896c027171b705186e328cc199609f5d5ad67f0cbe53c1735230c03f", func := "hallmoot/hallmootlaw10.PoolBatch", spec := "poolBatch", named := ["unicode/utf8.first", "unicode/utf8.acceptRanges"], plainKeys := false, apart := false, laid := [("unicode/utf8.acceptRanges", laid_unicode_utf8_acceptRanges), ("unicode/utf8.first", laid_unicode_utf8_first)] }
def PoolBatchSaid : Prop := poolBatchRow.holds Tryd.pinned (OpenSpec.ofChange poolBatchSpec)

/-- ITS FALSE NEIGHBOUR: 'it returns false'. Refute it at one input. -/
def poolBatchWrong : ChangeSpec := { name := "poolBatch", fn := fun _ => fun
  | [d1, d2, d3, d4] => { results := [.lit (.bool false)], args := [d1, d2, d3, d4] }
  | _ => none }
def PoolBatchWrongFalsely : Prop := poolBatchRow.holds Tryd.pinned (OpenSpec.ofChange poolBatchWrong)

/-- 'hallmootlaw10.PoolPlays': WHATEVER THE INPUT: true; the input reads as it did. -/
def poolPlaysSpec : ChangeSpec := { name := "poolPlays", fn := fun _ => fun
  | [d1, d2] => { results := [.lit (.bool true)], args := [d1, d2] }
  | _ => none }
def poolPlaysRow : OpenClaim := { program := "ytmjbindplgpjjaadoor", sum := "4f6a2cd2896c027171b705186e328cc199609f5d5ad67f0cbe53c1735230c03f", func := "hallmoot/hallmootlaw10.PoolPlays", spec := "poolPlays", unfollowed := true, recurses := true, named := ["unicode/utf8.first", "unicode/utf8.acceptRanges"], plainKeys := false, apart := false, laid := [("unicode/utf8.acceptRanges", laid_unicode_utf8_acceptRanges), ("unicode/utf8.first", laid_unicode_utf8_first)] }
def PoolPlaysSaid : Prop := poolPlaysRow.holds Tryd.pinned (OpenSpec.ofChange poolPlaysSpec)

/-- ITS FALSE NEIGHBOUR: 'it returns false'. Refute it at one input. -/
def poolPlaysWrong : ChangeSpec := { name := "poolPlays", fn := fun _ => fun
  | [d1, d2] => { results := [.lit (.bool false)], args := [d1, d2] }
  | _ => none }
def PoolPlaysWrongFalsely : Prop := poolPlaysRow.holds Tryd.pinned (OpenSpec.ofChange poolPlaysWrong)

/-- 'hallmootlaw32.CourierOnce': WHATEVER THE INPUT: true; the input reads as it did. -/
def courierOnceSpec : ChangeSpec := { name := "courierOnce", fn := fun _ => fun
  | [d1, d2] => { results := [.lit (.bool true)], args := [d1, d2] }
  | _ => none }
def courierOnceRow : OpenClaim := { program := "ytmjbindplgpjjaadoor", sum := "4f6a2cd2896c027171b705186e328cc199609f5d5ad67f0cbe53c1735230c03f", func := "hallmoot/hallmootlaw32.CourierOnce", spec := "courierOnce", named := ["unicode/utf8.first", "unicode/utf8.acceptRanges"], plainKeys := false, apart := false, laid := [("unicode/utf8.acceptRanges", laid_unicode_utf8_acceptRanges), ("unicode/utf8.first", laid_unicode_utf8_first)] }
def CourierOnceSaid : Prop := courierOnceRow.holds Tryd.pinned (OpenSpec.ofChange courierOnceSpec)

/-- ITS FALSE NEIGHBOUR: 'it returns false'. Refute it at one input. -/
def courierOnceWrong : ChangeSpec := { name := "courierOnce", fn := fun _ => fun
  | [d1, d2] => { results := [.lit (.bool false)], args := [d1, d2] }
  | _ => none }
def CourierOnceWrongFalsely : Prop := courierOnceRow.holds Tryd.pinned (OpenSpec.ofChange courierOnceWrong)

/-- 'hallmootlaw32.CourierPlays': WHATEVER THE INPUT: true; the input reads as it did. -/
def courierPlaysSpec : ChangeSpec := { name := "courierPlays", fn := fun _ => fun
  | [d1, d2, d3] => { results := [.lit (.bool true)], args := [d1, d2, d3] }
  | _ => none }
def courierPlaysRow : OpenClaim := { program := "ytmjbindplgpjjaadoor", sum := "4f6a2cd2896c027171b705186e328cc199609f5d5ad67f0cbe53c1735230c03f", func := "hallmoot/hallmootlaw32.CourierPlays", spec := "courierPlays", named := ["unicode/utf8.first", "unicode/utf8.acceptRanges"], plainKeys := false, apart := false, laid := [("unicode/utf8.acceptRanges", laid_unicode_utf8_acceptRanges), ("unicode/utf8.first", laid_unicode_utf8_first)] }
def CourierPlaysSaid : Prop := courierPlaysRow.holds Tryd.pinned (OpenSpec.ofChange courierPlaysSpec)

/-- ITS FALSE NEIGHBOUR: 'it returns false'. Refute it at one input. -/
def courierPlaysWrong : ChangeSpec := { name := "courierPlays", fn := fun _ => fun
  | [d1, d2, d3] => { results := [.lit (.bool false)], args := [d1, d2, d3] }
  | _ => none }
def CourierPlaysWrongFalsely : Prop := courierPlaysRow.holds Tryd.pinned (OpenSpec.ofChange courierPlaysWrong)

/- THE SECOND FORM. 'bulk': how many values and letters a reading holds, each counted each time it is reached (what is shared counts as often as it is met; a slice's spare places count too). A statement '..UptoSaid' is the law's where the arguments, and the package variables that the reading takes, are together of bulk at most 1048576: NARROWER than '..Said'. Prove '..Said' where nothing that the law and all that it calls make is longer than what came in: it says more and counts as full. Else prove '..UptoSaid'. A law counts once. -/
mutual
def uptoBulk {H : Type} : DataW H → Nat
  | .lit (.string bytes) => bytes.length + 1
  | .lit _ => 1
  | .nil => 1
  | .ptr d => uptoBulk d + 1
  | .slice elems spare => uptoBulkAll elems + uptoBulkAll spare + 1
  | .agg parts => uptoBulkAll parts + 1
  | .iface _ d => uptoBulk d + 1
  | .map entries => uptoBulkEntries entries + 1
  | .held _ => 1
def uptoBulkAll {H : Type} : List (DataW H) → Nat
  | [] => 0
  | d :: r => uptoBulk d + uptoBulkAll r
def uptoBulkEntries {H : Type} : List (Lit × DataW H) → Nat
  | [] => 0
  | x :: r => uptoBulkEntry x + uptoBulkEntries r
def uptoBulkEntry {H : Type} : Lit × DataW H → Nat
  | (.string bytes, d) => bytes.length + uptoBulk d + 1
  | (_, d) => uptoBulk d + 1
 end
def uptoSmall : (H : Type) → List (DataW H) → Bool := fun _ ds => decide (uptoBulkAll ds ≤ 1048576)
def OpenSpec.upto (s : _root_.Go.ChangeSpec) : _root_.Go.OpenSpec := { _root_.Go.OpenSpec.ofChange s with cond := some uptoSmall }

/-- 'hallmootlaw02.NameCuts', WHERE WHAT IT READS IS OF BULK AT MOST 1048576: true; the input reads as it did. -/
def nameCutsUptoRow : OpenClaim := { program := "ytmjbindplgpjjaadoor", sum := "4f6a2cd2896c027171b705186e328cc199609f5d5ad67f0cbe53c1735230c03f", func := "hallmoot/hallmootlaw02.NameCuts", spec := "nameCuts", named := ["unicode/utf8.first", "unicode/utf8.acceptRanges"], plainKeys := false, apart := false, laid := [("unicode/utf8.acceptRanges", laid_unicode_utf8_acceptRanges), ("unicode/utf8.first", laid_unicode_utf8_first)], narrowed := true }
def NameCutsUptoSaid : Prop := nameCutsUptoRow.holds Tryd.pinned (OpenSpec.upto nameCutsSpec)

/-- 'hallmootlaw02.NameChecks', WHERE WHAT IT READS IS OF BULK AT MOST 1048576: true; the input reads as it did. -/
def nameChecksUptoRow : OpenClaim := { program := "ytmjbindplgpjjaadoor", sum := "4f6a2cd2896c027171b705186e328cc199609f5d5ad67f0cbe53c1735230c03f", func := "hallmoot/hallmootlaw02.NameChecks", spec := "nameChecks", named := ["unicode/utf8.first", "unicode/utf8.acceptRanges"], plainKeys := false, apart := false, laid := [("unicode/utf8.acceptRanges", laid_unicode_utf8_acceptRanges), ("unicode/utf8.first", laid_unicode_utf8_first)], narrowed := true }
def NameChecksUptoSaid : Prop := nameChecksUptoRow.holds Tryd.pinned (OpenSpec.upto nameChecksSpec)

/-- 'hallmootlaw02.NameOrder', WHERE WHAT IT READS IS OF BULK AT MOST 1048576: true; the input reads as it did. -/
def nameOrderUptoRow : OpenClaim := { program := "ytmjbindplgpjjaadoor", sum := "4f6a2cd2896c027171b705186e328cc199609f5d5ad67f0cbe53c1735230c03f", func := "hallmoot/hallmootlaw02.NameOrder", spec := "nameOrder", named := ["unicode/utf8.first", "unicode/utf8.acceptRanges"], plainKeys := false, apart := false, laid := [("unicode/utf8.acceptRanges", laid_unicode_utf8_acceptRanges), ("unicode/utf8.first", laid_unicode_utf8_first)], narrowed := true }
def NameOrderUptoSaid : Prop := nameOrderUptoRow.holds Tryd.pinned (OpenSpec.upto nameOrderSpec)

/-- 'hallmootlaw02.NameBack', WHERE WHAT IT READS IS OF BULK AT MOST 1048576: true; the input reads as it did. -/
def nameBackUptoRow : OpenClaim := { program := "ytmjbindplgpjjaadoor", sum := "4f6a2cd2896c027171b705186e328cc199609f5d5ad67f0cbe53c1735230c03f", func := "hallmoot/hallmootlaw02.NameBack", spec := "nameBack", named := ["unicode/utf8.first", "unicode/utf8.acceptRanges"], plainKeys := false, apart := false, laid := [("unicode/utf8.acceptRanges", laid_unicode_utf8_acceptRanges), ("unicode/utf8.first", laid_unicode_utf8_first)], narrowed := true }
def NameBackUptoSaid : Prop := nameBackUptoRow.holds Tryd.pinned (OpenSpec.upto nameBackSpec)

/-- 'hallmootlaw08.TxWrites', WHERE WHAT IT READS IS OF BULK AT MOST 1048576: true; the input reads as it did. -/
def txWritesUptoRow : OpenClaim := { program := "ytmjbindplgpjjaadoor", sum := "4f6a2cd2896c027171b705186e328cc199609f5d5ad67f0cbe53c1735230c03f", func := "hallmoot/hallmootlaw08.TxWrites", spec := "txWrites", recurses := true, named := ["unicode/utf8.first", "unicode/utf8.acceptRanges"], plainKeys := false, apart := false, laid := [("unicode/utf8.acceptRanges", laid_unicode_utf8_acceptRanges), ("unicode/utf8.first", laid_unicode_utf8_first)], narrowed := true }
def TxWritesUptoSaid : Prop := txWritesUptoRow.holds Tryd.pinned (OpenSpec.upto txWritesSpec)

/-- 'hallmootlaw08.TxParses', WHERE WHAT IT READS IS OF BULK AT MOST 1048576: true; the input reads as it did. -/
def txParsesUptoRow : OpenClaim := { program := "ytmjbindplgpjjaadoor", sum := "4f6a2cd2896c027171b705186e328cc199609f5d5ad67f0cbe53c1735230c03f", func := "hallmoot/hallmootlaw08.TxParses", spec := "txParses", named := ["unicode/utf8.first", "unicode/utf8.acceptRanges"], plainKeys := false, apart := false, laid := [("unicode/utf8.acceptRanges", laid_unicode_utf8_acceptRanges), ("unicode/utf8.first", laid_unicode_utf8_first)], narrowed := true }
def TxParsesUptoSaid : Prop := txParsesUptoRow.holds Tryd.pinned (OpenSpec.upto txParsesSpec)

/-- 'hallmootlaw08.TxTakes', WHERE WHAT IT READS IS OF BULK AT MOST 1048576: true; the input reads as it did. -/
def txTakesUptoRow : OpenClaim := { program := "ytmjbindplgpjjaadoor", sum := "4f6a2cd2896c027171b705186e328cc199609f5d5ad67f0cbe53c1735230c03f", func := "hallmoot/hallmootlaw08.TxTakes", spec := "txTakes", named := ["unicode/utf8.first", "unicode/utf8.acceptRanges"], plainKeys := false, apart := false, laid := [("unicode/utf8.acceptRanges", laid_unicode_utf8_acceptRanges), ("unicode/utf8.first", laid_unicode_utf8_first)], narrowed := true }
def TxTakesUptoSaid : Prop := txTakesUptoRow.holds Tryd.pinned (OpenSpec.upto txTakesSpec)

/-- 'hallmootlaw08.TxBack', WHERE WHAT IT READS IS OF BULK AT MOST 1048576: true; the input reads as it did. -/
def txBackUptoRow : OpenClaim := { program := "ytmjbindplgpjjaadoor", sum := "4f6a2cd2896c027171b705186e328cc199609f5d5ad67f0cbe53c1735230c03f", func := "hallmoot/hallmootlaw08.TxBack", spec := "txBack", named := ["unicode/utf8.first", "unicode/utf8.acceptRanges"], plainKeys := false, apart := false, laid := [("unicode/utf8.acceptRanges", laid_unicode_utf8_acceptRanges), ("unicode/utf8.first", laid_unicode_utf8_first)], narrowed := true }
def TxBackUptoSaid : Prop := txBackUptoRow.holds Tryd.pinned (OpenSpec.upto txBackSpec)

/-- 'hallmootlaw10.PoolBatch', WHERE WHAT IT READS IS OF BULK AT MOST 1048576: true; the input reads as it did. -/
def poolBatchUptoRow : OpenClaim := { program := "ytmjbindplgpjjaadoor", sum := "4f6a2cd2896c027171b705186e328cc199609f5d5ad67f0cbe53c1735230c03f", func := "hallmoot/hallmootlaw10.PoolBatch", spec := "poolBatch", named := ["unicode/utf8.first", "unicode/utf8.acceptRanges"], plainKeys := false, apart := false, laid := [("unicode/utf8.acceptRanges", laid_unicode_utf8_acceptRanges), ("unicode/utf8.first", laid_unicode_utf8_first)], narrowed := true }
def PoolBatchUptoSaid : Prop := poolBatchUptoRow.holds Tryd.pinned (OpenSpec.upto poolBatchSpec)

/-- 'hallmootlaw10.PoolPlays', WHERE WHAT IT READS IS OF BULK AT MOST 1048576: true; the input reads as it did. -/
def poolPlaysUptoRow : OpenClaim := { program := "ytmjbindplgpjjaadoor", sum := "4f6a2cd2896c027171b705186e328cc199609f5d5ad67f0cbe53c1735230c03f", func := "hallmoot/hallmootlaw10.PoolPlays", spec := "poolPlays", unfollowed := true, recurses := true, named := ["unicode/utf8.first", "unicode/utf8.acceptRanges"], plainKeys := false, apart := false, laid := [("unicode/utf8.acceptRanges", laid_unicode_utf8_acceptRanges), ("unicode/utf8.first", laid_unicode_utf8_first)], narrowed := true }
def PoolPlaysUptoSaid : Prop := poolPlaysUptoRow.holds Tryd.pinned (OpenSpec.upto poolPlaysSpec)

/-- 'hallmootlaw32.CourierOnce', WHERE WHAT IT READS IS OF BULK AT MOST 1048576: true; the input reads as it did. -/
def courierOnceUptoRow : OpenClaim := { program := "ytmjbindplgpjjaadoor", sum := "4f6a2cd2896c027171b705186e328cc199609f5d5ad67f0cbe53c1735230c03f", func := "hallmoot/hallmootlaw32.CourierOnce", spec := "courierOnce", named := ["unicode/utf8.first", "unicode/utf8.acceptRanges"], plainKeys := false, apart := false, laid := [("unicode/utf8.acceptRanges", laid_unicode_utf8_acceptRanges), ("unicode/utf8.first", laid_unicode_utf8_first)], narrowed := true }
def CourierOnceUptoSaid : Prop := courierOnceUptoRow.holds Tryd.pinned (OpenSpec.upto courierOnceSpec)

/-- 'hallmootlaw32.CourierPlays', WHERE WHAT IT READS IS OF BULK AT MOST 1048576: true; the input reads as it did. -/
def courierPlaysUptoRow : OpenClaim := { program := "ytmjbindplgpjjaadoor", sum := "4f6a2cd2896c027171b705186e328cc199609f5d5ad67f0cbe53c1735230c03f", func := "hallmoot/hallmootlaw32.CourierPlays", spec := "courierPlays", named := ["unicode/utf8.first", "unicode/utf8.acceptRanges"], plainKeys := false, apart := false, laid := [("unicode/utf8.acceptRanges", laid_unicode_utf8_acceptRanges), ("unicode/utf8.first", laid_unicode_utf8_first)], narrowed := true }
def CourierPlaysUptoSaid : Prop := courierPlaysUptoRow.holds Tryd.pinned (OpenSpec.upto courierPlaysSpec)

end Rows
end Go.Proofs.YtmjbindplgpjjaaDoor
