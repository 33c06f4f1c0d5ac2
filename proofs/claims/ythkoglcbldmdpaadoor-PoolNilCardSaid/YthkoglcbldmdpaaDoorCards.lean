/-
  DERIVED. GIVEN WITH THE SEED: THE CARDS: each row of YthkoglcbldmdpaaDoorRows.lean that lists a variable, with what it lists TIED to the program's text (the seventh form; the later family's looks); each row that meets fmt, with fmt's text TOLD by the authors' own Lean function (tested against real Go, not proved from fmt's source: count such statements apart). THE CARD IS WHAT COUNTS. Prove the row's statement (the work); the ties are given (YthkoglcbldmdpaaDoorTie.lean); close each card by the builder's one call (the guide's Derived/Test/ToyasCard.lean, 'card_holds'). Laid BY PROGRAM, IN A SANDBOX (cutbox-door.mjs). By AI agents, Wed Nov 11 2026. No macro, syntax, notation, axiom, sorry.
-/
import Derived.Test.YthkoglcbldmdpaaDoorRows
import GoSem.ClaimSeven
namespace Go.Proofs.YthkoglcbldmdpaaDoor
namespace Rows

/-- THE TIED CARD OF 'hallmootlaw10.PoolBatch'. -/
def poolBatchCard : Claim7 := { stood := { row := poolBatchRow, standIns := [], harness := (true, "0a707636a645e9377193d752e45053dfcf1897660bc7df088c388b5521da3b6f"), looks := false }, kinds := [], alts := [], laidByText := true, laidKinds := [.data, .pinned], laidTests := true, laidLooks := .later }
def PoolBatchCardSaid : Prop := Claim7.holds Tryd.pinned (.plain (OpenSpec.ofChange poolBatchSpec)) poolBatchCard

/-- THE TIED CARD OF 'hallmootlaw10.PoolPlays'. -/
def poolPlaysCard : Claim7 := { stood := { row := poolPlaysRow, standIns := [], harness := (true, "0a707636a645e9377193d752e45053dfcf1897660bc7df088c388b5521da3b6f"), looks := false }, kinds := [], alts := [], laidByText := true, laidKinds := [.data, .pinned], laidTests := true, laidLooks := .later }
def PoolPlaysCardSaid : Prop := Claim7.holds Tryd.pinned (.plain (OpenSpec.ofChange poolPlaysSpec)) poolPlaysCard

/-- THE TIED CARD OF 'hallmootlaw10.PoolNil'. -/
def poolNilCard : Claim7 := { stood := { row := poolNilRow, standIns := [], harness := (true, "0a707636a645e9377193d752e45053dfcf1897660bc7df088c388b5521da3b6f"), looks := false }, kinds := [], alts := [], laidByText := true, laidKinds := [.data, .pinned], laidTests := true, laidLooks := .later }
def PoolNilCardSaid : Prop := Claim7.holds Tryd.pinned (.plain (OpenSpec.ofChange poolNilSpec)) poolNilCard

/-- THE SECOND FORM's CARD OF 'hallmootlaw10.PoolBatch'. -/
def poolBatchUptoCard : Claim7 := { stood := { row := poolBatchUptoRow, standIns := [], harness := (true, "0a707636a645e9377193d752e45053dfcf1897660bc7df088c388b5521da3b6f"), looks := false }, kinds := [], alts := [], laidByText := true, laidKinds := [.data, .pinned], laidTests := true, laidLooks := .later }
def PoolBatchUptoCardSaid : Prop := Claim7.holds Tryd.pinned (.plain (OpenSpec.upto poolBatchSpec)) poolBatchUptoCard

/-- THE SECOND FORM's CARD OF 'hallmootlaw10.PoolPlays'. -/
def poolPlaysUptoCard : Claim7 := { stood := { row := poolPlaysUptoRow, standIns := [], harness := (true, "0a707636a645e9377193d752e45053dfcf1897660bc7df088c388b5521da3b6f"), looks := false }, kinds := [], alts := [], laidByText := true, laidKinds := [.data, .pinned], laidTests := true, laidLooks := .later }
def PoolPlaysUptoCardSaid : Prop := Claim7.holds Tryd.pinned (.plain (OpenSpec.upto poolPlaysSpec)) poolPlaysUptoCard

/-- THE SECOND FORM's CARD OF 'hallmootlaw10.PoolNil'. -/
def poolNilUptoCard : Claim7 := { stood := { row := poolNilUptoRow, standIns := [], harness := (true, "0a707636a645e9377193d752e45053dfcf1897660bc7df088c388b5521da3b6f"), looks := false }, kinds := [], alts := [], laidByText := true, laidKinds := [.data, .pinned], laidTests := true, laidLooks := .later }
def PoolNilUptoCardSaid : Prop := Claim7.holds Tryd.pinned (.plain (OpenSpec.upto poolNilSpec)) poolNilUptoCard
end Rows
end Go.Proofs.YthkoglcbldmdpaaDoor
