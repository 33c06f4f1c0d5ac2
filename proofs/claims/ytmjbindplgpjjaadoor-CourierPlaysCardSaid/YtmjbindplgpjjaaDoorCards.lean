/-
  DERIVED. GIVEN WITH THE SEED: THE CARDS: each row of YtmjbindplgpjjaaDoorRows.lean that lists a variable, with what it lists TIED to the program's text (the seventh form; the later family's looks); each row that meets fmt, with fmt's text TOLD by the authors' own Lean function (tested against real Go, not proved from fmt's source: count such statements apart). THE CARD IS WHAT COUNTS. Prove the row's statement (the work); the ties are given (YtmjbindplgpjjaaDoorTie.lean); close each card by the builder's one call (the guide's Derived/Test/ToyasCard.lean, 'card_holds'). Laid BY PROGRAM, IN A SANDBOX (cutbox-door.mjs). By AI agents, Wed Nov 11 2026. No macro, syntax, notation, axiom, sorry.
-/
import Derived.Test.YtmjbindplgpjjaaDoorRows
import GoSem.ClaimSeven
namespace Go.Proofs.YtmjbindplgpjjaaDoor
namespace Rows

/-- THE TIED CARD OF 'hallmootlaw02.NameCuts'. -/
def nameCutsCard : Claim7 := { stood := { row := nameCutsRow, standIns := [], harness := (true, "04bf13180d5c01f5cefcb13e3375edc3305cec317436f21bd83698835d5e56cf"), looks := false }, kinds := [], alts := [], laidByText := true, laidKinds := [.data, .pinned], laidTests := true, laidLooks := .later }
def NameCutsCardSaid : Prop := Claim7.holds Tryd.pinned (.plain (OpenSpec.ofChange nameCutsSpec)) nameCutsCard

/-- THE TIED CARD OF 'hallmootlaw02.NameChecks'. -/
def nameChecksCard : Claim7 := { stood := { row := nameChecksRow, standIns := [], harness := (true, "04bf13180d5c01f5cefcb13e3375edc3305cec317436f21bd83698835d5e56cf"), looks := false }, kinds := [], alts := [], laidByText := true, laidKinds := [.data, .pinned], laidTests := true, laidLooks := .later }
def NameChecksCardSaid : Prop := Claim7.holds Tryd.pinned (.plain (OpenSpec.ofChange nameChecksSpec)) nameChecksCard

/-- THE TIED CARD OF 'hallmootlaw02.NameOrder'. -/
def nameOrderCard : Claim7 := { stood := { row := nameOrderRow, standIns := [], harness := (true, "04bf13180d5c01f5cefcb13e3375edc3305cec317436f21bd83698835d5e56cf"), looks := false }, kinds := [], alts := [], laidByText := true, laidKinds := [.data, .pinned], laidTests := true, laidLooks := .later }
def NameOrderCardSaid : Prop := Claim7.holds Tryd.pinned (.plain (OpenSpec.ofChange nameOrderSpec)) nameOrderCard

/-- THE TIED CARD OF 'hallmootlaw02.NameBack'. -/
def nameBackCard : Claim7 := { stood := { row := nameBackRow, standIns := [], harness := (true, "04bf13180d5c01f5cefcb13e3375edc3305cec317436f21bd83698835d5e56cf"), looks := false }, kinds := [], alts := [], laidByText := true, laidKinds := [.data, .pinned], laidTests := true, laidLooks := .later }
def NameBackCardSaid : Prop := Claim7.holds Tryd.pinned (.plain (OpenSpec.ofChange nameBackSpec)) nameBackCard

/-- THE TIED CARD OF 'hallmootlaw08.TxWrites'. -/
def txWritesCard : Claim7 := { stood := { row := txWritesRow, standIns := [], harness := (true, "04bf13180d5c01f5cefcb13e3375edc3305cec317436f21bd83698835d5e56cf"), looks := false }, kinds := [], alts := [], laidByText := true, laidKinds := [.data, .pinned], laidTests := true, laidLooks := .later }
def TxWritesCardSaid : Prop := Claim7.holds Tryd.pinned (.plain (OpenSpec.ofChange txWritesSpec)) txWritesCard

/-- THE TIED CARD OF 'hallmootlaw08.TxParses'. -/
def txParsesCard : Claim7 := { stood := { row := txParsesRow, standIns := [], harness := (true, "04bf13180d5c01f5cefcb13e3375edc3305cec317436f21bd83698835d5e56cf"), looks := false }, kinds := [], alts := [], laidByText := true, laidKinds := [.data, .pinned], laidTests := true, laidLooks := .later }
def TxParsesCardSaid : Prop := Claim7.holds Tryd.pinned (.plain (OpenSpec.ofChange txParsesSpec)) txParsesCard

/-- THE TIED CARD OF 'hallmootlaw08.TxTakes'. -/
def txTakesCard : Claim7 := { stood := { row := txTakesRow, standIns := [], harness := (true, "04bf13180d5c01f5cefcb13e3375edc3305cec317436f21bd83698835d5e56cf"), looks := false }, kinds := [], alts := [], laidByText := true, laidKinds := [.data, .pinned], laidTests := true, laidLooks := .later }
def TxTakesCardSaid : Prop := Claim7.holds Tryd.pinned (.plain (OpenSpec.ofChange txTakesSpec)) txTakesCard

/-- THE TIED CARD OF 'hallmootlaw08.TxBack'. -/
def txBackCard : Claim7 := { stood := { row := txBackRow, standIns := [], harness := (true, "04bf13180d5c01f5cefcb13e3375edc3305cec317436f21bd83698835d5e56cf"), looks := false }, kinds := [], alts := [], laidByText := true, laidKinds := [.data, .pinned], laidTests := true, laidLooks := .later }
def TxBackCardSaid : Prop := Claim7.holds Tryd.pinned (.plain (OpenSpec.ofChange txBackSpec)) txBackCard

/-- THE TIED CARD OF 'hallmootlaw10.PoolBatch'. -/
def poolBatchCard : Claim7 := { stood := { row := poolBatchRow, standIns := [], harness := (true, "04bf13180d5c01f5cefcb13e3375edc3305cec317436f21bd83698835d5e56cf"), looks := false }, kinds := [], alts := [], laidByText := true, laidKinds := [.data, .pinned], laidTests := true, laidLooks := .later }
def PoolBatchCardSaid : Prop := Claim7.holds Tryd.pinned (.plain (OpenSpec.ofChange poolBatchSpec)) poolBatchCard

/-- THE TIED CARD OF 'hallmootlaw10.PoolPlays'. -/
def poolPlaysCard : Claim7 := { stood := { row := poolPlaysRow, standIns := [], harness := (true, "04bf13180d5c01f5cefcb13e3375edc3305cec317436f21bd83698835d5e56cf"), looks := false }, kinds := [], alts := [], laidByText := true, laidKinds := [.data, .pinned], laidTests := true, laidLooks := .later }
def PoolPlaysCardSaid : Prop := Claim7.holds Tryd.pinned (.plain (OpenSpec.ofChange poolPlaysSpec)) poolPlaysCard

/-- THE TIED CARD OF 'hallmootlaw32.CourierOnce'. -/
def courierOnceCard : Claim7 := { stood := { row := courierOnceRow, standIns := [], harness := (true, "04bf13180d5c01f5cefcb13e3375edc3305cec317436f21bd83698835d5e56cf"), looks := false }, kinds := [], alts := [], laidByText := true, laidKinds := [.data, .pinned], laidTests := true, laidLooks := .later }
def CourierOnceCardSaid : Prop := Claim7.holds Tryd.pinned (.plain (OpenSpec.ofChange courierOnceSpec)) courierOnceCard

/-- THE TIED CARD OF 'hallmootlaw32.CourierPlays'. -/
def courierPlaysCard : Claim7 := { stood := { row := courierPlaysRow, standIns := [], harness := (true, "04bf13180d5c01f5cefcb13e3375edc3305cec317436f21bd83698835d5e56cf"), looks := false }, kinds := [], alts := [], laidByText := true, laidKinds := [.data, .pinned], laidTests := true, laidLooks := .later }
def CourierPlaysCardSaid : Prop := Claim7.holds Tryd.pinned (.plain (OpenSpec.ofChange courierPlaysSpec)) courierPlaysCard

/-- THE SECOND FORM's CARD OF 'hallmootlaw02.NameCuts'. -/
def nameCutsUptoCard : Claim7 := { stood := { row := nameCutsUptoRow, standIns := [], harness := (true, "04bf13180d5c01f5cefcb13e3375edc3305cec317436f21bd83698835d5e56cf"), looks := false }, kinds := [], alts := [], laidByText := true, laidKinds := [.data, .pinned], laidTests := true, laidLooks := .later }
def NameCutsUptoCardSaid : Prop := Claim7.holds Tryd.pinned (.plain (OpenSpec.upto nameCutsSpec)) nameCutsUptoCard

/-- THE SECOND FORM's CARD OF 'hallmootlaw02.NameChecks'. -/
def nameChecksUptoCard : Claim7 := { stood := { row := nameChecksUptoRow, standIns := [], harness := (true, "04bf13180d5c01f5cefcb13e3375edc3305cec317436f21bd83698835d5e56cf"), looks := false }, kinds := [], alts := [], laidByText := true, laidKinds := [.data, .pinned], laidTests := true, laidLooks := .later }
def NameChecksUptoCardSaid : Prop := Claim7.holds Tryd.pinned (.plain (OpenSpec.upto nameChecksSpec)) nameChecksUptoCard

/-- THE SECOND FORM's CARD OF 'hallmootlaw02.NameOrder'. -/
def nameOrderUptoCard : Claim7 := { stood := { row := nameOrderUptoRow, standIns := [], harness := (true, "04bf13180d5c01f5cefcb13e3375edc3305cec317436f21bd83698835d5e56cf"), looks := false }, kinds := [], alts := [], laidByText := true, laidKinds := [.data, .pinned], laidTests := true, laidLooks := .later }
def NameOrderUptoCardSaid : Prop := Claim7.holds Tryd.pinned (.plain (OpenSpec.upto nameOrderSpec)) nameOrderUptoCard

/-- THE SECOND FORM's CARD OF 'hallmootlaw02.NameBack'. -/
def nameBackUptoCard : Claim7 := { stood := { row := nameBackUptoRow, standIns := [], harness := (true, "04bf13180d5c01f5cefcb13e3375edc3305cec317436f21bd83698835d5e56cf"), looks := false }, kinds := [], alts := [], laidByText := true, laidKinds := [.data, .pinned], laidTests := true, laidLooks := .later }
def NameBackUptoCardSaid : Prop := Claim7.holds Tryd.pinned (.plain (OpenSpec.upto nameBackSpec)) nameBackUptoCard

/-- THE SECOND FORM's CARD OF 'hallmootlaw08.TxWrites'. -/
def txWritesUptoCard : Claim7 := { stood := { row := txWritesUptoRow, standIns := [], harness := (true, "04bf13180d5c01f5cefcb13e3375edc3305cec317436f21bd83698835d5e56cf"), looks := false }, kinds := [], alts := [], laidByText := true, laidKinds := [.data, .pinned], laidTests := true, laidLooks := .later }
def TxWritesUptoCardSaid : Prop := Claim7.holds Tryd.pinned (.plain (OpenSpec.upto txWritesSpec)) txWritesUptoCard

/-- THE SECOND FORM's CARD OF 'hallmootlaw08.TxParses'. -/
def txParsesUptoCard : Claim7 := { stood := { row := txParsesUptoRow, standIns := [], harness := (true, "04bf13180d5c01f5cefcb13e3375edc3305cec317436f21bd83698835d5e56cf"), looks := false }, kinds := [], alts := [], laidByText := true, laidKinds := [.data, .pinned], laidTests := true, laidLooks := .later }
def TxParsesUptoCardSaid : Prop := Claim7.holds Tryd.pinned (.plain (OpenSpec.upto txParsesSpec)) txParsesUptoCard

/-- THE SECOND FORM's CARD OF 'hallmootlaw08.TxTakes'. -/
def txTakesUptoCard : Claim7 := { stood := { row := txTakesUptoRow, standIns := [], harness := (true, "04bf13180d5c01f5cefcb13e3375edc3305cec317436f21bd83698835d5e56cf"), looks := false }, kinds := [], alts := [], laidByText := true, laidKinds := [.data, .pinned], laidTests := true, laidLooks := .later }
def TxTakesUptoCardSaid : Prop := Claim7.holds Tryd.pinned (.plain (OpenSpec.upto txTakesSpec)) txTakesUptoCard

/-- THE SECOND FORM's CARD OF 'hallmootlaw08.TxBack'. -/
def txBackUptoCard : Claim7 := { stood := { row := txBackUptoRow, standIns := [], harness := (true, "04bf13180d5c01f5cefcb13e3375edc3305cec317436f21bd83698835d5e56cf"), looks := false }, kinds := [], alts := [], laidByText := true, laidKinds := [.data, .pinned], laidTests := true, laidLooks := .later }
def TxBackUptoCardSaid : Prop := Claim7.holds Tryd.pinned (.plain (OpenSpec.upto txBackSpec)) txBackUptoCard

/-- THE SECOND FORM's CARD OF 'hallmootlaw10.PoolBatch'. -/
def poolBatchUptoCard : Claim7 := { stood := { row := poolBatchUptoRow, standIns := [], harness := (true, "04bf13180d5c01f5cefcb13e3375edc3305cec317436f21bd83698835d5e56cf"), looks := false }, kinds := [], alts := [], laidByText := true, laidKinds := [.data, .pinned], laidTests := true, laidLooks := .later }
def PoolBatchUptoCardSaid : Prop := Claim7.holds Tryd.pinned (.plain (OpenSpec.upto poolBatchSpec)) poolBatchUptoCard

/-- THE SECOND FORM's CARD OF 'hallmootlaw10.PoolPlays'. -/
def poolPlaysUptoCard : Claim7 := { stood := { row := poolPlaysUptoRow, standIns := [], harness := (true, "04bf13180d5c01f5cefcb13e3375edc3305cec317436f21bd83698835d5e56cf"), looks := false }, kinds := [], alts := [], laidByText := true, laidKinds := [.data, .pinned], laidTests := true, laidLooks := .later }
def PoolPlaysUptoCardSaid : Prop := Claim7.holds Tryd.pinned (.plain (OpenSpec.upto poolPlaysSpec)) poolPlaysUptoCard

/-- THE SECOND FORM's CARD OF 'hallmootlaw32.CourierOnce'. -/
def courierOnceUptoCard : Claim7 := { stood := { row := courierOnceUptoRow, standIns := [], harness := (true, "04bf13180d5c01f5cefcb13e3375edc3305cec317436f21bd83698835d5e56cf"), looks := false }, kinds := [], alts := [], laidByText := true, laidKinds := [.data, .pinned], laidTests := true, laidLooks := .later }
def CourierOnceUptoCardSaid : Prop := Claim7.holds Tryd.pinned (.plain (OpenSpec.upto courierOnceSpec)) courierOnceUptoCard

/-- THE SECOND FORM's CARD OF 'hallmootlaw32.CourierPlays'. -/
def courierPlaysUptoCard : Claim7 := { stood := { row := courierPlaysUptoRow, standIns := [], harness := (true, "04bf13180d5c01f5cefcb13e3375edc3305cec317436f21bd83698835d5e56cf"), looks := false }, kinds := [], alts := [], laidByText := true, laidKinds := [.data, .pinned], laidTests := true, laidLooks := .later }
def CourierPlaysUptoCardSaid : Prop := Claim7.holds Tryd.pinned (.plain (OpenSpec.upto courierPlaysSpec)) courierPlaysUptoCard
end Rows
end Go.Proofs.YtmjbindplgpjjaaDoor
