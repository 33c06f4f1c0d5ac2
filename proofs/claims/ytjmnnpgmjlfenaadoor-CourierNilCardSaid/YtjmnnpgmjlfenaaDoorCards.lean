/-
  DERIVED. GIVEN WITH THE SEED: THE CARDS: each row of YtjmnnpgmjlfenaaDoorRows.lean that lists a variable, with what it lists TIED to the program's text (the seventh form; the later family's looks); each row that meets fmt, with fmt's text TOLD by the authors' own Lean function (tested against real Go, not proved from fmt's source: count such statements apart). THE CARD IS WHAT COUNTS. Prove the row's statement (the work); the ties are given (YtjmnnpgmjlfenaaDoorTie.lean); close each card by the builder's one call (the guide's Derived/Test/ToyasCard.lean, 'card_holds'). Laid BY PROGRAM, IN A SANDBOX (cutbox-door.mjs). By AI agents, Wed Nov 11 2026. No macro, syntax, notation, axiom, sorry.
-/
import Derived.Test.YtjmnnpgmjlfenaaDoorRows
import GoSem.ClaimSeven
namespace Go.Proofs.YtjmnnpgmjlfenaaDoor
namespace Rows

/-- THE TIED CARD OF 'hallmootlaw32.CourierOnce'. -/
def courierOnceCard : Claim7 := { stood := { row := courierOnceRow, standIns := [], harness := (true, "f63067f241df9ff19e7100f2a1d4b9d2d3cfdcdcfae23c91ff9e0561ac56139e"), looks := false }, kinds := [], alts := [], laidByText := true, laidKinds := [.data, .pinned], laidTests := true, laidLooks := .later }
def CourierOnceCardSaid : Prop := Claim7.holds Tryd.pinned (.plain (OpenSpec.ofChange courierOnceSpec)) courierOnceCard

/-- THE TIED CARD OF 'hallmootlaw32.CourierPlays'. -/
def courierPlaysCard : Claim7 := { stood := { row := courierPlaysRow, standIns := [], harness := (true, "f63067f241df9ff19e7100f2a1d4b9d2d3cfdcdcfae23c91ff9e0561ac56139e"), looks := false }, kinds := [], alts := [], laidByText := true, laidKinds := [.data, .pinned], laidTests := true, laidLooks := .later }
def CourierPlaysCardSaid : Prop := Claim7.holds Tryd.pinned (.plain (OpenSpec.ofChange courierPlaysSpec)) courierPlaysCard

/-- THE TIED CARD OF 'hallmootlaw32.CourierNil'. -/
def courierNilCard : Claim7 := { stood := { row := courierNilRow, standIns := [], harness := (true, "f63067f241df9ff19e7100f2a1d4b9d2d3cfdcdcfae23c91ff9e0561ac56139e"), looks := false }, kinds := [], alts := [], laidByText := true, laidKinds := [.data, .pinned], laidTests := true, laidLooks := .later }
def CourierNilCardSaid : Prop := Claim7.holds Tryd.pinned (.plain (OpenSpec.ofChange courierNilSpec)) courierNilCard

/-- THE SECOND FORM's CARD OF 'hallmootlaw32.CourierOnce'. -/
def courierOnceUptoCard : Claim7 := { stood := { row := courierOnceUptoRow, standIns := [], harness := (true, "f63067f241df9ff19e7100f2a1d4b9d2d3cfdcdcfae23c91ff9e0561ac56139e"), looks := false }, kinds := [], alts := [], laidByText := true, laidKinds := [.data, .pinned], laidTests := true, laidLooks := .later }
def CourierOnceUptoCardSaid : Prop := Claim7.holds Tryd.pinned (.plain (OpenSpec.upto courierOnceSpec)) courierOnceUptoCard

/-- THE SECOND FORM's CARD OF 'hallmootlaw32.CourierPlays'. -/
def courierPlaysUptoCard : Claim7 := { stood := { row := courierPlaysUptoRow, standIns := [], harness := (true, "f63067f241df9ff19e7100f2a1d4b9d2d3cfdcdcfae23c91ff9e0561ac56139e"), looks := false }, kinds := [], alts := [], laidByText := true, laidKinds := [.data, .pinned], laidTests := true, laidLooks := .later }
def CourierPlaysUptoCardSaid : Prop := Claim7.holds Tryd.pinned (.plain (OpenSpec.upto courierPlaysSpec)) courierPlaysUptoCard

/-- THE SECOND FORM's CARD OF 'hallmootlaw32.CourierNil'. -/
def courierNilUptoCard : Claim7 := { stood := { row := courierNilUptoRow, standIns := [], harness := (true, "f63067f241df9ff19e7100f2a1d4b9d2d3cfdcdcfae23c91ff9e0561ac56139e"), looks := false }, kinds := [], alts := [], laidByText := true, laidKinds := [.data, .pinned], laidTests := true, laidLooks := .later }
def CourierNilUptoCardSaid : Prop := Claim7.holds Tryd.pinned (.plain (OpenSpec.upto courierNilSpec)) courierNilUptoCard
end Rows
end Go.Proofs.YtjmnnpgmjlfenaaDoor
