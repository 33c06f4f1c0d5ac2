/-
  DERIVED. GIVEN WITH THE SEED: THE CARDS: each row of YtcbgbdehahcbbaaDoorRows.lean that lists a variable, with what it lists TIED to the program's text (the seventh form; the later family's looks); each row that meets fmt, with fmt's text TOLD by the authors' own Lean function (tested against real Go, not proved from fmt's source: count such statements apart). THE CARD IS WHAT COUNTS. Prove the row's statement (the work); the ties are given (YtcbgbdehahcbbaaDoorTie.lean); close each card by the builder's one call (the guide's Derived/Test/ToyasCard.lean, 'card_holds'). Laid BY PROGRAM, IN A SANDBOX (cutbox-door.mjs). By AI agents, Wed Nov 11 2026. No macro, syntax, notation, axiom, sorry.
-/
import Derived.Test.YtcbgbdehahcbbaaDoorRows
import GoSem.ClaimSeven
namespace Go.Proofs.YtcbgbdehahcbbaaDoor
namespace Rows

/-- THE TIED CARD OF 'hallmootlaw07.CoinPlays'. -/
def coinPlaysCard : Claim7 := { stood := { row := coinPlaysRow, standIns := [], harness := (true, "d25845b269b8b9924cdc05e732f9aeeacf4aa5c84281840231bd528f9a838232"), looks := false }, kinds := [], alts := [], laidByText := true, laidKinds := [.data], laidTests := true, laidLooks := .later }
def CoinPlaysCardSaid : Prop := Claim7.holds Tryd.pinned (.plain (OpenSpec.ofChange coinPlaysSpec)) coinPlaysCard

/-- THE TIED CARD OF 'hallmootlaw07.CoinOne'. -/
def coinOneCard : Claim7 := { stood := { row := coinOneRow, standIns := [], harness := (true, "d25845b269b8b9924cdc05e732f9aeeacf4aa5c84281840231bd528f9a838232"), looks := false }, kinds := [], alts := [], laidByText := true, laidKinds := [.data], laidTests := true, laidLooks := .later }
def CoinOneCardSaid : Prop := Claim7.holds Tryd.pinned (.plain (OpenSpec.ofChange coinOneSpec)) coinOneCard

/-- THE TIED CARD OF 'hallmootlaw07.CoinNil'. -/
def coinNilCard : Claim7 := { stood := { row := coinNilRow, standIns := [], harness := (true, "d25845b269b8b9924cdc05e732f9aeeacf4aa5c84281840231bd528f9a838232"), looks := false }, kinds := [], alts := [], laidByText := true, laidKinds := [.data], laidTests := true, laidLooks := .later }
def CoinNilCardSaid : Prop := Claim7.holds Tryd.pinned (.plain (OpenSpec.ofChange coinNilSpec)) coinNilCard

/-- THE SECOND FORM's CARD OF 'hallmootlaw07.CoinPlays'. -/
def coinPlaysUptoCard : Claim7 := { stood := { row := coinPlaysUptoRow, standIns := [], harness := (true, "d25845b269b8b9924cdc05e732f9aeeacf4aa5c84281840231bd528f9a838232"), looks := false }, kinds := [], alts := [], laidByText := true, laidKinds := [.data], laidTests := true, laidLooks := .later }
def CoinPlaysUptoCardSaid : Prop := Claim7.holds Tryd.pinned (.plain (OpenSpec.upto coinPlaysSpec)) coinPlaysUptoCard

/-- THE SECOND FORM's CARD OF 'hallmootlaw07.CoinOne'. -/
def coinOneUptoCard : Claim7 := { stood := { row := coinOneUptoRow, standIns := [], harness := (true, "d25845b269b8b9924cdc05e732f9aeeacf4aa5c84281840231bd528f9a838232"), looks := false }, kinds := [], alts := [], laidByText := true, laidKinds := [.data], laidTests := true, laidLooks := .later }
def CoinOneUptoCardSaid : Prop := Claim7.holds Tryd.pinned (.plain (OpenSpec.upto coinOneSpec)) coinOneUptoCard

/-- THE SECOND FORM's CARD OF 'hallmootlaw07.CoinNil'. -/
def coinNilUptoCard : Claim7 := { stood := { row := coinNilUptoRow, standIns := [], harness := (true, "d25845b269b8b9924cdc05e732f9aeeacf4aa5c84281840231bd528f9a838232"), looks := false }, kinds := [], alts := [], laidByText := true, laidKinds := [.data], laidTests := true, laidLooks := .later }
def CoinNilUptoCardSaid : Prop := Claim7.holds Tryd.pinned (.plain (OpenSpec.upto coinNilSpec)) coinNilUptoCard
end Rows
end Go.Proofs.YtcbgbdehahcbbaaDoor
