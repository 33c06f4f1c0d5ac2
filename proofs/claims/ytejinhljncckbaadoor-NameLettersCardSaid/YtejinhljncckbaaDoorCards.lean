/-
  DERIVED. GIVEN WITH THE SEED: THE CARDS: each row of YtejinhljncckbaaDoorRows.lean that lists a variable, with what it lists TIED to the program's text (the seventh form; the later family's looks); each row that meets fmt, with fmt's text TOLD by the authors' own Lean function (tested against real Go, not proved from fmt's source: count such statements apart). THE CARD IS WHAT COUNTS. Prove the row's statement (the work); the ties are given (YtejinhljncckbaaDoorTie.lean); close each card by the builder's one call (the guide's Derived/Test/ToyasCard.lean, 'card_holds'). Laid BY PROGRAM, IN A SANDBOX (cutbox-door.mjs). By AI agents, Wed Nov 11 2026. No macro, syntax, notation, axiom, sorry.
-/
import Derived.Test.YtejinhljncckbaaDoorRows
import GoSem.ClaimSeven
namespace Go.Proofs.YtejinhljncckbaaDoor
namespace Rows

/-- THE TIED CARD OF 'hallmootlaw02.NameLetters'. -/
def nameLettersCard : Claim7 := { stood := { row := nameLettersRow, standIns := [], harness := (true, "17d53cb98017115c06f68e9d6a005a4b3ec97158bb730760e1a78707a89a82d2"), looks := false }, kinds := [], alts := [], laidByText := true, laidKinds := [.data, .pinned], laidTests := true, laidLooks := .later }
def NameLettersCardSaid : Prop := Claim7.holds Tryd.pinned (.plain (OpenSpec.ofChange nameLettersSpec)) nameLettersCard

/-- THE TIED CARD OF 'hallmootlaw02.NameCuts'. -/
def nameCutsCard : Claim7 := { stood := { row := nameCutsRow, standIns := [], harness := (true, "17d53cb98017115c06f68e9d6a005a4b3ec97158bb730760e1a78707a89a82d2"), looks := false }, kinds := [], alts := [], laidByText := true, laidKinds := [.data, .pinned], laidTests := true, laidLooks := .later }
def NameCutsCardSaid : Prop := Claim7.holds Tryd.pinned (.plain (OpenSpec.ofChange nameCutsSpec)) nameCutsCard

/-- THE TIED CARD OF 'hallmootlaw02.NameChecks'. -/
def nameChecksCard : Claim7 := { stood := { row := nameChecksRow, standIns := [], harness := (true, "17d53cb98017115c06f68e9d6a005a4b3ec97158bb730760e1a78707a89a82d2"), looks := false }, kinds := [], alts := [], laidByText := true, laidKinds := [.data, .pinned], laidTests := true, laidLooks := .later }
def NameChecksCardSaid : Prop := Claim7.holds Tryd.pinned (.plain (OpenSpec.ofChange nameChecksSpec)) nameChecksCard

/-- THE TIED CARD OF 'hallmootlaw02.NameOrder'. -/
def nameOrderCard : Claim7 := { stood := { row := nameOrderRow, standIns := [], harness := (true, "17d53cb98017115c06f68e9d6a005a4b3ec97158bb730760e1a78707a89a82d2"), looks := false }, kinds := [], alts := [], laidByText := true, laidKinds := [.data, .pinned], laidTests := true, laidLooks := .later }
def NameOrderCardSaid : Prop := Claim7.holds Tryd.pinned (.plain (OpenSpec.ofChange nameOrderSpec)) nameOrderCard

/-- THE TIED CARD OF 'hallmootlaw02.NameBack'. -/
def nameBackCard : Claim7 := { stood := { row := nameBackRow, standIns := [], harness := (true, "17d53cb98017115c06f68e9d6a005a4b3ec97158bb730760e1a78707a89a82d2"), looks := false }, kinds := [], alts := [], laidByText := true, laidKinds := [.data, .pinned], laidTests := true, laidLooks := .later }
def NameBackCardSaid : Prop := Claim7.holds Tryd.pinned (.plain (OpenSpec.ofChange nameBackSpec)) nameBackCard

/-- THE SECOND FORM's CARD OF 'hallmootlaw02.NameLetters'. -/
def nameLettersUptoCard : Claim7 := { stood := { row := nameLettersUptoRow, standIns := [], harness := (true, "17d53cb98017115c06f68e9d6a005a4b3ec97158bb730760e1a78707a89a82d2"), looks := false }, kinds := [], alts := [], laidByText := true, laidKinds := [.data, .pinned], laidTests := true, laidLooks := .later }
def NameLettersUptoCardSaid : Prop := Claim7.holds Tryd.pinned (.plain (OpenSpec.upto nameLettersSpec)) nameLettersUptoCard

/-- THE SECOND FORM's CARD OF 'hallmootlaw02.NameCuts'. -/
def nameCutsUptoCard : Claim7 := { stood := { row := nameCutsUptoRow, standIns := [], harness := (true, "17d53cb98017115c06f68e9d6a005a4b3ec97158bb730760e1a78707a89a82d2"), looks := false }, kinds := [], alts := [], laidByText := true, laidKinds := [.data, .pinned], laidTests := true, laidLooks := .later }
def NameCutsUptoCardSaid : Prop := Claim7.holds Tryd.pinned (.plain (OpenSpec.upto nameCutsSpec)) nameCutsUptoCard

/-- THE SECOND FORM's CARD OF 'hallmootlaw02.NameChecks'. -/
def nameChecksUptoCard : Claim7 := { stood := { row := nameChecksUptoRow, standIns := [], harness := (true, "17d53cb98017115c06f68e9d6a005a4b3ec97158bb730760e1a78707a89a82d2"), looks := false }, kinds := [], alts := [], laidByText := true, laidKinds := [.data, .pinned], laidTests := true, laidLooks := .later }
def NameChecksUptoCardSaid : Prop := Claim7.holds Tryd.pinned (.plain (OpenSpec.upto nameChecksSpec)) nameChecksUptoCard

/-- THE SECOND FORM's CARD OF 'hallmootlaw02.NameOrder'. -/
def nameOrderUptoCard : Claim7 := { stood := { row := nameOrderUptoRow, standIns := [], harness := (true, "17d53cb98017115c06f68e9d6a005a4b3ec97158bb730760e1a78707a89a82d2"), looks := false }, kinds := [], alts := [], laidByText := true, laidKinds := [.data, .pinned], laidTests := true, laidLooks := .later }
def NameOrderUptoCardSaid : Prop := Claim7.holds Tryd.pinned (.plain (OpenSpec.upto nameOrderSpec)) nameOrderUptoCard

/-- THE SECOND FORM's CARD OF 'hallmootlaw02.NameBack'. -/
def nameBackUptoCard : Claim7 := { stood := { row := nameBackUptoRow, standIns := [], harness := (true, "17d53cb98017115c06f68e9d6a005a4b3ec97158bb730760e1a78707a89a82d2"), looks := false }, kinds := [], alts := [], laidByText := true, laidKinds := [.data, .pinned], laidTests := true, laidLooks := .later }
def NameBackUptoCardSaid : Prop := Claim7.holds Tryd.pinned (.plain (OpenSpec.upto nameBackSpec)) nameBackUptoCard
end Rows
end Go.Proofs.YtejinhljncckbaaDoor
