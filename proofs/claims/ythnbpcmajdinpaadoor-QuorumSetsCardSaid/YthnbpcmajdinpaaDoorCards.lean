/-
  DERIVED. GIVEN WITH THE SEED: THE CARDS: each row of YthnbpcmajdinpaaDoorRows.lean that lists a variable, with what it lists TIED to the program's text (the seventh form; the later family's looks); each row that meets fmt, with fmt's text TOLD by the authors' own Lean function (tested against real Go, not proved from fmt's source: count such statements apart). THE CARD IS WHAT COUNTS. Prove the row's statement (the work); the ties are given (YthnbpcmajdinpaaDoorTie.lean); close each card by the builder's one call (the guide's Derived/Test/ToyasCard.lean, 'card_holds'). Laid BY PROGRAM, IN A SANDBOX (cutbox-door.mjs). By AI agents, Wed Nov 11 2026. No macro, syntax, notation, axiom, sorry.
-/
import Derived.Test.YthnbpcmajdinpaaDoorRows
import GoSem.ClaimSeven
namespace Go.Proofs.YthnbpcmajdinpaaDoor
namespace Rows

/-- THE TIED CARD OF 'hallmootlaw04.QuorumMeets'. -/
def quorumMeetsCard : Claim7 := { stood := { row := quorumMeetsRow, standIns := [], harness := (true, "f3cabd93b85af75e25e0fb068cdc1ccdd91d5f4e3bd4933db34b25aa0224c07d"), looks := false }, kinds := [], alts := [], laidByText := true, laidKinds := [.data], laidTests := true, laidLooks := .later }
def QuorumMeetsCardSaid : Prop := Claim7.holds Tryd.pinned (.plain (OpenSpec.ofChange quorumMeetsSpec)) quorumMeetsCard

/-- THE TIED CARD OF 'hallmootlaw04.QuorumCounts'. -/
def quorumCountsCard : Claim7 := { stood := { row := quorumCountsRow, standIns := [], harness := (true, "f3cabd93b85af75e25e0fb068cdc1ccdd91d5f4e3bd4933db34b25aa0224c07d"), looks := false }, kinds := [], alts := [], laidByText := true, laidKinds := [.data], laidTests := true, laidLooks := .later }
def QuorumCountsCardSaid : Prop := Claim7.holds Tryd.pinned (.plain (OpenSpec.ofChange quorumCountsSpec)) quorumCountsCard

/-- THE TIED CARD OF 'hallmootlaw04.QuorumLists'. -/
def quorumListsCard : Claim7 := { stood := { row := quorumListsRow, standIns := [], harness := (true, "f3cabd93b85af75e25e0fb068cdc1ccdd91d5f4e3bd4933db34b25aa0224c07d"), looks := false }, kinds := [], alts := [], laidByText := true, laidKinds := [.data], laidTests := true, laidLooks := .later }
def QuorumListsCardSaid : Prop := Claim7.holds Tryd.pinned (.plain (OpenSpec.ofChange quorumListsSpec)) quorumListsCard

/-- THE TIED CARD OF 'hallmootlaw04.QuorumSets'. -/
def quorumSetsCard : Claim7 := { stood := { row := quorumSetsRow, standIns := [], harness := (true, "f3cabd93b85af75e25e0fb068cdc1ccdd91d5f4e3bd4933db34b25aa0224c07d"), looks := false }, kinds := [], alts := [], laidByText := true, laidKinds := [.data], laidTests := true, laidLooks := .later }
def QuorumSetsCardSaid : Prop := Claim7.holds Tryd.pinned (.plain (OpenSpec.ofChange quorumSetsSpec)) quorumSetsCard

/-- THE SECOND FORM's CARD OF 'hallmootlaw04.QuorumMeets'. -/
def quorumMeetsUptoCard : Claim7 := { stood := { row := quorumMeetsUptoRow, standIns := [], harness := (true, "f3cabd93b85af75e25e0fb068cdc1ccdd91d5f4e3bd4933db34b25aa0224c07d"), looks := false }, kinds := [], alts := [], laidByText := true, laidKinds := [.data], laidTests := true, laidLooks := .later }
def QuorumMeetsUptoCardSaid : Prop := Claim7.holds Tryd.pinned (.plain (OpenSpec.upto quorumMeetsSpec)) quorumMeetsUptoCard

/-- THE SECOND FORM's CARD OF 'hallmootlaw04.QuorumCounts'. -/
def quorumCountsUptoCard : Claim7 := { stood := { row := quorumCountsUptoRow, standIns := [], harness := (true, "f3cabd93b85af75e25e0fb068cdc1ccdd91d5f4e3bd4933db34b25aa0224c07d"), looks := false }, kinds := [], alts := [], laidByText := true, laidKinds := [.data], laidTests := true, laidLooks := .later }
def QuorumCountsUptoCardSaid : Prop := Claim7.holds Tryd.pinned (.plain (OpenSpec.upto quorumCountsSpec)) quorumCountsUptoCard

/-- THE SECOND FORM's CARD OF 'hallmootlaw04.QuorumLists'. -/
def quorumListsUptoCard : Claim7 := { stood := { row := quorumListsUptoRow, standIns := [], harness := (true, "f3cabd93b85af75e25e0fb068cdc1ccdd91d5f4e3bd4933db34b25aa0224c07d"), looks := false }, kinds := [], alts := [], laidByText := true, laidKinds := [.data], laidTests := true, laidLooks := .later }
def QuorumListsUptoCardSaid : Prop := Claim7.holds Tryd.pinned (.plain (OpenSpec.upto quorumListsSpec)) quorumListsUptoCard

/-- THE SECOND FORM's CARD OF 'hallmootlaw04.QuorumSets'. -/
def quorumSetsUptoCard : Claim7 := { stood := { row := quorumSetsUptoRow, standIns := [], harness := (true, "f3cabd93b85af75e25e0fb068cdc1ccdd91d5f4e3bd4933db34b25aa0224c07d"), looks := false }, kinds := [], alts := [], laidByText := true, laidKinds := [.data], laidTests := true, laidLooks := .later }
def QuorumSetsUptoCardSaid : Prop := Claim7.holds Tryd.pinned (.plain (OpenSpec.upto quorumSetsSpec)) quorumSetsUptoCard
end Rows
end Go.Proofs.YthnbpcmajdinpaaDoor
