/-
  DERIVED. GIVEN WITH THE SEED: THE CARDS: each row of YtnpfcaecaflfbaaDoorRows.lean that lists a variable, with what it lists TIED to the program's text (the seventh form; the later family's looks); each row that meets fmt, with fmt's text TOLD by the authors' own Lean function (tested against real Go, not proved from fmt's source: count such statements apart). THE CARD IS WHAT COUNTS. Prove the row's statement (the work); the ties are given (YtnpfcaecaflfbaaDoorTie.lean); close each card by the builder's one call (the guide's Derived/Test/ToyasCard.lean, 'card_holds'). Laid BY PROGRAM, IN A SANDBOX (cutbox-door.mjs). By AI agents, Wed Nov 11 2026. No macro, syntax, notation, axiom, sorry.
-/
import Derived.Test.YtnpfcaecaflfbaaDoorRows
import GoSem.ClaimSeven
namespace Go.Proofs.YtnpfcaecaflfbaaDoor
namespace Rows

/-- THE TIED CARD OF 'hallmootlaw06.SignKeeps'. -/
def signKeepsCard : Claim7 := { stood := { row := signKeepsRow, standIns := [], harness := (true, "ea82103bd4f039685425a6885866ce4cd769803ee69860d8a1ebfe73fbf5a892"), looks := false }, kinds := [], alts := [], laidByText := true, laidKinds := [.data], laidTests := true, laidLooks := .later }
def SignKeepsCardSaid : Prop := Claim7.holds Tryd.pinned (.plain (OpenSpec.ofChange signKeepsSpec)) signKeepsCard

/-- THE TIED CARD OF 'hallmootlaw06.SignPlays'. -/
def signPlaysCard : Claim7 := { stood := { row := signPlaysRow, standIns := [], harness := (true, "ea82103bd4f039685425a6885866ce4cd769803ee69860d8a1ebfe73fbf5a892"), looks := false }, kinds := [], alts := [], laidByText := true, laidKinds := [.data], laidTests := true, laidLooks := .later }
def SignPlaysCardSaid : Prop := Claim7.holds Tryd.pinned (.plain (OpenSpec.ofChange signPlaysSpec)) signPlaysCard

/-- THE TIED CARD OF 'hallmootlaw06.SignNil'. -/
def signNilCard : Claim7 := { stood := { row := signNilRow, standIns := [], harness := (true, "ea82103bd4f039685425a6885866ce4cd769803ee69860d8a1ebfe73fbf5a892"), looks := false }, kinds := [], alts := [], laidByText := true, laidKinds := [.data], laidTests := true, laidLooks := .later }
def SignNilCardSaid : Prop := Claim7.holds Tryd.pinned (.plain (OpenSpec.ofChange signNilSpec)) signNilCard

/-- THE SECOND FORM's CARD OF 'hallmootlaw06.SignKeeps'. -/
def signKeepsUptoCard : Claim7 := { stood := { row := signKeepsUptoRow, standIns := [], harness := (true, "ea82103bd4f039685425a6885866ce4cd769803ee69860d8a1ebfe73fbf5a892"), looks := false }, kinds := [], alts := [], laidByText := true, laidKinds := [.data], laidTests := true, laidLooks := .later }
def SignKeepsUptoCardSaid : Prop := Claim7.holds Tryd.pinned (.plain (OpenSpec.upto signKeepsSpec)) signKeepsUptoCard

/-- THE SECOND FORM's CARD OF 'hallmootlaw06.SignPlays'. -/
def signPlaysUptoCard : Claim7 := { stood := { row := signPlaysUptoRow, standIns := [], harness := (true, "ea82103bd4f039685425a6885866ce4cd769803ee69860d8a1ebfe73fbf5a892"), looks := false }, kinds := [], alts := [], laidByText := true, laidKinds := [.data], laidTests := true, laidLooks := .later }
def SignPlaysUptoCardSaid : Prop := Claim7.holds Tryd.pinned (.plain (OpenSpec.upto signPlaysSpec)) signPlaysUptoCard

/-- THE SECOND FORM's CARD OF 'hallmootlaw06.SignNil'. -/
def signNilUptoCard : Claim7 := { stood := { row := signNilUptoRow, standIns := [], harness := (true, "ea82103bd4f039685425a6885866ce4cd769803ee69860d8a1ebfe73fbf5a892"), looks := false }, kinds := [], alts := [], laidByText := true, laidKinds := [.data], laidTests := true, laidLooks := .later }
def SignNilUptoCardSaid : Prop := Claim7.holds Tryd.pinned (.plain (OpenSpec.upto signNilSpec)) signNilUptoCard
end Rows
end Go.Proofs.YtnpfcaecaflfbaaDoor
