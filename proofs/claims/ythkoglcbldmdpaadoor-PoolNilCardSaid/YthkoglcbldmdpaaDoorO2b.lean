/- The tables that the rows of chapter 10 name: what the rows' condition gives. -/
import Derived.Test.YthkoglcbldmdpaaDoorEngAC
import Derived.Test.YthkoglcbldmdpaaDoorRows
import Derived.Test.YthkoglcbldmdpaaDoorTie
import Derived.Test.YthkoglcbldmdpaaDoorCards
import Derived.ProofKit
import Derived.LaidMore
import Derived.OpenShut
import Derived.Stop.Joined
import Derived.SevenTiedAt
namespace Go.Proofs.YthkoglcbldmdpaaDoor
open Go Go.ChangeShapes Go.WideShapes Go.ChangeAt Go.WideMaps Go.WideElems Go.RowKit Go.Eng
set_option linter.unusedSimpArgs false
set_option linter.unusedVariables false
theorem own : ownKnob Tryd.prog.godebug = none := by kernel_rfl
abbrev laidL : List (String × DataW Unit) := [("unicode/utf8.acceptRanges", Rows.laid_unicode_utf8_acceptRanges), ("unicode/utf8.first", Rows.laid_unicode_utf8_first)]
end Go.Proofs.YthkoglcbldmdpaaDoor
