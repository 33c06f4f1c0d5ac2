/- The program's one table: what the rows' condition gives. -/
import Derived.Test.YtnpfcaecaflfbaaDoorS1
import Derived.Test.YtnpfcaecaflfbaaDoorRows
import Derived.Test.YtnpfcaecaflfbaaDoorTie
import Derived.Test.YtnpfcaecaflfbaaDoorCards
import Derived.ProofKit
import Derived.LaidMore
import Derived.OpenShut
import Derived.Stop.Joined
import Derived.SevenTiedAt
namespace Go.Proofs.YtnpfcaecaflfbaaDoor
open Go Go.ChangeShapes Go.WideShapes Go.ChangeAt Go.WideMaps Go.WideElems Go.RowKit Go.Eng Go.Eng.M Go.Eng.Si
set_option linter.unusedSimpArgs false
set_option linter.unusedVariables false

theorem own : ownKnob Tryd.prog.godebug = none := by kernel_rfl
theorem gTab : Tryd.prog.globalNamed "math/bits.deBruijn32tab" = some 0 := by kernel_rfl
theorem tTab : (Tryd.prog.globals[0]?).map (·.type) = some 70 := by kernel_rfl
abbrev laidL : List (String × DataW Unit) := [("math/bits.deBruijn32tab", Lib.tabData .u8 deb)]
theorem door_met (os : Os) (args : Array Value) : laidMetH Tryd.prog laidL ((World.doorLaid Tryd.prog 400 os).forCall (fun _ _ => 0) ⟨#[], args, []⟩).memory :=
  laidMetH_of_parts3 (fuel := 8) (laidMet_of_run' 8 (by kernel_rfl) (by kernel_rfl)) (by kernel_rfl) (by kernel_rfl)
theorem globals_ok {W : World} (h : laidMetH Tryd.prog laidL W) : Globals Γs (σof W) := by
  rw [MakeChecks.laidMetH_plain _ _ _ (by kernel_rfl)] at h
  have hT := Lib.tabIs_of_head gTab tTab Tryd.underlying70 Tryd.underlying5 (by kernel_rfl) (by kernel_rfl) h
  intro g
  unfold Γs
  split
  · rename_i hg
    obtain rfl := Nat.eq_of_beq_eq_true hg
    refine .pa 1 32 _ ⟨0, 0, none⟩ (fun e j => .int .u8 (deb.getD e 0)) rfl (fun _ => rfl) (fun e j c he hc => ?_) (fun e j c he hc => ?_)
    · cases j with
      | zero => simpa using σof_of (hT.cell gTab e (by simpa [deb] using he))
      | succ j => simp at hc
    · cases j with
      | zero => simp at hc; subst hc; exact .v _
      | succ j => simp at hc
  · exact .any _
end Go.Proofs.YtnpfcaecaflfbaaDoor
