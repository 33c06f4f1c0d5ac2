/-
  No cell of these rows narrows 'for every input' (looked for: loops, veiled, ifaces, maps, wideKeys, modest, calm, conditions, laid).
  DERIVED. THE GIVEN ROWS OF THIS SEAT. 3 by the template 'for every input the law returns true; each argument reads behind the call as it read before'; 0 by the template 'total and deterministic' (their statements: YtepeeokpkefgmaaTotals.lean).
  GIVEN WITH THE SEED: the statements are not yours to turn. If you find one false, say at which input.
  Laid BY PROGRAM, IN A SANDBOX (cutbox-rows.mjs): the forced cells as the released guide's own fill.sh prints them over the translation 287e36d6fce7bc2e… (all of the seat's roots in one cut). By AI agents, Wed Nov 11 2026. No macro, syntax, notation, axiom, sorry.
-/
import Derived.Test.YtepeeokpkefgmaaChecked
import GoSem.Claim
import GoSem.ClaimJoined
import GoSem.ClaimMapViews
import Derived.JoinedTies
import Derived.KernelRfl
namespace Go.Proofs.Ytepeeokpkefgmaa
/- THE CELL 'sum', in the pinned program and in every row, IS THE sha256 OF THE DUMP (.gsa) THAT YtepeeokpkefgmaaProg.lean LOADS. Nothing in Lean hashes anything: it is a label: what it is worth is what the hold of that sum in a sandbox is worth. -/
noncomputable def Try.pinned : Pinned := { name := "ytepeeokpkefgmaa", sum := "287e36d6fce7bc2efc324b978fae702f4a1db9af9f597bca93f99e430b9179ae", checked := Try.checked }
namespace Rows
def none {H : Type} : Left H := { results := [], args := [] }

/-- 'hallmootlaw11.CertStmts': WHATEVER THE INPUT: true; the input reads as it did. -/
def certStmtsSpec : ChangeSpec := { name := "certStmts", fn := fun _ => fun
  | [d1, d2] => { results := [.lit (.bool true)], args := [d1, d2] }
  | _ => none }
def certStmtsRow : OpenClaim := { program := "ytepeeokpkefgmaa", sum := "287e36d6fce7bc2efc324b978fae702f4a1db9af9f597bca93f99e430b9179ae", func := "hallmoot/hallmootlaw11.CertStmts", spec := "certStmts", apart := false }
def CertStmtsSaid : Prop := certStmtsRow.holds Try.pinned (OpenSpec.ofChange certStmtsSpec)

/-- ITS FALSE NEIGHBOUR: 'it returns false'. Refute it at one input. -/
def certStmtsWrong : ChangeSpec := { name := "certStmts", fn := fun _ => fun
  | [d1, d2] => { results := [.lit (.bool false)], args := [d1, d2] }
  | _ => none }
def CertStmtsWrongFalsely : Prop := certStmtsRow.holds Try.pinned (OpenSpec.ofChange certStmtsWrong)

/-- 'hallmootlaw11.CertForms': WHATEVER THE INPUT: true; the input reads as it did. -/
def certFormsSpec : ChangeSpec := { name := "certForms", fn := fun _ => fun
  | [d] => { results := [.lit (.bool true)], args := [d] }
  | _ => none }
def certFormsRow : OpenClaim := { program := "ytepeeokpkefgmaa", sum := "287e36d6fce7bc2efc324b978fae702f4a1db9af9f597bca93f99e430b9179ae", func := "hallmoot/hallmootlaw11.CertForms", spec := "certForms", apart := false }
def CertFormsSaid : Prop := certFormsRow.holds Try.pinned (OpenSpec.ofChange certFormsSpec)

/-- ITS FALSE NEIGHBOUR: 'it returns false'. Refute it at one input. -/
def certFormsWrong : ChangeSpec := { name := "certForms", fn := fun _ => fun
  | [d] => { results := [.lit (.bool false)], args := [d] }
  | _ => none }
def CertFormsWrongFalsely : Prop := certFormsRow.holds Try.pinned (OpenSpec.ofChange certFormsWrong)

/-- 'hallmootlaw11.CertBack': WHATEVER THE INPUT: true; the input reads as it did. -/
def certBackSpec : ChangeSpec := { name := "certBack", fn := fun _ => fun
  | [d1, d2, d3, d4] => { results := [.lit (.bool true)], args := [d1, d2, d3, d4] }
  | _ => none }
def certBackRow : OpenClaim := { program := "ytepeeokpkefgmaa", sum := "287e36d6fce7bc2efc324b978fae702f4a1db9af9f597bca93f99e430b9179ae", func := "hallmoot/hallmootlaw11.CertBack", spec := "certBack", unfollowed := true, recurses := true, apart := false }
def CertBackSaid : Prop := certBackRow.holds Try.pinned (OpenSpec.ofChange certBackSpec)

/-- ITS FALSE NEIGHBOUR: 'it returns false'. Refute it at one input. -/
def certBackWrong : ChangeSpec := { name := "certBack", fn := fun _ => fun
  | [d1, d2, d3, d4] => { results := [.lit (.bool false)], args := [d1, d2, d3, d4] }
  | _ => none }
def CertBackWrongFalsely : Prop := certBackRow.holds Try.pinned (OpenSpec.ofChange certBackWrong)

/- THE SECOND FORM. 'bulk': how many values and letters a reading holds, each counted each time it is reached (what is shared counts as often as it is met; a slice's spare places count too). A statement '..UptoSaid' is the law's where the arguments, and the package variables that the reading takes, are together of bulk at most 1048576: NARROWER than '..Said'. Prove '..Said' where nothing that the law and all that it calls make is longer than what came in: it says more and counts as full. Else prove '..UptoSaid'. A law counts once. -/
mutual
def uptoBulk {H : Type} : DataW H → Nat
  | .lit (.string bytes) => bytes.length + 1
  | .lit _ => 1
  | .nil => 1
  | .ptr d => uptoBulk d + 1
  | .slice elems spare => uptoBulkAll elems + uptoBulkAll spare + 1
  | .agg parts => uptoBulkAll parts + 1
  | .iface _ d => uptoBulk d + 1
  | .map entries => uptoBulkEntries entries + 1
  | .held _ => 1
def uptoBulkAll {H : Type} : List (DataW H) → Nat
  | [] => 0
  | d :: r => uptoBulk d + uptoBulkAll r
def uptoBulkEntries {H : Type} : List (Lit × DataW H) → Nat
  | [] => 0
  | x :: r => uptoBulkEntry x + uptoBulkEntries r
def uptoBulkEntry {H : Type} : Lit × DataW H → Nat
  | (.string bytes, d) => bytes.length + uptoBulk d + 1
  | (_, d) => uptoBulk d + 1
 end
def uptoSmall : (H : Type) → List (DataW H) → Bool := fun _ ds => decide (uptoBulkAll ds ≤ 1048576)
def OpenSpec.upto (s : _root_.Go.ChangeSpec) : _root_.Go.OpenSpec := { _root_.Go.OpenSpec.ofChange s with cond := some uptoSmall }

/-- 'hallmootlaw11.CertStmts', WHERE WHAT IT READS IS OF BULK AT MOST 1048576: true; the input reads as it did. -/
def certStmtsUptoRow : OpenClaim := { program := "ytepeeokpkefgmaa", sum := "287e36d6fce7bc2efc324b978fae702f4a1db9af9f597bca93f99e430b9179ae", func := "hallmoot/hallmootlaw11.CertStmts", spec := "certStmts", apart := false, narrowed := true }
def CertStmtsUptoSaid : Prop := certStmtsUptoRow.holds Try.pinned (OpenSpec.upto certStmtsSpec)

/-- 'hallmootlaw11.CertForms', WHERE WHAT IT READS IS OF BULK AT MOST 1048576: true; the input reads as it did. -/
def certFormsUptoRow : OpenClaim := { program := "ytepeeokpkefgmaa", sum := "287e36d6fce7bc2efc324b978fae702f4a1db9af9f597bca93f99e430b9179ae", func := "hallmoot/hallmootlaw11.CertForms", spec := "certForms", apart := false, narrowed := true }
def CertFormsUptoSaid : Prop := certFormsUptoRow.holds Try.pinned (OpenSpec.upto certFormsSpec)

/-- 'hallmootlaw11.CertBack', WHERE WHAT IT READS IS OF BULK AT MOST 1048576: true; the input reads as it did. -/
def certBackUptoRow : OpenClaim := { program := "ytepeeokpkefgmaa", sum := "287e36d6fce7bc2efc324b978fae702f4a1db9af9f597bca93f99e430b9179ae", func := "hallmoot/hallmootlaw11.CertBack", spec := "certBack", unfollowed := true, recurses := true, apart := false, narrowed := true }
def CertBackUptoSaid : Prop := certBackUptoRow.holds Try.pinned (OpenSpec.upto certBackSpec)

end Rows
end Go.Proofs.Ytepeeokpkefgmaa
