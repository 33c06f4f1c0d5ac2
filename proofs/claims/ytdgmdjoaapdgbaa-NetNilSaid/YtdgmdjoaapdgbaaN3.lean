/- NetNil holds at every input: no condition beyond the row own cells. -/
import Derived.Test.YtdgmdjoaapdgbaaN2
import Derived.Test.YtdgmdjoaapdgbaaRows
import Derived.ProofKit
import Derived.LaidMore
import Derived.OpenShut
import Derived.Stop.Joined
namespace Go.Proofs.Ytdgmdjoaapdgbaa
open Go Go.ChangeShapes Go.WideShapes Go.ChangeAt Go.WideMaps Go.WideElems Go.RowKit Go.Eng Go.Eng.N
set_option linter.unusedSimpArgs false
set_option linter.unusedVariables false

theorem own0 : ownKnob Try.prog.godebug = none := by kernel_rfl
set_option maxRecDepth 100000 in
theorem netNil_lifted (os : Os) (started : os.Started) (H : Type) (enc : TypeId × Value → H) :
    ReturnsInHanded {} Try.checked os 6 .any (Rows.netNilSpec.pre6 enc Try.prog Try.f6 Rows.netNilRow.domain false)
      (Rows.netNilSpec.post enc Try.prog Try.f6 false true false false) := by
  refine returnsInHanded_of_change (C := Try.checked) own0 started (by kernel_rfl) Try.func6
    (ChangeSpec.witness6 (enc := enc) (C := Try.checked) false ⟨#[], #[.int .i64 1, .agg #[.int .i64 0, .int .i64 0, .string ⟨#[]⟩]], []⟩ 8 (by kernel_rfl) (by kernel_rfl) (by kernel_rfl) (by kernel_rfl)) ?_
  intro W base args ds gs before hval0 hW hcnd _
  have hval : ∀ (j : Nat) t v, Try.f6.params[j]? = some t → args[j]? = some v → Value.okWide Try.prog W .any base t v := hval0
  have hW' := hW
  obtain ⟨p, q, hA0, hV, rfl, hfz, hnd⟩ := hW
  have hA : DataW.TrodAll enc Try.prog W 0 (fun _ => true) true Try.f6.params.toList args.toList ds p := hA0
  rw [Try.params6] at hA hval
  obtain ⟨v0, v1, d0, d1, p0, p1, rfl, rfl, rfl, h0, h1⟩ := trodAll_two hA
  obtain ⟨rfl, rfl⟩ := trodVars_none hV
  obtain ⟨n0, rfl, rfl, rfl, w0⟩ := open_int Try.underlying3 (hval 0 3 v0 rfl rfl) h0
  obtain ⟨l1, rfl, g1_0⟩ := open_agg 9 (ks := [.int .i64, .int .i64, .str]) Try.underlying30 (by kernel_rfl) (hval 1 30 v1 rfl rfl) h1
  obtain ⟨_, _, rfl, ⟨m1_0, rfl, w1_0⟩, g1_1⟩ := g1_0.cons
  obtain ⟨_, _, rfl, ⟨m1_1, rfl, w1_1⟩, g1_2⟩ := g1_1.cons
  obtain ⟨_, _, rfl, ⟨m1_2, rfl, w1_2⟩, g1_3⟩ := g1_2.cons
  obtain rfl := g1_3.nil
  refine (calls_true c6 (xs := [.v (.int .i64 n0), .agg [.v (.int .i64 m1_0), .v (.int .i64 m1_1), .v (.string m1_2)]]) (law_in (A := A6) (pre := fun _ => True) (x := (n0, m1_0, m1_1, m1_2)) trivial (.refl _)) (fun _ => .any _) (.one (V_v _) (.one (V_agg (.one (V_v _) (.one (V_v _) (.one (V_v _) (.none))))) .none))).mono fun e W' ⟨he, ho⟩ => ?_
  subst he
  exact ⟨_, rfl, post_true (tb := 4) (by kernel_rfl) (by kernel_rfl) (by kernel_rfl) (by kernel_rfl) (by kernel_rfl) Try.underlying4 hW' rfl rfl ho⟩

theorem netNil_holds : Rows.NetNilSaid :=
  OpenClaim.holds_of_wide 6 Try.f6 rfl rfl rfl rfl rfl rfl rfl ⟨rfl, rfl, rfl, rfl, rfl⟩ rfl rfl rfl rfl rfl (by kernel_rfl) Try.func6 (by kernel_rfl)
    (of_decide_eq_true (by kernel_rfl)) (by unfold Func.isWrapper; first | (rw [if_pos (by decide +kernel)]; kernel_rfl) | (rw [if_neg (by decide +kernel)]; exact ⟨rfl, rfl⟩))
    (fun os started H enc _ => netNil_lifted os started H enc)
#print axioms netNil_holds
end Go.Proofs.Ytdgmdjoaapdgbaa
