/- PoolNil holds at every input: the tables unicode/utf8.first and unicode/utf8.acceptRanges as the program lays them (tied). -/
import Derived.Test.YthkoglcbldmdpaaDoorO2
import Derived.Test.YthkoglcbldmdpaaDoorO2b
import Derived.ProofKit
import Derived.LaidMore
import Derived.OpenShut
import Derived.Stop.Joined
import Derived.SevenTiedAt
import Derived.Lay
namespace Go.Proofs.YthkoglcbldmdpaaDoor
open Go Go.ChangeShapes Go.WideShapes Go.ChangeAt Go.WideMaps Go.WideElems Go.RowKit Go.Eng Go.Eng.Po
set_option linter.unusedSimpArgs false
set_option linter.unusedVariables false

set_option maxRecDepth 100000 in
theorem poolNil_lifted (os : Os) (started : os.Started) (H : Type) (enc : TypeId × Value → H) :
    ReturnsInHanded {} Tryd.checked os 5 .any (fun w args => (Rows.poolNilSpec.pre enc Tryd.prog Tryd.f5 [] false w args ∧ laidMetH Tryd.prog laidL w) ∧ sizedMet enc Tryd.prog Tryd.f5 (OpenSpec.ofChange Rows.poolNilSpec) false w args)
      (Rows.poolNilSpec.post enc Tryd.prog Tryd.f5 false true false false) := by
  refine returnsInHanded_of_change_and (C := Tryd.checked) (X := fun w _ => laidMetH Tryd.prog laidL w) (fun _ _ _ hh h => h.of_heap hh) own started (by kernel_rfl) Tryd.func5
    (ChangeSpec.witness_shaped (enc := enc) (C := Tryd.checked) (os := os) (X := fun w _ => laidMetH Tryd.prog laidL w) false (World.laidAll Tryd.prog os laidL) #[.agg #[.int .i64 0, .string ⟨#[]⟩, .string ⟨#[]⟩, .string ⟨#[]⟩, .string ⟨#[]⟩, .int .i64 0, .int .i64 0], .int .i64 0] 8 (World.laidAll_os _ _ _) (World.shaped_of_ZipB (by kernel_rfl) (by kernel_rfl)) (by kernel_rfl) (by kernel_rfl) (by kernel_rfl)
      (by rw [MakeChecks.laidMetH_plain _ _ _ (by kernel_rfl)]; exact laidMet_laidAll _ (by kernel_rfl) (by kernel_rfl))) ?_
  intro W base args ds gs before hval0 hW _ _ hL _
  have hval : ∀ (j : Nat) t v, Tryd.f5.params[j]? = some t → args[j]? = some v → Value.okWide Tryd.prog W .any base t v := hval0
  have hW' := hW
  obtain ⟨p, q, hA0, hV, rfl, hfz, hnd⟩ := hW
  have hA : DataW.TrodAll enc Tryd.prog W 0 (fun _ => true) true Tryd.f5.params.toList args.toList ds p := hA0
  rw [Tryd.params5] at hA hval
  obtain ⟨v0, v1, d0, d1, p0, p1, rfl, rfl, rfl, h0, h1⟩ := trodAll_two hA
  obtain ⟨rfl, rfl⟩ := trodVars_none hV
  obtain ⟨l0, rfl, g0_0⟩ := open_agg 9 (ks := [.int .i64, .str, .str, .str, .str, .int .i64, .int .i64]) Tryd.underlying31 (by kernel_rfl) (hval 0 31 v0 rfl rfl) h0
  obtain ⟨_, _, rfl, ⟨m0_0, rfl, w0_0⟩, g0_1⟩ := g0_0.cons
  obtain ⟨_, _, rfl, ⟨m0_1, rfl, w0_1⟩, g0_2⟩ := g0_1.cons
  obtain ⟨_, _, rfl, ⟨m0_2, rfl, w0_2⟩, g0_3⟩ := g0_2.cons
  obtain ⟨_, _, rfl, ⟨m0_3, rfl, w0_3⟩, g0_4⟩ := g0_3.cons
  obtain ⟨_, _, rfl, ⟨m0_4, rfl, w0_4⟩, g0_5⟩ := g0_4.cons
  obtain ⟨_, _, rfl, ⟨m0_5, rfl, w0_5⟩, g0_6⟩ := g0_5.cons
  obtain ⟨_, _, rfl, ⟨m0_6, rfl, w0_6⟩, g0_7⟩ := g0_6.cons
  obtain rfl := g0_7.nil
  obtain ⟨n1, rfl, rfl, rfl, w1⟩ := open_int Tryd.underlying3 (hval 1 3 v1 rfl rfl) h1
  refine (calls_true c5 (xs := [.agg [.v (.int .i64 m0_0), .v (.string m0_1), .v (.string m0_2), .v (.string m0_3), .v (.string m0_4), .v (.int .i64 m0_5), .v (.int .i64 m0_6)], .v (.int .i64 n1)]) (law_in (A := A5) (pre := fun _ => True) (x := ⟨m0_0, m0_1, m0_2, m0_3, m0_4, m0_5, m0_6, n1⟩) trivial (.refl _)) (fun _ => .any _) (.one (V_agg (.one (V_v _) (.one (V_v _) (.one (V_v _) (.one (V_v _) (.one (V_v _) (.one (V_v _) (.one (V_v _) (.none))))))))) (.one (V_v _) .none))).mono fun e W' ⟨he, ho⟩ => ?_
  subst he
  exact ⟨_, rfl, post_true (tb := 4) (by kernel_rfl) (by kernel_rfl) (by kernel_rfl) (by kernel_rfl) (by kernel_rfl) Tryd.underlying4 hW' rfl rfl ho⟩

theorem poolNil_holds : Rows.PoolNilSaid :=
  OpenClaim.holds_of_wide 5 Tryd.f5 rfl rfl rfl rfl rfl rfl rfl ⟨rfl, rfl, rfl, rfl, rfl⟩ rfl rfl rfl rfl rfl (by kernel_rfl) Tryd.func5 (by kernel_rfl)
    (of_decide_eq_true (by kernel_rfl)) (by unfold Func.isWrapper; first | (rw [if_pos (by decide +kernel)]; kernel_rfl) | (rw [if_neg (by decide +kernel)]; exact ⟨rfl, rfl⟩))
    (fun os started H enc _ => poolNil_lifted os started H enc)
theorem poolNil_card : Rows.PoolNilCardSaid :=
  Claim7.holds_tied_plain_at .later [] [.data, .pinned] true (true, "0a707636a645e9377193d752e45053dfcf1897660bc7df088c388b5521da3b6f") false
    poolNil_holds (fun _ h => by cases h) (by kernel_rfl) (fun _ h => by cases h) poolNil_row_tie rfl ⟨rfl, rfl⟩ (by kernel_rfl) rfl
    (fun f fn hf hfn => by
      obtain rfl : f = 5 := Option.some.inj ((show Tryd.prog.funcNamed "hallmoot/hallmootlaw10.PoolNil" = some 5 by kernel_rfl).symm.trans hf) |>.symm
      obtain rfl : fn = Tryd.f5 := (Option.some.inj (Tryd.func5.symm.trans hfn)).symm
      exact ⟨by kernel_rfl, fun j t ht => by
        rw [Tryd.params5] at ht
        have hm : t ∈ [31, 3] := by simpa using Array.mem_of_getElem? ht
        have hall : ([31, 3].all fun u => !Tryd.prog.wantsStandIn u) = true := by kernel_rfl
        exact (show Tryd.prog.wantsStandIn t = false by simpa using List.all_eq_true.1 hall t hm)⟩)
    (by kernel_rfl)
#print axioms poolNil_card
end Go.Proofs.YthkoglcbldmdpaaDoor
