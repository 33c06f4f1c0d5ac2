/- SignNil holds at every input: the table math/bits.deBruijn32tab as the program lays it (tied). -/
import Derived.Test.YtnpfcaecaflfbaaDoorS2
import Derived.Test.YtnpfcaecaflfbaaDoorS2b
import Derived.ProofKit
import Derived.LaidMore
import Derived.OpenShut
import Derived.Stop.Joined
import Derived.SevenTiedAt
namespace Go.Proofs.YtnpfcaecaflfbaaDoor
open Go Go.ChangeShapes Go.WideShapes Go.ChangeAt Go.WideMaps Go.WideElems Go.RowKit Go.Eng Go.Eng.M Go.Eng.Si
set_option linter.unusedSimpArgs false
set_option linter.unusedVariables false

set_option maxRecDepth 100000 in
theorem signNil_lifted (os : Os) (started : os.Started) (H : Type) (enc : TypeId × Value → H) :
    ReturnsInHanded {} Tryd.checked os 5 .any (fun w args => (Rows.signNilSpec.pre enc Tryd.prog Tryd.f5 [] false w args ∧ laidMetH Tryd.prog laidL w) ∧ sizedMet enc Tryd.prog Tryd.f5 (OpenSpec.ofChange Rows.signNilSpec) false w args)
      (Rows.signNilSpec.post enc Tryd.prog Tryd.f5 false true false false) := by
  refine returnsInHanded_of_change_and (C := Tryd.checked) (X := fun w _ => laidMetH Tryd.prog laidL w) (fun _ _ _ hh h => h.of_heap hh) own started (by kernel_rfl) Tryd.func5
    (ChangeSpec.witness_shaped (enc := enc) (C := Tryd.checked) (os := os) (X := fun w _ => laidMetH Tryd.prog laidL w) false (World.doorLaid Tryd.prog 400 os) #[.agg #[.int .i64 0, .int .i64 0, .int .i64 0, .int .i64 0, .int .i64 0, .int .i64 0, .int .i64 0, .int .i64 0, .int .i64 0, .int .i64 0, .int .i64 0], .int .u32 1, .int .i64 0] 8 rfl (World.shaped_of_RefB (by kernel_rfl) (by kernel_rfl)) (by kernel_rfl) (by kernel_rfl) (by kernel_rfl) (door_met os _)) ?_
  intro W base args ds gs before hval0 hW _ _ hL _
  have hval : ∀ (j : Nat) t v, Tryd.f5.params[j]? = some t → args[j]? = some v → Value.okWide Tryd.prog W .any base t v := hval0
  have hW' := hW
  obtain ⟨p, q, hA0, hV, rfl, hfz, hnd⟩ := hW
  have hA : DataW.TrodAll enc Tryd.prog W 0 (fun _ => true) true Tryd.f5.params.toList args.toList ds p := hA0
  rw [Tryd.params5] at hA hval
  obtain ⟨v0, v1, v2, d0, d1, d2, p0, p1, p2, rfl, rfl, rfl, h0, h1, h2⟩ := trodAll_three hA
  obtain ⟨rfl, rfl⟩ := trodVars_none hV
  obtain ⟨l0, rfl, g0_0⟩ := open_agg 9 (ks := [.int .i64, .int .i64, .int .i64, .int .i64, .int .i64, .int .i64, .int .i64, .int .i64, .int .i64, .int .i64, .int .i64]) Tryd.underlying36 (by kernel_rfl) (hval 0 36 v0 rfl rfl) h0
  obtain ⟨_, _, rfl, ⟨m0_0, rfl, w0_0⟩, g0_1⟩ := g0_0.cons
  obtain ⟨_, _, rfl, ⟨m0_1, rfl, w0_1⟩, g0_2⟩ := g0_1.cons
  obtain ⟨_, _, rfl, ⟨m0_2, rfl, w0_2⟩, g0_3⟩ := g0_2.cons
  obtain ⟨_, _, rfl, ⟨m0_3, rfl, w0_3⟩, g0_4⟩ := g0_3.cons
  obtain ⟨_, _, rfl, ⟨m0_4, rfl, w0_4⟩, g0_5⟩ := g0_4.cons
  obtain ⟨_, _, rfl, ⟨m0_5, rfl, w0_5⟩, g0_6⟩ := g0_5.cons
  obtain ⟨_, _, rfl, ⟨m0_6, rfl, w0_6⟩, g0_7⟩ := g0_6.cons
  obtain ⟨_, _, rfl, ⟨m0_7, rfl, w0_7⟩, g0_8⟩ := g0_7.cons
  obtain ⟨_, _, rfl, ⟨m0_8, rfl, w0_8⟩, g0_9⟩ := g0_8.cons
  obtain ⟨_, _, rfl, ⟨m0_9, rfl, w0_9⟩, g0_10⟩ := g0_9.cons
  obtain ⟨_, _, rfl, ⟨m0_10, rfl, w0_10⟩, g0_11⟩ := g0_10.cons
  obtain rfl := g0_11.nil
  obtain ⟨n1, rfl, rfl, rfl, w1⟩ := open_int Tryd.underlying22 (hval 1 22 v1 rfl rfl) h1
  obtain ⟨n2, rfl, rfl, rfl, w2⟩ := open_int Tryd.underlying3 (hval 2 3 v2 rfl rfl) h2
  refine (calls_true c5 (xs := [.agg [.v (.int .i64 m0_0), .v (.int .i64 m0_1), .v (.int .i64 m0_2), .v (.int .i64 m0_3), .v (.int .i64 m0_4), .v (.int .i64 m0_5), .v (.int .i64 m0_6), .v (.int .i64 m0_7), .v (.int .i64 m0_8), .v (.int .i64 m0_9), .v (.int .i64 m0_10)], .v (.int .u32 n1), .v (.int .i64 n2)]) (law_in (A := A5) (pre := fun _ => True) (x := ⟨m0_0, m0_1, m0_2, m0_3, m0_4, m0_5, m0_6, m0_7, m0_8, m0_9, m0_10, n1, n2⟩) trivial (.refl _)) (globals_ok hL) (.one (V_agg (.one (V_v _) (.one (V_v _) (.one (V_v _) (.one (V_v _) (.one (V_v _) (.one (V_v _) (.one (V_v _) (.one (V_v _) (.one (V_v _) (.one (V_v _) (.one (V_v _) (.none))))))))))))) (.one (V_v _) (.one (V_v _) .none)))).mono fun e W' ⟨he, ho⟩ => ?_
  subst he
  exact ⟨_, rfl, post_true (tb := 4) (by kernel_rfl) (by kernel_rfl) (by kernel_rfl) (by kernel_rfl) (by kernel_rfl) Tryd.underlying4 hW' rfl rfl ho⟩

theorem signNil_holds : Rows.SignNilSaid :=
  OpenClaim.holds_of_wide 5 Tryd.f5 rfl rfl rfl rfl rfl rfl rfl ⟨rfl, rfl, rfl, rfl, rfl⟩ rfl rfl rfl rfl rfl (by kernel_rfl) Tryd.func5 (by kernel_rfl)
    (of_decide_eq_true (by kernel_rfl)) (by unfold Func.isWrapper; first | (rw [if_pos (by decide +kernel)]; kernel_rfl) | (rw [if_neg (by decide +kernel)]; exact ⟨rfl, rfl⟩))
    (fun os started H enc _ => signNil_lifted os started H enc)
theorem signNil_card : Rows.SignNilCardSaid :=
  Claim7.holds_tied_plain_at .later [] [.data] true (true, "ea82103bd4f039685425a6885866ce4cd769803ee69860d8a1ebfe73fbf5a892") false
    signNil_holds (fun _ h => by cases h) (by kernel_rfl) (fun _ h => by cases h) signNil_row_tie rfl ⟨rfl, rfl⟩ (by kernel_rfl) rfl
    (fun f fn hf hfn => by
      obtain rfl : f = 5 := Option.some.inj ((show Tryd.prog.funcNamed "hallmoot/hallmootlaw06.SignNil" = some 5 by kernel_rfl).symm.trans hf) |>.symm
      obtain rfl : fn = Tryd.f5 := (Option.some.inj (Tryd.func5.symm.trans hfn)).symm
      exact ⟨by kernel_rfl, fun j t ht => by
        rw [Tryd.params5] at ht
        have hm : t ∈ [36, 22, 3] := by simpa using Array.mem_of_getElem? ht
        have hall : ([36, 22, 3].all fun u => !Tryd.prog.wantsStandIn u) = true := by kernel_rfl
        exact (show Tryd.prog.wantsStandIn t = false by simpa using List.all_eq_true.1 hall t hm)⟩)
    (by kernel_rfl)
#print axioms signNil_card
end Go.Proofs.YtnpfcaecaflfbaaDoor
