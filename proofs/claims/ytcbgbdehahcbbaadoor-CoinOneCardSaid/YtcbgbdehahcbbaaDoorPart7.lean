/- CoinOne holds at every input: the table math/bits.deBruijn32tab as the program lays it (tied). -/
import Derived.Test.YtcbgbdehahcbbaaDoorPart6
import Derived.Test.YtcbgbdehahcbbaaDoorRows
import Derived.Test.YtcbgbdehahcbbaaDoorTie
import Derived.Test.YtcbgbdehahcbbaaDoorCards
import Derived.ProofKit
import Derived.LaidMore
import Derived.OpenShut
import Derived.Stop.Joined
import Derived.SevenTiedAt
/- The program's one table: what the rows' condition gives. -/
namespace Go.Proofs.YtcbgbdehahcbbaaDoor
open Go Go.ChangeShapes Go.WideShapes Go.ChangeAt Go.WideMaps Go.WideElems Go.RowKit Go.Eng Go.Eng.M Go.Eng.Co
set_option linter.unusedSimpArgs false
set_option linter.unusedVariables false

theorem own : ownKnob Tryd.prog.godebug = none := by kernel_rfl
theorem gTab : Tryd.prog.globalNamed "math/bits.deBruijn32tab" = some 0 := by kernel_rfl
theorem tTab : (Tryd.prog.globals[0]?).map (·.type) = some 85 := by kernel_rfl
abbrev laidL : List (String × DataW Unit) := [("math/bits.deBruijn32tab", Lib.tabData .u8 deb)]
theorem door_met (os : Os) (args : Array Value) : laidMetH Tryd.prog laidL ((World.doorLaid Tryd.prog 400 os).forCall (fun _ _ => 0) ⟨#[], args, []⟩).memory :=
  laidMetH_of_parts3 (fuel := 8) (laidMet_of_run' 8 (by kernel_rfl) (by kernel_rfl)) (by kernel_rfl) (by kernel_rfl)
theorem globals_ok {W : World} (h : laidMetH Tryd.prog laidL W) : Globals Γc (σof W) := by
  rw [MakeChecks.laidMetH_plain _ _ _ (by kernel_rfl)] at h
  have hT := Lib.tabIs_of_head gTab tTab Tryd.underlying85 Tryd.underlying5 (by kernel_rfl) (by kernel_rfl) h
  intro g
  unfold Γc
  split
  · rename_i hg
    obtain rfl := Nat.eq_of_beq_eq_true hg
    refine .pa 1 32 _ ⟨0, 0, none⟩ (fun e j => .int .u8 (deb.getD e 0)) rfl (fun _ => rfl) (fun e j c he hc => ?_) (fun e j c he hc => ?_)
    · cases j with
      | zero => simpa using σof_of (hT.cell gTab e (by simpa [deb] using he))
      | succ j => simp at hc
    · cases j with
      | zero => simp at hc; subst hc; exact .v _
      | succ j => simp at hc
  · exact .any _
end Go.Proofs.YtcbgbdehahcbbaaDoor

/- CoinOne holds at every input: the table math/bits.deBruijn32tab as the program lays it (tied). -/
namespace Go.Proofs.YtcbgbdehahcbbaaDoor
open Go Go.ChangeShapes Go.WideShapes Go.ChangeAt Go.WideMaps Go.WideElems Go.RowKit Go.Eng Go.Eng.M Go.Eng.Co
set_option linter.unusedSimpArgs false
set_option linter.unusedVariables false

set_option maxRecDepth 100000 in
theorem coinOne_lifted (os : Os) (started : os.Started) (H : Type) (enc : TypeId × Value → H) :
    ReturnsInHanded {} Tryd.checked os 4 .any (fun w args => (Rows.coinOneSpec.pre enc Tryd.prog Tryd.f4 [] false w args ∧ laidMetH Tryd.prog laidL w) ∧ sizedMet enc Tryd.prog Tryd.f4 (OpenSpec.ofChange Rows.coinOneSpec) false w args)
      (Rows.coinOneSpec.post enc Tryd.prog Tryd.f4 false true false false) := by
  refine returnsInHanded_of_change_and (C := Tryd.checked) (X := fun w _ => laidMetH Tryd.prog laidL w) (fun _ _ _ hh h => h.of_heap hh) own started (by kernel_rfl) Tryd.func4
    (ChangeSpec.witness_shaped (enc := enc) (C := Tryd.checked) (os := os) (X := fun w _ => laidMetH Tryd.prog laidL w) false (World.doorLaid Tryd.prog 400 os) #[.int .i64 1, .int .u32 1, .slice none 0 0, .int .i64 0, .int .u32 1, .int .u32 1] 8 rfl (World.shaped_of_RefB (by kernel_rfl) (by kernel_rfl)) (by kernel_rfl) (by kernel_rfl) (by kernel_rfl) (door_met os _)) ?_
  intro W base args ds gs before hval0 hW _ _ hL _
  have hval : ∀ (j : Nat) t v, Tryd.f4.params[j]? = some t → args[j]? = some v → Value.okWide Tryd.prog W .any base t v := hval0
  have hW' := hW
  obtain ⟨p, q, hA0, hV, rfl, hfz, hnd⟩ := hW
  have hA : DataW.TrodAll enc Tryd.prog W 0 (fun _ => true) true Tryd.f4.params.toList args.toList ds p := hA0
  rw [Tryd.params4] at hA hval
  obtain ⟨v0, v1, v2, v3, v4, v5, d0, d1, d2, d3, d4, d5, p0, p1, p2, p3, p4, p5, rfl, rfl, rfl, h0, h1, h2, h3, h4, h5⟩ := trodAll_six hA
  obtain ⟨rfl, rfl⟩ := trodVars_none hV
  obtain ⟨n0, rfl, rfl, rfl, w0⟩ := open_int Tryd.underlying3 (hval 0 3 v0 rfl rfl) h0
  obtain ⟨n1, rfl, rfl, rfl, w1⟩ := open_int Tryd.underlying22 (hval 1 22 v1 rfl rfl) h1
  obtain ⟨n2, s2, w2⟩ := open_slL 9 Ac.cells Ac.c (ks := [.int .i64, .int .i64, .int .i64, .int .u32]) (sz := 4) rfl (fun _ => rfl) (fun _ => rfl) Ac.dec rfl Tryd.underlying23 (by kernel_rfl) (by kernel_rfl) (hval 2 23 v2 rfl rfl) h2
  obtain ⟨n3, rfl, rfl, rfl, w3⟩ := open_int Tryd.underlying3 (hval 3 3 v3 rfl rfl) h3
  obtain ⟨n4, rfl, rfl, rfl, w4⟩ := open_int Tryd.underlying22 (hval 4 22 v4 rfl rfl) h4
  obtain ⟨n5, rfl, rfl, rfl, w5⟩ := open_int Tryd.underlying22 (hval 5 22 v5 rfl rfl) h5
  refine (calls_true c4 (xs := [.v (.int .i64 n0), .v (.int .u32 n1), .sl 4 n2.length (lsF Ac.c n2), .v (.int .i64 n3), .v (.int .u32 n4), .v (.int .u32 n5)]) (law_in (A := fun x : Y4 => A4 x.f x.bad x.acts x.view x.sx x.sy) (pre := fun x => inU32 x.bad = true ∧ inU32 x.sx = true ∧ inU32 x.sy = true ∧ ∀ i, i < x.acts.length → inU32 (x.acts.getD i default).set = true) (x := ⟨n0, n1, n2, n3, n4, n5⟩) ⟨inU32_wf w1, inU32_wf w4, inU32_wf w5, fun i hi => acSet (w2 i hi)⟩ (.refl _)) (globals_ok hL) (.one (V_v _) (.one (V_v _) (.one (.base s2) (.one (V_v _) (.one (V_v _) (.one (V_v _) .none))))))).mono fun e W' ⟨he, ho⟩ => ?_
  subst he
  exact ⟨_, rfl, post_true (tb := 4) (by kernel_rfl) (by kernel_rfl) (by kernel_rfl) (by kernel_rfl) (by kernel_rfl) Tryd.underlying4 hW' rfl rfl ho⟩

theorem coinOne_holds : Rows.CoinOneSaid :=
  OpenClaim.holds_of_wide 4 Tryd.f4 rfl rfl rfl rfl rfl rfl rfl ⟨rfl, rfl, rfl, rfl, rfl⟩ rfl rfl rfl rfl rfl (by kernel_rfl) Tryd.func4 (by kernel_rfl)
    (of_decide_eq_true (by kernel_rfl)) (by unfold Func.isWrapper; first | (rw [if_pos (by decide +kernel)]; kernel_rfl) | (rw [if_neg (by decide +kernel)]; exact ⟨rfl, rfl⟩))
    (fun os started H enc _ => coinOne_lifted os started H enc)
theorem coinOne_card : Rows.CoinOneCardSaid :=
  Claim7.holds_tied_plain_at .later [] [.data] true (true, "d25845b269b8b9924cdc05e732f9aeeacf4aa5c84281840231bd528f9a838232") false
    coinOne_holds (fun _ h => by cases h) (by kernel_rfl) (fun _ h => by cases h) coinOne_row_tie rfl ⟨rfl, rfl⟩ (by kernel_rfl) rfl
    (fun f fn hf hfn => by
      obtain rfl : f = 4 := Option.some.inj ((show Tryd.prog.funcNamed "hallmoot/hallmootlaw07.CoinOne" = some 4 by kernel_rfl).symm.trans hf) |>.symm
      obtain rfl : fn = Tryd.f4 := (Option.some.inj (Tryd.func4.symm.trans hfn)).symm
      exact ⟨by kernel_rfl, fun j t ht => by
        rw [Tryd.params4] at ht
        have hm : t ∈ [3, 22, 23, 3, 22, 22] := by simpa using Array.mem_of_getElem? ht
        have hall : ([3, 22, 23, 3, 22, 22].all fun u => !Tryd.prog.wantsStandIn u) = true := by kernel_rfl
        exact (show Tryd.prog.wantsStandIn t = false by simpa using List.all_eq_true.1 hall t hm)⟩)
    (by kernel_rfl)
#print axioms coinOne_card
end Go.Proofs.YtcbgbdehahcbbaaDoor
