/- CoinPlays holds at every input: the table math/bits.deBruijn32tab as the program lays it (tied). -/
import Derived.Test.YtcbgbdehahcbbaaDoorPart6
import Derived.Test.YtcbgbdehahcbbaaDoorRows
import Derived.Test.YtcbgbdehahcbbaaDoorTie
import Derived.Test.YtcbgbdehahcbbaaDoorCards
import Derived.ProofKit
import Derived.LaidMore
import Derived.OpenShut
import Derived.Stop.Joined
import Derived.SevenTiedAt
/- coin: any calls: the rounds' ends. -/
namespace Go.Eng.Co
open Go Go.Eng Go.Eng.M Go.Proofs
set_option linter.unusedSimpArgs false
set_option linter.unusedVariables false
structure pre3 (f o bad : Int) (acts : List Ac) (x : X3) : Prop where
  e0 : x.f = f
  e1 : x.o = o
  e2 : x.bad = bad
  e3 : x.acts = acts
  i : x.i ≤ acts.length
  l : x.l.length ≤ x.i
  g : x.gv.length ≤ x.i
  s : x.sn.length ≤ x.i
  ok : GvOK x.f x.gv
abbrev O31 : Out := ⟨.exit 0, [.any, .any, .any, .any, .any, .any, .any], [none, none, none, none, none, none, none, none, none, none]⟩
abbrev RO3 (f o bad : Int) (acts : List Ac) (x : X3) : Prop := RoundOK Tryd.prog Γc 0 161 0 lp3 lv3 nl3 (S31 x) (OwesA S31 (pre3 f o bad acts) (fun _ => O31) (fun x => acts.length - x.i) (acts.length - x.i) O31)
theorem go3 {f o bad : Int} {acts : List Ac} {fr : List AV} {H : Heap} {x x' : X3} (hi : x.i < acts.length) (h0 : x'.f = f) (h1 : x'.o = o) (h2 : x'.bad = bad) (h3 : x'.acts = acts) (he : x'.i = x.i + 1) (h4 : LeL fr (S31 x').1) (h5 : LeH H (S31 x').2) (h6 : x'.l.length ≤ x.i + 1) (h7 : x'.gv.length ≤ x.i + 1) (h8 : x'.sn.length ≤ x.i + 1) (h9 : GvOK x'.f x'.gv) :
    ∃ x', LeL fr (S31 x').fst ∧ LeH H (S31 x').snd ∧ pre3 f o bad acts x' ∧ acts.length - x'.i < acts.length - x.i :=
  ⟨x', h4, h5, ⟨h0, h1, h2, h3, by omega, by omega, by omega, by omega, h9⟩, by omega⟩
theorem GvOK.new {f w v : Int} {gv : List Sh} (h : GvOK f gv) (hw : ¬ (w < 0 ∨ timesF 3 f ≤ w)) : GvOK f (gv ++ [giv w v]) := by
  intro g hg
  rcases List.mem_append.1 hg with h1 | h1
  · exact h g h1
  · obtain rfl := List.mem_singleton.1 h1
    show 0 ≤ w ∧ w < timesF 3 f
    omega
theorem pend3 {f o bad : Int} {acts : List Ac} {x : X3} (hp : pre3 f o bad acts x) (hn : acts.length ≤ 100) (hi : x.i < acts.length) (h0 : (x.acts.getD x.i default).k ≠ 0) (h1 : (x.acts.getD x.i default).k ≠ 1) (h2 : (x.acts.getD x.i default).k ≠ 2)  : RO3 f o bad acts x := by
  obtain ⟨hp0, hp1, hp2, hp3, hp4, hp5, hp6, hp7, hp9⟩ := hp
  have hac : x.acts.length = acts.length := by rw [hp3]
  have hs : x.sn.length ≤ 100000 := by omega
  have hg : x.gv.length ≤ 100000 := by omega
  have hl : x.l.length ≤ 100000 := by omega
  have hbb : ∀ b : Bool, (b == b) = true := fun b => by cases b <;> rfl
  refine .of (L := Lno) (failOK fun _ _ _ => rfl) (qend x hs hg) ?_
  simp only [or_true, true_or, false_or, or_false, and_false, false_and, cond_true, cond_false, Bool.not_true, Bool.not_false, Bool.false_eq_true, Bool.true_eq_false, not_true_eq_false, not_false_eq_true, false_implies, true_implies, implies_true, Nat.blt_eq, owesN, owesX, owesR, notT, sat_brT, sat_brF, sat_chkT, cl_iff, cl_false, AV.le_refl, AV.le_any, OLe_refl, OLe_none, sat_brN, Tree.sat_chk, Tree.sat_leaf, Tree.sat_fail, Nat.zero_add, Nat.sub_zero, Int.toNat_natCast, LeH_cons, LeH_nil, LeL_cons, LeL_nil, and_true, true_and, Bool.and_eq_true, Bool.or_eq_true, decide_eq_true_eq, decide_eq_false_iff_not, Bool.cond_true_left, Bool.cond_false_right, List.cons_append, List.nil_append, List.map_cons, List.map_nil, X3.K, hbb, wrapUpN (show x.i ≤ 1000000000 by omega)]
  repeat' (first | apply And.intro | intro _hc)
  all_goals first | omega | contradiction | exact AV.le_refl _ | exact AV.le_any _ | exact OLe.refl _ | exact OLe.none _ | exact LeH.refl _ | exact LeL.refl _ | exact AV.le.bs _ | exact AV.le.sb _ | exact go3 (x' := { x with i := x.i + 1 }) hi hp0 hp1 hp2 hp3 rfl (LeL.refl _) (LeH.refl _) (by simp only [List.length_append, List.length_cons, List.length_nil]; omega) (by simp only [List.length_append, List.length_cons, List.length_nil]; omega) (by simp only [List.length_append, List.length_cons, List.length_nil]; omega) hp9 | ((rw [List.append_nil]; exact OLe.refl _)) | (exfalso; omega) | contradiction
theorem pc70 {f o bad : Int} {acts : List Ac} {x : X3} (hp : pre3 f o bad acts x) (hn : acts.length ≤ 100) (hi : x.i < acts.length) (hk : (x.acts.getD x.i default).k = 0) (hv : badV (x.acts.getD x.i default).v) : RO3 f o bad acts x := by
  obtain ⟨hp0, hp1, hp2, hp3, hp4, hp5, hp6, hp7, hp9⟩ := hp
  have hac : x.acts.length = acts.length := by rw [hp3]
  have hs : x.sn.length ≤ 100000 := by omega
  have hg : x.gv.length ≤ 100000 := by omega
  have hl : x.l.length ≤ 100000 := by omega
  have hbb : ∀ b : Bool, (b == b) = true := fun b => by cases b <;> rfl
  refine .of (L := Lno) (failOK fun _ _ _ => rfl) (qc70 x hs hg hv) ?_
  simp only [or_true, true_or, false_or, or_false, and_false, false_and, cond_true, cond_false, Bool.not_true, Bool.not_false, Bool.false_eq_true, Bool.true_eq_false, not_true_eq_false, not_false_eq_true, false_implies, true_implies, implies_true, Nat.blt_eq, owesN, owesX, owesR, notT, sat_brT, sat_brF, sat_chkT, cl_iff, cl_false, AV.le_refl, AV.le_any, OLe_refl, OLe_none, sat_brN, Tree.sat_chk, Tree.sat_leaf, Tree.sat_fail, Nat.zero_add, Nat.sub_zero, Int.toNat_natCast, LeH_cons, LeH_nil, LeL_cons, LeL_nil, and_true, true_and, Bool.and_eq_true, Bool.or_eq_true, decide_eq_true_eq, decide_eq_false_iff_not, Bool.cond_true_left, Bool.cond_false_right, List.cons_append, List.nil_append, List.map_cons, List.map_nil, X3.K, hbb, wrapUpN (show x.i ≤ 1000000000 by omega)]
  repeat' (first | apply And.intro | intro _hc)
  all_goals first | omega | contradiction | exact AV.le_refl _ | exact AV.le_any _ | exact OLe.refl _ | exact OLe.none _ | exact LeH.refl _ | exact LeL.refl _ | exact AV.le.bs _ | exact AV.le.sb _ | exact go3 (x' := { x with i := x.i + 1 }) hi hp0 hp1 hp2 hp3 rfl (LeL.refl _) (LeH.refl _) (by simp only [List.length_append, List.length_cons, List.length_nil]; omega) (by simp only [List.length_append, List.length_cons, List.length_nil]; omega) (by simp only [List.length_append, List.length_cons, List.length_nil]; omega) hp9 | ((rw [List.append_nil]; exact OLe.refl _)) | (exfalso; omega) | contradiction
theorem pcOut {f o bad : Int} {acts : List Ac} {x : X3} (hp : pre3 f o bad acts x) (hn : acts.length ≤ 100) (hi : x.i < acts.length) (hk : (x.acts.getD x.i default).k = 0) (hv : ¬ badV (x.acts.getD x.i default).v) (hw : (x.acts.getD x.i default).w < 0 ∨ timesF 3 x.f ≤ (x.acts.getD x.i default).w) : RO3 f o bad acts x := by
  obtain ⟨hp0, hp1, hp2, hp3, hp4, hp5, hp6, hp7, hp9⟩ := hp
  have hac : x.acts.length = acts.length := by rw [hp3]
  have hs : x.sn.length ≤ 100000 := by omega
  have hg : x.gv.length ≤ 100000 := by omega
  have hl : x.l.length ≤ 100000 := by omega
  have hbb : ∀ b : Bool, (b == b) = true := fun b => by cases b <;> rfl
  refine .of (L := Lno) (failOK fun _ _ _ => rfl) (qcOut x hs hg hv hw) ?_
  simp only [or_true, true_or, false_or, or_false, and_false, false_and, cond_true, cond_false, Bool.not_true, Bool.not_false, Bool.false_eq_true, Bool.true_eq_false, not_true_eq_false, not_false_eq_true, false_implies, true_implies, implies_true, Nat.blt_eq, owesN, owesX, owesR, notT, sat_brT, sat_brF, sat_chkT, cl_iff, cl_false, AV.le_refl, AV.le_any, OLe_refl, OLe_none, sat_brN, Tree.sat_chk, Tree.sat_leaf, Tree.sat_fail, Nat.zero_add, Nat.sub_zero, Int.toNat_natCast, LeH_cons, LeH_nil, LeL_cons, LeL_nil, and_true, true_and, Bool.and_eq_true, Bool.or_eq_true, decide_eq_true_eq, decide_eq_false_iff_not, Bool.cond_true_left, Bool.cond_false_right, List.cons_append, List.nil_append, List.map_cons, List.map_nil, X3.K, hbb, wrapUpN (show x.i ≤ 1000000000 by omega)]
  repeat' (first | apply And.intro | intro _hc)
  all_goals first | omega | contradiction | exact AV.le_refl _ | exact AV.le_any _ | exact OLe.refl _ | exact OLe.none _ | exact LeH.refl _ | exact LeL.refl _ | exact AV.le.bs _ | exact AV.le.sb _ | exact go3 (x' := { x with i := x.i + 1 }) hi hp0 hp1 hp2 hp3 rfl (LeL.refl _) (LeH.refl _) (by simp only [List.length_append, List.length_cons, List.length_nil]; omega) (by simp only [List.length_append, List.length_cons, List.length_nil]; omega) (by simp only [List.length_append, List.length_cons, List.length_nil]; omega) hp9 | ((rw [List.append_nil]; exact OLe.refl _)) | (exfalso; omega) | contradiction
theorem pcThere {f o bad : Int} {acts : List Ac} {x : X3} (hp : pre3 f o bad acts x) (hn : acts.length ≤ 100) (hi : x.i < acts.length) (hk : (x.acts.getD x.i default).k = 0) (hv : ¬ badV (x.acts.getD x.i default).v) (hw : ¬ ((x.acts.getD x.i default).w < 0 ∨ timesF 3 x.f ≤ (x.acts.getD x.i default).w)) (ht : gvB x.gv (x.acts.getD x.i default).v = true ∨ snB x.sn (x.acts.getD x.i default).v = true) : RO3 f o bad acts x := by
  obtain ⟨hp0, hp1, hp2, hp3, hp4, hp5, hp6, hp7, hp9⟩ := hp
  have hac : x.acts.length = acts.length := by rw [hp3]
  have hs : x.sn.length ≤ 100000 := by omega
  have hg : x.gv.length ≤ 100000 := by omega
  have hl : x.l.length ≤ 100000 := by omega
  have hbb : ∀ b : Bool, (b == b) = true := fun b => by cases b <;> rfl
  refine .of (L := Lno) (failOK fun _ _ _ => rfl) (qcThere x hs hg hp9 hv hw ht) ?_
  simp only [or_true, true_or, false_or, or_false, and_false, false_and, cond_true, cond_false, Bool.not_true, Bool.not_false, Bool.false_eq_true, Bool.true_eq_false, not_true_eq_false, not_false_eq_true, false_implies, true_implies, implies_true, Nat.blt_eq, owesN, owesX, owesR, notT, sat_brT, sat_brF, sat_chkT, cl_iff, cl_false, AV.le_refl, AV.le_any, OLe_refl, OLe_none, sat_brN, Tree.sat_chk, Tree.sat_leaf, Tree.sat_fail, Nat.zero_add, Nat.sub_zero, Int.toNat_natCast, LeH_cons, LeH_nil, LeL_cons, LeL_nil, and_true, true_and, Bool.and_eq_true, Bool.or_eq_true, decide_eq_true_eq, decide_eq_false_iff_not, Bool.cond_true_left, Bool.cond_false_right, List.cons_append, List.nil_append, List.map_cons, List.map_nil, X3.K, hbb, wrapUpN (show x.i ≤ 1000000000 by omega)]
  repeat' (first | apply And.intro | intro _hc)
  all_goals first | omega | contradiction | exact AV.le_refl _ | exact AV.le_any _ | exact OLe.refl _ | exact OLe.none _ | exact LeH.refl _ | exact LeL.refl _ | exact AV.le.bs _ | exact AV.le.sb _ | exact go3 (x' := { x with i := x.i + 1 }) hi hp0 hp1 hp2 hp3 rfl (LeL.refl _) (LeH.refl _) (by simp only [List.length_append, List.length_cons, List.length_nil]; omega) (by simp only [List.length_append, List.length_cons, List.length_nil]; omega) (by simp only [List.length_append, List.length_cons, List.length_nil]; omega) hp9 | ((rw [List.append_nil]; exact OLe.refl _)) | (exfalso; omega) | contradiction
theorem pcNew {f o bad : Int} {acts : List Ac} {x : X3} (hp : pre3 f o bad acts x) (hn : acts.length ≤ 100) (hi : x.i < acts.length) (hk : (x.acts.getD x.i default).k = 0) (hv : ¬ badV (x.acts.getD x.i default).v) (hw : ¬ ((x.acts.getD x.i default).w < 0 ∨ timesF 3 x.f ≤ (x.acts.getD x.i default).w)) (h1 : gvB x.gv (x.acts.getD x.i default).v = false) (h2 : snB x.sn (x.acts.getD x.i default).v = false) : RO3 f o bad acts x := by
  obtain ⟨hp0, hp1, hp2, hp3, hp4, hp5, hp6, hp7, hp9⟩ := hp
  have hac : x.acts.length = acts.length := by rw [hp3]
  have hs : x.sn.length ≤ 100000 := by omega
  have hg : x.gv.length ≤ 100000 := by omega
  have hl : x.l.length ≤ 100000 := by omega
  have hbb : ∀ b : Bool, (b == b) = true := fun b => by cases b <;> rfl
  refine .of (L := Lno) (failOK fun _ _ _ => rfl) (qcNew x hs hg hv hw h1 h2) ?_
  simp only [or_true, true_or, false_or, or_false, and_false, false_and, cond_true, cond_false, Bool.not_true, Bool.not_false, Bool.false_eq_true, Bool.true_eq_false, not_true_eq_false, not_false_eq_true, false_implies, true_implies, implies_true, Nat.blt_eq, owesN, owesX, owesR, notT, sat_brT, sat_brF, sat_chkT, cl_iff, cl_false, AV.le_refl, AV.le_any, OLe_refl, OLe_none, sat_brN, Tree.sat_chk, Tree.sat_leaf, Tree.sat_fail, Nat.zero_add, Nat.sub_zero, Int.toNat_natCast, LeH_cons, LeH_nil, LeL_cons, LeL_nil, and_true, true_and, Bool.and_eq_true, Bool.or_eq_true, decide_eq_true_eq, decide_eq_false_iff_not, Bool.cond_true_left, Bool.cond_false_right, List.cons_append, List.nil_append, List.map_cons, List.map_nil, X3.K, hbb, wrapUpN (show x.i ≤ 1000000000 by omega)]
  repeat' (first | apply And.intro | intro _hc)
  all_goals first | omega | contradiction | exact AV.le_refl _ | exact AV.le_any _ | exact OLe.refl _ | exact OLe.none _ | exact LeH.refl _ | exact LeL.refl _ | exact AV.le.bs _ | exact AV.le.sb _ | exact go3 (x' := { x with i := x.i + 1, gv := x.gv ++ [giv (x.acts.getD x.i default).w (x.acts.getD x.i default).v], jg := [], n := x.n + 1 }) hi hp0 hp1 hp2 hp3 rfl (LeL.refl _) (by simp only [S31, X3.H, List.append_nil, List.map]; exact LeH.refl _) (by simp only [List.length_append, List.length_cons, List.length_nil]; omega) (by simp only [List.length_append, List.length_cons, List.length_nil]; omega) (by simp only [List.length_append, List.length_cons, List.length_nil]; omega) (hp9.new hw) | ((rw [List.append_nil]; exact OLe.refl _)) | (exfalso; omega) | contradiction
theorem ps70 {f o bad : Int} {acts : List Ac} {x : X3} (hp : pre3 f o bad acts x) (hn : acts.length ≤ 100) (hi : x.i < acts.length) (hk : (x.acts.getD x.i default).k = 1) (hv : badV (x.acts.getD x.i default).v) : RO3 f o bad acts x := by
  obtain ⟨hp0, hp1, hp2, hp3, hp4, hp5, hp6, hp7, hp9⟩ := hp
  have hac : x.acts.length = acts.length := by rw [hp3]
  have hs : x.sn.length ≤ 100000 := by omega
  have hg : x.gv.length ≤ 100000 := by omega
  have hl : x.l.length ≤ 100000 := by omega
  have hbb : ∀ b : Bool, (b == b) = true := fun b => by cases b <;> rfl
  refine .of (L := Lno) (failOK fun _ _ _ => rfl) (qs70 x hs hg hv) ?_
  simp only [or_true, true_or, false_or, or_false, and_false, false_and, cond_true, cond_false, Bool.not_true, Bool.not_false, Bool.false_eq_true, Bool.true_eq_false, not_true_eq_false, not_false_eq_true, false_implies, true_implies, implies_true, Nat.blt_eq, owesN, owesX, owesR, notT, sat_brT, sat_brF, sat_chkT, cl_iff, cl_false, AV.le_refl, AV.le_any, OLe_refl, OLe_none, sat_brN, Tree.sat_chk, Tree.sat_leaf, Tree.sat_fail, Nat.zero_add, Nat.sub_zero, Int.toNat_natCast, LeH_cons, LeH_nil, LeL_cons, LeL_nil, and_true, true_and, Bool.and_eq_true, Bool.or_eq_true, decide_eq_true_eq, decide_eq_false_iff_not, Bool.cond_true_left, Bool.cond_false_right, List.cons_append, List.nil_append, List.map_cons, List.map_nil, X3.K, hbb, wrapUpN (show x.i ≤ 1000000000 by omega)]
  repeat' (first | apply And.intro | intro _hc)
  all_goals first | omega | contradiction | exact AV.le_refl _ | exact AV.le_any _ | exact OLe.refl _ | exact OLe.none _ | exact LeH.refl _ | exact LeL.refl _ | exact AV.le.bs _ | exact AV.le.sb _ | exact go3 (x' := { x with i := x.i + 1 }) hi hp0 hp1 hp2 hp3 rfl (LeL.refl _) (LeH.refl _) (by simp only [List.length_append, List.length_cons, List.length_nil]; omega) (by simp only [List.length_append, List.length_cons, List.length_nil]; omega) (by simp only [List.length_append, List.length_cons, List.length_nil]; omega) hp9 | ((rw [List.append_nil]; exact OLe.refl _)) | (exfalso; omega) | contradiction
theorem psF {f o bad : Int} {acts : List Ac} {x : X3} (hp : pre3 f o bad acts x) (hn : acts.length ≤ 100) (hi : x.i < acts.length) (hk : (x.acts.getD x.i default).k = 1) (hv : ¬ badV (x.acts.getD x.i default).v) (hf : ¬ x.o = x.f) : RO3 f o bad acts x := by
  obtain ⟨hp0, hp1, hp2, hp3, hp4, hp5, hp6, hp7, hp9⟩ := hp
  have hac : x.acts.length = acts.length := by rw [hp3]
  have hs : x.sn.length ≤ 100000 := by omega
  have hg : x.gv.length ≤ 100000 := by omega
  have hl : x.l.length ≤ 100000 := by omega
  have hbb : ∀ b : Bool, (b == b) = true := fun b => by cases b <;> rfl
  refine .of (L := Lno) (failOK fun _ _ _ => rfl) (qsF x hs hg hv hf) ?_
  simp only [or_true, true_or, false_or, or_false, and_false, false_and, cond_true, cond_false, Bool.not_true, Bool.not_false, Bool.false_eq_true, Bool.true_eq_false, not_true_eq_false, not_false_eq_true, false_implies, true_implies, implies_true, Nat.blt_eq, owesN, owesX, owesR, notT, sat_brT, sat_brF, sat_chkT, cl_iff, cl_false, AV.le_refl, AV.le_any, OLe_refl, OLe_none, sat_brN, Tree.sat_chk, Tree.sat_leaf, Tree.sat_fail, Nat.zero_add, Nat.sub_zero, Int.toNat_natCast, LeH_cons, LeH_nil, LeL_cons, LeL_nil, and_true, true_and, Bool.and_eq_true, Bool.or_eq_true, decide_eq_true_eq, decide_eq_false_iff_not, Bool.cond_true_left, Bool.cond_false_right, List.cons_append, List.nil_append, List.map_cons, List.map_nil, X3.K, hbb, wrapUpN (show x.i ≤ 1000000000 by omega)]
  repeat' (first | apply And.intro | intro _hc)
  all_goals first | omega | contradiction | exact AV.le_refl _ | exact AV.le_any _ | exact OLe.refl _ | exact OLe.none _ | exact LeH.refl _ | exact LeL.refl _ | exact AV.le.bs _ | exact AV.le.sb _ | exact go3 (x' := { x with i := x.i + 1 }) hi hp0 hp1 hp2 hp3 rfl (LeL.refl _) (LeH.refl _) (by simp only [List.length_append, List.length_cons, List.length_nil]; omega) (by simp only [List.length_append, List.length_cons, List.length_nil]; omega) (by simp only [List.length_append, List.length_cons, List.length_nil]; omega) hp9 | ((rw [List.append_nil]; exact OLe.refl _)) | (exfalso; omega) | contradiction
theorem psE {f o bad : Int} {acts : List Ac} {x : X3} (hp : pre3 f o bad acts x) (hn : acts.length ≤ 100) (hi : x.i < acts.length) (hk : (x.acts.getD x.i default).k = 1) (e : Int) (hv : ¬ badV (x.acts.getD x.i default).v) (hu : inU32 (x.acts.getD x.i default).set = true) (hb : inU32 x.bad = true) (hof : x.o = x.f) (hf : timesF 3 x.f ≠ 0) (hE : EnE (x.acts.getD x.i default).set (timesF 1 x.f) (stC (x.acts.getD x.i default).v) x.f x.bad x.l e) (he : e ≠ 0) : RO3 f o bad acts x := by
  obtain ⟨hp0, hp1, hp2, hp3, hp4, hp5, hp6, hp7, hp9⟩ := hp
  have hac : x.acts.length = acts.length := by rw [hp3]
  have hs : x.sn.length ≤ 100000 := by omega
  have hg : x.gv.length ≤ 100000 := by omega
  have hl : x.l.length ≤ 100000 := by omega
  have hbb : ∀ b : Bool, (b == b) = true := fun b => by cases b <;> rfl
  refine .of (L := Lno) (failOK fun _ _ _ => rfl) (qsE x e hs hg hp9 hf hv hu hb hl hE he) ?_
  simp only [or_true, true_or, false_or, or_false, and_false, false_and, cond_true, cond_false, Bool.not_true, Bool.not_false, Bool.false_eq_true, Bool.true_eq_false, not_true_eq_false, not_false_eq_true, false_implies, true_implies, implies_true, Nat.blt_eq, owesN, owesX, owesR, notT, sat_brT, sat_brF, sat_chkT, cl_iff, cl_false, AV.le_refl, AV.le_any, OLe_refl, OLe_none, sat_brN, Tree.sat_chk, Tree.sat_leaf, Tree.sat_fail, Nat.zero_add, Nat.sub_zero, Int.toNat_natCast, LeH_cons, LeH_nil, LeL_cons, LeL_nil, and_true, true_and, Bool.and_eq_true, Bool.or_eq_true, decide_eq_true_eq, decide_eq_false_iff_not, Bool.cond_true_left, Bool.cond_false_right, List.cons_append, List.nil_append, List.map_cons, List.map_nil, X3.K, hbb, hof, wrapUpN (show x.i ≤ 1000000000 by omega)]
  repeat' (first | apply And.intro | intro _hc)
  all_goals first | omega | contradiction | exact AV.le_refl _ | exact AV.le_any _ | exact OLe.refl _ | exact OLe.none _ | exact LeH.refl _ | exact LeL.refl _ | exact AV.le.bs _ | exact AV.le.sb _ | exact go3 (x' := { x with i := x.i + 1, o := x.f }) hi hp0 (hof.symm.trans hp1) hp2 hp3 rfl (LeL.refl _) (LeH.refl _) (by simp only [List.length_append, List.length_cons, List.length_nil]; omega) (by simp only [List.length_append, List.length_cons, List.length_nil]; omega) (by simp only [List.length_append, List.length_cons, List.length_nil]; omega) hp9 | ((rw [List.append_nil]; exact OLe.refl _)) | (exfalso; omega) | contradiction
theorem psT {f o bad : Int} {acts : List Ac} {x : X3} (hp : pre3 f o bad acts x) (hn : acts.length ≤ 100) (hi : x.i < acts.length) (hk : (x.acts.getD x.i default).k = 1) (hv : ¬ badV (x.acts.getD x.i default).v) (hu : inU32 (x.acts.getD x.i default).set = true) (hb : inU32 x.bad = true) (hof : x.o = x.f) (hf : timesF 3 x.f ≠ 0) (hE : EnE (x.acts.getD x.i default).set (timesF 1 x.f) (stC (x.acts.getD x.i default).v) x.f x.bad x.l 0) (hn0 : snB x.sn (x.acts.getD x.i default).v = true) : RO3 f o bad acts x := by
  obtain ⟨hp0, hp1, hp2, hp3, hp4, hp5, hp6, hp7, hp9⟩ := hp
  have hac : x.acts.length = acts.length := by rw [hp3]
  have hs : x.sn.length ≤ 100000 := by omega
  have hg : x.gv.length ≤ 100000 := by omega
  have hl : x.l.length ≤ 100000 := by omega
  have hbb : ∀ b : Bool, (b == b) = true := fun b => by cases b <;> rfl
  refine .of (L := Lno) (failOK fun _ _ _ => rfl) (qsT x hs hg hp9 hf hv hu hb hl hE hn0) ?_
  simp only [or_true, true_or, false_or, or_false, and_false, false_and, cond_true, cond_false, Bool.not_true, Bool.not_false, Bool.false_eq_true, Bool.true_eq_false, not_true_eq_false, not_false_eq_true, false_implies, true_implies, implies_true, Nat.blt_eq, owesN, owesX, owesR, notT, sat_brT, sat_brF, sat_chkT, cl_iff, cl_false, AV.le_refl, AV.le_any, OLe_refl, OLe_none, sat_brN, Tree.sat_chk, Tree.sat_leaf, Tree.sat_fail, Nat.zero_add, Nat.sub_zero, Int.toNat_natCast, LeH_cons, LeH_nil, LeL_cons, LeL_nil, and_true, true_and, Bool.and_eq_true, Bool.or_eq_true, decide_eq_true_eq, decide_eq_false_iff_not, Bool.cond_true_left, Bool.cond_false_right, List.cons_append, List.nil_append, List.map_cons, List.map_nil, X3.K, hbb, hof, wrapUpN (show x.i ≤ 1000000000 by omega)]
  repeat' (first | apply And.intro | intro _hc)
  all_goals first | omega | contradiction | exact AV.le_refl _ | exact AV.le_any _ | exact OLe.refl _ | exact OLe.none _ | exact LeH.refl _ | exact LeL.refl _ | exact AV.le.bs _ | exact AV.le.sb _ | exact go3 (x' := { x with i := x.i + 1, o := x.f }) hi hp0 (hof.symm.trans hp1) hp2 hp3 rfl (LeL.refl _) (LeH.refl _) (by simp only [List.length_append, List.length_cons, List.length_nil]; omega) (by simp only [List.length_append, List.length_cons, List.length_nil]; omega) (by simp only [List.length_append, List.length_cons, List.length_nil]; omega) hp9 | ((rw [List.append_nil]; exact OLe.refl _)) | (exfalso; omega) | contradiction
theorem psN {f o bad : Int} {acts : List Ac} {x : X3} (hp : pre3 f o bad acts x) (hn : acts.length ≤ 100) (hi : x.i < acts.length) (hk : (x.acts.getD x.i default).k = 1) (hv : ¬ badV (x.acts.getD x.i default).v) (hu : inU32 (x.acts.getD x.i default).set = true) (hb : inU32 x.bad = true) (hof : x.o = x.f) (hf : timesF 3 x.f ≠ 0) (hE : EnE (x.acts.getD x.i default).set (timesF 1 x.f) (stC (x.acts.getD x.i default).v) x.f x.bad x.l 0) (hn0 : snB x.sn (x.acts.getD x.i default).v = false) : RO3 f o bad acts x := by
  obtain ⟨hp0, hp1, hp2, hp3, hp4, hp5, hp6, hp7, hp9⟩ := hp
  have hac : x.acts.length = acts.length := by rw [hp3]
  have hs : x.sn.length ≤ 100000 := by omega
  have hg : x.gv.length ≤ 100000 := by omega
  have hl : x.l.length ≤ 100000 := by omega
  have hbb : ∀ b : Bool, (b == b) = true := fun b => by cases b <;> rfl
  refine .of (L := Lno) (failOK fun _ _ _ => rfl) (qsN x hs hg hp9 hf hv hu hb hl hE hn0 (by simp only [List.length_append, List.length_cons, List.length_nil]; omega)) ?_
  simp only [or_true, true_or, false_or, or_false, and_false, false_and, cond_true, cond_false, Bool.not_true, Bool.not_false, Bool.false_eq_true, Bool.true_eq_false, not_true_eq_false, not_false_eq_true, false_implies, true_implies, implies_true, Nat.blt_eq, owesN, owesX, owesR, notT, sat_brT, sat_brF, sat_chkT, cl_iff, cl_false, AV.le_refl, AV.le_any, OLe_refl, OLe_none, sat_brN, Tree.sat_chk, Tree.sat_leaf, Tree.sat_fail, Nat.zero_add, Nat.sub_zero, Int.toNat_natCast, LeH_cons, LeH_nil, LeL_cons, LeL_nil, and_true, true_and, Bool.and_eq_true, Bool.or_eq_true, decide_eq_true_eq, decide_eq_false_iff_not, Bool.cond_true_left, Bool.cond_false_right, List.cons_append, List.nil_append, List.map_cons, List.map_nil, X3.K, hbb, hof, wrapUpN (show x.i ≤ 1000000000 by omega)]
  repeat' (first | apply And.intro | intro _hc)
  all_goals first | omega | contradiction | exact AV.le_refl _ | exact AV.le_any _ | exact OLe.refl _ | exact OLe.none _ | exact LeH.refl _ | exact LeL.refl _ | exact AV.le.bs _ | exact AV.le.sb _ | exact go3 (x' := { x with i := x.i + 1, o := x.f, sn := x.sn ++ [(x.acts.getD x.i default).v], js := [], n := nC x.gv x.sn (x.acts.getD x.i default).v x.n }) hi hp0 (hof.symm.trans hp1) hp2 hp3 rfl (LeL.refl _) (by simp only [S31, X3.H, List.append_nil, List.map]; exact LeH.refl _) (by simp only [List.length_append, List.length_cons, List.length_nil]; omega) (by simp only [List.length_append, List.length_cons, List.length_nil]; omega) (by simp only [List.length_append, List.length_cons, List.length_nil]; omega) hp9 | ((rw [List.append_nil]; exact OLe.refl _)) | (exfalso; omega) | contradiction
theorem piOut {f o bad : Int} {acts : List Ac} {x : X3} (hp : pre3 f o bad acts x) (hn : acts.length ≤ 100) (hi : x.i < acts.length) (hk : (x.acts.getD x.i default).k = 2) (h : outS x.o (shA x)) : RO3 f o bad acts x := by
  obtain ⟨hp0, hp1, hp2, hp3, hp4, hp5, hp6, hp7, hp9⟩ := hp
  have hac : x.acts.length = acts.length := by rw [hp3]
  have hs : x.sn.length ≤ 100000 := by omega
  have hg : x.gv.length ≤ 100000 := by omega
  have hl : x.l.length ≤ 100000 := by omega
  have hbb : ∀ b : Bool, (b == b) = true := fun b => by cases b <;> rfl
  refine .of (L := Lno) (failOK fun _ _ _ => rfl) (qiOut x hs hg h) ?_
  simp only [or_true, true_or, false_or, or_false, and_false, false_and, cond_true, cond_false, Bool.not_true, Bool.not_false, Bool.false_eq_true, Bool.true_eq_false, not_true_eq_false, not_false_eq_true, false_implies, true_implies, implies_true, Nat.blt_eq, owesN, owesX, owesR, notT, sat_brT, sat_brF, sat_chkT, cl_iff, cl_false, AV.le_refl, AV.le_any, OLe_refl, OLe_none, sat_brN, Tree.sat_chk, Tree.sat_leaf, Tree.sat_fail, Nat.zero_add, Nat.sub_zero, Int.toNat_natCast, LeH_cons, LeH_nil, LeL_cons, LeL_nil, and_true, true_and, Bool.and_eq_true, Bool.or_eq_true, decide_eq_true_eq, decide_eq_false_iff_not, Bool.cond_true_left, Bool.cond_false_right, List.cons_append, List.nil_append, List.map_cons, List.map_nil, X3.K, hbb, wrapUpN (show x.i ≤ 1000000000 by omega)]
  repeat' (first | apply And.intro | intro _hc)
  all_goals first | omega | contradiction | exact AV.le_refl _ | exact AV.le_any _ | exact OLe.refl _ | exact OLe.none _ | exact LeH.refl _ | exact LeL.refl _ | exact AV.le.bs _ | exact AV.le.sb _ | exact go3 (x' := { x with i := x.i + 1 }) hi hp0 hp1 hp2 hp3 rfl (LeL.refl _) (LeH.refl _) (by simp only [List.length_append, List.length_cons, List.length_nil]; omega) (by simp only [List.length_append, List.length_cons, List.length_nil]; omega) (by simp only [List.length_append, List.length_cons, List.length_nil]; omega) hp9 | ((rw [List.append_nil]; exact OLe.refl _)) | (exfalso; omega) | contradiction
theorem piThere {f o bad : Int} {acts : List Ac} {x : X3} (hp : pre3 f o bad acts x) (hn : acts.length ≤ 100) (hi : x.i < acts.length) (hk : (x.acts.getD x.i default).k = 2) (h : ¬ outS x.o (shA x)) (hx : shA x ∈ x.l) : RO3 f o bad acts x := by
  obtain ⟨hp0, hp1, hp2, hp3, hp4, hp5, hp6, hp7, hp9⟩ := hp
  have hac : x.acts.length = acts.length := by rw [hp3]
  have hs : x.sn.length ≤ 100000 := by omega
  have hg : x.gv.length ≤ 100000 := by omega
  have hl : x.l.length ≤ 100000 := by omega
  have hbb : ∀ b : Bool, (b == b) = true := fun b => by cases b <;> rfl
  refine .of (L := Lno) (failOK fun _ _ _ => rfl) (qiThere x hs hg hl h hx) ?_
  simp only [or_true, true_or, false_or, or_false, and_false, false_and, cond_true, cond_false, Bool.not_true, Bool.not_false, Bool.false_eq_true, Bool.true_eq_false, not_true_eq_false, not_false_eq_true, false_implies, true_implies, implies_true, Nat.blt_eq, owesN, owesX, owesR, notT, sat_brT, sat_brF, sat_chkT, cl_iff, cl_false, AV.le_refl, AV.le_any, OLe_refl, OLe_none, sat_brN, Tree.sat_chk, Tree.sat_leaf, Tree.sat_fail, Nat.zero_add, Nat.sub_zero, Int.toNat_natCast, LeH_cons, LeH_nil, LeL_cons, LeL_nil, and_true, true_and, Bool.and_eq_true, Bool.or_eq_true, decide_eq_true_eq, decide_eq_false_iff_not, Bool.cond_true_left, Bool.cond_false_right, List.cons_append, List.nil_append, List.map_cons, List.map_nil, X3.K, hbb, wrapUpN (show x.i ≤ 1000000000 by omega)]
  repeat' (first | apply And.intro | intro _hc)
  all_goals first | omega | contradiction | exact AV.le_refl _ | exact AV.le_any _ | exact OLe.refl _ | exact OLe.none _ | exact LeH.refl _ | exact LeL.refl _ | exact AV.le.bs _ | exact AV.le.sb _ | exact go3 (x' := { x with i := x.i + 1 }) hi hp0 hp1 hp2 hp3 rfl (LeL.refl _) (LeH.refl _) (by simp only [List.length_append, List.length_cons, List.length_nil]; omega) (by simp only [List.length_append, List.length_cons, List.length_nil]; omega) (by simp only [List.length_append, List.length_cons, List.length_nil]; omega) hp9 | ((rw [List.append_nil]; exact OLe.refl _)) | (exfalso; omega) | contradiction
theorem piNew {f o bad : Int} {acts : List Ac} {x : X3} (hp : pre3 f o bad acts x) (hn : acts.length ≤ 100) (hi : x.i < acts.length) (hk : (x.acts.getD x.i default).k = 2) (h : ¬ outS x.o (shA x)) (hx : ¬ shA x ∈ x.l) : RO3 f o bad acts x := by
  obtain ⟨hp0, hp1, hp2, hp3, hp4, hp5, hp6, hp7, hp9⟩ := hp
  have hac : x.acts.length = acts.length := by rw [hp3]
  have hs : x.sn.length ≤ 100000 := by omega
  have hg : x.gv.length ≤ 100000 := by omega
  have hl : x.l.length ≤ 100000 := by omega
  have hbb : ∀ b : Bool, (b == b) = true := fun b => by cases b <;> rfl
  refine .of (L := Lno) (failOK fun _ _ _ => rfl) (qiNew x hs hg hl (by omega) h hx) ?_
  simp only [or_true, true_or, false_or, or_false, and_false, false_and, cond_true, cond_false, Bool.not_true, Bool.not_false, Bool.false_eq_true, Bool.true_eq_false, not_true_eq_false, not_false_eq_true, false_implies, true_implies, implies_true, Nat.blt_eq, owesN, owesX, owesR, notT, sat_brT, sat_brF, sat_chkT, cl_iff, cl_false, AV.le_refl, AV.le_any, OLe_refl, OLe_none, sat_brN, Tree.sat_chk, Tree.sat_leaf, Tree.sat_fail, Nat.zero_add, Nat.sub_zero, Int.toNat_natCast, LeH_cons, LeH_nil, LeL_cons, LeL_nil, and_true, true_and, Bool.and_eq_true, Bool.or_eq_true, decide_eq_true_eq, decide_eq_false_iff_not, Bool.cond_true_left, Bool.cond_false_right, List.cons_append, List.nil_append, List.map_cons, List.map_nil, X3.K, hbb, wrapUpN (show x.i ≤ 1000000000 by omega)]
  repeat' (first | apply And.intro | intro _hc)
  all_goals first | omega | contradiction | exact AV.le_refl _ | exact AV.le_any _ | exact OLe.refl _ | exact OLe.none _ | exact LeH.refl _ | exact LeL.refl _ | exact AV.le.bs _ | exact AV.le.sb _ | exact go3 (x' := { x with i := x.i + 1, l := x.l ++ [shA x], j := [], j' := [] }) hi hp0 hp1 hp2 hp3 rfl (LeL.refl _) (by simp only [S31, X3.H, List.append_nil, List.map]; exact LeH.refl _) (by simp only [List.length_append, List.length_cons, List.length_nil]; omega) (by simp only [List.length_append, List.length_cons, List.length_nil]; omega) (by simp only [List.length_append, List.length_cons, List.length_nil]; omega) hp9 | ((rw [List.append_nil]; exact OLe.refl _)) | (exfalso; omega) | contradiction
theorem pstop {f o bad : Int} {acts : List Ac} {x : X3} (hp : pre3 f o bad acts x) (hn : acts.length ≤ 100) (hi : acts.length ≤ x.i) : RO3 f o bad acts x := by
  obtain ⟨hp0, hp1, hp2, hp3, hp4, hp5, hp6, hp7, hp9⟩ := hp
  have hac : x.acts.length = acts.length := by rw [hp3]
  have hs : x.sn.length ≤ 100000 := by omega
  have hg : x.gv.length ≤ 100000 := by omega
  refine .of (L := Lno) (failOK fun _ _ _ => rfl) (qend x hs hg) ?_
  simp only [or_true, true_or, false_or, or_false, and_false, false_and, cond_true, cond_false, Bool.not_true, Bool.not_false, Bool.false_eq_true, Bool.true_eq_false, not_true_eq_false, not_false_eq_true, false_implies, true_implies, implies_true, Nat.blt_eq, owesN, owesX, owesR, notT, sat_brT, sat_brF, sat_chkT, cl_iff, cl_false, AV.le_refl, AV.le_any, OLe_refl, OLe_none, sat_brN, Tree.sat_chk, Tree.sat_leaf, Tree.sat_fail, Nat.zero_add, Nat.sub_zero, Int.toNat_natCast, LeH_cons, LeH_nil, LeL_cons, LeL_nil, and_true, true_and, Bool.and_eq_true, Bool.or_eq_true, decide_eq_true_eq, decide_eq_false_iff_not, Bool.cond_true_left, Bool.cond_false_right, List.cons_append, List.nil_append, List.map_cons, List.map_nil]
  repeat' (first | apply And.intro | intro _hc)
  all_goals first | omega | contradiction | exact AV.le_refl _ | exact AV.le_any _ | exact OLe.refl _ | exact OLe.none _ | exact LeH.refl _ | exact LeL.refl _ | exact AV.le.bs _ | exact AV.le.sb _ | exact rfl | (exfalso; omega) | contradiction
end Go.Eng.Co

/- coin: any calls: the law. -/
namespace Go.Eng.Co
open Go Go.Eng Go.Eng.M Go.Proofs
set_option linter.unusedSimpArgs false
set_option linter.unusedVariables false
theorem loop31 {f o bad : Int} {acts : List Ac} (hn : acts.length ≤ 100) (hf : timesF 3 f ≠ 0) (hb : inU32 bad = true) (hset : ∀ i, i < acts.length → inU32 (acts.getD i default).set = true) : ∀ x, pre3 f o bad acts x → LoopOK Tryd.prog Γc 0 161 lp3 (LSpec.at lv3 nl3 (S31 x) O31) := by
  refine loop_at (S := S31) (O := fun _ => O31) (k := 0) (fun x => acts.length - x.i) fun x hp => ?_
  show RO3 f o bad acts x
  have hp0 := hp.e0
  have hp2 := hp.e2
  have hp3 := hp.e3
  rcases Nat.lt_or_ge x.i acts.length with hi | hi
  case inr => exact pstop hp hn hi
  have hu : inU32 (x.acts.getD x.i default).set = true := by rw [hp3]; exact hset x.i hi
  have hb' : inU32 x.bad = true := by rw [hp2]; exact hb
  have hf' : timesF 3 x.f ≠ 0 := by rw [hp0]; exact hf
  by_cases k0 : (x.acts.getD x.i default).k = 0
  · by_cases hv : badV (x.acts.getD x.i default).v
    · exact pc70 hp hn hi k0 hv
    by_cases hw : (x.acts.getD x.i default).w < 0 ∨ timesF 3 x.f ≤ (x.acts.getD x.i default).w
    · exact pcOut hp hn hi k0 hv hw
    cases h1 : gvB x.gv (x.acts.getD x.i default).v with
    | true => exact pcThere hp hn hi k0 hv hw (.inl h1)
    | false =>
      cases h2 : snB x.sn (x.acts.getD x.i default).v with
      | true => exact pcThere hp hn hi k0 hv hw (.inr h2)
      | false => exact pcNew hp hn hi k0 hv hw h1 h2
  by_cases k1 : (x.acts.getD x.i default).k = 1
  · by_cases hv : badV (x.acts.getD x.i default).v
    · exact ps70 hp hn hi k1 hv
    by_cases hof : x.o = x.f
    case neg => exact psF hp hn hi k1 hv hof
    obtain ⟨e, he⟩ := EnE.ex (x.acts.getD x.i default).set (timesF 1 x.f) (stC (x.acts.getD x.i default).v) x.f x.bad x.l
    by_cases h0 : e = 0
    · subst h0
      cases h2 : snB x.sn (x.acts.getD x.i default).v with
      | true => exact psT hp hn hi k1 hv hu hb' hof hf' he h2
      | false => exact psN hp hn hi k1 hv hu hb' hof hf' he h2
    · exact psE hp hn hi k1 e hv hu hb' hof hf' he h0
  by_cases k2 : (x.acts.getD x.i default).k = 2
  · by_cases h : outS x.o (shA x)
    · exact piOut hp hn hi k2 h
    by_cases hx : shA x ∈ x.l
    · exact piThere hp hn hi k2 h hx
    · exact piNew hp hn hi k2 h hx
  exact pend3 hp hn hi k0 k1 k2
noncomputable def k7 : CT Tryd.prog Γc := CT.auto false 100 3 [CoQ.c21, CoQ.c10] 7 Tryd.f7 (bodyOf Tryd.f7) false 22 [.tmp 4, .tmp 5] Tryd.func7 (by kernel_rfl) (by kernel_rfl) (by kernel_rfl) (by kernel_rfl)
noncomputable def k8 : CT Tryd.prog Γc := CT.auto false 100 3 [CoQ.c22, CoQ.c20] 8 Tryd.f8 (bodyOf Tryd.f8) false 22 [.tmp 4, .tmp 5] Tryd.func8 (by kernel_rfl) (by kernel_rfl) (by kernel_rfl) (by kernel_rfl)
noncomputable def k9 : CT Tryd.prog Γc := CT.auto false 100 3 [CoQ.c8] 9 Tryd.f9 (bodyOf Tryd.f9) false 11 [.tmp 2, .tmp 3] Tryd.func9 (by kernel_rfl) (by kernel_rfl) (by kernel_rfl) (by kernel_rfl)
noncomputable abbrev T3 : List (CT Tryd.prog Γc) := [c6, k7, k8, k9, CoQ.c13]
def A3 (f o bad : Int) (acts : List Ac) : List AV := [.v (.int .i64 f), .v (.int .i64 o), .v (.int .u32 bad), .sl 4 acts.length (lsF Ac.c acts)]
def S33 (f : Int) (acts : List Ac) : List AV × Heap := ([.sl 4 acts.length (lsF Ac.c acts), .v (.pointer none), .v (.pointer none), .ptr 0 0, .ptr 2 0, .v (.int .i64 0), .any], [coR 1 f, coM f [] [] 0, dcR 3 4 f [] [], shB [], snA []].map some)
abbrev O33 : Out := ⟨.exit 0, [.any, .any, .any, .any, .any, .any, .any], [none, none, none, none, none]⟩
noncomputable def LA (s : List AV × Heap) (o : Out) : Nat → LSpec
  | 0 => LSpec.at lv3 nl3 s o
  | _ => ⟨[], [], fun _ _ => .fail⟩
theorem r33 (f : Int) (acts : List Ac) : roundE (P := Tryd.prog) (Γ := Γc) [] Lno false 0 0 lp3 lv3 nl3 161 (S33 f acts).1 (S33 f acts).2 =
  Tree.br (bif decide ((0 : Int) < (↑(List.length acts) : Int)) then false else false) (Tree.chk (decide ((0 : Int) < (↑(List.length acts) : Int))) (Tree.br (decide ((List.getD acts (Int.toNat
    (0 : Int)) default).k = (0 : Int))) Tree.fail (Tree.br (decide ((List.getD acts (Int.toNat (0 : Int)) default).k = (1 : Int))) Tree.fail (Tree.br (decide ((List.getD acts (Int.toNat (0 :
    Int)) default).k = (2 : Int))) Tree.fail Tree.fail)))) (Tree.leaf (Out.mk (AEx.exit (0 : Nat)) [AV.sl (4 : Nat) (List.length acts) (lsF Ac.c acts), AV.v (Value.pointer none), AV.v
    (Value.pointer none), AV.ptr (0 : Nat) (0 : Nat), AV.ptr (2 : Nat) (0 : Nat), AV.v (Value.int IntKind.i64 (0 : Int)), AV.any] [some (Blk.row [AV.v (Value.int IntKind.i64 f), AV.map (1 :
    Nat)]), some (Blk.mp [Cel.int IntKind.i64] false true (0 : Nat) (hasC [] []) (valC f [] [])), some (Blk.row [AV.v (Value.int IntKind.i64 f), AV.hs (3 : Nat) (0 : Nat) (0 : Nat), AV.hs (4
    : Nat) (0 : Nat) (0 : Nat)]), some (Blk.arr (11 : Nat) (0 : Nat) (lsF Sh.c [])), some (Blk.arr (1 : Nat) (0 : Nat) (lsF I64.c []))])) := by kernel_rfl
theorem law3a (f o bad : Int) (acts : List Ac) : bodyE (P := Tryd.prog) (Γ := Γc) T3 Lno false 161 [.tmp 8] (bodyOf Tryd.f3) (A3 f o bad acts) [] =
  Tree.br (decide ((100 : Int) < (↑(List.length acts) : Int))) (Tree.leaf (Ans.mk (AV.v (Value.bool true)) [])) (Tree.chk (inU32 bad) (Tree.br (!decide (checkF o bad = (0 : Int))) (Tree.chk
    (inU32 bad) (Tree.br (!decide (checkF o bad = (0 : Int))) (Tree.chk true (Tree.br (decide (timesF (3 : Int) f = (0 : Int))) (Tree.chk true (Tree.br (decide (timesF (3 : Int) f = (0 :
    Int))) (Tree.leaf (Ans.mk (AV.sb true) [])) (Tree.br true (Tree.leaf (Ans.mk (AV.v (Value.bool false)) [])) Tree.fail))) (Tree.chk true (Tree.br (decide (timesF (3 : Int) f = (0 : Int)))
    (Tree.leaf (Ans.mk (AV.v (Value.bool false)) [])) (Tree.br (!decide (checkF o bad = checkF o bad)) (Tree.leaf (Ans.mk (AV.v (Value.bool false)) [])) Tree.fail))))) (Tree.chk (inU32 bad)
    (Tree.br (decide (o < (↑(pc bad) : Int))) (Tree.chk true (Tree.br (decide (timesF (3 : Int) f = (0 : Int))) (Tree.chk true (Tree.br (decide (timesF (3 : Int) f = (0 : Int))) (Tree.leaf
    (Ans.mk (AV.sb true) [])) (Tree.br true (Tree.leaf (Ans.mk (AV.v (Value.bool false)) [])) Tree.fail))) (Tree.chk true (Tree.br (decide (timesF (3 : Int) f = (0 : Int))) (Tree.leaf
    (Ans.mk (AV.v (Value.bool false)) [])) (Tree.br (!decide (checkF o bad = (1 : Int))) (Tree.leaf (Ans.mk (AV.v (Value.bool false)) [])) Tree.fail))))) (Tree.chk true (Tree.br (decide
    (timesF (3 : Int) f = (0 : Int))) (Tree.chk true (Tree.br (decide (timesF (3 : Int) f = (0 : Int))) (Tree.leaf (Ans.mk (AV.sb true) [])) (Tree.br true (Tree.leaf (Ans.mk (AV.v
    (Value.bool false)) [])) Tree.fail))) (Tree.chk true (Tree.br (decide (timesF (3 : Int) f = (0 : Int))) (Tree.leaf (Ans.mk (AV.v (Value.bool false)) [])) (Tree.br (!decide (checkF o bad
    = (0 : Int))) (Tree.leaf (Ans.mk (AV.v (Value.bool false)) [])) Tree.fail))))))))) (Tree.chk (inU32 bad) (Tree.br (decide (o < (↑(pc bad) : Int))) (Tree.chk (inU32 bad) (Tree.br (!decide
    (checkF o bad = (0 : Int))) (Tree.chk true (Tree.br (decide (timesF (3 : Int) f = (0 : Int))) (Tree.chk true (Tree.br (decide (timesF (3 : Int) f = (0 : Int))) (Tree.leaf (Ans.mk (AV.sb
    true) [])) (Tree.br true (Tree.leaf (Ans.mk (AV.v (Value.bool false)) [])) Tree.fail))) (Tree.chk true (Tree.br (decide (timesF (3 : Int) f = (0 : Int))) (Tree.leaf (Ans.mk (AV.v
    (Value.bool false)) [])) (Tree.br (!decide ((1 : Int) = checkF o bad)) (Tree.leaf (Ans.mk (AV.v (Value.bool false)) [])) Tree.fail))))) (Tree.chk (inU32 bad) (Tree.br (decide (o < (↑(pc
    bad) : Int))) (Tree.chk true (Tree.br (decide (timesF (3 : Int) f = (0 : Int))) (Tree.chk true (Tree.br (decide (timesF (3 : Int) f = (0 : Int))) (Tree.leaf (Ans.mk (AV.sb true) []))
    (Tree.br true (Tree.leaf (Ans.mk (AV.v (Value.bool false)) [])) Tree.fail))) (Tree.chk true (Tree.br (decide (timesF (3 : Int) f = (0 : Int))) (Tree.leaf (Ans.mk (AV.v (Value.bool
    false)) [])) (Tree.br false (Tree.leaf (Ans.mk (AV.v (Value.bool false)) [])) Tree.fail))))) (Tree.chk true (Tree.br (decide (timesF (3 : Int) f = (0 : Int))) (Tree.chk true (Tree.br
    (decide (timesF (3 : Int) f = (0 : Int))) (Tree.leaf (Ans.mk (AV.sb true) [])) (Tree.br true (Tree.leaf (Ans.mk (AV.v (Value.bool false)) [])) Tree.fail))) (Tree.chk true (Tree.br
    (decide (timesF (3 : Int) f = (0 : Int))) (Tree.leaf (Ans.mk (AV.v (Value.bool false)) [])) (Tree.br true (Tree.leaf (Ans.mk (AV.v (Value.bool false)) [])) Tree.fail))))))))) (Tree.chk
    (inU32 bad) (Tree.br (!decide (checkF o bad = (0 : Int))) (Tree.chk true (Tree.br (decide (timesF (3 : Int) f = (0 : Int))) (Tree.chk true (Tree.br (decide (timesF (3 : Int) f = (0 :
    Int))) (Tree.leaf (Ans.mk (AV.sb true) [])) (Tree.br true (Tree.leaf (Ans.mk (AV.v (Value.bool false)) [])) Tree.fail))) (Tree.chk true (Tree.br (decide (timesF (3 : Int) f = (0 : Int)))
    (Tree.leaf (Ans.mk (AV.v (Value.bool false)) [])) (Tree.br (!decide ((0 : Int) = checkF o bad)) (Tree.leaf (Ans.mk (AV.v (Value.bool false)) [])) Tree.fail))))) (Tree.chk (inU32 bad)
    (Tree.br (decide (o < (↑(pc bad) : Int))) (Tree.chk true (Tree.br (decide (timesF (3 : Int) f = (0 : Int))) (Tree.chk true (Tree.br (decide (timesF (3 : Int) f = (0 : Int))) (Tree.leaf
    (Ans.mk (AV.sb true) [])) (Tree.br true (Tree.leaf (Ans.mk (AV.v (Value.bool false)) [])) Tree.fail))) (Tree.chk true (Tree.br (decide (timesF (3 : Int) f = (0 : Int))) (Tree.leaf
    (Ans.mk (AV.v (Value.bool false)) [])) (Tree.br true (Tree.leaf (Ans.mk (AV.v (Value.bool false)) [])) Tree.fail))))) (Tree.chk true (Tree.br (decide (timesF (3 : Int) f = (0 : Int)))
    (Tree.chk true (Tree.br (decide (timesF (3 : Int) f = (0 : Int))) (Tree.leaf (Ans.mk (AV.sb true) [])) (Tree.br true (Tree.leaf (Ans.mk (AV.v (Value.bool false)) [])) Tree.fail)))
    (Tree.chk true (Tree.br (decide (timesF (3 : Int) f = (0 : Int))) (Tree.leaf (Ans.mk (AV.v (Value.bool false)) [])) (Tree.br false (Tree.leaf (Ans.mk (AV.v (Value.bool false)) []))
    Tree.fail))))))))))))) := by kernel_rfl
theorem law3n (f o bad : Int) (acts : List Ac) : bodyE (P := Tryd.prog) (Γ := Γc) T3 (LA (S33 f acts) O33) false 161 [.tmp 8] (bodyOf Tryd.f3) (A3 f o bad acts) [] =
  Tree.br (decide ((100 : Int) < (↑(List.length acts) : Int))) (Tree.leaf (Ans.mk (AV.v (Value.bool true)) [])) (Tree.chk (inU32 bad) (Tree.br (!decide (checkF o bad = (0 : Int))) (Tree.chk
    (inU32 bad) (Tree.br (!decide (checkF o bad = (0 : Int))) (Tree.chk true (Tree.br (decide (timesF (3 : Int) f = (0 : Int))) (Tree.chk true (Tree.br (decide (timesF (3 : Int) f = (0 :
    Int))) (Tree.leaf (Ans.mk (AV.sb true) [])) (Tree.br true (Tree.leaf (Ans.mk (AV.v (Value.bool false)) [])) (Tree.chk (cl (LeL [AV.sl (4 : Nat) (List.length acts) (lsF Ac.c acts), AV.v
    (Value.pointer none), AV.v (Value.pointer none), AV.v (Value.pointer none), AV.ptr (0 : Nat) (0 : Nat), AV.v (Value.int IntKind.i64 (0 : Int)), AV.v (Value.bool false)] [AV.sl (4 : Nat)
    (List.length acts) (lsF Ac.c acts), AV.v (Value.pointer none), AV.v (Value.pointer none), AV.ptr (0 : Nat) (0 : Nat), AV.ptr (2 : Nat) (0 : Nat), AV.v (Value.int IntKind.i64 (0 : Int)),
    AV.any] ∧ LeH [some (Blk.row [AV.v (Value.int IntKind.i64 f), AV.hs (1 : Nat) (0 : Nat) (0 : Nat), AV.hs (2 : Nat) (0 : Nat) (0 : Nat)]), some (Blk.arr (11 : Nat) (0 : Nat) fun x =>
    [AV.v (Value.int IntKind.i64 (0 : Int)), AV.v (Value.int IntKind.i64 (0 : Int)), AV.v (Value.int IntKind.i64 (0 : Int)), AV.v (Value.int IntKind.i64 (0 : Int)), AV.v (Value.int
    IntKind.i64 (0 : Int)), AV.v (Value.int IntKind.i64 (0 : Int)), AV.v (Value.int IntKind.i64 (0 : Int)), AV.v (Value.int IntKind.i64 (0 : Int)), AV.v (Value.int IntKind.i64 (0 : Int)),
    AV.v (Value.int IntKind.i64 (0 : Int)), AV.v (Value.int IntKind.i64 (0 : Int))]), some (Blk.arr (1 : Nat) (0 : Nat) fun x => [AV.v (Value.int IntKind.i64 (0 : Int))])] [some (Blk.row
    [AV.v (Value.int IntKind.i64 f), AV.map (1 : Nat)]), some (Blk.mp [Cel.int IntKind.i64] false true (0 : Nat) (hasC [] []) (valC f [] [])), some (Blk.row [AV.v (Value.int IntKind.i64 f),
    AV.hs (3 : Nat) (0 : Nat) (0 : Nat), AV.hs (4 : Nat) (0 : Nat) (0 : Nat)]), some (Blk.arr (11 : Nat) (0 : Nat) (lsF Sh.c [])), some (Blk.arr (1 : Nat) (0 : Nat) (lsF I64.c []))]))
    (Tree.leaf (Ans.mk (AV.v (Value.bool true)) [])))))) (Tree.chk true (Tree.br (decide (timesF (3 : Int) f = (0 : Int))) (Tree.leaf (Ans.mk (AV.v (Value.bool false)) [])) (Tree.br (!decide
    (checkF o bad = checkF o bad)) (Tree.leaf (Ans.mk (AV.v (Value.bool false)) [])) (Tree.chk (cl (LeL [AV.sl (4 : Nat) (List.length acts) (lsF Ac.c acts), AV.v (Value.pointer none), AV.v
    (Value.pointer none), AV.ptr (0 : Nat) (0 : Nat), AV.ptr (2 : Nat) (0 : Nat), AV.v (Value.int IntKind.i64 (0 : Int)), AV.v (Value.bool false)] [AV.sl (4 : Nat) (List.length acts) (lsF
    Ac.c acts), AV.v (Value.pointer none), AV.v (Value.pointer none), AV.ptr (0 : Nat) (0 : Nat), AV.ptr (2 : Nat) (0 : Nat), AV.v (Value.int IntKind.i64 (0 : Int)), AV.any] ∧ LeH [some
    (Blk.row [AV.v (Value.int IntKind.i64 f), AV.map (1 : Nat)]), some (Blk.mp [Cel.int IntKind.i64] false true (0 : Nat) (fun x => false) fun x => [AV.v (Value.int IntKind.i64 (0 : Int)),
    AV.v (Value.bool false), AV.v (Value.bool false)]), some (Blk.row [AV.v (Value.int IntKind.i64 f), AV.hs (3 : Nat) (0 : Nat) (0 : Nat), AV.hs (4 : Nat) (0 : Nat) (0 : Nat)]), some
    (Blk.arr (11 : Nat) (0 : Nat) fun x => [AV.v (Value.int IntKind.i64 (0 : Int)), AV.v (Value.int IntKind.i64 (0 : Int)), AV.v (Value.int IntKind.i64 (0 : Int)), AV.v (Value.int
    IntKind.i64 (0 : Int)), AV.v (Value.int IntKind.i64 (0 : Int)), AV.v (Value.int IntKind.i64 (0 : Int)), AV.v (Value.int IntKind.i64 (0 : Int)), AV.v (Value.int IntKind.i64 (0 : Int)),
    AV.v (Value.int IntKind.i64 (0 : Int)), AV.v (Value.int IntKind.i64 (0 : Int)), AV.v (Value.int IntKind.i64 (0 : Int))]), some (Blk.arr (1 : Nat) (0 : Nat) fun x => [AV.v (Value.int
    IntKind.i64 (0 : Int))])] [some (Blk.row [AV.v (Value.int IntKind.i64 f), AV.map (1 : Nat)]), some (Blk.mp [Cel.int IntKind.i64] false true (0 : Nat) (hasC [] []) (valC f [] [])), some
    (Blk.row [AV.v (Value.int IntKind.i64 f), AV.hs (3 : Nat) (0 : Nat) (0 : Nat), AV.hs (4 : Nat) (0 : Nat) (0 : Nat)]), some (Blk.arr (11 : Nat) (0 : Nat) (lsF Sh.c [])), some (Blk.arr (1
    : Nat) (0 : Nat) (lsF I64.c []))])) (Tree.leaf (Ans.mk (AV.v (Value.bool true)) [])))))))) (Tree.chk (inU32 bad) (Tree.br (decide (o < (↑(pc bad) : Int))) (Tree.chk true (Tree.br (decide
    (timesF (3 : Int) f = (0 : Int))) (Tree.chk true (Tree.br (decide (timesF (3 : Int) f = (0 : Int))) (Tree.leaf (Ans.mk (AV.sb true) [])) (Tree.br true (Tree.leaf (Ans.mk (AV.v
    (Value.bool false)) [])) (Tree.chk (cl (LeL [AV.sl (4 : Nat) (List.length acts) (lsF Ac.c acts), AV.v (Value.pointer none), AV.v (Value.pointer none), AV.v (Value.pointer none), AV.ptr
    (0 : Nat) (0 : Nat), AV.v (Value.int IntKind.i64 (0 : Int)), AV.v (Value.bool false)] [AV.sl (4 : Nat) (List.length acts) (lsF Ac.c acts), AV.v (Value.pointer none), AV.v (Value.pointer
    none), AV.ptr (0 : Nat) (0 : Nat), AV.ptr (2 : Nat) (0 : Nat), AV.v (Value.int IntKind.i64 (0 : Int)), AV.any] ∧ LeH [some (Blk.row [AV.v (Value.int IntKind.i64 f), AV.hs (1 : Nat) (0 :
    Nat) (0 : Nat), AV.hs (2 : Nat) (0 : Nat) (0 : Nat)]), some (Blk.arr (11 : Nat) (0 : Nat) fun x => [AV.v (Value.int IntKind.i64 (0 : Int)), AV.v (Value.int IntKind.i64 (0 : Int)), AV.v
    (Value.int IntKind.i64 (0 : Int)), AV.v (Value.int IntKind.i64 (0 : Int)), AV.v (Value.int IntKind.i64 (0 : Int)), AV.v (Value.int IntKind.i64 (0 : Int)), AV.v (Value.int IntKind.i64 (0
    : Int)), AV.v (Value.int IntKind.i64 (0 : Int)), AV.v (Value.int IntKind.i64 (0 : Int)), AV.v (Value.int IntKind.i64 (0 : Int)), AV.v (Value.int IntKind.i64 (0 : Int))]), some (Blk.arr
    (1 : Nat) (0 : Nat) fun x => [AV.v (Value.int IntKind.i64 (0 : Int))])] [some (Blk.row [AV.v (Value.int IntKind.i64 f), AV.map (1 : Nat)]), some (Blk.mp [Cel.int IntKind.i64] false true
    (0 : Nat) (hasC [] []) (valC f [] [])), some (Blk.row [AV.v (Value.int IntKind.i64 f), AV.hs (3 : Nat) (0 : Nat) (0 : Nat), AV.hs (4 : Nat) (0 : Nat) (0 : Nat)]), some (Blk.arr (11 :
    Nat) (0 : Nat) (lsF Sh.c [])), some (Blk.arr (1 : Nat) (0 : Nat) (lsF I64.c []))])) (Tree.leaf (Ans.mk (AV.v (Value.bool true)) [])))))) (Tree.chk true (Tree.br (decide (timesF (3 : Int)
    f = (0 : Int))) (Tree.leaf (Ans.mk (AV.v (Value.bool false)) [])) (Tree.br (!decide (checkF o bad = (1 : Int))) (Tree.leaf (Ans.mk (AV.v (Value.bool false)) [])) (Tree.chk (cl (LeL
    [AV.sl (4 : Nat) (List.length acts) (lsF Ac.c acts), AV.v (Value.pointer none), AV.v (Value.pointer none), AV.ptr (0 : Nat) (0 : Nat), AV.ptr (2 : Nat) (0 : Nat), AV.v (Value.int
    IntKind.i64 (0 : Int)), AV.v (Value.bool false)] [AV.sl (4 : Nat) (List.length acts) (lsF Ac.c acts), AV.v (Value.pointer none), AV.v (Value.pointer none), AV.ptr (0 : Nat) (0 : Nat),
    AV.ptr (2 : Nat) (0 : Nat), AV.v (Value.int IntKind.i64 (0 : Int)), AV.any] ∧ LeH [some (Blk.row [AV.v (Value.int IntKind.i64 f), AV.map (1 : Nat)]), some (Blk.mp [Cel.int IntKind.i64]
    false true (0 : Nat) (fun x => false) fun x => [AV.v (Value.int IntKind.i64 (0 : Int)), AV.v (Value.bool false), AV.v (Value.bool false)]), some (Blk.row [AV.v (Value.int IntKind.i64 f),
    AV.hs (3 : Nat) (0 : Nat) (0 : Nat), AV.hs (4 : Nat) (0 : Nat) (0 : Nat)]), some (Blk.arr (11 : Nat) (0 : Nat) fun x => [AV.v (Value.int IntKind.i64 (0 : Int)), AV.v (Value.int
    IntKind.i64 (0 : Int)), AV.v (Value.int IntKind.i64 (0 : Int)), AV.v (Value.int IntKind.i64 (0 : Int)), AV.v (Value.int IntKind.i64 (0 : Int)), AV.v (Value.int IntKind.i64 (0 : Int)),
    AV.v (Value.int IntKind.i64 (0 : Int)), AV.v (Value.int IntKind.i64 (0 : Int)), AV.v (Value.int IntKind.i64 (0 : Int)), AV.v (Value.int IntKind.i64 (0 : Int)), AV.v (Value.int
    IntKind.i64 (0 : Int))]), some (Blk.arr (1 : Nat) (0 : Nat) fun x => [AV.v (Value.int IntKind.i64 (0 : Int))])] [some (Blk.row [AV.v (Value.int IntKind.i64 f), AV.map (1 : Nat)]), some
    (Blk.mp [Cel.int IntKind.i64] false true (0 : Nat) (hasC [] []) (valC f [] [])), some (Blk.row [AV.v (Value.int IntKind.i64 f), AV.hs (3 : Nat) (0 : Nat) (0 : Nat), AV.hs (4 : Nat) (0 :
    Nat) (0 : Nat)]), some (Blk.arr (11 : Nat) (0 : Nat) (lsF Sh.c [])), some (Blk.arr (1 : Nat) (0 : Nat) (lsF I64.c []))])) (Tree.leaf (Ans.mk (AV.v (Value.bool true)) [])))))))) (Tree.chk
    true (Tree.br (decide (timesF (3 : Int) f = (0 : Int))) (Tree.chk true (Tree.br (decide (timesF (3 : Int) f = (0 : Int))) (Tree.leaf (Ans.mk (AV.sb true) [])) (Tree.br true (Tree.leaf
    (Ans.mk (AV.v (Value.bool false)) [])) (Tree.chk (cl (LeL [AV.sl (4 : Nat) (List.length acts) (lsF Ac.c acts), AV.v (Value.pointer none), AV.ptr (0 : Nat) (0 : Nat), AV.v (Value.pointer
    none), AV.ptr (2 : Nat) (0 : Nat), AV.v (Value.int IntKind.i64 (0 : Int)), AV.v (Value.bool false)] [AV.sl (4 : Nat) (List.length acts) (lsF Ac.c acts), AV.v (Value.pointer none), AV.v
    (Value.pointer none), AV.ptr (0 : Nat) (0 : Nat), AV.ptr (2 : Nat) (0 : Nat), AV.v (Value.int IntKind.i64 (0 : Int)), AV.any] ∧ LeH [some (Blk.row [AV.v (Value.int IntKind.i64 o), AV.v
    (Value.int IntKind.u32 bad), AV.hs (1 : Nat) (0 : Nat) (0 : Nat)]), some (Blk.arr (11 : Nat) (0 : Nat) fun x => [AV.v (Value.int IntKind.i64 (0 : Int)), AV.v (Value.int IntKind.i64 (0 :
    Int)), AV.v (Value.int IntKind.i64 (0 : Int)), AV.v (Value.int IntKind.i64 (0 : Int)), AV.v (Value.int IntKind.i64 (0 : Int)), AV.v (Value.int IntKind.i64 (0 : Int)), AV.v (Value.int
    IntKind.i64 (0 : Int)), AV.v (Value.int IntKind.i64 (0 : Int)), AV.v (Value.int IntKind.i64 (0 : Int)), AV.v (Value.int IntKind.i64 (0 : Int)), AV.v (Value.int IntKind.i64 (0 : Int))]),
    some (Blk.row [AV.v (Value.int IntKind.i64 f), AV.hs (3 : Nat) (0 : Nat) (0 : Nat), AV.hs (4 : Nat) (0 : Nat) (0 : Nat)]), some (Blk.arr (11 : Nat) (0 : Nat) fun x => [AV.v (Value.int
    IntKind.i64 (0 : Int)), AV.v (Value.int IntKind.i64 (0 : Int)), AV.v (Value.int IntKind.i64 (0 : Int)), AV.v (Value.int IntKind.i64 (0 : Int)), AV.v (Value.int IntKind.i64 (0 : Int)),
    AV.v (Value.int IntKind.i64 (0 : Int)), AV.v (Value.int IntKind.i64 (0 : Int)), AV.v (Value.int IntKind.i64 (0 : Int)), AV.v (Value.int IntKind.i64 (0 : Int)), AV.v (Value.int
    IntKind.i64 (0 : Int)), AV.v (Value.int IntKind.i64 (0 : Int))]), some (Blk.arr (1 : Nat) (0 : Nat) fun x => [AV.v (Value.int IntKind.i64 (0 : Int))])] [some (Blk.row [AV.v (Value.int
    IntKind.i64 f), AV.map (1 : Nat)]), some (Blk.mp [Cel.int IntKind.i64] false true (0 : Nat) (hasC [] []) (valC f [] [])), some (Blk.row [AV.v (Value.int IntKind.i64 f), AV.hs (3 : Nat)
    (0 : Nat) (0 : Nat), AV.hs (4 : Nat) (0 : Nat) (0 : Nat)]), some (Blk.arr (11 : Nat) (0 : Nat) (lsF Sh.c [])), some (Blk.arr (1 : Nat) (0 : Nat) (lsF I64.c []))])) (Tree.leaf (Ans.mk
    (AV.v (Value.bool true)) [])))))) (Tree.chk true (Tree.br (decide (timesF (3 : Int) f = (0 : Int))) (Tree.leaf (Ans.mk (AV.v (Value.bool false)) [])) (Tree.br (!decide (checkF o bad = (0
    : Int))) (Tree.leaf (Ans.mk (AV.v (Value.bool false)) [])) (Tree.chk (cl (LeL [AV.sl (4 : Nat) (List.length acts) (lsF Ac.c acts), AV.v (Value.pointer none), AV.ptr (0 : Nat) (0 : Nat),
    AV.ptr (2 : Nat) (0 : Nat), AV.ptr (4 : Nat) (0 : Nat), AV.v (Value.int IntKind.i64 (0 : Int)), AV.v (Value.bool false)] [AV.sl (4 : Nat) (List.length acts) (lsF Ac.c acts), AV.v
    (Value.pointer none), AV.v (Value.pointer none), AV.ptr (0 : Nat) (0 : Nat), AV.ptr (2 : Nat) (0 : Nat), AV.v (Value.int IntKind.i64 (0 : Int)), AV.any] ∧ LeH [some (Blk.row [AV.v
    (Value.int IntKind.i64 o), AV.v (Value.int IntKind.u32 bad), AV.hs (1 : Nat) (0 : Nat) (0 : Nat)]), some (Blk.arr (11 : Nat) (0 : Nat) fun x => [AV.v (Value.int IntKind.i64 (0 : Int)),
    AV.v (Value.int IntKind.i64 (0 : Int)), AV.v (Value.int IntKind.i64 (0 : Int)), AV.v (Value.int IntKind.i64 (0 : Int)), AV.v (Value.int IntKind.i64 (0 : Int)), AV.v (Value.int
    IntKind.i64 (0 : Int)), AV.v (Value.int IntKind.i64 (0 : Int)), AV.v (Value.int IntKind.i64 (0 : Int)), AV.v (Value.int IntKind.i64 (0 : Int)), AV.v (Value.int IntKind.i64 (0 : Int)),
    AV.v (Value.int IntKind.i64 (0 : Int))]), some (Blk.row [AV.v (Value.int IntKind.i64 f), AV.map (3 : Nat)]), some (Blk.mp [Cel.int IntKind.i64] false true (0 : Nat) (fun x => false) fun
    x => [AV.v (Value.int IntKind.i64 (0 : Int)), AV.v (Value.bool false), AV.v (Value.bool false)]), some (Blk.row [AV.v (Value.int IntKind.i64 f), AV.hs (5 : Nat) (0 : Nat) (0 : Nat),
    AV.hs (6 : Nat) (0 : Nat) (0 : Nat)]), some (Blk.arr (11 : Nat) (0 : Nat) fun x => [AV.v (Value.int IntKind.i64 (0 : Int)), AV.v (Value.int IntKind.i64 (0 : Int)), AV.v (Value.int
    IntKind.i64 (0 : Int)), AV.v (Value.int IntKind.i64 (0 : Int)), AV.v (Value.int IntKind.i64 (0 : Int)), AV.v (Value.int IntKind.i64 (0 : Int)), AV.v (Value.int IntKind.i64 (0 : Int)),
    AV.v (Value.int IntKind.i64 (0 : Int)), AV.v (Value.int IntKind.i64 (0 : Int)), AV.v (Value.int IntKind.i64 (0 : Int)), AV.v (Value.int IntKind.i64 (0 : Int))]), some (Blk.arr (1 : Nat)
    (0 : Nat) fun x => [AV.v (Value.int IntKind.i64 (0 : Int))])] [some (Blk.row [AV.v (Value.int IntKind.i64 f), AV.map (1 : Nat)]), some (Blk.mp [Cel.int IntKind.i64] false true (0 : Nat)
    (hasC [] []) (valC f [] [])), some (Blk.row [AV.v (Value.int IntKind.i64 f), AV.hs (3 : Nat) (0 : Nat) (0 : Nat), AV.hs (4 : Nat) (0 : Nat) (0 : Nat)]), some (Blk.arr (11 : Nat) (0 :
    Nat) (lsF Sh.c [])), some (Blk.arr (1 : Nat) (0 : Nat) (lsF I64.c []))])) (Tree.leaf (Ans.mk (AV.v (Value.bool true)) [])))))))))))) (Tree.chk (inU32 bad) (Tree.br (decide (o < (↑(pc
    bad) : Int))) (Tree.chk (inU32 bad) (Tree.br (!decide (checkF o bad = (0 : Int))) (Tree.chk true (Tree.br (decide (timesF (3 : Int) f = (0 : Int))) (Tree.chk true (Tree.br (decide
    (timesF (3 : Int) f = (0 : Int))) (Tree.leaf (Ans.mk (AV.sb true) [])) (Tree.br true (Tree.leaf (Ans.mk (AV.v (Value.bool false)) [])) (Tree.chk (cl (LeL [AV.sl (4 : Nat) (List.length
    acts) (lsF Ac.c acts), AV.v (Value.pointer none), AV.v (Value.pointer none), AV.v (Value.pointer none), AV.ptr (0 : Nat) (0 : Nat), AV.v (Value.int IntKind.i64 (0 : Int)), AV.v
    (Value.bool false)] [AV.sl (4 : Nat) (List.length acts) (lsF Ac.c acts), AV.v (Value.pointer none), AV.v (Value.pointer none), AV.ptr (0 : Nat) (0 : Nat), AV.ptr (2 : Nat) (0 : Nat),
    AV.v (Value.int IntKind.i64 (0 : Int)), AV.any] ∧ LeH [some (Blk.row [AV.v (Value.int IntKind.i64 f), AV.hs (1 : Nat) (0 : Nat) (0 : Nat), AV.hs (2 : Nat) (0 : Nat) (0 : Nat)]), some
    (Blk.arr (11 : Nat) (0 : Nat) fun x => [AV.v (Value.int IntKind.i64 (0 : Int)), AV.v (Value.int IntKind.i64 (0 : Int)), AV.v (Value.int IntKind.i64 (0 : Int)), AV.v (Value.int
    IntKind.i64 (0 : Int)), AV.v (Value.int IntKind.i64 (0 : Int)), AV.v (Value.int IntKind.i64 (0 : Int)), AV.v (Value.int IntKind.i64 (0 : Int)), AV.v (Value.int IntKind.i64 (0 : Int)),
    AV.v (Value.int IntKind.i64 (0 : Int)), AV.v (Value.int IntKind.i64 (0 : Int)), AV.v (Value.int IntKind.i64 (0 : Int))]), some (Blk.arr (1 : Nat) (0 : Nat) fun x => [AV.v (Value.int
    IntKind.i64 (0 : Int))])] [some (Blk.row [AV.v (Value.int IntKind.i64 f), AV.map (1 : Nat)]), some (Blk.mp [Cel.int IntKind.i64] false true (0 : Nat) (hasC [] []) (valC f [] [])), some
    (Blk.row [AV.v (Value.int IntKind.i64 f), AV.hs (3 : Nat) (0 : Nat) (0 : Nat), AV.hs (4 : Nat) (0 : Nat) (0 : Nat)]), some (Blk.arr (11 : Nat) (0 : Nat) (lsF Sh.c [])), some (Blk.arr (1
    : Nat) (0 : Nat) (lsF I64.c []))])) (Tree.leaf (Ans.mk (AV.v (Value.bool true)) [])))))) (Tree.chk true (Tree.br (decide (timesF (3 : Int) f = (0 : Int))) (Tree.leaf (Ans.mk (AV.v
    (Value.bool false)) [])) (Tree.br (!decide ((1 : Int) = checkF o bad)) (Tree.leaf (Ans.mk (AV.v (Value.bool false)) [])) (Tree.chk (cl (LeL [AV.sl (4 : Nat) (List.length acts) (lsF Ac.c
    acts), AV.v (Value.pointer none), AV.v (Value.pointer none), AV.ptr (0 : Nat) (0 : Nat), AV.ptr (2 : Nat) (0 : Nat), AV.v (Value.int IntKind.i64 (0 : Int)), AV.v (Value.bool false)]
    [AV.sl (4 : Nat) (List.length acts) (lsF Ac.c acts), AV.v (Value.pointer none), AV.v (Value.pointer none), AV.ptr (0 : Nat) (0 : Nat), AV.ptr (2 : Nat) (0 : Nat), AV.v (Value.int
    IntKind.i64 (0 : Int)), AV.any] ∧ LeH [some (Blk.row [AV.v (Value.int IntKind.i64 f), AV.map (1 : Nat)]), some (Blk.mp [Cel.int IntKind.i64] false true (0 : Nat) (fun x => false) fun x
    => [AV.v (Value.int IntKind.i64 (0 : Int)), AV.v (Value.bool false), AV.v (Value.bool false)]), some (Blk.row [AV.v (Value.int IntKind.i64 f), AV.hs (3 : Nat) (0 : Nat) (0 : Nat), AV.hs
    (4 : Nat) (0 : Nat) (0 : Nat)]), some (Blk.arr (11 : Nat) (0 : Nat) fun x => [AV.v (Value.int IntKind.i64 (0 : Int)), AV.v (Value.int IntKind.i64 (0 : Int)), AV.v (Value.int IntKind.i64
    (0 : Int)), AV.v (Value.int IntKind.i64 (0 : Int)), AV.v (Value.int IntKind.i64 (0 : Int)), AV.v (Value.int IntKind.i64 (0 : Int)), AV.v (Value.int IntKind.i64 (0 : Int)), AV.v
    (Value.int IntKind.i64 (0 : Int)), AV.v (Value.int IntKind.i64 (0 : Int)), AV.v (Value.int IntKind.i64 (0 : Int)), AV.v (Value.int IntKind.i64 (0 : Int))]), some (Blk.arr (1 : Nat) (0 :
    Nat) fun x => [AV.v (Value.int IntKind.i64 (0 : Int))])] [some (Blk.row [AV.v (Value.int IntKind.i64 f), AV.map (1 : Nat)]), some (Blk.mp [Cel.int IntKind.i64] false true (0 : Nat) (hasC
    [] []) (valC f [] [])), some (Blk.row [AV.v (Value.int IntKind.i64 f), AV.hs (3 : Nat) (0 : Nat) (0 : Nat), AV.hs (4 : Nat) (0 : Nat) (0 : Nat)]), some (Blk.arr (11 : Nat) (0 : Nat) (lsF
    Sh.c [])), some (Blk.arr (1 : Nat) (0 : Nat) (lsF I64.c []))])) (Tree.leaf (Ans.mk (AV.v (Value.bool true)) [])))))))) (Tree.chk (inU32 bad) (Tree.br (decide (o < (↑(pc bad) : Int)))
    (Tree.chk true (Tree.br (decide (timesF (3 : Int) f = (0 : Int))) (Tree.chk true (Tree.br (decide (timesF (3 : Int) f = (0 : Int))) (Tree.leaf (Ans.mk (AV.sb true) [])) (Tree.br true
    (Tree.leaf (Ans.mk (AV.v (Value.bool false)) [])) (Tree.chk (cl (LeL [AV.sl (4 : Nat) (List.length acts) (lsF Ac.c acts), AV.v (Value.pointer none), AV.v (Value.pointer none), AV.v
    (Value.pointer none), AV.ptr (0 : Nat) (0 : Nat), AV.v (Value.int IntKind.i64 (0 : Int)), AV.v (Value.bool false)] [AV.sl (4 : Nat) (List.length acts) (lsF Ac.c acts), AV.v
    (Value.pointer none), AV.v (Value.pointer none), AV.ptr (0 : Nat) (0 : Nat), AV.ptr (2 : Nat) (0 : Nat), AV.v (Value.int IntKind.i64 (0 : Int)), AV.any] ∧ LeH [some (Blk.row [AV.v
    (Value.int IntKind.i64 f), AV.hs (1 : Nat) (0 : Nat) (0 : Nat), AV.hs (2 : Nat) (0 : Nat) (0 : Nat)]), some (Blk.arr (11 : Nat) (0 : Nat) fun x => [AV.v (Value.int IntKind.i64 (0 :
    Int)), AV.v (Value.int IntKind.i64 (0 : Int)), AV.v (Value.int IntKind.i64 (0 : Int)), AV.v (Value.int IntKind.i64 (0 : Int)), AV.v (Value.int IntKind.i64 (0 : Int)), AV.v (Value.int
    IntKind.i64 (0 : Int)), AV.v (Value.int IntKind.i64 (0 : Int)), AV.v (Value.int IntKind.i64 (0 : Int)), AV.v (Value.int IntKind.i64 (0 : Int)), AV.v (Value.int IntKind.i64 (0 : Int)),
    AV.v (Value.int IntKind.i64 (0 : Int))]), some (Blk.arr (1 : Nat) (0 : Nat) fun x => [AV.v (Value.int IntKind.i64 (0 : Int))])] [some (Blk.row [AV.v (Value.int IntKind.i64 f), AV.map (1
    : Nat)]), some (Blk.mp [Cel.int IntKind.i64] false true (0 : Nat) (hasC [] []) (valC f [] [])), some (Blk.row [AV.v (Value.int IntKind.i64 f), AV.hs (3 : Nat) (0 : Nat) (0 : Nat), AV.hs
    (4 : Nat) (0 : Nat) (0 : Nat)]), some (Blk.arr (11 : Nat) (0 : Nat) (lsF Sh.c [])), some (Blk.arr (1 : Nat) (0 : Nat) (lsF I64.c []))])) (Tree.leaf (Ans.mk (AV.v (Value.bool true))
    [])))))) (Tree.chk true (Tree.br (decide (timesF (3 : Int) f = (0 : Int))) (Tree.leaf (Ans.mk (AV.v (Value.bool false)) [])) (Tree.br false (Tree.leaf (Ans.mk (AV.v (Value.bool false))
    [])) (Tree.chk (cl (LeL [AV.sl (4 : Nat) (List.length acts) (lsF Ac.c acts), AV.v (Value.pointer none), AV.v (Value.pointer none), AV.ptr (0 : Nat) (0 : Nat), AV.ptr (2 : Nat) (0 : Nat),
    AV.v (Value.int IntKind.i64 (0 : Int)), AV.v (Value.bool false)] [AV.sl (4 : Nat) (List.length acts) (lsF Ac.c acts), AV.v (Value.pointer none), AV.v (Value.pointer none), AV.ptr (0 :
    Nat) (0 : Nat), AV.ptr (2 : Nat) (0 : Nat), AV.v (Value.int IntKind.i64 (0 : Int)), AV.any] ∧ LeH [some (Blk.row [AV.v (Value.int IntKind.i64 f), AV.map (1 : Nat)]), some (Blk.mp
    [Cel.int IntKind.i64] false true (0 : Nat) (fun x => false) fun x => [AV.v (Value.int IntKind.i64 (0 : Int)), AV.v (Value.bool false), AV.v (Value.bool false)]), some (Blk.row [AV.v
    (Value.int IntKind.i64 f), AV.hs (3 : Nat) (0 : Nat) (0 : Nat), AV.hs (4 : Nat) (0 : Nat) (0 : Nat)]), some (Blk.arr (11 : Nat) (0 : Nat) fun x => [AV.v (Value.int IntKind.i64 (0 :
    Int)), AV.v (Value.int IntKind.i64 (0 : Int)), AV.v (Value.int IntKind.i64 (0 : Int)), AV.v (Value.int IntKind.i64 (0 : Int)), AV.v (Value.int IntKind.i64 (0 : Int)), AV.v (Value.int
    IntKind.i64 (0 : Int)), AV.v (Value.int IntKind.i64 (0 : Int)), AV.v (Value.int IntKind.i64 (0 : Int)), AV.v (Value.int IntKind.i64 (0 : Int)), AV.v (Value.int IntKind.i64 (0 : Int)),
    AV.v (Value.int IntKind.i64 (0 : Int))]), some (Blk.arr (1 : Nat) (0 : Nat) fun x => [AV.v (Value.int IntKind.i64 (0 : Int))])] [some (Blk.row [AV.v (Value.int IntKind.i64 f), AV.map (1
    : Nat)]), some (Blk.mp [Cel.int IntKind.i64] false true (0 : Nat) (hasC [] []) (valC f [] [])), some (Blk.row [AV.v (Value.int IntKind.i64 f), AV.hs (3 : Nat) (0 : Nat) (0 : Nat), AV.hs
    (4 : Nat) (0 : Nat) (0 : Nat)]), some (Blk.arr (11 : Nat) (0 : Nat) (lsF Sh.c [])), some (Blk.arr (1 : Nat) (0 : Nat) (lsF I64.c []))])) (Tree.leaf (Ans.mk (AV.v (Value.bool true))
    [])))))))) (Tree.chk true (Tree.br (decide (timesF (3 : Int) f = (0 : Int))) (Tree.chk true (Tree.br (decide (timesF (3 : Int) f = (0 : Int))) (Tree.leaf (Ans.mk (AV.sb true) []))
    (Tree.br true (Tree.leaf (Ans.mk (AV.v (Value.bool false)) [])) (Tree.chk (cl (LeL [AV.sl (4 : Nat) (List.length acts) (lsF Ac.c acts), AV.v (Value.pointer none), AV.ptr (0 : Nat) (0 :
    Nat), AV.v (Value.pointer none), AV.ptr (2 : Nat) (0 : Nat), AV.v (Value.int IntKind.i64 (0 : Int)), AV.v (Value.bool false)] [AV.sl (4 : Nat) (List.length acts) (lsF Ac.c acts), AV.v
    (Value.pointer none), AV.v (Value.pointer none), AV.ptr (0 : Nat) (0 : Nat), AV.ptr (2 : Nat) (0 : Nat), AV.v (Value.int IntKind.i64 (0 : Int)), AV.any] ∧ LeH [some (Blk.row [AV.v
    (Value.int IntKind.i64 o), AV.v (Value.int IntKind.u32 bad), AV.hs (1 : Nat) (0 : Nat) (0 : Nat)]), some (Blk.arr (11 : Nat) (0 : Nat) fun x => [AV.v (Value.int IntKind.i64 (0 : Int)),
    AV.v (Value.int IntKind.i64 (0 : Int)), AV.v (Value.int IntKind.i64 (0 : Int)), AV.v (Value.int IntKind.i64 (0 : Int)), AV.v (Value.int IntKind.i64 (0 : Int)), AV.v (Value.int
    IntKind.i64 (0 : Int)), AV.v (Value.int IntKind.i64 (0 : Int)), AV.v (Value.int IntKind.i64 (0 : Int)), AV.v (Value.int IntKind.i64 (0 : Int)), AV.v (Value.int IntKind.i64 (0 : Int)),
    AV.v (Value.int IntKind.i64 (0 : Int))]), some (Blk.row [AV.v (Value.int IntKind.i64 f), AV.hs (3 : Nat) (0 : Nat) (0 : Nat), AV.hs (4 : Nat) (0 : Nat) (0 : Nat)]), some (Blk.arr (11 :
    Nat) (0 : Nat) fun x => [AV.v (Value.int IntKind.i64 (0 : Int)), AV.v (Value.int IntKind.i64 (0 : Int)), AV.v (Value.int IntKind.i64 (0 : Int)), AV.v (Value.int IntKind.i64 (0 : Int)),
    AV.v (Value.int IntKind.i64 (0 : Int)), AV.v (Value.int IntKind.i64 (0 : Int)), AV.v (Value.int IntKind.i64 (0 : Int)), AV.v (Value.int IntKind.i64 (0 : Int)), AV.v (Value.int
    IntKind.i64 (0 : Int)), AV.v (Value.int IntKind.i64 (0 : Int)), AV.v (Value.int IntKind.i64 (0 : Int))]), some (Blk.arr (1 : Nat) (0 : Nat) fun x => [AV.v (Value.int IntKind.i64 (0 :
    Int))])] [some (Blk.row [AV.v (Value.int IntKind.i64 f), AV.map (1 : Nat)]), some (Blk.mp [Cel.int IntKind.i64] false true (0 : Nat) (hasC [] []) (valC f [] [])), some (Blk.row [AV.v
    (Value.int IntKind.i64 f), AV.hs (3 : Nat) (0 : Nat) (0 : Nat), AV.hs (4 : Nat) (0 : Nat) (0 : Nat)]), some (Blk.arr (11 : Nat) (0 : Nat) (lsF Sh.c [])), some (Blk.arr (1 : Nat) (0 :
    Nat) (lsF I64.c []))])) (Tree.leaf (Ans.mk (AV.v (Value.bool true)) [])))))) (Tree.chk true (Tree.br (decide (timesF (3 : Int) f = (0 : Int))) (Tree.leaf (Ans.mk (AV.v (Value.bool
    false)) [])) (Tree.br true (Tree.leaf (Ans.mk (AV.v (Value.bool false)) [])) (Tree.chk (cl (LeL [AV.sl (4 : Nat) (List.length acts) (lsF Ac.c acts), AV.v (Value.pointer none), AV.ptr (0
    : Nat) (0 : Nat), AV.ptr (2 : Nat) (0 : Nat), AV.ptr (4 : Nat) (0 : Nat), AV.v (Value.int IntKind.i64 (0 : Int)), AV.v (Value.bool false)] [AV.sl (4 : Nat) (List.length acts) (lsF Ac.c
    acts), AV.v (Value.pointer none), AV.v (Value.pointer none), AV.ptr (0 : Nat) (0 : Nat), AV.ptr (2 : Nat) (0 : Nat), AV.v (Value.int IntKind.i64 (0 : Int)), AV.any] ∧ LeH [some (Blk.row
    [AV.v (Value.int IntKind.i64 o), AV.v (Value.int IntKind.u32 bad), AV.hs (1 : Nat) (0 : Nat) (0 : Nat)]), some (Blk.arr (11 : Nat) (0 : Nat) fun x => [AV.v (Value.int IntKind.i64 (0 :
    Int)), AV.v (Value.int IntKind.i64 (0 : Int)), AV.v (Value.int IntKind.i64 (0 : Int)), AV.v (Value.int IntKind.i64 (0 : Int)), AV.v (Value.int IntKind.i64 (0 : Int)), AV.v (Value.int
    IntKind.i64 (0 : Int)), AV.v (Value.int IntKind.i64 (0 : Int)), AV.v (Value.int IntKind.i64 (0 : Int)), AV.v (Value.int IntKind.i64 (0 : Int)), AV.v (Value.int IntKind.i64 (0 : Int)),
    AV.v (Value.int IntKind.i64 (0 : Int))]), some (Blk.row [AV.v (Value.int IntKind.i64 f), AV.map (3 : Nat)]), some (Blk.mp [Cel.int IntKind.i64] false true (0 : Nat) (fun x => false) fun
    x => [AV.v (Value.int IntKind.i64 (0 : Int)), AV.v (Value.bool false), AV.v (Value.bool false)]), some (Blk.row [AV.v (Value.int IntKind.i64 f), AV.hs (5 : Nat) (0 : Nat) (0 : Nat),
    AV.hs (6 : Nat) (0 : Nat) (0 : Nat)]), some (Blk.arr (11 : Nat) (0 : Nat) fun x => [AV.v (Value.int IntKind.i64 (0 : Int)), AV.v (Value.int IntKind.i64 (0 : Int)), AV.v (Value.int
    IntKind.i64 (0 : Int)), AV.v (Value.int IntKind.i64 (0 : Int)), AV.v (Value.int IntKind.i64 (0 : Int)), AV.v (Value.int IntKind.i64 (0 : Int)), AV.v (Value.int IntKind.i64 (0 : Int)),
    AV.v (Value.int IntKind.i64 (0 : Int)), AV.v (Value.int IntKind.i64 (0 : Int)), AV.v (Value.int IntKind.i64 (0 : Int)), AV.v (Value.int IntKind.i64 (0 : Int))]), some (Blk.arr (1 : Nat)
    (0 : Nat) fun x => [AV.v (Value.int IntKind.i64 (0 : Int))])] [some (Blk.row [AV.v (Value.int IntKind.i64 f), AV.map (1 : Nat)]), some (Blk.mp [Cel.int IntKind.i64] false true (0 : Nat)
    (hasC [] []) (valC f [] [])), some (Blk.row [AV.v (Value.int IntKind.i64 f), AV.hs (3 : Nat) (0 : Nat) (0 : Nat), AV.hs (4 : Nat) (0 : Nat) (0 : Nat)]), some (Blk.arr (11 : Nat) (0 :
    Nat) (lsF Sh.c [])), some (Blk.arr (1 : Nat) (0 : Nat) (lsF I64.c []))])) (Tree.leaf (Ans.mk (AV.v (Value.bool true)) [])))))))))))) (Tree.chk (inU32 bad) (Tree.br (!decide (checkF o bad
    = (0 : Int))) (Tree.chk true (Tree.br (decide (timesF (3 : Int) f = (0 : Int))) (Tree.chk true (Tree.br (decide (timesF (3 : Int) f = (0 : Int))) (Tree.leaf (Ans.mk (AV.sb true) []))
    (Tree.br true (Tree.leaf (Ans.mk (AV.v (Value.bool false)) [])) (Tree.chk (cl (LeL [AV.sl (4 : Nat) (List.length acts) (lsF Ac.c acts), AV.ptr (0 : Nat) (0 : Nat), AV.v (Value.pointer
    none), AV.v (Value.pointer none), AV.ptr (3 : Nat) (0 : Nat), AV.v (Value.int IntKind.i64 (0 : Int)), AV.v (Value.bool false)] [AV.sl (4 : Nat) (List.length acts) (lsF Ac.c acts), AV.v
    (Value.pointer none), AV.v (Value.pointer none), AV.ptr (0 : Nat) (0 : Nat), AV.ptr (2 : Nat) (0 : Nat), AV.v (Value.int IntKind.i64 (0 : Int)), AV.any] ∧ LeH [some (Blk.row [AV.v
    (Value.int IntKind.i64 o), AV.v (Value.int IntKind.u32 bad), AV.map (1 : Nat), AV.hs (2 : Nat) (0 : Nat) (0 : Nat)]), some (Blk.mp [Cel.int IntKind.i64, Cel.int IntKind.i64, Cel.int
    IntKind.i64, Cel.int IntKind.i64, Cel.int IntKind.i64, Cel.int IntKind.i64, Cel.int IntKind.i64, Cel.int IntKind.i64, Cel.int IntKind.i64, Cel.int IntKind.i64, Cel.int IntKind.i64] true
    false (0 : Nat) (fun x => false) fun x => [AV.v (Value.int IntKind.i64 (0 : Int))]), some (Blk.arr (11 : Nat) (0 : Nat) fun x => [AV.v (Value.int IntKind.i64 (0 : Int)), AV.v (Value.int
    IntKind.i64 (0 : Int)), AV.v (Value.int IntKind.i64 (0 : Int)), AV.v (Value.int IntKind.i64 (0 : Int)), AV.v (Value.int IntKind.i64 (0 : Int)), AV.v (Value.int IntKind.i64 (0 : Int)),
    AV.v (Value.int IntKind.i64 (0 : Int)), AV.v (Value.int IntKind.i64 (0 : Int)), AV.v (Value.int IntKind.i64 (0 : Int)), AV.v (Value.int IntKind.i64 (0 : Int)), AV.v (Value.int
    IntKind.i64 (0 : Int))]), some (Blk.row [AV.v (Value.int IntKind.i64 f), AV.hs (4 : Nat) (0 : Nat) (0 : Nat), AV.hs (5 : Nat) (0 : Nat) (0 : Nat)]), some (Blk.arr (11 : Nat) (0 : Nat)
    fun x => [AV.v (Value.int IntKind.i64 (0 : Int)), AV.v (Value.int IntKind.i64 (0 : Int)), AV.v (Value.int IntKind.i64 (0 : Int)), AV.v (Value.int IntKind.i64 (0 : Int)), AV.v (Value.int
    IntKind.i64 (0 : Int)), AV.v (Value.int IntKind.i64 (0 : Int)), AV.v (Value.int IntKind.i64 (0 : Int)), AV.v (Value.int IntKind.i64 (0 : Int)), AV.v (Value.int IntKind.i64 (0 : Int)),
    AV.v (Value.int IntKind.i64 (0 : Int)), AV.v (Value.int IntKind.i64 (0 : Int))]), some (Blk.arr (1 : Nat) (0 : Nat) fun x => [AV.v (Value.int IntKind.i64 (0 : Int))])] [some (Blk.row
    [AV.v (Value.int IntKind.i64 f), AV.map (1 : Nat)]), some (Blk.mp [Cel.int IntKind.i64] false true (0 : Nat) (hasC [] []) (valC f [] [])), some (Blk.row [AV.v (Value.int IntKind.i64 f),
    AV.hs (3 : Nat) (0 : Nat) (0 : Nat), AV.hs (4 : Nat) (0 : Nat) (0 : Nat)]), some (Blk.arr (11 : Nat) (0 : Nat) (lsF Sh.c [])), some (Blk.arr (1 : Nat) (0 : Nat) (lsF I64.c []))]))
    (Tree.leaf (Ans.mk (AV.v (Value.bool true)) [])))))) (Tree.chk true (Tree.br (decide (timesF (3 : Int) f = (0 : Int))) (Tree.leaf (Ans.mk (AV.v (Value.bool false)) [])) (Tree.br (!decide
    ((0 : Int) = checkF o bad)) (Tree.leaf (Ans.mk (AV.v (Value.bool false)) [])) (Tree.chk (cl (LeL [AV.sl (4 : Nat) (List.length acts) (lsF Ac.c acts), AV.ptr (0 : Nat) (0 : Nat), AV.v
    (Value.pointer none), AV.ptr (3 : Nat) (0 : Nat), AV.ptr (5 : Nat) (0 : Nat), AV.v (Value.int IntKind.i64 (0 : Int)), AV.v (Value.bool false)] [AV.sl (4 : Nat) (List.length acts) (lsF
    Ac.c acts), AV.v (Value.pointer none), AV.v (Value.pointer none), AV.ptr (0 : Nat) (0 : Nat), AV.ptr (2 : Nat) (0 : Nat), AV.v (Value.int IntKind.i64 (0 : Int)), AV.any] ∧ LeH [some
    (Blk.row [AV.v (Value.int IntKind.i64 o), AV.v (Value.int IntKind.u32 bad), AV.map (1 : Nat), AV.hs (2 : Nat) (0 : Nat) (0 : Nat)]), some (Blk.mp [Cel.int IntKind.i64, Cel.int
    IntKind.i64, Cel.int IntKind.i64, Cel.int IntKind.i64, Cel.int IntKind.i64, Cel.int IntKind.i64, Cel.int IntKind.i64, Cel.int IntKind.i64, Cel.int IntKind.i64, Cel.int IntKind.i64,
    Cel.int IntKind.i64] true false (0 : Nat) (fun x => false) fun x => [AV.v (Value.int IntKind.i64 (0 : Int))]), some (Blk.arr (11 : Nat) (0 : Nat) fun x => [AV.v (Value.int IntKind.i64 (0
    : Int)), AV.v (Value.int IntKind.i64 (0 : Int)), AV.v (Value.int IntKind.i64 (0 : Int)), AV.v (Value.int IntKind.i64 (0 : Int)), AV.v (Value.int IntKind.i64 (0 : Int)), AV.v (Value.int
    IntKind.i64 (0 : Int)), AV.v (Value.int IntKind.i64 (0 : Int)), AV.v (Value.int IntKind.i64 (0 : Int)), AV.v (Value.int IntKind.i64 (0 : Int)), AV.v (Value.int IntKind.i64 (0 : Int)),
    AV.v (Value.int IntKind.i64 (0 : Int))]), some (Blk.row [AV.v (Value.int IntKind.i64 f), AV.map (4 : Nat)]), some (Blk.mp [Cel.int IntKind.i64] false true (0 : Nat) (fun x => false) fun
    x => [AV.v (Value.int IntKind.i64 (0 : Int)), AV.v (Value.bool false), AV.v (Value.bool false)]), some (Blk.row [AV.v (Value.int IntKind.i64 f), AV.hs (6 : Nat) (0 : Nat) (0 : Nat),
    AV.hs (7 : Nat) (0 : Nat) (0 : Nat)]), some (Blk.arr (11 : Nat) (0 : Nat) fun x => [AV.v (Value.int IntKind.i64 (0 : Int)), AV.v (Value.int IntKind.i64 (0 : Int)), AV.v (Value.int
    IntKind.i64 (0 : Int)), AV.v (Value.int IntKind.i64 (0 : Int)), AV.v (Value.int IntKind.i64 (0 : Int)), AV.v (Value.int IntKind.i64 (0 : Int)), AV.v (Value.int IntKind.i64 (0 : Int)),
    AV.v (Value.int IntKind.i64 (0 : Int)), AV.v (Value.int IntKind.i64 (0 : Int)), AV.v (Value.int IntKind.i64 (0 : Int)), AV.v (Value.int IntKind.i64 (0 : Int))]), some (Blk.arr (1 : Nat)
    (0 : Nat) fun x => [AV.v (Value.int IntKind.i64 (0 : Int))])] [some (Blk.row [AV.v (Value.int IntKind.i64 f), AV.map (1 : Nat)]), some (Blk.mp [Cel.int IntKind.i64] false true (0 : Nat)
    (hasC [] []) (valC f [] [])), some (Blk.row [AV.v (Value.int IntKind.i64 f), AV.hs (3 : Nat) (0 : Nat) (0 : Nat), AV.hs (4 : Nat) (0 : Nat) (0 : Nat)]), some (Blk.arr (11 : Nat) (0 :
    Nat) (lsF Sh.c [])), some (Blk.arr (1 : Nat) (0 : Nat) (lsF I64.c []))])) (Tree.leaf (Ans.mk (AV.v (Value.bool true)) [])))))))) (Tree.chk (inU32 bad) (Tree.br (decide (o < (↑(pc bad) :
    Int))) (Tree.chk true (Tree.br (decide (timesF (3 : Int) f = (0 : Int))) (Tree.chk true (Tree.br (decide (timesF (3 : Int) f = (0 : Int))) (Tree.leaf (Ans.mk (AV.sb true) [])) (Tree.br
    true (Tree.leaf (Ans.mk (AV.v (Value.bool false)) [])) (Tree.chk (cl (LeL [AV.sl (4 : Nat) (List.length acts) (lsF Ac.c acts), AV.ptr (0 : Nat) (0 : Nat), AV.v (Value.pointer none), AV.v
    (Value.pointer none), AV.ptr (3 : Nat) (0 : Nat), AV.v (Value.int IntKind.i64 (0 : Int)), AV.v (Value.bool false)] [AV.sl (4 : Nat) (List.length acts) (lsF Ac.c acts), AV.v
    (Value.pointer none), AV.v (Value.pointer none), AV.ptr (0 : Nat) (0 : Nat), AV.ptr (2 : Nat) (0 : Nat), AV.v (Value.int IntKind.i64 (0 : Int)), AV.any] ∧ LeH [some (Blk.row [AV.v
    (Value.int IntKind.i64 o), AV.v (Value.int IntKind.u32 bad), AV.map (1 : Nat), AV.hs (2 : Nat) (0 : Nat) (0 : Nat)]), some (Blk.mp [Cel.int IntKind.i64, Cel.int IntKind.i64, Cel.int
    IntKind.i64, Cel.int IntKind.i64, Cel.int IntKind.i64, Cel.int IntKind.i64, Cel.int IntKind.i64, Cel.int IntKind.i64, Cel.int IntKind.i64, Cel.int IntKind.i64, Cel.int IntKind.i64] true
    false (0 : Nat) (fun x => false) fun x => [AV.v (Value.int IntKind.i64 (0 : Int))]), some (Blk.arr (11 : Nat) (0 : Nat) fun x => [AV.v (Value.int IntKind.i64 (0 : Int)), AV.v (Value.int
    IntKind.i64 (0 : Int)), AV.v (Value.int IntKind.i64 (0 : Int)), AV.v (Value.int IntKind.i64 (0 : Int)), AV.v (Value.int IntKind.i64 (0 : Int)), AV.v (Value.int IntKind.i64 (0 : Int)),
    AV.v (Value.int IntKind.i64 (0 : Int)), AV.v (Value.int IntKind.i64 (0 : Int)), AV.v (Value.int IntKind.i64 (0 : Int)), AV.v (Value.int IntKind.i64 (0 : Int)), AV.v (Value.int
    IntKind.i64 (0 : Int))]), some (Blk.row [AV.v (Value.int IntKind.i64 f), AV.hs (4 : Nat) (0 : Nat) (0 : Nat), AV.hs (5 : Nat) (0 : Nat) (0 : Nat)]), some (Blk.arr (11 : Nat) (0 : Nat)
    fun x => [AV.v (Value.int IntKind.i64 (0 : Int)), AV.v (Value.int IntKind.i64 (0 : Int)), AV.v (Value.int IntKind.i64 (0 : Int)), AV.v (Value.int IntKind.i64 (0 : Int)), AV.v (Value.int
    IntKind.i64 (0 : Int)), AV.v (Value.int IntKind.i64 (0 : Int)), AV.v (Value.int IntKind.i64 (0 : Int)), AV.v (Value.int IntKind.i64 (0 : Int)), AV.v (Value.int IntKind.i64 (0 : Int)),
    AV.v (Value.int IntKind.i64 (0 : Int)), AV.v (Value.int IntKind.i64 (0 : Int))]), some (Blk.arr (1 : Nat) (0 : Nat) fun x => [AV.v (Value.int IntKind.i64 (0 : Int))])] [some (Blk.row
    [AV.v (Value.int IntKind.i64 f), AV.map (1 : Nat)]), some (Blk.mp [Cel.int IntKind.i64] false true (0 : Nat) (hasC [] []) (valC f [] [])), some (Blk.row [AV.v (Value.int IntKind.i64 f),
    AV.hs (3 : Nat) (0 : Nat) (0 : Nat), AV.hs (4 : Nat) (0 : Nat) (0 : Nat)]), some (Blk.arr (11 : Nat) (0 : Nat) (lsF Sh.c [])), some (Blk.arr (1 : Nat) (0 : Nat) (lsF I64.c []))]))
    (Tree.leaf (Ans.mk (AV.v (Value.bool true)) [])))))) (Tree.chk true (Tree.br (decide (timesF (3 : Int) f = (0 : Int))) (Tree.leaf (Ans.mk (AV.v (Value.bool false)) [])) (Tree.br true
    (Tree.leaf (Ans.mk (AV.v (Value.bool false)) [])) (Tree.chk (cl (LeL [AV.sl (4 : Nat) (List.length acts) (lsF Ac.c acts), AV.ptr (0 : Nat) (0 : Nat), AV.v (Value.pointer none), AV.ptr (3
    : Nat) (0 : Nat), AV.ptr (5 : Nat) (0 : Nat), AV.v (Value.int IntKind.i64 (0 : Int)), AV.v (Value.bool false)] [AV.sl (4 : Nat) (List.length acts) (lsF Ac.c acts), AV.v (Value.pointer
    none), AV.v (Value.pointer none), AV.ptr (0 : Nat) (0 : Nat), AV.ptr (2 : Nat) (0 : Nat), AV.v (Value.int IntKind.i64 (0 : Int)), AV.any] ∧ LeH [some (Blk.row [AV.v (Value.int
    IntKind.i64 o), AV.v (Value.int IntKind.u32 bad), AV.map (1 : Nat), AV.hs (2 : Nat) (0 : Nat) (0 : Nat)]), some (Blk.mp [Cel.int IntKind.i64, Cel.int IntKind.i64, Cel.int IntKind.i64,
    Cel.int IntKind.i64, Cel.int IntKind.i64, Cel.int IntKind.i64, Cel.int IntKind.i64, Cel.int IntKind.i64, Cel.int IntKind.i64, Cel.int IntKind.i64, Cel.int IntKind.i64] true false (0 :
    Nat) (fun x => false) fun x => [AV.v (Value.int IntKind.i64 (0 : Int))]), some (Blk.arr (11 : Nat) (0 : Nat) fun x => [AV.v (Value.int IntKind.i64 (0 : Int)), AV.v (Value.int IntKind.i64
    (0 : Int)), AV.v (Value.int IntKind.i64 (0 : Int)), AV.v (Value.int IntKind.i64 (0 : Int)), AV.v (Value.int IntKind.i64 (0 : Int)), AV.v (Value.int IntKind.i64 (0 : Int)), AV.v
    (Value.int IntKind.i64 (0 : Int)), AV.v (Value.int IntKind.i64 (0 : Int)), AV.v (Value.int IntKind.i64 (0 : Int)), AV.v (Value.int IntKind.i64 (0 : Int)), AV.v (Value.int IntKind.i64 (0
    : Int))]), some (Blk.row [AV.v (Value.int IntKind.i64 f), AV.map (4 : Nat)]), some (Blk.mp [Cel.int IntKind.i64] false true (0 : Nat) (fun x => false) fun x => [AV.v (Value.int
    IntKind.i64 (0 : Int)), AV.v (Value.bool false), AV.v (Value.bool false)]), some (Blk.row [AV.v (Value.int IntKind.i64 f), AV.hs (6 : Nat) (0 : Nat) (0 : Nat), AV.hs (7 : Nat) (0 : Nat)
    (0 : Nat)]), some (Blk.arr (11 : Nat) (0 : Nat) fun x => [AV.v (Value.int IntKind.i64 (0 : Int)), AV.v (Value.int IntKind.i64 (0 : Int)), AV.v (Value.int IntKind.i64 (0 : Int)), AV.v
    (Value.int IntKind.i64 (0 : Int)), AV.v (Value.int IntKind.i64 (0 : Int)), AV.v (Value.int IntKind.i64 (0 : Int)), AV.v (Value.int IntKind.i64 (0 : Int)), AV.v (Value.int IntKind.i64 (0
    : Int)), AV.v (Value.int IntKind.i64 (0 : Int)), AV.v (Value.int IntKind.i64 (0 : Int)), AV.v (Value.int IntKind.i64 (0 : Int))]), some (Blk.arr (1 : Nat) (0 : Nat) fun x => [AV.v
    (Value.int IntKind.i64 (0 : Int))])] [some (Blk.row [AV.v (Value.int IntKind.i64 f), AV.map (1 : Nat)]), some (Blk.mp [Cel.int IntKind.i64] false true (0 : Nat) (hasC [] []) (valC f []
    [])), some (Blk.row [AV.v (Value.int IntKind.i64 f), AV.hs (3 : Nat) (0 : Nat) (0 : Nat), AV.hs (4 : Nat) (0 : Nat) (0 : Nat)]), some (Blk.arr (11 : Nat) (0 : Nat) (lsF Sh.c [])), some
    (Blk.arr (1 : Nat) (0 : Nat) (lsF I64.c []))])) (Tree.leaf (Ans.mk (AV.v (Value.bool true)) [])))))))) (Tree.chk true (Tree.br (decide (timesF (3 : Int) f = (0 : Int))) (Tree.chk true
    (Tree.br (decide (timesF (3 : Int) f = (0 : Int))) (Tree.leaf (Ans.mk (AV.sb true) [])) (Tree.br true (Tree.leaf (Ans.mk (AV.v (Value.bool false)) [])) (Tree.chk (cl (LeL [AV.sl (4 :
    Nat) (List.length acts) (lsF Ac.c acts), AV.ptr (0 : Nat) (0 : Nat), AV.ptr (3 : Nat) (0 : Nat), AV.v (Value.pointer none), AV.ptr (5 : Nat) (0 : Nat), AV.v (Value.int IntKind.i64 (0 :
    Int)), AV.v (Value.bool false)] [AV.sl (4 : Nat) (List.length acts) (lsF Ac.c acts), AV.v (Value.pointer none), AV.v (Value.pointer none), AV.ptr (0 : Nat) (0 : Nat), AV.ptr (2 : Nat) (0
    : Nat), AV.v (Value.int IntKind.i64 (0 : Int)), AV.any] ∧ LeH [some (Blk.row [AV.v (Value.int IntKind.i64 o), AV.v (Value.int IntKind.u32 bad), AV.map (1 : Nat), AV.hs (2 : Nat) (0 :
    Nat) (0 : Nat)]), some (Blk.mp [Cel.int IntKind.i64, Cel.int IntKind.i64, Cel.int IntKind.i64, Cel.int IntKind.i64, Cel.int IntKind.i64, Cel.int IntKind.i64, Cel.int IntKind.i64, Cel.int
    IntKind.i64, Cel.int IntKind.i64, Cel.int IntKind.i64, Cel.int IntKind.i64] true false (0 : Nat) (fun x => false) fun x => [AV.v (Value.int IntKind.i64 (0 : Int))]), some (Blk.arr (11 :
    Nat) (0 : Nat) fun x => [AV.v (Value.int IntKind.i64 (0 : Int)), AV.v (Value.int IntKind.i64 (0 : Int)), AV.v (Value.int IntKind.i64 (0 : Int)), AV.v (Value.int IntKind.i64 (0 : Int)),
    AV.v (Value.int IntKind.i64 (0 : Int)), AV.v (Value.int IntKind.i64 (0 : Int)), AV.v (Value.int IntKind.i64 (0 : Int)), AV.v (Value.int IntKind.i64 (0 : Int)), AV.v (Value.int
    IntKind.i64 (0 : Int)), AV.v (Value.int IntKind.i64 (0 : Int)), AV.v (Value.int IntKind.i64 (0 : Int))]), some (Blk.row [AV.v (Value.int IntKind.i64 o), AV.v (Value.int IntKind.u32 bad),
    AV.hs (4 : Nat) (0 : Nat) (0 : Nat)]), some (Blk.arr (11 : Nat) (0 : Nat) fun x => [AV.v (Value.int IntKind.i64 (0 : Int)), AV.v (Value.int IntKind.i64 (0 : Int)), AV.v (Value.int
    IntKind.i64 (0 : Int)), AV.v (Value.int IntKind.i64 (0 : Int)), AV.v (Value.int IntKind.i64 (0 : Int)), AV.v (Value.int IntKind.i64 (0 : Int)), AV.v (Value.int IntKind.i64 (0 : Int)),
    AV.v (Value.int IntKind.i64 (0 : Int)), AV.v (Value.int IntKind.i64 (0 : Int)), AV.v (Value.int IntKind.i64 (0 : Int)), AV.v (Value.int IntKind.i64 (0 : Int))]), some (Blk.row [AV.v
    (Value.int IntKind.i64 f), AV.hs (6 : Nat) (0 : Nat) (0 : Nat), AV.hs (7 : Nat) (0 : Nat) (0 : Nat)]), some (Blk.arr (11 : Nat) (0 : Nat) fun x => [AV.v (Value.int IntKind.i64 (0 :
    Int)), AV.v (Value.int IntKind.i64 (0 : Int)), AV.v (Value.int IntKind.i64 (0 : Int)), AV.v (Value.int IntKind.i64 (0 : Int)), AV.v (Value.int IntKind.i64 (0 : Int)), AV.v (Value.int
    IntKind.i64 (0 : Int)), AV.v (Value.int IntKind.i64 (0 : Int)), AV.v (Value.int IntKind.i64 (0 : Int)), AV.v (Value.int IntKind.i64 (0 : Int)), AV.v (Value.int IntKind.i64 (0 : Int)),
    AV.v (Value.int IntKind.i64 (0 : Int))]), some (Blk.arr (1 : Nat) (0 : Nat) fun x => [AV.v (Value.int IntKind.i64 (0 : Int))])] [some (Blk.row [AV.v (Value.int IntKind.i64 f), AV.map (1
    : Nat)]), some (Blk.mp [Cel.int IntKind.i64] false true (0 : Nat) (hasC [] []) (valC f [] [])), some (Blk.row [AV.v (Value.int IntKind.i64 f), AV.hs (3 : Nat) (0 : Nat) (0 : Nat), AV.hs
    (4 : Nat) (0 : Nat) (0 : Nat)]), some (Blk.arr (11 : Nat) (0 : Nat) (lsF Sh.c [])), some (Blk.arr (1 : Nat) (0 : Nat) (lsF I64.c []))])) (Tree.leaf (Ans.mk (AV.v (Value.bool true))
    [])))))) (Tree.chk true (Tree.br (decide (timesF (3 : Int) f = (0 : Int))) (Tree.leaf (Ans.mk (AV.v (Value.bool false)) [])) (Tree.br false (Tree.leaf (Ans.mk (AV.v (Value.bool false))
    [])) (Tree.chk (cl (LeL [AV.sl (4 : Nat) (List.length acts) (lsF Ac.c acts), AV.ptr (0 : Nat) (0 : Nat), AV.ptr (3 : Nat) (0 : Nat), AV.ptr (5 : Nat) (0 : Nat), AV.ptr (7 : Nat) (0 :
    Nat), AV.v (Value.int IntKind.i64 (0 : Int)), AV.v (Value.bool false)] [AV.sl (4 : Nat) (List.length acts) (lsF Ac.c acts), AV.v (Value.pointer none), AV.v (Value.pointer none), AV.ptr
    (0 : Nat) (0 : Nat), AV.ptr (2 : Nat) (0 : Nat), AV.v (Value.int IntKind.i64 (0 : Int)), AV.any] ∧ LeH [some (Blk.row [AV.v (Value.int IntKind.i64 o), AV.v (Value.int IntKind.u32 bad),
    AV.map (1 : Nat), AV.hs (2 : Nat) (0 : Nat) (0 : Nat)]), some (Blk.mp [Cel.int IntKind.i64, Cel.int IntKind.i64, Cel.int IntKind.i64, Cel.int IntKind.i64, Cel.int IntKind.i64, Cel.int
    IntKind.i64, Cel.int IntKind.i64, Cel.int IntKind.i64, Cel.int IntKind.i64, Cel.int IntKind.i64, Cel.int IntKind.i64] true false (0 : Nat) (fun x => false) fun x => [AV.v (Value.int
    IntKind.i64 (0 : Int))]), some (Blk.arr (11 : Nat) (0 : Nat) fun x => [AV.v (Value.int IntKind.i64 (0 : Int)), AV.v (Value.int IntKind.i64 (0 : Int)), AV.v (Value.int IntKind.i64 (0 :
    Int)), AV.v (Value.int IntKind.i64 (0 : Int)), AV.v (Value.int IntKind.i64 (0 : Int)), AV.v (Value.int IntKind.i64 (0 : Int)), AV.v (Value.int IntKind.i64 (0 : Int)), AV.v (Value.int
    IntKind.i64 (0 : Int)), AV.v (Value.int IntKind.i64 (0 : Int)), AV.v (Value.int IntKind.i64 (0 : Int)), AV.v (Value.int IntKind.i64 (0 : Int))]), some (Blk.row [AV.v (Value.int
    IntKind.i64 o), AV.v (Value.int IntKind.u32 bad), AV.hs (4 : Nat) (0 : Nat) (0 : Nat)]), some (Blk.arr (11 : Nat) (0 : Nat) fun x => [AV.v (Value.int IntKind.i64 (0 : Int)), AV.v
    (Value.int IntKind.i64 (0 : Int)), AV.v (Value.int IntKind.i64 (0 : Int)), AV.v (Value.int IntKind.i64 (0 : Int)), AV.v (Value.int IntKind.i64 (0 : Int)), AV.v (Value.int IntKind.i64 (0
    : Int)), AV.v (Value.int IntKind.i64 (0 : Int)), AV.v (Value.int IntKind.i64 (0 : Int)), AV.v (Value.int IntKind.i64 (0 : Int)), AV.v (Value.int IntKind.i64 (0 : Int)), AV.v (Value.int
    IntKind.i64 (0 : Int))]), some (Blk.row [AV.v (Value.int IntKind.i64 f), AV.map (6 : Nat)]), some (Blk.mp [Cel.int IntKind.i64] false true (0 : Nat) (fun x => false) fun x => [AV.v
    (Value.int IntKind.i64 (0 : Int)), AV.v (Value.bool false), AV.v (Value.bool false)]), some (Blk.row [AV.v (Value.int IntKind.i64 f), AV.hs (8 : Nat) (0 : Nat) (0 : Nat), AV.hs (9 : Nat)
    (0 : Nat) (0 : Nat)]), some (Blk.arr (11 : Nat) (0 : Nat) fun x => [AV.v (Value.int IntKind.i64 (0 : Int)), AV.v (Value.int IntKind.i64 (0 : Int)), AV.v (Value.int IntKind.i64 (0 :
    Int)), AV.v (Value.int IntKind.i64 (0 : Int)), AV.v (Value.int IntKind.i64 (0 : Int)), AV.v (Value.int IntKind.i64 (0 : Int)), AV.v (Value.int IntKind.i64 (0 : Int)), AV.v (Value.int
    IntKind.i64 (0 : Int)), AV.v (Value.int IntKind.i64 (0 : Int)), AV.v (Value.int IntKind.i64 (0 : Int)), AV.v (Value.int IntKind.i64 (0 : Int))]), some (Blk.arr (1 : Nat) (0 : Nat) fun x
    => [AV.v (Value.int IntKind.i64 (0 : Int))])] [some (Blk.row [AV.v (Value.int IntKind.i64 f), AV.map (1 : Nat)]), some (Blk.mp [Cel.int IntKind.i64] false true (0 : Nat) (hasC [] [])
    (valC f [] [])), some (Blk.row [AV.v (Value.int IntKind.i64 f), AV.hs (3 : Nat) (0 : Nat) (0 : Nat), AV.hs (4 : Nat) (0 : Nat) (0 : Nat)]), some (Blk.arr (11 : Nat) (0 : Nat) (lsF Sh.c
    [])), some (Blk.arr (1 : Nat) (0 : Nat) (lsF I64.c []))])) (Tree.leaf (Ans.mk (AV.v (Value.bool true)) [])))))))))))))))) := by kernel_rfl
theorem law3k (f o bad : Int) (acts : List Ac) : bodyE (P := Tryd.prog) (Γ := Γc) T3 (LA (S31 ⟨f, o, bad, acts, [], [], [], [], [], [], [], 0, 0⟩) O31) false 161 [.tmp 8] (bodyOf Tryd.f3) (A3 f o bad acts) [] =
  Tree.br (decide ((100 : Int) < (↑(List.length acts) : Int))) (Tree.leaf (Ans.mk (AV.v (Value.bool true)) [])) (Tree.chk (inU32 bad) (Tree.br (!decide (checkF o bad = (0 : Int))) (Tree.chk
    (inU32 bad) (Tree.br (!decide (checkF o bad = (0 : Int))) (Tree.chk true (Tree.br (decide (timesF (3 : Int) f = (0 : Int))) (Tree.chk true (Tree.br (decide (timesF (3 : Int) f = (0 :
    Int))) (Tree.leaf (Ans.mk (AV.sb true) [])) (Tree.br true (Tree.leaf (Ans.mk (AV.v (Value.bool false)) [])) (Tree.chk (cl (LeL [AV.sl (4 : Nat) (List.length acts) (lsF Ac.c acts), AV.v
    (Value.pointer none), AV.v (Value.pointer none), AV.v (Value.pointer none), AV.ptr (0 : Nat) (0 : Nat), AV.v (Value.int IntKind.i64 (0 : Int)), AV.v (Value.bool false)] [AV.sl (4 : Nat)
    (List.length (X3.mk f o bad acts [] [] [] [] [] [] [] (0 : Nat) (0 : Nat)).acts) (lsF Ac.c (X3.mk f o bad acts [] [] [] [] [] [] [] (0 : Nat) (0 : Nat)).acts), AV.ptr (0 : Nat) (0 :
    Nat), AV.ptr (3 : Nat) (0 : Nat), AV.ptr (5 : Nat) (0 : Nat), AV.ptr (7 : Nat) (0 : Nat), AV.v (Value.int IntKind.i64 (↑(0 : Nat) : Int)), AV.any] ∧ LeH [some (Blk.row [AV.v (Value.int
    IntKind.i64 f), AV.hs (1 : Nat) (0 : Nat) (0 : Nat), AV.hs (2 : Nat) (0 : Nat) (0 : Nat)]), some (Blk.arr (11 : Nat) (0 : Nat) fun x => [AV.v (Value.int IntKind.i64 (0 : Int)), AV.v
    (Value.int IntKind.i64 (0 : Int)), AV.v (Value.int IntKind.i64 (0 : Int)), AV.v (Value.int IntKind.i64 (0 : Int)), AV.v (Value.int IntKind.i64 (0 : Int)), AV.v (Value.int IntKind.i64 (0
    : Int)), AV.v (Value.int IntKind.i64 (0 : Int)), AV.v (Value.int IntKind.i64 (0 : Int)), AV.v (Value.int IntKind.i64 (0 : Int)), AV.v (Value.int IntKind.i64 (0 : Int)), AV.v (Value.int
    IntKind.i64 (0 : Int))]), some (Blk.arr (1 : Nat) (0 : Nat) fun x => [AV.v (Value.int IntKind.i64 (0 : Int))])] [some (Blk.row [AV.v (Value.int IntKind.i64 o), AV.v (Value.int
    IntKind.u32 bad), AV.map (1 : Nat), AV.hs (2 : Nat) (0 : Nat) (0 : Nat)]), some (Blk.mp [Cel.int IntKind.i64, Cel.int IntKind.i64, Cel.int IntKind.i64, Cel.int IntKind.i64, Cel.int
    IntKind.i64, Cel.int IntKind.i64, Cel.int IntKind.i64, Cel.int IntKind.i64, Cel.int IntKind.i64, Cel.int IntKind.i64, Cel.int IntKind.i64] true false (0 : Nat) (hasS (X3.mk f o bad acts
    [] [] [] [] [] [] [] (0 : Nat) (0 : Nat)).l) anyV), some (Blk.arr (11 : Nat) (0 : Nat) (lsF Sh.c ((X3.mk f o bad acts [] [] [] [] [] [] [] (0 : Nat) (0 : Nat)).l ++ (X3.mk f o bad acts
    [] [] [] [] [] [] [] (0 : Nat) (0 : Nat)).j))), some (Blk.row [AV.v (Value.int IntKind.i64 o), AV.v (Value.int IntKind.u32 bad), AV.hs (4 : Nat) (0 : Nat) (0 : Nat)]), some (Blk.arr (11
    : Nat) (0 : Nat) (lsF Sh.c ((X3.mk f o bad acts [] [] [] [] [] [] [] (0 : Nat) (0 : Nat)).l ++ (X3.mk f o bad acts [] [] [] [] [] [] [] (0 : Nat) (0 : Nat)).j'))), some (Blk.row [AV.v
    (Value.int IntKind.i64 f), AV.map (6 : Nat)]), some (Blk.mp [Cel.int IntKind.i64] false true (0 : Nat) (hasC (X3.mk f o bad acts [] [] [] [] [] [] [] (0 : Nat) (0 : Nat)).gv (X3.mk f o
    bad acts [] [] [] [] [] [] [] (0 : Nat) (0 : Nat)).sn) (valC (X3.mk f o bad acts [] [] [] [] [] [] [] (0 : Nat) (0 : Nat)).f (X3.mk f o bad acts [] [] [] [] [] [] [] (0 : Nat) (0 :
    Nat)).gv (X3.mk f o bad acts [] [] [] [] [] [] [] (0 : Nat) (0 : Nat)).sn)), some (Blk.row [AV.v (Value.int IntKind.i64 f), AV.hs (8 : Nat) (0 : Nat) (0 : Nat), AV.hs (9 : Nat) (0 : Nat)
    (0 : Nat)]), some (Blk.arr (11 : Nat) (0 : Nat) (lsF Sh.c ((X3.mk f o bad acts [] [] [] [] [] [] [] (0 : Nat) (0 : Nat)).gv ++ (X3.mk f o bad acts [] [] [] [] [] [] [] (0 : Nat) (0 :
    Nat)).jg))), some (Blk.arr (1 : Nat) (0 : Nat) (lsF I64.c ((X3.mk f o bad acts [] [] [] [] [] [] [] (0 : Nat) (0 : Nat)).sn ++ (X3.mk f o bad acts [] [] [] [] [] [] [] (0 : Nat) (0 :
    Nat)).js)))])) (Tree.leaf (Ans.mk (AV.v (Value.bool true)) [])))))) (Tree.chk true (Tree.br (decide (timesF (3 : Int) f = (0 : Int))) (Tree.leaf (Ans.mk (AV.v (Value.bool false)) []))
    (Tree.br (!decide (checkF o bad = checkF o bad)) (Tree.leaf (Ans.mk (AV.v (Value.bool false)) [])) (Tree.chk (cl (LeL [AV.sl (4 : Nat) (List.length acts) (lsF Ac.c acts), AV.v
    (Value.pointer none), AV.v (Value.pointer none), AV.ptr (0 : Nat) (0 : Nat), AV.ptr (2 : Nat) (0 : Nat), AV.v (Value.int IntKind.i64 (0 : Int)), AV.v (Value.bool false)] [AV.sl (4 : Nat)
    (List.length (X3.mk f o bad acts [] [] [] [] [] [] [] (0 : Nat) (0 : Nat)).acts) (lsF Ac.c (X3.mk f o bad acts [] [] [] [] [] [] [] (0 : Nat) (0 : Nat)).acts), AV.ptr (0 : Nat) (0 :
    Nat), AV.ptr (3 : Nat) (0 : Nat), AV.ptr (5 : Nat) (0 : Nat), AV.ptr (7 : Nat) (0 : Nat), AV.v (Value.int IntKind.i64 (↑(0 : Nat) : Int)), AV.any] ∧ LeH [some (Blk.row [AV.v (Value.int
    IntKind.i64 f), AV.map (1 : Nat)]), some (Blk.mp [Cel.int IntKind.i64] false true (0 : Nat) (fun x => false) fun x => [AV.v (Value.int IntKind.i64 (0 : Int)), AV.v (Value.bool false),
    AV.v (Value.bool false)]), some (Blk.row [AV.v (Value.int IntKind.i64 f), AV.hs (3 : Nat) (0 : Nat) (0 : Nat), AV.hs (4 : Nat) (0 : Nat) (0 : Nat)]), some (Blk.arr (11 : Nat) (0 : Nat)
    fun x => [AV.v (Value.int IntKind.i64 (0 : Int)), AV.v (Value.int IntKind.i64 (0 : Int)), AV.v (Value.int IntKind.i64 (0 : Int)), AV.v (Value.int IntKind.i64 (0 : Int)), AV.v (Value.int
    IntKind.i64 (0 : Int)), AV.v (Value.int IntKind.i64 (0 : Int)), AV.v (Value.int IntKind.i64 (0 : Int)), AV.v (Value.int IntKind.i64 (0 : Int)), AV.v (Value.int IntKind.i64 (0 : Int)),
    AV.v (Value.int IntKind.i64 (0 : Int)), AV.v (Value.int IntKind.i64 (0 : Int))]), some (Blk.arr (1 : Nat) (0 : Nat) fun x => [AV.v (Value.int IntKind.i64 (0 : Int))])] [some (Blk.row
    [AV.v (Value.int IntKind.i64 o), AV.v (Value.int IntKind.u32 bad), AV.map (1 : Nat), AV.hs (2 : Nat) (0 : Nat) (0 : Nat)]), some (Blk.mp [Cel.int IntKind.i64, Cel.int IntKind.i64,
    Cel.int IntKind.i64, Cel.int IntKind.i64, Cel.int IntKind.i64, Cel.int IntKind.i64, Cel.int IntKind.i64, Cel.int IntKind.i64, Cel.int IntKind.i64, Cel.int IntKind.i64, Cel.int
    IntKind.i64] true false (0 : Nat) (hasS (X3.mk f o bad acts [] [] [] [] [] [] [] (0 : Nat) (0 : Nat)).l) anyV), some (Blk.arr (11 : Nat) (0 : Nat) (lsF Sh.c ((X3.mk f o bad acts [] [] []
    [] [] [] [] (0 : Nat) (0 : Nat)).l ++ (X3.mk f o bad acts [] [] [] [] [] [] [] (0 : Nat) (0 : Nat)).j))), some (Blk.row [AV.v (Value.int IntKind.i64 o), AV.v (Value.int IntKind.u32 bad),
    AV.hs (4 : Nat) (0 : Nat) (0 : Nat)]), some (Blk.arr (11 : Nat) (0 : Nat) (lsF Sh.c ((X3.mk f o bad acts [] [] [] [] [] [] [] (0 : Nat) (0 : Nat)).l ++ (X3.mk f o bad acts [] [] [] [] []
    [] [] (0 : Nat) (0 : Nat)).j'))), some (Blk.row [AV.v (Value.int IntKind.i64 f), AV.map (6 : Nat)]), some (Blk.mp [Cel.int IntKind.i64] false true (0 : Nat) (hasC (X3.mk f o bad acts []
    [] [] [] [] [] [] (0 : Nat) (0 : Nat)).gv (X3.mk f o bad acts [] [] [] [] [] [] [] (0 : Nat) (0 : Nat)).sn) (valC (X3.mk f o bad acts [] [] [] [] [] [] [] (0 : Nat) (0 : Nat)).f (X3.mk f
    o bad acts [] [] [] [] [] [] [] (0 : Nat) (0 : Nat)).gv (X3.mk f o bad acts [] [] [] [] [] [] [] (0 : Nat) (0 : Nat)).sn)), some (Blk.row [AV.v (Value.int IntKind.i64 f), AV.hs (8 : Nat)
    (0 : Nat) (0 : Nat), AV.hs (9 : Nat) (0 : Nat) (0 : Nat)]), some (Blk.arr (11 : Nat) (0 : Nat) (lsF Sh.c ((X3.mk f o bad acts [] [] [] [] [] [] [] (0 : Nat) (0 : Nat)).gv ++ (X3.mk f o
    bad acts [] [] [] [] [] [] [] (0 : Nat) (0 : Nat)).jg))), some (Blk.arr (1 : Nat) (0 : Nat) (lsF I64.c ((X3.mk f o bad acts [] [] [] [] [] [] [] (0 : Nat) (0 : Nat)).sn ++ (X3.mk f o bad
    acts [] [] [] [] [] [] [] (0 : Nat) (0 : Nat)).js)))])) (Tree.leaf (Ans.mk (AV.v (Value.bool true)) [])))))))) (Tree.chk (inU32 bad) (Tree.br (decide (o < (↑(pc bad) : Int))) (Tree.chk
    true (Tree.br (decide (timesF (3 : Int) f = (0 : Int))) (Tree.chk true (Tree.br (decide (timesF (3 : Int) f = (0 : Int))) (Tree.leaf (Ans.mk (AV.sb true) [])) (Tree.br true (Tree.leaf
    (Ans.mk (AV.v (Value.bool false)) [])) (Tree.chk (cl (LeL [AV.sl (4 : Nat) (List.length acts) (lsF Ac.c acts), AV.v (Value.pointer none), AV.v (Value.pointer none), AV.v (Value.pointer
    none), AV.ptr (0 : Nat) (0 : Nat), AV.v (Value.int IntKind.i64 (0 : Int)), AV.v (Value.bool false)] [AV.sl (4 : Nat) (List.length (X3.mk f o bad acts [] [] [] [] [] [] [] (0 : Nat) (0 :
    Nat)).acts) (lsF Ac.c (X3.mk f o bad acts [] [] [] [] [] [] [] (0 : Nat) (0 : Nat)).acts), AV.ptr (0 : Nat) (0 : Nat), AV.ptr (3 : Nat) (0 : Nat), AV.ptr (5 : Nat) (0 : Nat), AV.ptr (7 :
    Nat) (0 : Nat), AV.v (Value.int IntKind.i64 (↑(0 : Nat) : Int)), AV.any] ∧ LeH [some (Blk.row [AV.v (Value.int IntKind.i64 f), AV.hs (1 : Nat) (0 : Nat) (0 : Nat), AV.hs (2 : Nat) (0 :
    Nat) (0 : Nat)]), some (Blk.arr (11 : Nat) (0 : Nat) fun x => [AV.v (Value.int IntKind.i64 (0 : Int)), AV.v (Value.int IntKind.i64 (0 : Int)), AV.v (Value.int IntKind.i64 (0 : Int)),
    AV.v (Value.int IntKind.i64 (0 : Int)), AV.v (Value.int IntKind.i64 (0 : Int)), AV.v (Value.int IntKind.i64 (0 : Int)), AV.v (Value.int IntKind.i64 (0 : Int)), AV.v (Value.int
    IntKind.i64 (0 : Int)), AV.v (Value.int IntKind.i64 (0 : Int)), AV.v (Value.int IntKind.i64 (0 : Int)), AV.v (Value.int IntKind.i64 (0 : Int))]), some (Blk.arr (1 : Nat) (0 : Nat) fun x
    => [AV.v (Value.int IntKind.i64 (0 : Int))])] [some (Blk.row [AV.v (Value.int IntKind.i64 o), AV.v (Value.int IntKind.u32 bad), AV.map (1 : Nat), AV.hs (2 : Nat) (0 : Nat) (0 : Nat)]),
    some (Blk.mp [Cel.int IntKind.i64, Cel.int IntKind.i64, Cel.int IntKind.i64, Cel.int IntKind.i64, Cel.int IntKind.i64, Cel.int IntKind.i64, Cel.int IntKind.i64, Cel.int IntKind.i64,
    Cel.int IntKind.i64, Cel.int IntKind.i64, Cel.int IntKind.i64] true false (0 : Nat) (hasS (X3.mk f o bad acts [] [] [] [] [] [] [] (0 : Nat) (0 : Nat)).l) anyV), some (Blk.arr (11 : Nat)
    (0 : Nat) (lsF Sh.c ((X3.mk f o bad acts [] [] [] [] [] [] [] (0 : Nat) (0 : Nat)).l ++ (X3.mk f o bad acts [] [] [] [] [] [] [] (0 : Nat) (0 : Nat)).j))), some (Blk.row [AV.v (Value.int
    IntKind.i64 o), AV.v (Value.int IntKind.u32 bad), AV.hs (4 : Nat) (0 : Nat) (0 : Nat)]), some (Blk.arr (11 : Nat) (0 : Nat) (lsF Sh.c ((X3.mk f o bad acts [] [] [] [] [] [] [] (0 : Nat)
    (0 : Nat)).l ++ (X3.mk f o bad acts [] [] [] [] [] [] [] (0 : Nat) (0 : Nat)).j'))), some (Blk.row [AV.v (Value.int IntKind.i64 f), AV.map (6 : Nat)]), some (Blk.mp [Cel.int IntKind.i64]
    false true (0 : Nat) (hasC (X3.mk f o bad acts [] [] [] [] [] [] [] (0 : Nat) (0 : Nat)).gv (X3.mk f o bad acts [] [] [] [] [] [] [] (0 : Nat) (0 : Nat)).sn) (valC (X3.mk f o bad acts []
    [] [] [] [] [] [] (0 : Nat) (0 : Nat)).f (X3.mk f o bad acts [] [] [] [] [] [] [] (0 : Nat) (0 : Nat)).gv (X3.mk f o bad acts [] [] [] [] [] [] [] (0 : Nat) (0 : Nat)).sn)), some
    (Blk.row [AV.v (Value.int IntKind.i64 f), AV.hs (8 : Nat) (0 : Nat) (0 : Nat), AV.hs (9 : Nat) (0 : Nat) (0 : Nat)]), some (Blk.arr (11 : Nat) (0 : Nat) (lsF Sh.c ((X3.mk f o bad acts []
    [] [] [] [] [] [] (0 : Nat) (0 : Nat)).gv ++ (X3.mk f o bad acts [] [] [] [] [] [] [] (0 : Nat) (0 : Nat)).jg))), some (Blk.arr (1 : Nat) (0 : Nat) (lsF I64.c ((X3.mk f o bad acts [] []
    [] [] [] [] [] (0 : Nat) (0 : Nat)).sn ++ (X3.mk f o bad acts [] [] [] [] [] [] [] (0 : Nat) (0 : Nat)).js)))])) (Tree.leaf (Ans.mk (AV.v (Value.bool true)) [])))))) (Tree.chk true
    (Tree.br (decide (timesF (3 : Int) f = (0 : Int))) (Tree.leaf (Ans.mk (AV.v (Value.bool false)) [])) (Tree.br (!decide (checkF o bad = (1 : Int))) (Tree.leaf (Ans.mk (AV.v (Value.bool
    false)) [])) (Tree.chk (cl (LeL [AV.sl (4 : Nat) (List.length acts) (lsF Ac.c acts), AV.v (Value.pointer none), AV.v (Value.pointer none), AV.ptr (0 : Nat) (0 : Nat), AV.ptr (2 : Nat) (0
    : Nat), AV.v (Value.int IntKind.i64 (0 : Int)), AV.v (Value.bool false)] [AV.sl (4 : Nat) (List.length (X3.mk f o bad acts [] [] [] [] [] [] [] (0 : Nat) (0 : Nat)).acts) (lsF Ac.c
    (X3.mk f o bad acts [] [] [] [] [] [] [] (0 : Nat) (0 : Nat)).acts), AV.ptr (0 : Nat) (0 : Nat), AV.ptr (3 : Nat) (0 : Nat), AV.ptr (5 : Nat) (0 : Nat), AV.ptr (7 : Nat) (0 : Nat), AV.v
    (Value.int IntKind.i64 (↑(0 : Nat) : Int)), AV.any] ∧ LeH [some (Blk.row [AV.v (Value.int IntKind.i64 f), AV.map (1 : Nat)]), some (Blk.mp [Cel.int IntKind.i64] false true (0 : Nat) (fun
    x => false) fun x => [AV.v (Value.int IntKind.i64 (0 : Int)), AV.v (Value.bool false), AV.v (Value.bool false)]), some (Blk.row [AV.v (Value.int IntKind.i64 f), AV.hs (3 : Nat) (0 : Nat)
    (0 : Nat), AV.hs (4 : Nat) (0 : Nat) (0 : Nat)]), some (Blk.arr (11 : Nat) (0 : Nat) fun x => [AV.v (Value.int IntKind.i64 (0 : Int)), AV.v (Value.int IntKind.i64 (0 : Int)), AV.v
    (Value.int IntKind.i64 (0 : Int)), AV.v (Value.int IntKind.i64 (0 : Int)), AV.v (Value.int IntKind.i64 (0 : Int)), AV.v (Value.int IntKind.i64 (0 : Int)), AV.v (Value.int IntKind.i64 (0
    : Int)), AV.v (Value.int IntKind.i64 (0 : Int)), AV.v (Value.int IntKind.i64 (0 : Int)), AV.v (Value.int IntKind.i64 (0 : Int)), AV.v (Value.int IntKind.i64 (0 : Int))]), some (Blk.arr
    (1 : Nat) (0 : Nat) fun x => [AV.v (Value.int IntKind.i64 (0 : Int))])] [some (Blk.row [AV.v (Value.int IntKind.i64 o), AV.v (Value.int IntKind.u32 bad), AV.map (1 : Nat), AV.hs (2 :
    Nat) (0 : Nat) (0 : Nat)]), some (Blk.mp [Cel.int IntKind.i64, Cel.int IntKind.i64, Cel.int IntKind.i64, Cel.int IntKind.i64, Cel.int IntKind.i64, Cel.int IntKind.i64, Cel.int
    IntKind.i64, Cel.int IntKind.i64, Cel.int IntKind.i64, Cel.int IntKind.i64, Cel.int IntKind.i64] true false (0 : Nat) (hasS (X3.mk f o bad acts [] [] [] [] [] [] [] (0 : Nat) (0 :
    Nat)).l) anyV), some (Blk.arr (11 : Nat) (0 : Nat) (lsF Sh.c ((X3.mk f o bad acts [] [] [] [] [] [] [] (0 : Nat) (0 : Nat)).l ++ (X3.mk f o bad acts [] [] [] [] [] [] [] (0 : Nat) (0 :
    Nat)).j))), some (Blk.row [AV.v (Value.int IntKind.i64 o), AV.v (Value.int IntKind.u32 bad), AV.hs (4 : Nat) (0 : Nat) (0 : Nat)]), some (Blk.arr (11 : Nat) (0 : Nat) (lsF Sh.c ((X3.mk f
    o bad acts [] [] [] [] [] [] [] (0 : Nat) (0 : Nat)).l ++ (X3.mk f o bad acts [] [] [] [] [] [] [] (0 : Nat) (0 : Nat)).j'))), some (Blk.row [AV.v (Value.int IntKind.i64 f), AV.map (6 :
    Nat)]), some (Blk.mp [Cel.int IntKind.i64] false true (0 : Nat) (hasC (X3.mk f o bad acts [] [] [] [] [] [] [] (0 : Nat) (0 : Nat)).gv (X3.mk f o bad acts [] [] [] [] [] [] [] (0 : Nat)
    (0 : Nat)).sn) (valC (X3.mk f o bad acts [] [] [] [] [] [] [] (0 : Nat) (0 : Nat)).f (X3.mk f o bad acts [] [] [] [] [] [] [] (0 : Nat) (0 : Nat)).gv (X3.mk f o bad acts [] [] [] [] []
    [] [] (0 : Nat) (0 : Nat)).sn)), some (Blk.row [AV.v (Value.int IntKind.i64 f), AV.hs (8 : Nat) (0 : Nat) (0 : Nat), AV.hs (9 : Nat) (0 : Nat) (0 : Nat)]), some (Blk.arr (11 : Nat) (0 :
    Nat) (lsF Sh.c ((X3.mk f o bad acts [] [] [] [] [] [] [] (0 : Nat) (0 : Nat)).gv ++ (X3.mk f o bad acts [] [] [] [] [] [] [] (0 : Nat) (0 : Nat)).jg))), some (Blk.arr (1 : Nat) (0 : Nat)
    (lsF I64.c ((X3.mk f o bad acts [] [] [] [] [] [] [] (0 : Nat) (0 : Nat)).sn ++ (X3.mk f o bad acts [] [] [] [] [] [] [] (0 : Nat) (0 : Nat)).js)))])) (Tree.leaf (Ans.mk (AV.v
    (Value.bool true)) [])))))))) (Tree.chk true (Tree.br (decide (timesF (3 : Int) f = (0 : Int))) (Tree.chk true (Tree.br (decide (timesF (3 : Int) f = (0 : Int))) (Tree.leaf (Ans.mk
    (AV.sb true) [])) (Tree.br true (Tree.leaf (Ans.mk (AV.v (Value.bool false)) [])) (Tree.chk (cl (LeL [AV.sl (4 : Nat) (List.length acts) (lsF Ac.c acts), AV.v (Value.pointer none),
    AV.ptr (0 : Nat) (0 : Nat), AV.v (Value.pointer none), AV.ptr (2 : Nat) (0 : Nat), AV.v (Value.int IntKind.i64 (0 : Int)), AV.v (Value.bool false)] [AV.sl (4 : Nat) (List.length (X3.mk f
    o bad acts [] [] [] [] [] [] [] (0 : Nat) (0 : Nat)).acts) (lsF Ac.c (X3.mk f o bad acts [] [] [] [] [] [] [] (0 : Nat) (0 : Nat)).acts), AV.ptr (0 : Nat) (0 : Nat), AV.ptr (3 : Nat) (0
    : Nat), AV.ptr (5 : Nat) (0 : Nat), AV.ptr (7 : Nat) (0 : Nat), AV.v (Value.int IntKind.i64 (↑(0 : Nat) : Int)), AV.any] ∧ LeH [some (Blk.row [AV.v (Value.int IntKind.i64 o), AV.v
    (Value.int IntKind.u32 bad), AV.hs (1 : Nat) (0 : Nat) (0 : Nat)]), some (Blk.arr (11 : Nat) (0 : Nat) fun x => [AV.v (Value.int IntKind.i64 (0 : Int)), AV.v (Value.int IntKind.i64 (0 :
    Int)), AV.v (Value.int IntKind.i64 (0 : Int)), AV.v (Value.int IntKind.i64 (0 : Int)), AV.v (Value.int IntKind.i64 (0 : Int)), AV.v (Value.int IntKind.i64 (0 : Int)), AV.v (Value.int
    IntKind.i64 (0 : Int)), AV.v (Value.int IntKind.i64 (0 : Int)), AV.v (Value.int IntKind.i64 (0 : Int)), AV.v (Value.int IntKind.i64 (0 : Int)), AV.v (Value.int IntKind.i64 (0 : Int))]),
    some (Blk.row [AV.v (Value.int IntKind.i64 f), AV.hs (3 : Nat) (0 : Nat) (0 : Nat), AV.hs (4 : Nat) (0 : Nat) (0 : Nat)]), some (Blk.arr (11 : Nat) (0 : Nat) fun x => [AV.v (Value.int
    IntKind.i64 (0 : Int)), AV.v (Value.int IntKind.i64 (0 : Int)), AV.v (Value.int IntKind.i64 (0 : Int)), AV.v (Value.int IntKind.i64 (0 : Int)), AV.v (Value.int IntKind.i64 (0 : Int)),
    AV.v (Value.int IntKind.i64 (0 : Int)), AV.v (Value.int IntKind.i64 (0 : Int)), AV.v (Value.int IntKind.i64 (0 : Int)), AV.v (Value.int IntKind.i64 (0 : Int)), AV.v (Value.int
    IntKind.i64 (0 : Int)), AV.v (Value.int IntKind.i64 (0 : Int))]), some (Blk.arr (1 : Nat) (0 : Nat) fun x => [AV.v (Value.int IntKind.i64 (0 : Int))])] [some (Blk.row [AV.v (Value.int
    IntKind.i64 o), AV.v (Value.int IntKind.u32 bad), AV.map (1 : Nat), AV.hs (2 : Nat) (0 : Nat) (0 : Nat)]), some (Blk.mp [Cel.int IntKind.i64, Cel.int IntKind.i64, Cel.int IntKind.i64,
    Cel.int IntKind.i64, Cel.int IntKind.i64, Cel.int IntKind.i64, Cel.int IntKind.i64, Cel.int IntKind.i64, Cel.int IntKind.i64, Cel.int IntKind.i64, Cel.int IntKind.i64] true false (0 :
    Nat) (hasS (X3.mk f o bad acts [] [] [] [] [] [] [] (0 : Nat) (0 : Nat)).l) anyV), some (Blk.arr (11 : Nat) (0 : Nat) (lsF Sh.c ((X3.mk f o bad acts [] [] [] [] [] [] [] (0 : Nat) (0 :
    Nat)).l ++ (X3.mk f o bad acts [] [] [] [] [] [] [] (0 : Nat) (0 : Nat)).j))), some (Blk.row [AV.v (Value.int IntKind.i64 o), AV.v (Value.int IntKind.u32 bad), AV.hs (4 : Nat) (0 : Nat)
    (0 : Nat)]), some (Blk.arr (11 : Nat) (0 : Nat) (lsF Sh.c ((X3.mk f o bad acts [] [] [] [] [] [] [] (0 : Nat) (0 : Nat)).l ++ (X3.mk f o bad acts [] [] [] [] [] [] [] (0 : Nat) (0 :
    Nat)).j'))), some (Blk.row [AV.v (Value.int IntKind.i64 f), AV.map (6 : Nat)]), some (Blk.mp [Cel.int IntKind.i64] false true (0 : Nat) (hasC (X3.mk f o bad acts [] [] [] [] [] [] [] (0
    : Nat) (0 : Nat)).gv (X3.mk f o bad acts [] [] [] [] [] [] [] (0 : Nat) (0 : Nat)).sn) (valC (X3.mk f o bad acts [] [] [] [] [] [] [] (0 : Nat) (0 : Nat)).f (X3.mk f o bad acts [] [] []
    [] [] [] [] (0 : Nat) (0 : Nat)).gv (X3.mk f o bad acts [] [] [] [] [] [] [] (0 : Nat) (0 : Nat)).sn)), some (Blk.row [AV.v (Value.int IntKind.i64 f), AV.hs (8 : Nat) (0 : Nat) (0 :
    Nat), AV.hs (9 : Nat) (0 : Nat) (0 : Nat)]), some (Blk.arr (11 : Nat) (0 : Nat) (lsF Sh.c ((X3.mk f o bad acts [] [] [] [] [] [] [] (0 : Nat) (0 : Nat)).gv ++ (X3.mk f o bad acts [] []
    [] [] [] [] [] (0 : Nat) (0 : Nat)).jg))), some (Blk.arr (1 : Nat) (0 : Nat) (lsF I64.c ((X3.mk f o bad acts [] [] [] [] [] [] [] (0 : Nat) (0 : Nat)).sn ++ (X3.mk f o bad acts [] [] []
    [] [] [] [] (0 : Nat) (0 : Nat)).js)))])) (Tree.leaf (Ans.mk (AV.v (Value.bool true)) [])))))) (Tree.chk true (Tree.br (decide (timesF (3 : Int) f = (0 : Int))) (Tree.leaf (Ans.mk (AV.v
    (Value.bool false)) [])) (Tree.br (!decide (checkF o bad = (0 : Int))) (Tree.leaf (Ans.mk (AV.v (Value.bool false)) [])) (Tree.chk (cl (LeL [AV.sl (4 : Nat) (List.length acts) (lsF Ac.c
    acts), AV.v (Value.pointer none), AV.ptr (0 : Nat) (0 : Nat), AV.ptr (2 : Nat) (0 : Nat), AV.ptr (4 : Nat) (0 : Nat), AV.v (Value.int IntKind.i64 (0 : Int)), AV.v (Value.bool false)]
    [AV.sl (4 : Nat) (List.length (X3.mk f o bad acts [] [] [] [] [] [] [] (0 : Nat) (0 : Nat)).acts) (lsF Ac.c (X3.mk f o bad acts [] [] [] [] [] [] [] (0 : Nat) (0 : Nat)).acts), AV.ptr (0
    : Nat) (0 : Nat), AV.ptr (3 : Nat) (0 : Nat), AV.ptr (5 : Nat) (0 : Nat), AV.ptr (7 : Nat) (0 : Nat), AV.v (Value.int IntKind.i64 (↑(0 : Nat) : Int)), AV.any] ∧ LeH [some (Blk.row [AV.v
    (Value.int IntKind.i64 o), AV.v (Value.int IntKind.u32 bad), AV.hs (1 : Nat) (0 : Nat) (0 : Nat)]), some (Blk.arr (11 : Nat) (0 : Nat) fun x => [AV.v (Value.int IntKind.i64 (0 : Int)),
    AV.v (Value.int IntKind.i64 (0 : Int)), AV.v (Value.int IntKind.i64 (0 : Int)), AV.v (Value.int IntKind.i64 (0 : Int)), AV.v (Value.int IntKind.i64 (0 : Int)), AV.v (Value.int
    IntKind.i64 (0 : Int)), AV.v (Value.int IntKind.i64 (0 : Int)), AV.v (Value.int IntKind.i64 (0 : Int)), AV.v (Value.int IntKind.i64 (0 : Int)), AV.v (Value.int IntKind.i64 (0 : Int)),
    AV.v (Value.int IntKind.i64 (0 : Int))]), some (Blk.row [AV.v (Value.int IntKind.i64 f), AV.map (3 : Nat)]), some (Blk.mp [Cel.int IntKind.i64] false true (0 : Nat) (fun x => false) fun
    x => [AV.v (Value.int IntKind.i64 (0 : Int)), AV.v (Value.bool false), AV.v (Value.bool false)]), some (Blk.row [AV.v (Value.int IntKind.i64 f), AV.hs (5 : Nat) (0 : Nat) (0 : Nat),
    AV.hs (6 : Nat) (0 : Nat) (0 : Nat)]), some (Blk.arr (11 : Nat) (0 : Nat) fun x => [AV.v (Value.int IntKind.i64 (0 : Int)), AV.v (Value.int IntKind.i64 (0 : Int)), AV.v (Value.int
    IntKind.i64 (0 : Int)), AV.v (Value.int IntKind.i64 (0 : Int)), AV.v (Value.int IntKind.i64 (0 : Int)), AV.v (Value.int IntKind.i64 (0 : Int)), AV.v (Value.int IntKind.i64 (0 : Int)),
    AV.v (Value.int IntKind.i64 (0 : Int)), AV.v (Value.int IntKind.i64 (0 : Int)), AV.v (Value.int IntKind.i64 (0 : Int)), AV.v (Value.int IntKind.i64 (0 : Int))]), some (Blk.arr (1 : Nat)
    (0 : Nat) fun x => [AV.v (Value.int IntKind.i64 (0 : Int))])] [some (Blk.row [AV.v (Value.int IntKind.i64 o), AV.v (Value.int IntKind.u32 bad), AV.map (1 : Nat), AV.hs (2 : Nat) (0 :
    Nat) (0 : Nat)]), some (Blk.mp [Cel.int IntKind.i64, Cel.int IntKind.i64, Cel.int IntKind.i64, Cel.int IntKind.i64, Cel.int IntKind.i64, Cel.int IntKind.i64, Cel.int IntKind.i64, Cel.int
    IntKind.i64, Cel.int IntKind.i64, Cel.int IntKind.i64, Cel.int IntKind.i64] true false (0 : Nat) (hasS (X3.mk f o bad acts [] [] [] [] [] [] [] (0 : Nat) (0 : Nat)).l) anyV), some
    (Blk.arr (11 : Nat) (0 : Nat) (lsF Sh.c ((X3.mk f o bad acts [] [] [] [] [] [] [] (0 : Nat) (0 : Nat)).l ++ (X3.mk f o bad acts [] [] [] [] [] [] [] (0 : Nat) (0 : Nat)).j))), some
    (Blk.row [AV.v (Value.int IntKind.i64 o), AV.v (Value.int IntKind.u32 bad), AV.hs (4 : Nat) (0 : Nat) (0 : Nat)]), some (Blk.arr (11 : Nat) (0 : Nat) (lsF Sh.c ((X3.mk f o bad acts [] []
    [] [] [] [] [] (0 : Nat) (0 : Nat)).l ++ (X3.mk f o bad acts [] [] [] [] [] [] [] (0 : Nat) (0 : Nat)).j'))), some (Blk.row [AV.v (Value.int IntKind.i64 f), AV.map (6 : Nat)]), some
    (Blk.mp [Cel.int IntKind.i64] false true (0 : Nat) (hasC (X3.mk f o bad acts [] [] [] [] [] [] [] (0 : Nat) (0 : Nat)).gv (X3.mk f o bad acts [] [] [] [] [] [] [] (0 : Nat) (0 :
    Nat)).sn) (valC (X3.mk f o bad acts [] [] [] [] [] [] [] (0 : Nat) (0 : Nat)).f (X3.mk f o bad acts [] [] [] [] [] [] [] (0 : Nat) (0 : Nat)).gv (X3.mk f o bad acts [] [] [] [] [] [] []
    (0 : Nat) (0 : Nat)).sn)), some (Blk.row [AV.v (Value.int IntKind.i64 f), AV.hs (8 : Nat) (0 : Nat) (0 : Nat), AV.hs (9 : Nat) (0 : Nat) (0 : Nat)]), some (Blk.arr (11 : Nat) (0 : Nat)
    (lsF Sh.c ((X3.mk f o bad acts [] [] [] [] [] [] [] (0 : Nat) (0 : Nat)).gv ++ (X3.mk f o bad acts [] [] [] [] [] [] [] (0 : Nat) (0 : Nat)).jg))), some (Blk.arr (1 : Nat) (0 : Nat) (lsF
    I64.c ((X3.mk f o bad acts [] [] [] [] [] [] [] (0 : Nat) (0 : Nat)).sn ++ (X3.mk f o bad acts [] [] [] [] [] [] [] (0 : Nat) (0 : Nat)).js)))])) (Tree.leaf (Ans.mk (AV.v (Value.bool
    true)) [])))))))))))) (Tree.chk (inU32 bad) (Tree.br (decide (o < (↑(pc bad) : Int))) (Tree.chk (inU32 bad) (Tree.br (!decide (checkF o bad = (0 : Int))) (Tree.chk true (Tree.br (decide
    (timesF (3 : Int) f = (0 : Int))) (Tree.chk true (Tree.br (decide (timesF (3 : Int) f = (0 : Int))) (Tree.leaf (Ans.mk (AV.sb true) [])) (Tree.br true (Tree.leaf (Ans.mk (AV.v
    (Value.bool false)) [])) (Tree.chk (cl (LeL [AV.sl (4 : Nat) (List.length acts) (lsF Ac.c acts), AV.v (Value.pointer none), AV.v (Value.pointer none), AV.v (Value.pointer none), AV.ptr
    (0 : Nat) (0 : Nat), AV.v (Value.int IntKind.i64 (0 : Int)), AV.v (Value.bool false)] [AV.sl (4 : Nat) (List.length (X3.mk f o bad acts [] [] [] [] [] [] [] (0 : Nat) (0 : Nat)).acts)
    (lsF Ac.c (X3.mk f o bad acts [] [] [] [] [] [] [] (0 : Nat) (0 : Nat)).acts), AV.ptr (0 : Nat) (0 : Nat), AV.ptr (3 : Nat) (0 : Nat), AV.ptr (5 : Nat) (0 : Nat), AV.ptr (7 : Nat) (0 :
    Nat), AV.v (Value.int IntKind.i64 (↑(0 : Nat) : Int)), AV.any] ∧ LeH [some (Blk.row [AV.v (Value.int IntKind.i64 f), AV.hs (1 : Nat) (0 : Nat) (0 : Nat), AV.hs (2 : Nat) (0 : Nat) (0 :
    Nat)]), some (Blk.arr (11 : Nat) (0 : Nat) fun x => [AV.v (Value.int IntKind.i64 (0 : Int)), AV.v (Value.int IntKind.i64 (0 : Int)), AV.v (Value.int IntKind.i64 (0 : Int)), AV.v
    (Value.int IntKind.i64 (0 : Int)), AV.v (Value.int IntKind.i64 (0 : Int)), AV.v (Value.int IntKind.i64 (0 : Int)), AV.v (Value.int IntKind.i64 (0 : Int)), AV.v (Value.int IntKind.i64 (0
    : Int)), AV.v (Value.int IntKind.i64 (0 : Int)), AV.v (Value.int IntKind.i64 (0 : Int)), AV.v (Value.int IntKind.i64 (0 : Int))]), some (Blk.arr (1 : Nat) (0 : Nat) fun x => [AV.v
    (Value.int IntKind.i64 (0 : Int))])] [some (Blk.row [AV.v (Value.int IntKind.i64 o), AV.v (Value.int IntKind.u32 bad), AV.map (1 : Nat), AV.hs (2 : Nat) (0 : Nat) (0 : Nat)]), some
    (Blk.mp [Cel.int IntKind.i64, Cel.int IntKind.i64, Cel.int IntKind.i64, Cel.int IntKind.i64, Cel.int IntKind.i64, Cel.int IntKind.i64, Cel.int IntKind.i64, Cel.int IntKind.i64, Cel.int
    IntKind.i64, Cel.int IntKind.i64, Cel.int IntKind.i64] true false (0 : Nat) (hasS (X3.mk f o bad acts [] [] [] [] [] [] [] (0 : Nat) (0 : Nat)).l) anyV), some (Blk.arr (11 : Nat) (0 :
    Nat) (lsF Sh.c ((X3.mk f o bad acts [] [] [] [] [] [] [] (0 : Nat) (0 : Nat)).l ++ (X3.mk f o bad acts [] [] [] [] [] [] [] (0 : Nat) (0 : Nat)).j))), some (Blk.row [AV.v (Value.int
    IntKind.i64 o), AV.v (Value.int IntKind.u32 bad), AV.hs (4 : Nat) (0 : Nat) (0 : Nat)]), some (Blk.arr (11 : Nat) (0 : Nat) (lsF Sh.c ((X3.mk f o bad acts [] [] [] [] [] [] [] (0 : Nat)
    (0 : Nat)).l ++ (X3.mk f o bad acts [] [] [] [] [] [] [] (0 : Nat) (0 : Nat)).j'))), some (Blk.row [AV.v (Value.int IntKind.i64 f), AV.map (6 : Nat)]), some (Blk.mp [Cel.int IntKind.i64]
    false true (0 : Nat) (hasC (X3.mk f o bad acts [] [] [] [] [] [] [] (0 : Nat) (0 : Nat)).gv (X3.mk f o bad acts [] [] [] [] [] [] [] (0 : Nat) (0 : Nat)).sn) (valC (X3.mk f o bad acts []
    [] [] [] [] [] [] (0 : Nat) (0 : Nat)).f (X3.mk f o bad acts [] [] [] [] [] [] [] (0 : Nat) (0 : Nat)).gv (X3.mk f o bad acts [] [] [] [] [] [] [] (0 : Nat) (0 : Nat)).sn)), some
    (Blk.row [AV.v (Value.int IntKind.i64 f), AV.hs (8 : Nat) (0 : Nat) (0 : Nat), AV.hs (9 : Nat) (0 : Nat) (0 : Nat)]), some (Blk.arr (11 : Nat) (0 : Nat) (lsF Sh.c ((X3.mk f o bad acts []
    [] [] [] [] [] [] (0 : Nat) (0 : Nat)).gv ++ (X3.mk f o bad acts [] [] [] [] [] [] [] (0 : Nat) (0 : Nat)).jg))), some (Blk.arr (1 : Nat) (0 : Nat) (lsF I64.c ((X3.mk f o bad acts [] []
    [] [] [] [] [] (0 : Nat) (0 : Nat)).sn ++ (X3.mk f o bad acts [] [] [] [] [] [] [] (0 : Nat) (0 : Nat)).js)))])) (Tree.leaf (Ans.mk (AV.v (Value.bool true)) [])))))) (Tree.chk true
    (Tree.br (decide (timesF (3 : Int) f = (0 : Int))) (Tree.leaf (Ans.mk (AV.v (Value.bool false)) [])) (Tree.br (!decide ((1 : Int) = checkF o bad)) (Tree.leaf (Ans.mk (AV.v (Value.bool
    false)) [])) (Tree.chk (cl (LeL [AV.sl (4 : Nat) (List.length acts) (lsF Ac.c acts), AV.v (Value.pointer none), AV.v (Value.pointer none), AV.ptr (0 : Nat) (0 : Nat), AV.ptr (2 : Nat) (0
    : Nat), AV.v (Value.int IntKind.i64 (0 : Int)), AV.v (Value.bool false)] [AV.sl (4 : Nat) (List.length (X3.mk f o bad acts [] [] [] [] [] [] [] (0 : Nat) (0 : Nat)).acts) (lsF Ac.c
    (X3.mk f o bad acts [] [] [] [] [] [] [] (0 : Nat) (0 : Nat)).acts), AV.ptr (0 : Nat) (0 : Nat), AV.ptr (3 : Nat) (0 : Nat), AV.ptr (5 : Nat) (0 : Nat), AV.ptr (7 : Nat) (0 : Nat), AV.v
    (Value.int IntKind.i64 (↑(0 : Nat) : Int)), AV.any] ∧ LeH [some (Blk.row [AV.v (Value.int IntKind.i64 f), AV.map (1 : Nat)]), some (Blk.mp [Cel.int IntKind.i64] false true (0 : Nat) (fun
    x => false) fun x => [AV.v (Value.int IntKind.i64 (0 : Int)), AV.v (Value.bool false), AV.v (Value.bool false)]), some (Blk.row [AV.v (Value.int IntKind.i64 f), AV.hs (3 : Nat) (0 : Nat)
    (0 : Nat), AV.hs (4 : Nat) (0 : Nat) (0 : Nat)]), some (Blk.arr (11 : Nat) (0 : Nat) fun x => [AV.v (Value.int IntKind.i64 (0 : Int)), AV.v (Value.int IntKind.i64 (0 : Int)), AV.v
    (Value.int IntKind.i64 (0 : Int)), AV.v (Value.int IntKind.i64 (0 : Int)), AV.v (Value.int IntKind.i64 (0 : Int)), AV.v (Value.int IntKind.i64 (0 : Int)), AV.v (Value.int IntKind.i64 (0
    : Int)), AV.v (Value.int IntKind.i64 (0 : Int)), AV.v (Value.int IntKind.i64 (0 : Int)), AV.v (Value.int IntKind.i64 (0 : Int)), AV.v (Value.int IntKind.i64 (0 : Int))]), some (Blk.arr
    (1 : Nat) (0 : Nat) fun x => [AV.v (Value.int IntKind.i64 (0 : Int))])] [some (Blk.row [AV.v (Value.int IntKind.i64 o), AV.v (Value.int IntKind.u32 bad), AV.map (1 : Nat), AV.hs (2 :
    Nat) (0 : Nat) (0 : Nat)]), some (Blk.mp [Cel.int IntKind.i64, Cel.int IntKind.i64, Cel.int IntKind.i64, Cel.int IntKind.i64, Cel.int IntKind.i64, Cel.int IntKind.i64, Cel.int
    IntKind.i64, Cel.int IntKind.i64, Cel.int IntKind.i64, Cel.int IntKind.i64, Cel.int IntKind.i64] true false (0 : Nat) (hasS (X3.mk f o bad acts [] [] [] [] [] [] [] (0 : Nat) (0 :
    Nat)).l) anyV), some (Blk.arr (11 : Nat) (0 : Nat) (lsF Sh.c ((X3.mk f o bad acts [] [] [] [] [] [] [] (0 : Nat) (0 : Nat)).l ++ (X3.mk f o bad acts [] [] [] [] [] [] [] (0 : Nat) (0 :
    Nat)).j))), some (Blk.row [AV.v (Value.int IntKind.i64 o), AV.v (Value.int IntKind.u32 bad), AV.hs (4 : Nat) (0 : Nat) (0 : Nat)]), some (Blk.arr (11 : Nat) (0 : Nat) (lsF Sh.c ((X3.mk f
    o bad acts [] [] [] [] [] [] [] (0 : Nat) (0 : Nat)).l ++ (X3.mk f o bad acts [] [] [] [] [] [] [] (0 : Nat) (0 : Nat)).j'))), some (Blk.row [AV.v (Value.int IntKind.i64 f), AV.map (6 :
    Nat)]), some (Blk.mp [Cel.int IntKind.i64] false true (0 : Nat) (hasC (X3.mk f o bad acts [] [] [] [] [] [] [] (0 : Nat) (0 : Nat)).gv (X3.mk f o bad acts [] [] [] [] [] [] [] (0 : Nat)
    (0 : Nat)).sn) (valC (X3.mk f o bad acts [] [] [] [] [] [] [] (0 : Nat) (0 : Nat)).f (X3.mk f o bad acts [] [] [] [] [] [] [] (0 : Nat) (0 : Nat)).gv (X3.mk f o bad acts [] [] [] [] []
    [] [] (0 : Nat) (0 : Nat)).sn)), some (Blk.row [AV.v (Value.int IntKind.i64 f), AV.hs (8 : Nat) (0 : Nat) (0 : Nat), AV.hs (9 : Nat) (0 : Nat) (0 : Nat)]), some (Blk.arr (11 : Nat) (0 :
    Nat) (lsF Sh.c ((X3.mk f o bad acts [] [] [] [] [] [] [] (0 : Nat) (0 : Nat)).gv ++ (X3.mk f o bad acts [] [] [] [] [] [] [] (0 : Nat) (0 : Nat)).jg))), some (Blk.arr (1 : Nat) (0 : Nat)
    (lsF I64.c ((X3.mk f o bad acts [] [] [] [] [] [] [] (0 : Nat) (0 : Nat)).sn ++ (X3.mk f o bad acts [] [] [] [] [] [] [] (0 : Nat) (0 : Nat)).js)))])) (Tree.leaf (Ans.mk (AV.v
    (Value.bool true)) [])))))))) (Tree.chk (inU32 bad) (Tree.br (decide (o < (↑(pc bad) : Int))) (Tree.chk true (Tree.br (decide (timesF (3 : Int) f = (0 : Int))) (Tree.chk true (Tree.br
    (decide (timesF (3 : Int) f = (0 : Int))) (Tree.leaf (Ans.mk (AV.sb true) [])) (Tree.br true (Tree.leaf (Ans.mk (AV.v (Value.bool false)) [])) (Tree.chk (cl (LeL [AV.sl (4 : Nat)
    (List.length acts) (lsF Ac.c acts), AV.v (Value.pointer none), AV.v (Value.pointer none), AV.v (Value.pointer none), AV.ptr (0 : Nat) (0 : Nat), AV.v (Value.int IntKind.i64 (0 : Int)),
    AV.v (Value.bool false)] [AV.sl (4 : Nat) (List.length (X3.mk f o bad acts [] [] [] [] [] [] [] (0 : Nat) (0 : Nat)).acts) (lsF Ac.c (X3.mk f o bad acts [] [] [] [] [] [] [] (0 : Nat) (0
    : Nat)).acts), AV.ptr (0 : Nat) (0 : Nat), AV.ptr (3 : Nat) (0 : Nat), AV.ptr (5 : Nat) (0 : Nat), AV.ptr (7 : Nat) (0 : Nat), AV.v (Value.int IntKind.i64 (↑(0 : Nat) : Int)), AV.any] ∧
    LeH [some (Blk.row [AV.v (Value.int IntKind.i64 f), AV.hs (1 : Nat) (0 : Nat) (0 : Nat), AV.hs (2 : Nat) (0 : Nat) (0 : Nat)]), some (Blk.arr (11 : Nat) (0 : Nat) fun x => [AV.v
    (Value.int IntKind.i64 (0 : Int)), AV.v (Value.int IntKind.i64 (0 : Int)), AV.v (Value.int IntKind.i64 (0 : Int)), AV.v (Value.int IntKind.i64 (0 : Int)), AV.v (Value.int IntKind.i64 (0
    : Int)), AV.v (Value.int IntKind.i64 (0 : Int)), AV.v (Value.int IntKind.i64 (0 : Int)), AV.v (Value.int IntKind.i64 (0 : Int)), AV.v (Value.int IntKind.i64 (0 : Int)), AV.v (Value.int
    IntKind.i64 (0 : Int)), AV.v (Value.int IntKind.i64 (0 : Int))]), some (Blk.arr (1 : Nat) (0 : Nat) fun x => [AV.v (Value.int IntKind.i64 (0 : Int))])] [some (Blk.row [AV.v (Value.int
    IntKind.i64 o), AV.v (Value.int IntKind.u32 bad), AV.map (1 : Nat), AV.hs (2 : Nat) (0 : Nat) (0 : Nat)]), some (Blk.mp [Cel.int IntKind.i64, Cel.int IntKind.i64, Cel.int IntKind.i64,
    Cel.int IntKind.i64, Cel.int IntKind.i64, Cel.int IntKind.i64, Cel.int IntKind.i64, Cel.int IntKind.i64, Cel.int IntKind.i64, Cel.int IntKind.i64, Cel.int IntKind.i64] true false (0 :
    Nat) (hasS (X3.mk f o bad acts [] [] [] [] [] [] [] (0 : Nat) (0 : Nat)).l) anyV), some (Blk.arr (11 : Nat) (0 : Nat) (lsF Sh.c ((X3.mk f o bad acts [] [] [] [] [] [] [] (0 : Nat) (0 :
    Nat)).l ++ (X3.mk f o bad acts [] [] [] [] [] [] [] (0 : Nat) (0 : Nat)).j))), some (Blk.row [AV.v (Value.int IntKind.i64 o), AV.v (Value.int IntKind.u32 bad), AV.hs (4 : Nat) (0 : Nat)
    (0 : Nat)]), some (Blk.arr (11 : Nat) (0 : Nat) (lsF Sh.c ((X3.mk f o bad acts [] [] [] [] [] [] [] (0 : Nat) (0 : Nat)).l ++ (X3.mk f o bad acts [] [] [] [] [] [] [] (0 : Nat) (0 :
    Nat)).j'))), some (Blk.row [AV.v (Value.int IntKind.i64 f), AV.map (6 : Nat)]), some (Blk.mp [Cel.int IntKind.i64] false true (0 : Nat) (hasC (X3.mk f o bad acts [] [] [] [] [] [] [] (0
    : Nat) (0 : Nat)).gv (X3.mk f o bad acts [] [] [] [] [] [] [] (0 : Nat) (0 : Nat)).sn) (valC (X3.mk f o bad acts [] [] [] [] [] [] [] (0 : Nat) (0 : Nat)).f (X3.mk f o bad acts [] [] []
    [] [] [] [] (0 : Nat) (0 : Nat)).gv (X3.mk f o bad acts [] [] [] [] [] [] [] (0 : Nat) (0 : Nat)).sn)), some (Blk.row [AV.v (Value.int IntKind.i64 f), AV.hs (8 : Nat) (0 : Nat) (0 :
    Nat), AV.hs (9 : Nat) (0 : Nat) (0 : Nat)]), some (Blk.arr (11 : Nat) (0 : Nat) (lsF Sh.c ((X3.mk f o bad acts [] [] [] [] [] [] [] (0 : Nat) (0 : Nat)).gv ++ (X3.mk f o bad acts [] []
    [] [] [] [] [] (0 : Nat) (0 : Nat)).jg))), some (Blk.arr (1 : Nat) (0 : Nat) (lsF I64.c ((X3.mk f o bad acts [] [] [] [] [] [] [] (0 : Nat) (0 : Nat)).sn ++ (X3.mk f o bad acts [] [] []
    [] [] [] [] (0 : Nat) (0 : Nat)).js)))])) (Tree.leaf (Ans.mk (AV.v (Value.bool true)) [])))))) (Tree.chk true (Tree.br (decide (timesF (3 : Int) f = (0 : Int))) (Tree.leaf (Ans.mk (AV.v
    (Value.bool false)) [])) (Tree.br false (Tree.leaf (Ans.mk (AV.v (Value.bool false)) [])) (Tree.chk (cl (LeL [AV.sl (4 : Nat) (List.length acts) (lsF Ac.c acts), AV.v (Value.pointer
    none), AV.v (Value.pointer none), AV.ptr (0 : Nat) (0 : Nat), AV.ptr (2 : Nat) (0 : Nat), AV.v (Value.int IntKind.i64 (0 : Int)), AV.v (Value.bool false)] [AV.sl (4 : Nat) (List.length
    (X3.mk f o bad acts [] [] [] [] [] [] [] (0 : Nat) (0 : Nat)).acts) (lsF Ac.c (X3.mk f o bad acts [] [] [] [] [] [] [] (0 : Nat) (0 : Nat)).acts), AV.ptr (0 : Nat) (0 : Nat), AV.ptr (3 :
    Nat) (0 : Nat), AV.ptr (5 : Nat) (0 : Nat), AV.ptr (7 : Nat) (0 : Nat), AV.v (Value.int IntKind.i64 (↑(0 : Nat) : Int)), AV.any] ∧ LeH [some (Blk.row [AV.v (Value.int IntKind.i64 f),
    AV.map (1 : Nat)]), some (Blk.mp [Cel.int IntKind.i64] false true (0 : Nat) (fun x => false) fun x => [AV.v (Value.int IntKind.i64 (0 : Int)), AV.v (Value.bool false), AV.v (Value.bool
    false)]), some (Blk.row [AV.v (Value.int IntKind.i64 f), AV.hs (3 : Nat) (0 : Nat) (0 : Nat), AV.hs (4 : Nat) (0 : Nat) (0 : Nat)]), some (Blk.arr (11 : Nat) (0 : Nat) fun x => [AV.v
    (Value.int IntKind.i64 (0 : Int)), AV.v (Value.int IntKind.i64 (0 : Int)), AV.v (Value.int IntKind.i64 (0 : Int)), AV.v (Value.int IntKind.i64 (0 : Int)), AV.v (Value.int IntKind.i64 (0
    : Int)), AV.v (Value.int IntKind.i64 (0 : Int)), AV.v (Value.int IntKind.i64 (0 : Int)), AV.v (Value.int IntKind.i64 (0 : Int)), AV.v (Value.int IntKind.i64 (0 : Int)), AV.v (Value.int
    IntKind.i64 (0 : Int)), AV.v (Value.int IntKind.i64 (0 : Int))]), some (Blk.arr (1 : Nat) (0 : Nat) fun x => [AV.v (Value.int IntKind.i64 (0 : Int))])] [some (Blk.row [AV.v (Value.int
    IntKind.i64 o), AV.v (Value.int IntKind.u32 bad), AV.map (1 : Nat), AV.hs (2 : Nat) (0 : Nat) (0 : Nat)]), some (Blk.mp [Cel.int IntKind.i64, Cel.int IntKind.i64, Cel.int IntKind.i64,
    Cel.int IntKind.i64, Cel.int IntKind.i64, Cel.int IntKind.i64, Cel.int IntKind.i64, Cel.int IntKind.i64, Cel.int IntKind.i64, Cel.int IntKind.i64, Cel.int IntKind.i64] true false (0 :
    Nat) (hasS (X3.mk f o bad acts [] [] [] [] [] [] [] (0 : Nat) (0 : Nat)).l) anyV), some (Blk.arr (11 : Nat) (0 : Nat) (lsF Sh.c ((X3.mk f o bad acts [] [] [] [] [] [] [] (0 : Nat) (0 :
    Nat)).l ++ (X3.mk f o bad acts [] [] [] [] [] [] [] (0 : Nat) (0 : Nat)).j))), some (Blk.row [AV.v (Value.int IntKind.i64 o), AV.v (Value.int IntKind.u32 bad), AV.hs (4 : Nat) (0 : Nat)
    (0 : Nat)]), some (Blk.arr (11 : Nat) (0 : Nat) (lsF Sh.c ((X3.mk f o bad acts [] [] [] [] [] [] [] (0 : Nat) (0 : Nat)).l ++ (X3.mk f o bad acts [] [] [] [] [] [] [] (0 : Nat) (0 :
    Nat)).j'))), some (Blk.row [AV.v (Value.int IntKind.i64 f), AV.map (6 : Nat)]), some (Blk.mp [Cel.int IntKind.i64] false true (0 : Nat) (hasC (X3.mk f o bad acts [] [] [] [] [] [] [] (0
    : Nat) (0 : Nat)).gv (X3.mk f o bad acts [] [] [] [] [] [] [] (0 : Nat) (0 : Nat)).sn) (valC (X3.mk f o bad acts [] [] [] [] [] [] [] (0 : Nat) (0 : Nat)).f (X3.mk f o bad acts [] [] []
    [] [] [] [] (0 : Nat) (0 : Nat)).gv (X3.mk f o bad acts [] [] [] [] [] [] [] (0 : Nat) (0 : Nat)).sn)), some (Blk.row [AV.v (Value.int IntKind.i64 f), AV.hs (8 : Nat) (0 : Nat) (0 :
    Nat), AV.hs (9 : Nat) (0 : Nat) (0 : Nat)]), some (Blk.arr (11 : Nat) (0 : Nat) (lsF Sh.c ((X3.mk f o bad acts [] [] [] [] [] [] [] (0 : Nat) (0 : Nat)).gv ++ (X3.mk f o bad acts [] []
    [] [] [] [] [] (0 : Nat) (0 : Nat)).jg))), some (Blk.arr (1 : Nat) (0 : Nat) (lsF I64.c ((X3.mk f o bad acts [] [] [] [] [] [] [] (0 : Nat) (0 : Nat)).sn ++ (X3.mk f o bad acts [] [] []
    [] [] [] [] (0 : Nat) (0 : Nat)).js)))])) (Tree.leaf (Ans.mk (AV.v (Value.bool true)) [])))))))) (Tree.chk true (Tree.br (decide (timesF (3 : Int) f = (0 : Int))) (Tree.chk true (Tree.br
    (decide (timesF (3 : Int) f = (0 : Int))) (Tree.leaf (Ans.mk (AV.sb true) [])) (Tree.br true (Tree.leaf (Ans.mk (AV.v (Value.bool false)) [])) (Tree.chk (cl (LeL [AV.sl (4 : Nat)
    (List.length acts) (lsF Ac.c acts), AV.v (Value.pointer none), AV.ptr (0 : Nat) (0 : Nat), AV.v (Value.pointer none), AV.ptr (2 : Nat) (0 : Nat), AV.v (Value.int IntKind.i64 (0 : Int)),
    AV.v (Value.bool false)] [AV.sl (4 : Nat) (List.length (X3.mk f o bad acts [] [] [] [] [] [] [] (0 : Nat) (0 : Nat)).acts) (lsF Ac.c (X3.mk f o bad acts [] [] [] [] [] [] [] (0 : Nat) (0
    : Nat)).acts), AV.ptr (0 : Nat) (0 : Nat), AV.ptr (3 : Nat) (0 : Nat), AV.ptr (5 : Nat) (0 : Nat), AV.ptr (7 : Nat) (0 : Nat), AV.v (Value.int IntKind.i64 (↑(0 : Nat) : Int)), AV.any] ∧
    LeH [some (Blk.row [AV.v (Value.int IntKind.i64 o), AV.v (Value.int IntKind.u32 bad), AV.hs (1 : Nat) (0 : Nat) (0 : Nat)]), some (Blk.arr (11 : Nat) (0 : Nat) fun x => [AV.v (Value.int
    IntKind.i64 (0 : Int)), AV.v (Value.int IntKind.i64 (0 : Int)), AV.v (Value.int IntKind.i64 (0 : Int)), AV.v (Value.int IntKind.i64 (0 : Int)), AV.v (Value.int IntKind.i64 (0 : Int)),
    AV.v (Value.int IntKind.i64 (0 : Int)), AV.v (Value.int IntKind.i64 (0 : Int)), AV.v (Value.int IntKind.i64 (0 : Int)), AV.v (Value.int IntKind.i64 (0 : Int)), AV.v (Value.int
    IntKind.i64 (0 : Int)), AV.v (Value.int IntKind.i64 (0 : Int))]), some (Blk.row [AV.v (Value.int IntKind.i64 f), AV.hs (3 : Nat) (0 : Nat) (0 : Nat), AV.hs (4 : Nat) (0 : Nat) (0 :
    Nat)]), some (Blk.arr (11 : Nat) (0 : Nat) fun x => [AV.v (Value.int IntKind.i64 (0 : Int)), AV.v (Value.int IntKind.i64 (0 : Int)), AV.v (Value.int IntKind.i64 (0 : Int)), AV.v
    (Value.int IntKind.i64 (0 : Int)), AV.v (Value.int IntKind.i64 (0 : Int)), AV.v (Value.int IntKind.i64 (0 : Int)), AV.v (Value.int IntKind.i64 (0 : Int)), AV.v (Value.int IntKind.i64 (0
    : Int)), AV.v (Value.int IntKind.i64 (0 : Int)), AV.v (Value.int IntKind.i64 (0 : Int)), AV.v (Value.int IntKind.i64 (0 : Int))]), some (Blk.arr (1 : Nat) (0 : Nat) fun x => [AV.v
    (Value.int IntKind.i64 (0 : Int))])] [some (Blk.row [AV.v (Value.int IntKind.i64 o), AV.v (Value.int IntKind.u32 bad), AV.map (1 : Nat), AV.hs (2 : Nat) (0 : Nat) (0 : Nat)]), some
    (Blk.mp [Cel.int IntKind.i64, Cel.int IntKind.i64, Cel.int IntKind.i64, Cel.int IntKind.i64, Cel.int IntKind.i64, Cel.int IntKind.i64, Cel.int IntKind.i64, Cel.int IntKind.i64, Cel.int
    IntKind.i64, Cel.int IntKind.i64, Cel.int IntKind.i64] true false (0 : Nat) (hasS (X3.mk f o bad acts [] [] [] [] [] [] [] (0 : Nat) (0 : Nat)).l) anyV), some (Blk.arr (11 : Nat) (0 :
    Nat) (lsF Sh.c ((X3.mk f o bad acts [] [] [] [] [] [] [] (0 : Nat) (0 : Nat)).l ++ (X3.mk f o bad acts [] [] [] [] [] [] [] (0 : Nat) (0 : Nat)).j))), some (Blk.row [AV.v (Value.int
    IntKind.i64 o), AV.v (Value.int IntKind.u32 bad), AV.hs (4 : Nat) (0 : Nat) (0 : Nat)]), some (Blk.arr (11 : Nat) (0 : Nat) (lsF Sh.c ((X3.mk f o bad acts [] [] [] [] [] [] [] (0 : Nat)
    (0 : Nat)).l ++ (X3.mk f o bad acts [] [] [] [] [] [] [] (0 : Nat) (0 : Nat)).j'))), some (Blk.row [AV.v (Value.int IntKind.i64 f), AV.map (6 : Nat)]), some (Blk.mp [Cel.int IntKind.i64]
    false true (0 : Nat) (hasC (X3.mk f o bad acts [] [] [] [] [] [] [] (0 : Nat) (0 : Nat)).gv (X3.mk f o bad acts [] [] [] [] [] [] [] (0 : Nat) (0 : Nat)).sn) (valC (X3.mk f o bad acts []
    [] [] [] [] [] [] (0 : Nat) (0 : Nat)).f (X3.mk f o bad acts [] [] [] [] [] [] [] (0 : Nat) (0 : Nat)).gv (X3.mk f o bad acts [] [] [] [] [] [] [] (0 : Nat) (0 : Nat)).sn)), some
    (Blk.row [AV.v (Value.int IntKind.i64 f), AV.hs (8 : Nat) (0 : Nat) (0 : Nat), AV.hs (9 : Nat) (0 : Nat) (0 : Nat)]), some (Blk.arr (11 : Nat) (0 : Nat) (lsF Sh.c ((X3.mk f o bad acts []
    [] [] [] [] [] [] (0 : Nat) (0 : Nat)).gv ++ (X3.mk f o bad acts [] [] [] [] [] [] [] (0 : Nat) (0 : Nat)).jg))), some (Blk.arr (1 : Nat) (0 : Nat) (lsF I64.c ((X3.mk f o bad acts [] []
    [] [] [] [] [] (0 : Nat) (0 : Nat)).sn ++ (X3.mk f o bad acts [] [] [] [] [] [] [] (0 : Nat) (0 : Nat)).js)))])) (Tree.leaf (Ans.mk (AV.v (Value.bool true)) [])))))) (Tree.chk true
    (Tree.br (decide (timesF (3 : Int) f = (0 : Int))) (Tree.leaf (Ans.mk (AV.v (Value.bool false)) [])) (Tree.br true (Tree.leaf (Ans.mk (AV.v (Value.bool false)) [])) (Tree.chk (cl (LeL
    [AV.sl (4 : Nat) (List.length acts) (lsF Ac.c acts), AV.v (Value.pointer none), AV.ptr (0 : Nat) (0 : Nat), AV.ptr (2 : Nat) (0 : Nat), AV.ptr (4 : Nat) (0 : Nat), AV.v (Value.int
    IntKind.i64 (0 : Int)), AV.v (Value.bool false)] [AV.sl (4 : Nat) (List.length (X3.mk f o bad acts [] [] [] [] [] [] [] (0 : Nat) (0 : Nat)).acts) (lsF Ac.c (X3.mk f o bad acts [] [] []
    [] [] [] [] (0 : Nat) (0 : Nat)).acts), AV.ptr (0 : Nat) (0 : Nat), AV.ptr (3 : Nat) (0 : Nat), AV.ptr (5 : Nat) (0 : Nat), AV.ptr (7 : Nat) (0 : Nat), AV.v (Value.int IntKind.i64 (↑(0 :
    Nat) : Int)), AV.any] ∧ LeH [some (Blk.row [AV.v (Value.int IntKind.i64 o), AV.v (Value.int IntKind.u32 bad), AV.hs (1 : Nat) (0 : Nat) (0 : Nat)]), some (Blk.arr (11 : Nat) (0 : Nat)
    fun x => [AV.v (Value.int IntKind.i64 (0 : Int)), AV.v (Value.int IntKind.i64 (0 : Int)), AV.v (Value.int IntKind.i64 (0 : Int)), AV.v (Value.int IntKind.i64 (0 : Int)), AV.v (Value.int
    IntKind.i64 (0 : Int)), AV.v (Value.int IntKind.i64 (0 : Int)), AV.v (Value.int IntKind.i64 (0 : Int)), AV.v (Value.int IntKind.i64 (0 : Int)), AV.v (Value.int IntKind.i64 (0 : Int)),
    AV.v (Value.int IntKind.i64 (0 : Int)), AV.v (Value.int IntKind.i64 (0 : Int))]), some (Blk.row [AV.v (Value.int IntKind.i64 f), AV.map (3 : Nat)]), some (Blk.mp [Cel.int IntKind.i64]
    false true (0 : Nat) (fun x => false) fun x => [AV.v (Value.int IntKind.i64 (0 : Int)), AV.v (Value.bool false), AV.v (Value.bool false)]), some (Blk.row [AV.v (Value.int IntKind.i64 f),
    AV.hs (5 : Nat) (0 : Nat) (0 : Nat), AV.hs (6 : Nat) (0 : Nat) (0 : Nat)]), some (Blk.arr (11 : Nat) (0 : Nat) fun x => [AV.v (Value.int IntKind.i64 (0 : Int)), AV.v (Value.int
    IntKind.i64 (0 : Int)), AV.v (Value.int IntKind.i64 (0 : Int)), AV.v (Value.int IntKind.i64 (0 : Int)), AV.v (Value.int IntKind.i64 (0 : Int)), AV.v (Value.int IntKind.i64 (0 : Int)),
    AV.v (Value.int IntKind.i64 (0 : Int)), AV.v (Value.int IntKind.i64 (0 : Int)), AV.v (Value.int IntKind.i64 (0 : Int)), AV.v (Value.int IntKind.i64 (0 : Int)), AV.v (Value.int
    IntKind.i64 (0 : Int))]), some (Blk.arr (1 : Nat) (0 : Nat) fun x => [AV.v (Value.int IntKind.i64 (0 : Int))])] [some (Blk.row [AV.v (Value.int IntKind.i64 o), AV.v (Value.int
    IntKind.u32 bad), AV.map (1 : Nat), AV.hs (2 : Nat) (0 : Nat) (0 : Nat)]), some (Blk.mp [Cel.int IntKind.i64, Cel.int IntKind.i64, Cel.int IntKind.i64, Cel.int IntKind.i64, Cel.int
    IntKind.i64, Cel.int IntKind.i64, Cel.int IntKind.i64, Cel.int IntKind.i64, Cel.int IntKind.i64, Cel.int IntKind.i64, Cel.int IntKind.i64] true false (0 : Nat) (hasS (X3.mk f o bad acts
    [] [] [] [] [] [] [] (0 : Nat) (0 : Nat)).l) anyV), some (Blk.arr (11 : Nat) (0 : Nat) (lsF Sh.c ((X3.mk f o bad acts [] [] [] [] [] [] [] (0 : Nat) (0 : Nat)).l ++ (X3.mk f o bad acts
    [] [] [] [] [] [] [] (0 : Nat) (0 : Nat)).j))), some (Blk.row [AV.v (Value.int IntKind.i64 o), AV.v (Value.int IntKind.u32 bad), AV.hs (4 : Nat) (0 : Nat) (0 : Nat)]), some (Blk.arr (11
    : Nat) (0 : Nat) (lsF Sh.c ((X3.mk f o bad acts [] [] [] [] [] [] [] (0 : Nat) (0 : Nat)).l ++ (X3.mk f o bad acts [] [] [] [] [] [] [] (0 : Nat) (0 : Nat)).j'))), some (Blk.row [AV.v
    (Value.int IntKind.i64 f), AV.map (6 : Nat)]), some (Blk.mp [Cel.int IntKind.i64] false true (0 : Nat) (hasC (X3.mk f o bad acts [] [] [] [] [] [] [] (0 : Nat) (0 : Nat)).gv (X3.mk f o
    bad acts [] [] [] [] [] [] [] (0 : Nat) (0 : Nat)).sn) (valC (X3.mk f o bad acts [] [] [] [] [] [] [] (0 : Nat) (0 : Nat)).f (X3.mk f o bad acts [] [] [] [] [] [] [] (0 : Nat) (0 :
    Nat)).gv (X3.mk f o bad acts [] [] [] [] [] [] [] (0 : Nat) (0 : Nat)).sn)), some (Blk.row [AV.v (Value.int IntKind.i64 f), AV.hs (8 : Nat) (0 : Nat) (0 : Nat), AV.hs (9 : Nat) (0 : Nat)
    (0 : Nat)]), some (Blk.arr (11 : Nat) (0 : Nat) (lsF Sh.c ((X3.mk f o bad acts [] [] [] [] [] [] [] (0 : Nat) (0 : Nat)).gv ++ (X3.mk f o bad acts [] [] [] [] [] [] [] (0 : Nat) (0 :
    Nat)).jg))), some (Blk.arr (1 : Nat) (0 : Nat) (lsF I64.c ((X3.mk f o bad acts [] [] [] [] [] [] [] (0 : Nat) (0 : Nat)).sn ++ (X3.mk f o bad acts [] [] [] [] [] [] [] (0 : Nat) (0 :
    Nat)).js)))])) (Tree.leaf (Ans.mk (AV.v (Value.bool true)) [])))))))))))) (Tree.chk (inU32 bad) (Tree.br (!decide (checkF o bad = (0 : Int))) (Tree.chk true (Tree.br (decide (timesF (3 :
    Int) f = (0 : Int))) (Tree.chk true (Tree.br (decide (timesF (3 : Int) f = (0 : Int))) (Tree.leaf (Ans.mk (AV.sb true) [])) (Tree.br true (Tree.leaf (Ans.mk (AV.v (Value.bool false))
    [])) (Tree.chk (cl (LeL [AV.sl (4 : Nat) (List.length acts) (lsF Ac.c acts), AV.ptr (0 : Nat) (0 : Nat), AV.v (Value.pointer none), AV.v (Value.pointer none), AV.ptr (3 : Nat) (0 : Nat),
    AV.v (Value.int IntKind.i64 (0 : Int)), AV.v (Value.bool false)] [AV.sl (4 : Nat) (List.length (X3.mk f o bad acts [] [] [] [] [] [] [] (0 : Nat) (0 : Nat)).acts) (lsF Ac.c (X3.mk f o
    bad acts [] [] [] [] [] [] [] (0 : Nat) (0 : Nat)).acts), AV.ptr (0 : Nat) (0 : Nat), AV.ptr (3 : Nat) (0 : Nat), AV.ptr (5 : Nat) (0 : Nat), AV.ptr (7 : Nat) (0 : Nat), AV.v (Value.int
    IntKind.i64 (↑(0 : Nat) : Int)), AV.any] ∧ LeH [some (Blk.row [AV.v (Value.int IntKind.i64 o), AV.v (Value.int IntKind.u32 bad), AV.map (1 : Nat), AV.hs (2 : Nat) (0 : Nat) (0 : Nat)]),
    some (Blk.mp [Cel.int IntKind.i64, Cel.int IntKind.i64, Cel.int IntKind.i64, Cel.int IntKind.i64, Cel.int IntKind.i64, Cel.int IntKind.i64, Cel.int IntKind.i64, Cel.int IntKind.i64,
    Cel.int IntKind.i64, Cel.int IntKind.i64, Cel.int IntKind.i64] true false (0 : Nat) (fun x => false) fun x => [AV.v (Value.int IntKind.i64 (0 : Int))]), some (Blk.arr (11 : Nat) (0 :
    Nat) fun x => [AV.v (Value.int IntKind.i64 (0 : Int)), AV.v (Value.int IntKind.i64 (0 : Int)), AV.v (Value.int IntKind.i64 (0 : Int)), AV.v (Value.int IntKind.i64 (0 : Int)), AV.v
    (Value.int IntKind.i64 (0 : Int)), AV.v (Value.int IntKind.i64 (0 : Int)), AV.v (Value.int IntKind.i64 (0 : Int)), AV.v (Value.int IntKind.i64 (0 : Int)), AV.v (Value.int IntKind.i64 (0
    : Int)), AV.v (Value.int IntKind.i64 (0 : Int)), AV.v (Value.int IntKind.i64 (0 : Int))]), some (Blk.row [AV.v (Value.int IntKind.i64 f), AV.hs (4 : Nat) (0 : Nat) (0 : Nat), AV.hs (5 :
    Nat) (0 : Nat) (0 : Nat)]), some (Blk.arr (11 : Nat) (0 : Nat) fun x => [AV.v (Value.int IntKind.i64 (0 : Int)), AV.v (Value.int IntKind.i64 (0 : Int)), AV.v (Value.int IntKind.i64 (0 :
    Int)), AV.v (Value.int IntKind.i64 (0 : Int)), AV.v (Value.int IntKind.i64 (0 : Int)), AV.v (Value.int IntKind.i64 (0 : Int)), AV.v (Value.int IntKind.i64 (0 : Int)), AV.v (Value.int
    IntKind.i64 (0 : Int)), AV.v (Value.int IntKind.i64 (0 : Int)), AV.v (Value.int IntKind.i64 (0 : Int)), AV.v (Value.int IntKind.i64 (0 : Int))]), some (Blk.arr (1 : Nat) (0 : Nat) fun x
    => [AV.v (Value.int IntKind.i64 (0 : Int))])] [some (Blk.row [AV.v (Value.int IntKind.i64 o), AV.v (Value.int IntKind.u32 bad), AV.map (1 : Nat), AV.hs (2 : Nat) (0 : Nat) (0 : Nat)]),
    some (Blk.mp [Cel.int IntKind.i64, Cel.int IntKind.i64, Cel.int IntKind.i64, Cel.int IntKind.i64, Cel.int IntKind.i64, Cel.int IntKind.i64, Cel.int IntKind.i64, Cel.int IntKind.i64,
    Cel.int IntKind.i64, Cel.int IntKind.i64, Cel.int IntKind.i64] true false (0 : Nat) (hasS (X3.mk f o bad acts [] [] [] [] [] [] [] (0 : Nat) (0 : Nat)).l) anyV), some (Blk.arr (11 : Nat)
    (0 : Nat) (lsF Sh.c ((X3.mk f o bad acts [] [] [] [] [] [] [] (0 : Nat) (0 : Nat)).l ++ (X3.mk f o bad acts [] [] [] [] [] [] [] (0 : Nat) (0 : Nat)).j))), some (Blk.row [AV.v (Value.int
    IntKind.i64 o), AV.v (Value.int IntKind.u32 bad), AV.hs (4 : Nat) (0 : Nat) (0 : Nat)]), some (Blk.arr (11 : Nat) (0 : Nat) (lsF Sh.c ((X3.mk f o bad acts [] [] [] [] [] [] [] (0 : Nat)
    (0 : Nat)).l ++ (X3.mk f o bad acts [] [] [] [] [] [] [] (0 : Nat) (0 : Nat)).j'))), some (Blk.row [AV.v (Value.int IntKind.i64 f), AV.map (6 : Nat)]), some (Blk.mp [Cel.int IntKind.i64]
    false true (0 : Nat) (hasC (X3.mk f o bad acts [] [] [] [] [] [] [] (0 : Nat) (0 : Nat)).gv (X3.mk f o bad acts [] [] [] [] [] [] [] (0 : Nat) (0 : Nat)).sn) (valC (X3.mk f o bad acts []
    [] [] [] [] [] [] (0 : Nat) (0 : Nat)).f (X3.mk f o bad acts [] [] [] [] [] [] [] (0 : Nat) (0 : Nat)).gv (X3.mk f o bad acts [] [] [] [] [] [] [] (0 : Nat) (0 : Nat)).sn)), some
    (Blk.row [AV.v (Value.int IntKind.i64 f), AV.hs (8 : Nat) (0 : Nat) (0 : Nat), AV.hs (9 : Nat) (0 : Nat) (0 : Nat)]), some (Blk.arr (11 : Nat) (0 : Nat) (lsF Sh.c ((X3.mk f o bad acts []
    [] [] [] [] [] [] (0 : Nat) (0 : Nat)).gv ++ (X3.mk f o bad acts [] [] [] [] [] [] [] (0 : Nat) (0 : Nat)).jg))), some (Blk.arr (1 : Nat) (0 : Nat) (lsF I64.c ((X3.mk f o bad acts [] []
    [] [] [] [] [] (0 : Nat) (0 : Nat)).sn ++ (X3.mk f o bad acts [] [] [] [] [] [] [] (0 : Nat) (0 : Nat)).js)))])) (Tree.leaf (Ans.mk (AV.v (Value.bool true)) [])))))) (Tree.chk true
    (Tree.br (decide (timesF (3 : Int) f = (0 : Int))) (Tree.leaf (Ans.mk (AV.v (Value.bool false)) [])) (Tree.br (!decide ((0 : Int) = checkF o bad)) (Tree.leaf (Ans.mk (AV.v (Value.bool
    false)) [])) (Tree.chk (cl (LeL [AV.sl (4 : Nat) (List.length acts) (lsF Ac.c acts), AV.ptr (0 : Nat) (0 : Nat), AV.v (Value.pointer none), AV.ptr (3 : Nat) (0 : Nat), AV.ptr (5 : Nat)
    (0 : Nat), AV.v (Value.int IntKind.i64 (0 : Int)), AV.v (Value.bool false)] [AV.sl (4 : Nat) (List.length (X3.mk f o bad acts [] [] [] [] [] [] [] (0 : Nat) (0 : Nat)).acts) (lsF Ac.c
    (X3.mk f o bad acts [] [] [] [] [] [] [] (0 : Nat) (0 : Nat)).acts), AV.ptr (0 : Nat) (0 : Nat), AV.ptr (3 : Nat) (0 : Nat), AV.ptr (5 : Nat) (0 : Nat), AV.ptr (7 : Nat) (0 : Nat), AV.v
    (Value.int IntKind.i64 (↑(0 : Nat) : Int)), AV.any] ∧ LeH [some (Blk.row [AV.v (Value.int IntKind.i64 o), AV.v (Value.int IntKind.u32 bad), AV.map (1 : Nat), AV.hs (2 : Nat) (0 : Nat) (0
    : Nat)]), some (Blk.mp [Cel.int IntKind.i64, Cel.int IntKind.i64, Cel.int IntKind.i64, Cel.int IntKind.i64, Cel.int IntKind.i64, Cel.int IntKind.i64, Cel.int IntKind.i64, Cel.int
    IntKind.i64, Cel.int IntKind.i64, Cel.int IntKind.i64, Cel.int IntKind.i64] true false (0 : Nat) (fun x => false) fun x => [AV.v (Value.int IntKind.i64 (0 : Int))]), some (Blk.arr (11 :
    Nat) (0 : Nat) fun x => [AV.v (Value.int IntKind.i64 (0 : Int)), AV.v (Value.int IntKind.i64 (0 : Int)), AV.v (Value.int IntKind.i64 (0 : Int)), AV.v (Value.int IntKind.i64 (0 : Int)),
    AV.v (Value.int IntKind.i64 (0 : Int)), AV.v (Value.int IntKind.i64 (0 : Int)), AV.v (Value.int IntKind.i64 (0 : Int)), AV.v (Value.int IntKind.i64 (0 : Int)), AV.v (Value.int
    IntKind.i64 (0 : Int)), AV.v (Value.int IntKind.i64 (0 : Int)), AV.v (Value.int IntKind.i64 (0 : Int))]), some (Blk.row [AV.v (Value.int IntKind.i64 f), AV.map (4 : Nat)]), some (Blk.mp
    [Cel.int IntKind.i64] false true (0 : Nat) (fun x => false) fun x => [AV.v (Value.int IntKind.i64 (0 : Int)), AV.v (Value.bool false), AV.v (Value.bool false)]), some (Blk.row [AV.v
    (Value.int IntKind.i64 f), AV.hs (6 : Nat) (0 : Nat) (0 : Nat), AV.hs (7 : Nat) (0 : Nat) (0 : Nat)]), some (Blk.arr (11 : Nat) (0 : Nat) fun x => [AV.v (Value.int IntKind.i64 (0 :
    Int)), AV.v (Value.int IntKind.i64 (0 : Int)), AV.v (Value.int IntKind.i64 (0 : Int)), AV.v (Value.int IntKind.i64 (0 : Int)), AV.v (Value.int IntKind.i64 (0 : Int)), AV.v (Value.int
    IntKind.i64 (0 : Int)), AV.v (Value.int IntKind.i64 (0 : Int)), AV.v (Value.int IntKind.i64 (0 : Int)), AV.v (Value.int IntKind.i64 (0 : Int)), AV.v (Value.int IntKind.i64 (0 : Int)),
    AV.v (Value.int IntKind.i64 (0 : Int))]), some (Blk.arr (1 : Nat) (0 : Nat) fun x => [AV.v (Value.int IntKind.i64 (0 : Int))])] [some (Blk.row [AV.v (Value.int IntKind.i64 o), AV.v
    (Value.int IntKind.u32 bad), AV.map (1 : Nat), AV.hs (2 : Nat) (0 : Nat) (0 : Nat)]), some (Blk.mp [Cel.int IntKind.i64, Cel.int IntKind.i64, Cel.int IntKind.i64, Cel.int IntKind.i64,
    Cel.int IntKind.i64, Cel.int IntKind.i64, Cel.int IntKind.i64, Cel.int IntKind.i64, Cel.int IntKind.i64, Cel.int IntKind.i64, Cel.int IntKind.i64] true false (0 : Nat) (hasS (X3.mk f o
    bad acts [] [] [] [] [] [] [] (0 : Nat) (0 : Nat)).l) anyV), some (Blk.arr (11 : Nat) (0 : Nat) (lsF Sh.c ((X3.mk f o bad acts [] [] [] [] [] [] [] (0 : Nat) (0 : Nat)).l ++ (X3.mk f o
    bad acts [] [] [] [] [] [] [] (0 : Nat) (0 : Nat)).j))), some (Blk.row [AV.v (Value.int IntKind.i64 o), AV.v (Value.int IntKind.u32 bad), AV.hs (4 : Nat) (0 : Nat) (0 : Nat)]), some
    (Blk.arr (11 : Nat) (0 : Nat) (lsF Sh.c ((X3.mk f o bad acts [] [] [] [] [] [] [] (0 : Nat) (0 : Nat)).l ++ (X3.mk f o bad acts [] [] [] [] [] [] [] (0 : Nat) (0 : Nat)).j'))), some
    (Blk.row [AV.v (Value.int IntKind.i64 f), AV.map (6 : Nat)]), some (Blk.mp [Cel.int IntKind.i64] false true (0 : Nat) (hasC (X3.mk f o bad acts [] [] [] [] [] [] [] (0 : Nat) (0 :
    Nat)).gv (X3.mk f o bad acts [] [] [] [] [] [] [] (0 : Nat) (0 : Nat)).sn) (valC (X3.mk f o bad acts [] [] [] [] [] [] [] (0 : Nat) (0 : Nat)).f (X3.mk f o bad acts [] [] [] [] [] [] []
    (0 : Nat) (0 : Nat)).gv (X3.mk f o bad acts [] [] [] [] [] [] [] (0 : Nat) (0 : Nat)).sn)), some (Blk.row [AV.v (Value.int IntKind.i64 f), AV.hs (8 : Nat) (0 : Nat) (0 : Nat), AV.hs (9 :
    Nat) (0 : Nat) (0 : Nat)]), some (Blk.arr (11 : Nat) (0 : Nat) (lsF Sh.c ((X3.mk f o bad acts [] [] [] [] [] [] [] (0 : Nat) (0 : Nat)).gv ++ (X3.mk f o bad acts [] [] [] [] [] [] [] (0
    : Nat) (0 : Nat)).jg))), some (Blk.arr (1 : Nat) (0 : Nat) (lsF I64.c ((X3.mk f o bad acts [] [] [] [] [] [] [] (0 : Nat) (0 : Nat)).sn ++ (X3.mk f o bad acts [] [] [] [] [] [] [] (0 :
    Nat) (0 : Nat)).js)))])) (Tree.leaf (Ans.mk (AV.v (Value.bool true)) [])))))))) (Tree.chk (inU32 bad) (Tree.br (decide (o < (↑(pc bad) : Int))) (Tree.chk true (Tree.br (decide (timesF (3
    : Int) f = (0 : Int))) (Tree.chk true (Tree.br (decide (timesF (3 : Int) f = (0 : Int))) (Tree.leaf (Ans.mk (AV.sb true) [])) (Tree.br true (Tree.leaf (Ans.mk (AV.v (Value.bool false))
    [])) (Tree.chk (cl (LeL [AV.sl (4 : Nat) (List.length acts) (lsF Ac.c acts), AV.ptr (0 : Nat) (0 : Nat), AV.v (Value.pointer none), AV.v (Value.pointer none), AV.ptr (3 : Nat) (0 : Nat),
    AV.v (Value.int IntKind.i64 (0 : Int)), AV.v (Value.bool false)] [AV.sl (4 : Nat) (List.length (X3.mk f o bad acts [] [] [] [] [] [] [] (0 : Nat) (0 : Nat)).acts) (lsF Ac.c (X3.mk f o
    bad acts [] [] [] [] [] [] [] (0 : Nat) (0 : Nat)).acts), AV.ptr (0 : Nat) (0 : Nat), AV.ptr (3 : Nat) (0 : Nat), AV.ptr (5 : Nat) (0 : Nat), AV.ptr (7 : Nat) (0 : Nat), AV.v (Value.int
    IntKind.i64 (↑(0 : Nat) : Int)), AV.any] ∧ LeH [some (Blk.row [AV.v (Value.int IntKind.i64 o), AV.v (Value.int IntKind.u32 bad), AV.map (1 : Nat), AV.hs (2 : Nat) (0 : Nat) (0 : Nat)]),
    some (Blk.mp [Cel.int IntKind.i64, Cel.int IntKind.i64, Cel.int IntKind.i64, Cel.int IntKind.i64, Cel.int IntKind.i64, Cel.int IntKind.i64, Cel.int IntKind.i64, Cel.int IntKind.i64,
    Cel.int IntKind.i64, Cel.int IntKind.i64, Cel.int IntKind.i64] true false (0 : Nat) (fun x => false) fun x => [AV.v (Value.int IntKind.i64 (0 : Int))]), some (Blk.arr (11 : Nat) (0 :
    Nat) fun x => [AV.v (Value.int IntKind.i64 (0 : Int)), AV.v (Value.int IntKind.i64 (0 : Int)), AV.v (Value.int IntKind.i64 (0 : Int)), AV.v (Value.int IntKind.i64 (0 : Int)), AV.v
    (Value.int IntKind.i64 (0 : Int)), AV.v (Value.int IntKind.i64 (0 : Int)), AV.v (Value.int IntKind.i64 (0 : Int)), AV.v (Value.int IntKind.i64 (0 : Int)), AV.v (Value.int IntKind.i64 (0
    : Int)), AV.v (Value.int IntKind.i64 (0 : Int)), AV.v (Value.int IntKind.i64 (0 : Int))]), some (Blk.row [AV.v (Value.int IntKind.i64 f), AV.hs (4 : Nat) (0 : Nat) (0 : Nat), AV.hs (5 :
    Nat) (0 : Nat) (0 : Nat)]), some (Blk.arr (11 : Nat) (0 : Nat) fun x => [AV.v (Value.int IntKind.i64 (0 : Int)), AV.v (Value.int IntKind.i64 (0 : Int)), AV.v (Value.int IntKind.i64 (0 :
    Int)), AV.v (Value.int IntKind.i64 (0 : Int)), AV.v (Value.int IntKind.i64 (0 : Int)), AV.v (Value.int IntKind.i64 (0 : Int)), AV.v (Value.int IntKind.i64 (0 : Int)), AV.v (Value.int
    IntKind.i64 (0 : Int)), AV.v (Value.int IntKind.i64 (0 : Int)), AV.v (Value.int IntKind.i64 (0 : Int)), AV.v (Value.int IntKind.i64 (0 : Int))]), some (Blk.arr (1 : Nat) (0 : Nat) fun x
    => [AV.v (Value.int IntKind.i64 (0 : Int))])] [some (Blk.row [AV.v (Value.int IntKind.i64 o), AV.v (Value.int IntKind.u32 bad), AV.map (1 : Nat), AV.hs (2 : Nat) (0 : Nat) (0 : Nat)]),
    some (Blk.mp [Cel.int IntKind.i64, Cel.int IntKind.i64, Cel.int IntKind.i64, Cel.int IntKind.i64, Cel.int IntKind.i64, Cel.int IntKind.i64, Cel.int IntKind.i64, Cel.int IntKind.i64,
    Cel.int IntKind.i64, Cel.int IntKind.i64, Cel.int IntKind.i64] true false (0 : Nat) (hasS (X3.mk f o bad acts [] [] [] [] [] [] [] (0 : Nat) (0 : Nat)).l) anyV), some (Blk.arr (11 : Nat)
    (0 : Nat) (lsF Sh.c ((X3.mk f o bad acts [] [] [] [] [] [] [] (0 : Nat) (0 : Nat)).l ++ (X3.mk f o bad acts [] [] [] [] [] [] [] (0 : Nat) (0 : Nat)).j))), some (Blk.row [AV.v (Value.int
    IntKind.i64 o), AV.v (Value.int IntKind.u32 bad), AV.hs (4 : Nat) (0 : Nat) (0 : Nat)]), some (Blk.arr (11 : Nat) (0 : Nat) (lsF Sh.c ((X3.mk f o bad acts [] [] [] [] [] [] [] (0 : Nat)
    (0 : Nat)).l ++ (X3.mk f o bad acts [] [] [] [] [] [] [] (0 : Nat) (0 : Nat)).j'))), some (Blk.row [AV.v (Value.int IntKind.i64 f), AV.map (6 : Nat)]), some (Blk.mp [Cel.int IntKind.i64]
    false true (0 : Nat) (hasC (X3.mk f o bad acts [] [] [] [] [] [] [] (0 : Nat) (0 : Nat)).gv (X3.mk f o bad acts [] [] [] [] [] [] [] (0 : Nat) (0 : Nat)).sn) (valC (X3.mk f o bad acts []
    [] [] [] [] [] [] (0 : Nat) (0 : Nat)).f (X3.mk f o bad acts [] [] [] [] [] [] [] (0 : Nat) (0 : Nat)).gv (X3.mk f o bad acts [] [] [] [] [] [] [] (0 : Nat) (0 : Nat)).sn)), some
    (Blk.row [AV.v (Value.int IntKind.i64 f), AV.hs (8 : Nat) (0 : Nat) (0 : Nat), AV.hs (9 : Nat) (0 : Nat) (0 : Nat)]), some (Blk.arr (11 : Nat) (0 : Nat) (lsF Sh.c ((X3.mk f o bad acts []
    [] [] [] [] [] [] (0 : Nat) (0 : Nat)).gv ++ (X3.mk f o bad acts [] [] [] [] [] [] [] (0 : Nat) (0 : Nat)).jg))), some (Blk.arr (1 : Nat) (0 : Nat) (lsF I64.c ((X3.mk f o bad acts [] []
    [] [] [] [] [] (0 : Nat) (0 : Nat)).sn ++ (X3.mk f o bad acts [] [] [] [] [] [] [] (0 : Nat) (0 : Nat)).js)))])) (Tree.leaf (Ans.mk (AV.v (Value.bool true)) [])))))) (Tree.chk true
    (Tree.br (decide (timesF (3 : Int) f = (0 : Int))) (Tree.leaf (Ans.mk (AV.v (Value.bool false)) [])) (Tree.br true (Tree.leaf (Ans.mk (AV.v (Value.bool false)) [])) (Tree.chk (cl (LeL
    [AV.sl (4 : Nat) (List.length acts) (lsF Ac.c acts), AV.ptr (0 : Nat) (0 : Nat), AV.v (Value.pointer none), AV.ptr (3 : Nat) (0 : Nat), AV.ptr (5 : Nat) (0 : Nat), AV.v (Value.int
    IntKind.i64 (0 : Int)), AV.v (Value.bool false)] [AV.sl (4 : Nat) (List.length (X3.mk f o bad acts [] [] [] [] [] [] [] (0 : Nat) (0 : Nat)).acts) (lsF Ac.c (X3.mk f o bad acts [] [] []
    [] [] [] [] (0 : Nat) (0 : Nat)).acts), AV.ptr (0 : Nat) (0 : Nat), AV.ptr (3 : Nat) (0 : Nat), AV.ptr (5 : Nat) (0 : Nat), AV.ptr (7 : Nat) (0 : Nat), AV.v (Value.int IntKind.i64 (↑(0 :
    Nat) : Int)), AV.any] ∧ LeH [some (Blk.row [AV.v (Value.int IntKind.i64 o), AV.v (Value.int IntKind.u32 bad), AV.map (1 : Nat), AV.hs (2 : Nat) (0 : Nat) (0 : Nat)]), some (Blk.mp
    [Cel.int IntKind.i64, Cel.int IntKind.i64, Cel.int IntKind.i64, Cel.int IntKind.i64, Cel.int IntKind.i64, Cel.int IntKind.i64, Cel.int IntKind.i64, Cel.int IntKind.i64, Cel.int
    IntKind.i64, Cel.int IntKind.i64, Cel.int IntKind.i64] true false (0 : Nat) (fun x => false) fun x => [AV.v (Value.int IntKind.i64 (0 : Int))]), some (Blk.arr (11 : Nat) (0 : Nat) fun x
    => [AV.v (Value.int IntKind.i64 (0 : Int)), AV.v (Value.int IntKind.i64 (0 : Int)), AV.v (Value.int IntKind.i64 (0 : Int)), AV.v (Value.int IntKind.i64 (0 : Int)), AV.v (Value.int
    IntKind.i64 (0 : Int)), AV.v (Value.int IntKind.i64 (0 : Int)), AV.v (Value.int IntKind.i64 (0 : Int)), AV.v (Value.int IntKind.i64 (0 : Int)), AV.v (Value.int IntKind.i64 (0 : Int)),
    AV.v (Value.int IntKind.i64 (0 : Int)), AV.v (Value.int IntKind.i64 (0 : Int))]), some (Blk.row [AV.v (Value.int IntKind.i64 f), AV.map (4 : Nat)]), some (Blk.mp [Cel.int IntKind.i64]
    false true (0 : Nat) (fun x => false) fun x => [AV.v (Value.int IntKind.i64 (0 : Int)), AV.v (Value.bool false), AV.v (Value.bool false)]), some (Blk.row [AV.v (Value.int IntKind.i64 f),
    AV.hs (6 : Nat) (0 : Nat) (0 : Nat), AV.hs (7 : Nat) (0 : Nat) (0 : Nat)]), some (Blk.arr (11 : Nat) (0 : Nat) fun x => [AV.v (Value.int IntKind.i64 (0 : Int)), AV.v (Value.int
    IntKind.i64 (0 : Int)), AV.v (Value.int IntKind.i64 (0 : Int)), AV.v (Value.int IntKind.i64 (0 : Int)), AV.v (Value.int IntKind.i64 (0 : Int)), AV.v (Value.int IntKind.i64 (0 : Int)),
    AV.v (Value.int IntKind.i64 (0 : Int)), AV.v (Value.int IntKind.i64 (0 : Int)), AV.v (Value.int IntKind.i64 (0 : Int)), AV.v (Value.int IntKind.i64 (0 : Int)), AV.v (Value.int
    IntKind.i64 (0 : Int))]), some (Blk.arr (1 : Nat) (0 : Nat) fun x => [AV.v (Value.int IntKind.i64 (0 : Int))])] [some (Blk.row [AV.v (Value.int IntKind.i64 o), AV.v (Value.int
    IntKind.u32 bad), AV.map (1 : Nat), AV.hs (2 : Nat) (0 : Nat) (0 : Nat)]), some (Blk.mp [Cel.int IntKind.i64, Cel.int IntKind.i64, Cel.int IntKind.i64, Cel.int IntKind.i64, Cel.int
    IntKind.i64, Cel.int IntKind.i64, Cel.int IntKind.i64, Cel.int IntKind.i64, Cel.int IntKind.i64, Cel.int IntKind.i64, Cel.int IntKind.i64] true false (0 : Nat) (hasS (X3.mk f o bad acts
    [] [] [] [] [] [] [] (0 : Nat) (0 : Nat)).l) anyV), some (Blk.arr (11 : Nat) (0 : Nat) (lsF Sh.c ((X3.mk f o bad acts [] [] [] [] [] [] [] (0 : Nat) (0 : Nat)).l ++ (X3.mk f o bad acts
    [] [] [] [] [] [] [] (0 : Nat) (0 : Nat)).j))), some (Blk.row [AV.v (Value.int IntKind.i64 o), AV.v (Value.int IntKind.u32 bad), AV.hs (4 : Nat) (0 : Nat) (0 : Nat)]), some (Blk.arr (11
    : Nat) (0 : Nat) (lsF Sh.c ((X3.mk f o bad acts [] [] [] [] [] [] [] (0 : Nat) (0 : Nat)).l ++ (X3.mk f o bad acts [] [] [] [] [] [] [] (0 : Nat) (0 : Nat)).j'))), some (Blk.row [AV.v
    (Value.int IntKind.i64 f), AV.map (6 : Nat)]), some (Blk.mp [Cel.int IntKind.i64] false true (0 : Nat) (hasC (X3.mk f o bad acts [] [] [] [] [] [] [] (0 : Nat) (0 : Nat)).gv (X3.mk f o
    bad acts [] [] [] [] [] [] [] (0 : Nat) (0 : Nat)).sn) (valC (X3.mk f o bad acts [] [] [] [] [] [] [] (0 : Nat) (0 : Nat)).f (X3.mk f o bad acts [] [] [] [] [] [] [] (0 : Nat) (0 :
    Nat)).gv (X3.mk f o bad acts [] [] [] [] [] [] [] (0 : Nat) (0 : Nat)).sn)), some (Blk.row [AV.v (Value.int IntKind.i64 f), AV.hs (8 : Nat) (0 : Nat) (0 : Nat), AV.hs (9 : Nat) (0 : Nat)
    (0 : Nat)]), some (Blk.arr (11 : Nat) (0 : Nat) (lsF Sh.c ((X3.mk f o bad acts [] [] [] [] [] [] [] (0 : Nat) (0 : Nat)).gv ++ (X3.mk f o bad acts [] [] [] [] [] [] [] (0 : Nat) (0 :
    Nat)).jg))), some (Blk.arr (1 : Nat) (0 : Nat) (lsF I64.c ((X3.mk f o bad acts [] [] [] [] [] [] [] (0 : Nat) (0 : Nat)).sn ++ (X3.mk f o bad acts [] [] [] [] [] [] [] (0 : Nat) (0 :
    Nat)).js)))])) (Tree.leaf (Ans.mk (AV.v (Value.bool true)) [])))))))) (Tree.chk true (Tree.br (decide (timesF (3 : Int) f = (0 : Int))) (Tree.chk true (Tree.br (decide (timesF (3 : Int)
    f = (0 : Int))) (Tree.leaf (Ans.mk (AV.sb true) [])) (Tree.br true (Tree.leaf (Ans.mk (AV.v (Value.bool false)) [])) (Tree.chk (cl (LeL [AV.sl (4 : Nat) (List.length acts) (lsF Ac.c
    acts), AV.ptr (0 : Nat) (0 : Nat), AV.ptr (3 : Nat) (0 : Nat), AV.v (Value.pointer none), AV.ptr (5 : Nat) (0 : Nat), AV.v (Value.int IntKind.i64 (0 : Int)), AV.v (Value.bool false)]
    [AV.sl (4 : Nat) (List.length (X3.mk f o bad acts [] [] [] [] [] [] [] (0 : Nat) (0 : Nat)).acts) (lsF Ac.c (X3.mk f o bad acts [] [] [] [] [] [] [] (0 : Nat) (0 : Nat)).acts), AV.ptr (0
    : Nat) (0 : Nat), AV.ptr (3 : Nat) (0 : Nat), AV.ptr (5 : Nat) (0 : Nat), AV.ptr (7 : Nat) (0 : Nat), AV.v (Value.int IntKind.i64 (↑(0 : Nat) : Int)), AV.any] ∧ LeH [some (Blk.row [AV.v
    (Value.int IntKind.i64 o), AV.v (Value.int IntKind.u32 bad), AV.map (1 : Nat), AV.hs (2 : Nat) (0 : Nat) (0 : Nat)]), some (Blk.mp [Cel.int IntKind.i64, Cel.int IntKind.i64, Cel.int
    IntKind.i64, Cel.int IntKind.i64, Cel.int IntKind.i64, Cel.int IntKind.i64, Cel.int IntKind.i64, Cel.int IntKind.i64, Cel.int IntKind.i64, Cel.int IntKind.i64, Cel.int IntKind.i64] true
    false (0 : Nat) (fun x => false) fun x => [AV.v (Value.int IntKind.i64 (0 : Int))]), some (Blk.arr (11 : Nat) (0 : Nat) fun x => [AV.v (Value.int IntKind.i64 (0 : Int)), AV.v (Value.int
    IntKind.i64 (0 : Int)), AV.v (Value.int IntKind.i64 (0 : Int)), AV.v (Value.int IntKind.i64 (0 : Int)), AV.v (Value.int IntKind.i64 (0 : Int)), AV.v (Value.int IntKind.i64 (0 : Int)),
    AV.v (Value.int IntKind.i64 (0 : Int)), AV.v (Value.int IntKind.i64 (0 : Int)), AV.v (Value.int IntKind.i64 (0 : Int)), AV.v (Value.int IntKind.i64 (0 : Int)), AV.v (Value.int
    IntKind.i64 (0 : Int))]), some (Blk.row [AV.v (Value.int IntKind.i64 o), AV.v (Value.int IntKind.u32 bad), AV.hs (4 : Nat) (0 : Nat) (0 : Nat)]), some (Blk.arr (11 : Nat) (0 : Nat) fun x
    => [AV.v (Value.int IntKind.i64 (0 : Int)), AV.v (Value.int IntKind.i64 (0 : Int)), AV.v (Value.int IntKind.i64 (0 : Int)), AV.v (Value.int IntKind.i64 (0 : Int)), AV.v (Value.int
    IntKind.i64 (0 : Int)), AV.v (Value.int IntKind.i64 (0 : Int)), AV.v (Value.int IntKind.i64 (0 : Int)), AV.v (Value.int IntKind.i64 (0 : Int)), AV.v (Value.int IntKind.i64 (0 : Int)),
    AV.v (Value.int IntKind.i64 (0 : Int)), AV.v (Value.int IntKind.i64 (0 : Int))]), some (Blk.row [AV.v (Value.int IntKind.i64 f), AV.hs (6 : Nat) (0 : Nat) (0 : Nat), AV.hs (7 : Nat) (0 :
    Nat) (0 : Nat)]), some (Blk.arr (11 : Nat) (0 : Nat) fun x => [AV.v (Value.int IntKind.i64 (0 : Int)), AV.v (Value.int IntKind.i64 (0 : Int)), AV.v (Value.int IntKind.i64 (0 : Int)),
    AV.v (Value.int IntKind.i64 (0 : Int)), AV.v (Value.int IntKind.i64 (0 : Int)), AV.v (Value.int IntKind.i64 (0 : Int)), AV.v (Value.int IntKind.i64 (0 : Int)), AV.v (Value.int
    IntKind.i64 (0 : Int)), AV.v (Value.int IntKind.i64 (0 : Int)), AV.v (Value.int IntKind.i64 (0 : Int)), AV.v (Value.int IntKind.i64 (0 : Int))]), some (Blk.arr (1 : Nat) (0 : Nat) fun x
    => [AV.v (Value.int IntKind.i64 (0 : Int))])] [some (Blk.row [AV.v (Value.int IntKind.i64 o), AV.v (Value.int IntKind.u32 bad), AV.map (1 : Nat), AV.hs (2 : Nat) (0 : Nat) (0 : Nat)]),
    some (Blk.mp [Cel.int IntKind.i64, Cel.int IntKind.i64, Cel.int IntKind.i64, Cel.int IntKind.i64, Cel.int IntKind.i64, Cel.int IntKind.i64, Cel.int IntKind.i64, Cel.int IntKind.i64,
    Cel.int IntKind.i64, Cel.int IntKind.i64, Cel.int IntKind.i64] true false (0 : Nat) (hasS (X3.mk f o bad acts [] [] [] [] [] [] [] (0 : Nat) (0 : Nat)).l) anyV), some (Blk.arr (11 : Nat)
    (0 : Nat) (lsF Sh.c ((X3.mk f o bad acts [] [] [] [] [] [] [] (0 : Nat) (0 : Nat)).l ++ (X3.mk f o bad acts [] [] [] [] [] [] [] (0 : Nat) (0 : Nat)).j))), some (Blk.row [AV.v (Value.int
    IntKind.i64 o), AV.v (Value.int IntKind.u32 bad), AV.hs (4 : Nat) (0 : Nat) (0 : Nat)]), some (Blk.arr (11 : Nat) (0 : Nat) (lsF Sh.c ((X3.mk f o bad acts [] [] [] [] [] [] [] (0 : Nat)
    (0 : Nat)).l ++ (X3.mk f o bad acts [] [] [] [] [] [] [] (0 : Nat) (0 : Nat)).j'))), some (Blk.row [AV.v (Value.int IntKind.i64 f), AV.map (6 : Nat)]), some (Blk.mp [Cel.int IntKind.i64]
    false true (0 : Nat) (hasC (X3.mk f o bad acts [] [] [] [] [] [] [] (0 : Nat) (0 : Nat)).gv (X3.mk f o bad acts [] [] [] [] [] [] [] (0 : Nat) (0 : Nat)).sn) (valC (X3.mk f o bad acts []
    [] [] [] [] [] [] (0 : Nat) (0 : Nat)).f (X3.mk f o bad acts [] [] [] [] [] [] [] (0 : Nat) (0 : Nat)).gv (X3.mk f o bad acts [] [] [] [] [] [] [] (0 : Nat) (0 : Nat)).sn)), some
    (Blk.row [AV.v (Value.int IntKind.i64 f), AV.hs (8 : Nat) (0 : Nat) (0 : Nat), AV.hs (9 : Nat) (0 : Nat) (0 : Nat)]), some (Blk.arr (11 : Nat) (0 : Nat) (lsF Sh.c ((X3.mk f o bad acts []
    [] [] [] [] [] [] (0 : Nat) (0 : Nat)).gv ++ (X3.mk f o bad acts [] [] [] [] [] [] [] (0 : Nat) (0 : Nat)).jg))), some (Blk.arr (1 : Nat) (0 : Nat) (lsF I64.c ((X3.mk f o bad acts [] []
    [] [] [] [] [] (0 : Nat) (0 : Nat)).sn ++ (X3.mk f o bad acts [] [] [] [] [] [] [] (0 : Nat) (0 : Nat)).js)))])) (Tree.leaf (Ans.mk (AV.v (Value.bool true)) [])))))) (Tree.chk true
    (Tree.br (decide (timesF (3 : Int) f = (0 : Int))) (Tree.leaf (Ans.mk (AV.v (Value.bool false)) [])) (Tree.br false (Tree.leaf (Ans.mk (AV.v (Value.bool false)) [])) (Tree.chk (cl (LeL
    [AV.sl (4 : Nat) (List.length acts) (lsF Ac.c acts), AV.ptr (0 : Nat) (0 : Nat), AV.ptr (3 : Nat) (0 : Nat), AV.ptr (5 : Nat) (0 : Nat), AV.ptr (7 : Nat) (0 : Nat), AV.v (Value.int
    IntKind.i64 (0 : Int)), AV.v (Value.bool false)] [AV.sl (4 : Nat) (List.length (X3.mk f o bad acts [] [] [] [] [] [] [] (0 : Nat) (0 : Nat)).acts) (lsF Ac.c (X3.mk f o bad acts [] [] []
    [] [] [] [] (0 : Nat) (0 : Nat)).acts), AV.ptr (0 : Nat) (0 : Nat), AV.ptr (3 : Nat) (0 : Nat), AV.ptr (5 : Nat) (0 : Nat), AV.ptr (7 : Nat) (0 : Nat), AV.v (Value.int IntKind.i64 (↑(0 :
    Nat) : Int)), AV.any] ∧ LeH [some (Blk.row [AV.v (Value.int IntKind.i64 o), AV.v (Value.int IntKind.u32 bad), AV.map (1 : Nat), AV.hs (2 : Nat) (0 : Nat) (0 : Nat)]), some (Blk.mp
    [Cel.int IntKind.i64, Cel.int IntKind.i64, Cel.int IntKind.i64, Cel.int IntKind.i64, Cel.int IntKind.i64, Cel.int IntKind.i64, Cel.int IntKind.i64, Cel.int IntKind.i64, Cel.int
    IntKind.i64, Cel.int IntKind.i64, Cel.int IntKind.i64] true false (0 : Nat) (fun x => false) fun x => [AV.v (Value.int IntKind.i64 (0 : Int))]), some (Blk.arr (11 : Nat) (0 : Nat) fun x
    => [AV.v (Value.int IntKind.i64 (0 : Int)), AV.v (Value.int IntKind.i64 (0 : Int)), AV.v (Value.int IntKind.i64 (0 : Int)), AV.v (Value.int IntKind.i64 (0 : Int)), AV.v (Value.int
    IntKind.i64 (0 : Int)), AV.v (Value.int IntKind.i64 (0 : Int)), AV.v (Value.int IntKind.i64 (0 : Int)), AV.v (Value.int IntKind.i64 (0 : Int)), AV.v (Value.int IntKind.i64 (0 : Int)),
    AV.v (Value.int IntKind.i64 (0 : Int)), AV.v (Value.int IntKind.i64 (0 : Int))]), some (Blk.row [AV.v (Value.int IntKind.i64 o), AV.v (Value.int IntKind.u32 bad), AV.hs (4 : Nat) (0 :
    Nat) (0 : Nat)]), some (Blk.arr (11 : Nat) (0 : Nat) fun x => [AV.v (Value.int IntKind.i64 (0 : Int)), AV.v (Value.int IntKind.i64 (0 : Int)), AV.v (Value.int IntKind.i64 (0 : Int)),
    AV.v (Value.int IntKind.i64 (0 : Int)), AV.v (Value.int IntKind.i64 (0 : Int)), AV.v (Value.int IntKind.i64 (0 : Int)), AV.v (Value.int IntKind.i64 (0 : Int)), AV.v (Value.int
    IntKind.i64 (0 : Int)), AV.v (Value.int IntKind.i64 (0 : Int)), AV.v (Value.int IntKind.i64 (0 : Int)), AV.v (Value.int IntKind.i64 (0 : Int))]), some (Blk.row [AV.v (Value.int
    IntKind.i64 f), AV.map (6 : Nat)]), some (Blk.mp [Cel.int IntKind.i64] false true (0 : Nat) (fun x => false) fun x => [AV.v (Value.int IntKind.i64 (0 : Int)), AV.v (Value.bool false),
    AV.v (Value.bool false)]), some (Blk.row [AV.v (Value.int IntKind.i64 f), AV.hs (8 : Nat) (0 : Nat) (0 : Nat), AV.hs (9 : Nat) (0 : Nat) (0 : Nat)]), some (Blk.arr (11 : Nat) (0 : Nat)
    fun x => [AV.v (Value.int IntKind.i64 (0 : Int)), AV.v (Value.int IntKind.i64 (0 : Int)), AV.v (Value.int IntKind.i64 (0 : Int)), AV.v (Value.int IntKind.i64 (0 : Int)), AV.v (Value.int
    IntKind.i64 (0 : Int)), AV.v (Value.int IntKind.i64 (0 : Int)), AV.v (Value.int IntKind.i64 (0 : Int)), AV.v (Value.int IntKind.i64 (0 : Int)), AV.v (Value.int IntKind.i64 (0 : Int)),
    AV.v (Value.int IntKind.i64 (0 : Int)), AV.v (Value.int IntKind.i64 (0 : Int))]), some (Blk.arr (1 : Nat) (0 : Nat) fun x => [AV.v (Value.int IntKind.i64 (0 : Int))])] [some (Blk.row
    [AV.v (Value.int IntKind.i64 o), AV.v (Value.int IntKind.u32 bad), AV.map (1 : Nat), AV.hs (2 : Nat) (0 : Nat) (0 : Nat)]), some (Blk.mp [Cel.int IntKind.i64, Cel.int IntKind.i64,
    Cel.int IntKind.i64, Cel.int IntKind.i64, Cel.int IntKind.i64, Cel.int IntKind.i64, Cel.int IntKind.i64, Cel.int IntKind.i64, Cel.int IntKind.i64, Cel.int IntKind.i64, Cel.int
    IntKind.i64] true false (0 : Nat) (hasS (X3.mk f o bad acts [] [] [] [] [] [] [] (0 : Nat) (0 : Nat)).l) anyV), some (Blk.arr (11 : Nat) (0 : Nat) (lsF Sh.c ((X3.mk f o bad acts [] [] []
    [] [] [] [] (0 : Nat) (0 : Nat)).l ++ (X3.mk f o bad acts [] [] [] [] [] [] [] (0 : Nat) (0 : Nat)).j))), some (Blk.row [AV.v (Value.int IntKind.i64 o), AV.v (Value.int IntKind.u32 bad),
    AV.hs (4 : Nat) (0 : Nat) (0 : Nat)]), some (Blk.arr (11 : Nat) (0 : Nat) (lsF Sh.c ((X3.mk f o bad acts [] [] [] [] [] [] [] (0 : Nat) (0 : Nat)).l ++ (X3.mk f o bad acts [] [] [] [] []
    [] [] (0 : Nat) (0 : Nat)).j'))), some (Blk.row [AV.v (Value.int IntKind.i64 f), AV.map (6 : Nat)]), some (Blk.mp [Cel.int IntKind.i64] false true (0 : Nat) (hasC (X3.mk f o bad acts []
    [] [] [] [] [] [] (0 : Nat) (0 : Nat)).gv (X3.mk f o bad acts [] [] [] [] [] [] [] (0 : Nat) (0 : Nat)).sn) (valC (X3.mk f o bad acts [] [] [] [] [] [] [] (0 : Nat) (0 : Nat)).f (X3.mk f
    o bad acts [] [] [] [] [] [] [] (0 : Nat) (0 : Nat)).gv (X3.mk f o bad acts [] [] [] [] [] [] [] (0 : Nat) (0 : Nat)).sn)), some (Blk.row [AV.v (Value.int IntKind.i64 f), AV.hs (8 : Nat)
    (0 : Nat) (0 : Nat), AV.hs (9 : Nat) (0 : Nat) (0 : Nat)]), some (Blk.arr (11 : Nat) (0 : Nat) (lsF Sh.c ((X3.mk f o bad acts [] [] [] [] [] [] [] (0 : Nat) (0 : Nat)).gv ++ (X3.mk f o
    bad acts [] [] [] [] [] [] [] (0 : Nat) (0 : Nat)).jg))), some (Blk.arr (1 : Nat) (0 : Nat) (lsF I64.c ((X3.mk f o bad acts [] [] [] [] [] [] [] (0 : Nat) (0 : Nat)).sn ++ (X3.mk f o bad
    acts [] [] [] [] [] [] [] (0 : Nat) (0 : Nat)).js)))])) (Tree.leaf (Ans.mk (AV.v (Value.bool true)) [])))))))))))))))) := by kernel_rfl
theorem loop33 (f : Int) (acts : List Ac) : LoopOK Tryd.prog Γc 0 161 lp3 (LSpec.at lv3 nl3 (S33 f acts) O33) := by
  have hc : ∀ b : Bool, (bif b then false else false) = false := fun b => by cases b <;> rfl
  refine loop_at (S := fun _ : Unit => S33 f acts) (O := fun _ => O33) (pre := fun _ => True) (k := 0) (fun _ => 0) (fun x _ => .of (L := Lno) (failOK fun _ _ _ => rfl) (r33 f acts) ?_) () trivial
  simp only [or_true, true_or, false_or, or_false, and_false, false_and, cond_true, cond_false, Bool.not_true, Bool.not_false, Bool.false_eq_true, Bool.true_eq_false, not_true_eq_false, not_false_eq_true, false_implies, true_implies, implies_true, Nat.blt_eq, owesN, owesX, owesR, notT, sat_brT, sat_brF, sat_chkT, cl_iff, cl_false, AV.le_refl, AV.le_any, OLe_refl, OLe_none, sat_brN, Tree.sat_chk, Tree.sat_leaf, Tree.sat_fail, Nat.zero_add, Nat.sub_zero, Int.toNat_natCast, LeH_cons, LeH_nil, LeL_cons, LeL_nil, and_true, true_and, Bool.and_eq_true, Bool.or_eq_true, decide_eq_true_eq, decide_eq_false_iff_not, Bool.cond_true_left, Bool.cond_false_right, List.cons_append, List.nil_append, List.map_cons, List.map_nil, hc]
  repeat' (first | apply And.intro | intro _hc)
  all_goals first | omega | contradiction | exact AV.le_refl _ | exact AV.le_any _ | exact OLe.refl _ | exact OLe.none _ | exact LeH.refl _ | exact LeL.refl _ | exact AV.le.bs _ | exact AV.le.sb _ | exact rfl | (exfalso; omega) | contradiction
end Go.Eng.Co

/- coin: any calls: the law, joined. -/
namespace Go.Eng.Co
open Go Go.Eng Go.Eng.M Go.Proofs
set_option linter.unusedSimpArgs false
set_option linter.unusedVariables false
theorem hN0 (g : Nat → List AV) : OLe (some (.arr 11 0 g)) (some (.arr 11 0 (lsF Sh.c ([] ++ [])))) := OLe.arr rfl (fun e he => absurd he (Nat.not_lt_zero e)) (fun _ => rfl)
theorem hN1 (g : Nat → List AV) : OLe (some (.arr 11 0 g)) (some (.arr 11 0 (lsF Sh.c []))) := OLe.arr rfl (fun e he => absurd he (Nat.not_lt_zero e)) (fun _ => rfl)
theorem hI0 (g : Nat → List AV) : OLe (some (.arr 1 0 g)) (some (.arr 1 0 (lsF I64.c ([] ++ [])))) := OLe.arr rfl (fun e he => absurd he (Nat.not_lt_zero e)) (fun _ => rfl)
theorem hI1 (g : Nat → List AV) : OLe (some (.arr 1 0 g)) (some (.arr 1 0 (lsF I64.c []))) := OLe.arr rfl (fun e he => absurd he (Nat.not_lt_zero e)) (fun _ => rfl)
theorem hM0 : OLe (some (.mp Sh.ks true false 0 (fun _ => false) fun _ => [AV.v (Value.int IntKind.i64 0)])) (some (.mp Sh.ks true false 0 (hasS []) anyV)) := OLe.mp rfl (fun _ => rfl) (fun _ _ => ⟨.any _, trivial⟩)
theorem hC0 {f : Int} {v : List KC → List AV} : OLe (some (.mp [.int .i64] false true 0 (fun _ => false) v)) (some (.mp [.int .i64] false true 0 (hasC [] []) (valC f [] []))) :=
  OLe.mp rfl (fun k => by rcases keyOr k with ⟨p, rfl⟩ | ⟨h, _⟩; · rfl
                          · exact (h [] []).symm) (fun _ h => by cases h)
theorem law3 (f o bad : Int) (acts : List Ac) (hb : inU32 bad = true) (hset : ∀ i, i < acts.length → inU32 (acts.getD i default).set = true) : LawOK Tryd.prog Γc 161 [.tmp 8] (bodyOf Tryd.f3) (A3 f o bad acts) := by
  have h3 : ∀ b : Bool, (bif b then true else true) = true := fun b => by cases b <;> rfl
  by_cases h1 : 100 < acts.length
  · refine .mk' (T := T3) (ip := false) (L := Lno) (failOK fun _ _ _ => rfl) (Right.of (law3a f o bad acts) ?_)
    simp only [or_true, true_or, false_or, or_false, and_false, false_and, cond_true, cond_false, Bool.not_true, Bool.not_false, Bool.false_eq_true, Bool.true_eq_false, not_true_eq_false, not_false_eq_true, false_implies, true_implies, implies_true, Nat.blt_eq, owesN, owesX, owesR, notT, sat_brT, sat_brF, sat_chkT, cl_iff, cl_false, AV.le_refl, AV.le_any, OLe_refl, OLe_none, sat_brN, Tree.sat_chk, Tree.sat_leaf, Tree.sat_fail, Nat.zero_add, Nat.sub_zero, Int.toNat_natCast, LeH_cons, LeH_nil, LeL_cons, LeL_nil, and_true, true_and, Bool.and_eq_true, Bool.or_eq_true, decide_eq_true_eq, decide_eq_false_iff_not, Bool.cond_true_left, Bool.cond_false_right, List.cons_append, List.nil_append, List.map_cons, List.map_nil]
    repeat' (first | apply And.intro | intro _hc)
    all_goals first | omega | contradiction | exact AV.le_refl _ | exact AV.le_any _ | exact OLe.refl _ | exact OLe.none _ | exact LeH.refl _ | exact LeL.refl _ | exact AV.le.bs _ | exact AV.le.sb _ | (exfalso; omega) | contradiction
  have one : ∀ (sx : List AV × Heap) (out : Out), LoopOK Tryd.prog Γc 0 161 lp3 (LSpec.at lv3 nl3 sx out) → ∀ (j : Nat) (b : Code), (loopBodies (bodyOf Tryd.f3))[j]? = some b → LoopOK Tryd.prog Γc 0 161 b (LA sx out j) :=
    fun sx out h => oneLoop (L := LA sx out) (b := lp3) (by kernel_rfl) h
  by_cases hf : timesF 3 f = 0
  · by_cases hc : checkF o bad = 0
    · by_cases hp : o < (pc bad : Int)
      · refine .mk' (T := T3) (ip := false) (L := Lno) (failOK fun _ _ _ => rfl) (Right.of (law3a f o bad acts) ?_)
        simp only [or_true, true_or, false_or, or_false, and_false, false_and, cond_true, cond_false, Bool.not_true, Bool.not_false, Bool.false_eq_true, Bool.true_eq_false, not_true_eq_false, not_false_eq_true, false_implies, true_implies, implies_true, Nat.blt_eq, owesN, owesX, owesR, notT, sat_brT, sat_brF, sat_chkT, cl_iff, cl_false, AV.le_refl, AV.le_any, OLe_refl, OLe_none, sat_brN, Tree.sat_chk, Tree.sat_leaf, Tree.sat_fail, Nat.zero_add, Nat.sub_zero, Int.toNat_natCast, LeH_cons, LeH_nil, LeL_cons, LeL_nil, and_true, true_and, Bool.and_eq_true, Bool.or_eq_true, decide_eq_true_eq, decide_eq_false_iff_not, Bool.cond_true_left, Bool.cond_false_right, List.cons_append, List.nil_append, List.map_cons, List.map_nil, hb, hc, hp, hf]
        repeat' (first | apply And.intro | intro _hc)
        all_goals first | omega | contradiction | exact AV.le_refl _ | exact AV.le_any _ | exact OLe.refl _ | exact OLe.none _ | exact LeH.refl _ | exact LeL.refl _ | exact AV.le.bs _ | exact AV.le.sb _ | (exfalso; omega) | contradiction
      · refine .mk' (T := T3) (ip := false) (L := Lno) (failOK fun _ _ _ => rfl) (Right.of (law3a f o bad acts) ?_)
        simp only [or_true, true_or, false_or, or_false, and_false, false_and, cond_true, cond_false, Bool.not_true, Bool.not_false, Bool.false_eq_true, Bool.true_eq_false, not_true_eq_false, not_false_eq_true, false_implies, true_implies, implies_true, Nat.blt_eq, owesN, owesX, owesR, notT, sat_brT, sat_brF, sat_chkT, cl_iff, cl_false, AV.le_refl, AV.le_any, OLe_refl, OLe_none, sat_brN, Tree.sat_chk, Tree.sat_leaf, Tree.sat_fail, Nat.zero_add, Nat.sub_zero, Int.toNat_natCast, LeH_cons, LeH_nil, LeL_cons, LeL_nil, and_true, true_and, Bool.and_eq_true, Bool.or_eq_true, decide_eq_true_eq, decide_eq_false_iff_not, Bool.cond_true_left, Bool.cond_false_right, List.cons_append, List.nil_append, List.map_cons, List.map_nil, hb, hc, hp, hf]
        repeat' (first | apply And.intro | intro _hc)
        all_goals first | omega | contradiction | exact AV.le_refl _ | exact AV.le_any _ | exact OLe.refl _ | exact OLe.none _ | exact LeH.refl _ | exact LeL.refl _ | exact AV.le.bs _ | exact AV.le.sb _ | (exfalso; omega) | contradiction
    · refine .mk' (T := T3) (ip := false) (L := Lno) (failOK fun _ _ _ => rfl) (Right.of (law3a f o bad acts) ?_)
      simp only [or_true, true_or, false_or, or_false, and_false, false_and, cond_true, cond_false, Bool.not_true, Bool.not_false, Bool.false_eq_true, Bool.true_eq_false, not_true_eq_false, not_false_eq_true, false_implies, true_implies, implies_true, Nat.blt_eq, owesN, owesX, owesR, notT, sat_brT, sat_brF, sat_chkT, cl_iff, cl_false, AV.le_refl, AV.le_any, OLe_refl, OLe_none, sat_brN, Tree.sat_chk, Tree.sat_leaf, Tree.sat_fail, Nat.zero_add, Nat.sub_zero, Int.toNat_natCast, LeH_cons, LeH_nil, LeL_cons, LeL_nil, and_true, true_and, Bool.and_eq_true, Bool.or_eq_true, decide_eq_true_eq, decide_eq_false_iff_not, Bool.cond_true_left, Bool.cond_false_right, List.cons_append, List.nil_append, List.map_cons, List.map_nil, hb, hc, hf]
      repeat' (first | apply And.intro | intro _hc)
      all_goals first | omega | contradiction | exact AV.le_refl _ | exact AV.le_any _ | exact OLe.refl _ | exact OLe.none _ | exact LeH.refl _ | exact LeL.refl _ | exact AV.le.bs _ | exact AV.le.sb _ | (exfalso; omega) | contradiction
  by_cases hc : checkF o bad = 0
  · by_cases hp : o < (pc bad : Int)
    · refine .mk' (T := T3) (ip := false) (L := LA (S33 f acts) O33) (one _ _ (loop33 f acts)) (Right.of (law3n f o bad acts) ?_)
      simp only [or_true, true_or, false_or, or_false, and_false, false_and, cond_true, cond_false, Bool.not_true, Bool.not_false, Bool.false_eq_true, Bool.true_eq_false, not_true_eq_false, not_false_eq_true, false_implies, true_implies, implies_true, Nat.blt_eq, owesN, owesX, owesR, notT, sat_brT, sat_brF, sat_chkT, cl_iff, cl_false, AV.le_refl, AV.le_any, OLe_refl, OLe_none, sat_brN, Tree.sat_chk, Tree.sat_leaf, Tree.sat_fail, Nat.zero_add, Nat.sub_zero, Int.toNat_natCast, LeH_cons, LeH_nil, LeL_cons, LeL_nil, and_true, true_and, Bool.and_eq_true, Bool.or_eq_true, decide_eq_true_eq, decide_eq_false_iff_not, Bool.cond_true_left, Bool.cond_false_right, List.cons_append, List.nil_append, List.map_cons, List.map_nil, hb, hc, hp, hf]
      repeat' (first | apply And.intro | intro _hc)
      all_goals first | omega | contradiction | exact AV.le_refl _ | exact AV.le_any _ | exact OLe.refl _ | exact OLe.none _ | exact LeH.refl _ | exact LeL.refl _ | exact AV.le.bs _ | exact AV.le.sb _ | exact hN1 _ | exact hI1 _ | exact hC0 | (exfalso; omega) | contradiction
    · have hl := loop31 (f := f) (o := o) (bad := bad) (acts := acts) (by omega) hf hb hset ⟨f, o, bad, acts, [], [], [], [], [], [], [], 0, 0⟩ ⟨rfl, rfl, rfl, rfl, Nat.zero_le _, Nat.le_refl _, Nat.le_refl _, Nat.le_refl _, fun g hg => absurd hg (List.not_mem_nil)⟩
      refine .mk' (T := T3) (ip := false) (L := LA (S31 ⟨f, o, bad, acts, [], [], [], [], [], [], [], 0, 0⟩) O31) (one _ _ hl) (Right.of (law3k f o bad acts) ?_)
      simp only [or_true, true_or, false_or, or_false, and_false, false_and, cond_true, cond_false, Bool.not_true, Bool.not_false, Bool.false_eq_true, Bool.true_eq_false, not_true_eq_false, not_false_eq_true, false_implies, true_implies, implies_true, Nat.blt_eq, owesN, owesX, owesR, notT, sat_brT, sat_brF, sat_chkT, cl_iff, cl_false, AV.le_refl, AV.le_any, OLe_refl, OLe_none, sat_brN, Tree.sat_chk, Tree.sat_leaf, Tree.sat_fail, Nat.zero_add, Nat.sub_zero, Int.toNat_natCast, LeH_cons, LeH_nil, LeL_cons, LeL_nil, and_true, true_and, Bool.and_eq_true, Bool.or_eq_true, decide_eq_true_eq, decide_eq_false_iff_not, Bool.cond_true_left, Bool.cond_false_right, List.cons_append, List.nil_append, List.map_cons, List.map_nil, hb, hc, hp, hf]
      repeat' (first | apply And.intro | intro _hc)
      all_goals first | omega | contradiction | exact AV.le_refl _ | exact AV.le_any _ | exact OLe.refl _ | exact OLe.none _ | exact LeH.refl _ | exact LeL.refl _ | exact AV.le.bs _ | exact AV.le.sb _ | exact hN0 _ | exact hI0 _ | exact hN1 _ | exact hI1 _ | exact hM0 | exact hC0 | (exfalso; omega) | contradiction
  · refine .mk' (T := T3) (ip := false) (L := LA (S33 f acts) O33) (one _ _ (loop33 f acts)) (Right.of (law3n f o bad acts) ?_)
    simp only [or_true, true_or, false_or, or_false, and_false, false_and, cond_true, cond_false, Bool.not_true, Bool.not_false, Bool.false_eq_true, Bool.true_eq_false, not_true_eq_false, not_false_eq_true, false_implies, true_implies, implies_true, Nat.blt_eq, owesN, owesX, owesR, notT, sat_brT, sat_brF, sat_chkT, cl_iff, cl_false, AV.le_refl, AV.le_any, OLe_refl, OLe_none, sat_brN, Tree.sat_chk, Tree.sat_leaf, Tree.sat_fail, Nat.zero_add, Nat.sub_zero, Int.toNat_natCast, LeH_cons, LeH_nil, LeL_cons, LeL_nil, and_true, true_and, Bool.and_eq_true, Bool.or_eq_true, decide_eq_true_eq, decide_eq_false_iff_not, Bool.cond_true_left, Bool.cond_false_right, List.cons_append, List.nil_append, List.map_cons, List.map_nil, hb, hc, hf]
    repeat' (first | apply And.intro | intro _hc)
    all_goals first | omega | contradiction | exact AV.le_refl _ | exact AV.le_any _ | exact OLe.refl _ | exact OLe.none _ | exact LeH.refl _ | exact LeL.refl _ | exact AV.le.bs _ | exact AV.le.sb _ | exact hN1 _ | exact hI1 _ | exact hC0 | (exfalso; omega) | contradiction
noncomputable def c3 : CT Tryd.prog Γc := CT.lawE (fun x : Int × Int × Int × List Ac => A3 x.1 x.2.1 x.2.2.1 x.2.2.2) (fun x => inU32 x.2.2.1 = true ∧ ∀ i, i < x.2.2.2.length → inU32 (x.2.2.2.getD i default).set = true) 3 Tryd.f3 (bodyOf Tryd.f3) 161 [.tmp 8] Tryd.func3 (by kernel_rfl) (by kernel_rfl) (by kernel_rfl) (by kernel_rfl) (fun _ _ => by simp [A3]) (fun x h => law3 x.1 x.2.1 x.2.2.1 x.2.2.2 h.1 h.2)
theorem inU32_wf {n : Int} (h : (Lit.int .u32 n).wf = true) : inU32 n = true := by
  simp [Lit.wf, IntKind.min, IntKind.max, IntKind.signed, IntKind.bits] at h
  exact inU32_iff.2 ⟨by omega, by omega⟩
theorem acSet {a : Ac} (h : GoodVs Ac.ks a.cells) : inU32 a.set = true := by
  have h3 := h.2.2.2.1
  obtain ⟨n, e, hw⟩ := h3
  cases e
  exact inU32_wf hw
end Go.Eng.Co

/- The program's one table: what the rows' condition gives. -/
namespace Go.Proofs.YtcbgbdehahcbbaaDoor
open Go Go.ChangeShapes Go.WideShapes Go.ChangeAt Go.WideMaps Go.WideElems Go.RowKit Go.Eng Go.Eng.M Go.Eng.Co
set_option linter.unusedSimpArgs false
set_option linter.unusedVariables false

theorem own : ownKnob Tryd.prog.godebug = none := by kernel_rfl
theorem gTab : Tryd.prog.globalNamed "math/bits.deBruijn32tab" = some 0 := by kernel_rfl
theorem tTab : (Tryd.prog.globals[0]?).map (·.type) = some 85 := by kernel_rfl
abbrev laidL : List (String × DataW Unit) := [("math/bits.deBruijn32tab", Lib.tabData .u8 deb)]
theorem door_met (os : Os) (args : Array Value) : laidMetH Tryd.prog laidL ((World.doorLaid Tryd.prog 400 os).forCall (fun _ _ => 0) ⟨#[], args, []⟩).memory :=
  laidMetH_of_parts3 (fuel := 8) (laidMet_of_run' 8 (by kernel_rfl) (by kernel_rfl)) (by kernel_rfl) (by kernel_rfl)
theorem globals_ok {W : World} (h : laidMetH Tryd.prog laidL W) : Globals Γc (σof W) := by
  rw [MakeChecks.laidMetH_plain _ _ _ (by kernel_rfl)] at h
  have hT := Lib.tabIs_of_head gTab tTab Tryd.underlying85 Tryd.underlying5 (by kernel_rfl) (by kernel_rfl) h
  intro g
  unfold Γc
  split
  · rename_i hg
    obtain rfl := Nat.eq_of_beq_eq_true hg
    refine .pa 1 32 _ ⟨0, 0, none⟩ (fun e j => .int .u8 (deb.getD e 0)) rfl (fun _ => rfl) (fun e j c he hc => ?_) (fun e j c he hc => ?_)
    · cases j with
      | zero => simpa using σof_of (hT.cell gTab e (by simpa [deb] using he))
      | succ j => simp at hc
    · cases j with
      | zero => simp at hc; subst hc; exact .v _
      | succ j => simp at hc
  · exact .any _
end Go.Proofs.YtcbgbdehahcbbaaDoor

/- CoinPlays holds at every input: the table math/bits.deBruijn32tab as the program lays it (tied). -/
namespace Go.Proofs.YtcbgbdehahcbbaaDoor
open Go Go.ChangeShapes Go.WideShapes Go.ChangeAt Go.WideMaps Go.WideElems Go.RowKit Go.Eng Go.Eng.M Go.Eng.Co
set_option linter.unusedSimpArgs false
set_option linter.unusedVariables false

set_option maxRecDepth 100000 in
theorem coinPlays_lifted (os : Os) (started : os.Started) (H : Type) (enc : TypeId × Value → H) :
    ReturnsInHanded {} Tryd.checked os 3 .any (fun w args => (Rows.coinPlaysSpec.pre enc Tryd.prog Tryd.f3 [] false w args ∧ laidMetH Tryd.prog laidL w) ∧ sizedMet enc Tryd.prog Tryd.f3 (OpenSpec.ofChange Rows.coinPlaysSpec) false w args)
      (Rows.coinPlaysSpec.post enc Tryd.prog Tryd.f3 false true false false) := by
  refine returnsInHanded_of_change_and (C := Tryd.checked) (X := fun w _ => laidMetH Tryd.prog laidL w) (fun _ _ _ hh h => h.of_heap hh) own started (by kernel_rfl) Tryd.func3
    (ChangeSpec.witness_shaped (enc := enc) (C := Tryd.checked) (os := os) (X := fun w _ => laidMetH Tryd.prog laidL w) false (World.doorLaid Tryd.prog 400 os) #[.int .i64 1, .int .i64 1, .int .u32 1, .slice none 0 0] 8 rfl (World.shaped_of_RefB (by kernel_rfl) (by kernel_rfl)) (by kernel_rfl) (by kernel_rfl) (by kernel_rfl) (door_met os _)) ?_
  intro W base args ds gs before hval0 hW _ _ hL _
  have hval : ∀ (j : Nat) t v, Tryd.f3.params[j]? = some t → args[j]? = some v → Value.okWide Tryd.prog W .any base t v := hval0
  have hW' := hW
  obtain ⟨p, q, hA0, hV, rfl, hfz, hnd⟩ := hW
  have hA : DataW.TrodAll enc Tryd.prog W 0 (fun _ => true) true Tryd.f3.params.toList args.toList ds p := hA0
  rw [Tryd.params3] at hA hval
  obtain ⟨v0, v1, v2, v3, d0, d1, d2, d3, p0, p1, p2, p3, rfl, rfl, rfl, h0, h1, h2, h3⟩ := trodAll_four hA
  obtain ⟨rfl, rfl⟩ := trodVars_none hV
  obtain ⟨n0, rfl, rfl, rfl, w0⟩ := open_int Tryd.underlying3 (hval 0 3 v0 rfl rfl) h0
  obtain ⟨n1, rfl, rfl, rfl, w1⟩ := open_int Tryd.underlying3 (hval 1 3 v1 rfl rfl) h1
  obtain ⟨n2, rfl, rfl, rfl, w2⟩ := open_int Tryd.underlying22 (hval 2 22 v2 rfl rfl) h2
  obtain ⟨n3, s3, w3⟩ := open_slL 9 Ac.cells Ac.c (ks := [.int .i64, .int .i64, .int .i64, .int .u32]) (sz := 4) rfl (fun _ => rfl) (fun _ => rfl) Ac.dec rfl Tryd.underlying23 (by kernel_rfl) (by kernel_rfl) (hval 3 23 v3 rfl rfl) h3
  refine (calls_true c3 (xs := [.v (.int .i64 n0), .v (.int .i64 n1), .v (.int .u32 n2), .sl 4 n3.length (lsF Ac.c n3)]) (law_in (A := fun x : Int × Int × Int × List Ac => A3 x.1 x.2.1 x.2.2.1 x.2.2.2) (pre := fun x => inU32 x.2.2.1 = true ∧ ∀ i, i < x.2.2.2.length → inU32 (x.2.2.2.getD i default).set = true) (x := (n0, n1, n2, n3)) ⟨inU32_wf w2, fun i hi => acSet (w3 i hi)⟩ (.refl _)) (globals_ok hL) (.one (V_v _) (.one (V_v _) (.one (V_v _) (.one (.base s3) .none))))).mono fun e W' ⟨he, ho⟩ => ?_
  subst he
  exact ⟨_, rfl, post_true (tb := 4) (by kernel_rfl) (by kernel_rfl) (by kernel_rfl) (by kernel_rfl) (by kernel_rfl) Tryd.underlying4 hW' rfl rfl ho⟩

theorem coinPlays_holds : Rows.CoinPlaysSaid :=
  OpenClaim.holds_of_wide 3 Tryd.f3 rfl rfl rfl rfl rfl rfl rfl ⟨rfl, rfl, rfl, rfl, rfl⟩ rfl rfl rfl rfl rfl (by kernel_rfl) Tryd.func3 (by kernel_rfl)
    (of_decide_eq_true (by kernel_rfl)) (by unfold Func.isWrapper; first | (rw [if_pos (by decide +kernel)]; kernel_rfl) | (rw [if_neg (by decide +kernel)]; exact ⟨rfl, rfl⟩))
    (fun os started H enc _ => coinPlays_lifted os started H enc)
theorem coinPlays_card : Rows.CoinPlaysCardSaid :=
  Claim7.holds_tied_plain_at .later [] [.data] true (true, "d25845b269b8b9924cdc05e732f9aeeacf4aa5c84281840231bd528f9a838232") false
    coinPlays_holds (fun _ h => by cases h) (by kernel_rfl) (fun _ h => by cases h) coinPlays_row_tie rfl ⟨rfl, rfl⟩ (by kernel_rfl) rfl
    (fun f fn hf hfn => by
      obtain rfl : f = 3 := Option.some.inj ((show Tryd.prog.funcNamed "hallmoot/hallmootlaw07.CoinPlays" = some 3 by kernel_rfl).symm.trans hf) |>.symm
      obtain rfl : fn = Tryd.f3 := (Option.some.inj (Tryd.func3.symm.trans hfn)).symm
      exact ⟨by kernel_rfl, fun j t ht => by
        rw [Tryd.params3] at ht
        have hm : t ∈ [3, 3, 22, 23] := by simpa using Array.mem_of_getElem? ht
        have hall : ([3, 3, 22, 23].all fun u => !Tryd.prog.wantsStandIn u) = true := by kernel_rfl
        exact (show Tryd.prog.wantsStandIn t = false by simpa using List.all_eq_true.1 hall t hm)⟩)
    (by kernel_rfl)
#print axioms coinPlays_card
end Go.Proofs.YtcbgbdehahcbbaaDoor
