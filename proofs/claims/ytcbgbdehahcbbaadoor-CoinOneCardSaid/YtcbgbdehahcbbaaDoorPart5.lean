/- sign: what each call does, third part and what follows it. -/
import Derived.Test.YtcbgbdehahcbbaaDoorPart4
import Derived.RowKit
import Derived.Carry
/- sign: what each call does, third part. -/
namespace Go.Eng.Co
open Go Go.Eng Go.Eng.M Go.Proofs
set_option linter.unusedSimpArgs false
set_option linter.unusedVariables false
theorem ansIssueROut {x : Sh} {f bad : Int} {l j : List Sh} (h : outS f x) : Answers Tryd.prog Γc 17 [.ptr 0 0, shV x] (DH f bad l j) (.v (.int .i64 40)) ((DH f bad l j).map some) [] :=
  answers (fn := Tryd.f17) (c := bodyOf Tryd.f17) (ntmps := 34) (results := [.tmp 4]) [CoQ.c13] Lno false Tryd.func17 (by kernel_rfl) (by kernel_rfl) (by kernel_rfl) (by kernel_rfl) (by simp) rfl (noLoops (by kernel_rfl)) <| Meets.of (run14o x f bad l j) <| by
    have h1 : x.s < 0 ∨ timesF 3 f ≤ x.s := h
    simp only [or_true, true_or, false_or, or_false, and_false, false_and, cond_true, cond_false, Bool.not_true, Bool.not_false, Bool.false_eq_true, Bool.true_eq_false, not_true_eq_false, not_false_eq_true, false_implies, true_implies, implies_true, Nat.blt_eq, owesN, owesX, owesR, notT, sat_brT, sat_brF, sat_chkT, cl_iff, cl_false, AV.le_refl, AV.le_any, OLe_refl, OLe_none, sat_brN, Tree.sat_chk, Tree.sat_leaf, Tree.sat_fail, Nat.zero_add, Nat.sub_zero, Int.toNat_natCast, LeH_cons, LeH_nil, LeL_cons, LeL_nil, and_true, true_and, Bool.and_eq_true, Bool.or_eq_true, decide_eq_true_eq, decide_eq_false_iff_not, Bool.cond_true_left, Bool.cond_false_right, List.cons_append, List.nil_append, List.map_cons, List.map_nil, repT]
    repeat' (first | apply And.intro | intro _hc)
    all_goals first | omega | contradiction | exact AV.le_refl _ | exact AV.le_any _ | exact OLe.refl _ | exact OLe.none _ | exact LeH.refl _ | exact LeL.refl _ | exact AV.le.bs _ | exact AV.le.sb _ | (exfalso; omega) | contradiction
theorem ansIssueRThere {x : Sh} {f bad : Int} {l j : List Sh} (h : ¬ outS f x) (hs : l.length ≤ 100000) (hx : x ∈ l) : Answers Tryd.prog Γc 17 [.ptr 0 0, shV x] (DH f bad l j) (.v (.int .i64 0)) ((DH f bad l j).map some) [] :=
  answers (fn := Tryd.f17) (c := bodyOf Tryd.f17) (ntmps := 34) (results := [.tmp 4]) [CoQ.c13, CT.at 35 (ansHasY (f := f) (bad := bad) (j := j) hs hx)] Lno false Tryd.func17 (by kernel_rfl) (by kernel_rfl) (by kernel_rfl) (by kernel_rfl) (by simp) rfl (noLoops (by kernel_rfl)) <| Meets.of (run14y x f bad l j hs hx) <| by
    have h1 := outS_not h
    simp only [or_true, true_or, false_or, or_false, and_false, false_and, cond_true, cond_false, Bool.not_true, Bool.not_false, Bool.false_eq_true, Bool.true_eq_false, not_true_eq_false, not_false_eq_true, false_implies, true_implies, implies_true, Nat.blt_eq, owesN, owesX, owesR, notT, sat_brT, sat_brF, sat_chkT, cl_iff, cl_false, AV.le_refl, AV.le_any, OLe_refl, OLe_none, sat_brN, Tree.sat_chk, Tree.sat_leaf, Tree.sat_fail, Nat.zero_add, Nat.sub_zero, Int.toNat_natCast, LeH_cons, LeH_nil, LeL_cons, LeL_nil, and_true, true_and, Bool.and_eq_true, Bool.or_eq_true, decide_eq_true_eq, decide_eq_false_iff_not, Bool.cond_true_left, Bool.cond_false_right, List.cons_append, List.nil_append, List.map_cons, List.map_nil, repT]
    repeat' (first | apply And.intro | intro _hc)
    all_goals first | omega | contradiction | exact AV.le_refl _ | exact AV.le_any _ | exact OLe.refl _ | exact OLe.none _ | exact LeH.refl _ | exact LeL.refl _ | exact AV.le.bs _ | exact AV.le.sb _ | (exfalso; omega) | contradiction
theorem ansIssueRNew {x : Sh} {f bad : Int} {l j : List Sh} (h : ¬ outS f x) (hs : l.length ≤ 100000) (hx : ¬ x ∈ l) : Answers Tryd.prog Γc 17 [.ptr 0 0, shV x] (DH f bad l j) (.v (.int .i64 0)) [some (sgD 2 f bad (l ++ [x]).length), some (shB (l ++ j))] [shB (l ++ [x])] :=
  answers (fn := Tryd.f17) (c := bodyOf Tryd.f17) (ntmps := 34) (results := [.tmp 4]) [CoQ.c13, CT.at 35 (ansHasN (f := f) (bad := bad) (j := j) hs hx)] Lno false Tryd.func17 (by kernel_rfl) (by kernel_rfl) (by kernel_rfl) (by kernel_rfl) (by simp) rfl (noLoops (by kernel_rfl)) <| Meets.of (run14n x f bad l j hs hx) <| by
    have h1 := outS_not h
    have hl : (l ++ [x]).length = l.length + 1 := by simp
    simp only [or_true, true_or, false_or, or_false, and_false, false_and, cond_true, cond_false, Bool.not_true, Bool.not_false, Bool.false_eq_true, Bool.true_eq_false, not_true_eq_false, not_false_eq_true, false_implies, true_implies, implies_true, Nat.blt_eq, owesN, owesX, owesR, notT, sat_brT, sat_brF, sat_chkT, cl_iff, cl_false, AV.le_refl, AV.le_any, OLe_refl, OLe_none, sat_brN, Tree.sat_chk, Tree.sat_leaf, Tree.sat_fail, Nat.zero_add, Nat.sub_zero, Int.toNat_natCast, LeH_cons, LeH_nil, LeL_cons, LeL_nil, and_true, true_and, Bool.and_eq_true, Bool.or_eq_true, decide_eq_true_eq, decide_eq_false_iff_not, Bool.cond_true_left, Bool.cond_false_right, List.cons_append, List.nil_append, List.map_cons, List.map_nil, repT]
    repeat' (first | apply And.intro | intro _hc)
    all_goals first | omega | contradiction | exact AV.le_refl _ | exact AV.le_any _ | exact OLe.refl _ | exact OLe.none _ | exact LeH.refl _ | exact LeL.refl _ | exact AV.le.bs _ | exact AV.le.sb _ | exact room88 (by omega) | ((rw [hl]; exact OLe.refl _)) | exact Sh.cod.app2 l j x default default rfl rfl | (exfalso; omega) | contradiction
theorem ansCountsR {x : Sh} {f bad : Int} {l j : List Sh} (hb : inU32 bad = true) (hs : l.length ≤ 100000) : Answers Tryd.prog Γc 40 [.ptr 0 0, shV x] (DH f bad l j) (.v (.int .i64 (cntE f bad l x))) ((DH f bad l j).map some) [] := by
  unfold cntE
  by_cases h : x.s < 0 ∨ timesF 3 f ≤ x.s
  · rw [if_pos h]
    exact answers (fn := Tryd.f40) (c := bodyOf Tryd.f40) (ntmps := 30) (results := [.tmp 4]) [CoQ.c13, CoQ.c23] Lno false Tryd.func40 (by kernel_rfl) (by kernel_rfl) (by kernel_rfl) (by kernel_rfl) (by simp) rfl (noLoops (by kernel_rfl)) <| Meets.of (run16o x f bad l j) <| by
      simp only [or_true, true_or, false_or, or_false, and_false, false_and, cond_true, cond_false, Bool.not_true, Bool.not_false, Bool.false_eq_true, Bool.true_eq_false, not_true_eq_false, not_false_eq_true, false_implies, true_implies, implies_true, Nat.blt_eq, owesN, owesX, owesR, notT, sat_brT, sat_brF, sat_chkT, cl_iff, cl_false, AV.le_refl, AV.le_any, OLe_refl, OLe_none, sat_brN, Tree.sat_chk, Tree.sat_leaf, Tree.sat_fail, Nat.zero_add, Nat.sub_zero, Int.toNat_natCast, LeH_cons, LeH_nil, LeL_cons, LeL_nil, and_true, true_and, Bool.and_eq_true, Bool.or_eq_true, decide_eq_true_eq, decide_eq_false_iff_not, Bool.cond_true_left, Bool.cond_false_right, List.cons_append, List.nil_append, List.map_cons, List.map_nil, repT]
      repeat' (first | apply And.intro | intro _hc)
      all_goals first | omega | contradiction | exact AV.le_refl _ | exact AV.le_any _ | exact OLe.refl _ | exact OLe.none _ | exact LeH.refl _ | exact LeL.refl _ | exact AV.le.bs _ | exact AV.le.sb _ | (exfalso; omega) | contradiction
  · rw [if_neg h]
    have h1 := outS_not h
    by_cases hx : x ∈ l
    · have h2 := hasS_iff.2 hx
      cases hh : hasB bad x.s with
      | true =>
        rw [if_pos rfl]
        exact answers (fn := Tryd.f40) (c := bodyOf Tryd.f40) (ntmps := 30) (results := [.tmp 4]) [CoQ.c13, CoQ.c23, CT.at 35 (ansHasY (f := f) (bad := bad) (j := j) hs hx)] Lno false Tryd.func40 (by kernel_rfl) (by kernel_rfl) (by kernel_rfl) (by kernel_rfl) (by simp) rfl (noLoops (by kernel_rfl)) <| Meets.of (run16y x f bad l j hs hx) <| by
          simp only [or_true, true_or, false_or, or_false, and_false, false_and, cond_true, cond_false, Bool.not_true, Bool.not_false, Bool.false_eq_true, Bool.true_eq_false, not_true_eq_false, not_false_eq_true, false_implies, true_implies, implies_true, Nat.blt_eq, owesN, owesX, owesR, notT, sat_brT, sat_brF, sat_chkT, cl_iff, cl_false, AV.le_refl, AV.le_any, OLe_refl, OLe_none, sat_brN, Tree.sat_chk, Tree.sat_leaf, Tree.sat_fail, Nat.zero_add, Nat.sub_zero, Int.toNat_natCast, LeH_cons, LeH_nil, LeL_cons, LeL_nil, and_true, true_and, Bool.and_eq_true, Bool.or_eq_true, decide_eq_true_eq, decide_eq_false_iff_not, Bool.cond_true_left, Bool.cond_false_right, List.cons_append, List.nil_append, List.map_cons, List.map_nil, repT, hb, hh]
          repeat' (first | apply And.intro | intro _hc)
          all_goals first | omega | contradiction | exact AV.le_refl _ | exact AV.le_any _ | exact OLe.refl _ | exact OLe.none _ | exact LeH.refl _ | exact LeL.refl _ | exact AV.le.bs _ | exact AV.le.sb _ | (exfalso; omega) | contradiction
      | false =>
        rw [if_neg (by simp), if_pos h2]
        exact answers (fn := Tryd.f40) (c := bodyOf Tryd.f40) (ntmps := 30) (results := [.tmp 4]) [CoQ.c13, CoQ.c23, CT.at 35 (ansHasY (f := f) (bad := bad) (j := j) hs hx)] Lno false Tryd.func40 (by kernel_rfl) (by kernel_rfl) (by kernel_rfl) (by kernel_rfl) (by simp) rfl (noLoops (by kernel_rfl)) <| Meets.of (run16y x f bad l j hs hx) <| by
          simp only [or_true, true_or, false_or, or_false, and_false, false_and, cond_true, cond_false, Bool.not_true, Bool.not_false, Bool.false_eq_true, Bool.true_eq_false, not_true_eq_false, not_false_eq_true, false_implies, true_implies, implies_true, Nat.blt_eq, owesN, owesX, owesR, notT, sat_brT, sat_brF, sat_chkT, cl_iff, cl_false, AV.le_refl, AV.le_any, OLe_refl, OLe_none, sat_brN, Tree.sat_chk, Tree.sat_leaf, Tree.sat_fail, Nat.zero_add, Nat.sub_zero, Int.toNat_natCast, LeH_cons, LeH_nil, LeL_cons, LeL_nil, and_true, true_and, Bool.and_eq_true, Bool.or_eq_true, decide_eq_true_eq, decide_eq_false_iff_not, Bool.cond_true_left, Bool.cond_false_right, List.cons_append, List.nil_append, List.map_cons, List.map_nil, repT, hb, hh]
          repeat' (first | apply And.intro | intro _hc)
          all_goals first | omega | contradiction | exact AV.le_refl _ | exact AV.le_any _ | exact OLe.refl _ | exact OLe.none _ | exact LeH.refl _ | exact LeL.refl _ | exact AV.le.bs _ | exact AV.le.sb _ | (exfalso; omega) | contradiction
    · have h2 : ¬ hasS l (shK x) = true := fun h => hx (hasS_iff.1 h)
      cases hh : hasB bad x.s with
      | true =>
        rw [if_pos rfl]
        exact answers (fn := Tryd.f40) (c := bodyOf Tryd.f40) (ntmps := 30) (results := [.tmp 4]) [CoQ.c13, CoQ.c23, CT.at 35 (ansHasN (f := f) (bad := bad) (j := j) hs hx)] Lno false Tryd.func40 (by kernel_rfl) (by kernel_rfl) (by kernel_rfl) (by kernel_rfl) (by simp) rfl (noLoops (by kernel_rfl)) <| Meets.of (run16n x f bad l j hs hx) <| by
          simp only [or_true, true_or, false_or, or_false, and_false, false_and, cond_true, cond_false, Bool.not_true, Bool.not_false, Bool.false_eq_true, Bool.true_eq_false, not_true_eq_false, not_false_eq_true, false_implies, true_implies, implies_true, Nat.blt_eq, owesN, owesX, owesR, notT, sat_brT, sat_brF, sat_chkT, cl_iff, cl_false, AV.le_refl, AV.le_any, OLe_refl, OLe_none, sat_brN, Tree.sat_chk, Tree.sat_leaf, Tree.sat_fail, Nat.zero_add, Nat.sub_zero, Int.toNat_natCast, LeH_cons, LeH_nil, LeL_cons, LeL_nil, and_true, true_and, Bool.and_eq_true, Bool.or_eq_true, decide_eq_true_eq, decide_eq_false_iff_not, Bool.cond_true_left, Bool.cond_false_right, List.cons_append, List.nil_append, List.map_cons, List.map_nil, repT, hb, hh]
          repeat' (first | apply And.intro | intro _hc)
          all_goals first | omega | contradiction | exact AV.le_refl _ | exact AV.le_any _ | exact OLe.refl _ | exact OLe.none _ | exact LeH.refl _ | exact LeL.refl _ | exact AV.le.bs _ | exact AV.le.sb _ | (exfalso; omega) | contradiction
      | false =>
        rw [if_neg (by simp), if_neg h2]
        exact answers (fn := Tryd.f40) (c := bodyOf Tryd.f40) (ntmps := 30) (results := [.tmp 4]) [CoQ.c13, CoQ.c23, CT.at 35 (ansHasN (f := f) (bad := bad) (j := j) hs hx)] Lno false Tryd.func40 (by kernel_rfl) (by kernel_rfl) (by kernel_rfl) (by kernel_rfl) (by simp) rfl (noLoops (by kernel_rfl)) <| Meets.of (run16n x f bad l j hs hx) <| by
          simp only [or_true, true_or, false_or, or_false, and_false, false_and, cond_true, cond_false, Bool.not_true, Bool.not_false, Bool.false_eq_true, Bool.true_eq_false, not_true_eq_false, not_false_eq_true, false_implies, true_implies, implies_true, Nat.blt_eq, owesN, owesX, owesR, notT, sat_brT, sat_brF, sat_chkT, cl_iff, cl_false, AV.le_refl, AV.le_any, OLe_refl, OLe_none, sat_brN, Tree.sat_chk, Tree.sat_leaf, Tree.sat_fail, Nat.zero_add, Nat.sub_zero, Int.toNat_natCast, LeH_cons, LeH_nil, LeL_cons, LeL_nil, and_true, true_and, Bool.and_eq_true, Bool.or_eq_true, decide_eq_true_eq, decide_eq_false_iff_not, Bool.cond_true_left, Bool.cond_false_right, List.cons_append, List.nil_append, List.map_cons, List.map_nil, repT, hb, hh]
          repeat' (first | apply And.intro | intro _hc)
          all_goals first | omega | contradiction | exact AV.le_refl _ | exact AV.le_any _ | exact OLe.refl _ | exact OLe.none _ | exact LeH.refl _ | exact LeL.refl _ | exact AV.le.bs _ | exact AV.le.sb _ | (exfalso; omega) | contradiction
theorem ansAllChk {s : Int} {st : St} {f bad : Int} {l j : List Sh} (hu : inU32 s = true) (h : checkF f s ≠ 0) : Answers Tryd.prog Γc 39 [.ptr 0 0, .agg st.c, .v (.int .u32 s)] (SH f bad l j) (.v (.int .i64 (checkF f s))) ((SH f bad l j).map some) [] :=
  answers (fn := Tryd.f39) (c := bodyOf Tryd.f39) (ntmps := 38) (results := [.tmp 6]) [CoQ.c21, CoQ.c17] (Lno) false Tryd.func39 (by kernel_rfl) (by kernel_rfl) (by kernel_rfl) (by kernel_rfl) (by simp) rfl (failOK fun _ _ _ => rfl) <| Meets.of (run8c s st f bad l j) <| by
    simp only [or_true, true_or, false_or, or_false, and_false, false_and, cond_true, cond_false, Bool.not_true, Bool.not_false, Bool.false_eq_true, Bool.true_eq_false, not_true_eq_false, not_false_eq_true, false_implies, true_implies, implies_true, Nat.blt_eq, owesN, owesX, owesR, notT, sat_brT, sat_brF, sat_chkT, cl_iff, cl_false, AV.le_refl, AV.le_any, OLe_refl, OLe_none, sat_brN, Tree.sat_chk, Tree.sat_leaf, Tree.sat_fail, Nat.zero_add, Nat.sub_zero, Int.toNat_natCast, LeH_cons, LeH_nil, LeL_cons, LeL_nil, and_true, true_and, Bool.and_eq_true, Bool.or_eq_true, decide_eq_true_eq, decide_eq_false_iff_not, Bool.cond_true_left, Bool.cond_false_right, List.cons_append, List.nil_append, List.map_cons, List.map_nil, hu, h]
    repeat' (first | apply And.intro | intro _hc)
    all_goals first | omega | contradiction | exact AV.le_refl _ | exact AV.le_any _ | exact OLe.refl _ | exact OLe.none _ | exact LeH.refl _ | exact LeL.refl _ | exact AV.le.bs _ | exact AV.le.sb _ | (exfalso; omega) | contradiction
theorem ansAllErr {s : Int} {st : St} {f bad : Int} {l j : List Sh} (hu : inU32 s = true) (hb : inU32 bad = true) (h : checkF f s = 0) {p : Nat} (h2 : p < pc s) (h3 : cAt s st f bad l p ≠ 0) (h4 : ∀ q, q < p → cAt s st f bad l q = 0) : Answers Tryd.prog Γc 39 [.ptr 0 0, .agg st.c, .v (.int .u32 s)] (SH f bad l j) (.v (.int .i64 (cAt s st f bad l p))) ((SH f bad l j).map some) [] :=
  answers (fn := Tryd.f39) (c := bodyOf Tryd.f39) (ntmps := 38) (results := [.tmp 6]) [CoQ.c21, CoQ.c17] (fun _ => LSpec.at [0, 4, 23, 24, 25, 6] [] (S8 s st f bad l j 0) (O8y s st f bad l j (cAt s st f bad l p))) false Tryd.func39 (by kernel_rfl) (by kernel_rfl) (by kernel_rfl) (by kernel_rfl) (by simp) rfl (oneLoop (b := lp8) (by kernel_rfl) (loop8y hb h2 h3 h4 0 (Nat.zero_le _))) <| Meets.of (run8y s (cAt s st f bad l p) st f bad l j) <| by
    simp only [or_true, true_or, false_or, or_false, and_false, false_and, cond_true, cond_false, Bool.not_true, Bool.not_false, Bool.false_eq_true, Bool.true_eq_false, not_true_eq_false, not_false_eq_true, false_implies, true_implies, implies_true, Nat.blt_eq, owesN, owesX, owesR, notT, sat_brT, sat_brF, sat_chkT, cl_iff, cl_false, AV.le_refl, AV.le_any, OLe_refl, OLe_none, sat_brN, Tree.sat_chk, Tree.sat_leaf, Tree.sat_fail, Nat.zero_add, Nat.sub_zero, Int.toNat_natCast, LeH_cons, LeH_nil, LeL_cons, LeL_nil, and_true, true_and, Bool.and_eq_true, Bool.or_eq_true, decide_eq_true_eq, decide_eq_false_iff_not, Bool.cond_true_left, Bool.cond_false_right, List.cons_append, List.nil_append, List.map_cons, List.map_nil, hu, h]
    repeat' (first | apply And.intro | intro _hc)
    all_goals first | omega | contradiction | exact AV.le_refl _ | exact AV.le_any _ | exact OLe.refl _ | exact OLe.none _ | exact LeH.refl _ | exact LeL.refl _ | exact AV.le.bs _ | exact AV.le.sb _ | (exfalso; omega) | contradiction
theorem ansAllOk {s : Int} {st : St} {f bad : Int} {l j : List Sh} (hu : inU32 s = true) (hb : inU32 bad = true) (h : checkF f s = 0) (h4 : ∀ q, q < pc s → cAt s st f bad l q = 0) : Answers Tryd.prog Γc 39 [.ptr 0 0, .agg st.c, .v (.int .u32 s)] (SH f bad l j) (.v (.int .i64 0)) ((SH f bad l j).map some) [] :=
  answers (fn := Tryd.f39) (c := bodyOf Tryd.f39) (ntmps := 38) (results := [.tmp 6]) [CoQ.c21, CoQ.c17] (fun _ => LSpec.at [0, 4, 23, 24, 25, 6] [] (S8 s st f bad l j 0) (O8n s st f bad l j)) false Tryd.func39 (by kernel_rfl) (by kernel_rfl) (by kernel_rfl) (by kernel_rfl) (by simp) rfl (oneLoop (b := lp8) (by kernel_rfl) (loop8n hb h4 0 (Nat.zero_le _))) <| Meets.of (run8n s st f bad l j) <| by
    simp only [or_true, true_or, false_or, or_false, and_false, false_and, cond_true, cond_false, Bool.not_true, Bool.not_false, Bool.false_eq_true, Bool.true_eq_false, not_true_eq_false, not_false_eq_true, false_implies, true_implies, implies_true, Nat.blt_eq, owesN, owesX, owesR, notT, sat_brT, sat_brF, sat_chkT, cl_iff, cl_false, AV.le_refl, AV.le_any, OLe_refl, OLe_none, sat_brN, Tree.sat_chk, Tree.sat_leaf, Tree.sat_fail, Nat.zero_add, Nat.sub_zero, Int.toNat_natCast, LeH_cons, LeH_nil, LeL_cons, LeL_nil, and_true, true_and, Bool.and_eq_true, Bool.or_eq_true, decide_eq_true_eq, decide_eq_false_iff_not, Bool.cond_true_left, Bool.cond_false_right, List.cons_append, List.nil_append, List.map_cons, List.map_nil, hu, h]
    repeat' (first | apply And.intro | intro _hc)
    all_goals first | omega | contradiction | exact AV.le_refl _ | exact AV.le_any _ | exact OLe.refl _ | exact OLe.none _ | exact LeH.refl _ | exact LeL.refl _ | exact AV.le.bs _ | exact AV.le.sb _ | (exfalso; omega) | contradiction
theorem run12 (s le e : Int) (st : St) (f bad : Int) (l j : List Sh) (h : Answers Tryd.prog Γc 39 [.ptr 0 0, .agg st.c, .v (.int .u32 s)] (SH f bad l j) (.v (.int .i64 e)) ((SH f bad l j).map some) []) : bodyE (P := Tryd.prog) (Γ := Γc) [CT.at 39 h, CoQ.c10] Lno false 21 [.tmp 8] (bodyOf Tryd.f29) [.ptr 0 0, .agg st.c, .v (.int .u32 s), .v (.int .i64 le)] (SH f bad l j) =
  Tree.chk (cl (LeL [AV.ptr (0 : Nat) (0 : Nat), AV.agg [AV.v (Value.int IntKind.i64 st.k), AV.v (Value.int IntKind.i64 st.b), AV.v (Value.int IntKind.i64 st.v), AV.v (Value.int IntKind.i64
    st.r), AV.v (Value.int IntKind.i64 st.h), AV.v (Value.int IntKind.i64 st.a), AV.v (Value.int IntKind.i64 st.hk), AV.v (Value.int IntKind.i64 st.hb), AV.v (Value.int IntKind.i64 st.hv),
    AV.v (Value.int IntKind.i64 st.hr)], AV.v (Value.int IntKind.u32 s)] [AV.ptr (0 : Nat) (0 : Nat), AV.agg [AV.v (Value.int IntKind.i64 st.k), AV.v (Value.int IntKind.i64 st.b), AV.v
    (Value.int IntKind.i64 st.v), AV.v (Value.int IntKind.i64 st.r), AV.v (Value.int IntKind.i64 st.h), AV.v (Value.int IntKind.i64 st.a), AV.v (Value.int IntKind.i64 st.hk), AV.v (Value.int
    IntKind.i64 st.hb), AV.v (Value.int IntKind.i64 st.hv), AV.v (Value.int IntKind.i64 st.hr)], AV.v (Value.int IntKind.u32 s)] ∧ LeH [some (Blk.row [AV.v (Value.int IntKind.i64 f), AV.v
    (Value.int IntKind.u32 bad), AV.map (1 : Nat), AV.hs (2 : Nat) (0 : Nat) (List.length l)]), some (Blk.mp [Cel.int IntKind.i64, Cel.int IntKind.i64, Cel.int IntKind.i64, Cel.int
    IntKind.i64, Cel.int IntKind.i64, Cel.int IntKind.i64, Cel.int IntKind.i64, Cel.int IntKind.i64, Cel.int IntKind.i64, Cel.int IntKind.i64, Cel.int IntKind.i64] true false (List.length l)
    (hasS l) anyV), some (Blk.arr (11 : Nat) (List.length (l ++ j)) (lsF Sh.c (l ++ j)))] [some (Blk.row [AV.v (Value.int IntKind.i64 f), AV.v (Value.int IntKind.u32 bad), AV.map (1 : Nat),
    AV.hs (2 : Nat) (0 : Nat) (List.length l)]), some (Blk.mp [Cel.int IntKind.i64, Cel.int IntKind.i64, Cel.int IntKind.i64, Cel.int IntKind.i64, Cel.int IntKind.i64, Cel.int IntKind.i64,
    Cel.int IntKind.i64, Cel.int IntKind.i64, Cel.int IntKind.i64, Cel.int IntKind.i64, Cel.int IntKind.i64] true false (List.length l) (hasS l) anyV), some (Blk.arr (11 : Nat) (List.length
    (l ++ j)) (lsF Sh.c (l ++ j)))])) (Tree.br (!decide (e = (0 : Int))) (Tree.leaf (Ans.mk (AV.v (Value.int IntKind.i64 e)) [some (Blk.row [AV.v (Value.int IntKind.i64 f), AV.v (Value.int
    IntKind.u32 bad), AV.map (1 : Nat), AV.hs (2 : Nat) (0 : Nat) (List.length l)]), some (Blk.mp [Cel.int IntKind.i64, Cel.int IntKind.i64, Cel.int IntKind.i64, Cel.int IntKind.i64, Cel.int
    IntKind.i64, Cel.int IntKind.i64, Cel.int IntKind.i64, Cel.int IntKind.i64, Cel.int IntKind.i64, Cel.int IntKind.i64, Cel.int IntKind.i64] true false (List.length l) (hasS l) anyV), some
    (Blk.arr (11 : Nat) (List.length (l ++ j)) (lsF Sh.c (l ++ j)))])) (Tree.chk (inU32 s) (Tree.br (decide ((↑(pc s) : Int) < le)) (Tree.leaf (Ans.mk (AV.v (Value.int IntKind.i64 (61 :
    Int))) [some (Blk.row [AV.v (Value.int IntKind.i64 f), AV.v (Value.int IntKind.u32 bad), AV.map (1 : Nat), AV.hs (2 : Nat) (0 : Nat) (List.length l)]), some (Blk.mp [Cel.int IntKind.i64,
    Cel.int IntKind.i64, Cel.int IntKind.i64, Cel.int IntKind.i64, Cel.int IntKind.i64, Cel.int IntKind.i64, Cel.int IntKind.i64, Cel.int IntKind.i64, Cel.int IntKind.i64, Cel.int
    IntKind.i64, Cel.int IntKind.i64] true false (List.length l) (hasS l) anyV), some (Blk.arr (11 : Nat) (List.length (l ++ j)) (lsF Sh.c (l ++ j)))])) (Tree.leaf (Ans.mk (AV.v (Value.int
    IntKind.i64 (0 : Int))) [some (Blk.row [AV.v (Value.int IntKind.i64 f), AV.v (Value.int IntKind.u32 bad), AV.map (1 : Nat), AV.hs (2 : Nat) (0 : Nat) (List.length l)]), some (Blk.mp
    [Cel.int IntKind.i64, Cel.int IntKind.i64, Cel.int IntKind.i64, Cel.int IntKind.i64, Cel.int IntKind.i64, Cel.int IntKind.i64, Cel.int IntKind.i64, Cel.int IntKind.i64, Cel.int
    IntKind.i64, Cel.int IntKind.i64, Cel.int IntKind.i64] true false (List.length l) (hasS l) anyV), some (Blk.arr (11 : Nat) (List.length (l ++ j)) (lsF Sh.c (l ++ j)))]))))) := by kernel_rfl
def S17 (s le : Int) (st : St) (f bad : Int) (l j : List Sh) (k : Nat) : List AV × Heap := ([.ptr 0 0, .v (.int .u32 s), .v (.int .i64 le), .ptr 2 0, .hs 3 0 (pc s), .v (.int .i64 (k : Int)), .any], (DH f bad l j ++ [Blk.row st.c, Blk.arr 1 (pc s) (ints (nth s))]).map some)
theorem r17 (s le : Int) (st : St) (f bad : Int) (l j : List Sh) (k : Nat) (hb : inU32 bad = true) (hs : l.length ≤ 100000) : roundE (P := Tryd.prog) (Γ := Γc) [CT.at 40 (ansCountsR (x := ⟨nth s k, st⟩) (f := f) (bad := bad) (l := l) (j := j) hb hs)] Lno false 2 0 lp17 [0, 2, 3, 5, 10, 11, 8] [] 44 (S17 s le st f bad l j k).1 (S17 s le st f bad l j k).2 =
  Tree.br (decide ((↑k : Int) < (↑(pc s) : Int))) (Tree.chk (decide ((0 : Int) ≤ (↑k : Int)) && decide ((↑k : Int) < (↑(pc s) : Int))) (Tree.chk (cl (LeL [AV.ptr (0 : Nat) (0 : Nat), AV.agg
    [AV.v (Value.int IntKind.i64 (nth s ((0 : Nat) + k))), AV.v (Value.int IntKind.i64 st.k), AV.v (Value.int IntKind.i64 st.b), AV.v (Value.int IntKind.i64 st.v), AV.v (Value.int
    IntKind.i64 st.r), AV.v (Value.int IntKind.i64 st.h), AV.v (Value.int IntKind.i64 st.a), AV.v (Value.int IntKind.i64 st.hk), AV.v (Value.int IntKind.i64 st.hb), AV.v (Value.int
    IntKind.i64 st.hv), AV.v (Value.int IntKind.i64 st.hr)]] [AV.ptr (0 : Nat) (0 : Nat), AV.agg [AV.v (Value.int IntKind.i64 (nth s k)), AV.v (Value.int IntKind.i64 st.k), AV.v (Value.int
    IntKind.i64 st.b), AV.v (Value.int IntKind.i64 st.v), AV.v (Value.int IntKind.i64 st.r), AV.v (Value.int IntKind.i64 st.h), AV.v (Value.int IntKind.i64 st.a), AV.v (Value.int IntKind.i64
    st.hk), AV.v (Value.int IntKind.i64 st.hb), AV.v (Value.int IntKind.i64 st.hv), AV.v (Value.int IntKind.i64 st.hr)]] ∧ LeH [some (Blk.row [AV.v (Value.int IntKind.i64 f), AV.v (Value.int
    IntKind.u32 bad), AV.hs (1 : Nat) (0 : Nat) (List.length l)]), some (Blk.arr (11 : Nat) (List.length (l ++ j)) (lsF Sh.c (l ++ j)))] [some (Blk.row [AV.v (Value.int IntKind.i64 f), AV.v
    (Value.int IntKind.u32 bad), AV.hs (1 : Nat) (0 : Nat) (List.length l)]), some (Blk.arr (11 : Nat) (List.length (l ++ j)) (lsF Sh.c (l ++ j)))])) (Tree.br (!decide (cntE f bad l (Sh.mk
    (nth s k) st) = (0 : Int))) (Tree.leaf (Out.mk AEx.ret [AV.ptr (0 : Nat) (0 : Nat), AV.v (Value.int IntKind.u32 s), AV.v (Value.int IntKind.i64 le), AV.ptr (2 : Nat) (0 : Nat), AV.hs (3
    : Nat) (0 : Nat) (pc s), AV.v (Value.int IntKind.i64 (↑k : Int)), AV.v (Value.int IntKind.i64 (cntE f bad l (Sh.mk (nth s k) st)))] [some (Blk.row [AV.v (Value.int IntKind.i64 f), AV.v
    (Value.int IntKind.u32 bad), AV.hs (1 : Nat) (0 : Nat) (List.length l)]), some (Blk.arr (11 : Nat) (List.length (l ++ j)) (lsF Sh.c (l ++ j))), some (Blk.row [AV.v (Value.int IntKind.i64
    st.k), AV.v (Value.int IntKind.i64 st.b), AV.v (Value.int IntKind.i64 st.v), AV.v (Value.int IntKind.i64 st.r), AV.v (Value.int IntKind.i64 st.h), AV.v (Value.int IntKind.i64 st.a), AV.v
    (Value.int IntKind.i64 st.hk), AV.v (Value.int IntKind.i64 st.hb), AV.v (Value.int IntKind.i64 st.hv), AV.v (Value.int IntKind.i64 st.hr)]), some (Blk.arr (1 : Nat) (pc s) fun i => [AV.v
    (Value.int IntKind.i64 (nth s i))])])) (Tree.leaf (Out.mk AEx.normal [AV.ptr (0 : Nat) (0 : Nat), AV.v (Value.int IntKind.u32 s), AV.v (Value.int IntKind.i64 le), AV.ptr (2 : Nat) (0 :
    Nat), AV.hs (3 : Nat) (0 : Nat) (pc s), AV.v (Value.int IntKind.i64 (IntKind.wrap IntKind.i64 ((↑k : Int) + (1 : Int)))), AV.any] [some (Blk.row [AV.v (Value.int IntKind.i64 f), AV.v
    (Value.int IntKind.u32 bad), AV.hs (1 : Nat) (0 : Nat) (List.length l)]), some (Blk.arr (11 : Nat) (List.length (l ++ j)) (lsF Sh.c (l ++ j))), some (Blk.row [AV.v (Value.int IntKind.i64
    st.k), AV.v (Value.int IntKind.i64 st.b), AV.v (Value.int IntKind.i64 st.v), AV.v (Value.int IntKind.i64 st.r), AV.v (Value.int IntKind.i64 st.h), AV.v (Value.int IntKind.i64 st.a), AV.v
    (Value.int IntKind.i64 st.hk), AV.v (Value.int IntKind.i64 st.hb), AV.v (Value.int IntKind.i64 st.hv), AV.v (Value.int IntKind.i64 st.hr)]), some (Blk.arr (1 : Nat) (pc s) fun i => [AV.v
    (Value.int IntKind.i64 (nth s i))])]))))) (Tree.leaf (Out.mk (AEx.exit (0 : Nat)) [AV.ptr (0 : Nat) (0 : Nat), AV.v (Value.int IntKind.u32 s), AV.v (Value.int IntKind.i64 le), AV.ptr (2
    : Nat) (0 : Nat), AV.hs (3 : Nat) (0 : Nat) (pc s), AV.v (Value.int IntKind.i64 (↑k : Int)), AV.any] [some (Blk.row [AV.v (Value.int IntKind.i64 f), AV.v (Value.int IntKind.u32 bad),
    AV.hs (1 : Nat) (0 : Nat) (List.length l)]), some (Blk.arr (11 : Nat) (List.length (l ++ j)) (lsF Sh.c (l ++ j))), some (Blk.row [AV.v (Value.int IntKind.i64 st.k), AV.v (Value.int
    IntKind.i64 st.b), AV.v (Value.int IntKind.i64 st.v), AV.v (Value.int IntKind.i64 st.r), AV.v (Value.int IntKind.i64 st.h), AV.v (Value.int IntKind.i64 st.a), AV.v (Value.int IntKind.i64
    st.hk), AV.v (Value.int IntKind.i64 st.hb), AV.v (Value.int IntKind.i64 st.hv), AV.v (Value.int IntKind.i64 st.hr)]), some (Blk.arr (1 : Nat) (pc s) fun i => [AV.v (Value.int IntKind.i64
    (nth s i))])])) := by kernel_rfl
def O17y (s le : Int) (st : St) (f bad : Int) (l j : List Sh) (e : Int) : Out := ⟨.ret, [.any, .any, .any, .any, .any, .any, .v (.int .i64 e)], (DH f bad l j).map some ++ [none, none]⟩
def O17n (s le : Int) (st : St) (f bad : Int) (l j : List Sh) : Out := ⟨.exit 0, [.any, .any, .v (.int .i64 le), .any, .hs 3 0 (pc s), .any, .any], (DH f bad l j).map some ++ [none, some (Blk.arr 1 (pc s) (ints (nth s)))]⟩
theorem loop17y {s le : Int} {st : St} {f bad : Int} {l j : List Sh} (hb : inU32 bad = true) (hs : l.length ≤ 100000) {p : Nat} (h2 : p < pc s) (h3 : cAt s st f bad l p ≠ 0) (h4 : ∀ q, q < p → cAt s st f bad l q = 0) : ∀ k, k ≤ p → LoopOK Tryd.prog Γc 2 44 lp17 (LSpec.at [0, 2, 3, 5, 10, 11, 8] [] (S17 s le st f bad l j k) (O17y s le st f bad l j (cAt s st f bad l p))) := by
  refine loop_at (S := S17 s le st f bad l j) (O := fun _ => O17y s le st f bad l j (cAt s st f bad l p)) (k := 0) (fun k => p - k) fun k hp => .of (noLoops (by kernel_rfl)) (r17 s le st f bad l j k hb hs) ?_
  have := pcLe s
  rcases Nat.lt_or_ge k p with hk | hk
  · have h5 := h4 k hk
    simp only [or_true, true_or, false_or, or_false, and_false, false_and, cond_true, cond_false, Bool.not_true, Bool.not_false, Bool.false_eq_true, Bool.true_eq_false, not_true_eq_false, not_false_eq_true, false_implies, true_implies, implies_true, Nat.blt_eq, owesN, owesX, owesR, notT, sat_brT, sat_brF, sat_chkT, cl_iff, cl_false, AV.le_refl, AV.le_any, OLe_refl, OLe_none, sat_brN, Tree.sat_chk, Tree.sat_leaf, Tree.sat_fail, Nat.zero_add, Nat.sub_zero, Int.toNat_natCast, LeH_cons, LeH_nil, LeL_cons, LeL_nil, and_true, true_and, Bool.and_eq_true, Bool.or_eq_true, decide_eq_true_eq, decide_eq_false_iff_not, Bool.cond_true_left, Bool.cond_false_right, List.cons_append, List.nil_append, List.map_cons, List.map_nil, h5, wrapUpN (show k ≤ 1000000000 by omega)]
    repeat' (first | apply And.intro | intro _hc)
    all_goals first | omega | contradiction | exact AV.le_refl _ | exact AV.le_any _ | exact OLe.refl _ | exact OLe.none _ | exact LeH.refl _ | exact LeL.refl _ | exact AV.le.bs _ | exact AV.le.sb _ | exact ⟨k + 1, LeL.refl _, LeH.refl _, hk, by omega⟩ | (exfalso; omega) | contradiction
  · obtain rfl : k = p := by omega
    simp only [or_true, true_or, false_or, or_false, and_false, false_and, cond_true, cond_false, Bool.not_true, Bool.not_false, Bool.false_eq_true, Bool.true_eq_false, not_true_eq_false, not_false_eq_true, false_implies, true_implies, implies_true, Nat.blt_eq, owesN, owesX, owesR, notT, sat_brT, sat_brF, sat_chkT, cl_iff, cl_false, AV.le_refl, AV.le_any, OLe_refl, OLe_none, sat_brN, Tree.sat_chk, Tree.sat_leaf, Tree.sat_fail, Nat.zero_add, Nat.sub_zero, Int.toNat_natCast, LeH_cons, LeH_nil, LeL_cons, LeL_nil, and_true, true_and, Bool.and_eq_true, Bool.or_eq_true, decide_eq_true_eq, decide_eq_false_iff_not, Bool.cond_true_left, Bool.cond_false_right, List.cons_append, List.nil_append, List.map_cons, List.map_nil, h3]
    repeat' (first | apply And.intro | intro _hc)
    all_goals first | omega | contradiction | exact AV.le_refl _ | exact AV.le_any _ | exact OLe.refl _ | exact OLe.none _ | exact LeH.refl _ | exact LeL.refl _ | exact AV.le.bs _ | exact AV.le.sb _ | exact rfl | (exfalso; omega) | contradiction
theorem loop17n {s le : Int} {st : St} {f bad : Int} {l j : List Sh} (hb : inU32 bad = true) (hs : l.length ≤ 100000) (h4 : ∀ q, q < pc s → cAt s st f bad l q = 0) : ∀ k, k ≤ pc s → LoopOK Tryd.prog Γc 2 44 lp17 (LSpec.at [0, 2, 3, 5, 10, 11, 8] [] (S17 s le st f bad l j k) (O17n s le st f bad l j)) := by
  refine loop_at (S := S17 s le st f bad l j) (O := fun _ => O17n s le st f bad l j) (k := 0) (fun k => pc s - k) fun k hp => .of (noLoops (by kernel_rfl)) (r17 s le st f bad l j k hb hs) ?_
  have := pcLe s
  rcases Nat.lt_or_ge k (pc s) with hk | hk
  · have h5 := h4 k hk
    simp only [or_true, true_or, false_or, or_false, and_false, false_and, cond_true, cond_false, Bool.not_true, Bool.not_false, Bool.false_eq_true, Bool.true_eq_false, not_true_eq_false, not_false_eq_true, false_implies, true_implies, implies_true, Nat.blt_eq, owesN, owesX, owesR, notT, sat_brT, sat_brF, sat_chkT, cl_iff, cl_false, AV.le_refl, AV.le_any, OLe_refl, OLe_none, sat_brN, Tree.sat_chk, Tree.sat_leaf, Tree.sat_fail, Nat.zero_add, Nat.sub_zero, Int.toNat_natCast, LeH_cons, LeH_nil, LeL_cons, LeL_nil, and_true, true_and, Bool.and_eq_true, Bool.or_eq_true, decide_eq_true_eq, decide_eq_false_iff_not, Bool.cond_true_left, Bool.cond_false_right, List.cons_append, List.nil_append, List.map_cons, List.map_nil, h5, wrapUpN (show k ≤ 1000000000 by omega)]
    repeat' (first | apply And.intro | intro _hc)
    all_goals first | omega | contradiction | exact AV.le_refl _ | exact AV.le_any _ | exact OLe.refl _ | exact OLe.none _ | exact LeH.refl _ | exact LeL.refl _ | exact AV.le.bs _ | exact AV.le.sb _ | exact ⟨k + 1, LeL.refl _, LeH.refl _, hk, by omega⟩ | (exfalso; omega) | contradiction
  · simp only [or_true, true_or, false_or, or_false, and_false, false_and, cond_true, cond_false, Bool.not_true, Bool.not_false, Bool.false_eq_true, Bool.true_eq_false, not_true_eq_false, not_false_eq_true, false_implies, true_implies, implies_true, Nat.blt_eq, owesN, owesX, owesR, notT, sat_brT, sat_brF, sat_chkT, cl_iff, cl_false, AV.le_refl, AV.le_any, OLe_refl, OLe_none, sat_brN, Tree.sat_chk, Tree.sat_leaf, Tree.sat_fail, Nat.zero_add, Nat.sub_zero, Int.toNat_natCast, LeH_cons, LeH_nil, LeL_cons, LeL_nil, and_true, true_and, Bool.and_eq_true, Bool.or_eq_true, decide_eq_true_eq, decide_eq_false_iff_not, Bool.cond_true_left, Bool.cond_false_right, List.cons_append, List.nil_append, List.map_cons, List.map_nil]
    repeat' (first | apply And.intro | intro _hc)
    all_goals first | omega | contradiction | exact AV.le_refl _ | exact AV.le_any _ | exact OLe.refl _ | exact OLe.none _ | exact LeH.refl _ | exact LeL.refl _ | exact AV.le.bs _ | exact AV.le.sb _ | exact rfl | (exfalso; omega) | contradiction
abbrev A17 (s le : Int) (st : St) : List AV := [.ptr 0 0, .agg st.c, .v (.int .u32 s), .v (.int .i64 le)]
theorem run17c (s le : Int) (st : St) (f bad : Int) (l j : List Sh) : bodyE (P := Tryd.prog) (Γ := Γc) [CoQ.c22, CoQ.c20] Lno false 44 [.tmp 8] (bodyOf Tryd.f32) (A17 s le st) (DH f bad l j) =
  Tree.chk (inU32 s) (Tree.br (!decide (checkF f s = (0 : Int))) (Tree.leaf (Ans.mk (AV.v (Value.int IntKind.i64 (checkF f s))) [some (Blk.row [AV.v (Value.int IntKind.i64 f), AV.v (Value.int
    IntKind.u32 bad), AV.hs (1 : Nat) (0 : Nat) (List.length l)]), some (Blk.arr (11 : Nat) (List.length (l ++ j)) (lsF Sh.c (l ++ j)))])) (Tree.chk (inU32 s) Tree.fail)) := by kernel_rfl
theorem run17y (s le e : Int) (st : St) (f bad : Int) (l j : List Sh) : bodyE (P := Tryd.prog) (Γ := Γc) [CoQ.c22, CoQ.c20] (fun _ => LSpec.at [0, 2, 3, 5, 10, 11, 8] [] (S17 s le st f bad l j 0) (O17y s le st f bad l j e)) false 44 [.tmp 8] (bodyOf Tryd.f32) (A17 s le st) (DH f bad l j) =
  Tree.chk (inU32 s) (Tree.br (!decide (checkF f s = (0 : Int))) (Tree.leaf (Ans.mk (AV.v (Value.int IntKind.i64 (checkF f s))) [some (Blk.row [AV.v (Value.int IntKind.i64 f), AV.v (Value.int
    IntKind.u32 bad), AV.hs (1 : Nat) (0 : Nat) (List.length l)]), some (Blk.arr (11 : Nat) (List.length (l ++ j)) (lsF Sh.c (l ++ j)))])) (Tree.chk (inU32 s) (Tree.chk (cl (LeL [AV.ptr (0 :
    Nat) (0 : Nat), AV.v (Value.int IntKind.u32 s), AV.v (Value.int IntKind.i64 le), AV.ptr (2 : Nat) (0 : Nat), AV.hs (3 : Nat) (0 : Nat) (pc s), AV.v (Value.int IntKind.i64 (0 : Int)),
    AV.v (Value.int IntKind.i64 (0 : Int))] [AV.ptr (0 : Nat) (0 : Nat), AV.v (Value.int IntKind.u32 s), AV.v (Value.int IntKind.i64 le), AV.ptr (2 : Nat) (0 : Nat), AV.hs (3 : Nat) (0 :
    Nat) (pc s), AV.v (Value.int IntKind.i64 (↑(0 : Nat) : Int)), AV.any] ∧ LeH [some (Blk.row [AV.v (Value.int IntKind.i64 f), AV.v (Value.int IntKind.u32 bad), AV.hs (1 : Nat) (0 : Nat)
    (List.length l)]), some (Blk.arr (11 : Nat) (List.length (l ++ j)) (lsF Sh.c (l ++ j))), some (Blk.row [AV.v (Value.int IntKind.i64 st.k), AV.v (Value.int IntKind.i64 st.b), AV.v
    (Value.int IntKind.i64 st.v), AV.v (Value.int IntKind.i64 st.r), AV.v (Value.int IntKind.i64 st.h), AV.v (Value.int IntKind.i64 st.a), AV.v (Value.int IntKind.i64 st.hk), AV.v (Value.int
    IntKind.i64 st.hb), AV.v (Value.int IntKind.i64 st.hv), AV.v (Value.int IntKind.i64 st.hr)]), some (Blk.arr (1 : Nat) (pc s) fun i => [AV.v (Value.int IntKind.i64 (nth s i))])] [some
    (Blk.row [AV.v (Value.int IntKind.i64 f), AV.v (Value.int IntKind.u32 bad), AV.hs (1 : Nat) (0 : Nat) (List.length l)]), some (Blk.arr (11 : Nat) (List.length (l ++ j)) (lsF Sh.c (l ++
    j))), some (Blk.row [AV.v (Value.int IntKind.i64 st.k), AV.v (Value.int IntKind.i64 st.b), AV.v (Value.int IntKind.i64 st.v), AV.v (Value.int IntKind.i64 st.r), AV.v (Value.int
    IntKind.i64 st.h), AV.v (Value.int IntKind.i64 st.a), AV.v (Value.int IntKind.i64 st.hk), AV.v (Value.int IntKind.i64 st.hb), AV.v (Value.int IntKind.i64 st.hv), AV.v (Value.int
    IntKind.i64 st.hr)]), some (Blk.arr (1 : Nat) (pc s) fun i => [AV.v (Value.int IntKind.i64 (nth s i))])])) (Tree.leaf (Ans.mk (AV.v (Value.int IntKind.i64 e)) [some (Blk.row [AV.v
    (Value.int IntKind.i64 f), AV.v (Value.int IntKind.u32 bad), AV.hs (1 : Nat) (0 : Nat) (List.length l)]), some (Blk.arr (11 : Nat) (List.length (l ++ j)) (lsF Sh.c (l ++ j)))]))))) := by kernel_rfl
theorem run17n (s le : Int) (st : St) (f bad : Int) (l j : List Sh) : bodyE (P := Tryd.prog) (Γ := Γc) [CoQ.c22, CoQ.c20] (fun _ => LSpec.at [0, 2, 3, 5, 10, 11, 8] [] (S17 s le st f bad l j 0) (O17n s le st f bad l j)) false 44 [.tmp 8] (bodyOf Tryd.f32) (A17 s le st) (DH f bad l j) =
  Tree.chk (inU32 s) (Tree.br (!decide (checkF f s = (0 : Int))) (Tree.leaf (Ans.mk (AV.v (Value.int IntKind.i64 (checkF f s))) [some (Blk.row [AV.v (Value.int IntKind.i64 f), AV.v (Value.int
    IntKind.u32 bad), AV.hs (1 : Nat) (0 : Nat) (List.length l)]), some (Blk.arr (11 : Nat) (List.length (l ++ j)) (lsF Sh.c (l ++ j)))])) (Tree.chk (inU32 s) (Tree.chk (cl (LeL [AV.ptr (0 :
    Nat) (0 : Nat), AV.v (Value.int IntKind.u32 s), AV.v (Value.int IntKind.i64 le), AV.ptr (2 : Nat) (0 : Nat), AV.hs (3 : Nat) (0 : Nat) (pc s), AV.v (Value.int IntKind.i64 (0 : Int)),
    AV.v (Value.int IntKind.i64 (0 : Int))] [AV.ptr (0 : Nat) (0 : Nat), AV.v (Value.int IntKind.u32 s), AV.v (Value.int IntKind.i64 le), AV.ptr (2 : Nat) (0 : Nat), AV.hs (3 : Nat) (0 :
    Nat) (pc s), AV.v (Value.int IntKind.i64 (↑(0 : Nat) : Int)), AV.any] ∧ LeH [some (Blk.row [AV.v (Value.int IntKind.i64 f), AV.v (Value.int IntKind.u32 bad), AV.hs (1 : Nat) (0 : Nat)
    (List.length l)]), some (Blk.arr (11 : Nat) (List.length (l ++ j)) (lsF Sh.c (l ++ j))), some (Blk.row [AV.v (Value.int IntKind.i64 st.k), AV.v (Value.int IntKind.i64 st.b), AV.v
    (Value.int IntKind.i64 st.v), AV.v (Value.int IntKind.i64 st.r), AV.v (Value.int IntKind.i64 st.h), AV.v (Value.int IntKind.i64 st.a), AV.v (Value.int IntKind.i64 st.hk), AV.v (Value.int
    IntKind.i64 st.hb), AV.v (Value.int IntKind.i64 st.hv), AV.v (Value.int IntKind.i64 st.hr)]), some (Blk.arr (1 : Nat) (pc s) fun i => [AV.v (Value.int IntKind.i64 (nth s i))])] [some
    (Blk.row [AV.v (Value.int IntKind.i64 f), AV.v (Value.int IntKind.u32 bad), AV.hs (1 : Nat) (0 : Nat) (List.length l)]), some (Blk.arr (11 : Nat) (List.length (l ++ j)) (lsF Sh.c (l ++
    j))), some (Blk.row [AV.v (Value.int IntKind.i64 st.k), AV.v (Value.int IntKind.i64 st.b), AV.v (Value.int IntKind.i64 st.v), AV.v (Value.int IntKind.i64 st.r), AV.v (Value.int
    IntKind.i64 st.h), AV.v (Value.int IntKind.i64 st.a), AV.v (Value.int IntKind.i64 st.hk), AV.v (Value.int IntKind.i64 st.hb), AV.v (Value.int IntKind.i64 st.hv), AV.v (Value.int
    IntKind.i64 st.hr)]), some (Blk.arr (1 : Nat) (pc s) fun i => [AV.v (Value.int IntKind.i64 (nth s i))])])) (Tree.br (decide ((↑(pc s) : Int) < le)) (Tree.leaf (Ans.mk (AV.v (Value.int
    IntKind.i64 (61 : Int))) [some (Blk.row [AV.v (Value.int IntKind.i64 f), AV.v (Value.int IntKind.u32 bad), AV.hs (1 : Nat) (0 : Nat) (List.length l)]), some (Blk.arr (11 : Nat)
    (List.length (l ++ j)) (lsF Sh.c (l ++ j)))])) (Tree.leaf (Ans.mk (AV.v (Value.int IntKind.i64 (0 : Int))) [some (Blk.row [AV.v (Value.int IntKind.i64 f), AV.v (Value.int IntKind.u32
    bad), AV.hs (1 : Nat) (0 : Nat) (List.length l)]), some (Blk.arr (11 : Nat) (List.length (l ++ j)) (lsF Sh.c (l ++ j)))])))))) := by kernel_rfl
/-- a set's error: it may not be, or one does not count, or there are too few -/
inductive EnE (s le : Int) (st : St) (f bad : Int) (l : List Sh) : Int → Prop where
  | chk (h : checkF f s ≠ 0) : EnE s le st f bad l (checkF f s)
  | err (p : Nat) (h : checkF f s = 0) (h2 : p < pc s) (h3 : cAt s st f bad l p ≠ 0) (h4 : ∀ q, q < p → cAt s st f bad l q = 0) : EnE s le st f bad l (cAt s st f bad l p)
  | few (h : checkF f s = 0) (h4 : ∀ q, q < pc s → cAt s st f bad l q = 0) (h5 : (pc s : Int) < le) : EnE s le st f bad l 61
  | ok (h : checkF f s = 0) (h4 : ∀ q, q < pc s → cAt s st f bad l q = 0) (h5 : ¬ (pc s : Int) < le) : EnE s le st f bad l 0
theorem EnE.ex (s le : Int) (st : St) (f bad : Int) (l : List Sh) : ∃ e, EnE s le st f bad l e := by
  by_cases h : checkF f s = 0
  · by_cases h4 : ∀ q, q < pc s → cAt s st f bad l q = 0
    · by_cases h5 : (pc s : Int) < le
      · exact ⟨_, .few h h4 h5⟩
      · exact ⟨_, .ok h h4 h5⟩
    · have : ∃ p, p < pc s ∧ cAt s st f bad l p ≠ 0 := by
        refine Classical.byContradiction fun hn => h4 fun q hq => ?_
        refine Classical.byContradiction fun h6 => hn ⟨q, hq, h6⟩
      have key : ∀ n, (∃ p, p < n ∧ cAt s st f bad l p ≠ 0) → ∃ p, p < n ∧ cAt s st f bad l p ≠ 0 ∧ ∀ q, q < p → cAt s st f bad l q = 0 := by
        intro n
        induction n with
        | zero => exact fun ⟨p, hp, _⟩ => absurd hp (Nat.not_lt_zero _)
        | succ n ih =>
          intro ⟨p, hp, hc⟩
          by_cases hn : ∃ p, p < n ∧ cAt s st f bad l p ≠ 0
          · obtain ⟨p', a1, a2, a3⟩ := ih hn
            exact ⟨p', by omega, a2, a3⟩
          · refine ⟨p, hp, hc, fun q hq => Classical.byContradiction fun h6 => hn ⟨q, by omega, h6⟩⟩
      obtain ⟨p, a1, a2, a3⟩ := key _ this
      exact ⟨_, .err p h a1 a2 a3⟩
  · exact ⟨_, .chk h⟩
theorem ansAll {s e : Int} {st : St} {f bad : Int} {l j : List Sh} (hu : inU32 s = true) (hb : inU32 bad = true) (h : EnE s 0 st f bad l e) : Answers Tryd.prog Γc 39 [.ptr 0 0, .agg st.c, .v (.int .u32 s)] (SH f bad l j) (.v (.int .i64 e)) ((SH f bad l j).map some) [] := by
  cases h with
  | chk h => exact ansAllChk hu h
  | err p h h2 h3 h4 => exact ansAllErr hu hb h h2 h3 h4
  | few h h4 h5 => omega
  | ok h h4 h5 => exact ansAllOk hu hb h h4
theorem ansEnough {s le e : Int} {st : St} {f bad : Int} {l j : List Sh} (hu : inU32 s = true) (hb : inU32 bad = true) (h : EnE s le st f bad l e) : Answers Tryd.prog Γc 29 (A17 s le st) (SH f bad l j) (.v (.int .i64 e)) ((SH f bad l j).map some) [] := by
  cases h with
  | chk h =>
    have hA := ansAllChk (st := st) (bad := bad) (l := l) (j := j) hu h
    exact answers (fn := Tryd.f29) (c := bodyOf Tryd.f29) (ntmps := 21) (results := [.tmp 8]) [CT.at 39 hA, CoQ.c10] Lno false Tryd.func29 (by kernel_rfl) (by kernel_rfl) (by kernel_rfl) (by kernel_rfl) (by simp) rfl (noLoops (by kernel_rfl)) <| Meets.of (run12 s le (checkF f s) st f bad l j hA) <| by
      simp only [or_true, true_or, false_or, or_false, and_false, false_and, cond_true, cond_false, Bool.not_true, Bool.not_false, Bool.false_eq_true, Bool.true_eq_false, not_true_eq_false, not_false_eq_true, false_implies, true_implies, implies_true, Nat.blt_eq, owesN, owesX, owesR, notT, sat_brT, sat_brF, sat_chkT, cl_iff, cl_false, AV.le_refl, AV.le_any, OLe_refl, OLe_none, sat_brN, Tree.sat_chk, Tree.sat_leaf, Tree.sat_fail, Nat.zero_add, Nat.sub_zero, Int.toNat_natCast, LeH_cons, LeH_nil, LeL_cons, LeL_nil, and_true, true_and, Bool.and_eq_true, Bool.or_eq_true, decide_eq_true_eq, decide_eq_false_iff_not, Bool.cond_true_left, Bool.cond_false_right, List.cons_append, List.nil_append, List.map_cons, List.map_nil, hu, h]
      repeat' (first | apply And.intro | intro _hc)
      all_goals first | omega | contradiction | exact AV.le_refl _ | exact AV.le_any _ | exact OLe.refl _ | exact OLe.none _ | exact LeH.refl _ | exact LeL.refl _ | exact AV.le.bs _ | exact AV.le.sb _ | (exfalso; omega) | contradiction
  | err p h h2 h3 h4 =>
    have hA := ansAllErr (j := j) hu hb h h2 h3 h4
    exact answers (fn := Tryd.f29) (c := bodyOf Tryd.f29) (ntmps := 21) (results := [.tmp 8]) [CT.at 39 hA, CoQ.c10] Lno false Tryd.func29 (by kernel_rfl) (by kernel_rfl) (by kernel_rfl) (by kernel_rfl) (by simp) rfl (noLoops (by kernel_rfl)) <| Meets.of (run12 s le (cAt s st f bad l p) st f bad l j hA) <| by
      simp only [or_true, true_or, false_or, or_false, and_false, false_and, cond_true, cond_false, Bool.not_true, Bool.not_false, Bool.false_eq_true, Bool.true_eq_false, not_true_eq_false, not_false_eq_true, false_implies, true_implies, implies_true, Nat.blt_eq, owesN, owesX, owesR, notT, sat_brT, sat_brF, sat_chkT, cl_iff, cl_false, AV.le_refl, AV.le_any, OLe_refl, OLe_none, sat_brN, Tree.sat_chk, Tree.sat_leaf, Tree.sat_fail, Nat.zero_add, Nat.sub_zero, Int.toNat_natCast, LeH_cons, LeH_nil, LeL_cons, LeL_nil, and_true, true_and, Bool.and_eq_true, Bool.or_eq_true, decide_eq_true_eq, decide_eq_false_iff_not, Bool.cond_true_left, Bool.cond_false_right, List.cons_append, List.nil_append, List.map_cons, List.map_nil, hu, h3]
      repeat' (first | apply And.intro | intro _hc)
      all_goals first | omega | contradiction | exact AV.le_refl _ | exact AV.le_any _ | exact OLe.refl _ | exact OLe.none _ | exact LeH.refl _ | exact LeL.refl _ | exact AV.le.bs _ | exact AV.le.sb _ | (exfalso; omega) | contradiction
  | few h h4 h5 =>
    have hA := ansAllOk (j := j) hu hb h h4
    exact answers (fn := Tryd.f29) (c := bodyOf Tryd.f29) (ntmps := 21) (results := [.tmp 8]) [CT.at 39 hA, CoQ.c10] Lno false Tryd.func29 (by kernel_rfl) (by kernel_rfl) (by kernel_rfl) (by kernel_rfl) (by simp) rfl (noLoops (by kernel_rfl)) <| Meets.of (run12 s le 0 st f bad l j hA) <| by
      simp only [or_true, true_or, false_or, or_false, and_false, false_and, cond_true, cond_false, Bool.not_true, Bool.not_false, Bool.false_eq_true, Bool.true_eq_false, not_true_eq_false, not_false_eq_true, false_implies, true_implies, implies_true, Nat.blt_eq, owesN, owesX, owesR, notT, sat_brT, sat_brF, sat_chkT, cl_iff, cl_false, AV.le_refl, AV.le_any, OLe_refl, OLe_none, sat_brN, Tree.sat_chk, Tree.sat_leaf, Tree.sat_fail, Nat.zero_add, Nat.sub_zero, Int.toNat_natCast, LeH_cons, LeH_nil, LeL_cons, LeL_nil, and_true, true_and, Bool.and_eq_true, Bool.or_eq_true, decide_eq_true_eq, decide_eq_false_iff_not, Bool.cond_true_left, Bool.cond_false_right, List.cons_append, List.nil_append, List.map_cons, List.map_nil, hu, h5]
      repeat' (first | apply And.intro | intro _hc)
      all_goals first | omega | contradiction | exact AV.le_refl _ | exact AV.le_any _ | exact OLe.refl _ | exact OLe.none _ | exact LeH.refl _ | exact LeL.refl _ | exact AV.le.bs _ | exact AV.le.sb _ | (exfalso; omega) | contradiction
  | ok h h4 h5 =>
    have hA := ansAllOk (j := j) hu hb h h4
    exact answers (fn := Tryd.f29) (c := bodyOf Tryd.f29) (ntmps := 21) (results := [.tmp 8]) [CT.at 39 hA, CoQ.c10] Lno false Tryd.func29 (by kernel_rfl) (by kernel_rfl) (by kernel_rfl) (by kernel_rfl) (by simp) rfl (noLoops (by kernel_rfl)) <| Meets.of (run12 s le 0 st f bad l j hA) <| by
      simp only [or_true, true_or, false_or, or_false, and_false, false_and, cond_true, cond_false, Bool.not_true, Bool.not_false, Bool.false_eq_true, Bool.true_eq_false, not_true_eq_false, not_false_eq_true, false_implies, true_implies, implies_true, Nat.blt_eq, owesN, owesX, owesR, notT, sat_brT, sat_brF, sat_chkT, cl_iff, cl_false, AV.le_refl, AV.le_any, OLe_refl, OLe_none, sat_brN, Tree.sat_chk, Tree.sat_leaf, Tree.sat_fail, Nat.zero_add, Nat.sub_zero, Int.toNat_natCast, LeH_cons, LeH_nil, LeL_cons, LeL_nil, and_true, true_and, Bool.and_eq_true, Bool.or_eq_true, decide_eq_true_eq, decide_eq_false_iff_not, Bool.cond_true_left, Bool.cond_false_right, List.cons_append, List.nil_append, List.map_cons, List.map_nil, hu, h5]
      repeat' (first | apply And.intro | intro _hc)
      all_goals first | omega | contradiction | exact AV.le_refl _ | exact AV.le_any _ | exact OLe.refl _ | exact OLe.none _ | exact LeH.refl _ | exact LeL.refl _ | exact AV.le.bs _ | exact AV.le.sb _ | (exfalso; omega) | contradiction
theorem ansEnoughR {s le e : Int} {st : St} {f bad : Int} {l j : List Sh} (hu : inU32 s = true) (hb : inU32 bad = true) (hs : l.length ≤ 100000) (h : EnE s le st f bad l e) : Answers Tryd.prog Γc 32 (A17 s le st) (DH f bad l j) (.v (.int .i64 e)) ((DH f bad l j).map some) [] := by
  cases h with
  | chk h =>
    exact answers (fn := Tryd.f32) (c := bodyOf Tryd.f32) (ntmps := 44) (results := [.tmp 8]) [CoQ.c22, CoQ.c20] (Lno) false Tryd.func32 (by kernel_rfl) (by kernel_rfl) (by kernel_rfl) (by kernel_rfl) (by simp) rfl (failOK fun _ _ _ => rfl) <| Meets.of (run17c s le st f bad l j) <| by
      simp only [or_true, true_or, false_or, or_false, and_false, false_and, cond_true, cond_false, Bool.not_true, Bool.not_false, Bool.false_eq_true, Bool.true_eq_false, not_true_eq_false, not_false_eq_true, false_implies, true_implies, implies_true, Nat.blt_eq, owesN, owesX, owesR, notT, sat_brT, sat_brF, sat_chkT, cl_iff, cl_false, AV.le_refl, AV.le_any, OLe_refl, OLe_none, sat_brN, Tree.sat_chk, Tree.sat_leaf, Tree.sat_fail, Nat.zero_add, Nat.sub_zero, Int.toNat_natCast, LeH_cons, LeH_nil, LeL_cons, LeL_nil, and_true, true_and, Bool.and_eq_true, Bool.or_eq_true, decide_eq_true_eq, decide_eq_false_iff_not, Bool.cond_true_left, Bool.cond_false_right, List.cons_append, List.nil_append, List.map_cons, List.map_nil, hu, h]
      repeat' (first | apply And.intro | intro _hc)
      all_goals first | omega | contradiction | exact AV.le_refl _ | exact AV.le_any _ | exact OLe.refl _ | exact OLe.none _ | exact LeH.refl _ | exact LeL.refl _ | exact AV.le.bs _ | exact AV.le.sb _ | (exfalso; omega) | contradiction
  | err p h h2 h3 h4 =>
    exact answers (fn := Tryd.f32) (c := bodyOf Tryd.f32) (ntmps := 44) (results := [.tmp 8]) [CoQ.c22, CoQ.c20] (fun _ => LSpec.at [0, 2, 3, 5, 10, 11, 8] [] (S17 s le st f bad l j 0) (O17y s le st f bad l j (cAt s st f bad l p))) false Tryd.func32 (by kernel_rfl) (by kernel_rfl) (by kernel_rfl) (by kernel_rfl) (by simp) rfl (oneLoop (b := lp17) (by kernel_rfl) (loop17y hb hs h2 h3 h4 0 (Nat.zero_le _))) <| Meets.of (run17y s le (cAt s st f bad l p) st f bad l j) <| by
      simp only [or_true, true_or, false_or, or_false, and_false, false_and, cond_true, cond_false, Bool.not_true, Bool.not_false, Bool.false_eq_true, Bool.true_eq_false, not_true_eq_false, not_false_eq_true, false_implies, true_implies, implies_true, Nat.blt_eq, owesN, owesX, owesR, notT, sat_brT, sat_brF, sat_chkT, cl_iff, cl_false, AV.le_refl, AV.le_any, OLe_refl, OLe_none, sat_brN, Tree.sat_chk, Tree.sat_leaf, Tree.sat_fail, Nat.zero_add, Nat.sub_zero, Int.toNat_natCast, LeH_cons, LeH_nil, LeL_cons, LeL_nil, and_true, true_and, Bool.and_eq_true, Bool.or_eq_true, decide_eq_true_eq, decide_eq_false_iff_not, Bool.cond_true_left, Bool.cond_false_right, List.cons_append, List.nil_append, List.map_cons, List.map_nil, hu, h]
      repeat' (first | apply And.intro | intro _hc)
      all_goals first | omega | contradiction | exact AV.le_refl _ | exact AV.le_any _ | exact OLe.refl _ | exact OLe.none _ | exact LeH.refl _ | exact LeL.refl _ | exact AV.le.bs _ | exact AV.le.sb _ | (exfalso; omega) | contradiction
  | few h h4 h5 =>
    exact answers (fn := Tryd.f32) (c := bodyOf Tryd.f32) (ntmps := 44) (results := [.tmp 8]) [CoQ.c22, CoQ.c20] (fun _ => LSpec.at [0, 2, 3, 5, 10, 11, 8] [] (S17 s le st f bad l j 0) (O17n s le st f bad l j)) false Tryd.func32 (by kernel_rfl) (by kernel_rfl) (by kernel_rfl) (by kernel_rfl) (by simp) rfl (oneLoop (b := lp17) (by kernel_rfl) (loop17n hb hs h4 0 (Nat.zero_le _))) <| Meets.of (run17n s le st f bad l j) <| by
      simp only [or_true, true_or, false_or, or_false, and_false, false_and, cond_true, cond_false, Bool.not_true, Bool.not_false, Bool.false_eq_true, Bool.true_eq_false, not_true_eq_false, not_false_eq_true, false_implies, true_implies, implies_true, Nat.blt_eq, owesN, owesX, owesR, notT, sat_brT, sat_brF, sat_chkT, cl_iff, cl_false, AV.le_refl, AV.le_any, OLe_refl, OLe_none, sat_brN, Tree.sat_chk, Tree.sat_leaf, Tree.sat_fail, Nat.zero_add, Nat.sub_zero, Int.toNat_natCast, LeH_cons, LeH_nil, LeL_cons, LeL_nil, and_true, true_and, Bool.and_eq_true, Bool.or_eq_true, decide_eq_true_eq, decide_eq_false_iff_not, Bool.cond_true_left, Bool.cond_false_right, List.cons_append, List.nil_append, List.map_cons, List.map_nil, hu, h, h5]
      repeat' (first | apply And.intro | intro _hc)
      all_goals first | omega | contradiction | exact AV.le_refl _ | exact AV.le_any _ | exact OLe.refl _ | exact OLe.none _ | exact LeH.refl _ | exact LeL.refl _ | exact AV.le.bs _ | exact AV.le.sb _ | (exfalso; omega) | contradiction
  | ok h h4 h5 =>
    exact answers (fn := Tryd.f32) (c := bodyOf Tryd.f32) (ntmps := 44) (results := [.tmp 8]) [CoQ.c22, CoQ.c20] (fun _ => LSpec.at [0, 2, 3, 5, 10, 11, 8] [] (S17 s le st f bad l j 0) (O17n s le st f bad l j)) false Tryd.func32 (by kernel_rfl) (by kernel_rfl) (by kernel_rfl) (by kernel_rfl) (by simp) rfl (oneLoop (b := lp17) (by kernel_rfl) (loop17n hb hs h4 0 (Nat.zero_le _))) <| Meets.of (run17n s le st f bad l j) <| by
      simp only [or_true, true_or, false_or, or_false, and_false, false_and, cond_true, cond_false, Bool.not_true, Bool.not_false, Bool.false_eq_true, Bool.true_eq_false, not_true_eq_false, not_false_eq_true, false_implies, true_implies, implies_true, Nat.blt_eq, owesN, owesX, owesR, notT, sat_brT, sat_brF, sat_chkT, cl_iff, cl_false, AV.le_refl, AV.le_any, OLe_refl, OLe_none, sat_brN, Tree.sat_chk, Tree.sat_leaf, Tree.sat_fail, Nat.zero_add, Nat.sub_zero, Int.toNat_natCast, LeH_cons, LeH_nil, LeL_cons, LeL_nil, and_true, true_and, Bool.and_eq_true, Bool.or_eq_true, decide_eq_true_eq, decide_eq_false_iff_not, Bool.cond_true_left, Bool.cond_false_right, List.cons_append, List.nil_append, List.map_cons, List.map_nil, hu, h, h5]
      repeat' (first | apply And.intro | intro _hc)
      all_goals first | omega | contradiction | exact AV.le_refl _ | exact AV.le_any _ | exact OLe.refl _ | exact OLe.none _ | exact LeH.refl _ | exact LeL.refl _ | exact AV.le.bs _ | exact AV.le.sb _ | (exfalso; omega) | contradiction
end Go.Eng.Co

/- A call with a nil slice in a row: from what it does where the slice has a block of its own. -/
namespace Go.Eng
open Go
set_option linter.unusedSimpArgs false
set_option linter.unusedVariables false
section
variable {P : Program} {Γ : Nat → AV}
theorem getHmap (l : List Blk) (k : Nat) : getH (l.map some) k = l[k]? := by
  unfold getH
  rw [List.getElem?_map]
  cases l[k]? <;> rfl
theorem Contract.box {f : FuncId} {args : List AV} {Hin : List Blk} {i c sz : Nat} {cs : List AV} {g : Nat → List AV} {r r' : Res} (hg : Hin[i]? = some (.row cs)) (hc : cs[c]? = some (.v (.slice none 0 0))) (hz : ∀ e, (g e).length = sz)
    (h : Contract P Γ f args (Hin.set i (.row (cs.set c (.hs Hin.length 0 0))) ++ [.arr sz 0 g]) r) (hv : r'.val = r.val) (hh : r'.heap Hin = r.heap (Hin.set i (.row (cs.set c (.hs Hin.length 0 0))) ++ [.arr sz 0 g])) :
    Contract P Γ f args Hin r' := by
  intro σ φ w vals hG hV hn hR
  have hnb := hn Hin.length (Nat.le_refl _)
  let L0 : Lc := ⟨0, 0, sz, 0, 0, true⟩
  have hle := fresh_le hnb L0
  have hB : (fun b => ∃ k L, φ k = some L ∧ L.virt = false ∧ L.b = b) = (fun b => ∃ k L, fresh φ Hin.length L0 k = some L ∧ L.virt = false ∧ L.b = b) := by
    funext b
    refine propext ⟨fun ⟨k, L, h1, h2, h3⟩ => ⟨k, L, hle k L h1, h2, h3⟩, fun ⟨k, L, h1, h2, h3⟩ => ?_⟩
    by_cases e : k = Hin.length
    · subst e
      rw [fresh_at] at h1
      cases h1
      simp [L0] at h2
    · simp only [fresh, e, if_false] at h1
      exact ⟨k, L, h1, h2, h3⟩
  have hR1 := hR.virtual (L := L0) hnb rfl (some (.arr sz 0 g)) (fun b' hb' => by simp at hb'; subst hb'; exact hz) (fun _ _ _ h' => by cases h'; rfl)
  have hg1 : updG (getH (Hin.map some)) Hin.length (some (Blk.arr sz 0 g)) = getH (Hin.map some ++ [some (Blk.arr sz 0 g)]) := by
    have := fun j => getH_append (H := Hin.map some) (bs := [Blk.arr sz 0 g]) (k := j)
    funext j
    have h1 := this j
    rw [List.length_map] at h1
    exact h1.symm
  rw [hg1] at hR1
  have hil : i < Hin.length := (List.getElem?_eq_some_iff.1 hg).1
  have hg2 : getH (Hin.map some ++ [some (Blk.arr sz 0 g)]) i = some (.row cs) := by
    rw [← hg1]
    have : i ≠ Hin.length := by omega
    simp only [updG, this, if_false]
    rw [getHmap, hg]
  have hR2 := hR1.setRow (x' := .hs Hin.length 0 0) hg2 hc (fun y hy => by
    have := hy.v_eq
    subst this
    exact .hsnil none fresh_at (Nat.le_refl 0) rfl)
  have hH : (Hin.map some ++ [some (Blk.arr sz 0 g)]).set i (some (.row (cs.set c (.hs Hin.length 0 0)))) = (Hin.set i (.row (cs.set c (.hs Hin.length 0 0))) ++ [Blk.arr sz 0 g]).map some := by
    rw [List.set_append_left _ _ (by simpa using hil), List.map_append, List.map_set]
    rfl
  rw [hH] at hR2
  have hlen : (Hin.set i (.row (cs.set c (.hs Hin.length 0 0))) ++ [Blk.arr sz 0 g]).length = Hin.length + 1 := by simp
  rw [hB] at hR2 ⊢
  refine (h σ (fresh φ Hin.length L0) w vals hG ⟨hV.1, fun j a y ha hy => (hV.2 j a y ha hy).mono (Store.le_refl σ) hle⟩ (fun k hk => ?_) hR2).mono fun e w' ⟨σ', φ', v, e1, e2, e3, e4, e5⟩ => ⟨σ', φ', v, e1, by rw [hv]; exact e2, by rw [hh]; exact e3, fun k hk => ?_, by rw [hh]; exact e5⟩
  · rw [hlen] at hk
    have : k ≠ Hin.length := by omega
    simp only [fresh, this, if_false]
    exact hn k (by omega)
  · rw [e4 k (by rw [hlen]; omega)]
    have : k ≠ Hin.length := by omega
    simp only [fresh, this, if_false]
theorem Answers.box {f : FuncId} {args : List AV} {Hin : List Blk} (i c : Nat) {sz : Nat} {cs : List AV} {g : Nat → List AV} {v : AV} {H1 : List (Option Blk)} {b : Blk} {new : List Blk} (hg : Hin[i]? = some (.row cs)) (hc : cs[c]? = some (.v (.slice none 0 0))) (hz : ∀ e, (g e).length = sz) (hl : H1.length = Hin.length)
    (h : Answers P Γ f args (Hin.set i (.row (cs.set c (.hs Hin.length 0 0))) ++ [.arr sz 0 g]) v (H1 ++ [some b]) new) : Answers P Γ f args Hin v H1 (b :: new) where
  len := hl
  enters := h.enters
  ok := h.ok.box hg hc hz rfl (by
    show outOf Hin (H1.map some) ++ _ = outOf _ ((H1 ++ [some b]).map some) ++ _
    rw [outOf_all _ _ hl, outOf_all _ _ (by simp [hl])]
    simp)
end
section
open Go.ChangeShapes Go.RowKit
variable {H : Type} {enc : TypeId × Value → H} {P : Program} {w : World} {base : Nat} {spare : Nat → Bool} {held : Bool}
theorem trodAll_five {t0 t1 t2 t3 t4 : TypeId} {args : Array Value} {ds : List (DataW H)} {ps : List MemPlace} (h : DataW.TrodAll enc P w base spare held [t0, t1, t2, t3, t4] args.toList ds ps) :
    ∃ v0 v1 v2 v3 v4 d0 d1 d2 d3 d4 p0 p1 p2 p3 p4, args = #[v0, v1, v2, v3, v4] ∧ ds = [d0, d1, d2, d3, d4] ∧ ps = p0 ++ p1 ++ p2 ++ p3 ++ p4 ∧ DataW.Trod enc P w base spare held t0 v0 d0 p0 ∧ DataW.Trod enc P w base spare held t1 v1 d1 p1 ∧
      DataW.Trod enc P w base spare held t2 v2 d2 p2 ∧ DataW.Trod enc P w base spare held t3 v3 d3 p3 ∧ DataW.Trod enc P w base spare held t4 v4 d4 p4 := by
  obtain ⟨v0, s0, d0, e0, p0, q0, hargs, rfl, rfl, h0, r0⟩ := trodAll_cons h
  obtain ⟨v1, s1, d1, e1, p1, q1, rfl, rfl, rfl, h1, r1⟩ := trodAll_cons r0
  obtain ⟨v2, s2, d2, e2, p2, q2, rfl, rfl, rfl, h2, r2⟩ := trodAll_cons r1
  obtain ⟨v3, s3, d3, e3, p3, q3, rfl, rfl, rfl, h3, r3⟩ := trodAll_cons r2
  obtain ⟨v4, s4, d4, e4, p4, q4, rfl, rfl, rfl, h4, r4⟩ := trodAll_cons r3
  obtain ⟨rfl, rfl, rfl⟩ := trodAll_nil r4
  exact ⟨v0, v1, v2, v3, v4, d0, d1, d2, d3, d4, p0, p1, p2, p3, p4, by cases args; simp_all, rfl, by simp, h0, h1, h2, h3, h4⟩
end
end Go.Eng

/- coin: what each call does. -/
namespace Go.Eng.Co
open Go Go.Eng Go.Eng.M Go.Proofs
set_option linter.unusedSimpArgs false
set_option linter.unusedVariables false
def I64.c (n : Int) : List AV := [.v (.int .i64 n)]
theorem I64.cod : Cod I64.c 1 := ⟨fun _ => rfl, fun b x y => by cases b <;> rfl⟩
def gvB (gv : List Sh) (v : Int) : Bool := gv.any fun g => decide (g.st.v = v)
def snB (sn : List Int) (v : Int) : Bool := sn.any fun w => decide (w = v)
def whoV (f : Int) (gv : List Sh) (v : Int) : Int := match gv.find? fun g => decide (g.st.v = v) with
  | some g => g.s
  | none => leadF f v
def hasC (gv : List Sh) (sn : List Int) (k : List KC) : Bool := match k with
  | [.i v] => gvB gv v || snB sn v
  | _ => false
def valC (f : Int) (gv : List Sh) (sn : List Int) (k : List KC) : List AV := match k with
  | [.i v] => [.v (.int .i64 (whoV f gv v)), .sb (gvB gv v), .sb (snB sn v)]
  | _ => [.any, .any, .any]
def coR (i : Nat) (f : Int) : Blk := .row [.v (.int .i64 f), .map i]
def coM (f : Int) (gv : List Sh) (sn : List Int) (n : Nat) : Blk := .mp [.int .i64] false true n (hasC gv sn) (valC f gv sn)
abbrev CH (f : Int) (gv : List Sh) (sn : List Int) (n : Nat) : List Blk := [coR 1 f, coM f gv sn n]
noncomputable def k25 : CT Tryd.prog Γc := CT.auto false 100 3 [] 25 Tryd.f25 (bodyOf Tryd.f25) false 15 [.tmp 4] Tryd.func25 (by kernel_rfl) (by kernel_rfl) (by kernel_rfl) (by kernel_rfl)
noncomputable def k28 : CT Tryd.prog Γc := CT.auto false 100 3 [] 28 Tryd.f28 (bodyOf Tryd.f28) false 9 [.tmp 2] Tryd.func28 (by kernel_rfl) (by kernel_rfl) (by kernel_rfl) (by kernel_rfl)
noncomputable def k15 : CT Tryd.prog Γc := CT.auto false 100 3 [] 15 Tryd.f15 (bodyOf Tryd.f15) false 5 [.cell 2 50] Tryd.func15 (by kernel_rfl) (by kernel_rfl) (by kernel_rfl) (by kernel_rfl)
noncomputable def k18 : CT Tryd.prog Γc := CT.auto false 100 3 [] 18 Tryd.f18 (bodyOf Tryd.f18) false 16 [.tmp 4] Tryd.func18 (by kernel_rfl) (by kernel_rfl) (by kernel_rfl) (by kernel_rfl)
/-- what a view's coin says -/
def stC (v : Int) : St := ⟨5, 0, v, 0, 0, 0, 0, 0, 0, 0⟩
theorem runCho (v w f : Int) (gv : List Sh) (sn : List Int) (n : Nat) : bodyE (P := Tryd.prog) (Γ := Γc) [k25, CoQ.c8] Lno false 47 [.tmp 6] (bodyOf Tryd.f11) [.ptr 0 0, .v (.int .i64 v), .v (.int .i64 w)] (CH f gv sn n) =
  Tree.br (bif decide (v < (1 : Int)) then true else decide ((1048576 : Int) < v)) (Tree.br true (Tree.leaf (Ans.mk (AV.v (Value.int IntKind.i64 (70 : Int))) [some (Blk.row [AV.v (Value.int
    IntKind.i64 f), AV.map (1 : Nat)]), some (Blk.mp [Cel.int IntKind.i64] false true n (hasC gv sn) (valC f gv sn))])) (Tree.br (hasC gv sn [KC.i v]) (Tree.chk (bif decide (w < (0 : Int))
    then true else true) (Tree.br (bif decide (w < (0 : Int)) then true else decide (timesF (3 : Int) f ≤ w)) (Tree.leaf (Ans.mk (AV.v (Value.int IntKind.i64 (40 : Int))) [some (Blk.row
    [AV.v (Value.int IntKind.i64 f), AV.map (1 : Nat)]), some (Blk.mp [Cel.int IntKind.i64] false true n (hasC gv sn) (valC f gv sn))])) (Tree.br (bif gvB gv v then true else snB sn v)
    (Tree.leaf (Ans.mk (AV.v (Value.int IntKind.i64 (100 : Int))) [some (Blk.row [AV.v (Value.int IntKind.i64 f), AV.map (1 : Nat)]), some (Blk.mp [Cel.int IntKind.i64] false true n (hasC gv
    sn) (valC f gv sn))])) (Tree.leaf (Ans.mk (AV.v (Value.int IntKind.i64 (0 : Int))) [some (Blk.row [AV.v (Value.int IntKind.i64 f), AV.map (1 : Nat)]), some (Blk.mp [Cel.int IntKind.i64]
    false true (bif hasC gv sn [KC.i v] then n else n + (1 : Nat)) (fun p => eqK p [KC.i v] || hasC gv sn p) fun p => eitherL (eqK p [KC.i v]) [AV.v (Value.int IntKind.i64 w), AV.v
    (Value.bool true), AV.v (Value.bool false)] (valC f gv sn p))]))))) (Tree.chk (bif decide (w < (0 : Int)) then true else true) (Tree.br (bif decide (w < (0 : Int)) then true else decide
    (timesF (3 : Int) f ≤ w)) (Tree.leaf (Ans.mk (AV.v (Value.int IntKind.i64 (40 : Int))) [some (Blk.row [AV.v (Value.int IntKind.i64 f), AV.map (1 : Nat)]), some (Blk.mp [Cel.int
    IntKind.i64] false true n (hasC gv sn) (valC f gv sn))])) (Tree.leaf (Ans.mk (AV.v (Value.int IntKind.i64 (0 : Int))) [some (Blk.row [AV.v (Value.int IntKind.i64 f), AV.map (1 : Nat)]),
    some (Blk.mp [Cel.int IntKind.i64] false true (bif hasC gv sn [KC.i v] then n else n + (1 : Nat)) (fun p => eqK p [KC.i v] || hasC gv sn p) fun p => eitherL (eqK p [KC.i v]) [AV.v
    (Value.int IntKind.i64 w), AV.v (Value.bool true), AV.v (Value.bool false)] (valC f gv sn p))])))))) (Tree.br false (Tree.leaf (Ans.mk (AV.v (Value.int IntKind.i64 (0 : Int))) [some
    (Blk.row [AV.v (Value.int IntKind.i64 f), AV.map (1 : Nat)]), some (Blk.mp [Cel.int IntKind.i64] false true n (hasC gv sn) (valC f gv sn))])) (Tree.br (hasC gv sn [KC.i v]) (Tree.chk
    (bif decide (w < (0 : Int)) then true else true) (Tree.br (bif decide (w < (0 : Int)) then true else decide (timesF (3 : Int) f ≤ w)) (Tree.leaf (Ans.mk (AV.v (Value.int IntKind.i64 (40
    : Int))) [some (Blk.row [AV.v (Value.int IntKind.i64 f), AV.map (1 : Nat)]), some (Blk.mp [Cel.int IntKind.i64] false true n (hasC gv sn) (valC f gv sn))])) (Tree.br (bif gvB gv v then
    true else snB sn v) (Tree.leaf (Ans.mk (AV.v (Value.int IntKind.i64 (100 : Int))) [some (Blk.row [AV.v (Value.int IntKind.i64 f), AV.map (1 : Nat)]), some (Blk.mp [Cel.int IntKind.i64]
    false true n (hasC gv sn) (valC f gv sn))])) (Tree.leaf (Ans.mk (AV.v (Value.int IntKind.i64 (0 : Int))) [some (Blk.row [AV.v (Value.int IntKind.i64 f), AV.map (1 : Nat)]), some (Blk.mp
    [Cel.int IntKind.i64] false true (bif hasC gv sn [KC.i v] then n else n + (1 : Nat)) (fun p => eqK p [KC.i v] || hasC gv sn p) fun p => eitherL (eqK p [KC.i v]) [AV.v (Value.int
    IntKind.i64 w), AV.v (Value.bool true), AV.v (Value.bool false)] (valC f gv sn p))]))))) (Tree.chk (bif decide (w < (0 : Int)) then true else true) (Tree.br (bif decide (w < (0 : Int))
    then true else decide (timesF (3 : Int) f ≤ w)) (Tree.leaf (Ans.mk (AV.v (Value.int IntKind.i64 (40 : Int))) [some (Blk.row [AV.v (Value.int IntKind.i64 f), AV.map (1 : Nat)]), some
    (Blk.mp [Cel.int IntKind.i64] false true n (hasC gv sn) (valC f gv sn))])) (Tree.leaf (Ans.mk (AV.v (Value.int IntKind.i64 (0 : Int))) [some (Blk.row [AV.v (Value.int IntKind.i64 f),
    AV.map (1 : Nat)]), some (Blk.mp [Cel.int IntKind.i64] false true (bif hasC gv sn [KC.i v] then n else n + (1 : Nat)) (fun p => eqK p [KC.i v] || hasC gv sn p) fun p => eitherL (eqK p
    [KC.i v]) [AV.v (Value.int IntKind.i64 w), AV.v (Value.bool true), AV.v (Value.bool false)] (valC f gv sn p))])))))) := by kernel_rfl
theorem runSeen (v f : Int) (gv : List Sh) (sn : List Int) (n : Nat) : bodyE (P := Tryd.prog) (Γ := Γc) [] Lno false 16 [.tmp 4] (bodyOf Tryd.f18) [.ptr 0 0, .v (.int .i64 v)] (CH f gv sn n) =
  Tree.leaf (Ans.mk (AV.sb (bif hasC gv sn [KC.i v] then snB sn v else false)) [some (Blk.row [AV.v (Value.int IntKind.i64 f), AV.map (1 : Nat)]), some (Blk.mp [Cel.int IntKind.i64] false true
    n (hasC gv sn) (valC f gv sn))]) := by kernel_rfl
theorem runSee0 (v s f o bad : Int) (gv : List Sh) (sn : List Int) (n : Nat) (l j : List Sh) : bodyE (P := Tryd.prog) (Γ := Γc) [k25, k28] Lno false 68 [.tmp 8, .tmp 9] (bodyOf Tryd.f13) [.ptr 0 0, .ptr 2 0, .v (.int .i64 v), .v (.int .u32 s)] (CH f gv sn n ++ [sgR 3 4 o bad l.length, sgM l, shB (l ++ j)]) =
  Tree.br (bif decide (v < (1 : Int)) then true else decide ((1048576 : Int) < v)) (Tree.br true (Tree.leaf (Ans.mk (AV.tup [AV.v (Value.int IntKind.i64 (0 : Int)), AV.v (Value.int IntKind.i64
    (70 : Int))]) [some (Blk.row [AV.v (Value.int IntKind.i64 f), AV.map (1 : Nat)]), some (Blk.mp [Cel.int IntKind.i64] false true n (hasC gv sn) (valC f gv sn)), some (Blk.row [AV.v
    (Value.int IntKind.i64 o), AV.v (Value.int IntKind.u32 bad), AV.map (3 : Nat), AV.hs (4 : Nat) (0 : Nat) (List.length l)]), some (Blk.mp [Cel.int IntKind.i64, Cel.int IntKind.i64,
    Cel.int IntKind.i64, Cel.int IntKind.i64, Cel.int IntKind.i64, Cel.int IntKind.i64, Cel.int IntKind.i64, Cel.int IntKind.i64, Cel.int IntKind.i64, Cel.int IntKind.i64, Cel.int
    IntKind.i64] true false (List.length l) (hasS l) anyV), some (Blk.arr (11 : Nat) (List.length (l ++ j)) (lsF Sh.c (l ++ j)))])) (Tree.br (!decide (o = f)) (Tree.leaf (Ans.mk (AV.tup
    [AV.v (Value.int IntKind.i64 (0 : Int)), AV.v (Value.int IntKind.i64 (1 : Int))]) [some (Blk.row [AV.v (Value.int IntKind.i64 f), AV.map (1 : Nat)]), some (Blk.mp [Cel.int IntKind.i64]
    false true n (hasC gv sn) (valC f gv sn)), some (Blk.row [AV.v (Value.int IntKind.i64 o), AV.v (Value.int IntKind.u32 bad), AV.map (3 : Nat), AV.hs (4 : Nat) (0 : Nat) (List.length l)]),
    some (Blk.mp [Cel.int IntKind.i64, Cel.int IntKind.i64, Cel.int IntKind.i64, Cel.int IntKind.i64, Cel.int IntKind.i64, Cel.int IntKind.i64, Cel.int IntKind.i64, Cel.int IntKind.i64,
    Cel.int IntKind.i64, Cel.int IntKind.i64, Cel.int IntKind.i64] true false (List.length l) (hasS l) anyV), some (Blk.arr (11 : Nat) (List.length (l ++ j)) (lsF Sh.c (l ++ j)))]))
    Tree.fail)) (Tree.br false (Tree.leaf (Ans.mk (AV.tup [AV.v (Value.int IntKind.i64 (0 : Int)), AV.v (Value.int IntKind.i64 (0 : Int))]) [some (Blk.row [AV.v (Value.int IntKind.i64 f),
    AV.map (1 : Nat)]), some (Blk.mp [Cel.int IntKind.i64] false true n (hasC gv sn) (valC f gv sn)), some (Blk.row [AV.v (Value.int IntKind.i64 o), AV.v (Value.int IntKind.u32 bad), AV.map
    (3 : Nat), AV.hs (4 : Nat) (0 : Nat) (List.length l)]), some (Blk.mp [Cel.int IntKind.i64, Cel.int IntKind.i64, Cel.int IntKind.i64, Cel.int IntKind.i64, Cel.int IntKind.i64, Cel.int
    IntKind.i64, Cel.int IntKind.i64, Cel.int IntKind.i64, Cel.int IntKind.i64, Cel.int IntKind.i64, Cel.int IntKind.i64] true false (List.length l) (hasS l) anyV), some (Blk.arr (11 : Nat)
    (List.length (l ++ j)) (lsF Sh.c (l ++ j)))])) (Tree.br (!decide (o = f)) (Tree.leaf (Ans.mk (AV.tup [AV.v (Value.int IntKind.i64 (0 : Int)), AV.v (Value.int IntKind.i64 (1 : Int))])
    [some (Blk.row [AV.v (Value.int IntKind.i64 f), AV.map (1 : Nat)]), some (Blk.mp [Cel.int IntKind.i64] false true n (hasC gv sn) (valC f gv sn)), some (Blk.row [AV.v (Value.int
    IntKind.i64 o), AV.v (Value.int IntKind.u32 bad), AV.map (3 : Nat), AV.hs (4 : Nat) (0 : Nat) (List.length l)]), some (Blk.mp [Cel.int IntKind.i64, Cel.int IntKind.i64, Cel.int
    IntKind.i64, Cel.int IntKind.i64, Cel.int IntKind.i64, Cel.int IntKind.i64, Cel.int IntKind.i64, Cel.int IntKind.i64, Cel.int IntKind.i64, Cel.int IntKind.i64, Cel.int IntKind.i64] true
    false (List.length l) (hasS l) anyV), some (Blk.arr (11 : Nat) (List.length (l ++ j)) (lsF Sh.c (l ++ j)))])) Tree.fail)) := by kernel_rfl
theorem runSee (v s f e bad : Int) (gv : List Sh) (sn : List Int) (n : Nat) (l j : List Sh) (h : Answers Tryd.prog Γc 29 (A17 s (timesF 1 f) (stC v)) (SH f bad l j) (.v (.int .i64 e)) ((SH f bad l j).map some) []) : bodyE (P := Tryd.prog) (Γ := Γc) [k25, k28, k15, CoQ.c12, CoQ.c15, CT.at 29 h] Lno false 68 [.tmp 8, .tmp 9] (bodyOf Tryd.f13) [.ptr 0 0, .ptr 2 0, .v (.int .i64 v), .v (.int .u32 s)] (CH f gv sn n ++ [sgR 3 4 f bad l.length, sgM l, shB (l ++ j)]) =
  Tree.br (bif decide (v < (1 : Int)) then true else decide ((1048576 : Int) < v)) (Tree.br true (Tree.leaf (Ans.mk (AV.tup [AV.v (Value.int IntKind.i64 (0 : Int)), AV.v (Value.int IntKind.i64
    (70 : Int))]) [some (Blk.row [AV.v (Value.int IntKind.i64 f), AV.map (1 : Nat)]), some (Blk.mp [Cel.int IntKind.i64] false true n (hasC gv sn) (valC f gv sn)), some (Blk.row [AV.v
    (Value.int IntKind.i64 f), AV.v (Value.int IntKind.u32 bad), AV.map (3 : Nat), AV.hs (4 : Nat) (0 : Nat) (List.length l)]), some (Blk.mp [Cel.int IntKind.i64, Cel.int IntKind.i64,
    Cel.int IntKind.i64, Cel.int IntKind.i64, Cel.int IntKind.i64, Cel.int IntKind.i64, Cel.int IntKind.i64, Cel.int IntKind.i64, Cel.int IntKind.i64, Cel.int IntKind.i64, Cel.int
    IntKind.i64] true false (List.length l) (hasS l) anyV), some (Blk.arr (11 : Nat) (List.length (l ++ j)) (lsF Sh.c (l ++ j)))])) (Tree.br (!decide (f = f)) (Tree.leaf (Ans.mk (AV.tup
    [AV.v (Value.int IntKind.i64 (0 : Int)), AV.v (Value.int IntKind.i64 (1 : Int))]) [some (Blk.row [AV.v (Value.int IntKind.i64 f), AV.map (1 : Nat)]), some (Blk.mp [Cel.int IntKind.i64]
    false true n (hasC gv sn) (valC f gv sn)), some (Blk.row [AV.v (Value.int IntKind.i64 f), AV.v (Value.int IntKind.u32 bad), AV.map (3 : Nat), AV.hs (4 : Nat) (0 : Nat) (List.length l)]),
    some (Blk.mp [Cel.int IntKind.i64, Cel.int IntKind.i64, Cel.int IntKind.i64, Cel.int IntKind.i64, Cel.int IntKind.i64, Cel.int IntKind.i64, Cel.int IntKind.i64, Cel.int IntKind.i64,
    Cel.int IntKind.i64, Cel.int IntKind.i64, Cel.int IntKind.i64] true false (List.length l) (hasS l) anyV), some (Blk.arr (11 : Nat) (List.length (l ++ j)) (lsF Sh.c (l ++ j)))]))
    (Tree.chk true (Tree.chk (cl (LeL [AV.ptr (0 : Nat) (0 : Nat), AV.agg [AV.v (Value.int IntKind.i64 (5 : Int)), AV.v (Value.int IntKind.i64 (0 : Int)), AV.v (Value.int IntKind.i64 v),
    AV.v (Value.int IntKind.i64 (0 : Int)), AV.v (Value.int IntKind.i64 (0 : Int)), AV.v (Value.int IntKind.i64 (0 : Int)), AV.v (Value.int IntKind.i64 (0 : Int)), AV.v (Value.int
    IntKind.i64 (0 : Int)), AV.v (Value.int IntKind.i64 (0 : Int)), AV.v (Value.int IntKind.i64 (0 : Int))], AV.v (Value.int IntKind.u32 s), AV.v (Value.int IntKind.i64 (timesF (1 : Int)
    f))] [AV.ptr (0 : Nat) (0 : Nat), AV.agg [AV.v (Value.int IntKind.i64 (5 : Int)), AV.v (Value.int IntKind.i64 (0 : Int)), AV.v (Value.int IntKind.i64 v), AV.v (Value.int IntKind.i64 (0 :
    Int)), AV.v (Value.int IntKind.i64 (0 : Int)), AV.v (Value.int IntKind.i64 (0 : Int)), AV.v (Value.int IntKind.i64 (0 : Int)), AV.v (Value.int IntKind.i64 (0 : Int)), AV.v (Value.int
    IntKind.i64 (0 : Int)), AV.v (Value.int IntKind.i64 (0 : Int))], AV.v (Value.int IntKind.u32 s), AV.v (Value.int IntKind.i64 (timesF (1 : Int) f))] ∧ LeH [some (Blk.row [AV.v (Value.int
    IntKind.i64 f), AV.v (Value.int IntKind.u32 bad), AV.map (1 : Nat), AV.hs (2 : Nat) (0 : Nat) (List.length l)]), some (Blk.mp [Cel.int IntKind.i64, Cel.int IntKind.i64, Cel.int
    IntKind.i64, Cel.int IntKind.i64, Cel.int IntKind.i64, Cel.int IntKind.i64, Cel.int IntKind.i64, Cel.int IntKind.i64, Cel.int IntKind.i64, Cel.int IntKind.i64, Cel.int IntKind.i64] true
    false (List.length l) (hasS l) anyV), some (Blk.arr (11 : Nat) (List.length (l ++ j)) (lsF Sh.c (l ++ j)))] [some (Blk.row [AV.v (Value.int IntKind.i64 f), AV.v (Value.int IntKind.u32
    bad), AV.map (1 : Nat), AV.hs (2 : Nat) (0 : Nat) (List.length l)]), some (Blk.mp [Cel.int IntKind.i64, Cel.int IntKind.i64, Cel.int IntKind.i64, Cel.int IntKind.i64, Cel.int
    IntKind.i64, Cel.int IntKind.i64, Cel.int IntKind.i64, Cel.int IntKind.i64, Cel.int IntKind.i64, Cel.int IntKind.i64, Cel.int IntKind.i64] true false (List.length l) (hasS l) anyV), some
    (Blk.arr (11 : Nat) (List.length (l ++ j)) (lsF Sh.c (l ++ j)))])) (Tree.br (!decide (e = (0 : Int))) (Tree.leaf (Ans.mk (AV.tup [AV.v (Value.int IntKind.i64 (0 : Int)), AV.v (Value.int
    IntKind.i64 e)]) [some (Blk.row [AV.v (Value.int IntKind.i64 f), AV.map (1 : Nat)]), some (Blk.mp [Cel.int IntKind.i64] false true n (hasC gv sn) (valC f gv sn)), some (Blk.row [AV.v
    (Value.int IntKind.i64 f), AV.v (Value.int IntKind.u32 bad), AV.map (3 : Nat), AV.hs (4 : Nat) (0 : Nat) (List.length l)]), some (Blk.mp [Cel.int IntKind.i64, Cel.int IntKind.i64,
    Cel.int IntKind.i64, Cel.int IntKind.i64, Cel.int IntKind.i64, Cel.int IntKind.i64, Cel.int IntKind.i64, Cel.int IntKind.i64, Cel.int IntKind.i64, Cel.int IntKind.i64, Cel.int
    IntKind.i64] true false (List.length l) (hasS l) anyV), some (Blk.arr (11 : Nat) (List.length (l ++ j)) (lsF Sh.c (l ++ j)))])) (Tree.br (hasC gv sn [KC.i v]) (Tree.br (!gvB gv v)
    (Tree.chk true (Tree.leaf (Ans.mk (AV.tup [AV.v (Value.int IntKind.i64 (leadF f v)), AV.v (Value.int IntKind.i64 (0 : Int))]) [some (Blk.row [AV.v (Value.int IntKind.i64 f), AV.map (1 :
    Nat)]), some (Blk.mp [Cel.int IntKind.i64] false true (bif hasC gv sn [KC.i v] then n else n + (1 : Nat)) (fun p => eqK p [KC.i v] || hasC gv sn p) fun p => eitherL (eqK p [KC.i v])
    [AV.v (Value.int IntKind.i64 (leadF f v)), AV.sb (gvB gv v), AV.v (Value.bool true)] (valC f gv sn p)), some (Blk.row [AV.v (Value.int IntKind.i64 f), AV.v (Value.int IntKind.u32 bad),
    AV.map (3 : Nat), AV.hs (4 : Nat) (0 : Nat) (List.length l)]), some (Blk.mp [Cel.int IntKind.i64, Cel.int IntKind.i64, Cel.int IntKind.i64, Cel.int IntKind.i64, Cel.int IntKind.i64,
    Cel.int IntKind.i64, Cel.int IntKind.i64, Cel.int IntKind.i64, Cel.int IntKind.i64, Cel.int IntKind.i64, Cel.int IntKind.i64] true false (List.length l) (hasS l) anyV), some (Blk.arr (11
    : Nat) (List.length (l ++ j)) (lsF Sh.c (l ++ j)))]))) (Tree.leaf (Ans.mk (AV.tup [AV.v (Value.int IntKind.i64 (whoV f gv v)), AV.v (Value.int IntKind.i64 (0 : Int))]) [some (Blk.row
    [AV.v (Value.int IntKind.i64 f), AV.map (1 : Nat)]), some (Blk.mp [Cel.int IntKind.i64] false true (bif hasC gv sn [KC.i v] then n else n + (1 : Nat)) (fun p => eqK p [KC.i v] || hasC gv
    sn p) fun p => eitherL (eqK p [KC.i v]) [AV.v (Value.int IntKind.i64 (whoV f gv v)), AV.sb (gvB gv v), AV.v (Value.bool true)] (valC f gv sn p)), some (Blk.row [AV.v (Value.int
    IntKind.i64 f), AV.v (Value.int IntKind.u32 bad), AV.map (3 : Nat), AV.hs (4 : Nat) (0 : Nat) (List.length l)]), some (Blk.mp [Cel.int IntKind.i64, Cel.int IntKind.i64, Cel.int
    IntKind.i64, Cel.int IntKind.i64, Cel.int IntKind.i64, Cel.int IntKind.i64, Cel.int IntKind.i64, Cel.int IntKind.i64, Cel.int IntKind.i64, Cel.int IntKind.i64, Cel.int IntKind.i64] true
    false (List.length l) (hasS l) anyV), some (Blk.arr (11 : Nat) (List.length (l ++ j)) (lsF Sh.c (l ++ j)))]))) (Tree.chk true (Tree.leaf (Ans.mk (AV.tup [AV.v (Value.int IntKind.i64
    (leadF f v)), AV.v (Value.int IntKind.i64 (0 : Int))]) [some (Blk.row [AV.v (Value.int IntKind.i64 f), AV.map (1 : Nat)]), some (Blk.mp [Cel.int IntKind.i64] false true (bif hasC gv sn
    [KC.i v] then n else n + (1 : Nat)) (fun p => eqK p [KC.i v] || hasC gv sn p) fun p => eitherL (eqK p [KC.i v]) [AV.v (Value.int IntKind.i64 (leadF f v)), AV.v (Value.bool false), AV.v
    (Value.bool true)] (valC f gv sn p)), some (Blk.row [AV.v (Value.int IntKind.i64 f), AV.v (Value.int IntKind.u32 bad), AV.map (3 : Nat), AV.hs (4 : Nat) (0 : Nat) (List.length l)]), some
    (Blk.mp [Cel.int IntKind.i64, Cel.int IntKind.i64, Cel.int IntKind.i64, Cel.int IntKind.i64, Cel.int IntKind.i64, Cel.int IntKind.i64, Cel.int IntKind.i64, Cel.int IntKind.i64, Cel.int
    IntKind.i64, Cel.int IntKind.i64, Cel.int IntKind.i64] true false (List.length l) (hasS l) anyV), some (Blk.arr (11 : Nat) (List.length (l ++ j)) (lsF Sh.c (l ++ j)))]))))))))) (Tree.br
    false (Tree.leaf (Ans.mk (AV.tup [AV.v (Value.int IntKind.i64 (0 : Int)), AV.v (Value.int IntKind.i64 (0 : Int))]) [some (Blk.row [AV.v (Value.int IntKind.i64 f), AV.map (1 : Nat)]),
    some (Blk.mp [Cel.int IntKind.i64] false true n (hasC gv sn) (valC f gv sn)), some (Blk.row [AV.v (Value.int IntKind.i64 f), AV.v (Value.int IntKind.u32 bad), AV.map (3 : Nat), AV.hs (4
    : Nat) (0 : Nat) (List.length l)]), some (Blk.mp [Cel.int IntKind.i64, Cel.int IntKind.i64, Cel.int IntKind.i64, Cel.int IntKind.i64, Cel.int IntKind.i64, Cel.int IntKind.i64, Cel.int
    IntKind.i64, Cel.int IntKind.i64, Cel.int IntKind.i64, Cel.int IntKind.i64, Cel.int IntKind.i64] true false (List.length l) (hasS l) anyV), some (Blk.arr (11 : Nat) (List.length (l ++
    j)) (lsF Sh.c (l ++ j)))])) (Tree.br (!decide (f = f)) (Tree.leaf (Ans.mk (AV.tup [AV.v (Value.int IntKind.i64 (0 : Int)), AV.v (Value.int IntKind.i64 (1 : Int))]) [some (Blk.row [AV.v
    (Value.int IntKind.i64 f), AV.map (1 : Nat)]), some (Blk.mp [Cel.int IntKind.i64] false true n (hasC gv sn) (valC f gv sn)), some (Blk.row [AV.v (Value.int IntKind.i64 f), AV.v
    (Value.int IntKind.u32 bad), AV.map (3 : Nat), AV.hs (4 : Nat) (0 : Nat) (List.length l)]), some (Blk.mp [Cel.int IntKind.i64, Cel.int IntKind.i64, Cel.int IntKind.i64, Cel.int
    IntKind.i64, Cel.int IntKind.i64, Cel.int IntKind.i64, Cel.int IntKind.i64, Cel.int IntKind.i64, Cel.int IntKind.i64, Cel.int IntKind.i64, Cel.int IntKind.i64] true false (List.length l)
    (hasS l) anyV), some (Blk.arr (11 : Nat) (List.length (l ++ j)) (lsF Sh.c (l ++ j)))])) (Tree.chk true (Tree.chk (cl (LeL [AV.ptr (0 : Nat) (0 : Nat), AV.agg [AV.v (Value.int IntKind.i64
    (5 : Int)), AV.v (Value.int IntKind.i64 (0 : Int)), AV.v (Value.int IntKind.i64 v), AV.v (Value.int IntKind.i64 (0 : Int)), AV.v (Value.int IntKind.i64 (0 : Int)), AV.v (Value.int
    IntKind.i64 (0 : Int)), AV.v (Value.int IntKind.i64 (0 : Int)), AV.v (Value.int IntKind.i64 (0 : Int)), AV.v (Value.int IntKind.i64 (0 : Int)), AV.v (Value.int IntKind.i64 (0 : Int))],
    AV.v (Value.int IntKind.u32 s), AV.v (Value.int IntKind.i64 (timesF (1 : Int) f))] [AV.ptr (0 : Nat) (0 : Nat), AV.agg [AV.v (Value.int IntKind.i64 (5 : Int)), AV.v (Value.int
    IntKind.i64 (0 : Int)), AV.v (Value.int IntKind.i64 v), AV.v (Value.int IntKind.i64 (0 : Int)), AV.v (Value.int IntKind.i64 (0 : Int)), AV.v (Value.int IntKind.i64 (0 : Int)), AV.v
    (Value.int IntKind.i64 (0 : Int)), AV.v (Value.int IntKind.i64 (0 : Int)), AV.v (Value.int IntKind.i64 (0 : Int)), AV.v (Value.int IntKind.i64 (0 : Int))], AV.v (Value.int IntKind.u32
    s), AV.v (Value.int IntKind.i64 (timesF (1 : Int) f))] ∧ LeH [some (Blk.row [AV.v (Value.int IntKind.i64 f), AV.v (Value.int IntKind.u32 bad), AV.map (1 : Nat), AV.hs (2 : Nat) (0 : Nat)
    (List.length l)]), some (Blk.mp [Cel.int IntKind.i64, Cel.int IntKind.i64, Cel.int IntKind.i64, Cel.int IntKind.i64, Cel.int IntKind.i64, Cel.int IntKind.i64, Cel.int IntKind.i64,
    Cel.int IntKind.i64, Cel.int IntKind.i64, Cel.int IntKind.i64, Cel.int IntKind.i64] true false (List.length l) (hasS l) anyV), some (Blk.arr (11 : Nat) (List.length (l ++ j)) (lsF Sh.c
    (l ++ j)))] [some (Blk.row [AV.v (Value.int IntKind.i64 f), AV.v (Value.int IntKind.u32 bad), AV.map (1 : Nat), AV.hs (2 : Nat) (0 : Nat) (List.length l)]), some (Blk.mp [Cel.int
    IntKind.i64, Cel.int IntKind.i64, Cel.int IntKind.i64, Cel.int IntKind.i64, Cel.int IntKind.i64, Cel.int IntKind.i64, Cel.int IntKind.i64, Cel.int IntKind.i64, Cel.int IntKind.i64,
    Cel.int IntKind.i64, Cel.int IntKind.i64] true false (List.length l) (hasS l) anyV), some (Blk.arr (11 : Nat) (List.length (l ++ j)) (lsF Sh.c (l ++ j)))])) (Tree.br (!decide (e = (0 :
    Int))) (Tree.leaf (Ans.mk (AV.tup [AV.v (Value.int IntKind.i64 (0 : Int)), AV.v (Value.int IntKind.i64 e)]) [some (Blk.row [AV.v (Value.int IntKind.i64 f), AV.map (1 : Nat)]), some
    (Blk.mp [Cel.int IntKind.i64] false true n (hasC gv sn) (valC f gv sn)), some (Blk.row [AV.v (Value.int IntKind.i64 f), AV.v (Value.int IntKind.u32 bad), AV.map (3 : Nat), AV.hs (4 :
    Nat) (0 : Nat) (List.length l)]), some (Blk.mp [Cel.int IntKind.i64, Cel.int IntKind.i64, Cel.int IntKind.i64, Cel.int IntKind.i64, Cel.int IntKind.i64, Cel.int IntKind.i64, Cel.int
    IntKind.i64, Cel.int IntKind.i64, Cel.int IntKind.i64, Cel.int IntKind.i64, Cel.int IntKind.i64] true false (List.length l) (hasS l) anyV), some (Blk.arr (11 : Nat) (List.length (l ++
    j)) (lsF Sh.c (l ++ j)))])) (Tree.br (hasC gv sn [KC.i v]) (Tree.br (!gvB gv v) (Tree.chk true (Tree.leaf (Ans.mk (AV.tup [AV.v (Value.int IntKind.i64 (leadF f v)), AV.v (Value.int
    IntKind.i64 (0 : Int))]) [some (Blk.row [AV.v (Value.int IntKind.i64 f), AV.map (1 : Nat)]), some (Blk.mp [Cel.int IntKind.i64] false true (bif hasC gv sn [KC.i v] then n else n + (1 :
    Nat)) (fun p => eqK p [KC.i v] || hasC gv sn p) fun p => eitherL (eqK p [KC.i v]) [AV.v (Value.int IntKind.i64 (leadF f v)), AV.sb (gvB gv v), AV.v (Value.bool true)] (valC f gv sn p)),
    some (Blk.row [AV.v (Value.int IntKind.i64 f), AV.v (Value.int IntKind.u32 bad), AV.map (3 : Nat), AV.hs (4 : Nat) (0 : Nat) (List.length l)]), some (Blk.mp [Cel.int IntKind.i64, Cel.int
    IntKind.i64, Cel.int IntKind.i64, Cel.int IntKind.i64, Cel.int IntKind.i64, Cel.int IntKind.i64, Cel.int IntKind.i64, Cel.int IntKind.i64, Cel.int IntKind.i64, Cel.int IntKind.i64,
    Cel.int IntKind.i64] true false (List.length l) (hasS l) anyV), some (Blk.arr (11 : Nat) (List.length (l ++ j)) (lsF Sh.c (l ++ j)))]))) (Tree.leaf (Ans.mk (AV.tup [AV.v (Value.int
    IntKind.i64 (whoV f gv v)), AV.v (Value.int IntKind.i64 (0 : Int))]) [some (Blk.row [AV.v (Value.int IntKind.i64 f), AV.map (1 : Nat)]), some (Blk.mp [Cel.int IntKind.i64] false true
    (bif hasC gv sn [KC.i v] then n else n + (1 : Nat)) (fun p => eqK p [KC.i v] || hasC gv sn p) fun p => eitherL (eqK p [KC.i v]) [AV.v (Value.int IntKind.i64 (whoV f gv v)), AV.sb (gvB gv
    v), AV.v (Value.bool true)] (valC f gv sn p)), some (Blk.row [AV.v (Value.int IntKind.i64 f), AV.v (Value.int IntKind.u32 bad), AV.map (3 : Nat), AV.hs (4 : Nat) (0 : Nat) (List.length
    l)]), some (Blk.mp [Cel.int IntKind.i64, Cel.int IntKind.i64, Cel.int IntKind.i64, Cel.int IntKind.i64, Cel.int IntKind.i64, Cel.int IntKind.i64, Cel.int IntKind.i64, Cel.int
    IntKind.i64, Cel.int IntKind.i64, Cel.int IntKind.i64, Cel.int IntKind.i64] true false (List.length l) (hasS l) anyV), some (Blk.arr (11 : Nat) (List.length (l ++ j)) (lsF Sh.c (l ++
    j)))]))) (Tree.chk true (Tree.leaf (Ans.mk (AV.tup [AV.v (Value.int IntKind.i64 (leadF f v)), AV.v (Value.int IntKind.i64 (0 : Int))]) [some (Blk.row [AV.v (Value.int IntKind.i64 f),
    AV.map (1 : Nat)]), some (Blk.mp [Cel.int IntKind.i64] false true (bif hasC gv sn [KC.i v] then n else n + (1 : Nat)) (fun p => eqK p [KC.i v] || hasC gv sn p) fun p => eitherL (eqK p
    [KC.i v]) [AV.v (Value.int IntKind.i64 (leadF f v)), AV.v (Value.bool false), AV.v (Value.bool true)] (valC f gv sn p)), some (Blk.row [AV.v (Value.int IntKind.i64 f), AV.v (Value.int
    IntKind.u32 bad), AV.map (3 : Nat), AV.hs (4 : Nat) (0 : Nat) (List.length l)]), some (Blk.mp [Cel.int IntKind.i64, Cel.int IntKind.i64, Cel.int IntKind.i64, Cel.int IntKind.i64, Cel.int
    IntKind.i64, Cel.int IntKind.i64, Cel.int IntKind.i64, Cel.int IntKind.i64, Cel.int IntKind.i64, Cel.int IntKind.i64, Cel.int IntKind.i64] true false (List.length l) (hasS l) anyV), some
    (Blk.arr (11 : Nat) (List.length (l ++ j)) (lsF Sh.c (l ++ j)))]))))))))) := by kernel_rfl
end Go.Eng.Co

/- coin: the program's answers. -/
namespace Go.Eng.Co
open Go Go.Eng Go.Eng.M Go.Proofs
set_option linter.unusedSimpArgs false
set_option linter.unusedVariables false
def giv (w v : Int) : Sh := ⟨w, ⟨0, 0, v, 0, 0, 0, 0, 0, 0, 0⟩⟩
def addS (sn : List Int) (v : Int) : List Int := bif snB sn v then sn else sn ++ [v]
theorem gvB_app {gv : List Sh} {w v p : Int} : gvB (gv ++ [giv w v]) p = (gvB gv p || decide (v = p)) := by
  unfold gvB; rw [List.any_append]; simp [giv]
theorem snB_add {sn : List Int} {v p : Int} : snB (addS sn v) p = (snB sn p || decide (v = p)) := by
  unfold addS
  cases h : snB sn v with
  | true =>
    by_cases hp : v = p
    · subst hp; simp [h]
    · simp [hp]
  | false =>
    show snB (sn ++ [v]) p = _
    unfold snB; rw [List.any_append]; simp
theorem find_none {gv : List Sh} {v : Int} (h : gvB gv v = false) : (gv.find? fun g => decide (g.st.v = v)) = none := by
  rw [List.find?_eq_none]
  intro x hx hd
  have : gvB gv v = true := List.any_eq_true.2 ⟨x, hx, hd⟩
  rw [h] at this; cases this
theorem whoV_none {f v : Int} {gv : List Sh} (h : gvB gv v = false) : whoV f gv v = leadF f v := by
  unfold whoV; rw [find_none h]
theorem whoV_new {f w v : Int} {gv : List Sh} (h : gvB gv v = false) : whoV f (gv ++ [giv w v]) v = w := by
  unfold whoV; rw [List.find?_append, find_none h]; simp [giv]
theorem whoV_old {f w v p : Int} {gv : List Sh} (h : v ≠ p) : whoV f (gv ++ [giv w v]) p = whoV f gv p := by
  unfold whoV; rw [List.find?_append]
  cases (gv.find? fun g => decide (g.st.v = p)) with
  | some g => rfl
  | none => simp [giv, h]
theorem ei1 {c : Bool} {w a : Int} {b d : Bool} : eitherL c [.v (.int .i64 w), .v (.bool true), .v (.bool false)] [.v (.int .i64 a), .sb b, .sb d] = [.v (.int .i64 (bif c then w else a)), .sb (bif c then true else b), .sb (bif c then false else d)] := by
  cases c <;> rfl
theorem ei2 {c : Bool} {w a : Int} {b d e : Bool} : eitherL c [.v (.int .i64 w), .sb e, .v (.bool true)] [.v (.int .i64 a), .sb b, .sb d] = [.v (.int .i64 (bif c then w else a)), .sb (bif c then e else b), .sb (bif c then true else d)] := by
  cases c <;> rfl
theorem ei3 {c : Bool} {w a : Int} {b d : Bool} : eitherL c [.v (.int .i64 w), .v (.bool false), .v (.bool true)] [.v (.int .i64 a), .sb b, .sb d] = [.v (.int .i64 (bif c then w else a)), .sb (bif c then false else b), .sb (bif c then true else d)] := by
  cases c <;> rfl
theorem eqK1 {p v : Int} : eqK [.i p] [.i v] = decide (p = v) := rfl
/-- what a map's key is, or its has is false -/
theorem keyOr (k : List KC) : (∃ p, k = [.i p]) ∨ ((∀ gv sn, hasC gv sn k = false) ∧ ∀ v, eqK k [.i v] = false) := by
  match k with
  | [] => exact .inr ⟨fun _ _ => rfl, fun _ => rfl⟩
  | [.i p] => exact .inl ⟨p, rfl⟩
  | [.s _] => exact .inr ⟨fun _ _ => rfl, fun _ => rfl⟩
  | [.b _] => exact .inr ⟨fun _ _ => rfl, fun _ => rfl⟩
  | .i _ :: _ :: _ => exact .inr ⟨fun _ _ => rfl, fun _ => rfl⟩
  | .s _ :: _ :: _ => exact .inr ⟨fun _ _ => rfl, fun _ => rfl⟩
  | .b _ :: _ :: _ => exact .inr ⟨fun _ _ => rfl, fun _ => rfl⟩
theorem choHas {gv : List Sh} {sn : List Int} {w v : Int} (k : List KC) : (eqK k [.i v] || hasC gv sn k) = hasC (gv ++ [giv w v]) sn k := by
  rcases keyOr k with ⟨p, rfl⟩ | ⟨h1, h2⟩
  · rw [eqK1]; show (_ || (gvB gv p || snB sn p)) = (gvB (gv ++ [giv w v]) p || snB sn p)
    rw [gvB_app]
    by_cases h : p = v
    · subst h; simp
    · have h' : ¬ v = p := fun e => h e.symm
      simp [h, h']
  · rw [h1, h1, h2]; rfl
theorem seeHas {gv : List Sh} {sn : List Int} {v : Int} (k : List KC) : (eqK k [.i v] || hasC gv sn k) = hasC gv (addS sn v) k := by
  rcases keyOr k with ⟨p, rfl⟩ | ⟨h1, h2⟩
  · rw [eqK1]; show (_ || (gvB gv p || snB sn p)) = (gvB gv p || snB (addS sn v) p)
    rw [snB_add]
    by_cases h : p = v
    · subst h; simp
    · have h' : ¬ v = p := fun e => h e.symm
      simp [h, h']
  · rw [h1, h1, h2]; rfl
theorem choM {f w v : Int} {gv : List Sh} {sn : List Int} {n : Nat} (hg : gvB gv v = false) (hs : snB sn v = false) :
    OLe (some (.mp [.int .i64] false true n (fun p => eqK p [.i v] || hasC gv sn p) fun p => eitherL (eqK p [.i v]) [.v (.int .i64 w), .v (.bool true), .v (.bool false)] (valC f gv sn p))) (some (coM f (gv ++ [giv w v]) sn n)) := by
  refine OLe.mp rfl choHas fun k hk => ?_
  rcases keyOr k with ⟨p, rfl⟩ | ⟨h1, h2⟩
  · show LeL (eitherL _ _ [.v (.int .i64 (whoV f gv p)), .sb (gvB gv p), .sb (snB sn p)]) [.v (.int .i64 (whoV f (gv ++ [giv w v]) p)), .sb (gvB (gv ++ [giv w v]) p), .sb (snB sn p)]
    rw [ei1, eqK1, gvB_app]
    by_cases h : p = v
    · subst h; rw [whoV_new hg]; simp [hs, LeL.refl]
    · have h' : ¬ v = p := fun e => h e.symm
      rw [whoV_old h']; simp [h, h', LeL.refl]
  · rw [h1, h2] at hk; cases hk
theorem seeM {f v : Int} {gv : List Sh} {sn : List Int} {n : Nat} (c : List AV) (hc : c = [.v (.int .i64 (whoV f gv v)), .sb (gvB gv v), .v (.bool true)] ∨ gvB gv v = false ∧ c = [.v (.int .i64 (leadF f v)), .sb (gvB gv v), .v (.bool true)] ∨ gvB gv v = false ∧ c = [.v (.int .i64 (leadF f v)), .v (.bool false), .v (.bool true)]) :
    OLe (some (.mp [.int .i64] false true n (fun p => eqK p [.i v] || hasC gv sn p) fun p => eitherL (eqK p [.i v]) c (valC f gv sn p))) (some (coM f gv (addS sn v) n)) := by
  refine OLe.mp rfl seeHas fun k hk => ?_
  rcases keyOr k with ⟨p, rfl⟩ | ⟨h1, h2⟩
  · show LeL (eitherL _ _ [.v (.int .i64 (whoV f gv p)), .sb (gvB gv p), .sb (snB sn p)]) [.v (.int .i64 (whoV f gv p)), .sb (gvB gv p), .sb (snB (addS sn v) p)]
    rw [eqK1, snB_add]
    rcases hc with rfl | ⟨hg, rfl⟩ | ⟨hg, rfl⟩
    · rw [ei2]
      by_cases h : p = v
      · subst h; simp [LeL.refl]
      · have h' : ¬ v = p := fun e => h e.symm
        simp [h, h', LeL.refl]
    · rw [ei2]
      by_cases h : p = v
      · subst h; simp [LeL.refl, hg, whoV_none hg]
      · have h' : ¬ v = p := fun e => h e.symm
        simp [h, h', LeL.refl]
    · rw [ei3]
      by_cases h : p = v
      · subst h; simp [LeL.refl, hg, whoV_none hg]
      · have h' : ¬ v = p := fun e => h e.symm
        simp [h, h', LeL.refl]
  · rw [h1, h2] at hk; cases hk
def badV (v : Int) : Prop := v < 1 ∨ 1048576 < v
theorem badV_not {v : Int} (h : ¬ badV v) : ¬ v < 1 ∧ ¬ 1048576 < v := ⟨fun h1 => h (.inl h1), fun h1 => h (.inr h1)⟩
abbrev nC (gv : List Sh) (sn : List Int) (v : Int) (n : Nat) : Nat := bif hasC gv sn [KC.i v] then n else n + (1 : Nat)
theorem hasC1 {gv : List Sh} {sn : List Int} {v : Int} : hasC gv sn [.i v] = (gvB gv v || snB sn v) := rfl
theorem ansChoBad {v w f : Int} {gv : List Sh} {sn : List Int} {n : Nat} (h : badV v) : Answers Tryd.prog Γc 11 [.ptr 0 0, .v (.int .i64 v), .v (.int .i64 w)] (CH f gv sn n) (.v (.int .i64 70)) ((CH f gv sn n).map some) [] :=
  answers (fn := Tryd.f11) (c := bodyOf Tryd.f11) (ntmps := 47) (results := [.tmp 6]) [k25, CoQ.c8] Lno false Tryd.func11 (by kernel_rfl) (by kernel_rfl) (by kernel_rfl) (by kernel_rfl) (by simp) rfl (noLoops (by kernel_rfl)) <| Meets.of (runCho v w f gv sn n) <| by
    have h1 : v < 1 ∨ 1048576 < v := h
    have h2 : (bif decide (v < (1 : Int)) then true else decide ((1048576 : Int) < v)) = true := by rcases h1 with h | h <;> simp [h]
    simp only [or_true, true_or, false_or, or_false, and_false, false_and, cond_true, cond_false, Bool.not_true, Bool.not_false, Bool.false_eq_true, Bool.true_eq_false, not_true_eq_false, not_false_eq_true, false_implies, true_implies, implies_true, Nat.blt_eq, owesN, owesX, owesR, notT, sat_brT, sat_brF, sat_chkT, cl_iff, cl_false, AV.le_refl, AV.le_any, OLe_refl, OLe_none, sat_brN, Tree.sat_chk, Tree.sat_leaf, Tree.sat_fail, Nat.zero_add, Nat.sub_zero, Int.toNat_natCast, LeH_cons, LeH_nil, LeL_cons, LeL_nil, and_true, true_and, Bool.and_eq_true, Bool.or_eq_true, decide_eq_true_eq, decide_eq_false_iff_not, Bool.cond_true_left, Bool.cond_false_right, List.cons_append, List.nil_append, List.map_cons, List.map_nil, h2]
    repeat' (first | apply And.intro | intro _hc)
    all_goals first | omega | contradiction | exact AV.le_refl _ | exact AV.le_any _ | exact OLe.refl _ | exact OLe.none _ | exact LeH.refl _ | exact LeL.refl _ | exact AV.le.bs _ | exact AV.le.sb _ | (exfalso; omega) | contradiction
theorem ansChoOut {v w f : Int} {gv : List Sh} {sn : List Int} {n : Nat} (h : ¬ badV v) (hw : w < 0 ∨ timesF 3 f ≤ w) : Answers Tryd.prog Γc 11 [.ptr 0 0, .v (.int .i64 v), .v (.int .i64 w)] (CH f gv sn n) (.v (.int .i64 40)) ((CH f gv sn n).map some) [] :=
  answers (fn := Tryd.f11) (c := bodyOf Tryd.f11) (ntmps := 47) (results := [.tmp 6]) [k25, CoQ.c8] Lno false Tryd.func11 (by kernel_rfl) (by kernel_rfl) (by kernel_rfl) (by kernel_rfl) (by simp) rfl (noLoops (by kernel_rfl)) <| Meets.of (runCho v w f gv sn n) <| by
    have h1 := badV_not h
    have h2 : (bif decide (w < (0 : Int)) then true else decide (timesF (3 : Int) f ≤ w)) = true := by rcases hw with h | h <;> simp [h]
    simp only [or_true, true_or, false_or, or_false, and_false, false_and, cond_true, cond_false, Bool.not_true, Bool.not_false, Bool.false_eq_true, Bool.true_eq_false, not_true_eq_false, not_false_eq_true, false_implies, true_implies, implies_true, Nat.blt_eq, owesN, owesX, owesR, notT, sat_brT, sat_brF, sat_chkT, cl_iff, cl_false, AV.le_refl, AV.le_any, OLe_refl, OLe_none, sat_brN, Tree.sat_chk, Tree.sat_leaf, Tree.sat_fail, Nat.zero_add, Nat.sub_zero, Int.toNat_natCast, LeH_cons, LeH_nil, LeL_cons, LeL_nil, and_true, true_and, Bool.and_eq_true, Bool.or_eq_true, decide_eq_true_eq, decide_eq_false_iff_not, Bool.cond_true_left, Bool.cond_false_right, List.cons_append, List.nil_append, List.map_cons, List.map_nil, repT, h2]
    repeat' (first | apply And.intro | intro _hc)
    all_goals first | omega | contradiction | exact AV.le_refl _ | exact AV.le_any _ | exact OLe.refl _ | exact OLe.none _ | exact LeH.refl _ | exact LeL.refl _ | exact AV.le.bs _ | exact AV.le.sb _ | (exfalso; omega) | contradiction
theorem ansChoThere {v w f : Int} {gv : List Sh} {sn : List Int} {n : Nat} (h : ¬ badV v) (hw : ¬ (w < 0 ∨ timesF 3 f ≤ w)) (ht : gvB gv v = true ∨ snB sn v = true) : Answers Tryd.prog Γc 11 [.ptr 0 0, .v (.int .i64 v), .v (.int .i64 w)] (CH f gv sn n) (.v (.int .i64 100)) ((CH f gv sn n).map some) [] :=
  answers (fn := Tryd.f11) (c := bodyOf Tryd.f11) (ntmps := 47) (results := [.tmp 6]) [k25, CoQ.c8] Lno false Tryd.func11 (by kernel_rfl) (by kernel_rfl) (by kernel_rfl) (by kernel_rfl) (by simp) rfl (noLoops (by kernel_rfl)) <| Meets.of (runCho v w f gv sn n) <| by
    have h1 := badV_not h
    have h2 : ¬ w < 0 ∧ ¬ timesF 3 f ≤ w := ⟨fun h => hw (.inl h), fun h => hw (.inr h)⟩
    have h3 : hasC gv sn [.i v] = true := by rw [hasC1]; rcases ht with h | h <;> simp [h]
    have h4 : (bif gvB gv v then true else snB sn v) = true := by rcases ht with h | h <;> simp [h]
    simp only [or_true, true_or, false_or, or_false, and_false, false_and, cond_true, cond_false, Bool.not_true, Bool.not_false, Bool.false_eq_true, Bool.true_eq_false, not_true_eq_false, not_false_eq_true, false_implies, true_implies, implies_true, Nat.blt_eq, owesN, owesX, owesR, notT, sat_brT, sat_brF, sat_chkT, cl_iff, cl_false, AV.le_refl, AV.le_any, OLe_refl, OLe_none, sat_brN, Tree.sat_chk, Tree.sat_leaf, Tree.sat_fail, Nat.zero_add, Nat.sub_zero, Int.toNat_natCast, LeH_cons, LeH_nil, LeL_cons, LeL_nil, and_true, true_and, Bool.and_eq_true, Bool.or_eq_true, decide_eq_true_eq, decide_eq_false_iff_not, Bool.cond_true_left, Bool.cond_false_right, List.cons_append, List.nil_append, List.map_cons, List.map_nil, repT, h3, h4]
    repeat' (first | apply And.intro | intro _hc)
    all_goals first | omega | contradiction | exact AV.le_refl _ | exact AV.le_any _ | exact OLe.refl _ | exact OLe.none _ | exact LeH.refl _ | exact LeL.refl _ | exact AV.le.bs _ | exact AV.le.sb _ | (exfalso; omega) | contradiction
theorem ansChoNew {v w f : Int} {gv : List Sh} {sn : List Int} {n : Nat} (h : ¬ badV v) (hw : ¬ (w < 0 ∨ timesF 3 f ≤ w)) (hg : gvB gv v = false) (hs : snB sn v = false) : Answers Tryd.prog Γc 11 [.ptr 0 0, .v (.int .i64 v), .v (.int .i64 w)] (CH f gv sn n) (.v (.int .i64 0)) ((CH f (gv ++ [giv w v]) sn (n + 1)).map some) [] :=
  answers (fn := Tryd.f11) (c := bodyOf Tryd.f11) (ntmps := 47) (results := [.tmp 6]) [k25, CoQ.c8] Lno false Tryd.func11 (by kernel_rfl) (by kernel_rfl) (by kernel_rfl) (by kernel_rfl) (by simp) rfl (noLoops (by kernel_rfl)) <| Meets.of (runCho v w f gv sn n) <| by
    have h1 := badV_not h
    have h2 : ¬ w < 0 ∧ ¬ timesF 3 f ≤ w := ⟨fun h => hw (.inl h), fun h => hw (.inr h)⟩
    have h3 : hasC gv sn [.i v] = false := by rw [hasC1]; simp [hg, hs]
    simp only [or_true, true_or, false_or, or_false, and_false, false_and, cond_true, cond_false, Bool.not_true, Bool.not_false, Bool.false_eq_true, Bool.true_eq_false, not_true_eq_false, not_false_eq_true, false_implies, true_implies, implies_true, Nat.blt_eq, owesN, owesX, owesR, notT, sat_brT, sat_brF, sat_chkT, cl_iff, cl_false, AV.le_refl, AV.le_any, OLe_refl, OLe_none, sat_brN, Tree.sat_chk, Tree.sat_leaf, Tree.sat_fail, Nat.zero_add, Nat.sub_zero, Int.toNat_natCast, LeH_cons, LeH_nil, LeL_cons, LeL_nil, and_true, true_and, Bool.and_eq_true, Bool.or_eq_true, decide_eq_true_eq, decide_eq_false_iff_not, Bool.cond_true_left, Bool.cond_false_right, List.cons_append, List.nil_append, List.map_cons, List.map_nil, repT, h3]
    repeat' (first | apply And.intro | intro _hc)
    all_goals first | omega | contradiction | exact AV.le_refl _ | exact AV.le_any _ | exact OLe.refl _ | exact OLe.none _ | exact LeH.refl _ | exact LeL.refl _ | exact AV.le.bs _ | exact AV.le.sb _ | exact choM hg hs | (exfalso; omega) | contradiction
theorem ansSeen {v f : Int} {gv : List Sh} {sn : List Int} {n : Nat} : Answers Tryd.prog Γc 18 [.ptr 0 0, .v (.int .i64 v)] (CH f gv sn n) (.sb (snB sn v)) ((CH f gv sn n).map some) [] :=
  answers (fn := Tryd.f18) (c := bodyOf Tryd.f18) (ntmps := 16) (results := [.tmp 4]) [] Lno false Tryd.func18 (by kernel_rfl) (by kernel_rfl) (by kernel_rfl) (by kernel_rfl) (by simp) rfl (noLoops (by kernel_rfl)) <| Meets.of (runSeen v f gv sn n) <| by
    have h2 : (bif hasC gv sn [KC.i v] then snB sn v else false) = snB sn v := by rw [hasC1]; cases gvB gv v <;> cases snB sn v <;> rfl
    simp only [or_true, true_or, false_or, or_false, and_false, false_and, cond_true, cond_false, Bool.not_true, Bool.not_false, Bool.false_eq_true, Bool.true_eq_false, not_true_eq_false, not_false_eq_true, false_implies, true_implies, implies_true, Nat.blt_eq, owesN, owesX, owesR, notT, sat_brT, sat_brF, sat_chkT, cl_iff, cl_false, AV.le_refl, AV.le_any, OLe_refl, OLe_none, sat_brN, Tree.sat_chk, Tree.sat_leaf, Tree.sat_fail, Nat.zero_add, Nat.sub_zero, Int.toNat_natCast, LeH_cons, LeH_nil, LeL_cons, LeL_nil, and_true, true_and, Bool.and_eq_true, Bool.or_eq_true, decide_eq_true_eq, decide_eq_false_iff_not, Bool.cond_true_left, Bool.cond_false_right, List.cons_append, List.nil_append, List.map_cons, List.map_nil, h2]
    repeat' (first | apply And.intro | intro _hc)
    all_goals first | omega | contradiction | exact AV.le_refl _ | exact AV.le_any _ | exact OLe.refl _ | exact OLe.none _ | exact LeH.refl _ | exact LeL.refl _ | exact AV.le.bs _ | exact AV.le.sb _ | (exfalso; omega) | contradiction
abbrev WH (f o bad : Int) (gv : List Sh) (sn : List Int) (n : Nat) (l j : List Sh) : List Blk := CH f gv sn n ++ [sgR 3 4 o bad l.length, sgM l, shB (l ++ j)]
abbrev AS (v s : Int) : List AV := [.ptr 0 0, .ptr 2 0, .v (.int .i64 v), .v (.int .u32 s)]
abbrev tup2 (w e : Int) : AV := .tup [.v (.int .i64 w), .v (.int .i64 e)]
end Go.Eng.Co

/- coin: the program's See; the document's loops. -/
namespace Go.Eng.Co
open Go Go.Eng Go.Eng.M Go.Proofs
set_option linter.unusedSimpArgs false
set_option linter.unusedVariables false
theorem ansSee70 {v s f o bad : Int} {gv : List Sh} {sn : List Int} {n : Nat} {l j : List Sh} (h : badV v) : Answers Tryd.prog Γc 13 (AS v s) (WH f o bad gv sn n l j) (tup2 0 70) ((WH f o bad gv sn n l j).map some) [] :=
  answers (fn := Tryd.f13) (c := bodyOf Tryd.f13) (ntmps := 68) (results := [.tmp 8, .tmp 9]) [k25, k28] Lno false Tryd.func13 (by kernel_rfl) (by kernel_rfl) (by kernel_rfl) (by kernel_rfl) (by simp) rfl (noLoops (by kernel_rfl)) <| Meets.of (runSee0 v s f o bad gv sn n l j) <| by
    have h1 : v < 1 ∨ 1048576 < v := h
    have h2 : (bif decide (v < (1 : Int)) then true else decide ((1048576 : Int) < v)) = true := by rcases h1 with h | h <;> simp [h]
    simp only [or_true, true_or, false_or, or_false, and_false, false_and, cond_true, cond_false, Bool.not_true, Bool.not_false, Bool.false_eq_true, Bool.true_eq_false, not_true_eq_false, not_false_eq_true, false_implies, true_implies, implies_true, Nat.blt_eq, owesN, owesX, owesR, notT, sat_brT, sat_brF, sat_chkT, cl_iff, cl_false, AV.le_refl, AV.le_any, OLe_refl, OLe_none, sat_brN, Tree.sat_chk, Tree.sat_leaf, Tree.sat_fail, Nat.zero_add, Nat.sub_zero, Int.toNat_natCast, LeH_cons, LeH_nil, LeL_cons, LeL_nil, and_true, true_and, Bool.and_eq_true, Bool.or_eq_true, decide_eq_true_eq, decide_eq_false_iff_not, Bool.cond_true_left, Bool.cond_false_right, List.cons_append, List.nil_append, List.map_cons, List.map_nil, h2]
    repeat' (first | apply And.intro | intro _hc)
    all_goals first | omega | contradiction | exact AV.le_refl _ | exact AV.le_any _ | exact OLe.refl _ | exact OLe.none _ | exact LeH.refl _ | exact LeL.refl _ | exact AV.le.bs _ | exact AV.le.sb _ | (exfalso; omega) | contradiction
theorem ansSeeF {v s f o bad : Int} {gv : List Sh} {sn : List Int} {n : Nat} {l j : List Sh} (h : ¬ badV v) (hf : ¬ o = f) : Answers Tryd.prog Γc 13 (AS v s) (WH f o bad gv sn n l j) (tup2 0 1) ((WH f o bad gv sn n l j).map some) [] :=
  answers (fn := Tryd.f13) (c := bodyOf Tryd.f13) (ntmps := 68) (results := [.tmp 8, .tmp 9]) [k25, k28] Lno false Tryd.func13 (by kernel_rfl) (by kernel_rfl) (by kernel_rfl) (by kernel_rfl) (by simp) rfl (noLoops (by kernel_rfl)) <| Meets.of (runSee0 v s f o bad gv sn n l j) <| by
    have h1 := badV_not h
    simp only [or_true, true_or, false_or, or_false, and_false, false_and, cond_true, cond_false, Bool.not_true, Bool.not_false, Bool.false_eq_true, Bool.true_eq_false, not_true_eq_false, not_false_eq_true, false_implies, true_implies, implies_true, Nat.blt_eq, owesN, owesX, owesR, notT, sat_brT, sat_brF, sat_chkT, cl_iff, cl_false, AV.le_refl, AV.le_any, OLe_refl, OLe_none, sat_brN, Tree.sat_chk, Tree.sat_leaf, Tree.sat_fail, Nat.zero_add, Nat.sub_zero, Int.toNat_natCast, LeH_cons, LeH_nil, LeL_cons, LeL_nil, and_true, true_and, Bool.and_eq_true, Bool.or_eq_true, decide_eq_true_eq, decide_eq_false_iff_not, Bool.cond_true_left, Bool.cond_false_right, List.cons_append, List.nil_append, List.map_cons, List.map_nil, hf]
    repeat' (first | apply And.intro | intro _hc)
    all_goals first | omega | contradiction | exact AV.le_refl _ | exact AV.le_any _ | exact OLe.refl _ | exact OLe.none _ | exact LeH.refl _ | exact LeL.refl _ | exact AV.le.bs _ | exact AV.le.sb _ | (exfalso; omega) | contradiction
theorem ansSeeE {v s f e bad : Int} {gv : List Sh} {sn : List Int} {n : Nat} {l j : List Sh} (h : ¬ badV v) (hu : inU32 s = true) (hb : inU32 bad = true) (hE : EnE s (timesF 1 f) (stC v) f bad l e) (he : e ≠ 0) : Answers Tryd.prog Γc 13 (AS v s) (WH f f bad gv sn n l j) (tup2 0 e) ((WH f f bad gv sn n l j).map some) [] :=
  answers (fn := Tryd.f13) (c := bodyOf Tryd.f13) (ntmps := 68) (results := [.tmp 8, .tmp 9]) [k25, k28, k15, CoQ.c12, CoQ.c15, CT.at 29 (ansEnough (j := j) hu hb hE)] Lno false Tryd.func13 (by kernel_rfl) (by kernel_rfl) (by kernel_rfl) (by kernel_rfl) (by simp) rfl (noLoops (by kernel_rfl)) <| Meets.of (runSee v s f e bad gv sn n l j (ansEnough hu hb hE)) <| by
    have h1 := badV_not h
    simp only [or_true, true_or, false_or, or_false, and_false, false_and, cond_true, cond_false, Bool.not_true, Bool.not_false, Bool.false_eq_true, Bool.true_eq_false, not_true_eq_false, not_false_eq_true, false_implies, true_implies, implies_true, Nat.blt_eq, owesN, owesX, owesR, notT, sat_brT, sat_brF, sat_chkT, cl_iff, cl_false, AV.le_refl, AV.le_any, OLe_refl, OLe_none, sat_brN, Tree.sat_chk, Tree.sat_leaf, Tree.sat_fail, Nat.zero_add, Nat.sub_zero, Int.toNat_natCast, LeH_cons, LeH_nil, LeL_cons, LeL_nil, and_true, true_and, Bool.and_eq_true, Bool.or_eq_true, decide_eq_true_eq, decide_eq_false_iff_not, Bool.cond_true_left, Bool.cond_false_right, List.cons_append, List.nil_append, List.map_cons, List.map_nil, he]
    repeat' (first | apply And.intro | intro _hc)
    all_goals first | omega | contradiction | exact AV.le_refl _ | exact AV.le_any _ | exact OLe.refl _ | exact OLe.none _ | exact LeH.refl _ | exact LeL.refl _ | exact AV.le.bs _ | exact AV.le.sb _ | (exfalso; omega) | contradiction
theorem ansSeeOk {v s f bad : Int} {gv : List Sh} {sn : List Int} {n : Nat} {l j : List Sh} (h : ¬ badV v) (hu : inU32 s = true) (hb : inU32 bad = true) (hE : EnE s (timesF 1 f) (stC v) f bad l 0) : Answers Tryd.prog Γc 13 (AS v s) (WH f f bad gv sn n l j) (tup2 (whoV f gv v) 0) ((WH f f bad gv (addS sn v) (nC gv sn v n) l j).map some) [] :=
  answers (fn := Tryd.f13) (c := bodyOf Tryd.f13) (ntmps := 68) (results := [.tmp 8, .tmp 9]) [k25, k28, k15, CoQ.c12, CoQ.c15, CT.at 29 (ansEnough (j := j) hu hb hE)] Lno false Tryd.func13 (by kernel_rfl) (by kernel_rfl) (by kernel_rfl) (by kernel_rfl) (by simp) rfl (noLoops (by kernel_rfl)) <| Meets.of (runSee v s f 0 bad gv sn n l j (ansEnough hu hb hE)) <| by
    have h1 := badV_not h
    cases hg : gvB gv v with
    | true =>
      have h3 : hasC gv sn [.i v] = true := by rw [hasC1]; simp [hg]
      simp only [or_true, true_or, false_or, or_false, and_false, false_and, cond_true, cond_false, Bool.not_true, Bool.not_false, Bool.false_eq_true, Bool.true_eq_false, not_true_eq_false, not_false_eq_true, false_implies, true_implies, implies_true, Nat.blt_eq, owesN, owesX, owesR, notT, sat_brT, sat_brF, sat_chkT, cl_iff, cl_false, AV.le_refl, AV.le_any, OLe_refl, OLe_none, sat_brN, Tree.sat_chk, Tree.sat_leaf, Tree.sat_fail, Nat.zero_add, Nat.sub_zero, Int.toNat_natCast, LeH_cons, LeH_nil, LeL_cons, LeL_nil, and_true, true_and, Bool.and_eq_true, Bool.or_eq_true, decide_eq_true_eq, decide_eq_false_iff_not, Bool.cond_true_left, Bool.cond_false_right, List.cons_append, List.nil_append, List.map_cons, List.map_nil, h3, hg]
      repeat' (first | apply And.intro | intro _hc)
      all_goals first | omega | contradiction | exact AV.le_refl _ | exact AV.le_any _ | exact OLe.refl _ | exact OLe.none _ | exact LeH.refl _ | exact LeL.refl _ | exact AV.le.bs _ | exact AV.le.sb _ | ((rw [show nC gv sn v n = n by simp [nC, h3]]; exact seeM _ (.inl (by simp [hg])))) | (exfalso; omega) | contradiction
    | false =>
      have hw := whoV_none (f := f) hg
      cases h3 : hasC gv sn [.i v] with
      | true =>
        simp only [or_true, true_or, false_or, or_false, and_false, false_and, cond_true, cond_false, Bool.not_true, Bool.not_false, Bool.false_eq_true, Bool.true_eq_false, not_true_eq_false, not_false_eq_true, false_implies, true_implies, implies_true, Nat.blt_eq, owesN, owesX, owesR, notT, sat_brT, sat_brF, sat_chkT, cl_iff, cl_false, AV.le_refl, AV.le_any, OLe_refl, OLe_none, sat_brN, Tree.sat_chk, Tree.sat_leaf, Tree.sat_fail, Nat.zero_add, Nat.sub_zero, Int.toNat_natCast, LeH_cons, LeH_nil, LeL_cons, LeL_nil, and_true, true_and, Bool.and_eq_true, Bool.or_eq_true, decide_eq_true_eq, decide_eq_false_iff_not, Bool.cond_true_left, Bool.cond_false_right, List.cons_append, List.nil_append, List.map_cons, List.map_nil, h3, hg, hw]
        repeat' (first | apply And.intro | intro _hc)
        all_goals first | omega | contradiction | exact AV.le_refl _ | exact AV.le_any _ | exact OLe.refl _ | exact OLe.none _ | exact LeH.refl _ | exact LeL.refl _ | exact AV.le.bs _ | exact AV.le.sb _ | ((rw [show nC gv sn v n = n by simp [nC, h3]]; exact seeM _ (.inr (.inl ⟨hg, by simp [hg]⟩)))) | (exfalso; omega) | contradiction
      | false =>
        simp only [or_true, true_or, false_or, or_false, and_false, false_and, cond_true, cond_false, Bool.not_true, Bool.not_false, Bool.false_eq_true, Bool.true_eq_false, not_true_eq_false, not_false_eq_true, false_implies, true_implies, implies_true, Nat.blt_eq, owesN, owesX, owesR, notT, sat_brT, sat_brF, sat_chkT, cl_iff, cl_false, AV.le_refl, AV.le_any, OLe_refl, OLe_none, sat_brN, Tree.sat_chk, Tree.sat_leaf, Tree.sat_fail, Nat.zero_add, Nat.sub_zero, Int.toNat_natCast, LeH_cons, LeH_nil, LeL_cons, LeL_nil, and_true, true_and, Bool.and_eq_true, Bool.or_eq_true, decide_eq_true_eq, decide_eq_false_iff_not, Bool.cond_true_left, Bool.cond_false_right, List.cons_append, List.nil_append, List.map_cons, List.map_nil, h3, hg, hw]
        repeat' (first | apply And.intro | intro _hc)
        all_goals first | omega | contradiction | exact AV.le_refl _ | exact AV.le_any _ | exact OLe.refl _ | exact OLe.none _ | exact LeH.refl _ | exact LeL.refl _ | exact AV.le.bs _ | exact AV.le.sb _ | ((rw [show nC gv sn v n = n + 1 by simp [nC, h3]]; exact seeM _ (.inr (.inr ⟨hg, rfl⟩)))) | (exfalso; omega) | contradiction
/- the document's -/
def dcR (a b : Nat) (f : Int) (gv : List Sh) (sn : List Int) : Blk := .row [.v (.int .i64 f), .hs a 0 gv.length, .hs b 0 sn.length]
abbrev snA (sn : List Int) : Blk := .arr 1 sn.length (lsF I64.c sn)
abbrev KH (f : Int) (gv jg : List Sh) (sn js : List Int) : List Blk := [dcR 1 2 f gv sn, shB (gv ++ jg), snA (sn ++ js)]
noncomputable abbrev lp19 : Code := loopOf (bodyOf Tryd.f19) 0
noncomputable abbrev lp27 : Code := loopOf (bodyOf Tryd.f27) 0
structure KX where
  f : Int
  gv : List Sh
  jg : List Sh
  sn : List Int
  js : List Int
abbrev KX.H (x : KX) : List Blk := KH x.f x.gv x.jg x.sn x.js
def S19 (x : KX) (v : Int) (i : Nat) : List AV × Heap := ([.ptr 0 0, .v (.int .i64 v), .v (.int .i64 (i : Int)), .any], x.H.map some)
theorem r19 (x : KX) (v : Int) (i : Nat) : roundE (P := Tryd.prog) (Γ := Γc) [] Lno false 3 0 lp19 [0, 1, 5, 4] [] 24 (S19 x v i).1 (S19 x v i).2 =
  Tree.br (decide ((↑i : Int) < (↑(List.length x.sn) : Int))) (Tree.chk (decide ((0 : Int) ≤ (↑i : Int)) && decide ((↑i : Int) < (↑(List.length x.sn) : Int))) (Tree.br (decide (List.getD (x.sn
    ++ x.js) ((0 : Nat) + i) default = v)) (Tree.leaf (Out.mk AEx.ret [AV.ptr (0 : Nat) (0 : Nat), AV.v (Value.int IntKind.i64 v), AV.v (Value.int IntKind.i64 (↑i : Int)), AV.v (Value.bool
    true)] [some (Blk.row [AV.v (Value.int IntKind.i64 x.f), AV.hs (1 : Nat) (0 : Nat) (List.length x.gv), AV.hs (2 : Nat) (0 : Nat) (List.length x.sn)]), some (Blk.arr (11 : Nat)
    (List.length (x.gv ++ x.jg)) (lsF Sh.c (x.gv ++ x.jg))), some (Blk.arr (1 : Nat) (List.length (x.sn ++ x.js)) (lsF I64.c (x.sn ++ x.js)))])) (Tree.leaf (Out.mk AEx.normal [AV.ptr (0 :
    Nat) (0 : Nat), AV.v (Value.int IntKind.i64 v), AV.v (Value.int IntKind.i64 (IntKind.wrap IntKind.i64 ((↑i : Int) + (1 : Int)))), AV.any] [some (Blk.row [AV.v (Value.int IntKind.i64
    x.f), AV.hs (1 : Nat) (0 : Nat) (List.length x.gv), AV.hs (2 : Nat) (0 : Nat) (List.length x.sn)]), some (Blk.arr (11 : Nat) (List.length (x.gv ++ x.jg)) (lsF Sh.c (x.gv ++ x.jg))), some
    (Blk.arr (1 : Nat) (List.length (x.sn ++ x.js)) (lsF I64.c (x.sn ++ x.js)))])))) (Tree.leaf (Out.mk (AEx.exit (0 : Nat)) [AV.ptr (0 : Nat) (0 : Nat), AV.v (Value.int IntKind.i64 v), AV.v
    (Value.int IntKind.i64 (↑i : Int)), AV.any] [some (Blk.row [AV.v (Value.int IntKind.i64 x.f), AV.hs (1 : Nat) (0 : Nat) (List.length x.gv), AV.hs (2 : Nat) (0 : Nat) (List.length
    x.sn)]), some (Blk.arr (11 : Nat) (List.length (x.gv ++ x.jg)) (lsF Sh.c (x.gv ++ x.jg))), some (Blk.arr (1 : Nat) (List.length (x.sn ++ x.js)) (lsF I64.c (x.sn ++ x.js)))])) := by kernel_rfl
theorem r27 (x : KX) (v : Int) (i : Nat) : roundE (P := Tryd.prog) (Γ := Γc) [] Lno false 3 0 lp27 [0, 1, 5, 4] [] 34 (S19 x v i).1 (S19 x v i).2 =
  Tree.br (decide ((↑i : Int) < (↑(List.length x.gv) : Int))) (Tree.chk (decide ((0 : Int) ≤ (↑i : Int)) && decide ((↑i : Int) < (↑(List.length x.gv) : Int))) (Tree.br (decide ((List.getD
    (x.gv ++ x.jg) ((0 : Nat) + i) default).st.v = v)) (Tree.chk (decide ((0 : Int) ≤ (↑i : Int)) && decide ((↑i : Int) < (↑(List.length x.gv) : Int))) (Tree.leaf (Out.mk AEx.ret [AV.ptr (0
    : Nat) (0 : Nat), AV.v (Value.int IntKind.i64 v), AV.v (Value.int IntKind.i64 (↑i : Int)), AV.v (Value.int IntKind.i64 (List.getD (x.gv ++ x.jg) ((0 : Nat) + i) default).s)] [some
    (Blk.row [AV.v (Value.int IntKind.i64 x.f), AV.hs (1 : Nat) (0 : Nat) (List.length x.gv), AV.hs (2 : Nat) (0 : Nat) (List.length x.sn)]), some (Blk.arr (11 : Nat) (List.length (x.gv ++
    x.jg)) (lsF Sh.c (x.gv ++ x.jg))), some (Blk.arr (1 : Nat) (List.length (x.sn ++ x.js)) (lsF I64.c (x.sn ++ x.js)))]))) (Tree.leaf (Out.mk AEx.normal [AV.ptr (0 : Nat) (0 : Nat), AV.v
    (Value.int IntKind.i64 v), AV.v (Value.int IntKind.i64 (IntKind.wrap IntKind.i64 ((↑i : Int) + (1 : Int)))), AV.any] [some (Blk.row [AV.v (Value.int IntKind.i64 x.f), AV.hs (1 : Nat) (0
    : Nat) (List.length x.gv), AV.hs (2 : Nat) (0 : Nat) (List.length x.sn)]), some (Blk.arr (11 : Nat) (List.length (x.gv ++ x.jg)) (lsF Sh.c (x.gv ++ x.jg))), some (Blk.arr (1 : Nat)
    (List.length (x.sn ++ x.js)) (lsF I64.c (x.sn ++ x.js)))])))) (Tree.leaf (Out.mk (AEx.exit (0 : Nat)) [AV.ptr (0 : Nat) (0 : Nat), AV.v (Value.int IntKind.i64 v), AV.v (Value.int
    IntKind.i64 (↑i : Int)), AV.any] [some (Blk.row [AV.v (Value.int IntKind.i64 x.f), AV.hs (1 : Nat) (0 : Nat) (List.length x.gv), AV.hs (2 : Nat) (0 : Nat) (List.length x.sn)]), some
    (Blk.arr (11 : Nat) (List.length (x.gv ++ x.jg)) (lsF Sh.c (x.gv ++ x.jg))), some (Blk.arr (1 : Nat) (List.length (x.sn ++ x.js)) (lsF I64.c (x.sn ++ x.js)))])) := by kernel_rfl
def O19y (x : KX) : Out := ⟨.ret, [.any, .any, .any, .sb true], x.H.map some⟩
def O19n (x : KX) : Out := ⟨.exit 0, [.any, .any, .any, .any], x.H.map some⟩
def O27y (x : KX) (s : Int) : Out := ⟨.ret, [.any, .any, .any, .v (.int .i64 s)], x.H.map some⟩
end Go.Eng.Co

/- coin: the document's answers. -/
namespace Go.Eng.Co
open Go Go.Eng Go.Eng.M Go.Proofs
set_option linter.unusedSimpArgs false
set_option linter.unusedVariables false
def choI (gv : List Sh) (v : Int) : Int := match gv.find? fun g => decide (g.st.v = v) with
  | some g => g.s
  | none => -1
theorem choI_none {gv : List Sh} {v : Int} (h : gvB gv v = false) : choI gv v = -1 := by
  unfold choI; rw [find_none h]
theorem cho_some {gv : List Sh} {v : Int} (h : gvB gv v = true) : ∃ p, p < gv.length ∧ (gv.getD p default).st.v = v ∧ (∀ q, q < p → (gv.getD q default).st.v ≠ v) ∧ choI gv v = (gv.getD p default).s ∧ ∀ f, whoV f gv v = (gv.getD p default).s := by
  cases hf : gv.find? fun g => decide (g.st.v = v) with
  | none =>
    rw [List.find?_eq_none] at hf
    obtain ⟨x, hx, hd⟩ := List.any_eq_true.1 h
    exact absurd hd (hf x hx)
  | some g =>
    obtain ⟨h1, p, hp, h2, h3⟩ := List.find?_eq_some_iff_getElem.1 hf
    refine ⟨p, hp, ?_, fun q hq => ?_, ?_, fun f => ?_⟩
    · rw [getD_get hp, h2]; exact of_decide_eq_true h1
    · have := h3 q hq
      rw [getD_get (by omega)]
      simpa using this
    · unfold choI; rw [hf, getD_get hp, h2]
    · unfold whoV; rw [hf, getD_get hp, h2]
theorem snB_some {sn : List Int} {v : Int} (h : snB sn v = true) : ∃ p, p < sn.length ∧ sn.getD p default = v := by
  obtain ⟨x, hx, hd⟩ := List.any_eq_true.1 h
  obtain ⟨p, hp, he⟩ := List.getElem_of_mem hx
  exact ⟨p, hp, by rw [getD_get hp, he]; exact of_decide_eq_true hd⟩
theorem snB_not {sn : List Int} {v : Int} (h : snB sn v = false) {p : Nat} (hp : p < sn.length) : sn.getD p default ≠ v := fun he => by
  have : snB sn v = true := List.any_eq_true.2 ⟨sn[p], List.getElem_mem hp, by rw [getD_get hp] at he; exact decide_eq_true he⟩
  rw [h] at this; cases this
theorem gvB_not {gv : List Sh} {v : Int} (h : gvB gv v = false) {p : Nat} (hp : p < gv.length) : (gv.getD p default).st.v ≠ v := fun he => by
  have : gvB gv v = true := List.any_eq_true.2 ⟨gv[p], List.getElem_mem hp, by rw [getD_get hp] at he; exact decide_eq_true he⟩
  rw [h] at this; cases this
theorem loop19y {x : KX} {v : Int} (hs : x.sn.length ≤ 100000) : ∀ i, (∃ p, i ≤ p ∧ p < x.sn.length ∧ x.sn.getD p default = v) → LoopOK Tryd.prog Γc 3 24 lp19 (LSpec.at [0, 1, 5, 4] [] (S19 x v i) (O19y x)) := by
  refine loop_at (S := S19 x v) (O := fun _ => O19y x) (k := 0) (fun i => x.sn.length - i) fun i hp => .of (noLoops (by kernel_rfl)) (r19 x v i) ?_
  obtain ⟨p, h1, h2, h3⟩ := hp
  have hi : i < x.sn.length := by omega
  by_cases he : x.sn.getD i default = v
  · simp only [or_true, true_or, false_or, or_false, and_false, false_and, cond_true, cond_false, Bool.not_true, Bool.not_false, Bool.false_eq_true, Bool.true_eq_false, not_true_eq_false, not_false_eq_true, false_implies, true_implies, implies_true, Nat.blt_eq, owesN, owesX, owesR, notT, sat_brT, sat_brF, sat_chkT, cl_iff, cl_false, AV.le_refl, AV.le_any, OLe_refl, OLe_none, sat_brN, Tree.sat_chk, Tree.sat_leaf, Tree.sat_fail, Nat.zero_add, Nat.sub_zero, Int.toNat_natCast, LeH_cons, LeH_nil, LeL_cons, LeL_nil, and_true, true_and, Bool.and_eq_true, Bool.or_eq_true, decide_eq_true_eq, decide_eq_false_iff_not, Bool.cond_true_left, Bool.cond_false_right, List.cons_append, List.nil_append, List.map_cons, List.map_nil, getD_app hi, he]
    repeat' (first | apply And.intro | intro _hc)
    all_goals first | omega | contradiction | exact AV.le_refl _ | exact AV.le_any _ | exact OLe.refl _ | exact OLe.none _ | exact LeH.refl _ | exact LeL.refl _ | exact AV.le.bs _ | exact AV.le.sb _ | exact rfl | (exfalso; omega) | contradiction
  · have hlt : i < p := by
      rcases Nat.lt_or_ge i p with h4 | h4
      · exact h4
      · obtain rfl : i = p := by omega
        exact absurd h3 he
    simp only [or_true, true_or, false_or, or_false, and_false, false_and, cond_true, cond_false, Bool.not_true, Bool.not_false, Bool.false_eq_true, Bool.true_eq_false, not_true_eq_false, not_false_eq_true, false_implies, true_implies, implies_true, Nat.blt_eq, owesN, owesX, owesR, notT, sat_brT, sat_brF, sat_chkT, cl_iff, cl_false, AV.le_refl, AV.le_any, OLe_refl, OLe_none, sat_brN, Tree.sat_chk, Tree.sat_leaf, Tree.sat_fail, Nat.zero_add, Nat.sub_zero, Int.toNat_natCast, LeH_cons, LeH_nil, LeL_cons, LeL_nil, and_true, true_and, Bool.and_eq_true, Bool.or_eq_true, decide_eq_true_eq, decide_eq_false_iff_not, Bool.cond_true_left, Bool.cond_false_right, List.cons_append, List.nil_append, List.map_cons, List.map_nil, getD_app hi, he, wrapUpN (show i ≤ 1000000000 by omega)]
    repeat' (first | apply And.intro | intro _hc)
    all_goals first | omega | contradiction | exact AV.le_refl _ | exact AV.le_any _ | exact OLe.refl _ | exact OLe.none _ | exact LeH.refl _ | exact LeL.refl _ | exact AV.le.bs _ | exact AV.le.sb _ | exact ⟨i + 1, LeL.refl _, LeH.refl _, ⟨p, hlt, h2, h3⟩, by omega⟩ | (exfalso; omega) | contradiction
theorem loop19n {x : KX} {v : Int} (hs : x.sn.length ≤ 100000) (hx : snB x.sn v = false) : ∀ i, i ≤ x.sn.length → LoopOK Tryd.prog Γc 3 24 lp19 (LSpec.at [0, 1, 5, 4] [] (S19 x v i) (O19n x)) := by
  refine loop_at (S := S19 x v) (O := fun _ => O19n x) (k := 0) (fun i => x.sn.length - i) fun i hp => .of (noLoops (by kernel_rfl)) (r19 x v i) ?_
  rcases Nat.lt_or_ge i x.sn.length with hi | hi
  · have he := snB_not hx hi
    simp only [or_true, true_or, false_or, or_false, and_false, false_and, cond_true, cond_false, Bool.not_true, Bool.not_false, Bool.false_eq_true, Bool.true_eq_false, not_true_eq_false, not_false_eq_true, false_implies, true_implies, implies_true, Nat.blt_eq, owesN, owesX, owesR, notT, sat_brT, sat_brF, sat_chkT, cl_iff, cl_false, AV.le_refl, AV.le_any, OLe_refl, OLe_none, sat_brN, Tree.sat_chk, Tree.sat_leaf, Tree.sat_fail, Nat.zero_add, Nat.sub_zero, Int.toNat_natCast, LeH_cons, LeH_nil, LeL_cons, LeL_nil, and_true, true_and, Bool.and_eq_true, Bool.or_eq_true, decide_eq_true_eq, decide_eq_false_iff_not, Bool.cond_true_left, Bool.cond_false_right, List.cons_append, List.nil_append, List.map_cons, List.map_nil, getD_app hi, he, wrapUpN (show i ≤ 1000000000 by omega)]
    repeat' (first | apply And.intro | intro _hc)
    all_goals first | omega | contradiction | exact AV.le_refl _ | exact AV.le_any _ | exact OLe.refl _ | exact OLe.none _ | exact LeH.refl _ | exact LeL.refl _ | exact AV.le.bs _ | exact AV.le.sb _ | exact ⟨i + 1, LeL.refl _, LeH.refl _, hi, by omega⟩ | (exfalso; omega) | contradiction
  · simp only [or_true, true_or, false_or, or_false, and_false, false_and, cond_true, cond_false, Bool.not_true, Bool.not_false, Bool.false_eq_true, Bool.true_eq_false, not_true_eq_false, not_false_eq_true, false_implies, true_implies, implies_true, Nat.blt_eq, owesN, owesX, owesR, notT, sat_brT, sat_brF, sat_chkT, cl_iff, cl_false, AV.le_refl, AV.le_any, OLe_refl, OLe_none, sat_brN, Tree.sat_chk, Tree.sat_leaf, Tree.sat_fail, Nat.zero_add, Nat.sub_zero, Int.toNat_natCast, LeH_cons, LeH_nil, LeL_cons, LeL_nil, and_true, true_and, Bool.and_eq_true, Bool.or_eq_true, decide_eq_true_eq, decide_eq_false_iff_not, Bool.cond_true_left, Bool.cond_false_right, List.cons_append, List.nil_append, List.map_cons, List.map_nil]
    repeat' (first | apply And.intro | intro _hc)
    all_goals first | omega | contradiction | exact AV.le_refl _ | exact AV.le_any _ | exact OLe.refl _ | exact OLe.none _ | exact LeH.refl _ | exact LeL.refl _ | exact AV.le.bs _ | exact AV.le.sb _ | exact rfl | (exfalso; omega) | contradiction
theorem loop27y {x : KX} {v : Int} (hs : x.gv.length ≤ 100000) {p : Nat} (h2 : p < x.gv.length) (h3 : (x.gv.getD p default).st.v = v) (h4 : ∀ q, q < p → (x.gv.getD q default).st.v ≠ v) : ∀ i, i ≤ p → LoopOK Tryd.prog Γc 3 34 lp27 (LSpec.at [0, 1, 5, 4] [] (S19 x v i) (O27y x (x.gv.getD p default).s)) := by
  refine loop_at (S := S19 x v) (O := fun _ => O27y x (x.gv.getD p default).s) (k := 0) (fun i => p - i) fun i hp => .of (noLoops (by kernel_rfl)) (r27 x v i) ?_
  have hi : i < x.gv.length := by omega
  rcases Nat.lt_or_ge i p with hk | hk
  · have he := h4 i hk
    simp only [or_true, true_or, false_or, or_false, and_false, false_and, cond_true, cond_false, Bool.not_true, Bool.not_false, Bool.false_eq_true, Bool.true_eq_false, not_true_eq_false, not_false_eq_true, false_implies, true_implies, implies_true, Nat.blt_eq, owesN, owesX, owesR, notT, sat_brT, sat_brF, sat_chkT, cl_iff, cl_false, AV.le_refl, AV.le_any, OLe_refl, OLe_none, sat_brN, Tree.sat_chk, Tree.sat_leaf, Tree.sat_fail, Nat.zero_add, Nat.sub_zero, Int.toNat_natCast, LeH_cons, LeH_nil, LeL_cons, LeL_nil, and_true, true_and, Bool.and_eq_true, Bool.or_eq_true, decide_eq_true_eq, decide_eq_false_iff_not, Bool.cond_true_left, Bool.cond_false_right, List.cons_append, List.nil_append, List.map_cons, List.map_nil, getD_app hi, he, wrapUpN (show i ≤ 1000000000 by omega)]
    repeat' (first | apply And.intro | intro _hc)
    all_goals first | omega | contradiction | exact AV.le_refl _ | exact AV.le_any _ | exact OLe.refl _ | exact OLe.none _ | exact LeH.refl _ | exact LeL.refl _ | exact AV.le.bs _ | exact AV.le.sb _ | exact ⟨i + 1, LeL.refl _, LeH.refl _, hk, by omega⟩ | (exfalso; omega) | contradiction
  · obtain rfl : i = p := by omega
    simp only [or_true, true_or, false_or, or_false, and_false, false_and, cond_true, cond_false, Bool.not_true, Bool.not_false, Bool.false_eq_true, Bool.true_eq_false, not_true_eq_false, not_false_eq_true, false_implies, true_implies, implies_true, Nat.blt_eq, owesN, owesX, owesR, notT, sat_brT, sat_brF, sat_chkT, cl_iff, cl_false, AV.le_refl, AV.le_any, OLe_refl, OLe_none, sat_brN, Tree.sat_chk, Tree.sat_leaf, Tree.sat_fail, Nat.zero_add, Nat.sub_zero, Int.toNat_natCast, LeH_cons, LeH_nil, LeL_cons, LeL_nil, and_true, true_and, Bool.and_eq_true, Bool.or_eq_true, decide_eq_true_eq, decide_eq_false_iff_not, Bool.cond_true_left, Bool.cond_false_right, List.cons_append, List.nil_append, List.map_cons, List.map_nil, getD_app hi, h3]
    repeat' (first | apply And.intro | intro _hc)
    all_goals first | omega | contradiction | exact AV.le_refl _ | exact AV.le_any _ | exact OLe.refl _ | exact OLe.none _ | exact LeH.refl _ | exact LeL.refl _ | exact AV.le.bs _ | exact AV.le.sb _ | exact rfl | (exfalso; omega) | contradiction
theorem loop27n {x : KX} {v : Int} (hs : x.gv.length ≤ 100000) (hx : gvB x.gv v = false) : ∀ i, i ≤ x.gv.length → LoopOK Tryd.prog Γc 3 34 lp27 (LSpec.at [0, 1, 5, 4] [] (S19 x v i) (O19n x)) := by
  refine loop_at (S := S19 x v) (O := fun _ => O19n x) (k := 0) (fun i => x.gv.length - i) fun i hp => .of (noLoops (by kernel_rfl)) (r27 x v i) ?_
  rcases Nat.lt_or_ge i x.gv.length with hi | hi
  · have he := gvB_not hx hi
    simp only [or_true, true_or, false_or, or_false, and_false, false_and, cond_true, cond_false, Bool.not_true, Bool.not_false, Bool.false_eq_true, Bool.true_eq_false, not_true_eq_false, not_false_eq_true, false_implies, true_implies, implies_true, Nat.blt_eq, owesN, owesX, owesR, notT, sat_brT, sat_brF, sat_chkT, cl_iff, cl_false, AV.le_refl, AV.le_any, OLe_refl, OLe_none, sat_brN, Tree.sat_chk, Tree.sat_leaf, Tree.sat_fail, Nat.zero_add, Nat.sub_zero, Int.toNat_natCast, LeH_cons, LeH_nil, LeL_cons, LeL_nil, and_true, true_and, Bool.and_eq_true, Bool.or_eq_true, decide_eq_true_eq, decide_eq_false_iff_not, Bool.cond_true_left, Bool.cond_false_right, List.cons_append, List.nil_append, List.map_cons, List.map_nil, getD_app hi, he, wrapUpN (show i ≤ 1000000000 by omega)]
    repeat' (first | apply And.intro | intro _hc)
    all_goals first | omega | contradiction | exact AV.le_refl _ | exact AV.le_any _ | exact OLe.refl _ | exact OLe.none _ | exact LeH.refl _ | exact LeL.refl _ | exact AV.le.bs _ | exact AV.le.sb _ | exact ⟨i + 1, LeL.refl _, LeH.refl _, hi, by omega⟩ | (exfalso; omega) | contradiction
  · simp only [or_true, true_or, false_or, or_false, and_false, false_and, cond_true, cond_false, Bool.not_true, Bool.not_false, Bool.false_eq_true, Bool.true_eq_false, not_true_eq_false, not_false_eq_true, false_implies, true_implies, implies_true, Nat.blt_eq, owesN, owesX, owesR, notT, sat_brT, sat_brF, sat_chkT, cl_iff, cl_false, AV.le_refl, AV.le_any, OLe_refl, OLe_none, sat_brN, Tree.sat_chk, Tree.sat_leaf, Tree.sat_fail, Nat.zero_add, Nat.sub_zero, Int.toNat_natCast, LeH_cons, LeH_nil, LeL_cons, LeL_nil, and_true, true_and, Bool.and_eq_true, Bool.or_eq_true, decide_eq_true_eq, decide_eq_false_iff_not, Bool.cond_true_left, Bool.cond_false_right, List.cons_append, List.nil_append, List.map_cons, List.map_nil]
    repeat' (first | apply And.intro | intro _hc)
    all_goals first | omega | contradiction | exact AV.le_refl _ | exact AV.le_any _ | exact OLe.refl _ | exact OLe.none _ | exact LeH.refl _ | exact LeL.refl _ | exact AV.le.bs _ | exact AV.le.sb _ | exact rfl | (exfalso; omega) | contradiction
abbrev AV1 (v : Int) : List AV := [.ptr 0 0, .v (.int .i64 v)]
theorem run19y (x : KX) (v : Int) : bodyE (P := Tryd.prog) (Γ := Γc) [] (fun _ => LSpec.at [0, 1, 5, 4] [] (S19 x v 0) (O19y x)) false 24 [.tmp 4] (bodyOf Tryd.f19) (AV1 v) x.H =
  Tree.chk (cl (LeL [AV.ptr (0 : Nat) (0 : Nat), AV.v (Value.int IntKind.i64 v), AV.v (Value.int IntKind.i64 (0 : Int)), AV.v (Value.bool false)] [AV.ptr (0 : Nat) (0 : Nat), AV.v (Value.int
    IntKind.i64 v), AV.v (Value.int IntKind.i64 (↑(0 : Nat) : Int)), AV.any] ∧ LeH [some (Blk.row [AV.v (Value.int IntKind.i64 x.f), AV.hs (1 : Nat) (0 : Nat) (List.length x.gv), AV.hs (2 :
    Nat) (0 : Nat) (List.length x.sn)]), some (Blk.arr (11 : Nat) (List.length (x.gv ++ x.jg)) (lsF Sh.c (x.gv ++ x.jg))), some (Blk.arr (1 : Nat) (List.length (x.sn ++ x.js)) (lsF I64.c
    (x.sn ++ x.js)))] [some (Blk.row [AV.v (Value.int IntKind.i64 x.f), AV.hs (1 : Nat) (0 : Nat) (List.length x.gv), AV.hs (2 : Nat) (0 : Nat) (List.length x.sn)]), some (Blk.arr (11 : Nat)
    (List.length (x.gv ++ x.jg)) (lsF Sh.c (x.gv ++ x.jg))), some (Blk.arr (1 : Nat) (List.length (x.sn ++ x.js)) (lsF I64.c (x.sn ++ x.js)))])) (Tree.leaf (Ans.mk (AV.sb true) [some
    (Blk.row [AV.v (Value.int IntKind.i64 x.f), AV.hs (1 : Nat) (0 : Nat) (List.length x.gv), AV.hs (2 : Nat) (0 : Nat) (List.length x.sn)]), some (Blk.arr (11 : Nat) (List.length (x.gv ++
    x.jg)) (lsF Sh.c (x.gv ++ x.jg))), some (Blk.arr (1 : Nat) (List.length (x.sn ++ x.js)) (lsF I64.c (x.sn ++ x.js)))])) := by kernel_rfl
theorem run19n (x : KX) (v : Int) : bodyE (P := Tryd.prog) (Γ := Γc) [] (fun _ => LSpec.at [0, 1, 5, 4] [] (S19 x v 0) (O19n x)) false 24 [.tmp 4] (bodyOf Tryd.f19) (AV1 v) x.H =
  Tree.chk (cl (LeL [AV.ptr (0 : Nat) (0 : Nat), AV.v (Value.int IntKind.i64 v), AV.v (Value.int IntKind.i64 (0 : Int)), AV.v (Value.bool false)] [AV.ptr (0 : Nat) (0 : Nat), AV.v (Value.int
    IntKind.i64 v), AV.v (Value.int IntKind.i64 (↑(0 : Nat) : Int)), AV.any] ∧ LeH [some (Blk.row [AV.v (Value.int IntKind.i64 x.f), AV.hs (1 : Nat) (0 : Nat) (List.length x.gv), AV.hs (2 :
    Nat) (0 : Nat) (List.length x.sn)]), some (Blk.arr (11 : Nat) (List.length (x.gv ++ x.jg)) (lsF Sh.c (x.gv ++ x.jg))), some (Blk.arr (1 : Nat) (List.length (x.sn ++ x.js)) (lsF I64.c
    (x.sn ++ x.js)))] [some (Blk.row [AV.v (Value.int IntKind.i64 x.f), AV.hs (1 : Nat) (0 : Nat) (List.length x.gv), AV.hs (2 : Nat) (0 : Nat) (List.length x.sn)]), some (Blk.arr (11 : Nat)
    (List.length (x.gv ++ x.jg)) (lsF Sh.c (x.gv ++ x.jg))), some (Blk.arr (1 : Nat) (List.length (x.sn ++ x.js)) (lsF I64.c (x.sn ++ x.js)))])) (Tree.leaf (Ans.mk (AV.v (Value.bool false))
    [some (Blk.row [AV.v (Value.int IntKind.i64 x.f), AV.hs (1 : Nat) (0 : Nat) (List.length x.gv), AV.hs (2 : Nat) (0 : Nat) (List.length x.sn)]), some (Blk.arr (11 : Nat) (List.length
    (x.gv ++ x.jg)) (lsF Sh.c (x.gv ++ x.jg))), some (Blk.arr (1 : Nat) (List.length (x.sn ++ x.js)) (lsF I64.c (x.sn ++ x.js)))])) := by kernel_rfl
theorem run27y (x : KX) (v s : Int) : bodyE (P := Tryd.prog) (Γ := Γc) [] (fun _ => LSpec.at [0, 1, 5, 4] [] (S19 x v 0) (O27y x s)) false 34 [.tmp 4] (bodyOf Tryd.f27) (AV1 v) x.H =
  Tree.chk (cl (LeL [AV.ptr (0 : Nat) (0 : Nat), AV.v (Value.int IntKind.i64 v), AV.v (Value.int IntKind.i64 (0 : Int)), AV.v (Value.int IntKind.i64 (0 : Int))] [AV.ptr (0 : Nat) (0 : Nat),
    AV.v (Value.int IntKind.i64 v), AV.v (Value.int IntKind.i64 (↑(0 : Nat) : Int)), AV.any] ∧ LeH [some (Blk.row [AV.v (Value.int IntKind.i64 x.f), AV.hs (1 : Nat) (0 : Nat) (List.length
    x.gv), AV.hs (2 : Nat) (0 : Nat) (List.length x.sn)]), some (Blk.arr (11 : Nat) (List.length (x.gv ++ x.jg)) (lsF Sh.c (x.gv ++ x.jg))), some (Blk.arr (1 : Nat) (List.length (x.sn ++
    x.js)) (lsF I64.c (x.sn ++ x.js)))] [some (Blk.row [AV.v (Value.int IntKind.i64 x.f), AV.hs (1 : Nat) (0 : Nat) (List.length x.gv), AV.hs (2 : Nat) (0 : Nat) (List.length x.sn)]), some
    (Blk.arr (11 : Nat) (List.length (x.gv ++ x.jg)) (lsF Sh.c (x.gv ++ x.jg))), some (Blk.arr (1 : Nat) (List.length (x.sn ++ x.js)) (lsF I64.c (x.sn ++ x.js)))])) (Tree.leaf (Ans.mk (AV.v
    (Value.int IntKind.i64 s)) [some (Blk.row [AV.v (Value.int IntKind.i64 x.f), AV.hs (1 : Nat) (0 : Nat) (List.length x.gv), AV.hs (2 : Nat) (0 : Nat) (List.length x.sn)]), some (Blk.arr
    (11 : Nat) (List.length (x.gv ++ x.jg)) (lsF Sh.c (x.gv ++ x.jg))), some (Blk.arr (1 : Nat) (List.length (x.sn ++ x.js)) (lsF I64.c (x.sn ++ x.js)))])) := by kernel_rfl
theorem run27n (x : KX) (v : Int) : bodyE (P := Tryd.prog) (Γ := Γc) [] (fun _ => LSpec.at [0, 1, 5, 4] [] (S19 x v 0) (O19n x)) false 34 [.tmp 4] (bodyOf Tryd.f27) (AV1 v) x.H =
  Tree.chk (cl (LeL [AV.ptr (0 : Nat) (0 : Nat), AV.v (Value.int IntKind.i64 v), AV.v (Value.int IntKind.i64 (0 : Int)), AV.v (Value.int IntKind.i64 (0 : Int))] [AV.ptr (0 : Nat) (0 : Nat),
    AV.v (Value.int IntKind.i64 v), AV.v (Value.int IntKind.i64 (↑(0 : Nat) : Int)), AV.any] ∧ LeH [some (Blk.row [AV.v (Value.int IntKind.i64 x.f), AV.hs (1 : Nat) (0 : Nat) (List.length
    x.gv), AV.hs (2 : Nat) (0 : Nat) (List.length x.sn)]), some (Blk.arr (11 : Nat) (List.length (x.gv ++ x.jg)) (lsF Sh.c (x.gv ++ x.jg))), some (Blk.arr (1 : Nat) (List.length (x.sn ++
    x.js)) (lsF I64.c (x.sn ++ x.js)))] [some (Blk.row [AV.v (Value.int IntKind.i64 x.f), AV.hs (1 : Nat) (0 : Nat) (List.length x.gv), AV.hs (2 : Nat) (0 : Nat) (List.length x.sn)]), some
    (Blk.arr (11 : Nat) (List.length (x.gv ++ x.jg)) (lsF Sh.c (x.gv ++ x.jg))), some (Blk.arr (1 : Nat) (List.length (x.sn ++ x.js)) (lsF I64.c (x.sn ++ x.js)))])) (Tree.leaf (Ans.mk (AV.v
    (Value.int IntKind.i64 (-1 : Int))) [some (Blk.row [AV.v (Value.int IntKind.i64 x.f), AV.hs (1 : Nat) (0 : Nat) (List.length x.gv), AV.hs (2 : Nat) (0 : Nat) (List.length x.sn)]), some
    (Blk.arr (11 : Nat) (List.length (x.gv ++ x.jg)) (lsF Sh.c (x.gv ++ x.jg))), some (Blk.arr (1 : Nat) (List.length (x.sn ++ x.js)) (lsF I64.c (x.sn ++ x.js)))])) := by kernel_rfl
theorem ansWas {x : KX} {v : Int} (hs : x.sn.length ≤ 100000) : Answers Tryd.prog Γc 19 (AV1 v) x.H (.sb (snB x.sn v)) (x.H.map some) [] := by
  cases h : snB x.sn v with
  | true =>
    obtain ⟨p, h1, h2⟩ := snB_some h
    exact answers (fn := Tryd.f19) (c := bodyOf Tryd.f19) (ntmps := 24) (results := [.tmp 4]) [] (fun _ => LSpec.at [0, 1, 5, 4] [] (S19 x v 0) (O19y x)) false Tryd.func19 (by kernel_rfl) (by kernel_rfl) (by kernel_rfl) (by kernel_rfl) (by simp) rfl (oneLoop (b := lp19) (by kernel_rfl) (loop19y hs 0 ⟨p, Nat.zero_le _, h1, h2⟩)) <| Meets.of (run19y x v) <| by
      simp only [or_true, true_or, false_or, or_false, and_false, false_and, cond_true, cond_false, Bool.not_true, Bool.not_false, Bool.false_eq_true, Bool.true_eq_false, not_true_eq_false, not_false_eq_true, false_implies, true_implies, implies_true, Nat.blt_eq, owesN, owesX, owesR, notT, sat_brT, sat_brF, sat_chkT, cl_iff, cl_false, AV.le_refl, AV.le_any, OLe_refl, OLe_none, sat_brN, Tree.sat_chk, Tree.sat_leaf, Tree.sat_fail, Nat.zero_add, Nat.sub_zero, Int.toNat_natCast, LeH_cons, LeH_nil, LeL_cons, LeL_nil, and_true, true_and, Bool.and_eq_true, Bool.or_eq_true, decide_eq_true_eq, decide_eq_false_iff_not, Bool.cond_true_left, Bool.cond_false_right, List.cons_append, List.nil_append, List.map_cons, List.map_nil]
      repeat' (first | apply And.intro | intro _hc)
      all_goals first | omega | contradiction | exact AV.le_refl _ | exact AV.le_any _ | exact OLe.refl _ | exact OLe.none _ | exact LeH.refl _ | exact LeL.refl _ | exact AV.le.bs _ | exact AV.le.sb _ | (exfalso; omega) | contradiction
  | false =>
    exact answers (fn := Tryd.f19) (c := bodyOf Tryd.f19) (ntmps := 24) (results := [.tmp 4]) [] (fun _ => LSpec.at [0, 1, 5, 4] [] (S19 x v 0) (O19n x)) false Tryd.func19 (by kernel_rfl) (by kernel_rfl) (by kernel_rfl) (by kernel_rfl) (by simp) rfl (oneLoop (b := lp19) (by kernel_rfl) (loop19n hs h 0 (Nat.zero_le _))) <| Meets.of (run19n x v) <| by
      simp only [or_true, true_or, false_or, or_false, and_false, false_and, cond_true, cond_false, Bool.not_true, Bool.not_false, Bool.false_eq_true, Bool.true_eq_false, not_true_eq_false, not_false_eq_true, false_implies, true_implies, implies_true, Nat.blt_eq, owesN, owesX, owesR, notT, sat_brT, sat_brF, sat_chkT, cl_iff, cl_false, AV.le_refl, AV.le_any, OLe_refl, OLe_none, sat_brN, Tree.sat_chk, Tree.sat_leaf, Tree.sat_fail, Nat.zero_add, Nat.sub_zero, Int.toNat_natCast, LeH_cons, LeH_nil, LeL_cons, LeL_nil, and_true, true_and, Bool.and_eq_true, Bool.or_eq_true, decide_eq_true_eq, decide_eq_false_iff_not, Bool.cond_true_left, Bool.cond_false_right, List.cons_append, List.nil_append, List.map_cons, List.map_nil]
      repeat' (first | apply And.intro | intro _hc)
      all_goals first | omega | contradiction | exact AV.le_refl _ | exact AV.le_any _ | exact OLe.refl _ | exact OLe.none _ | exact LeH.refl _ | exact LeL.refl _ | exact AV.le.bs _ | exact AV.le.sb _ | (exfalso; omega) | contradiction
theorem ansChosen {x : KX} {v : Int} (hs : x.gv.length ≤ 100000) : Answers Tryd.prog Γc 27 (AV1 v) x.H (.v (.int .i64 (choI x.gv v))) (x.H.map some) [] := by
  cases h : gvB x.gv v with
  | true =>
    obtain ⟨p, h1, h2, h3, h4, h5⟩ := cho_some h
    rw [h4]
    exact answers (fn := Tryd.f27) (c := bodyOf Tryd.f27) (ntmps := 34) (results := [.tmp 4]) [] (fun _ => LSpec.at [0, 1, 5, 4] [] (S19 x v 0) (O27y x (x.gv.getD p default).s)) false Tryd.func27 (by kernel_rfl) (by kernel_rfl) (by kernel_rfl) (by kernel_rfl) (by simp) rfl (oneLoop (b := lp27) (by kernel_rfl) (loop27y hs h1 h2 h3 0 (Nat.zero_le _))) <| Meets.of (run27y x v (x.gv.getD p default).s) <| by
      simp only [or_true, true_or, false_or, or_false, and_false, false_and, cond_true, cond_false, Bool.not_true, Bool.not_false, Bool.false_eq_true, Bool.true_eq_false, not_true_eq_false, not_false_eq_true, false_implies, true_implies, implies_true, Nat.blt_eq, owesN, owesX, owesR, notT, sat_brT, sat_brF, sat_chkT, cl_iff, cl_false, AV.le_refl, AV.le_any, OLe_refl, OLe_none, sat_brN, Tree.sat_chk, Tree.sat_leaf, Tree.sat_fail, Nat.zero_add, Nat.sub_zero, Int.toNat_natCast, LeH_cons, LeH_nil, LeL_cons, LeL_nil, and_true, true_and, Bool.and_eq_true, Bool.or_eq_true, decide_eq_true_eq, decide_eq_false_iff_not, Bool.cond_true_left, Bool.cond_false_right, List.cons_append, List.nil_append, List.map_cons, List.map_nil]
      repeat' (first | apply And.intro | intro _hc)
      all_goals first | omega | contradiction | exact AV.le_refl _ | exact AV.le_any _ | exact OLe.refl _ | exact OLe.none _ | exact LeH.refl _ | exact LeL.refl _ | exact AV.le.bs _ | exact AV.le.sb _ | (exfalso; omega) | contradiction
  | false =>
    rw [choI_none h]
    exact answers (fn := Tryd.f27) (c := bodyOf Tryd.f27) (ntmps := 34) (results := [.tmp 4]) [] (fun _ => LSpec.at [0, 1, 5, 4] [] (S19 x v 0) (O19n x)) false Tryd.func27 (by kernel_rfl) (by kernel_rfl) (by kernel_rfl) (by kernel_rfl) (by simp) rfl (oneLoop (b := lp27) (by kernel_rfl) (loop27n hs h 0 (Nat.zero_le _))) <| Meets.of (run27n x v) <| by
      simp only [or_true, true_or, false_or, or_false, and_false, false_and, cond_true, cond_false, Bool.not_true, Bool.not_false, Bool.false_eq_true, Bool.true_eq_false, not_true_eq_false, not_false_eq_true, false_implies, true_implies, implies_true, Nat.blt_eq, owesN, owesX, owesR, notT, sat_brT, sat_brF, sat_chkT, cl_iff, cl_false, AV.le_refl, AV.le_any, OLe_refl, OLe_none, sat_brN, Tree.sat_chk, Tree.sat_leaf, Tree.sat_fail, Nat.zero_add, Nat.sub_zero, Int.toNat_natCast, LeH_cons, LeH_nil, LeL_cons, LeL_nil, and_true, true_and, Bool.and_eq_true, Bool.or_eq_true, decide_eq_true_eq, decide_eq_false_iff_not, Bool.cond_true_left, Bool.cond_false_right, List.cons_append, List.nil_append, List.map_cons, List.map_nil]
      repeat' (first | apply And.intro | intro _hc)
      all_goals first | omega | contradiction | exact AV.le_refl _ | exact AV.le_any _ | exact OLe.refl _ | exact OLe.none _ | exact LeH.refl _ | exact LeL.refl _ | exact AV.le.bs _ | exact AV.le.sb _ | (exfalso; omega) | contradiction
noncomputable def k26 : CT Tryd.prog Γc := CT.auto false 100 3 [] 26 Tryd.f26 (bodyOf Tryd.f26) false 9 [.tmp 2] Tryd.func26 (by kernel_rfl) (by kernel_rfl) (by kernel_rfl) (by kernel_rfl)
abbrev Hsn (x : KX) : Prop := x.sn.length ≤ 100000
abbrev Hgv (x : KX) : Prop := x.gv.length ≤ 100000
theorem run12c (x : KX) (v w : Int) (hs : x.sn.length ≤ 100000) (hg : x.gv.length ≤ 100000) : bodyE (P := Tryd.prog) (Γ := Γc) [k26, CoQ.c13, CT.at 27 (ansChosen (x := x) (v := v) hg), CT.at 19 (ansWas (x := x) (v := v) hs)] Lno false 43 [.tmp 6] (bodyOf Tryd.f12) [.ptr 0 0, .v (.int .i64 v), .v (.int .i64 w)] x.H =
  Tree.br (!bif decide ((1 : Int) ≤ v) then decide (v ≤ (1048576 : Int)) else false) (Tree.leaf (Ans.mk (AV.v (Value.int IntKind.i64 (70 : Int))) [some (Blk.row [AV.v (Value.int IntKind.i64
    x.f), AV.hs (1 : Nat) (0 : Nat) (List.length x.gv), AV.hs (2 : Nat) (0 : Nat) (List.length x.sn)]), some (Blk.arr (11 : Nat) (List.length (x.gv ++ x.jg)) (lsF Sh.c (x.gv ++ x.jg))), some
    (Blk.arr (1 : Nat) (List.length (x.sn ++ x.js)) (lsF I64.c (x.sn ++ x.js)))])) (Tree.chk (bif decide (w < (0 : Int)) then true else true) (Tree.br (bif decide (w < (0 : Int)) then true
    else decide (timesF (3 : Int) x.f ≤ w)) (Tree.leaf (Ans.mk (AV.v (Value.int IntKind.i64 (40 : Int))) [some (Blk.row [AV.v (Value.int IntKind.i64 x.f), AV.hs (1 : Nat) (0 : Nat)
    (List.length x.gv), AV.hs (2 : Nat) (0 : Nat) (List.length x.sn)]), some (Blk.arr (11 : Nat) (List.length (x.gv ++ x.jg)) (lsF Sh.c (x.gv ++ x.jg))), some (Blk.arr (1 : Nat) (List.length
    (x.sn ++ x.js)) (lsF I64.c (x.sn ++ x.js)))])) (Tree.chk (cl (LeL [AV.ptr (0 : Nat) (0 : Nat), AV.v (Value.int IntKind.i64 v)] [AV.ptr (0 : Nat) (0 : Nat), AV.v (Value.int IntKind.i64
    v)] ∧ LeH [some (Blk.row [AV.v (Value.int IntKind.i64 x.f), AV.hs (1 : Nat) (0 : Nat) (List.length x.gv), AV.hs (2 : Nat) (0 : Nat) (List.length x.sn)]), some (Blk.arr (11 : Nat)
    (List.length (x.gv ++ x.jg)) (lsF Sh.c (x.gv ++ x.jg))), some (Blk.arr (1 : Nat) (List.length (x.sn ++ x.js)) (lsF I64.c (x.sn ++ x.js)))] [some (Blk.row [AV.v (Value.int IntKind.i64
    x.f), AV.hs (1 : Nat) (0 : Nat) (List.length x.gv), AV.hs (2 : Nat) (0 : Nat) (List.length x.sn)]), some (Blk.arr (11 : Nat) (List.length (x.gv ++ x.jg)) (lsF Sh.c (x.gv ++ x.jg))), some
    (Blk.arr (1 : Nat) (List.length (x.sn ++ x.js)) (lsF I64.c (x.sn ++ x.js)))])) (Tree.br (decide ((0 : Int) ≤ choI x.gv v)) (Tree.leaf (Ans.mk (AV.v (Value.int IntKind.i64 (100 : Int)))
    [some (Blk.row [AV.v (Value.int IntKind.i64 x.f), AV.hs (1 : Nat) (0 : Nat) (List.length x.gv), AV.hs (2 : Nat) (0 : Nat) (List.length x.sn)]), some (Blk.arr (11 : Nat) (List.length
    (x.gv ++ x.jg)) (lsF Sh.c (x.gv ++ x.jg))), some (Blk.arr (1 : Nat) (List.length (x.sn ++ x.js)) (lsF I64.c (x.sn ++ x.js)))])) (Tree.chk (cl (LeL [AV.ptr (0 : Nat) (0 : Nat), AV.v
    (Value.int IntKind.i64 v)] [AV.ptr (0 : Nat) (0 : Nat), AV.v (Value.int IntKind.i64 v)] ∧ LeH [some (Blk.row [AV.v (Value.int IntKind.i64 x.f), AV.hs (1 : Nat) (0 : Nat) (List.length
    x.gv), AV.hs (2 : Nat) (0 : Nat) (List.length x.sn)]), some (Blk.arr (11 : Nat) (List.length (x.gv ++ x.jg)) (lsF Sh.c (x.gv ++ x.jg))), some (Blk.arr (1 : Nat) (List.length (x.sn ++
    x.js)) (lsF I64.c (x.sn ++ x.js)))] [some (Blk.row [AV.v (Value.int IntKind.i64 x.f), AV.hs (1 : Nat) (0 : Nat) (List.length x.gv), AV.hs (2 : Nat) (0 : Nat) (List.length x.sn)]), some
    (Blk.arr (11 : Nat) (List.length (x.gv ++ x.jg)) (lsF Sh.c (x.gv ++ x.jg))), some (Blk.arr (1 : Nat) (List.length (x.sn ++ x.js)) (lsF I64.c (x.sn ++ x.js)))])) (Tree.br (snB x.sn v)
    (Tree.leaf (Ans.mk (AV.v (Value.int IntKind.i64 (100 : Int))) [some (Blk.row [AV.v (Value.int IntKind.i64 x.f), AV.hs (1 : Nat) (0 : Nat) (List.length x.gv), AV.hs (2 : Nat) (0 : Nat)
    (List.length x.sn)]), some (Blk.arr (11 : Nat) (List.length (x.gv ++ x.jg)) (lsF Sh.c (x.gv ++ x.jg))), some (Blk.arr (1 : Nat) (List.length (x.sn ++ x.js)) (lsF I64.c (x.sn ++
    x.js)))])) (Tree.chk (roomOk (88 : Nat) (List.length x.gv + (1 : Nat))) (Tree.leaf (Ans.mk (AV.v (Value.int IntKind.i64 (0 : Int))) [some (Blk.row [AV.v (Value.int IntKind.i64 x.f),
    AV.hs (3 : Nat) (0 : Nat) (List.length x.gv + (1 : Nat)), AV.hs (2 : Nat) (0 : Nat) (List.length x.sn)]), none, some (Blk.arr (1 : Nat) (List.length (x.sn ++ x.js)) (lsF I64.c (x.sn ++
    x.js))), some (Blk.arr (11 : Nat) (List.length x.gv + (1 : Nat)) fun j => mixL (decide (j < List.length x.gv)) (lsF Sh.c (x.gv ++ x.jg) ((0 : Nat) + j)) (chain [AV.v (Value.int
    IntKind.i64 (0 : Int)), AV.v (Value.int IntKind.i64 (0 : Int)), AV.v (Value.int IntKind.i64 (0 : Int)), AV.v (Value.int IntKind.i64 (0 : Int)), AV.v (Value.int IntKind.i64 (0 : Int)),
    AV.v (Value.int IntKind.i64 (0 : Int)), AV.v (Value.int IntKind.i64 (0 : Int)), AV.v (Value.int IntKind.i64 (0 : Int)), AV.v (Value.int IntKind.i64 (0 : Int)), AV.v (Value.int
    IntKind.i64 (0 : Int)), AV.v (Value.int IntKind.i64 (0 : Int))] (0 : Nat) [[AV.v (Value.int IntKind.i64 w), AV.v (Value.int IntKind.i64 (0 : Int)), AV.v (Value.int IntKind.i64 (0 :
    Int)), AV.v (Value.int IntKind.i64 v), AV.v (Value.int IntKind.i64 (0 : Int)), AV.v (Value.int IntKind.i64 (0 : Int)), AV.v (Value.int IntKind.i64 (0 : Int)), AV.v (Value.int IntKind.i64
    (0 : Int)), AV.v (Value.int IntKind.i64 (0 : Int)), AV.v (Value.int IntKind.i64 (0 : Int)), AV.v (Value.int IntKind.i64 (0 : Int))]] ((0 : Nat) + (j - List.length x.gv))))]))))))))) := by kernel_rfl
theorem run33 (x : KX) (v : Int) (hg : x.gv.length ≤ 100000) : bodyE (P := Tryd.prog) (Γ := Γc) [CoQ.c16, CT.at 27 (ansChosen (x := x) (v := v) hg)] Lno false 18 [.tmp 4] (bodyOf Tryd.f33) (AV1 v) x.H =
  Tree.chk (cl (LeL [AV.ptr (0 : Nat) (0 : Nat), AV.v (Value.int IntKind.i64 v)] [AV.ptr (0 : Nat) (0 : Nat), AV.v (Value.int IntKind.i64 v)] ∧ LeH [some (Blk.row [AV.v (Value.int IntKind.i64
    x.f), AV.hs (1 : Nat) (0 : Nat) (List.length x.gv), AV.hs (2 : Nat) (0 : Nat) (List.length x.sn)]), some (Blk.arr (11 : Nat) (List.length (x.gv ++ x.jg)) (lsF Sh.c (x.gv ++ x.jg))), some
    (Blk.arr (1 : Nat) (List.length (x.sn ++ x.js)) (lsF I64.c (x.sn ++ x.js)))] [some (Blk.row [AV.v (Value.int IntKind.i64 x.f), AV.hs (1 : Nat) (0 : Nat) (List.length x.gv), AV.hs (2 :
    Nat) (0 : Nat) (List.length x.sn)]), some (Blk.arr (11 : Nat) (List.length (x.gv ++ x.jg)) (lsF Sh.c (x.gv ++ x.jg))), some (Blk.arr (1 : Nat) (List.length (x.sn ++ x.js)) (lsF I64.c
    (x.sn ++ x.js)))])) (Tree.br (decide (choI x.gv v < (0 : Int))) (Tree.chk true (Tree.leaf (Ans.mk (AV.v (Value.int IntKind.i64 (leadF x.f v))) [some (Blk.row [AV.v (Value.int IntKind.i64
    x.f), AV.hs (1 : Nat) (0 : Nat) (List.length x.gv), AV.hs (2 : Nat) (0 : Nat) (List.length x.sn)]), some (Blk.arr (11 : Nat) (List.length (x.gv ++ x.jg)) (lsF Sh.c (x.gv ++ x.jg))), some
    (Blk.arr (1 : Nat) (List.length (x.sn ++ x.js)) (lsF I64.c (x.sn ++ x.js)))]))) (Tree.leaf (Ans.mk (AV.v (Value.int IntKind.i64 (choI x.gv v))) [some (Blk.row [AV.v (Value.int
    IntKind.i64 x.f), AV.hs (1 : Nat) (0 : Nat) (List.length x.gv), AV.hs (2 : Nat) (0 : Nat) (List.length x.sn)]), some (Blk.arr (11 : Nat) (List.length (x.gv ++ x.jg)) (lsF Sh.c (x.gv ++
    x.jg))), some (Blk.arr (1 : Nat) (List.length (x.sn ++ x.js)) (lsF I64.c (x.sn ++ x.js)))]))) := by kernel_rfl
end Go.Eng.Co

/- coin: the document's answers, second part. -/
namespace Go.Eng.Co
open Go Go.Eng Go.Eng.M Go.Proofs
set_option linter.unusedSimpArgs false
set_option linter.unusedVariables false
/-- every one that was given is a replica -/
def GvOK (f : Int) (gv : List Sh) : Prop := ∀ g ∈ gv, 0 ≤ g.s ∧ g.s < timesF 3 f
theorem GvOK.cho {f : Int} {gv : List Sh} (h : GvOK f gv) {v : Int} (hg : gvB gv v = true) : 0 ≤ choI gv v ∧ choI gv v = whoV f gv v ∧ whoV f gv v < timesF 3 f := by
  obtain ⟨p, h1, _, _, h4, h5⟩ := cho_some hg
  have := h (gv.getD p default) (by rw [getD_get h1]; exact List.getElem_mem h1)
  rw [h4, h5 f]; exact ⟨this.1, rfl, this.2⟩
theorem mayF {v : Int} (h : badV v) : ¬ ((1 : Int) ≤ v ∧ v ≤ (1048576 : Int)) := by
  rcases h with h | h <;> omega
theorem mayT {v : Int} (h : ¬ badV v) : (1 : Int) ≤ v ∧ v ≤ (1048576 : Int) := by
  have h1 := badV_not h
  omega
abbrev AC (v w : Int) : List AV := [.ptr 0 0, .v (.int .i64 v), .v (.int .i64 w)]
theorem ansChoRBad {x : KX} {v w : Int} (hs : x.sn.length ≤ 100000) (hg : x.gv.length ≤ 100000) (h : badV v) : Answers Tryd.prog Γc 12 (AC v w) x.H (.v (.int .i64 70)) (x.H.map some) [] :=
  answers (fn := Tryd.f12) (c := bodyOf Tryd.f12) (ntmps := 43) (results := [.tmp 6]) [k26, CoQ.c13, CT.at 27 (ansChosen (x := x) (v := v) hg), CT.at 19 (ansWas (x := x) (v := v) hs)] Lno false Tryd.func12 (by kernel_rfl) (by kernel_rfl) (by kernel_rfl) (by kernel_rfl) (by simp) rfl (noLoops (by kernel_rfl)) <| Meets.of (run12c x v w hs hg) <| by
    have h2 := mayF h
    simp only [or_true, true_or, false_or, or_false, and_false, false_and, cond_true, cond_false, Bool.not_true, Bool.not_false, Bool.false_eq_true, Bool.true_eq_false, not_true_eq_false, not_false_eq_true, false_implies, true_implies, implies_true, Nat.blt_eq, owesN, owesX, owesR, notT, sat_brT, sat_brF, sat_chkT, cl_iff, cl_false, AV.le_refl, AV.le_any, OLe_refl, OLe_none, sat_brN, Tree.sat_chk, Tree.sat_leaf, Tree.sat_fail, Nat.zero_add, Nat.sub_zero, Int.toNat_natCast, LeH_cons, LeH_nil, LeL_cons, LeL_nil, and_true, true_and, Bool.and_eq_true, Bool.or_eq_true, decide_eq_true_eq, decide_eq_false_iff_not, Bool.cond_true_left, Bool.cond_false_right, List.cons_append, List.nil_append, List.map_cons, List.map_nil, h2]
    repeat' (first | apply And.intro | intro _hc)
    all_goals first | omega | contradiction | exact AV.le_refl _ | exact AV.le_any _ | exact OLe.refl _ | exact OLe.none _ | exact LeH.refl _ | exact LeL.refl _ | exact AV.le.bs _ | exact AV.le.sb _ | (exfalso; omega) | contradiction
theorem ansChoROut {x : KX} {v w : Int} (hs : x.sn.length ≤ 100000) (hg : x.gv.length ≤ 100000) (h : ¬ badV v) (hw : w < 0 ∨ timesF 3 x.f ≤ w) : Answers Tryd.prog Γc 12 (AC v w) x.H (.v (.int .i64 40)) (x.H.map some) [] :=
  answers (fn := Tryd.f12) (c := bodyOf Tryd.f12) (ntmps := 43) (results := [.tmp 6]) [k26, CoQ.c13, CT.at 27 (ansChosen (x := x) (v := v) hg), CT.at 19 (ansWas (x := x) (v := v) hs)] Lno false Tryd.func12 (by kernel_rfl) (by kernel_rfl) (by kernel_rfl) (by kernel_rfl) (by simp) rfl (noLoops (by kernel_rfl)) <| Meets.of (run12c x v w hs hg) <| by
    have h1 := mayT h
    have h2 : w < 0 ∨ timesF 3 x.f ≤ w := hw
    simp only [or_true, true_or, false_or, or_false, and_false, false_and, cond_true, cond_false, Bool.not_true, Bool.not_false, Bool.false_eq_true, Bool.true_eq_false, not_true_eq_false, not_false_eq_true, false_implies, true_implies, implies_true, Nat.blt_eq, owesN, owesX, owesR, notT, sat_brT, sat_brF, sat_chkT, cl_iff, cl_false, AV.le_refl, AV.le_any, OLe_refl, OLe_none, sat_brN, Tree.sat_chk, Tree.sat_leaf, Tree.sat_fail, Nat.zero_add, Nat.sub_zero, Int.toNat_natCast, LeH_cons, LeH_nil, LeL_cons, LeL_nil, and_true, true_and, Bool.and_eq_true, Bool.or_eq_true, decide_eq_true_eq, decide_eq_false_iff_not, Bool.cond_true_left, Bool.cond_false_right, List.cons_append, List.nil_append, List.map_cons, List.map_nil, repT, h1, h2]
    repeat' (first | apply And.intro | intro _hc)
    all_goals first | omega | contradiction | exact AV.le_refl _ | exact AV.le_any _ | exact OLe.refl _ | exact OLe.none _ | exact LeH.refl _ | exact LeL.refl _ | exact AV.le.bs _ | exact AV.le.sb _ | (exfalso; omega) | contradiction
theorem ansChoRThere {x : KX} {v w : Int} (hs : x.sn.length ≤ 100000) (hg : x.gv.length ≤ 100000) (ho : GvOK x.f x.gv) (h : ¬ badV v) (hw : ¬ (w < 0 ∨ timesF 3 x.f ≤ w)) (ht : gvB x.gv v = true ∨ snB x.sn v = true) : Answers Tryd.prog Γc 12 (AC v w) x.H (.v (.int .i64 100)) (x.H.map some) [] :=
  answers (fn := Tryd.f12) (c := bodyOf Tryd.f12) (ntmps := 43) (results := [.tmp 6]) [k26, CoQ.c13, CT.at 27 (ansChosen (x := x) (v := v) hg), CT.at 19 (ansWas (x := x) (v := v) hs)] Lno false Tryd.func12 (by kernel_rfl) (by kernel_rfl) (by kernel_rfl) (by kernel_rfl) (by simp) rfl (noLoops (by kernel_rfl)) <| Meets.of (run12c x v w hs hg) <| by
    have h1 := mayT h
    have h2 : ¬ w < 0 ∧ ¬ timesF 3 x.f ≤ w := ⟨fun h => hw (.inl h), fun h => hw (.inr h)⟩
    cases hv : gvB x.gv v with
    | true =>
      have h3 := (ho.cho hv).1
      simp only [or_true, true_or, false_or, or_false, and_false, false_and, cond_true, cond_false, Bool.not_true, Bool.not_false, Bool.false_eq_true, Bool.true_eq_false, not_true_eq_false, not_false_eq_true, false_implies, true_implies, implies_true, Nat.blt_eq, owesN, owesX, owesR, notT, sat_brT, sat_brF, sat_chkT, cl_iff, cl_false, AV.le_refl, AV.le_any, OLe_refl, OLe_none, sat_brN, Tree.sat_chk, Tree.sat_leaf, Tree.sat_fail, Nat.zero_add, Nat.sub_zero, Int.toNat_natCast, LeH_cons, LeH_nil, LeL_cons, LeL_nil, and_true, true_and, Bool.and_eq_true, Bool.or_eq_true, decide_eq_true_eq, decide_eq_false_iff_not, Bool.cond_true_left, Bool.cond_false_right, List.cons_append, List.nil_append, List.map_cons, List.map_nil, repT, h1, h2, h3]
      repeat' (first | apply And.intro | intro _hc)
      all_goals first | omega | contradiction | exact AV.le_refl _ | exact AV.le_any _ | exact OLe.refl _ | exact OLe.none _ | exact LeH.refl _ | exact LeL.refl _ | exact AV.le.bs _ | exact AV.le.sb _ | (exfalso; omega) | contradiction
    | false =>
      have h3 : ¬ (0 : Int) ≤ choI x.gv v := by rw [choI_none hv]; omega
      have h4 : snB x.sn v = true := by rcases ht with h | h; · rw [hv] at h; cases h
                                        · exact h
      simp only [or_true, true_or, false_or, or_false, and_false, false_and, cond_true, cond_false, Bool.not_true, Bool.not_false, Bool.false_eq_true, Bool.true_eq_false, not_true_eq_false, not_false_eq_true, false_implies, true_implies, implies_true, Nat.blt_eq, owesN, owesX, owesR, notT, sat_brT, sat_brF, sat_chkT, cl_iff, cl_false, AV.le_refl, AV.le_any, OLe_refl, OLe_none, sat_brN, Tree.sat_chk, Tree.sat_leaf, Tree.sat_fail, Nat.zero_add, Nat.sub_zero, Int.toNat_natCast, LeH_cons, LeH_nil, LeL_cons, LeL_nil, and_true, true_and, Bool.and_eq_true, Bool.or_eq_true, decide_eq_true_eq, decide_eq_false_iff_not, Bool.cond_true_left, Bool.cond_false_right, List.cons_append, List.nil_append, List.map_cons, List.map_nil, repT, h1, h2, h3, h4]
      repeat' (first | apply And.intro | intro _hc)
      all_goals first | omega | contradiction | exact AV.le_refl _ | exact AV.le_any _ | exact OLe.refl _ | exact OLe.none _ | exact LeH.refl _ | exact LeL.refl _ | exact AV.le.bs _ | exact AV.le.sb _ | (exfalso; omega) | contradiction
theorem ansChoRNew {x : KX} {v w : Int} (hs : x.sn.length ≤ 100000) (hg : x.gv.length ≤ 100000) (h : ¬ badV v) (hw : ¬ (w < 0 ∨ timesF 3 x.f ≤ w)) (hv : gvB x.gv v = false) (hn : snB x.sn v = false) : Answers Tryd.prog Γc 12 (AC v w) x.H (.v (.int .i64 0)) [some (dcR 3 2 x.f (x.gv ++ [giv w v]) x.sn), none, some (snA (x.sn ++ x.js))] [shB (x.gv ++ [giv w v])] :=
  answers (fn := Tryd.f12) (c := bodyOf Tryd.f12) (ntmps := 43) (results := [.tmp 6]) [k26, CoQ.c13, CT.at 27 (ansChosen (x := x) (v := v) hg), CT.at 19 (ansWas (x := x) (v := v) hs)] Lno false Tryd.func12 (by kernel_rfl) (by kernel_rfl) (by kernel_rfl) (by kernel_rfl) (by simp) rfl (noLoops (by kernel_rfl)) <| Meets.of (run12c x v w hs hg) <| by
    have h1 := mayT h
    have h2 : ¬ w < 0 ∧ ¬ timesF 3 x.f ≤ w := ⟨fun h => hw (.inl h), fun h => hw (.inr h)⟩
    have h3 : ¬ (0 : Int) ≤ choI x.gv v := by rw [choI_none hv]; omega
    have hl : (x.gv ++ [giv w v]).length = x.gv.length + 1 := by simp
    simp only [or_true, true_or, false_or, or_false, and_false, false_and, cond_true, cond_false, Bool.not_true, Bool.not_false, Bool.false_eq_true, Bool.true_eq_false, not_true_eq_false, not_false_eq_true, false_implies, true_implies, implies_true, Nat.blt_eq, owesN, owesX, owesR, notT, sat_brT, sat_brF, sat_chkT, cl_iff, cl_false, AV.le_refl, AV.le_any, OLe_refl, OLe_none, sat_brN, Tree.sat_chk, Tree.sat_leaf, Tree.sat_fail, Nat.zero_add, Nat.sub_zero, Int.toNat_natCast, LeH_cons, LeH_nil, LeL_cons, LeL_nil, and_true, true_and, Bool.and_eq_true, Bool.or_eq_true, decide_eq_true_eq, decide_eq_false_iff_not, Bool.cond_true_left, Bool.cond_false_right, List.cons_append, List.nil_append, List.map_cons, List.map_nil, repT, h1, h2, h3, hn]
    repeat' (first | apply And.intro | intro _hc)
    all_goals first | omega | contradiction | exact AV.le_refl _ | exact AV.le_any _ | exact OLe.refl _ | exact OLe.none _ | exact LeH.refl _ | exact LeL.refl _ | exact AV.le.bs _ | exact AV.le.sb _ | exact room88 (by omega) | ((unfold dcR; rw [hl]; exact OLe.refl _)) | exact Sh.cod.app1 x.gv x.jg (giv w v) default rfl rfl | exact Sh.cod.app2 x.gv x.jg (giv w v) default default rfl rfl | (exfalso; omega) | contradiction
theorem ansWho {x : KX} {v : Int} (hg : x.gv.length ≤ 100000) (ho : GvOK x.f x.gv) : Answers Tryd.prog Γc 33 (AV1 v) x.H (.v (.int .i64 (whoV x.f x.gv v))) (x.H.map some) [] :=
  answers (fn := Tryd.f33) (c := bodyOf Tryd.f33) (ntmps := 18) (results := [.tmp 4]) [CoQ.c16, CT.at 27 (ansChosen (x := x) (v := v) hg)] Lno false Tryd.func33 (by kernel_rfl) (by kernel_rfl) (by kernel_rfl) (by kernel_rfl) (by simp) rfl (noLoops (by kernel_rfl)) <| Meets.of (run33 x v hg) <| by
    cases hv : gvB x.gv v with
    | true =>
      obtain ⟨h3, h4, _⟩ := ho.cho hv
      have h5 : ¬ choI x.gv v < 0 := by omega
      simp only [or_true, true_or, false_or, or_false, and_false, false_and, cond_true, cond_false, Bool.not_true, Bool.not_false, Bool.false_eq_true, Bool.true_eq_false, not_true_eq_false, not_false_eq_true, false_implies, true_implies, implies_true, Nat.blt_eq, owesN, owesX, owesR, notT, sat_brT, sat_brF, sat_chkT, cl_iff, cl_false, AV.le_refl, AV.le_any, OLe_refl, OLe_none, sat_brN, Tree.sat_chk, Tree.sat_leaf, Tree.sat_fail, Nat.zero_add, Nat.sub_zero, Int.toNat_natCast, LeH_cons, LeH_nil, LeL_cons, LeL_nil, and_true, true_and, Bool.and_eq_true, Bool.or_eq_true, decide_eq_true_eq, decide_eq_false_iff_not, Bool.cond_true_left, Bool.cond_false_right, List.cons_append, List.nil_append, List.map_cons, List.map_nil, h5, h4]
      repeat' (first | apply And.intro | intro _hc)
      all_goals first | omega | contradiction | exact AV.le_refl _ | exact AV.le_any _ | exact OLe.refl _ | exact OLe.none _ | exact LeH.refl _ | exact LeL.refl _ | exact AV.le.bs _ | exact AV.le.sb _ | (exfalso; omega) | contradiction
    | false =>
      have h3 := choI_none hv
      have h4 := whoV_none (f := x.f) hv
      simp only [or_true, true_or, false_or, or_false, and_false, false_and, cond_true, cond_false, Bool.not_true, Bool.not_false, Bool.false_eq_true, Bool.true_eq_false, not_true_eq_false, not_false_eq_true, false_implies, true_implies, implies_true, Nat.blt_eq, owesN, owesX, owesR, notT, sat_brT, sat_brF, sat_chkT, cl_iff, cl_false, AV.le_refl, AV.le_any, OLe_refl, OLe_none, sat_brN, Tree.sat_chk, Tree.sat_leaf, Tree.sat_fail, Nat.zero_add, Nat.sub_zero, Int.toNat_natCast, LeH_cons, LeH_nil, LeL_cons, LeL_nil, and_true, true_and, Bool.and_eq_true, Bool.or_eq_true, decide_eq_true_eq, decide_eq_false_iff_not, Bool.cond_true_left, Bool.cond_false_right, List.cons_append, List.nil_append, List.map_cons, List.map_nil, h3, h4]
      repeat' (first | apply And.intro | intro _hc)
      all_goals first | omega | contradiction | exact AV.le_refl _ | exact AV.le_any _ | exact OLe.refl _ | exact OLe.none _ | exact LeH.refl _ | exact LeL.refl _ | exact AV.le.bs _ | exact AV.le.sb _ | (exfalso; omega) | contradiction
theorem ansWho0 {f v : Int} {gv jg : List Sh} {sn : List Int} (hg : gv.length ≤ 100000) (ho : GvOK f gv) : Answers Tryd.prog Γc 33 (AV1 v) [dcR 1 2 f gv sn, shB (gv ++ jg), snA sn] (.v (.int .i64 (whoV f gv v))) [some (dcR 1 2 f gv sn), some (shB (gv ++ jg)), some (snA sn)] [] := by
  have := ansWho (x := ⟨f, gv, jg, sn, []⟩) (v := v) hg ho
  simp only [KX.H, KH, List.append_nil, List.map] at this
  exact this
/-- the document's coin and its register -/
abbrev KD (x : KX) (o bad : Int) (l j : List Sh) : List Blk := x.H ++ [sgD 4 o bad l.length, shB (l ++ j)]
abbrev AR (v s : Int) : List AV := [.ptr 0 0, .ptr 3 0, .v (.int .i64 v), .v (.int .u32 s)]
theorem some1 {f : Int} (h : timesF 3 f ≠ 0) : IntKind.wrap .i64 (f + 1) = timesF 1 f := by
  have h1 : ¬ (f < 1 ∨ 3 < f) := fun h2 => h (times_zero.2 h2)
  rw [timesF, if_neg h1, wrap64E]; omega
theorem ansEnoughR' {s e : Int} {st : St} {f bad : Int} {l j : List Sh} (hf : timesF 3 f ≠ 0) (hu : inU32 s = true) (hb : inU32 bad = true) (hs : l.length ≤ 100000) (h : EnE s (timesF 1 f) st f bad l e) : Answers Tryd.prog Γc 32 (A17 s (IntKind.wrap .i64 (f + 1)) st) (DH f bad l j) (.v (.int .i64 e)) ((DH f bad l j).map some) [] := by
  rw [some1 hf]; exact ansEnoughR hu hb hs h
theorem run14a (x : KX) (v s o bad : Int) (l j : List Sh) : bodyE (P := Tryd.prog) (Γ := Γc) [k26] Lno false 53 [.tmp 8, .tmp 9] (bodyOf Tryd.f14) (AR v s) (KD x o bad l j) =
  Tree.br (!bif decide ((1 : Int) ≤ v) then decide (v ≤ (1048576 : Int)) else false) (Tree.leaf (Ans.mk (AV.tup [AV.v (Value.int IntKind.i64 (0 : Int)), AV.v (Value.int IntKind.i64 (70 :
    Int))]) [some (Blk.row [AV.v (Value.int IntKind.i64 x.f), AV.hs (1 : Nat) (0 : Nat) (List.length x.gv), AV.hs (2 : Nat) (0 : Nat) (List.length x.sn)]), some (Blk.arr (11 : Nat)
    (List.length (x.gv ++ x.jg)) (lsF Sh.c (x.gv ++ x.jg))), some (Blk.arr (1 : Nat) (List.length (x.sn ++ x.js)) (lsF I64.c (x.sn ++ x.js))), some (Blk.row [AV.v (Value.int IntKind.i64 o),
    AV.v (Value.int IntKind.u32 bad), AV.hs (4 : Nat) (0 : Nat) (List.length l)]), some (Blk.arr (11 : Nat) (List.length (l ++ j)) (lsF Sh.c (l ++ j)))])) (Tree.br (!decide (o = x.f))
    (Tree.leaf (Ans.mk (AV.tup [AV.v (Value.int IntKind.i64 (0 : Int)), AV.v (Value.int IntKind.i64 (1 : Int))]) [some (Blk.row [AV.v (Value.int IntKind.i64 x.f), AV.hs (1 : Nat) (0 : Nat)
    (List.length x.gv), AV.hs (2 : Nat) (0 : Nat) (List.length x.sn)]), some (Blk.arr (11 : Nat) (List.length (x.gv ++ x.jg)) (lsF Sh.c (x.gv ++ x.jg))), some (Blk.arr (1 : Nat) (List.length
    (x.sn ++ x.js)) (lsF I64.c (x.sn ++ x.js))), some (Blk.row [AV.v (Value.int IntKind.i64 o), AV.v (Value.int IntKind.u32 bad), AV.hs (4 : Nat) (0 : Nat) (List.length l)]), some (Blk.arr
    (11 : Nat) (List.length (l ++ j)) (lsF Sh.c (l ++ j)))])) Tree.fail) := by kernel_rfl
theorem run14e (x : KX) (v s e bad : Int) (l j : List Sh) (h : Answers Tryd.prog Γc 32 (A17 s (IntKind.wrap .i64 (x.f + 1)) (stC v)) (DH x.f bad l j) (.v (.int .i64 e)) ((DH x.f bad l j).map some) []) (hs : x.sn.length ≤ 100000) (hg : x.gv.length ≤ 100000) (ho : GvOK x.f x.gv) : bodyE (P := Tryd.prog) (Γ := Γc) [k26, CT.at 32 h, CT.at 19 (ansWas (x := x) (v := v) hs), CT.at 33 (ansWho (x := x) (v := v) hg ho)] Lno false 53 [.tmp 8, .tmp 9] (bodyOf Tryd.f14) (AR v s) (KD x x.f bad l j) =
  Tree.br (!bif decide ((1 : Int) ≤ v) then decide (v ≤ (1048576 : Int)) else false) (Tree.leaf (Ans.mk (AV.tup [AV.v (Value.int IntKind.i64 (0 : Int)), AV.v (Value.int IntKind.i64 (70 :
    Int))]) [some (Blk.row [AV.v (Value.int IntKind.i64 x.f), AV.hs (1 : Nat) (0 : Nat) (List.length x.gv), AV.hs (2 : Nat) (0 : Nat) (List.length x.sn)]), some (Blk.arr (11 : Nat)
    (List.length (x.gv ++ x.jg)) (lsF Sh.c (x.gv ++ x.jg))), some (Blk.arr (1 : Nat) (List.length (x.sn ++ x.js)) (lsF I64.c (x.sn ++ x.js))), some (Blk.row [AV.v (Value.int IntKind.i64
    x.f), AV.v (Value.int IntKind.u32 bad), AV.hs (4 : Nat) (0 : Nat) (List.length l)]), some (Blk.arr (11 : Nat) (List.length (l ++ j)) (lsF Sh.c (l ++ j)))])) (Tree.br (!decide (x.f =
    x.f)) (Tree.leaf (Ans.mk (AV.tup [AV.v (Value.int IntKind.i64 (0 : Int)), AV.v (Value.int IntKind.i64 (1 : Int))]) [some (Blk.row [AV.v (Value.int IntKind.i64 x.f), AV.hs (1 : Nat) (0 :
    Nat) (List.length x.gv), AV.hs (2 : Nat) (0 : Nat) (List.length x.sn)]), some (Blk.arr (11 : Nat) (List.length (x.gv ++ x.jg)) (lsF Sh.c (x.gv ++ x.jg))), some (Blk.arr (1 : Nat)
    (List.length (x.sn ++ x.js)) (lsF I64.c (x.sn ++ x.js))), some (Blk.row [AV.v (Value.int IntKind.i64 x.f), AV.v (Value.int IntKind.u32 bad), AV.hs (4 : Nat) (0 : Nat) (List.length l)]),
    some (Blk.arr (11 : Nat) (List.length (l ++ j)) (lsF Sh.c (l ++ j)))])) (Tree.chk (cl (LeL [AV.ptr (0 : Nat) (0 : Nat), AV.agg [AV.v (Value.int IntKind.i64 (5 : Int)), AV.v (Value.int
    IntKind.i64 (0 : Int)), AV.v (Value.int IntKind.i64 v), AV.v (Value.int IntKind.i64 (0 : Int)), AV.v (Value.int IntKind.i64 (0 : Int)), AV.v (Value.int IntKind.i64 (0 : Int)), AV.v
    (Value.int IntKind.i64 (0 : Int)), AV.v (Value.int IntKind.i64 (0 : Int)), AV.v (Value.int IntKind.i64 (0 : Int)), AV.v (Value.int IntKind.i64 (0 : Int))], AV.v (Value.int IntKind.u32
    s), AV.v (Value.int IntKind.i64 (IntKind.wrap IntKind.i64 (x.f + (1 : Int))))] [AV.ptr (0 : Nat) (0 : Nat), AV.agg [AV.v (Value.int IntKind.i64 (5 : Int)), AV.v (Value.int IntKind.i64 (0
    : Int)), AV.v (Value.int IntKind.i64 v), AV.v (Value.int IntKind.i64 (0 : Int)), AV.v (Value.int IntKind.i64 (0 : Int)), AV.v (Value.int IntKind.i64 (0 : Int)), AV.v (Value.int
    IntKind.i64 (0 : Int)), AV.v (Value.int IntKind.i64 (0 : Int)), AV.v (Value.int IntKind.i64 (0 : Int)), AV.v (Value.int IntKind.i64 (0 : Int))], AV.v (Value.int IntKind.u32 s), AV.v
    (Value.int IntKind.i64 (IntKind.wrap IntKind.i64 (x.f + (1 : Int))))] ∧ LeH [some (Blk.row [AV.v (Value.int IntKind.i64 x.f), AV.v (Value.int IntKind.u32 bad), AV.hs (1 : Nat) (0 : Nat)
    (List.length l)]), some (Blk.arr (11 : Nat) (List.length (l ++ j)) (lsF Sh.c (l ++ j)))] [some (Blk.row [AV.v (Value.int IntKind.i64 x.f), AV.v (Value.int IntKind.u32 bad), AV.hs (1 :
    Nat) (0 : Nat) (List.length l)]), some (Blk.arr (11 : Nat) (List.length (l ++ j)) (lsF Sh.c (l ++ j)))])) (Tree.br (!decide (e = (0 : Int))) (Tree.leaf (Ans.mk (AV.tup [AV.v (Value.int
    IntKind.i64 (0 : Int)), AV.v (Value.int IntKind.i64 e)]) [some (Blk.row [AV.v (Value.int IntKind.i64 x.f), AV.hs (1 : Nat) (0 : Nat) (List.length x.gv), AV.hs (2 : Nat) (0 : Nat)
    (List.length x.sn)]), some (Blk.arr (11 : Nat) (List.length (x.gv ++ x.jg)) (lsF Sh.c (x.gv ++ x.jg))), some (Blk.arr (1 : Nat) (List.length (x.sn ++ x.js)) (lsF I64.c (x.sn ++ x.js))),
    some (Blk.row [AV.v (Value.int IntKind.i64 x.f), AV.v (Value.int IntKind.u32 bad), AV.hs (4 : Nat) (0 : Nat) (List.length l)]), some (Blk.arr (11 : Nat) (List.length (l ++ j)) (lsF Sh.c
    (l ++ j)))])) (Tree.chk (cl (LeL [AV.ptr (0 : Nat) (0 : Nat), AV.v (Value.int IntKind.i64 v)] [AV.ptr (0 : Nat) (0 : Nat), AV.v (Value.int IntKind.i64 v)] ∧ LeH [some (Blk.row [AV.v
    (Value.int IntKind.i64 x.f), AV.hs (1 : Nat) (0 : Nat) (List.length x.gv), AV.hs (2 : Nat) (0 : Nat) (List.length x.sn)]), some (Blk.arr (11 : Nat) (List.length (x.gv ++ x.jg)) (lsF Sh.c
    (x.gv ++ x.jg))), some (Blk.arr (1 : Nat) (List.length (x.sn ++ x.js)) (lsF I64.c (x.sn ++ x.js)))] [some (Blk.row [AV.v (Value.int IntKind.i64 x.f), AV.hs (1 : Nat) (0 : Nat)
    (List.length x.gv), AV.hs (2 : Nat) (0 : Nat) (List.length x.sn)]), some (Blk.arr (11 : Nat) (List.length (x.gv ++ x.jg)) (lsF Sh.c (x.gv ++ x.jg))), some (Blk.arr (1 : Nat) (List.length
    (x.sn ++ x.js)) (lsF I64.c (x.sn ++ x.js)))])) (Tree.br (!snB x.sn v) (Tree.chk (roomOk (8 : Nat) (List.length x.sn + (1 : Nat))) (Tree.chk (cl (LeL [AV.ptr (0 : Nat) (0 : Nat), AV.v
    (Value.int IntKind.i64 v)] [AV.ptr (0 : Nat) (0 : Nat), AV.v (Value.int IntKind.i64 v)] ∧ LeH [some (Blk.row [AV.v (Value.int IntKind.i64 x.f), AV.hs (1 : Nat) (0 : Nat) (List.length
    x.gv), AV.hs (2 : Nat) (0 : Nat) (List.length x.sn + (1 : Nat))]), some (Blk.arr (11 : Nat) (List.length (x.gv ++ x.jg)) (lsF Sh.c (x.gv ++ x.jg))), some (Blk.arr (1 : Nat) (List.length
    x.sn + (1 : Nat)) fun j => mixL (decide (j < List.length x.sn)) (lsF I64.c (x.sn ++ x.js) ((0 : Nat) + j)) (chain [AV.v (Value.int IntKind.i64 (0 : Int))] (0 : Nat) [[AV.v (Value.int
    IntKind.i64 v)]] ((0 : Nat) + (j - List.length x.sn))))] [some (Blk.row [AV.v (Value.int IntKind.i64 x.f), AV.hs (1 : Nat) (0 : Nat) (List.length x.gv), AV.hs (2 : Nat) (0 : Nat)
    (List.length x.sn)]), some (Blk.arr (11 : Nat) (List.length (x.gv ++ x.jg)) (lsF Sh.c (x.gv ++ x.jg))), some (Blk.arr (1 : Nat) (List.length (x.sn ++ x.js)) (lsF I64.c (x.sn ++
    x.js)))])) (Tree.leaf (Ans.mk (AV.tup [AV.v (Value.int IntKind.i64 (whoV x.f x.gv v)), AV.v (Value.int IntKind.i64 (0 : Int))]) [some (Blk.row [AV.v (Value.int IntKind.i64 x.f), AV.hs (1
    : Nat) (0 : Nat) (List.length x.gv), AV.hs (5 : Nat) (0 : Nat) (List.length x.sn)]), some (Blk.arr (11 : Nat) (List.length (x.gv ++ x.jg)) (lsF Sh.c (x.gv ++ x.jg))), none, some (Blk.row
    [AV.v (Value.int IntKind.i64 x.f), AV.v (Value.int IntKind.u32 bad), AV.hs (4 : Nat) (0 : Nat) (List.length l)]), some (Blk.arr (11 : Nat) (List.length (l ++ j)) (lsF Sh.c (l ++ j))),
    some (Blk.arr (1 : Nat) (List.length (x.sn ++ x.js)) (lsF I64.c (x.sn ++ x.js)))])))) (Tree.chk (cl (LeL [AV.ptr (0 : Nat) (0 : Nat), AV.v (Value.int IntKind.i64 v)] [AV.ptr (0 : Nat) (0
    : Nat), AV.v (Value.int IntKind.i64 v)] ∧ LeH [some (Blk.row [AV.v (Value.int IntKind.i64 x.f), AV.hs (1 : Nat) (0 : Nat) (List.length x.gv), AV.hs (2 : Nat) (0 : Nat) (List.length
    x.sn)]), some (Blk.arr (11 : Nat) (List.length (x.gv ++ x.jg)) (lsF Sh.c (x.gv ++ x.jg))), some (Blk.arr (1 : Nat) (List.length (x.sn ++ x.js)) (lsF I64.c (x.sn ++ x.js)))] [some
    (Blk.row [AV.v (Value.int IntKind.i64 x.f), AV.hs (1 : Nat) (0 : Nat) (List.length x.gv), AV.hs (2 : Nat) (0 : Nat) (List.length x.sn)]), some (Blk.arr (11 : Nat) (List.length (x.gv ++
    x.jg)) (lsF Sh.c (x.gv ++ x.jg))), some (Blk.arr (1 : Nat) (List.length (x.sn ++ x.js)) (lsF I64.c (x.sn ++ x.js)))])) (Tree.leaf (Ans.mk (AV.tup [AV.v (Value.int IntKind.i64 (whoV x.f
    x.gv v)), AV.v (Value.int IntKind.i64 (0 : Int))]) [some (Blk.row [AV.v (Value.int IntKind.i64 x.f), AV.hs (1 : Nat) (0 : Nat) (List.length x.gv), AV.hs (2 : Nat) (0 : Nat) (List.length
    x.sn)]), some (Blk.arr (11 : Nat) (List.length (x.gv ++ x.jg)) (lsF Sh.c (x.gv ++ x.jg))), some (Blk.arr (1 : Nat) (List.length (x.sn ++ x.js)) (lsF I64.c (x.sn ++ x.js))), some (Blk.row
    [AV.v (Value.int IntKind.i64 x.f), AV.v (Value.int IntKind.u32 bad), AV.hs (4 : Nat) (0 : Nat) (List.length l)]), some (Blk.arr (11 : Nat) (List.length (l ++ j)) (lsF Sh.c (l ++
    j)))])))))))) := by kernel_rfl
theorem run14w (x : KX) (v s e bad : Int) (l j : List Sh) (h : Answers Tryd.prog Γc 32 (A17 s (IntKind.wrap .i64 (x.f + 1)) (stC v)) (DH x.f bad l j) (.v (.int .i64 e)) ((DH x.f bad l j).map some) []) (hs : x.sn.length ≤ 100000) (hg : x.gv.length ≤ 100000) (ho : GvOK x.f x.gv) : bodyE (P := Tryd.prog) (Γ := Γc) [k26, CT.at 32 h, CT.at 19 (ansWas (x := x) (v := v) hs), CT.at 33 (ansWho0 (f := x.f) (gv := x.gv) (jg := x.jg) (sn := x.sn ++ [v]) (v := v) hg ho)] Lno false 53 [.tmp 8, .tmp 9] (bodyOf Tryd.f14) (AR v s) (KD x x.f bad l j) =
  Tree.br (!bif decide ((1 : Int) ≤ v) then decide (v ≤ (1048576 : Int)) else false) (Tree.leaf (Ans.mk (AV.tup [AV.v (Value.int IntKind.i64 (0 : Int)), AV.v (Value.int IntKind.i64 (70 :
    Int))]) [some (Blk.row [AV.v (Value.int IntKind.i64 x.f), AV.hs (1 : Nat) (0 : Nat) (List.length x.gv), AV.hs (2 : Nat) (0 : Nat) (List.length x.sn)]), some (Blk.arr (11 : Nat)
    (List.length (x.gv ++ x.jg)) (lsF Sh.c (x.gv ++ x.jg))), some (Blk.arr (1 : Nat) (List.length (x.sn ++ x.js)) (lsF I64.c (x.sn ++ x.js))), some (Blk.row [AV.v (Value.int IntKind.i64
    x.f), AV.v (Value.int IntKind.u32 bad), AV.hs (4 : Nat) (0 : Nat) (List.length l)]), some (Blk.arr (11 : Nat) (List.length (l ++ j)) (lsF Sh.c (l ++ j)))])) (Tree.br (!decide (x.f =
    x.f)) (Tree.leaf (Ans.mk (AV.tup [AV.v (Value.int IntKind.i64 (0 : Int)), AV.v (Value.int IntKind.i64 (1 : Int))]) [some (Blk.row [AV.v (Value.int IntKind.i64 x.f), AV.hs (1 : Nat) (0 :
    Nat) (List.length x.gv), AV.hs (2 : Nat) (0 : Nat) (List.length x.sn)]), some (Blk.arr (11 : Nat) (List.length (x.gv ++ x.jg)) (lsF Sh.c (x.gv ++ x.jg))), some (Blk.arr (1 : Nat)
    (List.length (x.sn ++ x.js)) (lsF I64.c (x.sn ++ x.js))), some (Blk.row [AV.v (Value.int IntKind.i64 x.f), AV.v (Value.int IntKind.u32 bad), AV.hs (4 : Nat) (0 : Nat) (List.length l)]),
    some (Blk.arr (11 : Nat) (List.length (l ++ j)) (lsF Sh.c (l ++ j)))])) (Tree.chk (cl (LeL [AV.ptr (0 : Nat) (0 : Nat), AV.agg [AV.v (Value.int IntKind.i64 (5 : Int)), AV.v (Value.int
    IntKind.i64 (0 : Int)), AV.v (Value.int IntKind.i64 v), AV.v (Value.int IntKind.i64 (0 : Int)), AV.v (Value.int IntKind.i64 (0 : Int)), AV.v (Value.int IntKind.i64 (0 : Int)), AV.v
    (Value.int IntKind.i64 (0 : Int)), AV.v (Value.int IntKind.i64 (0 : Int)), AV.v (Value.int IntKind.i64 (0 : Int)), AV.v (Value.int IntKind.i64 (0 : Int))], AV.v (Value.int IntKind.u32
    s), AV.v (Value.int IntKind.i64 (IntKind.wrap IntKind.i64 (x.f + (1 : Int))))] [AV.ptr (0 : Nat) (0 : Nat), AV.agg [AV.v (Value.int IntKind.i64 (5 : Int)), AV.v (Value.int IntKind.i64 (0
    : Int)), AV.v (Value.int IntKind.i64 v), AV.v (Value.int IntKind.i64 (0 : Int)), AV.v (Value.int IntKind.i64 (0 : Int)), AV.v (Value.int IntKind.i64 (0 : Int)), AV.v (Value.int
    IntKind.i64 (0 : Int)), AV.v (Value.int IntKind.i64 (0 : Int)), AV.v (Value.int IntKind.i64 (0 : Int)), AV.v (Value.int IntKind.i64 (0 : Int))], AV.v (Value.int IntKind.u32 s), AV.v
    (Value.int IntKind.i64 (IntKind.wrap IntKind.i64 (x.f + (1 : Int))))] ∧ LeH [some (Blk.row [AV.v (Value.int IntKind.i64 x.f), AV.v (Value.int IntKind.u32 bad), AV.hs (1 : Nat) (0 : Nat)
    (List.length l)]), some (Blk.arr (11 : Nat) (List.length (l ++ j)) (lsF Sh.c (l ++ j)))] [some (Blk.row [AV.v (Value.int IntKind.i64 x.f), AV.v (Value.int IntKind.u32 bad), AV.hs (1 :
    Nat) (0 : Nat) (List.length l)]), some (Blk.arr (11 : Nat) (List.length (l ++ j)) (lsF Sh.c (l ++ j)))])) (Tree.br (!decide (e = (0 : Int))) (Tree.leaf (Ans.mk (AV.tup [AV.v (Value.int
    IntKind.i64 (0 : Int)), AV.v (Value.int IntKind.i64 e)]) [some (Blk.row [AV.v (Value.int IntKind.i64 x.f), AV.hs (1 : Nat) (0 : Nat) (List.length x.gv), AV.hs (2 : Nat) (0 : Nat)
    (List.length x.sn)]), some (Blk.arr (11 : Nat) (List.length (x.gv ++ x.jg)) (lsF Sh.c (x.gv ++ x.jg))), some (Blk.arr (1 : Nat) (List.length (x.sn ++ x.js)) (lsF I64.c (x.sn ++ x.js))),
    some (Blk.row [AV.v (Value.int IntKind.i64 x.f), AV.v (Value.int IntKind.u32 bad), AV.hs (4 : Nat) (0 : Nat) (List.length l)]), some (Blk.arr (11 : Nat) (List.length (l ++ j)) (lsF Sh.c
    (l ++ j)))])) (Tree.chk (cl (LeL [AV.ptr (0 : Nat) (0 : Nat), AV.v (Value.int IntKind.i64 v)] [AV.ptr (0 : Nat) (0 : Nat), AV.v (Value.int IntKind.i64 v)] ∧ LeH [some (Blk.row [AV.v
    (Value.int IntKind.i64 x.f), AV.hs (1 : Nat) (0 : Nat) (List.length x.gv), AV.hs (2 : Nat) (0 : Nat) (List.length x.sn)]), some (Blk.arr (11 : Nat) (List.length (x.gv ++ x.jg)) (lsF Sh.c
    (x.gv ++ x.jg))), some (Blk.arr (1 : Nat) (List.length (x.sn ++ x.js)) (lsF I64.c (x.sn ++ x.js)))] [some (Blk.row [AV.v (Value.int IntKind.i64 x.f), AV.hs (1 : Nat) (0 : Nat)
    (List.length x.gv), AV.hs (2 : Nat) (0 : Nat) (List.length x.sn)]), some (Blk.arr (11 : Nat) (List.length (x.gv ++ x.jg)) (lsF Sh.c (x.gv ++ x.jg))), some (Blk.arr (1 : Nat) (List.length
    (x.sn ++ x.js)) (lsF I64.c (x.sn ++ x.js)))])) (Tree.br (!snB x.sn v) (Tree.chk (roomOk (8 : Nat) (List.length x.sn + (1 : Nat))) (Tree.chk (cl (LeL [AV.ptr (0 : Nat) (0 : Nat), AV.v
    (Value.int IntKind.i64 v)] [AV.ptr (0 : Nat) (0 : Nat), AV.v (Value.int IntKind.i64 v)] ∧ LeH [some (Blk.row [AV.v (Value.int IntKind.i64 x.f), AV.hs (1 : Nat) (0 : Nat) (List.length
    x.gv), AV.hs (2 : Nat) (0 : Nat) (List.length x.sn + (1 : Nat))]), some (Blk.arr (11 : Nat) (List.length (x.gv ++ x.jg)) (lsF Sh.c (x.gv ++ x.jg))), some (Blk.arr (1 : Nat) (List.length
    x.sn + (1 : Nat)) fun j => mixL (decide (j < List.length x.sn)) (lsF I64.c (x.sn ++ x.js) ((0 : Nat) + j)) (chain [AV.v (Value.int IntKind.i64 (0 : Int))] (0 : Nat) [[AV.v (Value.int
    IntKind.i64 v)]] ((0 : Nat) + (j - List.length x.sn))))] [some (Blk.row [AV.v (Value.int IntKind.i64 x.f), AV.hs (1 : Nat) (0 : Nat) (List.length x.gv), AV.hs (2 : Nat) (0 : Nat)
    (List.length (x.sn ++ [v]))]), some (Blk.arr (11 : Nat) (List.length (x.gv ++ x.jg)) (lsF Sh.c (x.gv ++ x.jg))), some (Blk.arr (1 : Nat) (List.length (x.sn ++ [v])) (lsF I64.c (x.sn ++
    [v])))])) (Tree.leaf (Ans.mk (AV.tup [AV.v (Value.int IntKind.i64 (whoV x.f x.gv v)), AV.v (Value.int IntKind.i64 (0 : Int))]) [some (Blk.row [AV.v (Value.int IntKind.i64 x.f), AV.hs (1
    : Nat) (0 : Nat) (List.length x.gv), AV.hs (5 : Nat) (0 : Nat) (List.length (x.sn ++ [v]))]), some (Blk.arr (11 : Nat) (List.length (x.gv ++ x.jg)) (lsF Sh.c (x.gv ++ x.jg))), none, some
    (Blk.row [AV.v (Value.int IntKind.i64 x.f), AV.v (Value.int IntKind.u32 bad), AV.hs (4 : Nat) (0 : Nat) (List.length l)]), some (Blk.arr (11 : Nat) (List.length (l ++ j)) (lsF Sh.c (l ++
    j))), some (Blk.arr (1 : Nat) (List.length (x.sn ++ [v])) (lsF I64.c (x.sn ++ [v])))])))) (Tree.chk (cl (LeL [AV.ptr (0 : Nat) (0 : Nat), AV.v (Value.int IntKind.i64 v)] [AV.ptr (0 :
    Nat) (0 : Nat), AV.v (Value.int IntKind.i64 v)] ∧ LeH [some (Blk.row [AV.v (Value.int IntKind.i64 x.f), AV.hs (1 : Nat) (0 : Nat) (List.length x.gv), AV.hs (2 : Nat) (0 : Nat)
    (List.length x.sn)]), some (Blk.arr (11 : Nat) (List.length (x.gv ++ x.jg)) (lsF Sh.c (x.gv ++ x.jg))), some (Blk.arr (1 : Nat) (List.length (x.sn ++ x.js)) (lsF I64.c (x.sn ++ x.js)))]
    [some (Blk.row [AV.v (Value.int IntKind.i64 x.f), AV.hs (1 : Nat) (0 : Nat) (List.length x.gv), AV.hs (2 : Nat) (0 : Nat) (List.length (x.sn ++ [v]))]), some (Blk.arr (11 : Nat)
    (List.length (x.gv ++ x.jg)) (lsF Sh.c (x.gv ++ x.jg))), some (Blk.arr (1 : Nat) (List.length (x.sn ++ [v])) (lsF I64.c (x.sn ++ [v])))])) (Tree.leaf (Ans.mk (AV.tup [AV.v (Value.int
    IntKind.i64 (whoV x.f x.gv v)), AV.v (Value.int IntKind.i64 (0 : Int))]) [some (Blk.row [AV.v (Value.int IntKind.i64 x.f), AV.hs (1 : Nat) (0 : Nat) (List.length x.gv), AV.hs (2 : Nat)
    (0 : Nat) (List.length (x.sn ++ [v]))]), some (Blk.arr (11 : Nat) (List.length (x.gv ++ x.jg)) (lsF Sh.c (x.gv ++ x.jg))), some (Blk.arr (1 : Nat) (List.length (x.sn ++ [v])) (lsF I64.c
    (x.sn ++ [v]))), some (Blk.row [AV.v (Value.int IntKind.i64 x.f), AV.v (Value.int IntKind.u32 bad), AV.hs (4 : Nat) (0 : Nat) (List.length l)]), some (Blk.arr (11 : Nat) (List.length (l
    ++ j)) (lsF Sh.c (l ++ j)))])))))))) := by kernel_rfl
end Go.Eng.Co

/- coin: what both laws need. -/
namespace Go.Eng.Co
open Go Go.Eng Go.Eng.M Go.Proofs
set_option linter.unusedSimpArgs false
set_option linter.unusedVariables false
structure Ac where
  k : Int
  v : Int
  w : Int
  set : Int
instance : Inhabited Ac := ⟨⟨0, 0, 0, 0⟩⟩
def Ac.c (x : Ac) : List AV := [.v (.int .i64 x.k), .v (.int .i64 x.v), .v (.int .i64 x.w), .v (.int .u32 x.set)]
def Ac.cells (x : Ac) : List Value := [.int .i64 x.k, .int .i64 x.v, .int .i64 x.w, .int .u32 x.set]
theorem Ac.cod : Cod Ac.c 4 := ⟨fun _ => rfl, fun b x y => by cases b <;> rfl⟩
theorem Ac.dec (vs : List Value) (h0 : GoodVs [.int .i64, .int .i64, .int .i64, .int .u32] vs) : ∃ a : Ac, vs = a.cells := by
  obtain ⟨_, _, rfl, ⟨a0, rfl, _⟩, h1⟩ := h0.cons
  obtain ⟨_, _, rfl, ⟨a1, rfl, _⟩, h2⟩ := h1.cons
  obtain ⟨_, _, rfl, ⟨a2, rfl, _⟩, h3⟩ := h2.cons
  obtain ⟨_, _, rfl, ⟨a3, rfl, _⟩, h4⟩ := h3.cons
  obtain rfl := h4.nil
  exact ⟨⟨a0, a1, a2, a3⟩, rfl⟩
abbrev Ac.ks : List Cel := [.int .i64, .int .i64, .int .i64, .int .u32]
theorem GvOK.new {f w v : Int} {gv : List Sh} (h : GvOK f gv) (hw : ¬ (w < 0 ∨ timesF 3 f ≤ w)) : GvOK f (gv ++ [giv w v]) := by
  intro g hg
  rcases List.mem_append.1 hg with h1 | h1
  · exact h g h1
  · obtain rfl := List.mem_singleton.1 h1
    show 0 ≤ w ∧ w < timesF 3 f
    omega
noncomputable def k7 : CT Tryd.prog Γc := CT.auto false 100 3 [CoQ.c21, CoQ.c10] 7 Tryd.f7 (bodyOf Tryd.f7) false 22 [.tmp 4, .tmp 5] Tryd.func7 (by kernel_rfl) (by kernel_rfl) (by kernel_rfl) (by kernel_rfl)
noncomputable def k9 : CT Tryd.prog Γc := CT.auto false 100 3 [CoQ.c8] 9 Tryd.f9 (bodyOf Tryd.f9) false 11 [.tmp 2, .tmp 3] Tryd.func9 (by kernel_rfl) (by kernel_rfl) (by kernel_rfl) (by kernel_rfl)
theorem hN0 (g : Nat → List AV) : OLe (some (.arr 11 0 g)) (some (.arr 11 0 (lsF Sh.c ([] ++ [])))) := OLe.arr rfl (fun e he => absurd he (Nat.not_lt_zero e)) (fun _ => rfl)
theorem hN1 (g : Nat → List AV) : OLe (some (.arr 11 0 g)) (some (.arr 11 0 (lsF Sh.c []))) := OLe.arr rfl (fun e he => absurd he (Nat.not_lt_zero e)) (fun _ => rfl)
theorem hI0 (g : Nat → List AV) : OLe (some (.arr 1 0 g)) (some (.arr 1 0 (lsF I64.c ([] ++ [])))) := OLe.arr rfl (fun e he => absurd he (Nat.not_lt_zero e)) (fun _ => rfl)
theorem hI1 (g : Nat → List AV) : OLe (some (.arr 1 0 g)) (some (.arr 1 0 (lsF I64.c []))) := OLe.arr rfl (fun e he => absurd he (Nat.not_lt_zero e)) (fun _ => rfl)
theorem hM0 : OLe (some (.mp Sh.ks true false 0 (fun _ => false) fun _ => [AV.v (Value.int IntKind.i64 0)])) (some (.mp Sh.ks true false 0 (hasS []) anyV)) := OLe.mp rfl (fun _ => rfl) (fun _ _ => ⟨.any _, trivial⟩)
theorem hC0 {f : Int} {v : List KC → List AV} : OLe (some (.mp [.int .i64] false true 0 (fun _ => false) v)) (some (.mp [.int .i64] false true 0 (hasC [] []) (valC f [] []))) :=
  OLe.mp rfl (fun k => by rcases keyOr k with ⟨p, rfl⟩ | ⟨h, _⟩; · rfl
                          · exact (h [] []).symm) (fun _ h => by cases h)
theorem inU32_wf {n : Int} (h : (Lit.int .u32 n).wf = true) : inU32 n = true := by
  simp [Lit.wf, IntKind.min, IntKind.max, IntKind.signed, IntKind.bits] at h
  exact inU32_iff.2 ⟨by omega, by omega⟩
theorem acSet {a : Ac} (h : GoodVs Ac.ks a.cells) : inU32 a.set = true := by
  have h3 := h.2.2.2.1
  obtain ⟨n, e, hw⟩ := h3
  cases e
  exact inU32_wf hw
end Go.Eng.Co
