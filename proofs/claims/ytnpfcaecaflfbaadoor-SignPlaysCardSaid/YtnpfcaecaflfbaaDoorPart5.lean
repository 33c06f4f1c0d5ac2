/- sign: what each call does, third part and what follows it. -/
import Derived.Test.YtnpfcaecaflfbaaDoorPart4
/- sign: what each call does, third part. -/
namespace Go.Eng.Si
open Go Go.Eng Go.Eng.M Go.Proofs
set_option linter.unusedSimpArgs false
set_option linter.unusedVariables false
theorem ansIssueROut {x : Sh} {f bad : Int} {l j : List Sh} (h : outS f x) : Answers Tryd.prog Γs 14 [.ptr 0 0, shV x] (DH f bad l j) (.v (.int .i64 40)) ((DH f bad l j).map some) [] :=
  answers (fn := Tryd.f14) (c := bodyOf Tryd.f14) (ntmps := 34) (results := [.tmp 4]) [SiQ.c13] Lno false Tryd.func14 (by kernel_rfl) (by kernel_rfl) (by kernel_rfl) (by kernel_rfl) (by simp) rfl (noLoops (by kernel_rfl)) <| Meets.of (run14o x f bad l j) <| by
    have h1 : x.s < 0 ∨ timesF 3 f ≤ x.s := h
    simp only [or_true, true_or, false_or, or_false, and_false, false_and, cond_true, cond_false, Bool.not_true, Bool.not_false, Bool.false_eq_true, Bool.true_eq_false, not_true_eq_false, not_false_eq_true, false_implies, true_implies, implies_true, Nat.blt_eq, owesN, owesX, owesR, notT, sat_brT, sat_brF, sat_chkT, cl_iff, cl_false, AV.le_refl, AV.le_any, OLe_refl, OLe_none, sat_brN, Tree.sat_chk, Tree.sat_leaf, Tree.sat_fail, Nat.zero_add, Nat.sub_zero, Int.toNat_natCast, LeH_cons, LeH_nil, LeL_cons, LeL_nil, and_true, true_and, Bool.and_eq_true, Bool.or_eq_true, decide_eq_true_eq, decide_eq_false_iff_not, Bool.cond_true_left, Bool.cond_false_right, List.cons_append, List.nil_append, List.map_cons, List.map_nil, repT]
    repeat' (first | apply And.intro | intro _hc)
    all_goals first | omega | contradiction | exact AV.le_refl _ | exact AV.le_any _ | exact OLe.refl _ | exact OLe.none _ | exact LeH.refl _ | exact LeL.refl _ | exact AV.le.bs _ | exact AV.le.sb _ | (exfalso; omega) | contradiction
theorem ansIssueRThere {x : Sh} {f bad : Int} {l j : List Sh} (h : ¬ outS f x) (hs : l.length ≤ 100000) (hx : x ∈ l) : Answers Tryd.prog Γs 14 [.ptr 0 0, shV x] (DH f bad l j) (.v (.int .i64 0)) ((DH f bad l j).map some) [] :=
  answers (fn := Tryd.f14) (c := bodyOf Tryd.f14) (ntmps := 34) (results := [.tmp 4]) [SiQ.c13, CT.at 29 (ansHasY (f := f) (bad := bad) (j := j) hs hx)] Lno false Tryd.func14 (by kernel_rfl) (by kernel_rfl) (by kernel_rfl) (by kernel_rfl) (by simp) rfl (noLoops (by kernel_rfl)) <| Meets.of (run14y x f bad l j hs hx) <| by
    have h1 := outS_not h
    simp only [or_true, true_or, false_or, or_false, and_false, false_and, cond_true, cond_false, Bool.not_true, Bool.not_false, Bool.false_eq_true, Bool.true_eq_false, not_true_eq_false, not_false_eq_true, false_implies, true_implies, implies_true, Nat.blt_eq, owesN, owesX, owesR, notT, sat_brT, sat_brF, sat_chkT, cl_iff, cl_false, AV.le_refl, AV.le_any, OLe_refl, OLe_none, sat_brN, Tree.sat_chk, Tree.sat_leaf, Tree.sat_fail, Nat.zero_add, Nat.sub_zero, Int.toNat_natCast, LeH_cons, LeH_nil, LeL_cons, LeL_nil, and_true, true_and, Bool.and_eq_true, Bool.or_eq_true, decide_eq_true_eq, decide_eq_false_iff_not, Bool.cond_true_left, Bool.cond_false_right, List.cons_append, List.nil_append, List.map_cons, List.map_nil, repT]
    repeat' (first | apply And.intro | intro _hc)
    all_goals first | omega | contradiction | exact AV.le_refl _ | exact AV.le_any _ | exact OLe.refl _ | exact OLe.none _ | exact LeH.refl _ | exact LeL.refl _ | exact AV.le.bs _ | exact AV.le.sb _ | (exfalso; omega) | contradiction
theorem ansIssueRNew {x : Sh} {f bad : Int} {l j : List Sh} (h : ¬ outS f x) (hs : l.length ≤ 100000) (hx : ¬ x ∈ l) : Answers Tryd.prog Γs 14 [.ptr 0 0, shV x] (DH f bad l j) (.v (.int .i64 0)) [some (sgD 2 f bad (l ++ [x]).length), some (shB (l ++ j))] [shB (l ++ [x])] :=
  answers (fn := Tryd.f14) (c := bodyOf Tryd.f14) (ntmps := 34) (results := [.tmp 4]) [SiQ.c13, CT.at 29 (ansHasN (f := f) (bad := bad) (j := j) hs hx)] Lno false Tryd.func14 (by kernel_rfl) (by kernel_rfl) (by kernel_rfl) (by kernel_rfl) (by simp) rfl (noLoops (by kernel_rfl)) <| Meets.of (run14n x f bad l j hs hx) <| by
    have h1 := outS_not h
    have hl : (l ++ [x]).length = l.length + 1 := by simp
    simp only [or_true, true_or, false_or, or_false, and_false, false_and, cond_true, cond_false, Bool.not_true, Bool.not_false, Bool.false_eq_true, Bool.true_eq_false, not_true_eq_false, not_false_eq_true, false_implies, true_implies, implies_true, Nat.blt_eq, owesN, owesX, owesR, notT, sat_brT, sat_brF, sat_chkT, cl_iff, cl_false, AV.le_refl, AV.le_any, OLe_refl, OLe_none, sat_brN, Tree.sat_chk, Tree.sat_leaf, Tree.sat_fail, Nat.zero_add, Nat.sub_zero, Int.toNat_natCast, LeH_cons, LeH_nil, LeL_cons, LeL_nil, and_true, true_and, Bool.and_eq_true, Bool.or_eq_true, decide_eq_true_eq, decide_eq_false_iff_not, Bool.cond_true_left, Bool.cond_false_right, List.cons_append, List.nil_append, List.map_cons, List.map_nil, repT]
    repeat' (first | apply And.intro | intro _hc)
    all_goals first | omega | contradiction | exact AV.le_refl _ | exact AV.le_any _ | exact OLe.refl _ | exact OLe.none _ | exact LeH.refl _ | exact LeL.refl _ | exact AV.le.bs _ | exact AV.le.sb _ | exact room88 (by omega) | ((rw [hl]; exact OLe.refl _)) | exact Sh.cod.app2 l j x default default rfl rfl | (exfalso; omega) | contradiction
theorem ansCountsR {x : Sh} {f bad : Int} {l j : List Sh} (hb : inU32 bad = true) (hs : l.length ≤ 100000) : Answers Tryd.prog Γs 16 [.ptr 0 0, shV x] (DH f bad l j) (.v (.int .i64 (cntE f bad l x))) ((DH f bad l j).map some) [] := by
  unfold cntE
  by_cases h : x.s < 0 ∨ timesF 3 f ≤ x.s
  · rw [if_pos h]
    exact answers (fn := Tryd.f16) (c := bodyOf Tryd.f16) (ntmps := 30) (results := [.tmp 4]) [SiQ.c13, SiQ.c23] Lno false Tryd.func16 (by kernel_rfl) (by kernel_rfl) (by kernel_rfl) (by kernel_rfl) (by simp) rfl (noLoops (by kernel_rfl)) <| Meets.of (run16o x f bad l j) <| by
      simp only [or_true, true_or, false_or, or_false, and_false, false_and, cond_true, cond_false, Bool.not_true, Bool.not_false, Bool.false_eq_true, Bool.true_eq_false, not_true_eq_false, not_false_eq_true, false_implies, true_implies, implies_true, Nat.blt_eq, owesN, owesX, owesR, notT, sat_brT, sat_brF, sat_chkT, cl_iff, cl_false, AV.le_refl, AV.le_any, OLe_refl, OLe_none, sat_brN, Tree.sat_chk, Tree.sat_leaf, Tree.sat_fail, Nat.zero_add, Nat.sub_zero, Int.toNat_natCast, LeH_cons, LeH_nil, LeL_cons, LeL_nil, and_true, true_and, Bool.and_eq_true, Bool.or_eq_true, decide_eq_true_eq, decide_eq_false_iff_not, Bool.cond_true_left, Bool.cond_false_right, List.cons_append, List.nil_append, List.map_cons, List.map_nil, repT]
      repeat' (first | apply And.intro | intro _hc)
      all_goals first | omega | contradiction | exact AV.le_refl _ | exact AV.le_any _ | exact OLe.refl _ | exact OLe.none _ | exact LeH.refl _ | exact LeL.refl _ | exact AV.le.bs _ | exact AV.le.sb _ | (exfalso; omega) | contradiction
  · rw [if_neg h]
    have h1 := outS_not h
    by_cases hx : x ∈ l
    · have h2 := hasS_iff.2 hx
      cases hh : hasB bad x.s with
      | true =>
        rw [if_pos rfl]
        exact answers (fn := Tryd.f16) (c := bodyOf Tryd.f16) (ntmps := 30) (results := [.tmp 4]) [SiQ.c13, SiQ.c23, CT.at 29 (ansHasY (f := f) (bad := bad) (j := j) hs hx)] Lno false Tryd.func16 (by kernel_rfl) (by kernel_rfl) (by kernel_rfl) (by kernel_rfl) (by simp) rfl (noLoops (by kernel_rfl)) <| Meets.of (run16y x f bad l j hs hx) <| by
          simp only [or_true, true_or, false_or, or_false, and_false, false_and, cond_true, cond_false, Bool.not_true, Bool.not_false, Bool.false_eq_true, Bool.true_eq_false, not_true_eq_false, not_false_eq_true, false_implies, true_implies, implies_true, Nat.blt_eq, owesN, owesX, owesR, notT, sat_brT, sat_brF, sat_chkT, cl_iff, cl_false, AV.le_refl, AV.le_any, OLe_refl, OLe_none, sat_brN, Tree.sat_chk, Tree.sat_leaf, Tree.sat_fail, Nat.zero_add, Nat.sub_zero, Int.toNat_natCast, LeH_cons, LeH_nil, LeL_cons, LeL_nil, and_true, true_and, Bool.and_eq_true, Bool.or_eq_true, decide_eq_true_eq, decide_eq_false_iff_not, Bool.cond_true_left, Bool.cond_false_right, List.cons_append, List.nil_append, List.map_cons, List.map_nil, repT, hb, hh]
          repeat' (first | apply And.intro | intro _hc)
          all_goals first | omega | contradiction | exact AV.le_refl _ | exact AV.le_any _ | exact OLe.refl _ | exact OLe.none _ | exact LeH.refl _ | exact LeL.refl _ | exact AV.le.bs _ | exact AV.le.sb _ | (exfalso; omega) | contradiction
      | false =>
        rw [if_neg (by simp), if_pos h2]
        exact answers (fn := Tryd.f16) (c := bodyOf Tryd.f16) (ntmps := 30) (results := [.tmp 4]) [SiQ.c13, SiQ.c23, CT.at 29 (ansHasY (f := f) (bad := bad) (j := j) hs hx)] Lno false Tryd.func16 (by kernel_rfl) (by kernel_rfl) (by kernel_rfl) (by kernel_rfl) (by simp) rfl (noLoops (by kernel_rfl)) <| Meets.of (run16y x f bad l j hs hx) <| by
          simp only [or_true, true_or, false_or, or_false, and_false, false_and, cond_true, cond_false, Bool.not_true, Bool.not_false, Bool.false_eq_true, Bool.true_eq_false, not_true_eq_false, not_false_eq_true, false_implies, true_implies, implies_true, Nat.blt_eq, owesN, owesX, owesR, notT, sat_brT, sat_brF, sat_chkT, cl_iff, cl_false, AV.le_refl, AV.le_any, OLe_refl, OLe_none, sat_brN, Tree.sat_chk, Tree.sat_leaf, Tree.sat_fail, Nat.zero_add, Nat.sub_zero, Int.toNat_natCast, LeH_cons, LeH_nil, LeL_cons, LeL_nil, and_true, true_and, Bool.and_eq_true, Bool.or_eq_true, decide_eq_true_eq, decide_eq_false_iff_not, Bool.cond_true_left, Bool.cond_false_right, List.cons_append, List.nil_append, List.map_cons, List.map_nil, repT, hb, hh]
          repeat' (first | apply And.intro | intro _hc)
          all_goals first | omega | contradiction | exact AV.le_refl _ | exact AV.le_any _ | exact OLe.refl _ | exact OLe.none _ | exact LeH.refl _ | exact LeL.refl _ | exact AV.le.bs _ | exact AV.le.sb _ | (exfalso; omega) | contradiction
    · have h2 : ¬ hasS l (shK x) = true := fun h => hx (hasS_iff.1 h)
      cases hh : hasB bad x.s with
      | true =>
        rw [if_pos rfl]
        exact answers (fn := Tryd.f16) (c := bodyOf Tryd.f16) (ntmps := 30) (results := [.tmp 4]) [SiQ.c13, SiQ.c23, CT.at 29 (ansHasN (f := f) (bad := bad) (j := j) hs hx)] Lno false Tryd.func16 (by kernel_rfl) (by kernel_rfl) (by kernel_rfl) (by kernel_rfl) (by simp) rfl (noLoops (by kernel_rfl)) <| Meets.of (run16n x f bad l j hs hx) <| by
          simp only [or_true, true_or, false_or, or_false, and_false, false_and, cond_true, cond_false, Bool.not_true, Bool.not_false, Bool.false_eq_true, Bool.true_eq_false, not_true_eq_false, not_false_eq_true, false_implies, true_implies, implies_true, Nat.blt_eq, owesN, owesX, owesR, notT, sat_brT, sat_brF, sat_chkT, cl_iff, cl_false, AV.le_refl, AV.le_any, OLe_refl, OLe_none, sat_brN, Tree.sat_chk, Tree.sat_leaf, Tree.sat_fail, Nat.zero_add, Nat.sub_zero, Int.toNat_natCast, LeH_cons, LeH_nil, LeL_cons, LeL_nil, and_true, true_and, Bool.and_eq_true, Bool.or_eq_true, decide_eq_true_eq, decide_eq_false_iff_not, Bool.cond_true_left, Bool.cond_false_right, List.cons_append, List.nil_append, List.map_cons, List.map_nil, repT, hb, hh]
          repeat' (first | apply And.intro | intro _hc)
          all_goals first | omega | contradiction | exact AV.le_refl _ | exact AV.le_any _ | exact OLe.refl _ | exact OLe.none _ | exact LeH.refl _ | exact LeL.refl _ | exact AV.le.bs _ | exact AV.le.sb _ | (exfalso; omega) | contradiction
      | false =>
        rw [if_neg (by simp), if_neg h2]
        exact answers (fn := Tryd.f16) (c := bodyOf Tryd.f16) (ntmps := 30) (results := [.tmp 4]) [SiQ.c13, SiQ.c23, CT.at 29 (ansHasN (f := f) (bad := bad) (j := j) hs hx)] Lno false Tryd.func16 (by kernel_rfl) (by kernel_rfl) (by kernel_rfl) (by kernel_rfl) (by simp) rfl (noLoops (by kernel_rfl)) <| Meets.of (run16n x f bad l j hs hx) <| by
          simp only [or_true, true_or, false_or, or_false, and_false, false_and, cond_true, cond_false, Bool.not_true, Bool.not_false, Bool.false_eq_true, Bool.true_eq_false, not_true_eq_false, not_false_eq_true, false_implies, true_implies, implies_true, Nat.blt_eq, owesN, owesX, owesR, notT, sat_brT, sat_brF, sat_chkT, cl_iff, cl_false, AV.le_refl, AV.le_any, OLe_refl, OLe_none, sat_brN, Tree.sat_chk, Tree.sat_leaf, Tree.sat_fail, Nat.zero_add, Nat.sub_zero, Int.toNat_natCast, LeH_cons, LeH_nil, LeL_cons, LeL_nil, and_true, true_and, Bool.and_eq_true, Bool.or_eq_true, decide_eq_true_eq, decide_eq_false_iff_not, Bool.cond_true_left, Bool.cond_false_right, List.cons_append, List.nil_append, List.map_cons, List.map_nil, repT, hb, hh]
          repeat' (first | apply And.intro | intro _hc)
          all_goals first | omega | contradiction | exact AV.le_refl _ | exact AV.le_any _ | exact OLe.refl _ | exact OLe.none _ | exact LeH.refl _ | exact LeL.refl _ | exact AV.le.bs _ | exact AV.le.sb _ | (exfalso; omega) | contradiction
theorem ansAllChk {s : Int} {st : St} {f bad : Int} {l j : List Sh} (hu : inU32 s = true) (h : checkF f s ≠ 0) : Answers Tryd.prog Γs 8 [.ptr 0 0, .agg st.c, .v (.int .u32 s)] (SH f bad l j) (.v (.int .i64 (checkF f s))) ((SH f bad l j).map some) [] :=
  answers (fn := Tryd.f8) (c := bodyOf Tryd.f8) (ntmps := 38) (results := [.tmp 6]) [SiQ.c21, SiQ.c17] (Lno) false Tryd.func8 (by kernel_rfl) (by kernel_rfl) (by kernel_rfl) (by kernel_rfl) (by simp) rfl (failOK fun _ _ _ => rfl) <| Meets.of (run8c s st f bad l j) <| by
    simp only [or_true, true_or, false_or, or_false, and_false, false_and, cond_true, cond_false, Bool.not_true, Bool.not_false, Bool.false_eq_true, Bool.true_eq_false, not_true_eq_false, not_false_eq_true, false_implies, true_implies, implies_true, Nat.blt_eq, owesN, owesX, owesR, notT, sat_brT, sat_brF, sat_chkT, cl_iff, cl_false, AV.le_refl, AV.le_any, OLe_refl, OLe_none, sat_brN, Tree.sat_chk, Tree.sat_leaf, Tree.sat_fail, Nat.zero_add, Nat.sub_zero, Int.toNat_natCast, LeH_cons, LeH_nil, LeL_cons, LeL_nil, and_true, true_and, Bool.and_eq_true, Bool.or_eq_true, decide_eq_true_eq, decide_eq_false_iff_not, Bool.cond_true_left, Bool.cond_false_right, List.cons_append, List.nil_append, List.map_cons, List.map_nil, hu, h]
    repeat' (first | apply And.intro | intro _hc)
    all_goals first | omega | contradiction | exact AV.le_refl _ | exact AV.le_any _ | exact OLe.refl _ | exact OLe.none _ | exact LeH.refl _ | exact LeL.refl _ | exact AV.le.bs _ | exact AV.le.sb _ | (exfalso; omega) | contradiction
theorem ansAllErr {s : Int} {st : St} {f bad : Int} {l j : List Sh} (hu : inU32 s = true) (hb : inU32 bad = true) (h : checkF f s = 0) {p : Nat} (h2 : p < pc s) (h3 : cAt s st f bad l p ≠ 0) (h4 : ∀ q, q < p → cAt s st f bad l q = 0) : Answers Tryd.prog Γs 8 [.ptr 0 0, .agg st.c, .v (.int .u32 s)] (SH f bad l j) (.v (.int .i64 (cAt s st f bad l p))) ((SH f bad l j).map some) [] :=
  answers (fn := Tryd.f8) (c := bodyOf Tryd.f8) (ntmps := 38) (results := [.tmp 6]) [SiQ.c21, SiQ.c17] (fun _ => LSpec.at [0, 4, 23, 24, 25, 6] [] (S8 s st f bad l j 0) (O8y s st f bad l j (cAt s st f bad l p))) false Tryd.func8 (by kernel_rfl) (by kernel_rfl) (by kernel_rfl) (by kernel_rfl) (by simp) rfl (oneLoop (b := lp8) (by kernel_rfl) (loop8y hb h2 h3 h4 0 (Nat.zero_le _))) <| Meets.of (run8y s (cAt s st f bad l p) st f bad l j) <| by
    simp only [or_true, true_or, false_or, or_false, and_false, false_and, cond_true, cond_false, Bool.not_true, Bool.not_false, Bool.false_eq_true, Bool.true_eq_false, not_true_eq_false, not_false_eq_true, false_implies, true_implies, implies_true, Nat.blt_eq, owesN, owesX, owesR, notT, sat_brT, sat_brF, sat_chkT, cl_iff, cl_false, AV.le_refl, AV.le_any, OLe_refl, OLe_none, sat_brN, Tree.sat_chk, Tree.sat_leaf, Tree.sat_fail, Nat.zero_add, Nat.sub_zero, Int.toNat_natCast, LeH_cons, LeH_nil, LeL_cons, LeL_nil, and_true, true_and, Bool.and_eq_true, Bool.or_eq_true, decide_eq_true_eq, decide_eq_false_iff_not, Bool.cond_true_left, Bool.cond_false_right, List.cons_append, List.nil_append, List.map_cons, List.map_nil, hu, h]
    repeat' (first | apply And.intro | intro _hc)
    all_goals first | omega | contradiction | exact AV.le_refl _ | exact AV.le_any _ | exact OLe.refl _ | exact OLe.none _ | exact LeH.refl _ | exact LeL.refl _ | exact AV.le.bs _ | exact AV.le.sb _ | (exfalso; omega) | contradiction
theorem ansAllOk {s : Int} {st : St} {f bad : Int} {l j : List Sh} (hu : inU32 s = true) (hb : inU32 bad = true) (h : checkF f s = 0) (h4 : ∀ q, q < pc s → cAt s st f bad l q = 0) : Answers Tryd.prog Γs 8 [.ptr 0 0, .agg st.c, .v (.int .u32 s)] (SH f bad l j) (.v (.int .i64 0)) ((SH f bad l j).map some) [] :=
  answers (fn := Tryd.f8) (c := bodyOf Tryd.f8) (ntmps := 38) (results := [.tmp 6]) [SiQ.c21, SiQ.c17] (fun _ => LSpec.at [0, 4, 23, 24, 25, 6] [] (S8 s st f bad l j 0) (O8n s st f bad l j)) false Tryd.func8 (by kernel_rfl) (by kernel_rfl) (by kernel_rfl) (by kernel_rfl) (by simp) rfl (oneLoop (b := lp8) (by kernel_rfl) (loop8n hb h4 0 (Nat.zero_le _))) <| Meets.of (run8n s st f bad l j) <| by
    simp only [or_true, true_or, false_or, or_false, and_false, false_and, cond_true, cond_false, Bool.not_true, Bool.not_false, Bool.false_eq_true, Bool.true_eq_false, not_true_eq_false, not_false_eq_true, false_implies, true_implies, implies_true, Nat.blt_eq, owesN, owesX, owesR, notT, sat_brT, sat_brF, sat_chkT, cl_iff, cl_false, AV.le_refl, AV.le_any, OLe_refl, OLe_none, sat_brN, Tree.sat_chk, Tree.sat_leaf, Tree.sat_fail, Nat.zero_add, Nat.sub_zero, Int.toNat_natCast, LeH_cons, LeH_nil, LeL_cons, LeL_nil, and_true, true_and, Bool.and_eq_true, Bool.or_eq_true, decide_eq_true_eq, decide_eq_false_iff_not, Bool.cond_true_left, Bool.cond_false_right, List.cons_append, List.nil_append, List.map_cons, List.map_nil, hu, h]
    repeat' (first | apply And.intro | intro _hc)
    all_goals first | omega | contradiction | exact AV.le_refl _ | exact AV.le_any _ | exact OLe.refl _ | exact OLe.none _ | exact LeH.refl _ | exact LeL.refl _ | exact AV.le.bs _ | exact AV.le.sb _ | (exfalso; omega) | contradiction
theorem run12 (s le e : Int) (st : St) (f bad : Int) (l j : List Sh) (h : Answers Tryd.prog Γs 8 [.ptr 0 0, .agg st.c, .v (.int .u32 s)] (SH f bad l j) (.v (.int .i64 e)) ((SH f bad l j).map some) []) : bodyE (P := Tryd.prog) (Γ := Γs) [CT.at 8 h, SiQ.c10] Lno false 21 [.tmp 8] (bodyOf Tryd.f12) [.ptr 0 0, .agg st.c, .v (.int .u32 s), .v (.int .i64 le)] (SH f bad l j) =
  Tree.chk
  (cl
    (LeL
        [AV.ptr (0 : Nat) (0 : Nat),
          AV.agg
            [AV.v (Value.int IntKind.i64 st.k), AV.v (Value.int IntKind.i64 st.b), AV.v (Value.int IntKind.i64 st.v),
              AV.v (Value.int IntKind.i64 st.r), AV.v (Value.int IntKind.i64 st.h), AV.v (Value.int IntKind.i64 st.a),
              AV.v (Value.int IntKind.i64 st.hk), AV.v (Value.int IntKind.i64 st.hb),
              AV.v (Value.int IntKind.i64 st.hv), AV.v (Value.int IntKind.i64 st.hr)],
          AV.v (Value.int IntKind.u32 s)]
        [AV.ptr (0 : Nat) (0 : Nat),
          AV.agg
            [AV.v (Value.int IntKind.i64 st.k), AV.v (Value.int IntKind.i64 st.b), AV.v (Value.int IntKind.i64 st.v),
              AV.v (Value.int IntKind.i64 st.r), AV.v (Value.int IntKind.i64 st.h), AV.v (Value.int IntKind.i64 st.a),
              AV.v (Value.int IntKind.i64 st.hk), AV.v (Value.int IntKind.i64 st.hb),
              AV.v (Value.int IntKind.i64 st.hv), AV.v (Value.int IntKind.i64 st.hr)],
          AV.v (Value.int IntKind.u32 s)] ∧
      LeH
        [some
            (Blk.row
              [AV.v (Value.int IntKind.i64 f), AV.v (Value.int IntKind.u32 bad), AV.map (1 : Nat),
                AV.hs (2 : Nat) (0 : Nat) (List.length l)]),
          some
            (Blk.mp
              [Cel.int IntKind.i64, Cel.int IntKind.i64, Cel.int IntKind.i64, Cel.int IntKind.i64, Cel.int IntKind.i64,
                Cel.int IntKind.i64, Cel.int IntKind.i64, Cel.int IntKind.i64, Cel.int IntKind.i64, Cel.int IntKind.i64,
                Cel.int IntKind.i64]
              true false (List.length l) (hasS l) anyV),
          some (Blk.arr (11 : Nat) (List.length (l ++ j)) (lsF Sh.c (l ++ j)))]
        [some
            (Blk.row
              [AV.v (Value.int IntKind.i64 f), AV.v (Value.int IntKind.u32 bad), AV.map (1 : Nat),
                AV.hs (2 : Nat) (0 : Nat) (List.length l)]),
          some
            (Blk.mp
              [Cel.int IntKind.i64, Cel.int IntKind.i64, Cel.int IntKind.i64, Cel.int IntKind.i64, Cel.int IntKind.i64,
                Cel.int IntKind.i64, Cel.int IntKind.i64, Cel.int IntKind.i64, Cel.int IntKind.i64, Cel.int IntKind.i64,
                Cel.int IntKind.i64]
              true false (List.length l) (hasS l) anyV),
          some (Blk.arr (11 : Nat) (List.length (l ++ j)) (lsF Sh.c (l ++ j)))]))
  (Tree.br (!decide (e = (0 : Int)))
    (Tree.leaf
      (Ans.mk (AV.v (Value.int IntKind.i64 e))
        [some
            (Blk.row
              [AV.v (Value.int IntKind.i64 f), AV.v (Value.int IntKind.u32 bad), AV.map (1 : Nat),
                AV.hs (2 : Nat) (0 : Nat) (List.length l)]),
          some
            (Blk.mp
              [Cel.int IntKind.i64, Cel.int IntKind.i64, Cel.int IntKind.i64, Cel.int IntKind.i64, Cel.int IntKind.i64,
                Cel.int IntKind.i64, Cel.int IntKind.i64, Cel.int IntKind.i64, Cel.int IntKind.i64, Cel.int IntKind.i64,
                Cel.int IntKind.i64]
              true false (List.length l) (hasS l) anyV),
          some (Blk.arr (11 : Nat) (List.length (l ++ j)) (lsF Sh.c (l ++ j)))]))
    (Tree.chk (inU32 s)
      (Tree.br (decide ((↑(pc s) : Int) < le))
        (Tree.leaf
          (Ans.mk (AV.v (Value.int IntKind.i64 (61 : Int)))
            [some
                (Blk.row
                  [AV.v (Value.int IntKind.i64 f), AV.v (Value.int IntKind.u32 bad), AV.map (1 : Nat),
                    AV.hs (2 : Nat) (0 : Nat) (List.length l)]),
              some
                (Blk.mp
                  [Cel.int IntKind.i64, Cel.int IntKind.i64, Cel.int IntKind.i64, Cel.int IntKind.i64,
                    Cel.int IntKind.i64, Cel.int IntKind.i64, Cel.int IntKind.i64, Cel.int IntKind.i64,
                    Cel.int IntKind.i64, Cel.int IntKind.i64, Cel.int IntKind.i64]
                  true false (List.length l) (hasS l) anyV),
              some (Blk.arr (11 : Nat) (List.length (l ++ j)) (lsF Sh.c (l ++ j)))]))
        (Tree.leaf
          (Ans.mk (AV.v (Value.int IntKind.i64 (0 : Int)))
            [some
                (Blk.row
                  [AV.v (Value.int IntKind.i64 f), AV.v (Value.int IntKind.u32 bad), AV.map (1 : Nat),
                    AV.hs (2 : Nat) (0 : Nat) (List.length l)]),
              some
                (Blk.mp
                  [Cel.int IntKind.i64, Cel.int IntKind.i64, Cel.int IntKind.i64, Cel.int IntKind.i64,
                    Cel.int IntKind.i64, Cel.int IntKind.i64, Cel.int IntKind.i64, Cel.int IntKind.i64,
                    Cel.int IntKind.i64, Cel.int IntKind.i64, Cel.int IntKind.i64]
                  true false (List.length l) (hasS l) anyV),
              some (Blk.arr (11 : Nat) (List.length (l ++ j)) (lsF Sh.c (l ++ j)))]))))) := by kernel_rfl
def S17 (s le : Int) (st : St) (f bad : Int) (l j : List Sh) (k : Nat) : List AV × Heap := ([.ptr 0 0, .v (.int .u32 s), .v (.int .i64 le), .ptr 2 0, .hs 3 0 (pc s), .v (.int .i64 (k : Int)), .any], (DH f bad l j ++ [Blk.row st.c, Blk.arr 1 (pc s) (ints (nth s))]).map some)
theorem r17 (s le : Int) (st : St) (f bad : Int) (l j : List Sh) (k : Nat) (hb : inU32 bad = true) (hs : l.length ≤ 100000) : roundE (P := Tryd.prog) (Γ := Γs) [CT.at 16 (ansCountsR (x := ⟨nth s k, st⟩) (f := f) (bad := bad) (l := l) (j := j) hb hs)] Lno false 2 0 lp17 [0, 2, 3, 5, 10, 11, 8] [] 44 (S17 s le st f bad l j k).1 (S17 s le st f bad l j k).2 =
  Tree.br (decide ((↑k : Int) < (↑(pc s) : Int)))
  (Tree.chk (decide ((0 : Int) ≤ (↑k : Int)) && decide ((↑k : Int) < (↑(pc s) : Int)))
    (Tree.chk
      (cl
        (LeL
            [AV.ptr (0 : Nat) (0 : Nat),
              AV.agg
                [AV.v (Value.int IntKind.i64 (nth s ((0 : Nat) + k))), AV.v (Value.int IntKind.i64 st.k),
                  AV.v (Value.int IntKind.i64 st.b), AV.v (Value.int IntKind.i64 st.v),
                  AV.v (Value.int IntKind.i64 st.r), AV.v (Value.int IntKind.i64 st.h),
                  AV.v (Value.int IntKind.i64 st.a), AV.v (Value.int IntKind.i64 st.hk),
                  AV.v (Value.int IntKind.i64 st.hb), AV.v (Value.int IntKind.i64 st.hv),
                  AV.v (Value.int IntKind.i64 st.hr)]]
            [AV.ptr (0 : Nat) (0 : Nat),
              AV.agg
                [AV.v (Value.int IntKind.i64 (nth s k)), AV.v (Value.int IntKind.i64 st.k),
                  AV.v (Value.int IntKind.i64 st.b), AV.v (Value.int IntKind.i64 st.v),
                  AV.v (Value.int IntKind.i64 st.r), AV.v (Value.int IntKind.i64 st.h),
                  AV.v (Value.int IntKind.i64 st.a), AV.v (Value.int IntKind.i64 st.hk),
                  AV.v (Value.int IntKind.i64 st.hb), AV.v (Value.int IntKind.i64 st.hv),
                  AV.v (Value.int IntKind.i64 st.hr)]] ∧
          LeH
            [some
                (Blk.row
                  [AV.v (Value.int IntKind.i64 f), AV.v (Value.int IntKind.u32 bad),
                    AV.hs (1 : Nat) (0 : Nat) (List.length l)]),
              some (Blk.arr (11 : Nat) (List.length (l ++ j)) (lsF Sh.c (l ++ j)))]
            [some
                (Blk.row
                  [AV.v (Value.int IntKind.i64 f), AV.v (Value.int IntKind.u32 bad),
                    AV.hs (1 : Nat) (0 : Nat) (List.length l)]),
              some (Blk.arr (11 : Nat) (List.length (l ++ j)) (lsF Sh.c (l ++ j)))]))
      (Tree.br (!decide (cntE f bad l (Sh.mk (nth s k) st) = (0 : Int)))
        (Tree.leaf
          (Out.mk AEx.ret
            [AV.ptr (0 : Nat) (0 : Nat), AV.v (Value.int IntKind.u32 s), AV.v (Value.int IntKind.i64 le),
              AV.ptr (2 : Nat) (0 : Nat), AV.hs (3 : Nat) (0 : Nat) (pc s), AV.v (Value.int IntKind.i64 (↑k : Int)),
              AV.v (Value.int IntKind.i64 (cntE f bad l (Sh.mk (nth s k) st)))]
            [some
                (Blk.row
                  [AV.v (Value.int IntKind.i64 f), AV.v (Value.int IntKind.u32 bad),
                    AV.hs (1 : Nat) (0 : Nat) (List.length l)]),
              some (Blk.arr (11 : Nat) (List.length (l ++ j)) (lsF Sh.c (l ++ j))),
              some
                (Blk.row
                  [AV.v (Value.int IntKind.i64 st.k), AV.v (Value.int IntKind.i64 st.b),
                    AV.v (Value.int IntKind.i64 st.v), AV.v (Value.int IntKind.i64 st.r),
                    AV.v (Value.int IntKind.i64 st.h), AV.v (Value.int IntKind.i64 st.a),
                    AV.v (Value.int IntKind.i64 st.hk), AV.v (Value.int IntKind.i64 st.hb),
                    AV.v (Value.int IntKind.i64 st.hv), AV.v (Value.int IntKind.i64 st.hr)]),
              some (Blk.arr (1 : Nat) (pc s) fun i => [AV.v (Value.int IntKind.i64 (nth s i))])]))
        (Tree.leaf
          (Out.mk AEx.normal
            [AV.ptr (0 : Nat) (0 : Nat), AV.v (Value.int IntKind.u32 s), AV.v (Value.int IntKind.i64 le),
              AV.ptr (2 : Nat) (0 : Nat), AV.hs (3 : Nat) (0 : Nat) (pc s),
              AV.v (Value.int IntKind.i64 (IntKind.wrap IntKind.i64 ((↑k : Int) + (1 : Int)))), AV.any]
            [some
                (Blk.row
                  [AV.v (Value.int IntKind.i64 f), AV.v (Value.int IntKind.u32 bad),
                    AV.hs (1 : Nat) (0 : Nat) (List.length l)]),
              some (Blk.arr (11 : Nat) (List.length (l ++ j)) (lsF Sh.c (l ++ j))),
              some
                (Blk.row
                  [AV.v (Value.int IntKind.i64 st.k), AV.v (Value.int IntKind.i64 st.b),
                    AV.v (Value.int IntKind.i64 st.v), AV.v (Value.int IntKind.i64 st.r),
                    AV.v (Value.int IntKind.i64 st.h), AV.v (Value.int IntKind.i64 st.a),
                    AV.v (Value.int IntKind.i64 st.hk), AV.v (Value.int IntKind.i64 st.hb),
                    AV.v (Value.int IntKind.i64 st.hv), AV.v (Value.int IntKind.i64 st.hr)]),
              some (Blk.arr (1 : Nat) (pc s) fun i => [AV.v (Value.int IntKind.i64 (nth s i))])])))))
  (Tree.leaf
    (Out.mk (AEx.exit (0 : Nat))
      [AV.ptr (0 : Nat) (0 : Nat), AV.v (Value.int IntKind.u32 s), AV.v (Value.int IntKind.i64 le),
        AV.ptr (2 : Nat) (0 : Nat), AV.hs (3 : Nat) (0 : Nat) (pc s), AV.v (Value.int IntKind.i64 (↑k : Int)), AV.any]
      [some
          (Blk.row
            [AV.v (Value.int IntKind.i64 f), AV.v (Value.int IntKind.u32 bad),
              AV.hs (1 : Nat) (0 : Nat) (List.length l)]),
        some (Blk.arr (11 : Nat) (List.length (l ++ j)) (lsF Sh.c (l ++ j))),
        some
          (Blk.row
            [AV.v (Value.int IntKind.i64 st.k), AV.v (Value.int IntKind.i64 st.b), AV.v (Value.int IntKind.i64 st.v),
              AV.v (Value.int IntKind.i64 st.r), AV.v (Value.int IntKind.i64 st.h), AV.v (Value.int IntKind.i64 st.a),
              AV.v (Value.int IntKind.i64 st.hk), AV.v (Value.int IntKind.i64 st.hb),
              AV.v (Value.int IntKind.i64 st.hv), AV.v (Value.int IntKind.i64 st.hr)]),
        some (Blk.arr (1 : Nat) (pc s) fun i => [AV.v (Value.int IntKind.i64 (nth s i))])])) := by kernel_rfl
def O17y (s le : Int) (st : St) (f bad : Int) (l j : List Sh) (e : Int) : Out := ⟨.ret, [.any, .any, .any, .any, .any, .any, .v (.int .i64 e)], (DH f bad l j).map some ++ [none, none]⟩
def O17n (s le : Int) (st : St) (f bad : Int) (l j : List Sh) : Out := ⟨.exit 0, [.any, .any, .v (.int .i64 le), .any, .hs 3 0 (pc s), .any, .any], (DH f bad l j).map some ++ [none, some (Blk.arr 1 (pc s) (ints (nth s)))]⟩
theorem loop17y {s le : Int} {st : St} {f bad : Int} {l j : List Sh} (hb : inU32 bad = true) (hs : l.length ≤ 100000) {p : Nat} (h2 : p < pc s) (h3 : cAt s st f bad l p ≠ 0) (h4 : ∀ q, q < p → cAt s st f bad l q = 0) : ∀ k, k ≤ p → LoopOK Tryd.prog Γs 2 44 lp17 (LSpec.at [0, 2, 3, 5, 10, 11, 8] [] (S17 s le st f bad l j k) (O17y s le st f bad l j (cAt s st f bad l p))) := by
  refine loop_at (S := S17 s le st f bad l j) (O := fun _ => O17y s le st f bad l j (cAt s st f bad l p)) (k := 0) (fun k => p - k) fun k hp => .of (noLoops (by kernel_rfl)) (r17 s le st f bad l j k hb hs) ?_
  have := pcLe s
  rcases Nat.lt_or_ge k p with hk | hk
  · have h5 := h4 k hk
    simp only [or_true, true_or, false_or, or_false, and_false, false_and, cond_true, cond_false, Bool.not_true, Bool.not_false, Bool.false_eq_true, Bool.true_eq_false, not_true_eq_false, not_false_eq_true, false_implies, true_implies, implies_true, Nat.blt_eq, owesN, owesX, owesR, notT, sat_brT, sat_brF, sat_chkT, cl_iff, cl_false, AV.le_refl, AV.le_any, OLe_refl, OLe_none, sat_brN, Tree.sat_chk, Tree.sat_leaf, Tree.sat_fail, Nat.zero_add, Nat.sub_zero, Int.toNat_natCast, LeH_cons, LeH_nil, LeL_cons, LeL_nil, and_true, true_and, Bool.and_eq_true, Bool.or_eq_true, decide_eq_true_eq, decide_eq_false_iff_not, Bool.cond_true_left, Bool.cond_false_right, List.cons_append, List.nil_append, List.map_cons, List.map_nil, h5, wrapUpN (show k ≤ 1000000000 by omega)]
    repeat' (first | apply And.intro | intro _hc)
    all_goals first | omega | contradiction | exact AV.le_refl _ | exact AV.le_any _ | exact OLe.refl _ | exact OLe.none _ | exact LeH.refl _ | exact LeL.refl _ | exact AV.le.bs _ | exact AV.le.sb _ | exact ⟨k + 1, LeL.refl _, LeH.refl _, hk, by omega⟩ | (exfalso; omega) | contradiction
  · obtain rfl : k = p := by omega
    simp only [or_true, true_or, false_or, or_false, and_false, false_and, cond_true, cond_false, Bool.not_true, Bool.not_false, Bool.false_eq_true, Bool.true_eq_false, not_true_eq_false, not_false_eq_true, false_implies, true_implies, implies_true, Nat.blt_eq, owesN, owesX, owesR, notT, sat_brT, sat_brF, sat_chkT, cl_iff, cl_false, AV.le_refl, AV.le_any, OLe_refl, OLe_none, sat_brN, Tree.sat_chk, Tree.sat_leaf, Tree.sat_fail, Nat.zero_add, Nat.sub_zero, Int.toNat_natCast, LeH_cons, LeH_nil, LeL_cons, LeL_nil, and_true, true_and, Bool.and_eq_true, Bool.or_eq_true, decide_eq_true_eq, decide_eq_false_iff_not, Bool.cond_true_left, Bool.cond_false_right, List.cons_append, List.nil_append, List.map_cons, List.map_nil, h3]
    repeat' (first | apply And.intro | intro _hc)
    all_goals first | omega | contradiction | exact AV.le_refl _ | exact AV.le_any _ | exact OLe.refl _ | exact OLe.none _ | exact LeH.refl _ | exact LeL.refl _ | exact AV.le.bs _ | exact AV.le.sb _ | exact rfl | (exfalso; omega) | contradiction
theorem loop17n {s le : Int} {st : St} {f bad : Int} {l j : List Sh} (hb : inU32 bad = true) (hs : l.length ≤ 100000) (h4 : ∀ q, q < pc s → cAt s st f bad l q = 0) : ∀ k, k ≤ pc s → LoopOK Tryd.prog Γs 2 44 lp17 (LSpec.at [0, 2, 3, 5, 10, 11, 8] [] (S17 s le st f bad l j k) (O17n s le st f bad l j)) := by
  refine loop_at (S := S17 s le st f bad l j) (O := fun _ => O17n s le st f bad l j) (k := 0) (fun k => pc s - k) fun k hp => .of (noLoops (by kernel_rfl)) (r17 s le st f bad l j k hb hs) ?_
  have := pcLe s
  rcases Nat.lt_or_ge k (pc s) with hk | hk
  · have h5 := h4 k hk
    simp only [or_true, true_or, false_or, or_false, and_false, false_and, cond_true, cond_false, Bool.not_true, Bool.not_false, Bool.false_eq_true, Bool.true_eq_false, not_true_eq_false, not_false_eq_true, false_implies, true_implies, implies_true, Nat.blt_eq, owesN, owesX, owesR, notT, sat_brT, sat_brF, sat_chkT, cl_iff, cl_false, AV.le_refl, AV.le_any, OLe_refl, OLe_none, sat_brN, Tree.sat_chk, Tree.sat_leaf, Tree.sat_fail, Nat.zero_add, Nat.sub_zero, Int.toNat_natCast, LeH_cons, LeH_nil, LeL_cons, LeL_nil, and_true, true_and, Bool.and_eq_true, Bool.or_eq_true, decide_eq_true_eq, decide_eq_false_iff_not, Bool.cond_true_left, Bool.cond_false_right, List.cons_append, List.nil_append, List.map_cons, List.map_nil, h5, wrapUpN (show k ≤ 1000000000 by omega)]
    repeat' (first | apply And.intro | intro _hc)
    all_goals first | omega | contradiction | exact AV.le_refl _ | exact AV.le_any _ | exact OLe.refl _ | exact OLe.none _ | exact LeH.refl _ | exact LeL.refl _ | exact AV.le.bs _ | exact AV.le.sb _ | exact ⟨k + 1, LeL.refl _, LeH.refl _, hk, by omega⟩ | (exfalso; omega) | contradiction
  · simp only [or_true, true_or, false_or, or_false, and_false, false_and, cond_true, cond_false, Bool.not_true, Bool.not_false, Bool.false_eq_true, Bool.true_eq_false, not_true_eq_false, not_false_eq_true, false_implies, true_implies, implies_true, Nat.blt_eq, owesN, owesX, owesR, notT, sat_brT, sat_brF, sat_chkT, cl_iff, cl_false, AV.le_refl, AV.le_any, OLe_refl, OLe_none, sat_brN, Tree.sat_chk, Tree.sat_leaf, Tree.sat_fail, Nat.zero_add, Nat.sub_zero, Int.toNat_natCast, LeH_cons, LeH_nil, LeL_cons, LeL_nil, and_true, true_and, Bool.and_eq_true, Bool.or_eq_true, decide_eq_true_eq, decide_eq_false_iff_not, Bool.cond_true_left, Bool.cond_false_right, List.cons_append, List.nil_append, List.map_cons, List.map_nil]
    repeat' (first | apply And.intro | intro _hc)
    all_goals first | omega | contradiction | exact AV.le_refl _ | exact AV.le_any _ | exact OLe.refl _ | exact OLe.none _ | exact LeH.refl _ | exact LeL.refl _ | exact AV.le.bs _ | exact AV.le.sb _ | exact rfl | (exfalso; omega) | contradiction
abbrev A17 (s le : Int) (st : St) : List AV := [.ptr 0 0, .agg st.c, .v (.int .u32 s), .v (.int .i64 le)]
theorem run17c (s le : Int) (st : St) (f bad : Int) (l j : List Sh) : bodyE (P := Tryd.prog) (Γ := Γs) [SiQ.c22, SiQ.c20] Lno false 44 [.tmp 8] (bodyOf Tryd.f17) (A17 s le st) (DH f bad l j) =
  Tree.chk (inU32 s)
  (Tree.br (!decide (checkF f s = (0 : Int)))
    (Tree.leaf
      (Ans.mk (AV.v (Value.int IntKind.i64 (checkF f s)))
        [some
            (Blk.row
              [AV.v (Value.int IntKind.i64 f), AV.v (Value.int IntKind.u32 bad),
                AV.hs (1 : Nat) (0 : Nat) (List.length l)]),
          some (Blk.arr (11 : Nat) (List.length (l ++ j)) (lsF Sh.c (l ++ j)))]))
    (Tree.chk (inU32 s) Tree.fail)) := by kernel_rfl
theorem run17y (s le e : Int) (st : St) (f bad : Int) (l j : List Sh) : bodyE (P := Tryd.prog) (Γ := Γs) [SiQ.c22, SiQ.c20] (fun _ => LSpec.at [0, 2, 3, 5, 10, 11, 8] [] (S17 s le st f bad l j 0) (O17y s le st f bad l j e)) false 44 [.tmp 8] (bodyOf Tryd.f17) (A17 s le st) (DH f bad l j) =
  Tree.chk (inU32 s)
  (Tree.br (!decide (checkF f s = (0 : Int)))
    (Tree.leaf
      (Ans.mk (AV.v (Value.int IntKind.i64 (checkF f s)))
        [some
            (Blk.row
              [AV.v (Value.int IntKind.i64 f), AV.v (Value.int IntKind.u32 bad),
                AV.hs (1 : Nat) (0 : Nat) (List.length l)]),
          some (Blk.arr (11 : Nat) (List.length (l ++ j)) (lsF Sh.c (l ++ j)))]))
    (Tree.chk (inU32 s)
      (Tree.chk
        (cl
          (LeL
              [AV.ptr (0 : Nat) (0 : Nat), AV.v (Value.int IntKind.u32 s), AV.v (Value.int IntKind.i64 le),
                AV.ptr (2 : Nat) (0 : Nat), AV.hs (3 : Nat) (0 : Nat) (pc s), AV.v (Value.int IntKind.i64 (0 : Int)),
                AV.v (Value.int IntKind.i64 (0 : Int))]
              [AV.ptr (0 : Nat) (0 : Nat), AV.v (Value.int IntKind.u32 s), AV.v (Value.int IntKind.i64 le),
                AV.ptr (2 : Nat) (0 : Nat), AV.hs (3 : Nat) (0 : Nat) (pc s),
                AV.v (Value.int IntKind.i64 (↑(0 : Nat) : Int)), AV.any] ∧
            LeH
              [some
                  (Blk.row
                    [AV.v (Value.int IntKind.i64 f), AV.v (Value.int IntKind.u32 bad),
                      AV.hs (1 : Nat) (0 : Nat) (List.length l)]),
                some (Blk.arr (11 : Nat) (List.length (l ++ j)) (lsF Sh.c (l ++ j))),
                some
                  (Blk.row
                    [AV.v (Value.int IntKind.i64 st.k), AV.v (Value.int IntKind.i64 st.b),
                      AV.v (Value.int IntKind.i64 st.v), AV.v (Value.int IntKind.i64 st.r),
                      AV.v (Value.int IntKind.i64 st.h), AV.v (Value.int IntKind.i64 st.a),
                      AV.v (Value.int IntKind.i64 st.hk), AV.v (Value.int IntKind.i64 st.hb),
                      AV.v (Value.int IntKind.i64 st.hv), AV.v (Value.int IntKind.i64 st.hr)]),
                some (Blk.arr (1 : Nat) (pc s) fun i => [AV.v (Value.int IntKind.i64 (nth s i))])]
              [some
                  (Blk.row
                    [AV.v (Value.int IntKind.i64 f), AV.v (Value.int IntKind.u32 bad),
                      AV.hs (1 : Nat) (0 : Nat) (List.length l)]),
                some (Blk.arr (11 : Nat) (List.length (l ++ j)) (lsF Sh.c (l ++ j))),
                some
                  (Blk.row
                    [AV.v (Value.int IntKind.i64 st.k), AV.v (Value.int IntKind.i64 st.b),
                      AV.v (Value.int IntKind.i64 st.v), AV.v (Value.int IntKind.i64 st.r),
                      AV.v (Value.int IntKind.i64 st.h), AV.v (Value.int IntKind.i64 st.a),
                      AV.v (Value.int IntKind.i64 st.hk), AV.v (Value.int IntKind.i64 st.hb),
                      AV.v (Value.int IntKind.i64 st.hv), AV.v (Value.int IntKind.i64 st.hr)]),
                some (Blk.arr (1 : Nat) (pc s) fun i => [AV.v (Value.int IntKind.i64 (nth s i))])]))
        (Tree.leaf
          (Ans.mk (AV.v (Value.int IntKind.i64 e))
            [some
                (Blk.row
                  [AV.v (Value.int IntKind.i64 f), AV.v (Value.int IntKind.u32 bad),
                    AV.hs (1 : Nat) (0 : Nat) (List.length l)]),
              some (Blk.arr (11 : Nat) (List.length (l ++ j)) (lsF Sh.c (l ++ j)))]))))) := by kernel_rfl
theorem run17n (s le : Int) (st : St) (f bad : Int) (l j : List Sh) : bodyE (P := Tryd.prog) (Γ := Γs) [SiQ.c22, SiQ.c20] (fun _ => LSpec.at [0, 2, 3, 5, 10, 11, 8] [] (S17 s le st f bad l j 0) (O17n s le st f bad l j)) false 44 [.tmp 8] (bodyOf Tryd.f17) (A17 s le st) (DH f bad l j) =
  Tree.chk (inU32 s)
  (Tree.br (!decide (checkF f s = (0 : Int)))
    (Tree.leaf
      (Ans.mk (AV.v (Value.int IntKind.i64 (checkF f s)))
        [some
            (Blk.row
              [AV.v (Value.int IntKind.i64 f), AV.v (Value.int IntKind.u32 bad),
                AV.hs (1 : Nat) (0 : Nat) (List.length l)]),
          some (Blk.arr (11 : Nat) (List.length (l ++ j)) (lsF Sh.c (l ++ j)))]))
    (Tree.chk (inU32 s)
      (Tree.chk
        (cl
          (LeL
              [AV.ptr (0 : Nat) (0 : Nat), AV.v (Value.int IntKind.u32 s), AV.v (Value.int IntKind.i64 le),
                AV.ptr (2 : Nat) (0 : Nat), AV.hs (3 : Nat) (0 : Nat) (pc s), AV.v (Value.int IntKind.i64 (0 : Int)),
                AV.v (Value.int IntKind.i64 (0 : Int))]
              [AV.ptr (0 : Nat) (0 : Nat), AV.v (Value.int IntKind.u32 s), AV.v (Value.int IntKind.i64 le),
                AV.ptr (2 : Nat) (0 : Nat), AV.hs (3 : Nat) (0 : Nat) (pc s),
                AV.v (Value.int IntKind.i64 (↑(0 : Nat) : Int)), AV.any] ∧
            LeH
              [some
                  (Blk.row
                    [AV.v (Value.int IntKind.i64 f), AV.v (Value.int IntKind.u32 bad),
                      AV.hs (1 : Nat) (0 : Nat) (List.length l)]),
                some (Blk.arr (11 : Nat) (List.length (l ++ j)) (lsF Sh.c (l ++ j))),
                some
                  (Blk.row
                    [AV.v (Value.int IntKind.i64 st.k), AV.v (Value.int IntKind.i64 st.b),
                      AV.v (Value.int IntKind.i64 st.v), AV.v (Value.int IntKind.i64 st.r),
                      AV.v (Value.int IntKind.i64 st.h), AV.v (Value.int IntKind.i64 st.a),
                      AV.v (Value.int IntKind.i64 st.hk), AV.v (Value.int IntKind.i64 st.hb),
                      AV.v (Value.int IntKind.i64 st.hv), AV.v (Value.int IntKind.i64 st.hr)]),
                some (Blk.arr (1 : Nat) (pc s) fun i => [AV.v (Value.int IntKind.i64 (nth s i))])]
              [some
                  (Blk.row
                    [AV.v (Value.int IntKind.i64 f), AV.v (Value.int IntKind.u32 bad),
                      AV.hs (1 : Nat) (0 : Nat) (List.length l)]),
                some (Blk.arr (11 : Nat) (List.length (l ++ j)) (lsF Sh.c (l ++ j))),
                some
                  (Blk.row
                    [AV.v (Value.int IntKind.i64 st.k), AV.v (Value.int IntKind.i64 st.b),
                      AV.v (Value.int IntKind.i64 st.v), AV.v (Value.int IntKind.i64 st.r),
                      AV.v (Value.int IntKind.i64 st.h), AV.v (Value.int IntKind.i64 st.a),
                      AV.v (Value.int IntKind.i64 st.hk), AV.v (Value.int IntKind.i64 st.hb),
                      AV.v (Value.int IntKind.i64 st.hv), AV.v (Value.int IntKind.i64 st.hr)]),
                some (Blk.arr (1 : Nat) (pc s) fun i => [AV.v (Value.int IntKind.i64 (nth s i))])]))
        (Tree.br (decide ((↑(pc s) : Int) < le))
          (Tree.leaf
            (Ans.mk (AV.v (Value.int IntKind.i64 (61 : Int)))
              [some
                  (Blk.row
                    [AV.v (Value.int IntKind.i64 f), AV.v (Value.int IntKind.u32 bad),
                      AV.hs (1 : Nat) (0 : Nat) (List.length l)]),
                some (Blk.arr (11 : Nat) (List.length (l ++ j)) (lsF Sh.c (l ++ j)))]))
          (Tree.leaf
            (Ans.mk (AV.v (Value.int IntKind.i64 (0 : Int)))
              [some
                  (Blk.row
                    [AV.v (Value.int IntKind.i64 f), AV.v (Value.int IntKind.u32 bad),
                      AV.hs (1 : Nat) (0 : Nat) (List.length l)]),
                some (Blk.arr (11 : Nat) (List.length (l ++ j)) (lsF Sh.c (l ++ j)))])))))) := by kernel_rfl
/-- a set's error: it may not be, or one does not count, or there are too few -/
inductive EnE (s le : Int) (st : St) (f bad : Int) (l : List Sh) : Int → Prop where
  | chk (h : checkF f s ≠ 0) : EnE s le st f bad l (checkF f s)
  | err (p : Nat) (h : checkF f s = 0) (h2 : p < pc s) (h3 : cAt s st f bad l p ≠ 0) (h4 : ∀ q, q < p → cAt s st f bad l q = 0) : EnE s le st f bad l (cAt s st f bad l p)
  | few (h : checkF f s = 0) (h4 : ∀ q, q < pc s → cAt s st f bad l q = 0) (h5 : (pc s : Int) < le) : EnE s le st f bad l 61
  | ok (h : checkF f s = 0) (h4 : ∀ q, q < pc s → cAt s st f bad l q = 0) (h5 : ¬ (pc s : Int) < le) : EnE s le st f bad l 0
theorem EnE.ex (s le : Int) (st : St) (f bad : Int) (l : List Sh) : ∃ e, EnE s le st f bad l e := by
  by_cases h : checkF f s = 0
  · by_cases h4 : ∀ q, q < pc s → cAt s st f bad l q = 0
    · by_cases h5 : (pc s : Int) < le
      · exact ⟨_, .few h h4 h5⟩
      · exact ⟨_, .ok h h4 h5⟩
    · have : ∃ p, p < pc s ∧ cAt s st f bad l p ≠ 0 := by
        refine Classical.byContradiction fun hn => h4 fun q hq => ?_
        refine Classical.byContradiction fun h6 => hn ⟨q, hq, h6⟩
      have key : ∀ n, (∃ p, p < n ∧ cAt s st f bad l p ≠ 0) → ∃ p, p < n ∧ cAt s st f bad l p ≠ 0 ∧ ∀ q, q < p → cAt s st f bad l q = 0 := by
        intro n
        induction n with
        | zero => exact fun ⟨p, hp, _⟩ => absurd hp (Nat.not_lt_zero _)
        | succ n ih =>
          intro ⟨p, hp, hc⟩
          by_cases hn : ∃ p, p < n ∧ cAt s st f bad l p ≠ 0
          · obtain ⟨p', a1, a2, a3⟩ := ih hn
            exact ⟨p', by omega, a2, a3⟩
          · refine ⟨p, hp, hc, fun q hq => Classical.byContradiction fun h6 => hn ⟨q, by omega, h6⟩⟩
      obtain ⟨p, a1, a2, a3⟩ := key _ this
      exact ⟨_, .err p h a1 a2 a3⟩
  · exact ⟨_, .chk h⟩
theorem ansAll {s e : Int} {st : St} {f bad : Int} {l j : List Sh} (hu : inU32 s = true) (hb : inU32 bad = true) (h : EnE s 0 st f bad l e) : Answers Tryd.prog Γs 8 [.ptr 0 0, .agg st.c, .v (.int .u32 s)] (SH f bad l j) (.v (.int .i64 e)) ((SH f bad l j).map some) [] := by
  cases h with
  | chk h => exact ansAllChk hu h
  | err p h h2 h3 h4 => exact ansAllErr hu hb h h2 h3 h4
  | few h h4 h5 => omega
  | ok h h4 h5 => exact ansAllOk hu hb h h4
theorem ansEnough {s le e : Int} {st : St} {f bad : Int} {l j : List Sh} (hu : inU32 s = true) (hb : inU32 bad = true) (h : EnE s le st f bad l e) : Answers Tryd.prog Γs 12 (A17 s le st) (SH f bad l j) (.v (.int .i64 e)) ((SH f bad l j).map some) [] := by
  cases h with
  | chk h =>
    have hA := ansAllChk (st := st) (bad := bad) (l := l) (j := j) hu h
    exact answers (fn := Tryd.f12) (c := bodyOf Tryd.f12) (ntmps := 21) (results := [.tmp 8]) [CT.at 8 hA, SiQ.c10] Lno false Tryd.func12 (by kernel_rfl) (by kernel_rfl) (by kernel_rfl) (by kernel_rfl) (by simp) rfl (noLoops (by kernel_rfl)) <| Meets.of (run12 s le (checkF f s) st f bad l j hA) <| by
      simp only [or_true, true_or, false_or, or_false, and_false, false_and, cond_true, cond_false, Bool.not_true, Bool.not_false, Bool.false_eq_true, Bool.true_eq_false, not_true_eq_false, not_false_eq_true, false_implies, true_implies, implies_true, Nat.blt_eq, owesN, owesX, owesR, notT, sat_brT, sat_brF, sat_chkT, cl_iff, cl_false, AV.le_refl, AV.le_any, OLe_refl, OLe_none, sat_brN, Tree.sat_chk, Tree.sat_leaf, Tree.sat_fail, Nat.zero_add, Nat.sub_zero, Int.toNat_natCast, LeH_cons, LeH_nil, LeL_cons, LeL_nil, and_true, true_and, Bool.and_eq_true, Bool.or_eq_true, decide_eq_true_eq, decide_eq_false_iff_not, Bool.cond_true_left, Bool.cond_false_right, List.cons_append, List.nil_append, List.map_cons, List.map_nil, hu, h]
      repeat' (first | apply And.intro | intro _hc)
      all_goals first | omega | contradiction | exact AV.le_refl _ | exact AV.le_any _ | exact OLe.refl _ | exact OLe.none _ | exact LeH.refl _ | exact LeL.refl _ | exact AV.le.bs _ | exact AV.le.sb _ | (exfalso; omega) | contradiction
  | err p h h2 h3 h4 =>
    have hA := ansAllErr (j := j) hu hb h h2 h3 h4
    exact answers (fn := Tryd.f12) (c := bodyOf Tryd.f12) (ntmps := 21) (results := [.tmp 8]) [CT.at 8 hA, SiQ.c10] Lno false Tryd.func12 (by kernel_rfl) (by kernel_rfl) (by kernel_rfl) (by kernel_rfl) (by simp) rfl (noLoops (by kernel_rfl)) <| Meets.of (run12 s le (cAt s st f bad l p) st f bad l j hA) <| by
      simp only [or_true, true_or, false_or, or_false, and_false, false_and, cond_true, cond_false, Bool.not_true, Bool.not_false, Bool.false_eq_true, Bool.true_eq_false, not_true_eq_false, not_false_eq_true, false_implies, true_implies, implies_true, Nat.blt_eq, owesN, owesX, owesR, notT, sat_brT, sat_brF, sat_chkT, cl_iff, cl_false, AV.le_refl, AV.le_any, OLe_refl, OLe_none, sat_brN, Tree.sat_chk, Tree.sat_leaf, Tree.sat_fail, Nat.zero_add, Nat.sub_zero, Int.toNat_natCast, LeH_cons, LeH_nil, LeL_cons, LeL_nil, and_true, true_and, Bool.and_eq_true, Bool.or_eq_true, decide_eq_true_eq, decide_eq_false_iff_not, Bool.cond_true_left, Bool.cond_false_right, List.cons_append, List.nil_append, List.map_cons, List.map_nil, hu, h3]
      repeat' (first | apply And.intro | intro _hc)
      all_goals first | omega | contradiction | exact AV.le_refl _ | exact AV.le_any _ | exact OLe.refl _ | exact OLe.none _ | exact LeH.refl _ | exact LeL.refl _ | exact AV.le.bs _ | exact AV.le.sb _ | (exfalso; omega) | contradiction
  | few h h4 h5 =>
    have hA := ansAllOk (j := j) hu hb h h4
    exact answers (fn := Tryd.f12) (c := bodyOf Tryd.f12) (ntmps := 21) (results := [.tmp 8]) [CT.at 8 hA, SiQ.c10] Lno false Tryd.func12 (by kernel_rfl) (by kernel_rfl) (by kernel_rfl) (by kernel_rfl) (by simp) rfl (noLoops (by kernel_rfl)) <| Meets.of (run12 s le 0 st f bad l j hA) <| by
      simp only [or_true, true_or, false_or, or_false, and_false, false_and, cond_true, cond_false, Bool.not_true, Bool.not_false, Bool.false_eq_true, Bool.true_eq_false, not_true_eq_false, not_false_eq_true, false_implies, true_implies, implies_true, Nat.blt_eq, owesN, owesX, owesR, notT, sat_brT, sat_brF, sat_chkT, cl_iff, cl_false, AV.le_refl, AV.le_any, OLe_refl, OLe_none, sat_brN, Tree.sat_chk, Tree.sat_leaf, Tree.sat_fail, Nat.zero_add, Nat.sub_zero, Int.toNat_natCast, LeH_cons, LeH_nil, LeL_cons, LeL_nil, and_true, true_and, Bool.and_eq_true, Bool.or_eq_true, decide_eq_true_eq, decide_eq_false_iff_not, Bool.cond_true_left, Bool.cond_false_right, List.cons_append, List.nil_append, List.map_cons, List.map_nil, hu, h5]
      repeat' (first | apply And.intro | intro _hc)
      all_goals first | omega | contradiction | exact AV.le_refl _ | exact AV.le_any _ | exact OLe.refl _ | exact OLe.none _ | exact LeH.refl _ | exact LeL.refl _ | exact AV.le.bs _ | exact AV.le.sb _ | (exfalso; omega) | contradiction
  | ok h h4 h5 =>
    have hA := ansAllOk (j := j) hu hb h h4
    exact answers (fn := Tryd.f12) (c := bodyOf Tryd.f12) (ntmps := 21) (results := [.tmp 8]) [CT.at 8 hA, SiQ.c10] Lno false Tryd.func12 (by kernel_rfl) (by kernel_rfl) (by kernel_rfl) (by kernel_rfl) (by simp) rfl (noLoops (by kernel_rfl)) <| Meets.of (run12 s le 0 st f bad l j hA) <| by
      simp only [or_true, true_or, false_or, or_false, and_false, false_and, cond_true, cond_false, Bool.not_true, Bool.not_false, Bool.false_eq_true, Bool.true_eq_false, not_true_eq_false, not_false_eq_true, false_implies, true_implies, implies_true, Nat.blt_eq, owesN, owesX, owesR, notT, sat_brT, sat_brF, sat_chkT, cl_iff, cl_false, AV.le_refl, AV.le_any, OLe_refl, OLe_none, sat_brN, Tree.sat_chk, Tree.sat_leaf, Tree.sat_fail, Nat.zero_add, Nat.sub_zero, Int.toNat_natCast, LeH_cons, LeH_nil, LeL_cons, LeL_nil, and_true, true_and, Bool.and_eq_true, Bool.or_eq_true, decide_eq_true_eq, decide_eq_false_iff_not, Bool.cond_true_left, Bool.cond_false_right, List.cons_append, List.nil_append, List.map_cons, List.map_nil, hu, h5]
      repeat' (first | apply And.intro | intro _hc)
      all_goals first | omega | contradiction | exact AV.le_refl _ | exact AV.le_any _ | exact OLe.refl _ | exact OLe.none _ | exact LeH.refl _ | exact LeL.refl _ | exact AV.le.bs _ | exact AV.le.sb _ | (exfalso; omega) | contradiction
theorem ansEnoughR {s le e : Int} {st : St} {f bad : Int} {l j : List Sh} (hu : inU32 s = true) (hb : inU32 bad = true) (hs : l.length ≤ 100000) (h : EnE s le st f bad l e) : Answers Tryd.prog Γs 17 (A17 s le st) (DH f bad l j) (.v (.int .i64 e)) ((DH f bad l j).map some) [] := by
  cases h with
  | chk h =>
    exact answers (fn := Tryd.f17) (c := bodyOf Tryd.f17) (ntmps := 44) (results := [.tmp 8]) [SiQ.c22, SiQ.c20] (Lno) false Tryd.func17 (by kernel_rfl) (by kernel_rfl) (by kernel_rfl) (by kernel_rfl) (by simp) rfl (failOK fun _ _ _ => rfl) <| Meets.of (run17c s le st f bad l j) <| by
      simp only [or_true, true_or, false_or, or_false, and_false, false_and, cond_true, cond_false, Bool.not_true, Bool.not_false, Bool.false_eq_true, Bool.true_eq_false, not_true_eq_false, not_false_eq_true, false_implies, true_implies, implies_true, Nat.blt_eq, owesN, owesX, owesR, notT, sat_brT, sat_brF, sat_chkT, cl_iff, cl_false, AV.le_refl, AV.le_any, OLe_refl, OLe_none, sat_brN, Tree.sat_chk, Tree.sat_leaf, Tree.sat_fail, Nat.zero_add, Nat.sub_zero, Int.toNat_natCast, LeH_cons, LeH_nil, LeL_cons, LeL_nil, and_true, true_and, Bool.and_eq_true, Bool.or_eq_true, decide_eq_true_eq, decide_eq_false_iff_not, Bool.cond_true_left, Bool.cond_false_right, List.cons_append, List.nil_append, List.map_cons, List.map_nil, hu, h]
      repeat' (first | apply And.intro | intro _hc)
      all_goals first | omega | contradiction | exact AV.le_refl _ | exact AV.le_any _ | exact OLe.refl _ | exact OLe.none _ | exact LeH.refl _ | exact LeL.refl _ | exact AV.le.bs _ | exact AV.le.sb _ | (exfalso; omega) | contradiction
  | err p h h2 h3 h4 =>
    exact answers (fn := Tryd.f17) (c := bodyOf Tryd.f17) (ntmps := 44) (results := [.tmp 8]) [SiQ.c22, SiQ.c20] (fun _ => LSpec.at [0, 2, 3, 5, 10, 11, 8] [] (S17 s le st f bad l j 0) (O17y s le st f bad l j (cAt s st f bad l p))) false Tryd.func17 (by kernel_rfl) (by kernel_rfl) (by kernel_rfl) (by kernel_rfl) (by simp) rfl (oneLoop (b := lp17) (by kernel_rfl) (loop17y hb hs h2 h3 h4 0 (Nat.zero_le _))) <| Meets.of (run17y s le (cAt s st f bad l p) st f bad l j) <| by
      simp only [or_true, true_or, false_or, or_false, and_false, false_and, cond_true, cond_false, Bool.not_true, Bool.not_false, Bool.false_eq_true, Bool.true_eq_false, not_true_eq_false, not_false_eq_true, false_implies, true_implies, implies_true, Nat.blt_eq, owesN, owesX, owesR, notT, sat_brT, sat_brF, sat_chkT, cl_iff, cl_false, AV.le_refl, AV.le_any, OLe_refl, OLe_none, sat_brN, Tree.sat_chk, Tree.sat_leaf, Tree.sat_fail, Nat.zero_add, Nat.sub_zero, Int.toNat_natCast, LeH_cons, LeH_nil, LeL_cons, LeL_nil, and_true, true_and, Bool.and_eq_true, Bool.or_eq_true, decide_eq_true_eq, decide_eq_false_iff_not, Bool.cond_true_left, Bool.cond_false_right, List.cons_append, List.nil_append, List.map_cons, List.map_nil, hu, h]
      repeat' (first | apply And.intro | intro _hc)
      all_goals first | omega | contradiction | exact AV.le_refl _ | exact AV.le_any _ | exact OLe.refl _ | exact OLe.none _ | exact LeH.refl _ | exact LeL.refl _ | exact AV.le.bs _ | exact AV.le.sb _ | (exfalso; omega) | contradiction
  | few h h4 h5 =>
    exact answers (fn := Tryd.f17) (c := bodyOf Tryd.f17) (ntmps := 44) (results := [.tmp 8]) [SiQ.c22, SiQ.c20] (fun _ => LSpec.at [0, 2, 3, 5, 10, 11, 8] [] (S17 s le st f bad l j 0) (O17n s le st f bad l j)) false Tryd.func17 (by kernel_rfl) (by kernel_rfl) (by kernel_rfl) (by kernel_rfl) (by simp) rfl (oneLoop (b := lp17) (by kernel_rfl) (loop17n hb hs h4 0 (Nat.zero_le _))) <| Meets.of (run17n s le st f bad l j) <| by
      simp only [or_true, true_or, false_or, or_false, and_false, false_and, cond_true, cond_false, Bool.not_true, Bool.not_false, Bool.false_eq_true, Bool.true_eq_false, not_true_eq_false, not_false_eq_true, false_implies, true_implies, implies_true, Nat.blt_eq, owesN, owesX, owesR, notT, sat_brT, sat_brF, sat_chkT, cl_iff, cl_false, AV.le_refl, AV.le_any, OLe_refl, OLe_none, sat_brN, Tree.sat_chk, Tree.sat_leaf, Tree.sat_fail, Nat.zero_add, Nat.sub_zero, Int.toNat_natCast, LeH_cons, LeH_nil, LeL_cons, LeL_nil, and_true, true_and, Bool.and_eq_true, Bool.or_eq_true, decide_eq_true_eq, decide_eq_false_iff_not, Bool.cond_true_left, Bool.cond_false_right, List.cons_append, List.nil_append, List.map_cons, List.map_nil, hu, h, h5]
      repeat' (first | apply And.intro | intro _hc)
      all_goals first | omega | contradiction | exact AV.le_refl _ | exact AV.le_any _ | exact OLe.refl _ | exact OLe.none _ | exact LeH.refl _ | exact LeL.refl _ | exact AV.le.bs _ | exact AV.le.sb _ | (exfalso; omega) | contradiction
  | ok h h4 h5 =>
    exact answers (fn := Tryd.f17) (c := bodyOf Tryd.f17) (ntmps := 44) (results := [.tmp 8]) [SiQ.c22, SiQ.c20] (fun _ => LSpec.at [0, 2, 3, 5, 10, 11, 8] [] (S17 s le st f bad l j 0) (O17n s le st f bad l j)) false Tryd.func17 (by kernel_rfl) (by kernel_rfl) (by kernel_rfl) (by kernel_rfl) (by simp) rfl (oneLoop (b := lp17) (by kernel_rfl) (loop17n hb hs h4 0 (Nat.zero_le _))) <| Meets.of (run17n s le st f bad l j) <| by
      simp only [or_true, true_or, false_or, or_false, and_false, false_and, cond_true, cond_false, Bool.not_true, Bool.not_false, Bool.false_eq_true, Bool.true_eq_false, not_true_eq_false, not_false_eq_true, false_implies, true_implies, implies_true, Nat.blt_eq, owesN, owesX, owesR, notT, sat_brT, sat_brF, sat_chkT, cl_iff, cl_false, AV.le_refl, AV.le_any, OLe_refl, OLe_none, sat_brN, Tree.sat_chk, Tree.sat_leaf, Tree.sat_fail, Nat.zero_add, Nat.sub_zero, Int.toNat_natCast, LeH_cons, LeH_nil, LeL_cons, LeL_nil, and_true, true_and, Bool.and_eq_true, Bool.or_eq_true, decide_eq_true_eq, decide_eq_false_iff_not, Bool.cond_true_left, Bool.cond_false_right, List.cons_append, List.nil_append, List.map_cons, List.map_nil, hu, h, h5]
      repeat' (first | apply And.intro | intro _hc)
      all_goals first | omega | contradiction | exact AV.le_refl _ | exact AV.le_any _ | exact OLe.refl _ | exact OLe.none _ | exact LeH.refl _ | exact LeL.refl _ | exact AV.le.bs _ | exact AV.le.sb _ | (exfalso; omega) | contradiction
end Go.Eng.Si

/- sign: any calls: the rounds. -/
namespace Go.Eng.Si
open Go Go.Eng Go.Eng.M Go.Proofs
set_option linter.unusedSimpArgs false
set_option linter.unusedVariables false
structure Ac where
  k : Int
  s : Int
  le : Int
  set : Int
  st : St
instance : Inhabited Ac := ⟨⟨0, 0, 0, 0, default⟩⟩
def Ac.c (x : Ac) : List AV := [.v (.int .i64 x.k), .v (.int .i64 x.s), .v (.int .i64 x.le), .v (.int .u32 x.set), .v (.int .i64 x.st.k), .v (.int .i64 x.st.b), .v (.int .i64 x.st.v), .v (.int .i64 x.st.r), .v (.int .i64 x.st.h), .v (.int .i64 x.st.a), .v (.int .i64 x.st.hk), .v (.int .i64 x.st.hb), .v (.int .i64 x.st.hv), .v (.int .i64 x.st.hr)]
def Ac.cells (x : Ac) : List Value := [.int .i64 x.k, .int .i64 x.s, .int .i64 x.le, .int .u32 x.set, .int .i64 x.st.k, .int .i64 x.st.b, .int .i64 x.st.v, .int .i64 x.st.r, .int .i64 x.st.h, .int .i64 x.st.a, .int .i64 x.st.hk, .int .i64 x.st.hb, .int .i64 x.st.hv, .int .i64 x.st.hr]
theorem Ac.cod : Cod Ac.c 14 := ⟨fun _ => rfl, fun b x y => by cases b <;> rfl⟩
theorem Ac.dec (vs : List Value) (h0 : GoodVs [.int .i64, .int .i64, .int .i64, .int .u32, .int .i64, .int .i64, .int .i64, .int .i64, .int .i64, .int .i64, .int .i64, .int .i64, .int .i64, .int .i64] vs) : ∃ a : Ac, vs = a.cells := by
  obtain ⟨_, _, rfl, ⟨a0, rfl, _⟩, h1⟩ := h0.cons
  obtain ⟨_, _, rfl, ⟨a1, rfl, _⟩, h2⟩ := h1.cons
  obtain ⟨_, _, rfl, ⟨a2, rfl, _⟩, h3⟩ := h2.cons
  obtain ⟨_, _, rfl, ⟨a3, rfl, _⟩, h4⟩ := h3.cons
  obtain ⟨_, _, rfl, ⟨a4, rfl, _⟩, h5⟩ := h4.cons
  obtain ⟨_, _, rfl, ⟨a5, rfl, _⟩, h6⟩ := h5.cons
  obtain ⟨_, _, rfl, ⟨a6, rfl, _⟩, h7⟩ := h6.cons
  obtain ⟨_, _, rfl, ⟨a7, rfl, _⟩, h8⟩ := h7.cons
  obtain ⟨_, _, rfl, ⟨a8, rfl, _⟩, h9⟩ := h8.cons
  obtain ⟨_, _, rfl, ⟨a9, rfl, _⟩, h10⟩ := h9.cons
  obtain ⟨_, _, rfl, ⟨a10, rfl, _⟩, h11⟩ := h10.cons
  obtain ⟨_, _, rfl, ⟨a11, rfl, _⟩, h12⟩ := h11.cons
  obtain ⟨_, _, rfl, ⟨a12, rfl, _⟩, h13⟩ := h12.cons
  obtain ⟨_, _, rfl, ⟨a13, rfl, _⟩, h14⟩ := h13.cons
  obtain rfl := h14.nil
  exact ⟨⟨a0, a1, a2, a3, ⟨a4, a5, a6, a7, a8, a9, a10, a11, a12, a13⟩⟩, rfl⟩
abbrev Ac.ks : List Cel := [.int .i64, .int .i64, .int .i64, .int .u32, .int .i64, .int .i64, .int .i64, .int .i64, .int .i64, .int .i64, .int .i64, .int .i64, .int .i64, .int .i64]
noncomputable abbrev lp4 (j : Nat) : Code := loopOf (bodyOf Tryd.f4) j
structure X4 where
  f : Int
  bad : Int
  acts : List Ac
  l : List Sh
  j : List Sh
  j' : List Sh
  i : Nat
def X4.v (x : X4) : List AV := [.v (.int .i64 x.f), .v (.int .u32 x.bad), .sl 14 x.acts.length (lsF Ac.c x.acts), .ptr 0 0, .ptr 3 0, .v (.int .i64 (x.i : Int))]
def X4.H (x : X4) : List Blk := [sgR 1 2 x.f x.bad x.l.length, sgM x.l, shB (x.l ++ x.j), sgD 4 x.f x.bad x.l.length, shB (x.l ++ x.j')]
def S41 (x : X4) : List AV × Heap := (x.v ++ [.any], x.H.map some)
def S42 (x : X4) (k : Nat) : List AV × Heap := (x.v ++ [.hs 5 0 x.l.length, .v (.int .i64 (k : Int)), .any], (x.H ++ [Blk.arr 11 x.l.length (lsF Sh.c (x.l ++ x.j))]).map some)
def O42 (x : X4) : Out := ⟨.exit 3, x.v ++ [.any, .any, .any], x.H.map some ++ [none]⟩
abbrev lv42 : List Nat := [0, 1, 2, 7, 9, 11, 16, 17, 6]
abbrev lv41 : List Nat := [0, 1, 2, 7, 9, 11, 6]
abbrev nl41 : List (Nat × TypeId) := [(403, 36), (304, 36)]
noncomputable def L41 (x : X4) : Nat → LSpec
  | 0 => LSpec.at lv42 [] (S42 x 0) (O42 x)
  | _ => ⟨[], [], fun _ _ => .fail⟩
def shOf (a : Ac) : Sh := ⟨a.s, a.st⟩
theorem r42 (x : X4) (k : Nat) : roundE (P := Tryd.prog) (Γ := Γs) [] Lno false 0 0 (lp4 1) lv42 [] 159 (S42 x k).1 (S42 x k).2 =
  Tree.br (decide ((↑k : Int) < (↑(List.length x.l) : Int))) (Tree.chk (decide ((0 : Int) ≤ (↑k : Int)) && decide ((↑k : Int) < (↑(List.length x.l) : Int)) && (decide ((0 : Int) ≤ (↑k : Int))
&& decide ((↑k : Int) < (↑(List.length x.l) : Int)))) (Tree.br (!(decide ((List.getD (x.l ++ x.j) ((0 : Nat) + k) default).s = (List.getD (x.l ++ x.j') ((0 : Nat) + k) default).s) && (decide
((List.getD (x.l ++ x.j) ((0 : Nat) + k) default).st.k = (List.getD (x.l ++ x.j') ((0 : Nat) + k) default).st.k) && (decide ((List.getD (x.l ++ x.j) ((0 : Nat) + k) default).st.b =
(List.getD (x.l ++ x.j') ((0 : Nat) + k) default).st.b) && (decide ((List.getD (x.l ++ x.j) ((0 : Nat) + k) default).st.v = (List.getD (x.l ++ x.j') ((0 : Nat) + k) default).st.v) && (decide
((List.getD (x.l ++ x.j) ((0 : Nat) + k) default).st.r = (List.getD (x.l ++ x.j') ((0 : Nat) + k) default).st.r) && (decide ((List.getD (x.l ++ x.j) ((0 : Nat) + k) default).st.h =
(List.getD (x.l ++ x.j') ((0 : Nat) + k) default).st.h) && (decide ((List.getD (x.l ++ x.j) ((0 : Nat) + k) default).st.a = (List.getD (x.l ++ x.j') ((0 : Nat) + k) default).st.a) && (decide
((List.getD (x.l ++ x.j) ((0 : Nat) + k) default).st.hk = (List.getD (x.l ++ x.j') ((0 : Nat) + k) default).st.hk) && (decide ((List.getD (x.l ++ x.j) ((0 : Nat) + k) default).st.hb =
(List.getD (x.l ++ x.j') ((0 : Nat) + k) default).st.hb) && (decide ((List.getD (x.l ++ x.j) ((0 : Nat) + k) default).st.hv = (List.getD (x.l ++ x.j') ((0 : Nat) + k) default).st.hv) &&
decide ((List.getD (x.l ++ x.j) ((0 : Nat) + k) default).st.hr = (List.getD (x.l ++ x.j') ((0 : Nat) + k) default).st.hr)))))))))))) (Tree.leaf (Out.mk AEx.ret [AV.v (Value.int IntKind.i64
x.f), AV.v (Value.int IntKind.u32 x.bad), AV.sl (14 : Nat) (List.length x.acts) (lsF Ac.c x.acts), AV.ptr (0 : Nat) (0 : Nat), AV.ptr (3 : Nat) (0 : Nat), AV.v (Value.int IntKind.i64 (↑x.i :
Int)), AV.hs (5 : Nat) (0 : Nat) (List.length x.l), AV.v (Value.int IntKind.i64 (↑k : Int)), AV.v (Value.bool false)] [some (Blk.row [AV.v (Value.int IntKind.i64 x.f), AV.v (Value.int
IntKind.u32 x.bad), AV.map (1 : Nat), AV.hs (2 : Nat) (0 : Nat) (List.length x.l)]), some (Blk.mp [Cel.int IntKind.i64, Cel.int IntKind.i64, Cel.int IntKind.i64, Cel.int IntKind.i64, Cel.int
IntKind.i64, Cel.int IntKind.i64, Cel.int IntKind.i64, Cel.int IntKind.i64, Cel.int IntKind.i64, Cel.int IntKind.i64, Cel.int IntKind.i64] true false (List.length x.l) (hasS x.l) anyV), some
(Blk.arr (11 : Nat) (List.length (x.l ++ x.j)) (lsF Sh.c (x.l ++ x.j))), some (Blk.row [AV.v (Value.int IntKind.i64 x.f), AV.v (Value.int IntKind.u32 x.bad), AV.hs (4 : Nat) (0 : Nat)
(List.length x.l)]), some (Blk.arr (11 : Nat) (List.length (x.l ++ x.j')) (lsF Sh.c (x.l ++ x.j'))), some (Blk.arr (11 : Nat) (List.length x.l) (lsF Sh.c (x.l ++ x.j)))])) (Tree.leaf (Out.mk
AEx.normal [AV.v (Value.int IntKind.i64 x.f), AV.v (Value.int IntKind.u32 x.bad), AV.sl (14 : Nat) (List.length x.acts) (lsF Ac.c x.acts), AV.ptr (0 : Nat) (0 : Nat), AV.ptr (3 : Nat) (0 :
Nat), AV.v (Value.int IntKind.i64 (↑x.i : Int)), AV.hs (5 : Nat) (0 : Nat) (List.length x.l), AV.v (Value.int IntKind.i64 (IntKind.wrap IntKind.i64 ((↑k : Int) + (1 : Int)))), AV.any] [some
(Blk.row [AV.v (Value.int IntKind.i64 x.f), AV.v (Value.int IntKind.u32 x.bad), AV.map (1 : Nat), AV.hs (2 : Nat) (0 : Nat) (List.length x.l)]), some (Blk.mp [Cel.int IntKind.i64, Cel.int
IntKind.i64, Cel.int IntKind.i64, Cel.int IntKind.i64, Cel.int IntKind.i64, Cel.int IntKind.i64, Cel.int IntKind.i64, Cel.int IntKind.i64, Cel.int IntKind.i64, Cel.int IntKind.i64, Cel.int
IntKind.i64] true false (List.length x.l) (hasS x.l) anyV), some (Blk.arr (11 : Nat) (List.length (x.l ++ x.j)) (lsF Sh.c (x.l ++ x.j))), some (Blk.row [AV.v (Value.int IntKind.i64 x.f),
AV.v (Value.int IntKind.u32 x.bad), AV.hs (4 : Nat) (0 : Nat) (List.length x.l)]), some (Blk.arr (11 : Nat) (List.length (x.l ++ x.j')) (lsF Sh.c (x.l ++ x.j'))), some (Blk.arr (11 : Nat)
(List.length x.l) (lsF Sh.c (x.l ++ x.j)))])))) (Tree.leaf (Out.mk (AEx.exit (3 : Nat)) [AV.v (Value.int IntKind.i64 x.f), AV.v (Value.int IntKind.u32 x.bad), AV.sl (14 : Nat) (List.length
x.acts) (lsF Ac.c x.acts), AV.ptr (0 : Nat) (0 : Nat), AV.ptr (3 : Nat) (0 : Nat), AV.v (Value.int IntKind.i64 (↑x.i : Int)), AV.hs (5 : Nat) (0 : Nat) (List.length x.l), AV.v (Value.int
IntKind.i64 (↑k : Int)), AV.any] [some (Blk.row [AV.v (Value.int IntKind.i64 x.f), AV.v (Value.int IntKind.u32 x.bad), AV.map (1 : Nat), AV.hs (2 : Nat) (0 : Nat) (List.length x.l)]), some
(Blk.mp [Cel.int IntKind.i64, Cel.int IntKind.i64, Cel.int IntKind.i64, Cel.int IntKind.i64, Cel.int IntKind.i64, Cel.int IntKind.i64, Cel.int IntKind.i64, Cel.int IntKind.i64, Cel.int
IntKind.i64, Cel.int IntKind.i64, Cel.int IntKind.i64] true false (List.length x.l) (hasS x.l) anyV), some (Blk.arr (11 : Nat) (List.length (x.l ++ x.j)) (lsF Sh.c (x.l ++ x.j))), some
(Blk.row [AV.v (Value.int IntKind.i64 x.f), AV.v (Value.int IntKind.u32 x.bad), AV.hs (4 : Nat) (0 : Nat) (List.length x.l)]), some (Blk.arr (11 : Nat) (List.length (x.l ++ x.j')) (lsF Sh.c
(x.l ++ x.j'))), some (Blk.arr (11 : Nat) (List.length x.l) (lsF Sh.c (x.l ++ x.j)))])) := by kernel_rfl
theorem r4end (x : X4) : roundE (P := Tryd.prog) (Γ := Γs) [kSh, S.c19, S.c20] (L41 x) false 0 0 (lp4 0) lv41 nl41 159 (S41 x).1 (S41 x).2 =
  Tree.br (bif decide ((↑x.i : Int) < (↑(List.length x.acts) : Int)) then true else false) (Tree.chk (decide ((0 : Int) ≤ (↑x.i : Int)) && decide ((↑x.i : Int) < (↑(List.length x.acts) :
Int))) (Tree.br (decide ((List.getD x.acts x.i default).k = (0 : Int))) Tree.fail (Tree.br (decide ((List.getD x.acts x.i default).k = (1 : Int))) Tree.fail (Tree.br (decide ((List.getD
x.acts x.i default).k = (2 : Int))) Tree.fail (Tree.br (decide ((List.getD x.acts x.i default).k = (3 : Int))) Tree.fail (Tree.chk true (Tree.chk (cl (List.length x.l ≤ (1000000000 : Nat) ∧
∃ l junk, List.length x.l = List.length l ∧ List.length (x.l ++ x.j) = List.length (l ++ junk) ∧ ∀ (e : Nat), lsF Sh.c (x.l ++ x.j) e = Sh.c (List.getD (l ++ junk) e default))) (Tree.br
false (Tree.leaf (Out.mk AEx.ret [AV.v (Value.int IntKind.i64 x.f), AV.v (Value.int IntKind.u32 x.bad), AV.sl (14 : Nat) (List.length x.acts) (lsF Ac.c x.acts), AV.ptr (0 : Nat) (0 : Nat),
AV.ptr (3 : Nat) (0 : Nat), AV.v (Value.int IntKind.i64 (↑x.i : Int)), AV.v (Value.bool false)] [some (Blk.row [AV.v (Value.int IntKind.i64 x.f), AV.v (Value.int IntKind.u32 x.bad), AV.map
(1 : Nat), AV.hs (2 : Nat) (0 : Nat) (List.length x.l)]), some (Blk.mp [Cel.int IntKind.i64, Cel.int IntKind.i64, Cel.int IntKind.i64, Cel.int IntKind.i64, Cel.int IntKind.i64, Cel.int
IntKind.i64, Cel.int IntKind.i64, Cel.int IntKind.i64, Cel.int IntKind.i64, Cel.int IntKind.i64, Cel.int IntKind.i64] true false (List.length x.l) (hasS x.l) anyV), some (Blk.arr (11 : Nat)
(List.length (x.l ++ x.j)) (lsF Sh.c (x.l ++ x.j))), some (Blk.row [AV.v (Value.int IntKind.i64 x.f), AV.v (Value.int IntKind.u32 x.bad), AV.hs (4 : Nat) (0 : Nat) (List.length x.l)]), some
(Blk.arr (11 : Nat) (List.length (x.l ++ x.j')) (lsF Sh.c (x.l ++ x.j')))])) (Tree.br (!decide ((↑(List.length x.l) : Int) = (↑(List.length x.l) : Int))) (Tree.leaf (Out.mk AEx.ret [AV.v
(Value.int IntKind.i64 x.f), AV.v (Value.int IntKind.u32 x.bad), AV.sl (14 : Nat) (List.length x.acts) (lsF Ac.c x.acts), AV.ptr (0 : Nat) (0 : Nat), AV.ptr (3 : Nat) (0 : Nat), AV.v
(Value.int IntKind.i64 (↑x.i : Int)), AV.v (Value.bool false)] [some (Blk.row [AV.v (Value.int IntKind.i64 x.f), AV.v (Value.int IntKind.u32 x.bad), AV.map (1 : Nat), AV.hs (2 : Nat) (0 :
Nat) (List.length x.l)]), some (Blk.mp [Cel.int IntKind.i64, Cel.int IntKind.i64, Cel.int IntKind.i64, Cel.int IntKind.i64, Cel.int IntKind.i64, Cel.int IntKind.i64, Cel.int IntKind.i64,
Cel.int IntKind.i64, Cel.int IntKind.i64, Cel.int IntKind.i64, Cel.int IntKind.i64] true false (List.length x.l) (hasS x.l) anyV), some (Blk.arr (11 : Nat) (List.length (x.l ++ x.j)) (lsF
Sh.c (x.l ++ x.j))), some (Blk.row [AV.v (Value.int IntKind.i64 x.f), AV.v (Value.int IntKind.u32 x.bad), AV.hs (4 : Nat) (0 : Nat) (List.length x.l)]), some (Blk.arr (11 : Nat) (List.length
(x.l ++ x.j')) (lsF Sh.c (x.l ++ x.j')))])) (Tree.br (!decide (x.f = x.f)) (Tree.leaf (Out.mk AEx.ret [AV.v (Value.int IntKind.i64 x.f), AV.v (Value.int IntKind.u32 x.bad), AV.sl (14 : Nat)
(List.length x.acts) (lsF Ac.c x.acts), AV.ptr (0 : Nat) (0 : Nat), AV.ptr (3 : Nat) (0 : Nat), AV.v (Value.int IntKind.i64 (↑x.i : Int)), AV.v (Value.bool false)] [some (Blk.row [AV.v
(Value.int IntKind.i64 x.f), AV.v (Value.int IntKind.u32 x.bad), AV.map (1 : Nat), AV.hs (2 : Nat) (0 : Nat) (List.length x.l)]), some (Blk.mp [Cel.int IntKind.i64, Cel.int IntKind.i64,
Cel.int IntKind.i64, Cel.int IntKind.i64, Cel.int IntKind.i64, Cel.int IntKind.i64, Cel.int IntKind.i64, Cel.int IntKind.i64, Cel.int IntKind.i64, Cel.int IntKind.i64, Cel.int IntKind.i64]
true false (List.length x.l) (hasS x.l) anyV), some (Blk.arr (11 : Nat) (List.length (x.l ++ x.j)) (lsF Sh.c (x.l ++ x.j))), some (Blk.row [AV.v (Value.int IntKind.i64 x.f), AV.v (Value.int
IntKind.u32 x.bad), AV.hs (4 : Nat) (0 : Nat) (List.length x.l)]), some (Blk.arr (11 : Nat) (List.length (x.l ++ x.j')) (lsF Sh.c (x.l ++ x.j')))])) (Tree.br (!decide (x.bad = x.bad))
(Tree.leaf (Out.mk AEx.ret [AV.v (Value.int IntKind.i64 x.f), AV.v (Value.int IntKind.u32 x.bad), AV.sl (14 : Nat) (List.length x.acts) (lsF Ac.c x.acts), AV.ptr (0 : Nat) (0 : Nat), AV.ptr
(3 : Nat) (0 : Nat), AV.v (Value.int IntKind.i64 (↑x.i : Int)), AV.v (Value.bool false)] [some (Blk.row [AV.v (Value.int IntKind.i64 x.f), AV.v (Value.int IntKind.u32 x.bad), AV.map (1 :
Nat), AV.hs (2 : Nat) (0 : Nat) (List.length x.l)]), some (Blk.mp [Cel.int IntKind.i64, Cel.int IntKind.i64, Cel.int IntKind.i64, Cel.int IntKind.i64, Cel.int IntKind.i64, Cel.int
IntKind.i64, Cel.int IntKind.i64, Cel.int IntKind.i64, Cel.int IntKind.i64, Cel.int IntKind.i64, Cel.int IntKind.i64] true false (List.length x.l) (hasS x.l) anyV), some (Blk.arr (11 : Nat)
(List.length (x.l ++ x.j)) (lsF Sh.c (x.l ++ x.j))), some (Blk.row [AV.v (Value.int IntKind.i64 x.f), AV.v (Value.int IntKind.u32 x.bad), AV.hs (4 : Nat) (0 : Nat) (List.length x.l)]), some
(Blk.arr (11 : Nat) (List.length (x.l ++ x.j')) (lsF Sh.c (x.l ++ x.j')))])) (Tree.chk (cl (LeL [AV.v (Value.int IntKind.i64 x.f), AV.v (Value.int IntKind.u32 x.bad), AV.sl (14 : Nat)
(List.length x.acts) (lsF Ac.c x.acts), AV.ptr (0 : Nat) (0 : Nat), AV.ptr (3 : Nat) (0 : Nat), AV.v (Value.int IntKind.i64 (↑x.i : Int)), AV.hs (5 : Nat) (0 : Nat) (List.length x.l), AV.v
(Value.int IntKind.i64 (0 : Int)), AV.any] [AV.v (Value.int IntKind.i64 x.f), AV.v (Value.int IntKind.u32 x.bad), AV.sl (14 : Nat) (List.length x.acts) (lsF Ac.c x.acts), AV.ptr (0 : Nat) (0
: Nat), AV.ptr (3 : Nat) (0 : Nat), AV.v (Value.int IntKind.i64 (↑x.i : Int)), AV.hs (5 : Nat) (0 : Nat) (List.length x.l), AV.v (Value.int IntKind.i64 (↑(0 : Nat) : Int)), AV.any] ∧ LeH
[some (Blk.row [AV.v (Value.int IntKind.i64 x.f), AV.v (Value.int IntKind.u32 x.bad), AV.map (1 : Nat), AV.hs (2 : Nat) (0 : Nat) (List.length x.l)]), some (Blk.mp [Cel.int IntKind.i64,
Cel.int IntKind.i64, Cel.int IntKind.i64, Cel.int IntKind.i64, Cel.int IntKind.i64, Cel.int IntKind.i64, Cel.int IntKind.i64, Cel.int IntKind.i64, Cel.int IntKind.i64, Cel.int IntKind.i64,
Cel.int IntKind.i64] true false (List.length x.l) (hasS x.l) anyV), some (Blk.arr (11 : Nat) (List.length (x.l ++ x.j)) (lsF Sh.c (x.l ++ x.j))), some (Blk.row [AV.v (Value.int IntKind.i64
x.f), AV.v (Value.int IntKind.u32 x.bad), AV.hs (4 : Nat) (0 : Nat) (List.length x.l)]), some (Blk.arr (11 : Nat) (List.length (x.l ++ x.j')) (lsF Sh.c (x.l ++ x.j'))), some (Blk.arr (11 :
Nat) (List.length x.l) (lsF Sh.c (x.l ++ x.j)))] [some (Blk.row [AV.v (Value.int IntKind.i64 x.f), AV.v (Value.int IntKind.u32 x.bad), AV.map (1 : Nat), AV.hs (2 : Nat) (0 : Nat)
(List.length x.l)]), some (Blk.mp [Cel.int IntKind.i64, Cel.int IntKind.i64, Cel.int IntKind.i64, Cel.int IntKind.i64, Cel.int IntKind.i64, Cel.int IntKind.i64, Cel.int IntKind.i64, Cel.int
IntKind.i64, Cel.int IntKind.i64, Cel.int IntKind.i64, Cel.int IntKind.i64] true false (List.length x.l) (hasS x.l) anyV), some (Blk.arr (11 : Nat) (List.length (x.l ++ x.j)) (lsF Sh.c (x.l
++ x.j))), some (Blk.row [AV.v (Value.int IntKind.i64 x.f), AV.v (Value.int IntKind.u32 x.bad), AV.hs (4 : Nat) (0 : Nat) (List.length x.l)]), some (Blk.arr (11 : Nat) (List.length (x.l ++
x.j')) (lsF Sh.c (x.l ++ x.j'))), some (Blk.arr (11 : Nat) (List.length x.l) (lsF Sh.c (x.l ++ x.j)))])) (Tree.leaf (Out.mk AEx.normal [AV.v (Value.int IntKind.i64 x.f), AV.v (Value.int
IntKind.u32 x.bad), AV.sl (14 : Nat) (List.length x.acts) (lsF Ac.c x.acts), AV.ptr (0 : Nat) (0 : Nat), AV.ptr (3 : Nat) (0 : Nat), AV.v (Value.int IntKind.i64 (IntKind.wrap IntKind.i64
((↑x.i : Int) + (1 : Int)))), AV.any] [some (Blk.row [AV.v (Value.int IntKind.i64 x.f), AV.v (Value.int IntKind.u32 x.bad), AV.map (1 : Nat), AV.hs (2 : Nat) (0 : Nat) (List.length x.l)]),
some (Blk.mp [Cel.int IntKind.i64, Cel.int IntKind.i64, Cel.int IntKind.i64, Cel.int IntKind.i64, Cel.int IntKind.i64, Cel.int IntKind.i64, Cel.int IntKind.i64, Cel.int IntKind.i64, Cel.int
IntKind.i64, Cel.int IntKind.i64, Cel.int IntKind.i64] true false (List.length x.l) (hasS x.l) anyV), some (Blk.arr (11 : Nat) (List.length (x.l ++ x.j)) (lsF Sh.c (x.l ++ x.j))), some
(Blk.row [AV.v (Value.int IntKind.i64 x.f), AV.v (Value.int IntKind.u32 x.bad), AV.hs (4 : Nat) (0 : Nat) (List.length x.l)]), some (Blk.arr (11 : Nat) (List.length (x.l ++ x.j')) (lsF Sh.c
(x.l ++ x.j')))])))))))))))))) (Tree.leaf (Out.mk (AEx.exit (0 : Nat)) [AV.v (Value.int IntKind.i64 x.f), AV.v (Value.int IntKind.u32 x.bad), AV.sl (14 : Nat) (List.length x.acts) (lsF Ac.c
x.acts), AV.ptr (0 : Nat) (0 : Nat), AV.ptr (3 : Nat) (0 : Nat), AV.v (Value.int IntKind.i64 (↑x.i : Int)), AV.any] [some (Blk.row [AV.v (Value.int IntKind.i64 x.f), AV.v (Value.int
IntKind.u32 x.bad), AV.map (1 : Nat), AV.hs (2 : Nat) (0 : Nat) (List.length x.l)]), some (Blk.mp [Cel.int IntKind.i64, Cel.int IntKind.i64, Cel.int IntKind.i64, Cel.int IntKind.i64, Cel.int
IntKind.i64, Cel.int IntKind.i64, Cel.int IntKind.i64, Cel.int IntKind.i64, Cel.int IntKind.i64, Cel.int IntKind.i64, Cel.int IntKind.i64] true false (List.length x.l) (hasS x.l) anyV), some
(Blk.arr (11 : Nat) (List.length (x.l ++ x.j)) (lsF Sh.c (x.l ++ x.j))), some (Blk.row [AV.v (Value.int IntKind.i64 x.f), AV.v (Value.int IntKind.u32 x.bad), AV.hs (4 : Nat) (0 : Nat)
(List.length x.l)]), some (Blk.arr (11 : Nat) (List.length (x.l ++ x.j')) (lsF Sh.c (x.l ++ x.j')))])) := by kernel_rfl
theorem r4out (x : X4) (h : outS x.f (shOf (x.acts.getD x.i default))) : roundE (P := Tryd.prog) (Γ := Γs) [kSh, S.c19, S.c20, CT.at 9 (ansIssueOut (f := x.f) (bad := x.bad) (l := x.l) (j := x.j) h), CT.at 14 (ansIssueROut (f := x.f) (bad := x.bad) (l := x.l) (j := x.j') h)] (L41 x) false 0 0 (lp4 0) lv41 nl41 159 (S41 x).1 (S41 x).2 =
  Tree.br (bif decide ((↑x.i : Int) < (↑(List.length x.acts) : Int)) then true else false) (Tree.chk (decide ((0 : Int) ≤ (↑x.i : Int)) && decide ((↑x.i : Int) < (↑(List.length x.acts) :
Int))) (Tree.br (decide ((List.getD x.acts x.i default).k = (0 : Int))) (Tree.chk (cl (LeL [AV.ptr (0 : Nat) (0 : Nat), AV.agg [AV.v (Value.int IntKind.i64 (List.getD x.acts x.i default).s),
AV.v (Value.int IntKind.i64 (List.getD x.acts x.i default).st.k), AV.v (Value.int IntKind.i64 (List.getD x.acts x.i default).st.b), AV.v (Value.int IntKind.i64 (List.getD x.acts x.i
default).st.v), AV.v (Value.int IntKind.i64 (List.getD x.acts x.i default).st.r), AV.v (Value.int IntKind.i64 (List.getD x.acts x.i default).st.h), AV.v (Value.int IntKind.i64 (List.getD
x.acts x.i default).st.a), AV.v (Value.int IntKind.i64 (List.getD x.acts x.i default).st.hk), AV.v (Value.int IntKind.i64 (List.getD x.acts x.i default).st.hb), AV.v (Value.int IntKind.i64
(List.getD x.acts x.i default).st.hv), AV.v (Value.int IntKind.i64 (List.getD x.acts x.i default).st.hr)]] [AV.ptr (0 : Nat) (0 : Nat), AV.agg [AV.v (Value.int IntKind.i64 (List.getD x.acts
x.i default).s), AV.v (Value.int IntKind.i64 (List.getD x.acts x.i default).st.k), AV.v (Value.int IntKind.i64 (List.getD x.acts x.i default).st.b), AV.v (Value.int IntKind.i64 (List.getD
x.acts x.i default).st.v), AV.v (Value.int IntKind.i64 (List.getD x.acts x.i default).st.r), AV.v (Value.int IntKind.i64 (List.getD x.acts x.i default).st.h), AV.v (Value.int IntKind.i64
(List.getD x.acts x.i default).st.a), AV.v (Value.int IntKind.i64 (List.getD x.acts x.i default).st.hk), AV.v (Value.int IntKind.i64 (List.getD x.acts x.i default).st.hb), AV.v (Value.int
IntKind.i64 (List.getD x.acts x.i default).st.hv), AV.v (Value.int IntKind.i64 (List.getD x.acts x.i default).st.hr)]] ∧ LeH [some (Blk.row [AV.v (Value.int IntKind.i64 x.f), AV.v (Value.int
IntKind.u32 x.bad), AV.map (1 : Nat), AV.hs (2 : Nat) (0 : Nat) (List.length x.l)]), some (Blk.mp [Cel.int IntKind.i64, Cel.int IntKind.i64, Cel.int IntKind.i64, Cel.int IntKind.i64, Cel.int
IntKind.i64, Cel.int IntKind.i64, Cel.int IntKind.i64, Cel.int IntKind.i64, Cel.int IntKind.i64, Cel.int IntKind.i64, Cel.int IntKind.i64] true false (List.length x.l) (hasS x.l) anyV), some
(Blk.arr (11 : Nat) (List.length (x.l ++ x.j)) (lsF Sh.c (x.l ++ x.j)))] [some (Blk.row [AV.v (Value.int IntKind.i64 x.f), AV.v (Value.int IntKind.u32 x.bad), AV.map (1 : Nat), AV.hs (2 :
Nat) (0 : Nat) (List.length x.l)]), some (Blk.mp [Cel.int IntKind.i64, Cel.int IntKind.i64, Cel.int IntKind.i64, Cel.int IntKind.i64, Cel.int IntKind.i64, Cel.int IntKind.i64, Cel.int
IntKind.i64, Cel.int IntKind.i64, Cel.int IntKind.i64, Cel.int IntKind.i64, Cel.int IntKind.i64] true false (List.length x.l) (hasS x.l) anyV), some (Blk.arr (11 : Nat) (List.length (x.l ++
x.j)) (lsF Sh.c (x.l ++ x.j)))])) (Tree.chk (cl (LeL [AV.ptr (0 : Nat) (0 : Nat), AV.agg [AV.v (Value.int IntKind.i64 (List.getD x.acts x.i default).s), AV.v (Value.int IntKind.i64
(List.getD x.acts x.i default).st.k), AV.v (Value.int IntKind.i64 (List.getD x.acts x.i default).st.b), AV.v (Value.int IntKind.i64 (List.getD x.acts x.i default).st.v), AV.v (Value.int
IntKind.i64 (List.getD x.acts x.i default).st.r), AV.v (Value.int IntKind.i64 (List.getD x.acts x.i default).st.h), AV.v (Value.int IntKind.i64 (List.getD x.acts x.i default).st.a), AV.v
(Value.int IntKind.i64 (List.getD x.acts x.i default).st.hk), AV.v (Value.int IntKind.i64 (List.getD x.acts x.i default).st.hb), AV.v (Value.int IntKind.i64 (List.getD x.acts x.i
default).st.hv), AV.v (Value.int IntKind.i64 (List.getD x.acts x.i default).st.hr)]] [AV.ptr (0 : Nat) (0 : Nat), AV.agg [AV.v (Value.int IntKind.i64 (List.getD x.acts x.i default).s), AV.v
(Value.int IntKind.i64 (List.getD x.acts x.i default).st.k), AV.v (Value.int IntKind.i64 (List.getD x.acts x.i default).st.b), AV.v (Value.int IntKind.i64 (List.getD x.acts x.i
default).st.v), AV.v (Value.int IntKind.i64 (List.getD x.acts x.i default).st.r), AV.v (Value.int IntKind.i64 (List.getD x.acts x.i default).st.h), AV.v (Value.int IntKind.i64 (List.getD
x.acts x.i default).st.a), AV.v (Value.int IntKind.i64 (List.getD x.acts x.i default).st.hk), AV.v (Value.int IntKind.i64 (List.getD x.acts x.i default).st.hb), AV.v (Value.int IntKind.i64
(List.getD x.acts x.i default).st.hv), AV.v (Value.int IntKind.i64 (List.getD x.acts x.i default).st.hr)]] ∧ LeH [some (Blk.row [AV.v (Value.int IntKind.i64 x.f), AV.v (Value.int IntKind.u32
x.bad), AV.hs (1 : Nat) (0 : Nat) (List.length x.l)]), some (Blk.arr (11 : Nat) (List.length (x.l ++ x.j')) (lsF Sh.c (x.l ++ x.j')))] [some (Blk.row [AV.v (Value.int IntKind.i64 x.f), AV.v
(Value.int IntKind.u32 x.bad), AV.hs (1 : Nat) (0 : Nat) (List.length x.l)]), some (Blk.arr (11 : Nat) (List.length (x.l ++ x.j')) (lsF Sh.c (x.l ++ x.j')))])) (Tree.chk true (Tree.chk (cl
(List.length x.l ≤ (1000000000 : Nat) ∧ ∃ l junk, List.length x.l = List.length l ∧ List.length (x.l ++ x.j) = List.length (l ++ junk) ∧ ∀ (e : Nat), lsF Sh.c (x.l ++ x.j) e = Sh.c
(List.getD (l ++ junk) e default))) (Tree.br false (Tree.leaf (Out.mk AEx.ret [AV.v (Value.int IntKind.i64 x.f), AV.v (Value.int IntKind.u32 x.bad), AV.sl (14 : Nat) (List.length x.acts)
(lsF Ac.c x.acts), AV.ptr (0 : Nat) (0 : Nat), AV.ptr (3 : Nat) (0 : Nat), AV.v (Value.int IntKind.i64 (↑x.i : Int)), AV.v (Value.bool false)] [some (Blk.row [AV.v (Value.int IntKind.i64
x.f), AV.v (Value.int IntKind.u32 x.bad), AV.map (1 : Nat), AV.hs (2 : Nat) (0 : Nat) (List.length x.l)]), some (Blk.mp [Cel.int IntKind.i64, Cel.int IntKind.i64, Cel.int IntKind.i64,
Cel.int IntKind.i64, Cel.int IntKind.i64, Cel.int IntKind.i64, Cel.int IntKind.i64, Cel.int IntKind.i64, Cel.int IntKind.i64, Cel.int IntKind.i64, Cel.int IntKind.i64] true false
(List.length x.l) (hasS x.l) anyV), some (Blk.arr (11 : Nat) (List.length (x.l ++ x.j)) (lsF Sh.c (x.l ++ x.j))), some (Blk.row [AV.v (Value.int IntKind.i64 x.f), AV.v (Value.int IntKind.u32
x.bad), AV.hs (4 : Nat) (0 : Nat) (List.length x.l)]), some (Blk.arr (11 : Nat) (List.length (x.l ++ x.j')) (lsF Sh.c (x.l ++ x.j')))])) (Tree.br (!decide ((↑(List.length x.l) : Int) =
(↑(List.length x.l) : Int))) (Tree.leaf (Out.mk AEx.ret [AV.v (Value.int IntKind.i64 x.f), AV.v (Value.int IntKind.u32 x.bad), AV.sl (14 : Nat) (List.length x.acts) (lsF Ac.c x.acts), AV.ptr
(0 : Nat) (0 : Nat), AV.ptr (3 : Nat) (0 : Nat), AV.v (Value.int IntKind.i64 (↑x.i : Int)), AV.v (Value.bool false)] [some (Blk.row [AV.v (Value.int IntKind.i64 x.f), AV.v (Value.int
IntKind.u32 x.bad), AV.map (1 : Nat), AV.hs (2 : Nat) (0 : Nat) (List.length x.l)]), some (Blk.mp [Cel.int IntKind.i64, Cel.int IntKind.i64, Cel.int IntKind.i64, Cel.int IntKind.i64, Cel.int
IntKind.i64, Cel.int IntKind.i64, Cel.int IntKind.i64, Cel.int IntKind.i64, Cel.int IntKind.i64, Cel.int IntKind.i64, Cel.int IntKind.i64] true false (List.length x.l) (hasS x.l) anyV), some
(Blk.arr (11 : Nat) (List.length (x.l ++ x.j)) (lsF Sh.c (x.l ++ x.j))), some (Blk.row [AV.v (Value.int IntKind.i64 x.f), AV.v (Value.int IntKind.u32 x.bad), AV.hs (4 : Nat) (0 : Nat)
(List.length x.l)]), some (Blk.arr (11 : Nat) (List.length (x.l ++ x.j')) (lsF Sh.c (x.l ++ x.j')))])) (Tree.br (!decide (x.f = x.f)) (Tree.leaf (Out.mk AEx.ret [AV.v (Value.int IntKind.i64
x.f), AV.v (Value.int IntKind.u32 x.bad), AV.sl (14 : Nat) (List.length x.acts) (lsF Ac.c x.acts), AV.ptr (0 : Nat) (0 : Nat), AV.ptr (3 : Nat) (0 : Nat), AV.v (Value.int IntKind.i64 (↑x.i :
Int)), AV.v (Value.bool false)] [some (Blk.row [AV.v (Value.int IntKind.i64 x.f), AV.v (Value.int IntKind.u32 x.bad), AV.map (1 : Nat), AV.hs (2 : Nat) (0 : Nat) (List.length x.l)]), some
(Blk.mp [Cel.int IntKind.i64, Cel.int IntKind.i64, Cel.int IntKind.i64, Cel.int IntKind.i64, Cel.int IntKind.i64, Cel.int IntKind.i64, Cel.int IntKind.i64, Cel.int IntKind.i64, Cel.int
IntKind.i64, Cel.int IntKind.i64, Cel.int IntKind.i64] true false (List.length x.l) (hasS x.l) anyV), some (Blk.arr (11 : Nat) (List.length (x.l ++ x.j)) (lsF Sh.c (x.l ++ x.j))), some
(Blk.row [AV.v (Value.int IntKind.i64 x.f), AV.v (Value.int IntKind.u32 x.bad), AV.hs (4 : Nat) (0 : Nat) (List.length x.l)]), some (Blk.arr (11 : Nat) (List.length (x.l ++ x.j')) (lsF Sh.c
(x.l ++ x.j')))])) (Tree.br (!decide (x.bad = x.bad)) (Tree.leaf (Out.mk AEx.ret [AV.v (Value.int IntKind.i64 x.f), AV.v (Value.int IntKind.u32 x.bad), AV.sl (14 : Nat) (List.length x.acts)
(lsF Ac.c x.acts), AV.ptr (0 : Nat) (0 : Nat), AV.ptr (3 : Nat) (0 : Nat), AV.v (Value.int IntKind.i64 (↑x.i : Int)), AV.v (Value.bool false)] [some (Blk.row [AV.v (Value.int IntKind.i64
x.f), AV.v (Value.int IntKind.u32 x.bad), AV.map (1 : Nat), AV.hs (2 : Nat) (0 : Nat) (List.length x.l)]), some (Blk.mp [Cel.int IntKind.i64, Cel.int IntKind.i64, Cel.int IntKind.i64,
Cel.int IntKind.i64, Cel.int IntKind.i64, Cel.int IntKind.i64, Cel.int IntKind.i64, Cel.int IntKind.i64, Cel.int IntKind.i64, Cel.int IntKind.i64, Cel.int IntKind.i64] true false
(List.length x.l) (hasS x.l) anyV), some (Blk.arr (11 : Nat) (List.length (x.l ++ x.j)) (lsF Sh.c (x.l ++ x.j))), some (Blk.row [AV.v (Value.int IntKind.i64 x.f), AV.v (Value.int IntKind.u32
x.bad), AV.hs (4 : Nat) (0 : Nat) (List.length x.l)]), some (Blk.arr (11 : Nat) (List.length (x.l ++ x.j')) (lsF Sh.c (x.l ++ x.j')))])) (Tree.chk (cl (LeL [AV.v (Value.int IntKind.i64 x.f),
AV.v (Value.int IntKind.u32 x.bad), AV.sl (14 : Nat) (List.length x.acts) (lsF Ac.c x.acts), AV.ptr (0 : Nat) (0 : Nat), AV.ptr (3 : Nat) (0 : Nat), AV.v (Value.int IntKind.i64 (↑x.i :
Int)), AV.hs (5 : Nat) (0 : Nat) (List.length x.l), AV.v (Value.int IntKind.i64 (0 : Int)), AV.any] [AV.v (Value.int IntKind.i64 x.f), AV.v (Value.int IntKind.u32 x.bad), AV.sl (14 : Nat)
(List.length x.acts) (lsF Ac.c x.acts), AV.ptr (0 : Nat) (0 : Nat), AV.ptr (3 : Nat) (0 : Nat), AV.v (Value.int IntKind.i64 (↑x.i : Int)), AV.hs (5 : Nat) (0 : Nat) (List.length x.l), AV.v
(Value.int IntKind.i64 (↑(0 : Nat) : Int)), AV.any] ∧ LeH [some (Blk.row [AV.v (Value.int IntKind.i64 x.f), AV.v (Value.int IntKind.u32 x.bad), AV.map (1 : Nat), AV.hs (2 : Nat) (0 : Nat)
(List.length x.l)]), some (Blk.mp [Cel.int IntKind.i64, Cel.int IntKind.i64, Cel.int IntKind.i64, Cel.int IntKind.i64, Cel.int IntKind.i64, Cel.int IntKind.i64, Cel.int IntKind.i64, Cel.int
IntKind.i64, Cel.int IntKind.i64, Cel.int IntKind.i64, Cel.int IntKind.i64] true false (List.length x.l) (hasS x.l) anyV), some (Blk.arr (11 : Nat) (List.length (x.l ++ x.j)) (lsF Sh.c (x.l
++ x.j))), some (Blk.row [AV.v (Value.int IntKind.i64 x.f), AV.v (Value.int IntKind.u32 x.bad), AV.hs (4 : Nat) (0 : Nat) (List.length x.l)]), some (Blk.arr (11 : Nat) (List.length (x.l ++
x.j')) (lsF Sh.c (x.l ++ x.j'))), some (Blk.arr (11 : Nat) (List.length x.l) (lsF Sh.c (x.l ++ x.j)))] [some (Blk.row [AV.v (Value.int IntKind.i64 x.f), AV.v (Value.int IntKind.u32 x.bad),
AV.map (1 : Nat), AV.hs (2 : Nat) (0 : Nat) (List.length x.l)]), some (Blk.mp [Cel.int IntKind.i64, Cel.int IntKind.i64, Cel.int IntKind.i64, Cel.int IntKind.i64, Cel.int IntKind.i64,
Cel.int IntKind.i64, Cel.int IntKind.i64, Cel.int IntKind.i64, Cel.int IntKind.i64, Cel.int IntKind.i64, Cel.int IntKind.i64] true false (List.length x.l) (hasS x.l) anyV), some (Blk.arr (11
: Nat) (List.length (x.l ++ x.j)) (lsF Sh.c (x.l ++ x.j))), some (Blk.row [AV.v (Value.int IntKind.i64 x.f), AV.v (Value.int IntKind.u32 x.bad), AV.hs (4 : Nat) (0 : Nat) (List.length
x.l)]), some (Blk.arr (11 : Nat) (List.length (x.l ++ x.j')) (lsF Sh.c (x.l ++ x.j'))), some (Blk.arr (11 : Nat) (List.length x.l) (lsF Sh.c (x.l ++ x.j)))])) (Tree.leaf (Out.mk AEx.normal
[AV.v (Value.int IntKind.i64 x.f), AV.v (Value.int IntKind.u32 x.bad), AV.sl (14 : Nat) (List.length x.acts) (lsF Ac.c x.acts), AV.ptr (0 : Nat) (0 : Nat), AV.ptr (3 : Nat) (0 : Nat), AV.v
(Value.int IntKind.i64 (IntKind.wrap IntKind.i64 ((↑x.i : Int) + (1 : Int)))), AV.any] [some (Blk.row [AV.v (Value.int IntKind.i64 x.f), AV.v (Value.int IntKind.u32 x.bad), AV.map (1 : Nat),
AV.hs (2 : Nat) (0 : Nat) (List.length x.l)]), some (Blk.mp [Cel.int IntKind.i64, Cel.int IntKind.i64, Cel.int IntKind.i64, Cel.int IntKind.i64, Cel.int IntKind.i64, Cel.int IntKind.i64,
Cel.int IntKind.i64, Cel.int IntKind.i64, Cel.int IntKind.i64, Cel.int IntKind.i64, Cel.int IntKind.i64] true false (List.length x.l) (hasS x.l) anyV), some (Blk.arr (11 : Nat) (List.length
(x.l ++ x.j)) (lsF Sh.c (x.l ++ x.j))), some (Blk.row [AV.v (Value.int IntKind.i64 x.f), AV.v (Value.int IntKind.u32 x.bad), AV.hs (4 : Nat) (0 : Nat) (List.length x.l)]), some (Blk.arr (11
: Nat) (List.length (x.l ++ x.j')) (lsF Sh.c (x.l ++ x.j')))]))))))))))) (Tree.br (decide ((List.getD x.acts x.i default).k = (1 : Int))) Tree.fail (Tree.br (decide ((List.getD x.acts x.i
default).k = (2 : Int))) Tree.fail (Tree.br (decide ((List.getD x.acts x.i default).k = (3 : Int))) Tree.fail (Tree.chk true (Tree.chk (cl (List.length x.l ≤ (1000000000 : Nat) ∧ ∃ l junk,
List.length x.l = List.length l ∧ List.length (x.l ++ x.j) = List.length (l ++ junk) ∧ ∀ (e : Nat), lsF Sh.c (x.l ++ x.j) e = Sh.c (List.getD (l ++ junk) e default))) (Tree.br false
(Tree.leaf (Out.mk AEx.ret [AV.v (Value.int IntKind.i64 x.f), AV.v (Value.int IntKind.u32 x.bad), AV.sl (14 : Nat) (List.length x.acts) (lsF Ac.c x.acts), AV.ptr (0 : Nat) (0 : Nat), AV.ptr
(3 : Nat) (0 : Nat), AV.v (Value.int IntKind.i64 (↑x.i : Int)), AV.v (Value.bool false)] [some (Blk.row [AV.v (Value.int IntKind.i64 x.f), AV.v (Value.int IntKind.u32 x.bad), AV.map (1 :
Nat), AV.hs (2 : Nat) (0 : Nat) (List.length x.l)]), some (Blk.mp [Cel.int IntKind.i64, Cel.int IntKind.i64, Cel.int IntKind.i64, Cel.int IntKind.i64, Cel.int IntKind.i64, Cel.int
IntKind.i64, Cel.int IntKind.i64, Cel.int IntKind.i64, Cel.int IntKind.i64, Cel.int IntKind.i64, Cel.int IntKind.i64] true false (List.length x.l) (hasS x.l) anyV), some (Blk.arr (11 : Nat)
(List.length (x.l ++ x.j)) (lsF Sh.c (x.l ++ x.j))), some (Blk.row [AV.v (Value.int IntKind.i64 x.f), AV.v (Value.int IntKind.u32 x.bad), AV.hs (4 : Nat) (0 : Nat) (List.length x.l)]), some
(Blk.arr (11 : Nat) (List.length (x.l ++ x.j')) (lsF Sh.c (x.l ++ x.j')))])) (Tree.br (!decide ((↑(List.length x.l) : Int) = (↑(List.length x.l) : Int))) (Tree.leaf (Out.mk AEx.ret [AV.v
(Value.int IntKind.i64 x.f), AV.v (Value.int IntKind.u32 x.bad), AV.sl (14 : Nat) (List.length x.acts) (lsF Ac.c x.acts), AV.ptr (0 : Nat) (0 : Nat), AV.ptr (3 : Nat) (0 : Nat), AV.v
(Value.int IntKind.i64 (↑x.i : Int)), AV.v (Value.bool false)] [some (Blk.row [AV.v (Value.int IntKind.i64 x.f), AV.v (Value.int IntKind.u32 x.bad), AV.map (1 : Nat), AV.hs (2 : Nat) (0 :
Nat) (List.length x.l)]), some (Blk.mp [Cel.int IntKind.i64, Cel.int IntKind.i64, Cel.int IntKind.i64, Cel.int IntKind.i64, Cel.int IntKind.i64, Cel.int IntKind.i64, Cel.int IntKind.i64,
Cel.int IntKind.i64, Cel.int IntKind.i64, Cel.int IntKind.i64, Cel.int IntKind.i64] true false (List.length x.l) (hasS x.l) anyV), some (Blk.arr (11 : Nat) (List.length (x.l ++ x.j)) (lsF
Sh.c (x.l ++ x.j))), some (Blk.row [AV.v (Value.int IntKind.i64 x.f), AV.v (Value.int IntKind.u32 x.bad), AV.hs (4 : Nat) (0 : Nat) (List.length x.l)]), some (Blk.arr (11 : Nat) (List.length
(x.l ++ x.j')) (lsF Sh.c (x.l ++ x.j')))])) (Tree.br (!decide (x.f = x.f)) (Tree.leaf (Out.mk AEx.ret [AV.v (Value.int IntKind.i64 x.f), AV.v (Value.int IntKind.u32 x.bad), AV.sl (14 : Nat)
(List.length x.acts) (lsF Ac.c x.acts), AV.ptr (0 : Nat) (0 : Nat), AV.ptr (3 : Nat) (0 : Nat), AV.v (Value.int IntKind.i64 (↑x.i : Int)), AV.v (Value.bool false)] [some (Blk.row [AV.v
(Value.int IntKind.i64 x.f), AV.v (Value.int IntKind.u32 x.bad), AV.map (1 : Nat), AV.hs (2 : Nat) (0 : Nat) (List.length x.l)]), some (Blk.mp [Cel.int IntKind.i64, Cel.int IntKind.i64,
Cel.int IntKind.i64, Cel.int IntKind.i64, Cel.int IntKind.i64, Cel.int IntKind.i64, Cel.int IntKind.i64, Cel.int IntKind.i64, Cel.int IntKind.i64, Cel.int IntKind.i64, Cel.int IntKind.i64]
true false (List.length x.l) (hasS x.l) anyV), some (Blk.arr (11 : Nat) (List.length (x.l ++ x.j)) (lsF Sh.c (x.l ++ x.j))), some (Blk.row [AV.v (Value.int IntKind.i64 x.f), AV.v (Value.int
IntKind.u32 x.bad), AV.hs (4 : Nat) (0 : Nat) (List.length x.l)]), some (Blk.arr (11 : Nat) (List.length (x.l ++ x.j')) (lsF Sh.c (x.l ++ x.j')))])) (Tree.br (!decide (x.bad = x.bad))
(Tree.leaf (Out.mk AEx.ret [AV.v (Value.int IntKind.i64 x.f), AV.v (Value.int IntKind.u32 x.bad), AV.sl (14 : Nat) (List.length x.acts) (lsF Ac.c x.acts), AV.ptr (0 : Nat) (0 : Nat), AV.ptr
(3 : Nat) (0 : Nat), AV.v (Value.int IntKind.i64 (↑x.i : Int)), AV.v (Value.bool false)] [some (Blk.row [AV.v (Value.int IntKind.i64 x.f), AV.v (Value.int IntKind.u32 x.bad), AV.map (1 :
Nat), AV.hs (2 : Nat) (0 : Nat) (List.length x.l)]), some (Blk.mp [Cel.int IntKind.i64, Cel.int IntKind.i64, Cel.int IntKind.i64, Cel.int IntKind.i64, Cel.int IntKind.i64, Cel.int
IntKind.i64, Cel.int IntKind.i64, Cel.int IntKind.i64, Cel.int IntKind.i64, Cel.int IntKind.i64, Cel.int IntKind.i64] true false (List.length x.l) (hasS x.l) anyV), some (Blk.arr (11 : Nat)
(List.length (x.l ++ x.j)) (lsF Sh.c (x.l ++ x.j))), some (Blk.row [AV.v (Value.int IntKind.i64 x.f), AV.v (Value.int IntKind.u32 x.bad), AV.hs (4 : Nat) (0 : Nat) (List.length x.l)]), some
(Blk.arr (11 : Nat) (List.length (x.l ++ x.j')) (lsF Sh.c (x.l ++ x.j')))])) (Tree.chk (cl (LeL [AV.v (Value.int IntKind.i64 x.f), AV.v (Value.int IntKind.u32 x.bad), AV.sl (14 : Nat)
(List.length x.acts) (lsF Ac.c x.acts), AV.ptr (0 : Nat) (0 : Nat), AV.ptr (3 : Nat) (0 : Nat), AV.v (Value.int IntKind.i64 (↑x.i : Int)), AV.hs (5 : Nat) (0 : Nat) (List.length x.l), AV.v
(Value.int IntKind.i64 (0 : Int)), AV.any] [AV.v (Value.int IntKind.i64 x.f), AV.v (Value.int IntKind.u32 x.bad), AV.sl (14 : Nat) (List.length x.acts) (lsF Ac.c x.acts), AV.ptr (0 : Nat) (0
: Nat), AV.ptr (3 : Nat) (0 : Nat), AV.v (Value.int IntKind.i64 (↑x.i : Int)), AV.hs (5 : Nat) (0 : Nat) (List.length x.l), AV.v (Value.int IntKind.i64 (↑(0 : Nat) : Int)), AV.any] ∧ LeH
[some (Blk.row [AV.v (Value.int IntKind.i64 x.f), AV.v (Value.int IntKind.u32 x.bad), AV.map (1 : Nat), AV.hs (2 : Nat) (0 : Nat) (List.length x.l)]), some (Blk.mp [Cel.int IntKind.i64,
Cel.int IntKind.i64, Cel.int IntKind.i64, Cel.int IntKind.i64, Cel.int IntKind.i64, Cel.int IntKind.i64, Cel.int IntKind.i64, Cel.int IntKind.i64, Cel.int IntKind.i64, Cel.int IntKind.i64,
Cel.int IntKind.i64] true false (List.length x.l) (hasS x.l) anyV), some (Blk.arr (11 : Nat) (List.length (x.l ++ x.j)) (lsF Sh.c (x.l ++ x.j))), some (Blk.row [AV.v (Value.int IntKind.i64
x.f), AV.v (Value.int IntKind.u32 x.bad), AV.hs (4 : Nat) (0 : Nat) (List.length x.l)]), some (Blk.arr (11 : Nat) (List.length (x.l ++ x.j')) (lsF Sh.c (x.l ++ x.j'))), some (Blk.arr (11 :
Nat) (List.length x.l) (lsF Sh.c (x.l ++ x.j)))] [some (Blk.row [AV.v (Value.int IntKind.i64 x.f), AV.v (Value.int IntKind.u32 x.bad), AV.map (1 : Nat), AV.hs (2 : Nat) (0 : Nat)
(List.length x.l)]), some (Blk.mp [Cel.int IntKind.i64, Cel.int IntKind.i64, Cel.int IntKind.i64, Cel.int IntKind.i64, Cel.int IntKind.i64, Cel.int IntKind.i64, Cel.int IntKind.i64, Cel.int
IntKind.i64, Cel.int IntKind.i64, Cel.int IntKind.i64, Cel.int IntKind.i64] true false (List.length x.l) (hasS x.l) anyV), some (Blk.arr (11 : Nat) (List.length (x.l ++ x.j)) (lsF Sh.c (x.l
++ x.j))), some (Blk.row [AV.v (Value.int IntKind.i64 x.f), AV.v (Value.int IntKind.u32 x.bad), AV.hs (4 : Nat) (0 : Nat) (List.length x.l)]), some (Blk.arr (11 : Nat) (List.length (x.l ++
x.j')) (lsF Sh.c (x.l ++ x.j'))), some (Blk.arr (11 : Nat) (List.length x.l) (lsF Sh.c (x.l ++ x.j)))])) (Tree.leaf (Out.mk AEx.normal [AV.v (Value.int IntKind.i64 x.f), AV.v (Value.int
IntKind.u32 x.bad), AV.sl (14 : Nat) (List.length x.acts) (lsF Ac.c x.acts), AV.ptr (0 : Nat) (0 : Nat), AV.ptr (3 : Nat) (0 : Nat), AV.v (Value.int IntKind.i64 (IntKind.wrap IntKind.i64
((↑x.i : Int) + (1 : Int)))), AV.any] [some (Blk.row [AV.v (Value.int IntKind.i64 x.f), AV.v (Value.int IntKind.u32 x.bad), AV.map (1 : Nat), AV.hs (2 : Nat) (0 : Nat) (List.length x.l)]),
some (Blk.mp [Cel.int IntKind.i64, Cel.int IntKind.i64, Cel.int IntKind.i64, Cel.int IntKind.i64, Cel.int IntKind.i64, Cel.int IntKind.i64, Cel.int IntKind.i64, Cel.int IntKind.i64, Cel.int
IntKind.i64, Cel.int IntKind.i64, Cel.int IntKind.i64] true false (List.length x.l) (hasS x.l) anyV), some (Blk.arr (11 : Nat) (List.length (x.l ++ x.j)) (lsF Sh.c (x.l ++ x.j))), some
(Blk.row [AV.v (Value.int IntKind.i64 x.f), AV.v (Value.int IntKind.u32 x.bad), AV.hs (4 : Nat) (0 : Nat) (List.length x.l)]), some (Blk.arr (11 : Nat) (List.length (x.l ++ x.j')) (lsF Sh.c
(x.l ++ x.j')))])))))))))))))) (Tree.leaf (Out.mk (AEx.exit (0 : Nat)) [AV.v (Value.int IntKind.i64 x.f), AV.v (Value.int IntKind.u32 x.bad), AV.sl (14 : Nat) (List.length x.acts) (lsF Ac.c
x.acts), AV.ptr (0 : Nat) (0 : Nat), AV.ptr (3 : Nat) (0 : Nat), AV.v (Value.int IntKind.i64 (↑x.i : Int)), AV.any] [some (Blk.row [AV.v (Value.int IntKind.i64 x.f), AV.v (Value.int
IntKind.u32 x.bad), AV.map (1 : Nat), AV.hs (2 : Nat) (0 : Nat) (List.length x.l)]), some (Blk.mp [Cel.int IntKind.i64, Cel.int IntKind.i64, Cel.int IntKind.i64, Cel.int IntKind.i64, Cel.int
IntKind.i64, Cel.int IntKind.i64, Cel.int IntKind.i64, Cel.int IntKind.i64, Cel.int IntKind.i64, Cel.int IntKind.i64, Cel.int IntKind.i64] true false (List.length x.l) (hasS x.l) anyV), some
(Blk.arr (11 : Nat) (List.length (x.l ++ x.j)) (lsF Sh.c (x.l ++ x.j))), some (Blk.row [AV.v (Value.int IntKind.i64 x.f), AV.v (Value.int IntKind.u32 x.bad), AV.hs (4 : Nat) (0 : Nat)
(List.length x.l)]), some (Blk.arr (11 : Nat) (List.length (x.l ++ x.j')) (lsF Sh.c (x.l ++ x.j')))])) := by kernel_rfl
theorem r4there (x : X4) (h : ¬ outS x.f (shOf (x.acts.getD x.i default))) (hs : x.l.length ≤ 100000) (hx : (shOf (x.acts.getD x.i default)) ∈ x.l) : roundE (P := Tryd.prog) (Γ := Γs) [kSh, S.c19, S.c20, CT.at 9 (ansIssueThere (f := x.f) (bad := x.bad) (l := x.l) (j := x.j) h hx), CT.at 14 (ansIssueRThere (f := x.f) (bad := x.bad) (l := x.l) (j := x.j') h hs hx)] (L41 x) false 0 0 (lp4 0) lv41 nl41 159 (S41 x).1 (S41 x).2 =
  Tree.br (bif decide ((↑x.i : Int) < (↑(List.length x.acts) : Int)) then true else false) (Tree.chk (decide ((0 : Int) ≤ (↑x.i : Int)) && decide ((↑x.i : Int) < (↑(List.length x.acts) :
Int))) (Tree.br (decide ((List.getD x.acts x.i default).k = (0 : Int))) (Tree.chk (cl (LeL [AV.ptr (0 : Nat) (0 : Nat), AV.agg [AV.v (Value.int IntKind.i64 (List.getD x.acts x.i default).s),
AV.v (Value.int IntKind.i64 (List.getD x.acts x.i default).st.k), AV.v (Value.int IntKind.i64 (List.getD x.acts x.i default).st.b), AV.v (Value.int IntKind.i64 (List.getD x.acts x.i
default).st.v), AV.v (Value.int IntKind.i64 (List.getD x.acts x.i default).st.r), AV.v (Value.int IntKind.i64 (List.getD x.acts x.i default).st.h), AV.v (Value.int IntKind.i64 (List.getD
x.acts x.i default).st.a), AV.v (Value.int IntKind.i64 (List.getD x.acts x.i default).st.hk), AV.v (Value.int IntKind.i64 (List.getD x.acts x.i default).st.hb), AV.v (Value.int IntKind.i64
(List.getD x.acts x.i default).st.hv), AV.v (Value.int IntKind.i64 (List.getD x.acts x.i default).st.hr)]] [AV.ptr (0 : Nat) (0 : Nat), AV.agg [AV.v (Value.int IntKind.i64 (List.getD x.acts
x.i default).s), AV.v (Value.int IntKind.i64 (List.getD x.acts x.i default).st.k), AV.v (Value.int IntKind.i64 (List.getD x.acts x.i default).st.b), AV.v (Value.int IntKind.i64 (List.getD
x.acts x.i default).st.v), AV.v (Value.int IntKind.i64 (List.getD x.acts x.i default).st.r), AV.v (Value.int IntKind.i64 (List.getD x.acts x.i default).st.h), AV.v (Value.int IntKind.i64
(List.getD x.acts x.i default).st.a), AV.v (Value.int IntKind.i64 (List.getD x.acts x.i default).st.hk), AV.v (Value.int IntKind.i64 (List.getD x.acts x.i default).st.hb), AV.v (Value.int
IntKind.i64 (List.getD x.acts x.i default).st.hv), AV.v (Value.int IntKind.i64 (List.getD x.acts x.i default).st.hr)]] ∧ LeH [some (Blk.row [AV.v (Value.int IntKind.i64 x.f), AV.v (Value.int
IntKind.u32 x.bad), AV.map (1 : Nat), AV.hs (2 : Nat) (0 : Nat) (List.length x.l)]), some (Blk.mp [Cel.int IntKind.i64, Cel.int IntKind.i64, Cel.int IntKind.i64, Cel.int IntKind.i64, Cel.int
IntKind.i64, Cel.int IntKind.i64, Cel.int IntKind.i64, Cel.int IntKind.i64, Cel.int IntKind.i64, Cel.int IntKind.i64, Cel.int IntKind.i64] true false (List.length x.l) (hasS x.l) anyV), some
(Blk.arr (11 : Nat) (List.length (x.l ++ x.j)) (lsF Sh.c (x.l ++ x.j)))] [some (Blk.row [AV.v (Value.int IntKind.i64 x.f), AV.v (Value.int IntKind.u32 x.bad), AV.map (1 : Nat), AV.hs (2 :
Nat) (0 : Nat) (List.length x.l)]), some (Blk.mp [Cel.int IntKind.i64, Cel.int IntKind.i64, Cel.int IntKind.i64, Cel.int IntKind.i64, Cel.int IntKind.i64, Cel.int IntKind.i64, Cel.int
IntKind.i64, Cel.int IntKind.i64, Cel.int IntKind.i64, Cel.int IntKind.i64, Cel.int IntKind.i64] true false (List.length x.l) (hasS x.l) anyV), some (Blk.arr (11 : Nat) (List.length (x.l ++
x.j)) (lsF Sh.c (x.l ++ x.j)))])) (Tree.chk (cl (LeL [AV.ptr (0 : Nat) (0 : Nat), AV.agg [AV.v (Value.int IntKind.i64 (List.getD x.acts x.i default).s), AV.v (Value.int IntKind.i64
(List.getD x.acts x.i default).st.k), AV.v (Value.int IntKind.i64 (List.getD x.acts x.i default).st.b), AV.v (Value.int IntKind.i64 (List.getD x.acts x.i default).st.v), AV.v (Value.int
IntKind.i64 (List.getD x.acts x.i default).st.r), AV.v (Value.int IntKind.i64 (List.getD x.acts x.i default).st.h), AV.v (Value.int IntKind.i64 (List.getD x.acts x.i default).st.a), AV.v
(Value.int IntKind.i64 (List.getD x.acts x.i default).st.hk), AV.v (Value.int IntKind.i64 (List.getD x.acts x.i default).st.hb), AV.v (Value.int IntKind.i64 (List.getD x.acts x.i
default).st.hv), AV.v (Value.int IntKind.i64 (List.getD x.acts x.i default).st.hr)]] [AV.ptr (0 : Nat) (0 : Nat), AV.agg [AV.v (Value.int IntKind.i64 (List.getD x.acts x.i default).s), AV.v
(Value.int IntKind.i64 (List.getD x.acts x.i default).st.k), AV.v (Value.int IntKind.i64 (List.getD x.acts x.i default).st.b), AV.v (Value.int IntKind.i64 (List.getD x.acts x.i
default).st.v), AV.v (Value.int IntKind.i64 (List.getD x.acts x.i default).st.r), AV.v (Value.int IntKind.i64 (List.getD x.acts x.i default).st.h), AV.v (Value.int IntKind.i64 (List.getD
x.acts x.i default).st.a), AV.v (Value.int IntKind.i64 (List.getD x.acts x.i default).st.hk), AV.v (Value.int IntKind.i64 (List.getD x.acts x.i default).st.hb), AV.v (Value.int IntKind.i64
(List.getD x.acts x.i default).st.hv), AV.v (Value.int IntKind.i64 (List.getD x.acts x.i default).st.hr)]] ∧ LeH [some (Blk.row [AV.v (Value.int IntKind.i64 x.f), AV.v (Value.int IntKind.u32
x.bad), AV.hs (1 : Nat) (0 : Nat) (List.length x.l)]), some (Blk.arr (11 : Nat) (List.length (x.l ++ x.j')) (lsF Sh.c (x.l ++ x.j')))] [some (Blk.row [AV.v (Value.int IntKind.i64 x.f), AV.v
(Value.int IntKind.u32 x.bad), AV.hs (1 : Nat) (0 : Nat) (List.length x.l)]), some (Blk.arr (11 : Nat) (List.length (x.l ++ x.j')) (lsF Sh.c (x.l ++ x.j')))])) (Tree.chk true (Tree.chk (cl
(List.length x.l ≤ (1000000000 : Nat) ∧ ∃ l junk, List.length x.l = List.length l ∧ List.length (x.l ++ x.j) = List.length (l ++ junk) ∧ ∀ (e : Nat), lsF Sh.c (x.l ++ x.j) e = Sh.c
(List.getD (l ++ junk) e default))) (Tree.br false (Tree.leaf (Out.mk AEx.ret [AV.v (Value.int IntKind.i64 x.f), AV.v (Value.int IntKind.u32 x.bad), AV.sl (14 : Nat) (List.length x.acts)
(lsF Ac.c x.acts), AV.ptr (0 : Nat) (0 : Nat), AV.ptr (3 : Nat) (0 : Nat), AV.v (Value.int IntKind.i64 (↑x.i : Int)), AV.v (Value.bool false)] [some (Blk.row [AV.v (Value.int IntKind.i64
x.f), AV.v (Value.int IntKind.u32 x.bad), AV.map (1 : Nat), AV.hs (2 : Nat) (0 : Nat) (List.length x.l)]), some (Blk.mp [Cel.int IntKind.i64, Cel.int IntKind.i64, Cel.int IntKind.i64,
Cel.int IntKind.i64, Cel.int IntKind.i64, Cel.int IntKind.i64, Cel.int IntKind.i64, Cel.int IntKind.i64, Cel.int IntKind.i64, Cel.int IntKind.i64, Cel.int IntKind.i64] true false
(List.length x.l) (hasS x.l) anyV), some (Blk.arr (11 : Nat) (List.length (x.l ++ x.j)) (lsF Sh.c (x.l ++ x.j))), some (Blk.row [AV.v (Value.int IntKind.i64 x.f), AV.v (Value.int IntKind.u32
x.bad), AV.hs (4 : Nat) (0 : Nat) (List.length x.l)]), some (Blk.arr (11 : Nat) (List.length (x.l ++ x.j')) (lsF Sh.c (x.l ++ x.j')))])) (Tree.br (!decide ((↑(List.length x.l) : Int) =
(↑(List.length x.l) : Int))) (Tree.leaf (Out.mk AEx.ret [AV.v (Value.int IntKind.i64 x.f), AV.v (Value.int IntKind.u32 x.bad), AV.sl (14 : Nat) (List.length x.acts) (lsF Ac.c x.acts), AV.ptr
(0 : Nat) (0 : Nat), AV.ptr (3 : Nat) (0 : Nat), AV.v (Value.int IntKind.i64 (↑x.i : Int)), AV.v (Value.bool false)] [some (Blk.row [AV.v (Value.int IntKind.i64 x.f), AV.v (Value.int
IntKind.u32 x.bad), AV.map (1 : Nat), AV.hs (2 : Nat) (0 : Nat) (List.length x.l)]), some (Blk.mp [Cel.int IntKind.i64, Cel.int IntKind.i64, Cel.int IntKind.i64, Cel.int IntKind.i64, Cel.int
IntKind.i64, Cel.int IntKind.i64, Cel.int IntKind.i64, Cel.int IntKind.i64, Cel.int IntKind.i64, Cel.int IntKind.i64, Cel.int IntKind.i64] true false (List.length x.l) (hasS x.l) anyV), some
(Blk.arr (11 : Nat) (List.length (x.l ++ x.j)) (lsF Sh.c (x.l ++ x.j))), some (Blk.row [AV.v (Value.int IntKind.i64 x.f), AV.v (Value.int IntKind.u32 x.bad), AV.hs (4 : Nat) (0 : Nat)
(List.length x.l)]), some (Blk.arr (11 : Nat) (List.length (x.l ++ x.j')) (lsF Sh.c (x.l ++ x.j')))])) (Tree.br (!decide (x.f = x.f)) (Tree.leaf (Out.mk AEx.ret [AV.v (Value.int IntKind.i64
x.f), AV.v (Value.int IntKind.u32 x.bad), AV.sl (14 : Nat) (List.length x.acts) (lsF Ac.c x.acts), AV.ptr (0 : Nat) (0 : Nat), AV.ptr (3 : Nat) (0 : Nat), AV.v (Value.int IntKind.i64 (↑x.i :
Int)), AV.v (Value.bool false)] [some (Blk.row [AV.v (Value.int IntKind.i64 x.f), AV.v (Value.int IntKind.u32 x.bad), AV.map (1 : Nat), AV.hs (2 : Nat) (0 : Nat) (List.length x.l)]), some
(Blk.mp [Cel.int IntKind.i64, Cel.int IntKind.i64, Cel.int IntKind.i64, Cel.int IntKind.i64, Cel.int IntKind.i64, Cel.int IntKind.i64, Cel.int IntKind.i64, Cel.int IntKind.i64, Cel.int
IntKind.i64, Cel.int IntKind.i64, Cel.int IntKind.i64] true false (List.length x.l) (hasS x.l) anyV), some (Blk.arr (11 : Nat) (List.length (x.l ++ x.j)) (lsF Sh.c (x.l ++ x.j))), some
(Blk.row [AV.v (Value.int IntKind.i64 x.f), AV.v (Value.int IntKind.u32 x.bad), AV.hs (4 : Nat) (0 : Nat) (List.length x.l)]), some (Blk.arr (11 : Nat) (List.length (x.l ++ x.j')) (lsF Sh.c
(x.l ++ x.j')))])) (Tree.br (!decide (x.bad = x.bad)) (Tree.leaf (Out.mk AEx.ret [AV.v (Value.int IntKind.i64 x.f), AV.v (Value.int IntKind.u32 x.bad), AV.sl (14 : Nat) (List.length x.acts)
(lsF Ac.c x.acts), AV.ptr (0 : Nat) (0 : Nat), AV.ptr (3 : Nat) (0 : Nat), AV.v (Value.int IntKind.i64 (↑x.i : Int)), AV.v (Value.bool false)] [some (Blk.row [AV.v (Value.int IntKind.i64
x.f), AV.v (Value.int IntKind.u32 x.bad), AV.map (1 : Nat), AV.hs (2 : Nat) (0 : Nat) (List.length x.l)]), some (Blk.mp [Cel.int IntKind.i64, Cel.int IntKind.i64, Cel.int IntKind.i64,
Cel.int IntKind.i64, Cel.int IntKind.i64, Cel.int IntKind.i64, Cel.int IntKind.i64, Cel.int IntKind.i64, Cel.int IntKind.i64, Cel.int IntKind.i64, Cel.int IntKind.i64] true false
(List.length x.l) (hasS x.l) anyV), some (Blk.arr (11 : Nat) (List.length (x.l ++ x.j)) (lsF Sh.c (x.l ++ x.j))), some (Blk.row [AV.v (Value.int IntKind.i64 x.f), AV.v (Value.int IntKind.u32
x.bad), AV.hs (4 : Nat) (0 : Nat) (List.length x.l)]), some (Blk.arr (11 : Nat) (List.length (x.l ++ x.j')) (lsF Sh.c (x.l ++ x.j')))])) (Tree.chk (cl (LeL [AV.v (Value.int IntKind.i64 x.f),
AV.v (Value.int IntKind.u32 x.bad), AV.sl (14 : Nat) (List.length x.acts) (lsF Ac.c x.acts), AV.ptr (0 : Nat) (0 : Nat), AV.ptr (3 : Nat) (0 : Nat), AV.v (Value.int IntKind.i64 (↑x.i :
Int)), AV.hs (5 : Nat) (0 : Nat) (List.length x.l), AV.v (Value.int IntKind.i64 (0 : Int)), AV.any] [AV.v (Value.int IntKind.i64 x.f), AV.v (Value.int IntKind.u32 x.bad), AV.sl (14 : Nat)
(List.length x.acts) (lsF Ac.c x.acts), AV.ptr (0 : Nat) (0 : Nat), AV.ptr (3 : Nat) (0 : Nat), AV.v (Value.int IntKind.i64 (↑x.i : Int)), AV.hs (5 : Nat) (0 : Nat) (List.length x.l), AV.v
(Value.int IntKind.i64 (↑(0 : Nat) : Int)), AV.any] ∧ LeH [some (Blk.row [AV.v (Value.int IntKind.i64 x.f), AV.v (Value.int IntKind.u32 x.bad), AV.map (1 : Nat), AV.hs (2 : Nat) (0 : Nat)
(List.length x.l)]), some (Blk.mp [Cel.int IntKind.i64, Cel.int IntKind.i64, Cel.int IntKind.i64, Cel.int IntKind.i64, Cel.int IntKind.i64, Cel.int IntKind.i64, Cel.int IntKind.i64, Cel.int
IntKind.i64, Cel.int IntKind.i64, Cel.int IntKind.i64, Cel.int IntKind.i64] true false (List.length x.l) (hasS x.l) anyV), some (Blk.arr (11 : Nat) (List.length (x.l ++ x.j)) (lsF Sh.c (x.l
++ x.j))), some (Blk.row [AV.v (Value.int IntKind.i64 x.f), AV.v (Value.int IntKind.u32 x.bad), AV.hs (4 : Nat) (0 : Nat) (List.length x.l)]), some (Blk.arr (11 : Nat) (List.length (x.l ++
x.j')) (lsF Sh.c (x.l ++ x.j'))), some (Blk.arr (11 : Nat) (List.length x.l) (lsF Sh.c (x.l ++ x.j)))] [some (Blk.row [AV.v (Value.int IntKind.i64 x.f), AV.v (Value.int IntKind.u32 x.bad),
AV.map (1 : Nat), AV.hs (2 : Nat) (0 : Nat) (List.length x.l)]), some (Blk.mp [Cel.int IntKind.i64, Cel.int IntKind.i64, Cel.int IntKind.i64, Cel.int IntKind.i64, Cel.int IntKind.i64,
Cel.int IntKind.i64, Cel.int IntKind.i64, Cel.int IntKind.i64, Cel.int IntKind.i64, Cel.int IntKind.i64, Cel.int IntKind.i64] true false (List.length x.l) (hasS x.l) anyV), some (Blk.arr (11
: Nat) (List.length (x.l ++ x.j)) (lsF Sh.c (x.l ++ x.j))), some (Blk.row [AV.v (Value.int IntKind.i64 x.f), AV.v (Value.int IntKind.u32 x.bad), AV.hs (4 : Nat) (0 : Nat) (List.length
x.l)]), some (Blk.arr (11 : Nat) (List.length (x.l ++ x.j')) (lsF Sh.c (x.l ++ x.j'))), some (Blk.arr (11 : Nat) (List.length x.l) (lsF Sh.c (x.l ++ x.j)))])) (Tree.leaf (Out.mk AEx.normal
[AV.v (Value.int IntKind.i64 x.f), AV.v (Value.int IntKind.u32 x.bad), AV.sl (14 : Nat) (List.length x.acts) (lsF Ac.c x.acts), AV.ptr (0 : Nat) (0 : Nat), AV.ptr (3 : Nat) (0 : Nat), AV.v
(Value.int IntKind.i64 (IntKind.wrap IntKind.i64 ((↑x.i : Int) + (1 : Int)))), AV.any] [some (Blk.row [AV.v (Value.int IntKind.i64 x.f), AV.v (Value.int IntKind.u32 x.bad), AV.map (1 : Nat),
AV.hs (2 : Nat) (0 : Nat) (List.length x.l)]), some (Blk.mp [Cel.int IntKind.i64, Cel.int IntKind.i64, Cel.int IntKind.i64, Cel.int IntKind.i64, Cel.int IntKind.i64, Cel.int IntKind.i64,
Cel.int IntKind.i64, Cel.int IntKind.i64, Cel.int IntKind.i64, Cel.int IntKind.i64, Cel.int IntKind.i64] true false (List.length x.l) (hasS x.l) anyV), some (Blk.arr (11 : Nat) (List.length
(x.l ++ x.j)) (lsF Sh.c (x.l ++ x.j))), some (Blk.row [AV.v (Value.int IntKind.i64 x.f), AV.v (Value.int IntKind.u32 x.bad), AV.hs (4 : Nat) (0 : Nat) (List.length x.l)]), some (Blk.arr (11
: Nat) (List.length (x.l ++ x.j')) (lsF Sh.c (x.l ++ x.j')))]))))))))))) (Tree.br (decide ((List.getD x.acts x.i default).k = (1 : Int))) Tree.fail (Tree.br (decide ((List.getD x.acts x.i
default).k = (2 : Int))) Tree.fail (Tree.br (decide ((List.getD x.acts x.i default).k = (3 : Int))) Tree.fail (Tree.chk true (Tree.chk (cl (List.length x.l ≤ (1000000000 : Nat) ∧ ∃ l junk,
List.length x.l = List.length l ∧ List.length (x.l ++ x.j) = List.length (l ++ junk) ∧ ∀ (e : Nat), lsF Sh.c (x.l ++ x.j) e = Sh.c (List.getD (l ++ junk) e default))) (Tree.br false
(Tree.leaf (Out.mk AEx.ret [AV.v (Value.int IntKind.i64 x.f), AV.v (Value.int IntKind.u32 x.bad), AV.sl (14 : Nat) (List.length x.acts) (lsF Ac.c x.acts), AV.ptr (0 : Nat) (0 : Nat), AV.ptr
(3 : Nat) (0 : Nat), AV.v (Value.int IntKind.i64 (↑x.i : Int)), AV.v (Value.bool false)] [some (Blk.row [AV.v (Value.int IntKind.i64 x.f), AV.v (Value.int IntKind.u32 x.bad), AV.map (1 :
Nat), AV.hs (2 : Nat) (0 : Nat) (List.length x.l)]), some (Blk.mp [Cel.int IntKind.i64, Cel.int IntKind.i64, Cel.int IntKind.i64, Cel.int IntKind.i64, Cel.int IntKind.i64, Cel.int
IntKind.i64, Cel.int IntKind.i64, Cel.int IntKind.i64, Cel.int IntKind.i64, Cel.int IntKind.i64, Cel.int IntKind.i64] true false (List.length x.l) (hasS x.l) anyV), some (Blk.arr (11 : Nat)
(List.length (x.l ++ x.j)) (lsF Sh.c (x.l ++ x.j))), some (Blk.row [AV.v (Value.int IntKind.i64 x.f), AV.v (Value.int IntKind.u32 x.bad), AV.hs (4 : Nat) (0 : Nat) (List.length x.l)]), some
(Blk.arr (11 : Nat) (List.length (x.l ++ x.j')) (lsF Sh.c (x.l ++ x.j')))])) (Tree.br (!decide ((↑(List.length x.l) : Int) = (↑(List.length x.l) : Int))) (Tree.leaf (Out.mk AEx.ret [AV.v
(Value.int IntKind.i64 x.f), AV.v (Value.int IntKind.u32 x.bad), AV.sl (14 : Nat) (List.length x.acts) (lsF Ac.c x.acts), AV.ptr (0 : Nat) (0 : Nat), AV.ptr (3 : Nat) (0 : Nat), AV.v
(Value.int IntKind.i64 (↑x.i : Int)), AV.v (Value.bool false)] [some (Blk.row [AV.v (Value.int IntKind.i64 x.f), AV.v (Value.int IntKind.u32 x.bad), AV.map (1 : Nat), AV.hs (2 : Nat) (0 :
Nat) (List.length x.l)]), some (Blk.mp [Cel.int IntKind.i64, Cel.int IntKind.i64, Cel.int IntKind.i64, Cel.int IntKind.i64, Cel.int IntKind.i64, Cel.int IntKind.i64, Cel.int IntKind.i64,
Cel.int IntKind.i64, Cel.int IntKind.i64, Cel.int IntKind.i64, Cel.int IntKind.i64] true false (List.length x.l) (hasS x.l) anyV), some (Blk.arr (11 : Nat) (List.length (x.l ++ x.j)) (lsF
Sh.c (x.l ++ x.j))), some (Blk.row [AV.v (Value.int IntKind.i64 x.f), AV.v (Value.int IntKind.u32 x.bad), AV.hs (4 : Nat) (0 : Nat) (List.length x.l)]), some (Blk.arr (11 : Nat) (List.length
(x.l ++ x.j')) (lsF Sh.c (x.l ++ x.j')))])) (Tree.br (!decide (x.f = x.f)) (Tree.leaf (Out.mk AEx.ret [AV.v (Value.int IntKind.i64 x.f), AV.v (Value.int IntKind.u32 x.bad), AV.sl (14 : Nat)
(List.length x.acts) (lsF Ac.c x.acts), AV.ptr (0 : Nat) (0 : Nat), AV.ptr (3 : Nat) (0 : Nat), AV.v (Value.int IntKind.i64 (↑x.i : Int)), AV.v (Value.bool false)] [some (Blk.row [AV.v
(Value.int IntKind.i64 x.f), AV.v (Value.int IntKind.u32 x.bad), AV.map (1 : Nat), AV.hs (2 : Nat) (0 : Nat) (List.length x.l)]), some (Blk.mp [Cel.int IntKind.i64, Cel.int IntKind.i64,
Cel.int IntKind.i64, Cel.int IntKind.i64, Cel.int IntKind.i64, Cel.int IntKind.i64, Cel.int IntKind.i64, Cel.int IntKind.i64, Cel.int IntKind.i64, Cel.int IntKind.i64, Cel.int IntKind.i64]
true false (List.length x.l) (hasS x.l) anyV), some (Blk.arr (11 : Nat) (List.length (x.l ++ x.j)) (lsF Sh.c (x.l ++ x.j))), some (Blk.row [AV.v (Value.int IntKind.i64 x.f), AV.v (Value.int
IntKind.u32 x.bad), AV.hs (4 : Nat) (0 : Nat) (List.length x.l)]), some (Blk.arr (11 : Nat) (List.length (x.l ++ x.j')) (lsF Sh.c (x.l ++ x.j')))])) (Tree.br (!decide (x.bad = x.bad))
(Tree.leaf (Out.mk AEx.ret [AV.v (Value.int IntKind.i64 x.f), AV.v (Value.int IntKind.u32 x.bad), AV.sl (14 : Nat) (List.length x.acts) (lsF Ac.c x.acts), AV.ptr (0 : Nat) (0 : Nat), AV.ptr
(3 : Nat) (0 : Nat), AV.v (Value.int IntKind.i64 (↑x.i : Int)), AV.v (Value.bool false)] [some (Blk.row [AV.v (Value.int IntKind.i64 x.f), AV.v (Value.int IntKind.u32 x.bad), AV.map (1 :
Nat), AV.hs (2 : Nat) (0 : Nat) (List.length x.l)]), some (Blk.mp [Cel.int IntKind.i64, Cel.int IntKind.i64, Cel.int IntKind.i64, Cel.int IntKind.i64, Cel.int IntKind.i64, Cel.int
IntKind.i64, Cel.int IntKind.i64, Cel.int IntKind.i64, Cel.int IntKind.i64, Cel.int IntKind.i64, Cel.int IntKind.i64] true false (List.length x.l) (hasS x.l) anyV), some (Blk.arr (11 : Nat)
(List.length (x.l ++ x.j)) (lsF Sh.c (x.l ++ x.j))), some (Blk.row [AV.v (Value.int IntKind.i64 x.f), AV.v (Value.int IntKind.u32 x.bad), AV.hs (4 : Nat) (0 : Nat) (List.length x.l)]), some
(Blk.arr (11 : Nat) (List.length (x.l ++ x.j')) (lsF Sh.c (x.l ++ x.j')))])) (Tree.chk (cl (LeL [AV.v (Value.int IntKind.i64 x.f), AV.v (Value.int IntKind.u32 x.bad), AV.sl (14 : Nat)
(List.length x.acts) (lsF Ac.c x.acts), AV.ptr (0 : Nat) (0 : Nat), AV.ptr (3 : Nat) (0 : Nat), AV.v (Value.int IntKind.i64 (↑x.i : Int)), AV.hs (5 : Nat) (0 : Nat) (List.length x.l), AV.v
(Value.int IntKind.i64 (0 : Int)), AV.any] [AV.v (Value.int IntKind.i64 x.f), AV.v (Value.int IntKind.u32 x.bad), AV.sl (14 : Nat) (List.length x.acts) (lsF Ac.c x.acts), AV.ptr (0 : Nat) (0
: Nat), AV.ptr (3 : Nat) (0 : Nat), AV.v (Value.int IntKind.i64 (↑x.i : Int)), AV.hs (5 : Nat) (0 : Nat) (List.length x.l), AV.v (Value.int IntKind.i64 (↑(0 : Nat) : Int)), AV.any] ∧ LeH
[some (Blk.row [AV.v (Value.int IntKind.i64 x.f), AV.v (Value.int IntKind.u32 x.bad), AV.map (1 : Nat), AV.hs (2 : Nat) (0 : Nat) (List.length x.l)]), some (Blk.mp [Cel.int IntKind.i64,
Cel.int IntKind.i64, Cel.int IntKind.i64, Cel.int IntKind.i64, Cel.int IntKind.i64, Cel.int IntKind.i64, Cel.int IntKind.i64, Cel.int IntKind.i64, Cel.int IntKind.i64, Cel.int IntKind.i64,
Cel.int IntKind.i64] true false (List.length x.l) (hasS x.l) anyV), some (Blk.arr (11 : Nat) (List.length (x.l ++ x.j)) (lsF Sh.c (x.l ++ x.j))), some (Blk.row [AV.v (Value.int IntKind.i64
x.f), AV.v (Value.int IntKind.u32 x.bad), AV.hs (4 : Nat) (0 : Nat) (List.length x.l)]), some (Blk.arr (11 : Nat) (List.length (x.l ++ x.j')) (lsF Sh.c (x.l ++ x.j'))), some (Blk.arr (11 :
Nat) (List.length x.l) (lsF Sh.c (x.l ++ x.j)))] [some (Blk.row [AV.v (Value.int IntKind.i64 x.f), AV.v (Value.int IntKind.u32 x.bad), AV.map (1 : Nat), AV.hs (2 : Nat) (0 : Nat)
(List.length x.l)]), some (Blk.mp [Cel.int IntKind.i64, Cel.int IntKind.i64, Cel.int IntKind.i64, Cel.int IntKind.i64, Cel.int IntKind.i64, Cel.int IntKind.i64, Cel.int IntKind.i64, Cel.int
IntKind.i64, Cel.int IntKind.i64, Cel.int IntKind.i64, Cel.int IntKind.i64] true false (List.length x.l) (hasS x.l) anyV), some (Blk.arr (11 : Nat) (List.length (x.l ++ x.j)) (lsF Sh.c (x.l
++ x.j))), some (Blk.row [AV.v (Value.int IntKind.i64 x.f), AV.v (Value.int IntKind.u32 x.bad), AV.hs (4 : Nat) (0 : Nat) (List.length x.l)]), some (Blk.arr (11 : Nat) (List.length (x.l ++
x.j')) (lsF Sh.c (x.l ++ x.j'))), some (Blk.arr (11 : Nat) (List.length x.l) (lsF Sh.c (x.l ++ x.j)))])) (Tree.leaf (Out.mk AEx.normal [AV.v (Value.int IntKind.i64 x.f), AV.v (Value.int
IntKind.u32 x.bad), AV.sl (14 : Nat) (List.length x.acts) (lsF Ac.c x.acts), AV.ptr (0 : Nat) (0 : Nat), AV.ptr (3 : Nat) (0 : Nat), AV.v (Value.int IntKind.i64 (IntKind.wrap IntKind.i64
((↑x.i : Int) + (1 : Int)))), AV.any] [some (Blk.row [AV.v (Value.int IntKind.i64 x.f), AV.v (Value.int IntKind.u32 x.bad), AV.map (1 : Nat), AV.hs (2 : Nat) (0 : Nat) (List.length x.l)]),
some (Blk.mp [Cel.int IntKind.i64, Cel.int IntKind.i64, Cel.int IntKind.i64, Cel.int IntKind.i64, Cel.int IntKind.i64, Cel.int IntKind.i64, Cel.int IntKind.i64, Cel.int IntKind.i64, Cel.int
IntKind.i64, Cel.int IntKind.i64, Cel.int IntKind.i64] true false (List.length x.l) (hasS x.l) anyV), some (Blk.arr (11 : Nat) (List.length (x.l ++ x.j)) (lsF Sh.c (x.l ++ x.j))), some
(Blk.row [AV.v (Value.int IntKind.i64 x.f), AV.v (Value.int IntKind.u32 x.bad), AV.hs (4 : Nat) (0 : Nat) (List.length x.l)]), some (Blk.arr (11 : Nat) (List.length (x.l ++ x.j')) (lsF Sh.c
(x.l ++ x.j')))])))))))))))))) (Tree.leaf (Out.mk (AEx.exit (0 : Nat)) [AV.v (Value.int IntKind.i64 x.f), AV.v (Value.int IntKind.u32 x.bad), AV.sl (14 : Nat) (List.length x.acts) (lsF Ac.c
x.acts), AV.ptr (0 : Nat) (0 : Nat), AV.ptr (3 : Nat) (0 : Nat), AV.v (Value.int IntKind.i64 (↑x.i : Int)), AV.any] [some (Blk.row [AV.v (Value.int IntKind.i64 x.f), AV.v (Value.int
IntKind.u32 x.bad), AV.map (1 : Nat), AV.hs (2 : Nat) (0 : Nat) (List.length x.l)]), some (Blk.mp [Cel.int IntKind.i64, Cel.int IntKind.i64, Cel.int IntKind.i64, Cel.int IntKind.i64, Cel.int
IntKind.i64, Cel.int IntKind.i64, Cel.int IntKind.i64, Cel.int IntKind.i64, Cel.int IntKind.i64, Cel.int IntKind.i64, Cel.int IntKind.i64] true false (List.length x.l) (hasS x.l) anyV), some
(Blk.arr (11 : Nat) (List.length (x.l ++ x.j)) (lsF Sh.c (x.l ++ x.j))), some (Blk.row [AV.v (Value.int IntKind.i64 x.f), AV.v (Value.int IntKind.u32 x.bad), AV.hs (4 : Nat) (0 : Nat)
(List.length x.l)]), some (Blk.arr (11 : Nat) (List.length (x.l ++ x.j')) (lsF Sh.c (x.l ++ x.j')))])) := by kernel_rfl
theorem r4new (x : X4) (h : ¬ outS x.f (shOf (x.acts.getD x.i default))) (hs : x.l.length ≤ 100000) (hs' : x.l.length ≤ 999999999) (hx : ¬ (shOf (x.acts.getD x.i default)) ∈ x.l) : roundE (P := Tryd.prog) (Γ := Γs) [kSh, S.c19, S.c20, CT.at 9 (ansIssueNew (f := x.f) (bad := x.bad) (l := x.l) (j := x.j) h hx hs'), CT.at 14 (ansIssueRNew (f := x.f) (bad := x.bad) (l := x.l) (j := x.j') h hs hx)] (L41 { x with l := x.l ++ [(shOf (x.acts.getD x.i default))], j := [], j' := [] }) false 0 0 (lp4 0) lv41 nl41 159 (S41 x).1 (S41 x).2 =
  Tree.br (bif decide ((↑x.i : Int) < (↑(List.length x.acts) : Int)) then true else false) (Tree.chk (decide ((0 : Int) ≤ (↑x.i : Int)) && decide ((↑x.i : Int) < (↑(List.length x.acts) :
Int))) (Tree.br (decide ((List.getD x.acts x.i default).k = (0 : Int))) (Tree.chk (cl (LeL [AV.ptr (0 : Nat) (0 : Nat), AV.agg [AV.v (Value.int IntKind.i64 (List.getD x.acts x.i default).s),
AV.v (Value.int IntKind.i64 (List.getD x.acts x.i default).st.k), AV.v (Value.int IntKind.i64 (List.getD x.acts x.i default).st.b), AV.v (Value.int IntKind.i64 (List.getD x.acts x.i
default).st.v), AV.v (Value.int IntKind.i64 (List.getD x.acts x.i default).st.r), AV.v (Value.int IntKind.i64 (List.getD x.acts x.i default).st.h), AV.v (Value.int IntKind.i64 (List.getD
x.acts x.i default).st.a), AV.v (Value.int IntKind.i64 (List.getD x.acts x.i default).st.hk), AV.v (Value.int IntKind.i64 (List.getD x.acts x.i default).st.hb), AV.v (Value.int IntKind.i64
(List.getD x.acts x.i default).st.hv), AV.v (Value.int IntKind.i64 (List.getD x.acts x.i default).st.hr)]] [AV.ptr (0 : Nat) (0 : Nat), AV.agg [AV.v (Value.int IntKind.i64 (List.getD x.acts
x.i default).s), AV.v (Value.int IntKind.i64 (List.getD x.acts x.i default).st.k), AV.v (Value.int IntKind.i64 (List.getD x.acts x.i default).st.b), AV.v (Value.int IntKind.i64 (List.getD
x.acts x.i default).st.v), AV.v (Value.int IntKind.i64 (List.getD x.acts x.i default).st.r), AV.v (Value.int IntKind.i64 (List.getD x.acts x.i default).st.h), AV.v (Value.int IntKind.i64
(List.getD x.acts x.i default).st.a), AV.v (Value.int IntKind.i64 (List.getD x.acts x.i default).st.hk), AV.v (Value.int IntKind.i64 (List.getD x.acts x.i default).st.hb), AV.v (Value.int
IntKind.i64 (List.getD x.acts x.i default).st.hv), AV.v (Value.int IntKind.i64 (List.getD x.acts x.i default).st.hr)]] ∧ LeH [some (Blk.row [AV.v (Value.int IntKind.i64 x.f), AV.v (Value.int
IntKind.u32 x.bad), AV.map (1 : Nat), AV.hs (2 : Nat) (0 : Nat) (List.length x.l)]), some (Blk.mp [Cel.int IntKind.i64, Cel.int IntKind.i64, Cel.int IntKind.i64, Cel.int IntKind.i64, Cel.int
IntKind.i64, Cel.int IntKind.i64, Cel.int IntKind.i64, Cel.int IntKind.i64, Cel.int IntKind.i64, Cel.int IntKind.i64, Cel.int IntKind.i64] true false (List.length x.l) (hasS x.l) anyV), some
(Blk.arr (11 : Nat) (List.length (x.l ++ x.j)) (lsF Sh.c (x.l ++ x.j)))] [some (Blk.row [AV.v (Value.int IntKind.i64 x.f), AV.v (Value.int IntKind.u32 x.bad), AV.map (1 : Nat), AV.hs (2 :
Nat) (0 : Nat) (List.length x.l)]), some (Blk.mp [Cel.int IntKind.i64, Cel.int IntKind.i64, Cel.int IntKind.i64, Cel.int IntKind.i64, Cel.int IntKind.i64, Cel.int IntKind.i64, Cel.int
IntKind.i64, Cel.int IntKind.i64, Cel.int IntKind.i64, Cel.int IntKind.i64, Cel.int IntKind.i64] true false (List.length x.l) (hasS x.l) anyV), some (Blk.arr (11 : Nat) (List.length (x.l ++
x.j)) (lsF Sh.c (x.l ++ x.j)))])) (Tree.chk (cl (LeL [AV.ptr (0 : Nat) (0 : Nat), AV.agg [AV.v (Value.int IntKind.i64 (List.getD x.acts x.i default).s), AV.v (Value.int IntKind.i64
(List.getD x.acts x.i default).st.k), AV.v (Value.int IntKind.i64 (List.getD x.acts x.i default).st.b), AV.v (Value.int IntKind.i64 (List.getD x.acts x.i default).st.v), AV.v (Value.int
IntKind.i64 (List.getD x.acts x.i default).st.r), AV.v (Value.int IntKind.i64 (List.getD x.acts x.i default).st.h), AV.v (Value.int IntKind.i64 (List.getD x.acts x.i default).st.a), AV.v
(Value.int IntKind.i64 (List.getD x.acts x.i default).st.hk), AV.v (Value.int IntKind.i64 (List.getD x.acts x.i default).st.hb), AV.v (Value.int IntKind.i64 (List.getD x.acts x.i
default).st.hv), AV.v (Value.int IntKind.i64 (List.getD x.acts x.i default).st.hr)]] [AV.ptr (0 : Nat) (0 : Nat), AV.agg [AV.v (Value.int IntKind.i64 (List.getD x.acts x.i default).s), AV.v
(Value.int IntKind.i64 (List.getD x.acts x.i default).st.k), AV.v (Value.int IntKind.i64 (List.getD x.acts x.i default).st.b), AV.v (Value.int IntKind.i64 (List.getD x.acts x.i
default).st.v), AV.v (Value.int IntKind.i64 (List.getD x.acts x.i default).st.r), AV.v (Value.int IntKind.i64 (List.getD x.acts x.i default).st.h), AV.v (Value.int IntKind.i64 (List.getD
x.acts x.i default).st.a), AV.v (Value.int IntKind.i64 (List.getD x.acts x.i default).st.hk), AV.v (Value.int IntKind.i64 (List.getD x.acts x.i default).st.hb), AV.v (Value.int IntKind.i64
(List.getD x.acts x.i default).st.hv), AV.v (Value.int IntKind.i64 (List.getD x.acts x.i default).st.hr)]] ∧ LeH [some (Blk.row [AV.v (Value.int IntKind.i64 x.f), AV.v (Value.int IntKind.u32
x.bad), AV.hs (1 : Nat) (0 : Nat) (List.length x.l)]), some (Blk.arr (11 : Nat) (List.length (x.l ++ x.j')) (lsF Sh.c (x.l ++ x.j')))] [some (Blk.row [AV.v (Value.int IntKind.i64 x.f), AV.v
(Value.int IntKind.u32 x.bad), AV.hs (1 : Nat) (0 : Nat) (List.length x.l)]), some (Blk.arr (11 : Nat) (List.length (x.l ++ x.j')) (lsF Sh.c (x.l ++ x.j')))])) (Tree.chk true (Tree.chk (cl
(List.length (x.l ++ [shOf (List.getD x.acts x.i default)]) ≤ (1000000000 : Nat) ∧ ∃ l junk, List.length (x.l ++ [shOf (List.getD x.acts x.i default)]) = List.length l ∧ List.length (x.l ++
[shOf (List.getD x.acts x.i default)]) = List.length (l ++ junk) ∧ ∀ (e : Nat), lsF Sh.c (x.l ++ [shOf (List.getD x.acts x.i default)]) e = Sh.c (List.getD (l ++ junk) e default))) (Tree.br
false (Tree.leaf (Out.mk AEx.ret [AV.v (Value.int IntKind.i64 x.f), AV.v (Value.int IntKind.u32 x.bad), AV.sl (14 : Nat) (List.length x.acts) (lsF Ac.c x.acts), AV.ptr (0 : Nat) (0 : Nat),
AV.ptr (3 : Nat) (0 : Nat), AV.v (Value.int IntKind.i64 (↑x.i : Int)), AV.v (Value.bool false)] [some (Blk.row [AV.v (Value.int IntKind.i64 x.f), AV.v (Value.int IntKind.u32 x.bad), AV.map
(1 : Nat), AV.hs (2 : Nat) (0 : Nat) (List.length (x.l ++ [shOf (List.getD x.acts x.i default)]))]), some (Blk.mp [Cel.int IntKind.i64, Cel.int IntKind.i64, Cel.int IntKind.i64, Cel.int
IntKind.i64, Cel.int IntKind.i64, Cel.int IntKind.i64, Cel.int IntKind.i64, Cel.int IntKind.i64, Cel.int IntKind.i64, Cel.int IntKind.i64, Cel.int IntKind.i64] true false (List.length (x.l
++ [shOf (List.getD x.acts x.i default)])) (hasS (x.l ++ [shOf (List.getD x.acts x.i default)])) anyV), some (Blk.arr (11 : Nat) (List.length (x.l ++ [shOf (List.getD x.acts x.i default)]))
(lsF Sh.c (x.l ++ [shOf (List.getD x.acts x.i default)]))), some (Blk.row [AV.v (Value.int IntKind.i64 x.f), AV.v (Value.int IntKind.u32 x.bad), AV.hs (4 : Nat) (0 : Nat) (List.length (x.l
++ [shOf (List.getD x.acts x.i default)]))]), some (Blk.arr (11 : Nat) (List.length (x.l ++ [shOf (List.getD x.acts x.i default)])) (lsF Sh.c (x.l ++ [shOf (List.getD x.acts x.i
default)])))])) (Tree.br (!decide ((↑(List.length (x.l ++ [shOf (List.getD x.acts x.i default)])) : Int) = (↑(List.length (x.l ++ [shOf (List.getD x.acts x.i default)])) : Int))) (Tree.leaf
(Out.mk AEx.ret [AV.v (Value.int IntKind.i64 x.f), AV.v (Value.int IntKind.u32 x.bad), AV.sl (14 : Nat) (List.length x.acts) (lsF Ac.c x.acts), AV.ptr (0 : Nat) (0 : Nat), AV.ptr (3 : Nat)
(0 : Nat), AV.v (Value.int IntKind.i64 (↑x.i : Int)), AV.v (Value.bool false)] [some (Blk.row [AV.v (Value.int IntKind.i64 x.f), AV.v (Value.int IntKind.u32 x.bad), AV.map (1 : Nat), AV.hs
(2 : Nat) (0 : Nat) (List.length (x.l ++ [shOf (List.getD x.acts x.i default)]))]), some (Blk.mp [Cel.int IntKind.i64, Cel.int IntKind.i64, Cel.int IntKind.i64, Cel.int IntKind.i64, Cel.int
IntKind.i64, Cel.int IntKind.i64, Cel.int IntKind.i64, Cel.int IntKind.i64, Cel.int IntKind.i64, Cel.int IntKind.i64, Cel.int IntKind.i64] true false (List.length (x.l ++ [shOf (List.getD
x.acts x.i default)])) (hasS (x.l ++ [shOf (List.getD x.acts x.i default)])) anyV), some (Blk.arr (11 : Nat) (List.length (x.l ++ [shOf (List.getD x.acts x.i default)])) (lsF Sh.c (x.l ++
[shOf (List.getD x.acts x.i default)]))), some (Blk.row [AV.v (Value.int IntKind.i64 x.f), AV.v (Value.int IntKind.u32 x.bad), AV.hs (4 : Nat) (0 : Nat) (List.length (x.l ++ [shOf (List.getD
x.acts x.i default)]))]), some (Blk.arr (11 : Nat) (List.length (x.l ++ [shOf (List.getD x.acts x.i default)])) (lsF Sh.c (x.l ++ [shOf (List.getD x.acts x.i default)])))])) (Tree.br
(!decide (x.f = x.f)) (Tree.leaf (Out.mk AEx.ret [AV.v (Value.int IntKind.i64 x.f), AV.v (Value.int IntKind.u32 x.bad), AV.sl (14 : Nat) (List.length x.acts) (lsF Ac.c x.acts), AV.ptr (0 :
Nat) (0 : Nat), AV.ptr (3 : Nat) (0 : Nat), AV.v (Value.int IntKind.i64 (↑x.i : Int)), AV.v (Value.bool false)] [some (Blk.row [AV.v (Value.int IntKind.i64 x.f), AV.v (Value.int IntKind.u32
x.bad), AV.map (1 : Nat), AV.hs (2 : Nat) (0 : Nat) (List.length (x.l ++ [shOf (List.getD x.acts x.i default)]))]), some (Blk.mp [Cel.int IntKind.i64, Cel.int IntKind.i64, Cel.int
IntKind.i64, Cel.int IntKind.i64, Cel.int IntKind.i64, Cel.int IntKind.i64, Cel.int IntKind.i64, Cel.int IntKind.i64, Cel.int IntKind.i64, Cel.int IntKind.i64, Cel.int IntKind.i64] true
false (List.length (x.l ++ [shOf (List.getD x.acts x.i default)])) (hasS (x.l ++ [shOf (List.getD x.acts x.i default)])) anyV), some (Blk.arr (11 : Nat) (List.length (x.l ++ [shOf (List.getD
x.acts x.i default)])) (lsF Sh.c (x.l ++ [shOf (List.getD x.acts x.i default)]))), some (Blk.row [AV.v (Value.int IntKind.i64 x.f), AV.v (Value.int IntKind.u32 x.bad), AV.hs (4 : Nat) (0 :
Nat) (List.length (x.l ++ [shOf (List.getD x.acts x.i default)]))]), some (Blk.arr (11 : Nat) (List.length (x.l ++ [shOf (List.getD x.acts x.i default)])) (lsF Sh.c (x.l ++ [shOf (List.getD
x.acts x.i default)])))])) (Tree.br (!decide (x.bad = x.bad)) (Tree.leaf (Out.mk AEx.ret [AV.v (Value.int IntKind.i64 x.f), AV.v (Value.int IntKind.u32 x.bad), AV.sl (14 : Nat) (List.length
x.acts) (lsF Ac.c x.acts), AV.ptr (0 : Nat) (0 : Nat), AV.ptr (3 : Nat) (0 : Nat), AV.v (Value.int IntKind.i64 (↑x.i : Int)), AV.v (Value.bool false)] [some (Blk.row [AV.v (Value.int
IntKind.i64 x.f), AV.v (Value.int IntKind.u32 x.bad), AV.map (1 : Nat), AV.hs (2 : Nat) (0 : Nat) (List.length (x.l ++ [shOf (List.getD x.acts x.i default)]))]), some (Blk.mp [Cel.int
IntKind.i64, Cel.int IntKind.i64, Cel.int IntKind.i64, Cel.int IntKind.i64, Cel.int IntKind.i64, Cel.int IntKind.i64, Cel.int IntKind.i64, Cel.int IntKind.i64, Cel.int IntKind.i64, Cel.int
IntKind.i64, Cel.int IntKind.i64] true false (List.length (x.l ++ [shOf (List.getD x.acts x.i default)])) (hasS (x.l ++ [shOf (List.getD x.acts x.i default)])) anyV), some (Blk.arr (11 :
Nat) (List.length (x.l ++ [shOf (List.getD x.acts x.i default)])) (lsF Sh.c (x.l ++ [shOf (List.getD x.acts x.i default)]))), some (Blk.row [AV.v (Value.int IntKind.i64 x.f), AV.v (Value.int
IntKind.u32 x.bad), AV.hs (4 : Nat) (0 : Nat) (List.length (x.l ++ [shOf (List.getD x.acts x.i default)]))]), some (Blk.arr (11 : Nat) (List.length (x.l ++ [shOf (List.getD x.acts x.i
default)])) (lsF Sh.c (x.l ++ [shOf (List.getD x.acts x.i default)])))])) (Tree.chk (cl (LeL [AV.v (Value.int IntKind.i64 x.f), AV.v (Value.int IntKind.u32 x.bad), AV.sl (14 : Nat)
(List.length x.acts) (lsF Ac.c x.acts), AV.ptr (0 : Nat) (0 : Nat), AV.ptr (3 : Nat) (0 : Nat), AV.v (Value.int IntKind.i64 (↑x.i : Int)), AV.hs (5 : Nat) (0 : Nat) (List.length (x.l ++
[shOf (List.getD x.acts x.i default)])), AV.v (Value.int IntKind.i64 (0 : Int)), AV.any] [AV.v (Value.int IntKind.i64 x.f), AV.v (Value.int IntKind.u32 x.bad), AV.sl (14 : Nat) (List.length
(X4.mk x.f x.bad x.acts (x.l ++ [shOf (List.getD x.acts x.i default)]) [] [] x.i).acts) (lsF Ac.c (X4.mk x.f x.bad x.acts (x.l ++ [shOf (List.getD x.acts x.i default)]) [] [] x.i).acts),
AV.ptr (0 : Nat) (0 : Nat), AV.ptr (3 : Nat) (0 : Nat), AV.v (Value.int IntKind.i64 (↑x.i : Int)), AV.hs (5 : Nat) (0 : Nat) (List.length (X4.mk x.f x.bad x.acts (x.l ++ [shOf (List.getD
x.acts x.i default)]) [] [] x.i).l), AV.v (Value.int IntKind.i64 (↑(0 : Nat) : Int)), AV.any] ∧ LeH [some (Blk.row [AV.v (Value.int IntKind.i64 x.f), AV.v (Value.int IntKind.u32 x.bad),
AV.map (1 : Nat), AV.hs (2 : Nat) (0 : Nat) (List.length (x.l ++ [shOf (List.getD x.acts x.i default)]))]), some (Blk.mp [Cel.int IntKind.i64, Cel.int IntKind.i64, Cel.int IntKind.i64,
Cel.int IntKind.i64, Cel.int IntKind.i64, Cel.int IntKind.i64, Cel.int IntKind.i64, Cel.int IntKind.i64, Cel.int IntKind.i64, Cel.int IntKind.i64, Cel.int IntKind.i64] true false
(List.length (x.l ++ [shOf (List.getD x.acts x.i default)])) (hasS (x.l ++ [shOf (List.getD x.acts x.i default)])) anyV), some (Blk.arr (11 : Nat) (List.length (x.l ++ [shOf (List.getD
x.acts x.i default)])) (lsF Sh.c (x.l ++ [shOf (List.getD x.acts x.i default)]))), some (Blk.row [AV.v (Value.int IntKind.i64 x.f), AV.v (Value.int IntKind.u32 x.bad), AV.hs (4 : Nat) (0 :
Nat) (List.length (x.l ++ [shOf (List.getD x.acts x.i default)]))]), some (Blk.arr (11 : Nat) (List.length (x.l ++ [shOf (List.getD x.acts x.i default)])) (lsF Sh.c (x.l ++ [shOf (List.getD
x.acts x.i default)]))), some (Blk.arr (11 : Nat) (List.length (x.l ++ [shOf (List.getD x.acts x.i default)])) (lsF Sh.c (x.l ++ [shOf (List.getD x.acts x.i default)])))] [some (Blk.row
[AV.v (Value.int IntKind.i64 x.f), AV.v (Value.int IntKind.u32 x.bad), AV.map (1 : Nat), AV.hs (2 : Nat) (0 : Nat) (List.length (X4.mk x.f x.bad x.acts (x.l ++ [shOf (List.getD x.acts x.i
default)]) [] [] x.i).l)]), some (Blk.mp [Cel.int IntKind.i64, Cel.int IntKind.i64, Cel.int IntKind.i64, Cel.int IntKind.i64, Cel.int IntKind.i64, Cel.int IntKind.i64, Cel.int IntKind.i64,
Cel.int IntKind.i64, Cel.int IntKind.i64, Cel.int IntKind.i64, Cel.int IntKind.i64] true false (List.length (X4.mk x.f x.bad x.acts (x.l ++ [shOf (List.getD x.acts x.i default)]) [] []
x.i).l) (hasS (X4.mk x.f x.bad x.acts (x.l ++ [shOf (List.getD x.acts x.i default)]) [] [] x.i).l) anyV), some (Blk.arr (11 : Nat) (List.length ((X4.mk x.f x.bad x.acts (x.l ++ [shOf
(List.getD x.acts x.i default)]) [] [] x.i).l ++ (X4.mk x.f x.bad x.acts (x.l ++ [shOf (List.getD x.acts x.i default)]) [] [] x.i).j)) (lsF Sh.c ((X4.mk x.f x.bad x.acts (x.l ++ [shOf
(List.getD x.acts x.i default)]) [] [] x.i).l ++ (X4.mk x.f x.bad x.acts (x.l ++ [shOf (List.getD x.acts x.i default)]) [] [] x.i).j))), some (Blk.row [AV.v (Value.int IntKind.i64 x.f), AV.v
(Value.int IntKind.u32 x.bad), AV.hs (4 : Nat) (0 : Nat) (List.length (X4.mk x.f x.bad x.acts (x.l ++ [shOf (List.getD x.acts x.i default)]) [] [] x.i).l)]), some (Blk.arr (11 : Nat)
(List.length ((X4.mk x.f x.bad x.acts (x.l ++ [shOf (List.getD x.acts x.i default)]) [] [] x.i).l ++ (X4.mk x.f x.bad x.acts (x.l ++ [shOf (List.getD x.acts x.i default)]) [] [] x.i).j'))
(lsF Sh.c ((X4.mk x.f x.bad x.acts (x.l ++ [shOf (List.getD x.acts x.i default)]) [] [] x.i).l ++ (X4.mk x.f x.bad x.acts (x.l ++ [shOf (List.getD x.acts x.i default)]) [] [] x.i).j'))),
some (Blk.arr (11 : Nat) (List.length (X4.mk x.f x.bad x.acts (x.l ++ [shOf (List.getD x.acts x.i default)]) [] [] x.i).l) (lsF Sh.c ((X4.mk x.f x.bad x.acts (x.l ++ [shOf (List.getD x.acts
x.i default)]) [] [] x.i).l ++ (X4.mk x.f x.bad x.acts (x.l ++ [shOf (List.getD x.acts x.i default)]) [] [] x.i).j)))])) (Tree.leaf (Out.mk AEx.normal [AV.v (Value.int IntKind.i64 x.f), AV.v
(Value.int IntKind.u32 x.bad), AV.sl (14 : Nat) (List.length (X4.mk x.f x.bad x.acts (x.l ++ [shOf (List.getD x.acts x.i default)]) [] [] x.i).acts) (lsF Ac.c (X4.mk x.f x.bad x.acts (x.l ++
[shOf (List.getD x.acts x.i default)]) [] [] x.i).acts), AV.ptr (0 : Nat) (0 : Nat), AV.ptr (3 : Nat) (0 : Nat), AV.v (Value.int IntKind.i64 (IntKind.wrap IntKind.i64 ((↑x.i : Int) + (1 :
Int)))), AV.any] [some (Blk.row [AV.v (Value.int IntKind.i64 x.f), AV.v (Value.int IntKind.u32 x.bad), AV.map (1 : Nat), AV.hs (2 : Nat) (0 : Nat) (List.length (X4.mk x.f x.bad x.acts (x.l
++ [shOf (List.getD x.acts x.i default)]) [] [] x.i).l)]), some (Blk.mp [Cel.int IntKind.i64, Cel.int IntKind.i64, Cel.int IntKind.i64, Cel.int IntKind.i64, Cel.int IntKind.i64, Cel.int
IntKind.i64, Cel.int IntKind.i64, Cel.int IntKind.i64, Cel.int IntKind.i64, Cel.int IntKind.i64, Cel.int IntKind.i64] true false (List.length (X4.mk x.f x.bad x.acts (x.l ++ [shOf (List.getD
x.acts x.i default)]) [] [] x.i).l) (hasS (X4.mk x.f x.bad x.acts (x.l ++ [shOf (List.getD x.acts x.i default)]) [] [] x.i).l) anyV), some (Blk.arr (11 : Nat) (List.length ((X4.mk x.f x.bad
x.acts (x.l ++ [shOf (List.getD x.acts x.i default)]) [] [] x.i).l ++ (X4.mk x.f x.bad x.acts (x.l ++ [shOf (List.getD x.acts x.i default)]) [] [] x.i).j)) (lsF Sh.c ((X4.mk x.f x.bad x.acts
(x.l ++ [shOf (List.getD x.acts x.i default)]) [] [] x.i).l ++ (X4.mk x.f x.bad x.acts (x.l ++ [shOf (List.getD x.acts x.i default)]) [] [] x.i).j))), some (Blk.row [AV.v (Value.int
IntKind.i64 x.f), AV.v (Value.int IntKind.u32 x.bad), AV.hs (4 : Nat) (0 : Nat) (List.length (X4.mk x.f x.bad x.acts (x.l ++ [shOf (List.getD x.acts x.i default)]) [] [] x.i).l)]), some
(Blk.arr (11 : Nat) (List.length ((X4.mk x.f x.bad x.acts (x.l ++ [shOf (List.getD x.acts x.i default)]) [] [] x.i).l ++ (X4.mk x.f x.bad x.acts (x.l ++ [shOf (List.getD x.acts x.i
default)]) [] [] x.i).j')) (lsF Sh.c ((X4.mk x.f x.bad x.acts (x.l ++ [shOf (List.getD x.acts x.i default)]) [] [] x.i).l ++ (X4.mk x.f x.bad x.acts (x.l ++ [shOf (List.getD x.acts x.i
default)]) [] [] x.i).j')))]))))))))))) (Tree.br (decide ((List.getD x.acts x.i default).k = (1 : Int))) Tree.fail (Tree.br (decide ((List.getD x.acts x.i default).k = (2 : Int))) Tree.fail
(Tree.br (decide ((List.getD x.acts x.i default).k = (3 : Int))) Tree.fail (Tree.chk true (Tree.chk (cl (List.length x.l ≤ (1000000000 : Nat) ∧ ∃ l junk, List.length x.l = List.length l ∧
List.length (x.l ++ x.j) = List.length (l ++ junk) ∧ ∀ (e : Nat), lsF Sh.c (x.l ++ x.j) e = Sh.c (List.getD (l ++ junk) e default))) (Tree.br false (Tree.leaf (Out.mk AEx.ret [AV.v
(Value.int IntKind.i64 x.f), AV.v (Value.int IntKind.u32 x.bad), AV.sl (14 : Nat) (List.length x.acts) (lsF Ac.c x.acts), AV.ptr (0 : Nat) (0 : Nat), AV.ptr (3 : Nat) (0 : Nat), AV.v
(Value.int IntKind.i64 (↑x.i : Int)), AV.v (Value.bool false)] [some (Blk.row [AV.v (Value.int IntKind.i64 x.f), AV.v (Value.int IntKind.u32 x.bad), AV.map (1 : Nat), AV.hs (2 : Nat) (0 :
Nat) (List.length x.l)]), some (Blk.mp [Cel.int IntKind.i64, Cel.int IntKind.i64, Cel.int IntKind.i64, Cel.int IntKind.i64, Cel.int IntKind.i64, Cel.int IntKind.i64, Cel.int IntKind.i64,
Cel.int IntKind.i64, Cel.int IntKind.i64, Cel.int IntKind.i64, Cel.int IntKind.i64] true false (List.length x.l) (hasS x.l) anyV), some (Blk.arr (11 : Nat) (List.length (x.l ++ x.j)) (lsF
Sh.c (x.l ++ x.j))), some (Blk.row [AV.v (Value.int IntKind.i64 x.f), AV.v (Value.int IntKind.u32 x.bad), AV.hs (4 : Nat) (0 : Nat) (List.length x.l)]), some (Blk.arr (11 : Nat) (List.length
(x.l ++ x.j')) (lsF Sh.c (x.l ++ x.j')))])) (Tree.br (!decide ((↑(List.length x.l) : Int) = (↑(List.length x.l) : Int))) (Tree.leaf (Out.mk AEx.ret [AV.v (Value.int IntKind.i64 x.f), AV.v
(Value.int IntKind.u32 x.bad), AV.sl (14 : Nat) (List.length x.acts) (lsF Ac.c x.acts), AV.ptr (0 : Nat) (0 : Nat), AV.ptr (3 : Nat) (0 : Nat), AV.v (Value.int IntKind.i64 (↑x.i : Int)),
AV.v (Value.bool false)] [some (Blk.row [AV.v (Value.int IntKind.i64 x.f), AV.v (Value.int IntKind.u32 x.bad), AV.map (1 : Nat), AV.hs (2 : Nat) (0 : Nat) (List.length x.l)]), some (Blk.mp
[Cel.int IntKind.i64, Cel.int IntKind.i64, Cel.int IntKind.i64, Cel.int IntKind.i64, Cel.int IntKind.i64, Cel.int IntKind.i64, Cel.int IntKind.i64, Cel.int IntKind.i64, Cel.int IntKind.i64,
Cel.int IntKind.i64, Cel.int IntKind.i64] true false (List.length x.l) (hasS x.l) anyV), some (Blk.arr (11 : Nat) (List.length (x.l ++ x.j)) (lsF Sh.c (x.l ++ x.j))), some (Blk.row [AV.v
(Value.int IntKind.i64 x.f), AV.v (Value.int IntKind.u32 x.bad), AV.hs (4 : Nat) (0 : Nat) (List.length x.l)]), some (Blk.arr (11 : Nat) (List.length (x.l ++ x.j')) (lsF Sh.c (x.l ++
x.j')))])) (Tree.br (!decide (x.f = x.f)) (Tree.leaf (Out.mk AEx.ret [AV.v (Value.int IntKind.i64 x.f), AV.v (Value.int IntKind.u32 x.bad), AV.sl (14 : Nat) (List.length x.acts) (lsF Ac.c
x.acts), AV.ptr (0 : Nat) (0 : Nat), AV.ptr (3 : Nat) (0 : Nat), AV.v (Value.int IntKind.i64 (↑x.i : Int)), AV.v (Value.bool false)] [some (Blk.row [AV.v (Value.int IntKind.i64 x.f), AV.v
(Value.int IntKind.u32 x.bad), AV.map (1 : Nat), AV.hs (2 : Nat) (0 : Nat) (List.length x.l)]), some (Blk.mp [Cel.int IntKind.i64, Cel.int IntKind.i64, Cel.int IntKind.i64, Cel.int
IntKind.i64, Cel.int IntKind.i64, Cel.int IntKind.i64, Cel.int IntKind.i64, Cel.int IntKind.i64, Cel.int IntKind.i64, Cel.int IntKind.i64, Cel.int IntKind.i64] true false (List.length x.l)
(hasS x.l) anyV), some (Blk.arr (11 : Nat) (List.length (x.l ++ x.j)) (lsF Sh.c (x.l ++ x.j))), some (Blk.row [AV.v (Value.int IntKind.i64 x.f), AV.v (Value.int IntKind.u32 x.bad), AV.hs (4
: Nat) (0 : Nat) (List.length x.l)]), some (Blk.arr (11 : Nat) (List.length (x.l ++ x.j')) (lsF Sh.c (x.l ++ x.j')))])) (Tree.br (!decide (x.bad = x.bad)) (Tree.leaf (Out.mk AEx.ret [AV.v
(Value.int IntKind.i64 x.f), AV.v (Value.int IntKind.u32 x.bad), AV.sl (14 : Nat) (List.length x.acts) (lsF Ac.c x.acts), AV.ptr (0 : Nat) (0 : Nat), AV.ptr (3 : Nat) (0 : Nat), AV.v
(Value.int IntKind.i64 (↑x.i : Int)), AV.v (Value.bool false)] [some (Blk.row [AV.v (Value.int IntKind.i64 x.f), AV.v (Value.int IntKind.u32 x.bad), AV.map (1 : Nat), AV.hs (2 : Nat) (0 :
Nat) (List.length x.l)]), some (Blk.mp [Cel.int IntKind.i64, Cel.int IntKind.i64, Cel.int IntKind.i64, Cel.int IntKind.i64, Cel.int IntKind.i64, Cel.int IntKind.i64, Cel.int IntKind.i64,
Cel.int IntKind.i64, Cel.int IntKind.i64, Cel.int IntKind.i64, Cel.int IntKind.i64] true false (List.length x.l) (hasS x.l) anyV), some (Blk.arr (11 : Nat) (List.length (x.l ++ x.j)) (lsF
Sh.c (x.l ++ x.j))), some (Blk.row [AV.v (Value.int IntKind.i64 x.f), AV.v (Value.int IntKind.u32 x.bad), AV.hs (4 : Nat) (0 : Nat) (List.length x.l)]), some (Blk.arr (11 : Nat) (List.length
(x.l ++ x.j')) (lsF Sh.c (x.l ++ x.j')))])) (Tree.chk (cl (LeL [AV.v (Value.int IntKind.i64 x.f), AV.v (Value.int IntKind.u32 x.bad), AV.sl (14 : Nat) (List.length x.acts) (lsF Ac.c x.acts),
AV.ptr (0 : Nat) (0 : Nat), AV.ptr (3 : Nat) (0 : Nat), AV.v (Value.int IntKind.i64 (↑x.i : Int)), AV.hs (5 : Nat) (0 : Nat) (List.length x.l), AV.v (Value.int IntKind.i64 (0 : Int)),
AV.any] [AV.v (Value.int IntKind.i64 x.f), AV.v (Value.int IntKind.u32 x.bad), AV.sl (14 : Nat) (List.length (X4.mk x.f x.bad x.acts (x.l ++ [shOf (List.getD x.acts x.i default)]) [] []
x.i).acts) (lsF Ac.c (X4.mk x.f x.bad x.acts (x.l ++ [shOf (List.getD x.acts x.i default)]) [] [] x.i).acts), AV.ptr (0 : Nat) (0 : Nat), AV.ptr (3 : Nat) (0 : Nat), AV.v (Value.int
IntKind.i64 (↑x.i : Int)), AV.hs (5 : Nat) (0 : Nat) (List.length (X4.mk x.f x.bad x.acts (x.l ++ [shOf (List.getD x.acts x.i default)]) [] [] x.i).l), AV.v (Value.int IntKind.i64 (↑(0 :
Nat) : Int)), AV.any] ∧ LeH [some (Blk.row [AV.v (Value.int IntKind.i64 x.f), AV.v (Value.int IntKind.u32 x.bad), AV.map (1 : Nat), AV.hs (2 : Nat) (0 : Nat) (List.length x.l)]), some
(Blk.mp [Cel.int IntKind.i64, Cel.int IntKind.i64, Cel.int IntKind.i64, Cel.int IntKind.i64, Cel.int IntKind.i64, Cel.int IntKind.i64, Cel.int IntKind.i64, Cel.int IntKind.i64, Cel.int
IntKind.i64, Cel.int IntKind.i64, Cel.int IntKind.i64] true false (List.length x.l) (hasS x.l) anyV), some (Blk.arr (11 : Nat) (List.length (x.l ++ x.j)) (lsF Sh.c (x.l ++ x.j))), some
(Blk.row [AV.v (Value.int IntKind.i64 x.f), AV.v (Value.int IntKind.u32 x.bad), AV.hs (4 : Nat) (0 : Nat) (List.length x.l)]), some (Blk.arr (11 : Nat) (List.length (x.l ++ x.j')) (lsF Sh.c
(x.l ++ x.j'))), some (Blk.arr (11 : Nat) (List.length x.l) (lsF Sh.c (x.l ++ x.j)))] [some (Blk.row [AV.v (Value.int IntKind.i64 x.f), AV.v (Value.int IntKind.u32 x.bad), AV.map (1 : Nat),
AV.hs (2 : Nat) (0 : Nat) (List.length (X4.mk x.f x.bad x.acts (x.l ++ [shOf (List.getD x.acts x.i default)]) [] [] x.i).l)]), some (Blk.mp [Cel.int IntKind.i64, Cel.int IntKind.i64, Cel.int
IntKind.i64, Cel.int IntKind.i64, Cel.int IntKind.i64, Cel.int IntKind.i64, Cel.int IntKind.i64, Cel.int IntKind.i64, Cel.int IntKind.i64, Cel.int IntKind.i64, Cel.int IntKind.i64] true
false (List.length (X4.mk x.f x.bad x.acts (x.l ++ [shOf (List.getD x.acts x.i default)]) [] [] x.i).l) (hasS (X4.mk x.f x.bad x.acts (x.l ++ [shOf (List.getD x.acts x.i default)]) [] []
x.i).l) anyV), some (Blk.arr (11 : Nat) (List.length ((X4.mk x.f x.bad x.acts (x.l ++ [shOf (List.getD x.acts x.i default)]) [] [] x.i).l ++ (X4.mk x.f x.bad x.acts (x.l ++ [shOf (List.getD
x.acts x.i default)]) [] [] x.i).j)) (lsF Sh.c ((X4.mk x.f x.bad x.acts (x.l ++ [shOf (List.getD x.acts x.i default)]) [] [] x.i).l ++ (X4.mk x.f x.bad x.acts (x.l ++ [shOf (List.getD x.acts
x.i default)]) [] [] x.i).j))), some (Blk.row [AV.v (Value.int IntKind.i64 x.f), AV.v (Value.int IntKind.u32 x.bad), AV.hs (4 : Nat) (0 : Nat) (List.length (X4.mk x.f x.bad x.acts (x.l ++
[shOf (List.getD x.acts x.i default)]) [] [] x.i).l)]), some (Blk.arr (11 : Nat) (List.length ((X4.mk x.f x.bad x.acts (x.l ++ [shOf (List.getD x.acts x.i default)]) [] [] x.i).l ++ (X4.mk
x.f x.bad x.acts (x.l ++ [shOf (List.getD x.acts x.i default)]) [] [] x.i).j')) (lsF Sh.c ((X4.mk x.f x.bad x.acts (x.l ++ [shOf (List.getD x.acts x.i default)]) [] [] x.i).l ++ (X4.mk x.f
x.bad x.acts (x.l ++ [shOf (List.getD x.acts x.i default)]) [] [] x.i).j'))), some (Blk.arr (11 : Nat) (List.length (X4.mk x.f x.bad x.acts (x.l ++ [shOf (List.getD x.acts x.i default)]) []
[] x.i).l) (lsF Sh.c ((X4.mk x.f x.bad x.acts (x.l ++ [shOf (List.getD x.acts x.i default)]) [] [] x.i).l ++ (X4.mk x.f x.bad x.acts (x.l ++ [shOf (List.getD x.acts x.i default)]) [] []
x.i).j)))])) (Tree.leaf (Out.mk AEx.normal [AV.v (Value.int IntKind.i64 x.f), AV.v (Value.int IntKind.u32 x.bad), AV.sl (14 : Nat) (List.length (X4.mk x.f x.bad x.acts (x.l ++ [shOf
(List.getD x.acts x.i default)]) [] [] x.i).acts) (lsF Ac.c (X4.mk x.f x.bad x.acts (x.l ++ [shOf (List.getD x.acts x.i default)]) [] [] x.i).acts), AV.ptr (0 : Nat) (0 : Nat), AV.ptr (3 :
Nat) (0 : Nat), AV.v (Value.int IntKind.i64 (IntKind.wrap IntKind.i64 ((↑x.i : Int) + (1 : Int)))), AV.any] [some (Blk.row [AV.v (Value.int IntKind.i64 x.f), AV.v (Value.int IntKind.u32
x.bad), AV.map (1 : Nat), AV.hs (2 : Nat) (0 : Nat) (List.length (X4.mk x.f x.bad x.acts (x.l ++ [shOf (List.getD x.acts x.i default)]) [] [] x.i).l)]), some (Blk.mp [Cel.int IntKind.i64,
Cel.int IntKind.i64, Cel.int IntKind.i64, Cel.int IntKind.i64, Cel.int IntKind.i64, Cel.int IntKind.i64, Cel.int IntKind.i64, Cel.int IntKind.i64, Cel.int IntKind.i64, Cel.int IntKind.i64,
Cel.int IntKind.i64] true false (List.length (X4.mk x.f x.bad x.acts (x.l ++ [shOf (List.getD x.acts x.i default)]) [] [] x.i).l) (hasS (X4.mk x.f x.bad x.acts (x.l ++ [shOf (List.getD
x.acts x.i default)]) [] [] x.i).l) anyV), some (Blk.arr (11 : Nat) (List.length ((X4.mk x.f x.bad x.acts (x.l ++ [shOf (List.getD x.acts x.i default)]) [] [] x.i).l ++ (X4.mk x.f x.bad
x.acts (x.l ++ [shOf (List.getD x.acts x.i default)]) [] [] x.i).j)) (lsF Sh.c ((X4.mk x.f x.bad x.acts (x.l ++ [shOf (List.getD x.acts x.i default)]) [] [] x.i).l ++ (X4.mk x.f x.bad x.acts
(x.l ++ [shOf (List.getD x.acts x.i default)]) [] [] x.i).j))), some (Blk.row [AV.v (Value.int IntKind.i64 x.f), AV.v (Value.int IntKind.u32 x.bad), AV.hs (4 : Nat) (0 : Nat) (List.length
(X4.mk x.f x.bad x.acts (x.l ++ [shOf (List.getD x.acts x.i default)]) [] [] x.i).l)]), some (Blk.arr (11 : Nat) (List.length ((X4.mk x.f x.bad x.acts (x.l ++ [shOf (List.getD x.acts x.i
default)]) [] [] x.i).l ++ (X4.mk x.f x.bad x.acts (x.l ++ [shOf (List.getD x.acts x.i default)]) [] [] x.i).j')) (lsF Sh.c ((X4.mk x.f x.bad x.acts (x.l ++ [shOf (List.getD x.acts x.i
default)]) [] [] x.i).l ++ (X4.mk x.f x.bad x.acts (x.l ++ [shOf (List.getD x.acts x.i default)]) [] [] x.i).j')))])))))))))))))) (Tree.leaf (Out.mk (AEx.exit (0 : Nat)) [AV.v (Value.int
IntKind.i64 x.f), AV.v (Value.int IntKind.u32 x.bad), AV.sl (14 : Nat) (List.length x.acts) (lsF Ac.c x.acts), AV.ptr (0 : Nat) (0 : Nat), AV.ptr (3 : Nat) (0 : Nat), AV.v (Value.int
IntKind.i64 (↑x.i : Int)), AV.any] [some (Blk.row [AV.v (Value.int IntKind.i64 x.f), AV.v (Value.int IntKind.u32 x.bad), AV.map (1 : Nat), AV.hs (2 : Nat) (0 : Nat) (List.length x.l)]), some
(Blk.mp [Cel.int IntKind.i64, Cel.int IntKind.i64, Cel.int IntKind.i64, Cel.int IntKind.i64, Cel.int IntKind.i64, Cel.int IntKind.i64, Cel.int IntKind.i64, Cel.int IntKind.i64, Cel.int
IntKind.i64, Cel.int IntKind.i64, Cel.int IntKind.i64] true false (List.length x.l) (hasS x.l) anyV), some (Blk.arr (11 : Nat) (List.length (x.l ++ x.j)) (lsF Sh.c (x.l ++ x.j))), some
(Blk.row [AV.v (Value.int IntKind.i64 x.f), AV.v (Value.int IntKind.u32 x.bad), AV.hs (4 : Nat) (0 : Nat) (List.length x.l)]), some (Blk.arr (11 : Nat) (List.length (x.l ++ x.j')) (lsF Sh.c
(x.l ++ x.j')))])) := by kernel_rfl
theorem r4cnt (x : X4) (hb : inU32 x.bad = true) (hs : x.l.length ≤ 100000) : roundE (P := Tryd.prog) (Γ := Γs) [kSh, S.c19, S.c20, CT.at 15 (ansCounts (x := (shOf (x.acts.getD x.i default))) (f := x.f) (bad := x.bad) (l := x.l) (j := x.j) hb), CT.at 16 (ansCountsR (x := (shOf (x.acts.getD x.i default))) (f := x.f) (bad := x.bad) (l := x.l) (j := x.j') hb hs)] (L41 x) false 0 0 (lp4 0) lv41 nl41 159 (S41 x).1 (S41 x).2 =
  Tree.br (bif decide ((↑x.i : Int) < (↑(List.length x.acts) : Int)) then true else false) (Tree.chk (decide ((0 : Int) ≤ (↑x.i : Int)) && decide ((↑x.i : Int) < (↑(List.length x.acts) :
Int))) (Tree.br (decide ((List.getD x.acts x.i default).k = (0 : Int))) Tree.fail (Tree.br (decide ((List.getD x.acts x.i default).k = (1 : Int))) (Tree.chk (cl (LeL [AV.ptr (0 : Nat) (0 :
Nat), AV.agg [AV.v (Value.int IntKind.i64 (List.getD x.acts x.i default).s), AV.v (Value.int IntKind.i64 (List.getD x.acts x.i default).st.k), AV.v (Value.int IntKind.i64 (List.getD x.acts
x.i default).st.b), AV.v (Value.int IntKind.i64 (List.getD x.acts x.i default).st.v), AV.v (Value.int IntKind.i64 (List.getD x.acts x.i default).st.r), AV.v (Value.int IntKind.i64 (List.getD
x.acts x.i default).st.h), AV.v (Value.int IntKind.i64 (List.getD x.acts x.i default).st.a), AV.v (Value.int IntKind.i64 (List.getD x.acts x.i default).st.hk), AV.v (Value.int IntKind.i64
(List.getD x.acts x.i default).st.hb), AV.v (Value.int IntKind.i64 (List.getD x.acts x.i default).st.hv), AV.v (Value.int IntKind.i64 (List.getD x.acts x.i default).st.hr)]] [AV.ptr (0 :
Nat) (0 : Nat), AV.agg [AV.v (Value.int IntKind.i64 (List.getD x.acts x.i default).s), AV.v (Value.int IntKind.i64 (List.getD x.acts x.i default).st.k), AV.v (Value.int IntKind.i64
(List.getD x.acts x.i default).st.b), AV.v (Value.int IntKind.i64 (List.getD x.acts x.i default).st.v), AV.v (Value.int IntKind.i64 (List.getD x.acts x.i default).st.r), AV.v (Value.int
IntKind.i64 (List.getD x.acts x.i default).st.h), AV.v (Value.int IntKind.i64 (List.getD x.acts x.i default).st.a), AV.v (Value.int IntKind.i64 (List.getD x.acts x.i default).st.hk), AV.v
(Value.int IntKind.i64 (List.getD x.acts x.i default).st.hb), AV.v (Value.int IntKind.i64 (List.getD x.acts x.i default).st.hv), AV.v (Value.int IntKind.i64 (List.getD x.acts x.i
default).st.hr)]] ∧ LeH [some (Blk.row [AV.v (Value.int IntKind.i64 x.f), AV.v (Value.int IntKind.u32 x.bad), AV.map (1 : Nat), AV.hs (2 : Nat) (0 : Nat) (List.length x.l)]), some (Blk.mp
[Cel.int IntKind.i64, Cel.int IntKind.i64, Cel.int IntKind.i64, Cel.int IntKind.i64, Cel.int IntKind.i64, Cel.int IntKind.i64, Cel.int IntKind.i64, Cel.int IntKind.i64, Cel.int IntKind.i64,
Cel.int IntKind.i64, Cel.int IntKind.i64] true false (List.length x.l) (hasS x.l) anyV), some (Blk.arr (11 : Nat) (List.length (x.l ++ x.j)) (lsF Sh.c (x.l ++ x.j)))] [some (Blk.row [AV.v
(Value.int IntKind.i64 x.f), AV.v (Value.int IntKind.u32 x.bad), AV.map (1 : Nat), AV.hs (2 : Nat) (0 : Nat) (List.length x.l)]), some (Blk.mp [Cel.int IntKind.i64, Cel.int IntKind.i64,
Cel.int IntKind.i64, Cel.int IntKind.i64, Cel.int IntKind.i64, Cel.int IntKind.i64, Cel.int IntKind.i64, Cel.int IntKind.i64, Cel.int IntKind.i64, Cel.int IntKind.i64, Cel.int IntKind.i64]
true false (List.length x.l) (hasS x.l) anyV), some (Blk.arr (11 : Nat) (List.length (x.l ++ x.j)) (lsF Sh.c (x.l ++ x.j)))])) (Tree.chk (cl (LeL [AV.ptr (0 : Nat) (0 : Nat), AV.agg [AV.v
(Value.int IntKind.i64 (List.getD x.acts x.i default).s), AV.v (Value.int IntKind.i64 (List.getD x.acts x.i default).st.k), AV.v (Value.int IntKind.i64 (List.getD x.acts x.i default).st.b),
AV.v (Value.int IntKind.i64 (List.getD x.acts x.i default).st.v), AV.v (Value.int IntKind.i64 (List.getD x.acts x.i default).st.r), AV.v (Value.int IntKind.i64 (List.getD x.acts x.i
default).st.h), AV.v (Value.int IntKind.i64 (List.getD x.acts x.i default).st.a), AV.v (Value.int IntKind.i64 (List.getD x.acts x.i default).st.hk), AV.v (Value.int IntKind.i64 (List.getD
x.acts x.i default).st.hb), AV.v (Value.int IntKind.i64 (List.getD x.acts x.i default).st.hv), AV.v (Value.int IntKind.i64 (List.getD x.acts x.i default).st.hr)]] [AV.ptr (0 : Nat) (0 :
Nat), AV.agg [AV.v (Value.int IntKind.i64 (List.getD x.acts x.i default).s), AV.v (Value.int IntKind.i64 (List.getD x.acts x.i default).st.k), AV.v (Value.int IntKind.i64 (List.getD x.acts
x.i default).st.b), AV.v (Value.int IntKind.i64 (List.getD x.acts x.i default).st.v), AV.v (Value.int IntKind.i64 (List.getD x.acts x.i default).st.r), AV.v (Value.int IntKind.i64 (List.getD
x.acts x.i default).st.h), AV.v (Value.int IntKind.i64 (List.getD x.acts x.i default).st.a), AV.v (Value.int IntKind.i64 (List.getD x.acts x.i default).st.hk), AV.v (Value.int IntKind.i64
(List.getD x.acts x.i default).st.hb), AV.v (Value.int IntKind.i64 (List.getD x.acts x.i default).st.hv), AV.v (Value.int IntKind.i64 (List.getD x.acts x.i default).st.hr)]] ∧ LeH [some
(Blk.row [AV.v (Value.int IntKind.i64 x.f), AV.v (Value.int IntKind.u32 x.bad), AV.hs (1 : Nat) (0 : Nat) (List.length x.l)]), some (Blk.arr (11 : Nat) (List.length (x.l ++ x.j')) (lsF Sh.c
(x.l ++ x.j')))] [some (Blk.row [AV.v (Value.int IntKind.i64 x.f), AV.v (Value.int IntKind.u32 x.bad), AV.hs (1 : Nat) (0 : Nat) (List.length x.l)]), some (Blk.arr (11 : Nat) (List.length
(x.l ++ x.j')) (lsF Sh.c (x.l ++ x.j')))])) (Tree.chk true (Tree.chk (cl (List.length x.l ≤ (1000000000 : Nat) ∧ ∃ l junk, List.length x.l = List.length l ∧ List.length (x.l ++ x.j) =
List.length (l ++ junk) ∧ ∀ (e : Nat), lsF Sh.c (x.l ++ x.j) e = Sh.c (List.getD (l ++ junk) e default))) (Tree.br (!decide (cntE x.f x.bad x.l (shOf (List.getD x.acts x.i default)) = cntE
x.f x.bad x.l (shOf (List.getD x.acts x.i default)))) (Tree.leaf (Out.mk AEx.ret [AV.v (Value.int IntKind.i64 x.f), AV.v (Value.int IntKind.u32 x.bad), AV.sl (14 : Nat) (List.length x.acts)
(lsF Ac.c x.acts), AV.ptr (0 : Nat) (0 : Nat), AV.ptr (3 : Nat) (0 : Nat), AV.v (Value.int IntKind.i64 (↑x.i : Int)), AV.v (Value.bool false)] [some (Blk.row [AV.v (Value.int IntKind.i64
x.f), AV.v (Value.int IntKind.u32 x.bad), AV.map (1 : Nat), AV.hs (2 : Nat) (0 : Nat) (List.length x.l)]), some (Blk.mp [Cel.int IntKind.i64, Cel.int IntKind.i64, Cel.int IntKind.i64,
Cel.int IntKind.i64, Cel.int IntKind.i64, Cel.int IntKind.i64, Cel.int IntKind.i64, Cel.int IntKind.i64, Cel.int IntKind.i64, Cel.int IntKind.i64, Cel.int IntKind.i64] true false
(List.length x.l) (hasS x.l) anyV), some (Blk.arr (11 : Nat) (List.length (x.l ++ x.j)) (lsF Sh.c (x.l ++ x.j))), some (Blk.row [AV.v (Value.int IntKind.i64 x.f), AV.v (Value.int IntKind.u32
x.bad), AV.hs (4 : Nat) (0 : Nat) (List.length x.l)]), some (Blk.arr (11 : Nat) (List.length (x.l ++ x.j')) (lsF Sh.c (x.l ++ x.j')))])) (Tree.br (!decide ((↑(List.length x.l) : Int) =
(↑(List.length x.l) : Int))) (Tree.leaf (Out.mk AEx.ret [AV.v (Value.int IntKind.i64 x.f), AV.v (Value.int IntKind.u32 x.bad), AV.sl (14 : Nat) (List.length x.acts) (lsF Ac.c x.acts), AV.ptr
(0 : Nat) (0 : Nat), AV.ptr (3 : Nat) (0 : Nat), AV.v (Value.int IntKind.i64 (↑x.i : Int)), AV.v (Value.bool false)] [some (Blk.row [AV.v (Value.int IntKind.i64 x.f), AV.v (Value.int
IntKind.u32 x.bad), AV.map (1 : Nat), AV.hs (2 : Nat) (0 : Nat) (List.length x.l)]), some (Blk.mp [Cel.int IntKind.i64, Cel.int IntKind.i64, Cel.int IntKind.i64, Cel.int IntKind.i64, Cel.int
IntKind.i64, Cel.int IntKind.i64, Cel.int IntKind.i64, Cel.int IntKind.i64, Cel.int IntKind.i64, Cel.int IntKind.i64, Cel.int IntKind.i64] true false (List.length x.l) (hasS x.l) anyV), some
(Blk.arr (11 : Nat) (List.length (x.l ++ x.j)) (lsF Sh.c (x.l ++ x.j))), some (Blk.row [AV.v (Value.int IntKind.i64 x.f), AV.v (Value.int IntKind.u32 x.bad), AV.hs (4 : Nat) (0 : Nat)
(List.length x.l)]), some (Blk.arr (11 : Nat) (List.length (x.l ++ x.j')) (lsF Sh.c (x.l ++ x.j')))])) (Tree.br (!decide (x.f = x.f)) (Tree.leaf (Out.mk AEx.ret [AV.v (Value.int IntKind.i64
x.f), AV.v (Value.int IntKind.u32 x.bad), AV.sl (14 : Nat) (List.length x.acts) (lsF Ac.c x.acts), AV.ptr (0 : Nat) (0 : Nat), AV.ptr (3 : Nat) (0 : Nat), AV.v (Value.int IntKind.i64 (↑x.i :
Int)), AV.v (Value.bool false)] [some (Blk.row [AV.v (Value.int IntKind.i64 x.f), AV.v (Value.int IntKind.u32 x.bad), AV.map (1 : Nat), AV.hs (2 : Nat) (0 : Nat) (List.length x.l)]), some
(Blk.mp [Cel.int IntKind.i64, Cel.int IntKind.i64, Cel.int IntKind.i64, Cel.int IntKind.i64, Cel.int IntKind.i64, Cel.int IntKind.i64, Cel.int IntKind.i64, Cel.int IntKind.i64, Cel.int
IntKind.i64, Cel.int IntKind.i64, Cel.int IntKind.i64] true false (List.length x.l) (hasS x.l) anyV), some (Blk.arr (11 : Nat) (List.length (x.l ++ x.j)) (lsF Sh.c (x.l ++ x.j))), some
(Blk.row [AV.v (Value.int IntKind.i64 x.f), AV.v (Value.int IntKind.u32 x.bad), AV.hs (4 : Nat) (0 : Nat) (List.length x.l)]), some (Blk.arr (11 : Nat) (List.length (x.l ++ x.j')) (lsF Sh.c
(x.l ++ x.j')))])) (Tree.br (!decide (x.bad = x.bad)) (Tree.leaf (Out.mk AEx.ret [AV.v (Value.int IntKind.i64 x.f), AV.v (Value.int IntKind.u32 x.bad), AV.sl (14 : Nat) (List.length x.acts)
(lsF Ac.c x.acts), AV.ptr (0 : Nat) (0 : Nat), AV.ptr (3 : Nat) (0 : Nat), AV.v (Value.int IntKind.i64 (↑x.i : Int)), AV.v (Value.bool false)] [some (Blk.row [AV.v (Value.int IntKind.i64
x.f), AV.v (Value.int IntKind.u32 x.bad), AV.map (1 : Nat), AV.hs (2 : Nat) (0 : Nat) (List.length x.l)]), some (Blk.mp [Cel.int IntKind.i64, Cel.int IntKind.i64, Cel.int IntKind.i64,
Cel.int IntKind.i64, Cel.int IntKind.i64, Cel.int IntKind.i64, Cel.int IntKind.i64, Cel.int IntKind.i64, Cel.int IntKind.i64, Cel.int IntKind.i64, Cel.int IntKind.i64] true false
(List.length x.l) (hasS x.l) anyV), some (Blk.arr (11 : Nat) (List.length (x.l ++ x.j)) (lsF Sh.c (x.l ++ x.j))), some (Blk.row [AV.v (Value.int IntKind.i64 x.f), AV.v (Value.int IntKind.u32
x.bad), AV.hs (4 : Nat) (0 : Nat) (List.length x.l)]), some (Blk.arr (11 : Nat) (List.length (x.l ++ x.j')) (lsF Sh.c (x.l ++ x.j')))])) (Tree.chk (cl (LeL [AV.v (Value.int IntKind.i64 x.f),
AV.v (Value.int IntKind.u32 x.bad), AV.sl (14 : Nat) (List.length x.acts) (lsF Ac.c x.acts), AV.ptr (0 : Nat) (0 : Nat), AV.ptr (3 : Nat) (0 : Nat), AV.v (Value.int IntKind.i64 (↑x.i :
Int)), AV.hs (5 : Nat) (0 : Nat) (List.length x.l), AV.v (Value.int IntKind.i64 (0 : Int)), AV.any] [AV.v (Value.int IntKind.i64 x.f), AV.v (Value.int IntKind.u32 x.bad), AV.sl (14 : Nat)
(List.length x.acts) (lsF Ac.c x.acts), AV.ptr (0 : Nat) (0 : Nat), AV.ptr (3 : Nat) (0 : Nat), AV.v (Value.int IntKind.i64 (↑x.i : Int)), AV.hs (5 : Nat) (0 : Nat) (List.length x.l), AV.v
(Value.int IntKind.i64 (↑(0 : Nat) : Int)), AV.any] ∧ LeH [some (Blk.row [AV.v (Value.int IntKind.i64 x.f), AV.v (Value.int IntKind.u32 x.bad), AV.map (1 : Nat), AV.hs (2 : Nat) (0 : Nat)
(List.length x.l)]), some (Blk.mp [Cel.int IntKind.i64, Cel.int IntKind.i64, Cel.int IntKind.i64, Cel.int IntKind.i64, Cel.int IntKind.i64, Cel.int IntKind.i64, Cel.int IntKind.i64, Cel.int
IntKind.i64, Cel.int IntKind.i64, Cel.int IntKind.i64, Cel.int IntKind.i64] true false (List.length x.l) (hasS x.l) anyV), some (Blk.arr (11 : Nat) (List.length (x.l ++ x.j)) (lsF Sh.c (x.l
++ x.j))), some (Blk.row [AV.v (Value.int IntKind.i64 x.f), AV.v (Value.int IntKind.u32 x.bad), AV.hs (4 : Nat) (0 : Nat) (List.length x.l)]), some (Blk.arr (11 : Nat) (List.length (x.l ++
x.j')) (lsF Sh.c (x.l ++ x.j'))), some (Blk.arr (11 : Nat) (List.length x.l) (lsF Sh.c (x.l ++ x.j)))] [some (Blk.row [AV.v (Value.int IntKind.i64 x.f), AV.v (Value.int IntKind.u32 x.bad),
AV.map (1 : Nat), AV.hs (2 : Nat) (0 : Nat) (List.length x.l)]), some (Blk.mp [Cel.int IntKind.i64, Cel.int IntKind.i64, Cel.int IntKind.i64, Cel.int IntKind.i64, Cel.int IntKind.i64,
Cel.int IntKind.i64, Cel.int IntKind.i64, Cel.int IntKind.i64, Cel.int IntKind.i64, Cel.int IntKind.i64, Cel.int IntKind.i64] true false (List.length x.l) (hasS x.l) anyV), some (Blk.arr (11
: Nat) (List.length (x.l ++ x.j)) (lsF Sh.c (x.l ++ x.j))), some (Blk.row [AV.v (Value.int IntKind.i64 x.f), AV.v (Value.int IntKind.u32 x.bad), AV.hs (4 : Nat) (0 : Nat) (List.length
x.l)]), some (Blk.arr (11 : Nat) (List.length (x.l ++ x.j')) (lsF Sh.c (x.l ++ x.j'))), some (Blk.arr (11 : Nat) (List.length x.l) (lsF Sh.c (x.l ++ x.j)))])) (Tree.leaf (Out.mk AEx.normal
[AV.v (Value.int IntKind.i64 x.f), AV.v (Value.int IntKind.u32 x.bad), AV.sl (14 : Nat) (List.length x.acts) (lsF Ac.c x.acts), AV.ptr (0 : Nat) (0 : Nat), AV.ptr (3 : Nat) (0 : Nat), AV.v
(Value.int IntKind.i64 (IntKind.wrap IntKind.i64 ((↑x.i : Int) + (1 : Int)))), AV.any] [some (Blk.row [AV.v (Value.int IntKind.i64 x.f), AV.v (Value.int IntKind.u32 x.bad), AV.map (1 : Nat),
AV.hs (2 : Nat) (0 : Nat) (List.length x.l)]), some (Blk.mp [Cel.int IntKind.i64, Cel.int IntKind.i64, Cel.int IntKind.i64, Cel.int IntKind.i64, Cel.int IntKind.i64, Cel.int IntKind.i64,
Cel.int IntKind.i64, Cel.int IntKind.i64, Cel.int IntKind.i64, Cel.int IntKind.i64, Cel.int IntKind.i64] true false (List.length x.l) (hasS x.l) anyV), some (Blk.arr (11 : Nat) (List.length
(x.l ++ x.j)) (lsF Sh.c (x.l ++ x.j))), some (Blk.row [AV.v (Value.int IntKind.i64 x.f), AV.v (Value.int IntKind.u32 x.bad), AV.hs (4 : Nat) (0 : Nat) (List.length x.l)]), some (Blk.arr (11
: Nat) (List.length (x.l ++ x.j')) (lsF Sh.c (x.l ++ x.j')))]))))))))))) (Tree.br (decide ((List.getD x.acts x.i default).k = (2 : Int))) Tree.fail (Tree.br (decide ((List.getD x.acts x.i
default).k = (3 : Int))) Tree.fail (Tree.chk true (Tree.chk (cl (List.length x.l ≤ (1000000000 : Nat) ∧ ∃ l junk, List.length x.l = List.length l ∧ List.length (x.l ++ x.j) = List.length (l
++ junk) ∧ ∀ (e : Nat), lsF Sh.c (x.l ++ x.j) e = Sh.c (List.getD (l ++ junk) e default))) (Tree.br false (Tree.leaf (Out.mk AEx.ret [AV.v (Value.int IntKind.i64 x.f), AV.v (Value.int
IntKind.u32 x.bad), AV.sl (14 : Nat) (List.length x.acts) (lsF Ac.c x.acts), AV.ptr (0 : Nat) (0 : Nat), AV.ptr (3 : Nat) (0 : Nat), AV.v (Value.int IntKind.i64 (↑x.i : Int)), AV.v
(Value.bool false)] [some (Blk.row [AV.v (Value.int IntKind.i64 x.f), AV.v (Value.int IntKind.u32 x.bad), AV.map (1 : Nat), AV.hs (2 : Nat) (0 : Nat) (List.length x.l)]), some (Blk.mp
[Cel.int IntKind.i64, Cel.int IntKind.i64, Cel.int IntKind.i64, Cel.int IntKind.i64, Cel.int IntKind.i64, Cel.int IntKind.i64, Cel.int IntKind.i64, Cel.int IntKind.i64, Cel.int IntKind.i64,
Cel.int IntKind.i64, Cel.int IntKind.i64] true false (List.length x.l) (hasS x.l) anyV), some (Blk.arr (11 : Nat) (List.length (x.l ++ x.j)) (lsF Sh.c (x.l ++ x.j))), some (Blk.row [AV.v
(Value.int IntKind.i64 x.f), AV.v (Value.int IntKind.u32 x.bad), AV.hs (4 : Nat) (0 : Nat) (List.length x.l)]), some (Blk.arr (11 : Nat) (List.length (x.l ++ x.j')) (lsF Sh.c (x.l ++
x.j')))])) (Tree.br (!decide ((↑(List.length x.l) : Int) = (↑(List.length x.l) : Int))) (Tree.leaf (Out.mk AEx.ret [AV.v (Value.int IntKind.i64 x.f), AV.v (Value.int IntKind.u32 x.bad),
AV.sl (14 : Nat) (List.length x.acts) (lsF Ac.c x.acts), AV.ptr (0 : Nat) (0 : Nat), AV.ptr (3 : Nat) (0 : Nat), AV.v (Value.int IntKind.i64 (↑x.i : Int)), AV.v (Value.bool false)] [some
(Blk.row [AV.v (Value.int IntKind.i64 x.f), AV.v (Value.int IntKind.u32 x.bad), AV.map (1 : Nat), AV.hs (2 : Nat) (0 : Nat) (List.length x.l)]), some (Blk.mp [Cel.int IntKind.i64, Cel.int
IntKind.i64, Cel.int IntKind.i64, Cel.int IntKind.i64, Cel.int IntKind.i64, Cel.int IntKind.i64, Cel.int IntKind.i64, Cel.int IntKind.i64, Cel.int IntKind.i64, Cel.int IntKind.i64, Cel.int
IntKind.i64] true false (List.length x.l) (hasS x.l) anyV), some (Blk.arr (11 : Nat) (List.length (x.l ++ x.j)) (lsF Sh.c (x.l ++ x.j))), some (Blk.row [AV.v (Value.int IntKind.i64 x.f),
AV.v (Value.int IntKind.u32 x.bad), AV.hs (4 : Nat) (0 : Nat) (List.length x.l)]), some (Blk.arr (11 : Nat) (List.length (x.l ++ x.j')) (lsF Sh.c (x.l ++ x.j')))])) (Tree.br (!decide (x.f =
x.f)) (Tree.leaf (Out.mk AEx.ret [AV.v (Value.int IntKind.i64 x.f), AV.v (Value.int IntKind.u32 x.bad), AV.sl (14 : Nat) (List.length x.acts) (lsF Ac.c x.acts), AV.ptr (0 : Nat) (0 : Nat),
AV.ptr (3 : Nat) (0 : Nat), AV.v (Value.int IntKind.i64 (↑x.i : Int)), AV.v (Value.bool false)] [some (Blk.row [AV.v (Value.int IntKind.i64 x.f), AV.v (Value.int IntKind.u32 x.bad), AV.map
(1 : Nat), AV.hs (2 : Nat) (0 : Nat) (List.length x.l)]), some (Blk.mp [Cel.int IntKind.i64, Cel.int IntKind.i64, Cel.int IntKind.i64, Cel.int IntKind.i64, Cel.int IntKind.i64, Cel.int
IntKind.i64, Cel.int IntKind.i64, Cel.int IntKind.i64, Cel.int IntKind.i64, Cel.int IntKind.i64, Cel.int IntKind.i64] true false (List.length x.l) (hasS x.l) anyV), some (Blk.arr (11 : Nat)
(List.length (x.l ++ x.j)) (lsF Sh.c (x.l ++ x.j))), some (Blk.row [AV.v (Value.int IntKind.i64 x.f), AV.v (Value.int IntKind.u32 x.bad), AV.hs (4 : Nat) (0 : Nat) (List.length x.l)]), some
(Blk.arr (11 : Nat) (List.length (x.l ++ x.j')) (lsF Sh.c (x.l ++ x.j')))])) (Tree.br (!decide (x.bad = x.bad)) (Tree.leaf (Out.mk AEx.ret [AV.v (Value.int IntKind.i64 x.f), AV.v (Value.int
IntKind.u32 x.bad), AV.sl (14 : Nat) (List.length x.acts) (lsF Ac.c x.acts), AV.ptr (0 : Nat) (0 : Nat), AV.ptr (3 : Nat) (0 : Nat), AV.v (Value.int IntKind.i64 (↑x.i : Int)), AV.v
(Value.bool false)] [some (Blk.row [AV.v (Value.int IntKind.i64 x.f), AV.v (Value.int IntKind.u32 x.bad), AV.map (1 : Nat), AV.hs (2 : Nat) (0 : Nat) (List.length x.l)]), some (Blk.mp
[Cel.int IntKind.i64, Cel.int IntKind.i64, Cel.int IntKind.i64, Cel.int IntKind.i64, Cel.int IntKind.i64, Cel.int IntKind.i64, Cel.int IntKind.i64, Cel.int IntKind.i64, Cel.int IntKind.i64,
Cel.int IntKind.i64, Cel.int IntKind.i64] true false (List.length x.l) (hasS x.l) anyV), some (Blk.arr (11 : Nat) (List.length (x.l ++ x.j)) (lsF Sh.c (x.l ++ x.j))), some (Blk.row [AV.v
(Value.int IntKind.i64 x.f), AV.v (Value.int IntKind.u32 x.bad), AV.hs (4 : Nat) (0 : Nat) (List.length x.l)]), some (Blk.arr (11 : Nat) (List.length (x.l ++ x.j')) (lsF Sh.c (x.l ++
x.j')))])) (Tree.chk (cl (LeL [AV.v (Value.int IntKind.i64 x.f), AV.v (Value.int IntKind.u32 x.bad), AV.sl (14 : Nat) (List.length x.acts) (lsF Ac.c x.acts), AV.ptr (0 : Nat) (0 : Nat),
AV.ptr (3 : Nat) (0 : Nat), AV.v (Value.int IntKind.i64 (↑x.i : Int)), AV.hs (5 : Nat) (0 : Nat) (List.length x.l), AV.v (Value.int IntKind.i64 (0 : Int)), AV.any] [AV.v (Value.int
IntKind.i64 x.f), AV.v (Value.int IntKind.u32 x.bad), AV.sl (14 : Nat) (List.length x.acts) (lsF Ac.c x.acts), AV.ptr (0 : Nat) (0 : Nat), AV.ptr (3 : Nat) (0 : Nat), AV.v (Value.int
IntKind.i64 (↑x.i : Int)), AV.hs (5 : Nat) (0 : Nat) (List.length x.l), AV.v (Value.int IntKind.i64 (↑(0 : Nat) : Int)), AV.any] ∧ LeH [some (Blk.row [AV.v (Value.int IntKind.i64 x.f), AV.v
(Value.int IntKind.u32 x.bad), AV.map (1 : Nat), AV.hs (2 : Nat) (0 : Nat) (List.length x.l)]), some (Blk.mp [Cel.int IntKind.i64, Cel.int IntKind.i64, Cel.int IntKind.i64, Cel.int
IntKind.i64, Cel.int IntKind.i64, Cel.int IntKind.i64, Cel.int IntKind.i64, Cel.int IntKind.i64, Cel.int IntKind.i64, Cel.int IntKind.i64, Cel.int IntKind.i64] true false (List.length x.l)
(hasS x.l) anyV), some (Blk.arr (11 : Nat) (List.length (x.l ++ x.j)) (lsF Sh.c (x.l ++ x.j))), some (Blk.row [AV.v (Value.int IntKind.i64 x.f), AV.v (Value.int IntKind.u32 x.bad), AV.hs (4
: Nat) (0 : Nat) (List.length x.l)]), some (Blk.arr (11 : Nat) (List.length (x.l ++ x.j')) (lsF Sh.c (x.l ++ x.j'))), some (Blk.arr (11 : Nat) (List.length x.l) (lsF Sh.c (x.l ++ x.j)))]
[some (Blk.row [AV.v (Value.int IntKind.i64 x.f), AV.v (Value.int IntKind.u32 x.bad), AV.map (1 : Nat), AV.hs (2 : Nat) (0 : Nat) (List.length x.l)]), some (Blk.mp [Cel.int IntKind.i64,
Cel.int IntKind.i64, Cel.int IntKind.i64, Cel.int IntKind.i64, Cel.int IntKind.i64, Cel.int IntKind.i64, Cel.int IntKind.i64, Cel.int IntKind.i64, Cel.int IntKind.i64, Cel.int IntKind.i64,
Cel.int IntKind.i64] true false (List.length x.l) (hasS x.l) anyV), some (Blk.arr (11 : Nat) (List.length (x.l ++ x.j)) (lsF Sh.c (x.l ++ x.j))), some (Blk.row [AV.v (Value.int IntKind.i64
x.f), AV.v (Value.int IntKind.u32 x.bad), AV.hs (4 : Nat) (0 : Nat) (List.length x.l)]), some (Blk.arr (11 : Nat) (List.length (x.l ++ x.j')) (lsF Sh.c (x.l ++ x.j'))), some (Blk.arr (11 :
Nat) (List.length x.l) (lsF Sh.c (x.l ++ x.j)))])) (Tree.leaf (Out.mk AEx.normal [AV.v (Value.int IntKind.i64 x.f), AV.v (Value.int IntKind.u32 x.bad), AV.sl (14 : Nat) (List.length x.acts)
(lsF Ac.c x.acts), AV.ptr (0 : Nat) (0 : Nat), AV.ptr (3 : Nat) (0 : Nat), AV.v (Value.int IntKind.i64 (IntKind.wrap IntKind.i64 ((↑x.i : Int) + (1 : Int)))), AV.any] [some (Blk.row [AV.v
(Value.int IntKind.i64 x.f), AV.v (Value.int IntKind.u32 x.bad), AV.map (1 : Nat), AV.hs (2 : Nat) (0 : Nat) (List.length x.l)]), some (Blk.mp [Cel.int IntKind.i64, Cel.int IntKind.i64,
Cel.int IntKind.i64, Cel.int IntKind.i64, Cel.int IntKind.i64, Cel.int IntKind.i64, Cel.int IntKind.i64, Cel.int IntKind.i64, Cel.int IntKind.i64, Cel.int IntKind.i64, Cel.int IntKind.i64]
true false (List.length x.l) (hasS x.l) anyV), some (Blk.arr (11 : Nat) (List.length (x.l ++ x.j)) (lsF Sh.c (x.l ++ x.j))), some (Blk.row [AV.v (Value.int IntKind.i64 x.f), AV.v (Value.int
IntKind.u32 x.bad), AV.hs (4 : Nat) (0 : Nat) (List.length x.l)]), some (Blk.arr (11 : Nat) (List.length (x.l ++ x.j')) (lsF Sh.c (x.l ++ x.j')))])))))))))))))) (Tree.leaf (Out.mk (AEx.exit
(0 : Nat)) [AV.v (Value.int IntKind.i64 x.f), AV.v (Value.int IntKind.u32 x.bad), AV.sl (14 : Nat) (List.length x.acts) (lsF Ac.c x.acts), AV.ptr (0 : Nat) (0 : Nat), AV.ptr (3 : Nat) (0 :
Nat), AV.v (Value.int IntKind.i64 (↑x.i : Int)), AV.any] [some (Blk.row [AV.v (Value.int IntKind.i64 x.f), AV.v (Value.int IntKind.u32 x.bad), AV.map (1 : Nat), AV.hs (2 : Nat) (0 : Nat)
(List.length x.l)]), some (Blk.mp [Cel.int IntKind.i64, Cel.int IntKind.i64, Cel.int IntKind.i64, Cel.int IntKind.i64, Cel.int IntKind.i64, Cel.int IntKind.i64, Cel.int IntKind.i64, Cel.int
IntKind.i64, Cel.int IntKind.i64, Cel.int IntKind.i64, Cel.int IntKind.i64] true false (List.length x.l) (hasS x.l) anyV), some (Blk.arr (11 : Nat) (List.length (x.l ++ x.j)) (lsF Sh.c (x.l
++ x.j))), some (Blk.row [AV.v (Value.int IntKind.i64 x.f), AV.v (Value.int IntKind.u32 x.bad), AV.hs (4 : Nat) (0 : Nat) (List.length x.l)]), some (Blk.arr (11 : Nat) (List.length (x.l ++
x.j')) (lsF Sh.c (x.l ++ x.j')))])) := by kernel_rfl
theorem r4all (x : X4) (e : Int) (hu : inU32 (x.acts.getD x.i default).set = true) (hb : inU32 x.bad = true) (hs : x.l.length ≤ 100000) (h : EnE (x.acts.getD x.i default).set 0 (x.acts.getD x.i default).st x.f x.bad x.l e) : roundE (P := Tryd.prog) (Γ := Γs) [kSh, S.c19, S.c20, CT.at 8 (ansAll (j := x.j) hu hb h), CT.at 17 (ansEnoughR (j := x.j') hu hb hs h)] (L41 x) false 0 0 (lp4 0) lv41 nl41 159 (S41 x).1 (S41 x).2 =
  Tree.br (bif decide ((↑x.i : Int) < (↑(List.length x.acts) : Int)) then true else false) (Tree.chk (decide ((0 : Int) ≤ (↑x.i : Int)) && decide ((↑x.i : Int) < (↑(List.length x.acts) :
Int))) (Tree.br (decide ((List.getD x.acts x.i default).k = (0 : Int))) Tree.fail (Tree.br (decide ((List.getD x.acts x.i default).k = (1 : Int))) Tree.fail (Tree.br (decide ((List.getD
x.acts x.i default).k = (2 : Int))) (Tree.chk (cl (LeL [AV.ptr (0 : Nat) (0 : Nat), AV.agg [AV.v (Value.int IntKind.i64 (List.getD x.acts x.i default).st.k), AV.v (Value.int IntKind.i64
(List.getD x.acts x.i default).st.b), AV.v (Value.int IntKind.i64 (List.getD x.acts x.i default).st.v), AV.v (Value.int IntKind.i64 (List.getD x.acts x.i default).st.r), AV.v (Value.int
IntKind.i64 (List.getD x.acts x.i default).st.h), AV.v (Value.int IntKind.i64 (List.getD x.acts x.i default).st.a), AV.v (Value.int IntKind.i64 (List.getD x.acts x.i default).st.hk), AV.v
(Value.int IntKind.i64 (List.getD x.acts x.i default).st.hb), AV.v (Value.int IntKind.i64 (List.getD x.acts x.i default).st.hv), AV.v (Value.int IntKind.i64 (List.getD x.acts x.i
default).st.hr)], AV.v (Value.int IntKind.u32 (List.getD x.acts x.i default).set)] [AV.ptr (0 : Nat) (0 : Nat), AV.agg [AV.v (Value.int IntKind.i64 (List.getD x.acts x.i default).st.k), AV.v
(Value.int IntKind.i64 (List.getD x.acts x.i default).st.b), AV.v (Value.int IntKind.i64 (List.getD x.acts x.i default).st.v), AV.v (Value.int IntKind.i64 (List.getD x.acts x.i
default).st.r), AV.v (Value.int IntKind.i64 (List.getD x.acts x.i default).st.h), AV.v (Value.int IntKind.i64 (List.getD x.acts x.i default).st.a), AV.v (Value.int IntKind.i64 (List.getD
x.acts x.i default).st.hk), AV.v (Value.int IntKind.i64 (List.getD x.acts x.i default).st.hb), AV.v (Value.int IntKind.i64 (List.getD x.acts x.i default).st.hv), AV.v (Value.int IntKind.i64
(List.getD x.acts x.i default).st.hr)], AV.v (Value.int IntKind.u32 (List.getD x.acts x.i default).set)] ∧ LeH [some (Blk.row [AV.v (Value.int IntKind.i64 x.f), AV.v (Value.int IntKind.u32
x.bad), AV.map (1 : Nat), AV.hs (2 : Nat) (0 : Nat) (List.length x.l)]), some (Blk.mp [Cel.int IntKind.i64, Cel.int IntKind.i64, Cel.int IntKind.i64, Cel.int IntKind.i64, Cel.int
IntKind.i64, Cel.int IntKind.i64, Cel.int IntKind.i64, Cel.int IntKind.i64, Cel.int IntKind.i64, Cel.int IntKind.i64, Cel.int IntKind.i64] true false (List.length x.l) (hasS x.l) anyV), some
(Blk.arr (11 : Nat) (List.length (x.l ++ x.j)) (lsF Sh.c (x.l ++ x.j)))] [some (Blk.row [AV.v (Value.int IntKind.i64 x.f), AV.v (Value.int IntKind.u32 x.bad), AV.map (1 : Nat), AV.hs (2 :
Nat) (0 : Nat) (List.length x.l)]), some (Blk.mp [Cel.int IntKind.i64, Cel.int IntKind.i64, Cel.int IntKind.i64, Cel.int IntKind.i64, Cel.int IntKind.i64, Cel.int IntKind.i64, Cel.int
IntKind.i64, Cel.int IntKind.i64, Cel.int IntKind.i64, Cel.int IntKind.i64, Cel.int IntKind.i64] true false (List.length x.l) (hasS x.l) anyV), some (Blk.arr (11 : Nat) (List.length (x.l ++
x.j)) (lsF Sh.c (x.l ++ x.j)))])) (Tree.chk (cl (LeL [AV.ptr (0 : Nat) (0 : Nat), AV.agg [AV.v (Value.int IntKind.i64 (List.getD x.acts x.i default).st.k), AV.v (Value.int IntKind.i64
(List.getD x.acts x.i default).st.b), AV.v (Value.int IntKind.i64 (List.getD x.acts x.i default).st.v), AV.v (Value.int IntKind.i64 (List.getD x.acts x.i default).st.r), AV.v (Value.int
IntKind.i64 (List.getD x.acts x.i default).st.h), AV.v (Value.int IntKind.i64 (List.getD x.acts x.i default).st.a), AV.v (Value.int IntKind.i64 (List.getD x.acts x.i default).st.hk), AV.v
(Value.int IntKind.i64 (List.getD x.acts x.i default).st.hb), AV.v (Value.int IntKind.i64 (List.getD x.acts x.i default).st.hv), AV.v (Value.int IntKind.i64 (List.getD x.acts x.i
default).st.hr)], AV.v (Value.int IntKind.u32 (List.getD x.acts x.i default).set), AV.v (Value.int IntKind.i64 (0 : Int))] [AV.ptr (0 : Nat) (0 : Nat), AV.agg [AV.v (Value.int IntKind.i64
(List.getD x.acts x.i default).st.k), AV.v (Value.int IntKind.i64 (List.getD x.acts x.i default).st.b), AV.v (Value.int IntKind.i64 (List.getD x.acts x.i default).st.v), AV.v (Value.int
IntKind.i64 (List.getD x.acts x.i default).st.r), AV.v (Value.int IntKind.i64 (List.getD x.acts x.i default).st.h), AV.v (Value.int IntKind.i64 (List.getD x.acts x.i default).st.a), AV.v
(Value.int IntKind.i64 (List.getD x.acts x.i default).st.hk), AV.v (Value.int IntKind.i64 (List.getD x.acts x.i default).st.hb), AV.v (Value.int IntKind.i64 (List.getD x.acts x.i
default).st.hv), AV.v (Value.int IntKind.i64 (List.getD x.acts x.i default).st.hr)], AV.v (Value.int IntKind.u32 (List.getD x.acts x.i default).set), AV.v (Value.int IntKind.i64 (0 : Int))]
∧ LeH [some (Blk.row [AV.v (Value.int IntKind.i64 x.f), AV.v (Value.int IntKind.u32 x.bad), AV.hs (1 : Nat) (0 : Nat) (List.length x.l)]), some (Blk.arr (11 : Nat) (List.length (x.l ++
x.j')) (lsF Sh.c (x.l ++ x.j')))] [some (Blk.row [AV.v (Value.int IntKind.i64 x.f), AV.v (Value.int IntKind.u32 x.bad), AV.hs (1 : Nat) (0 : Nat) (List.length x.l)]), some (Blk.arr (11 :
Nat) (List.length (x.l ++ x.j')) (lsF Sh.c (x.l ++ x.j')))])) (Tree.chk true (Tree.chk (cl (List.length x.l ≤ (1000000000 : Nat) ∧ ∃ l junk, List.length x.l = List.length l ∧ List.length
(x.l ++ x.j) = List.length (l ++ junk) ∧ ∀ (e : Nat), lsF Sh.c (x.l ++ x.j) e = Sh.c (List.getD (l ++ junk) e default))) (Tree.br (!decide (e = e)) (Tree.leaf (Out.mk AEx.ret [AV.v
(Value.int IntKind.i64 x.f), AV.v (Value.int IntKind.u32 x.bad), AV.sl (14 : Nat) (List.length x.acts) (lsF Ac.c x.acts), AV.ptr (0 : Nat) (0 : Nat), AV.ptr (3 : Nat) (0 : Nat), AV.v
(Value.int IntKind.i64 (↑x.i : Int)), AV.v (Value.bool false)] [some (Blk.row [AV.v (Value.int IntKind.i64 x.f), AV.v (Value.int IntKind.u32 x.bad), AV.map (1 : Nat), AV.hs (2 : Nat) (0 :
Nat) (List.length x.l)]), some (Blk.mp [Cel.int IntKind.i64, Cel.int IntKind.i64, Cel.int IntKind.i64, Cel.int IntKind.i64, Cel.int IntKind.i64, Cel.int IntKind.i64, Cel.int IntKind.i64,
Cel.int IntKind.i64, Cel.int IntKind.i64, Cel.int IntKind.i64, Cel.int IntKind.i64] true false (List.length x.l) (hasS x.l) anyV), some (Blk.arr (11 : Nat) (List.length (x.l ++ x.j)) (lsF
Sh.c (x.l ++ x.j))), some (Blk.row [AV.v (Value.int IntKind.i64 x.f), AV.v (Value.int IntKind.u32 x.bad), AV.hs (4 : Nat) (0 : Nat) (List.length x.l)]), some (Blk.arr (11 : Nat) (List.length
(x.l ++ x.j')) (lsF Sh.c (x.l ++ x.j')))])) (Tree.br (!decide ((↑(List.length x.l) : Int) = (↑(List.length x.l) : Int))) (Tree.leaf (Out.mk AEx.ret [AV.v (Value.int IntKind.i64 x.f), AV.v
(Value.int IntKind.u32 x.bad), AV.sl (14 : Nat) (List.length x.acts) (lsF Ac.c x.acts), AV.ptr (0 : Nat) (0 : Nat), AV.ptr (3 : Nat) (0 : Nat), AV.v (Value.int IntKind.i64 (↑x.i : Int)),
AV.v (Value.bool false)] [some (Blk.row [AV.v (Value.int IntKind.i64 x.f), AV.v (Value.int IntKind.u32 x.bad), AV.map (1 : Nat), AV.hs (2 : Nat) (0 : Nat) (List.length x.l)]), some (Blk.mp
[Cel.int IntKind.i64, Cel.int IntKind.i64, Cel.int IntKind.i64, Cel.int IntKind.i64, Cel.int IntKind.i64, Cel.int IntKind.i64, Cel.int IntKind.i64, Cel.int IntKind.i64, Cel.int IntKind.i64,
Cel.int IntKind.i64, Cel.int IntKind.i64] true false (List.length x.l) (hasS x.l) anyV), some (Blk.arr (11 : Nat) (List.length (x.l ++ x.j)) (lsF Sh.c (x.l ++ x.j))), some (Blk.row [AV.v
(Value.int IntKind.i64 x.f), AV.v (Value.int IntKind.u32 x.bad), AV.hs (4 : Nat) (0 : Nat) (List.length x.l)]), some (Blk.arr (11 : Nat) (List.length (x.l ++ x.j')) (lsF Sh.c (x.l ++
x.j')))])) (Tree.br (!decide (x.f = x.f)) (Tree.leaf (Out.mk AEx.ret [AV.v (Value.int IntKind.i64 x.f), AV.v (Value.int IntKind.u32 x.bad), AV.sl (14 : Nat) (List.length x.acts) (lsF Ac.c
x.acts), AV.ptr (0 : Nat) (0 : Nat), AV.ptr (3 : Nat) (0 : Nat), AV.v (Value.int IntKind.i64 (↑x.i : Int)), AV.v (Value.bool false)] [some (Blk.row [AV.v (Value.int IntKind.i64 x.f), AV.v
(Value.int IntKind.u32 x.bad), AV.map (1 : Nat), AV.hs (2 : Nat) (0 : Nat) (List.length x.l)]), some (Blk.mp [Cel.int IntKind.i64, Cel.int IntKind.i64, Cel.int IntKind.i64, Cel.int
IntKind.i64, Cel.int IntKind.i64, Cel.int IntKind.i64, Cel.int IntKind.i64, Cel.int IntKind.i64, Cel.int IntKind.i64, Cel.int IntKind.i64, Cel.int IntKind.i64] true false (List.length x.l)
(hasS x.l) anyV), some (Blk.arr (11 : Nat) (List.length (x.l ++ x.j)) (lsF Sh.c (x.l ++ x.j))), some (Blk.row [AV.v (Value.int IntKind.i64 x.f), AV.v (Value.int IntKind.u32 x.bad), AV.hs (4
: Nat) (0 : Nat) (List.length x.l)]), some (Blk.arr (11 : Nat) (List.length (x.l ++ x.j')) (lsF Sh.c (x.l ++ x.j')))])) (Tree.br (!decide (x.bad = x.bad)) (Tree.leaf (Out.mk AEx.ret [AV.v
(Value.int IntKind.i64 x.f), AV.v (Value.int IntKind.u32 x.bad), AV.sl (14 : Nat) (List.length x.acts) (lsF Ac.c x.acts), AV.ptr (0 : Nat) (0 : Nat), AV.ptr (3 : Nat) (0 : Nat), AV.v
(Value.int IntKind.i64 (↑x.i : Int)), AV.v (Value.bool false)] [some (Blk.row [AV.v (Value.int IntKind.i64 x.f), AV.v (Value.int IntKind.u32 x.bad), AV.map (1 : Nat), AV.hs (2 : Nat) (0 :
Nat) (List.length x.l)]), some (Blk.mp [Cel.int IntKind.i64, Cel.int IntKind.i64, Cel.int IntKind.i64, Cel.int IntKind.i64, Cel.int IntKind.i64, Cel.int IntKind.i64, Cel.int IntKind.i64,
Cel.int IntKind.i64, Cel.int IntKind.i64, Cel.int IntKind.i64, Cel.int IntKind.i64] true false (List.length x.l) (hasS x.l) anyV), some (Blk.arr (11 : Nat) (List.length (x.l ++ x.j)) (lsF
Sh.c (x.l ++ x.j))), some (Blk.row [AV.v (Value.int IntKind.i64 x.f), AV.v (Value.int IntKind.u32 x.bad), AV.hs (4 : Nat) (0 : Nat) (List.length x.l)]), some (Blk.arr (11 : Nat) (List.length
(x.l ++ x.j')) (lsF Sh.c (x.l ++ x.j')))])) (Tree.chk (cl (LeL [AV.v (Value.int IntKind.i64 x.f), AV.v (Value.int IntKind.u32 x.bad), AV.sl (14 : Nat) (List.length x.acts) (lsF Ac.c x.acts),
AV.ptr (0 : Nat) (0 : Nat), AV.ptr (3 : Nat) (0 : Nat), AV.v (Value.int IntKind.i64 (↑x.i : Int)), AV.hs (5 : Nat) (0 : Nat) (List.length x.l), AV.v (Value.int IntKind.i64 (0 : Int)),
AV.any] [AV.v (Value.int IntKind.i64 x.f), AV.v (Value.int IntKind.u32 x.bad), AV.sl (14 : Nat) (List.length x.acts) (lsF Ac.c x.acts), AV.ptr (0 : Nat) (0 : Nat), AV.ptr (3 : Nat) (0 :
Nat), AV.v (Value.int IntKind.i64 (↑x.i : Int)), AV.hs (5 : Nat) (0 : Nat) (List.length x.l), AV.v (Value.int IntKind.i64 (↑(0 : Nat) : Int)), AV.any] ∧ LeH [some (Blk.row [AV.v (Value.int
IntKind.i64 x.f), AV.v (Value.int IntKind.u32 x.bad), AV.map (1 : Nat), AV.hs (2 : Nat) (0 : Nat) (List.length x.l)]), some (Blk.mp [Cel.int IntKind.i64, Cel.int IntKind.i64, Cel.int
IntKind.i64, Cel.int IntKind.i64, Cel.int IntKind.i64, Cel.int IntKind.i64, Cel.int IntKind.i64, Cel.int IntKind.i64, Cel.int IntKind.i64, Cel.int IntKind.i64, Cel.int IntKind.i64] true
false (List.length x.l) (hasS x.l) anyV), some (Blk.arr (11 : Nat) (List.length (x.l ++ x.j)) (lsF Sh.c (x.l ++ x.j))), some (Blk.row [AV.v (Value.int IntKind.i64 x.f), AV.v (Value.int
IntKind.u32 x.bad), AV.hs (4 : Nat) (0 : Nat) (List.length x.l)]), some (Blk.arr (11 : Nat) (List.length (x.l ++ x.j')) (lsF Sh.c (x.l ++ x.j'))), some (Blk.arr (11 : Nat) (List.length x.l)
(lsF Sh.c (x.l ++ x.j)))] [some (Blk.row [AV.v (Value.int IntKind.i64 x.f), AV.v (Value.int IntKind.u32 x.bad), AV.map (1 : Nat), AV.hs (2 : Nat) (0 : Nat) (List.length x.l)]), some (Blk.mp
[Cel.int IntKind.i64, Cel.int IntKind.i64, Cel.int IntKind.i64, Cel.int IntKind.i64, Cel.int IntKind.i64, Cel.int IntKind.i64, Cel.int IntKind.i64, Cel.int IntKind.i64, Cel.int IntKind.i64,
Cel.int IntKind.i64, Cel.int IntKind.i64] true false (List.length x.l) (hasS x.l) anyV), some (Blk.arr (11 : Nat) (List.length (x.l ++ x.j)) (lsF Sh.c (x.l ++ x.j))), some (Blk.row [AV.v
(Value.int IntKind.i64 x.f), AV.v (Value.int IntKind.u32 x.bad), AV.hs (4 : Nat) (0 : Nat) (List.length x.l)]), some (Blk.arr (11 : Nat) (List.length (x.l ++ x.j')) (lsF Sh.c (x.l ++
x.j'))), some (Blk.arr (11 : Nat) (List.length x.l) (lsF Sh.c (x.l ++ x.j)))])) (Tree.leaf (Out.mk AEx.normal [AV.v (Value.int IntKind.i64 x.f), AV.v (Value.int IntKind.u32 x.bad), AV.sl (14
: Nat) (List.length x.acts) (lsF Ac.c x.acts), AV.ptr (0 : Nat) (0 : Nat), AV.ptr (3 : Nat) (0 : Nat), AV.v (Value.int IntKind.i64 (IntKind.wrap IntKind.i64 ((↑x.i : Int) + (1 : Int)))),
AV.any] [some (Blk.row [AV.v (Value.int IntKind.i64 x.f), AV.v (Value.int IntKind.u32 x.bad), AV.map (1 : Nat), AV.hs (2 : Nat) (0 : Nat) (List.length x.l)]), some (Blk.mp [Cel.int
IntKind.i64, Cel.int IntKind.i64, Cel.int IntKind.i64, Cel.int IntKind.i64, Cel.int IntKind.i64, Cel.int IntKind.i64, Cel.int IntKind.i64, Cel.int IntKind.i64, Cel.int IntKind.i64, Cel.int
IntKind.i64, Cel.int IntKind.i64] true false (List.length x.l) (hasS x.l) anyV), some (Blk.arr (11 : Nat) (List.length (x.l ++ x.j)) (lsF Sh.c (x.l ++ x.j))), some (Blk.row [AV.v (Value.int
IntKind.i64 x.f), AV.v (Value.int IntKind.u32 x.bad), AV.hs (4 : Nat) (0 : Nat) (List.length x.l)]), some (Blk.arr (11 : Nat) (List.length (x.l ++ x.j')) (lsF Sh.c (x.l ++
x.j')))]))))))))))) (Tree.br (decide ((List.getD x.acts x.i default).k = (3 : Int))) Tree.fail (Tree.chk true (Tree.chk (cl (List.length x.l ≤ (1000000000 : Nat) ∧ ∃ l junk, List.length x.l
= List.length l ∧ List.length (x.l ++ x.j) = List.length (l ++ junk) ∧ ∀ (e : Nat), lsF Sh.c (x.l ++ x.j) e = Sh.c (List.getD (l ++ junk) e default))) (Tree.br false (Tree.leaf (Out.mk
AEx.ret [AV.v (Value.int IntKind.i64 x.f), AV.v (Value.int IntKind.u32 x.bad), AV.sl (14 : Nat) (List.length x.acts) (lsF Ac.c x.acts), AV.ptr (0 : Nat) (0 : Nat), AV.ptr (3 : Nat) (0 :
Nat), AV.v (Value.int IntKind.i64 (↑x.i : Int)), AV.v (Value.bool false)] [some (Blk.row [AV.v (Value.int IntKind.i64 x.f), AV.v (Value.int IntKind.u32 x.bad), AV.map (1 : Nat), AV.hs (2 :
Nat) (0 : Nat) (List.length x.l)]), some (Blk.mp [Cel.int IntKind.i64, Cel.int IntKind.i64, Cel.int IntKind.i64, Cel.int IntKind.i64, Cel.int IntKind.i64, Cel.int IntKind.i64, Cel.int
IntKind.i64, Cel.int IntKind.i64, Cel.int IntKind.i64, Cel.int IntKind.i64, Cel.int IntKind.i64] true false (List.length x.l) (hasS x.l) anyV), some (Blk.arr (11 : Nat) (List.length (x.l ++
x.j)) (lsF Sh.c (x.l ++ x.j))), some (Blk.row [AV.v (Value.int IntKind.i64 x.f), AV.v (Value.int IntKind.u32 x.bad), AV.hs (4 : Nat) (0 : Nat) (List.length x.l)]), some (Blk.arr (11 : Nat)
(List.length (x.l ++ x.j')) (lsF Sh.c (x.l ++ x.j')))])) (Tree.br (!decide ((↑(List.length x.l) : Int) = (↑(List.length x.l) : Int))) (Tree.leaf (Out.mk AEx.ret [AV.v (Value.int IntKind.i64
x.f), AV.v (Value.int IntKind.u32 x.bad), AV.sl (14 : Nat) (List.length x.acts) (lsF Ac.c x.acts), AV.ptr (0 : Nat) (0 : Nat), AV.ptr (3 : Nat) (0 : Nat), AV.v (Value.int IntKind.i64 (↑x.i :
Int)), AV.v (Value.bool false)] [some (Blk.row [AV.v (Value.int IntKind.i64 x.f), AV.v (Value.int IntKind.u32 x.bad), AV.map (1 : Nat), AV.hs (2 : Nat) (0 : Nat) (List.length x.l)]), some
(Blk.mp [Cel.int IntKind.i64, Cel.int IntKind.i64, Cel.int IntKind.i64, Cel.int IntKind.i64, Cel.int IntKind.i64, Cel.int IntKind.i64, Cel.int IntKind.i64, Cel.int IntKind.i64, Cel.int
IntKind.i64, Cel.int IntKind.i64, Cel.int IntKind.i64] true false (List.length x.l) (hasS x.l) anyV), some (Blk.arr (11 : Nat) (List.length (x.l ++ x.j)) (lsF Sh.c (x.l ++ x.j))), some
(Blk.row [AV.v (Value.int IntKind.i64 x.f), AV.v (Value.int IntKind.u32 x.bad), AV.hs (4 : Nat) (0 : Nat) (List.length x.l)]), some (Blk.arr (11 : Nat) (List.length (x.l ++ x.j')) (lsF Sh.c
(x.l ++ x.j')))])) (Tree.br (!decide (x.f = x.f)) (Tree.leaf (Out.mk AEx.ret [AV.v (Value.int IntKind.i64 x.f), AV.v (Value.int IntKind.u32 x.bad), AV.sl (14 : Nat) (List.length x.acts) (lsF
Ac.c x.acts), AV.ptr (0 : Nat) (0 : Nat), AV.ptr (3 : Nat) (0 : Nat), AV.v (Value.int IntKind.i64 (↑x.i : Int)), AV.v (Value.bool false)] [some (Blk.row [AV.v (Value.int IntKind.i64 x.f),
AV.v (Value.int IntKind.u32 x.bad), AV.map (1 : Nat), AV.hs (2 : Nat) (0 : Nat) (List.length x.l)]), some (Blk.mp [Cel.int IntKind.i64, Cel.int IntKind.i64, Cel.int IntKind.i64, Cel.int
IntKind.i64, Cel.int IntKind.i64, Cel.int IntKind.i64, Cel.int IntKind.i64, Cel.int IntKind.i64, Cel.int IntKind.i64, Cel.int IntKind.i64, Cel.int IntKind.i64] true false (List.length x.l)
(hasS x.l) anyV), some (Blk.arr (11 : Nat) (List.length (x.l ++ x.j)) (lsF Sh.c (x.l ++ x.j))), some (Blk.row [AV.v (Value.int IntKind.i64 x.f), AV.v (Value.int IntKind.u32 x.bad), AV.hs (4
: Nat) (0 : Nat) (List.length x.l)]), some (Blk.arr (11 : Nat) (List.length (x.l ++ x.j')) (lsF Sh.c (x.l ++ x.j')))])) (Tree.br (!decide (x.bad = x.bad)) (Tree.leaf (Out.mk AEx.ret [AV.v
(Value.int IntKind.i64 x.f), AV.v (Value.int IntKind.u32 x.bad), AV.sl (14 : Nat) (List.length x.acts) (lsF Ac.c x.acts), AV.ptr (0 : Nat) (0 : Nat), AV.ptr (3 : Nat) (0 : Nat), AV.v
(Value.int IntKind.i64 (↑x.i : Int)), AV.v (Value.bool false)] [some (Blk.row [AV.v (Value.int IntKind.i64 x.f), AV.v (Value.int IntKind.u32 x.bad), AV.map (1 : Nat), AV.hs (2 : Nat) (0 :
Nat) (List.length x.l)]), some (Blk.mp [Cel.int IntKind.i64, Cel.int IntKind.i64, Cel.int IntKind.i64, Cel.int IntKind.i64, Cel.int IntKind.i64, Cel.int IntKind.i64, Cel.int IntKind.i64,
Cel.int IntKind.i64, Cel.int IntKind.i64, Cel.int IntKind.i64, Cel.int IntKind.i64] true false (List.length x.l) (hasS x.l) anyV), some (Blk.arr (11 : Nat) (List.length (x.l ++ x.j)) (lsF
Sh.c (x.l ++ x.j))), some (Blk.row [AV.v (Value.int IntKind.i64 x.f), AV.v (Value.int IntKind.u32 x.bad), AV.hs (4 : Nat) (0 : Nat) (List.length x.l)]), some (Blk.arr (11 : Nat) (List.length
(x.l ++ x.j')) (lsF Sh.c (x.l ++ x.j')))])) (Tree.chk (cl (LeL [AV.v (Value.int IntKind.i64 x.f), AV.v (Value.int IntKind.u32 x.bad), AV.sl (14 : Nat) (List.length x.acts) (lsF Ac.c x.acts),
AV.ptr (0 : Nat) (0 : Nat), AV.ptr (3 : Nat) (0 : Nat), AV.v (Value.int IntKind.i64 (↑x.i : Int)), AV.hs (5 : Nat) (0 : Nat) (List.length x.l), AV.v (Value.int IntKind.i64 (0 : Int)),
AV.any] [AV.v (Value.int IntKind.i64 x.f), AV.v (Value.int IntKind.u32 x.bad), AV.sl (14 : Nat) (List.length x.acts) (lsF Ac.c x.acts), AV.ptr (0 : Nat) (0 : Nat), AV.ptr (3 : Nat) (0 :
Nat), AV.v (Value.int IntKind.i64 (↑x.i : Int)), AV.hs (5 : Nat) (0 : Nat) (List.length x.l), AV.v (Value.int IntKind.i64 (↑(0 : Nat) : Int)), AV.any] ∧ LeH [some (Blk.row [AV.v (Value.int
IntKind.i64 x.f), AV.v (Value.int IntKind.u32 x.bad), AV.map (1 : Nat), AV.hs (2 : Nat) (0 : Nat) (List.length x.l)]), some (Blk.mp [Cel.int IntKind.i64, Cel.int IntKind.i64, Cel.int
IntKind.i64, Cel.int IntKind.i64, Cel.int IntKind.i64, Cel.int IntKind.i64, Cel.int IntKind.i64, Cel.int IntKind.i64, Cel.int IntKind.i64, Cel.int IntKind.i64, Cel.int IntKind.i64] true
false (List.length x.l) (hasS x.l) anyV), some (Blk.arr (11 : Nat) (List.length (x.l ++ x.j)) (lsF Sh.c (x.l ++ x.j))), some (Blk.row [AV.v (Value.int IntKind.i64 x.f), AV.v (Value.int
IntKind.u32 x.bad), AV.hs (4 : Nat) (0 : Nat) (List.length x.l)]), some (Blk.arr (11 : Nat) (List.length (x.l ++ x.j')) (lsF Sh.c (x.l ++ x.j'))), some (Blk.arr (11 : Nat) (List.length x.l)
(lsF Sh.c (x.l ++ x.j)))] [some (Blk.row [AV.v (Value.int IntKind.i64 x.f), AV.v (Value.int IntKind.u32 x.bad), AV.map (1 : Nat), AV.hs (2 : Nat) (0 : Nat) (List.length x.l)]), some (Blk.mp
[Cel.int IntKind.i64, Cel.int IntKind.i64, Cel.int IntKind.i64, Cel.int IntKind.i64, Cel.int IntKind.i64, Cel.int IntKind.i64, Cel.int IntKind.i64, Cel.int IntKind.i64, Cel.int IntKind.i64,
Cel.int IntKind.i64, Cel.int IntKind.i64] true false (List.length x.l) (hasS x.l) anyV), some (Blk.arr (11 : Nat) (List.length (x.l ++ x.j)) (lsF Sh.c (x.l ++ x.j))), some (Blk.row [AV.v
(Value.int IntKind.i64 x.f), AV.v (Value.int IntKind.u32 x.bad), AV.hs (4 : Nat) (0 : Nat) (List.length x.l)]), some (Blk.arr (11 : Nat) (List.length (x.l ++ x.j')) (lsF Sh.c (x.l ++
x.j'))), some (Blk.arr (11 : Nat) (List.length x.l) (lsF Sh.c (x.l ++ x.j)))])) (Tree.leaf (Out.mk AEx.normal [AV.v (Value.int IntKind.i64 x.f), AV.v (Value.int IntKind.u32 x.bad), AV.sl (14
: Nat) (List.length x.acts) (lsF Ac.c x.acts), AV.ptr (0 : Nat) (0 : Nat), AV.ptr (3 : Nat) (0 : Nat), AV.v (Value.int IntKind.i64 (IntKind.wrap IntKind.i64 ((↑x.i : Int) + (1 : Int)))),
AV.any] [some (Blk.row [AV.v (Value.int IntKind.i64 x.f), AV.v (Value.int IntKind.u32 x.bad), AV.map (1 : Nat), AV.hs (2 : Nat) (0 : Nat) (List.length x.l)]), some (Blk.mp [Cel.int
IntKind.i64, Cel.int IntKind.i64, Cel.int IntKind.i64, Cel.int IntKind.i64, Cel.int IntKind.i64, Cel.int IntKind.i64, Cel.int IntKind.i64, Cel.int IntKind.i64, Cel.int IntKind.i64, Cel.int
IntKind.i64, Cel.int IntKind.i64] true false (List.length x.l) (hasS x.l) anyV), some (Blk.arr (11 : Nat) (List.length (x.l ++ x.j)) (lsF Sh.c (x.l ++ x.j))), some (Blk.row [AV.v (Value.int
IntKind.i64 x.f), AV.v (Value.int IntKind.u32 x.bad), AV.hs (4 : Nat) (0 : Nat) (List.length x.l)]), some (Blk.arr (11 : Nat) (List.length (x.l ++ x.j')) (lsF Sh.c (x.l ++
x.j')))])))))))))))))) (Tree.leaf (Out.mk (AEx.exit (0 : Nat)) [AV.v (Value.int IntKind.i64 x.f), AV.v (Value.int IntKind.u32 x.bad), AV.sl (14 : Nat) (List.length x.acts) (lsF Ac.c x.acts),
AV.ptr (0 : Nat) (0 : Nat), AV.ptr (3 : Nat) (0 : Nat), AV.v (Value.int IntKind.i64 (↑x.i : Int)), AV.any] [some (Blk.row [AV.v (Value.int IntKind.i64 x.f), AV.v (Value.int IntKind.u32
x.bad), AV.map (1 : Nat), AV.hs (2 : Nat) (0 : Nat) (List.length x.l)]), some (Blk.mp [Cel.int IntKind.i64, Cel.int IntKind.i64, Cel.int IntKind.i64, Cel.int IntKind.i64, Cel.int
IntKind.i64, Cel.int IntKind.i64, Cel.int IntKind.i64, Cel.int IntKind.i64, Cel.int IntKind.i64, Cel.int IntKind.i64, Cel.int IntKind.i64] true false (List.length x.l) (hasS x.l) anyV), some
(Blk.arr (11 : Nat) (List.length (x.l ++ x.j)) (lsF Sh.c (x.l ++ x.j))), some (Blk.row [AV.v (Value.int IntKind.i64 x.f), AV.v (Value.int IntKind.u32 x.bad), AV.hs (4 : Nat) (0 : Nat)
(List.length x.l)]), some (Blk.arr (11 : Nat) (List.length (x.l ++ x.j')) (lsF Sh.c (x.l ++ x.j')))])) := by kernel_rfl
theorem r4eno (x : X4) (e : Int) (hu : inU32 (x.acts.getD x.i default).set = true) (hb : inU32 x.bad = true) (hs : x.l.length ≤ 100000) (h : EnE (x.acts.getD x.i default).set (x.acts.getD x.i default).le (x.acts.getD x.i default).st x.f x.bad x.l e) : roundE (P := Tryd.prog) (Γ := Γs) [kSh, S.c19, S.c20, CT.at 12 (ansEnough (j := x.j) hu hb h), CT.at 17 (ansEnoughR (j := x.j') hu hb hs h)] (L41 x) false 0 0 (lp4 0) lv41 nl41 159 (S41 x).1 (S41 x).2 =
  Tree.br (bif decide ((↑x.i : Int) < (↑(List.length x.acts) : Int)) then true else false) (Tree.chk (decide ((0 : Int) ≤ (↑x.i : Int)) && decide ((↑x.i : Int) < (↑(List.length x.acts) :
Int))) (Tree.br (decide ((List.getD x.acts x.i default).k = (0 : Int))) Tree.fail (Tree.br (decide ((List.getD x.acts x.i default).k = (1 : Int))) Tree.fail (Tree.br (decide ((List.getD
x.acts x.i default).k = (2 : Int))) Tree.fail (Tree.br (decide ((List.getD x.acts x.i default).k = (3 : Int))) (Tree.chk (cl (LeL [AV.ptr (0 : Nat) (0 : Nat), AV.agg [AV.v (Value.int
IntKind.i64 (List.getD x.acts x.i default).st.k), AV.v (Value.int IntKind.i64 (List.getD x.acts x.i default).st.b), AV.v (Value.int IntKind.i64 (List.getD x.acts x.i default).st.v), AV.v
(Value.int IntKind.i64 (List.getD x.acts x.i default).st.r), AV.v (Value.int IntKind.i64 (List.getD x.acts x.i default).st.h), AV.v (Value.int IntKind.i64 (List.getD x.acts x.i
default).st.a), AV.v (Value.int IntKind.i64 (List.getD x.acts x.i default).st.hk), AV.v (Value.int IntKind.i64 (List.getD x.acts x.i default).st.hb), AV.v (Value.int IntKind.i64 (List.getD
x.acts x.i default).st.hv), AV.v (Value.int IntKind.i64 (List.getD x.acts x.i default).st.hr)], AV.v (Value.int IntKind.u32 (List.getD x.acts x.i default).set), AV.v (Value.int IntKind.i64
(List.getD x.acts x.i default).le)] [AV.ptr (0 : Nat) (0 : Nat), AV.agg [AV.v (Value.int IntKind.i64 (List.getD x.acts x.i default).st.k), AV.v (Value.int IntKind.i64 (List.getD x.acts x.i
default).st.b), AV.v (Value.int IntKind.i64 (List.getD x.acts x.i default).st.v), AV.v (Value.int IntKind.i64 (List.getD x.acts x.i default).st.r), AV.v (Value.int IntKind.i64 (List.getD
x.acts x.i default).st.h), AV.v (Value.int IntKind.i64 (List.getD x.acts x.i default).st.a), AV.v (Value.int IntKind.i64 (List.getD x.acts x.i default).st.hk), AV.v (Value.int IntKind.i64
(List.getD x.acts x.i default).st.hb), AV.v (Value.int IntKind.i64 (List.getD x.acts x.i default).st.hv), AV.v (Value.int IntKind.i64 (List.getD x.acts x.i default).st.hr)], AV.v (Value.int
IntKind.u32 (List.getD x.acts x.i default).set), AV.v (Value.int IntKind.i64 (List.getD x.acts x.i default).le)] ∧ LeH [some (Blk.row [AV.v (Value.int IntKind.i64 x.f), AV.v (Value.int
IntKind.u32 x.bad), AV.map (1 : Nat), AV.hs (2 : Nat) (0 : Nat) (List.length x.l)]), some (Blk.mp [Cel.int IntKind.i64, Cel.int IntKind.i64, Cel.int IntKind.i64, Cel.int IntKind.i64, Cel.int
IntKind.i64, Cel.int IntKind.i64, Cel.int IntKind.i64, Cel.int IntKind.i64, Cel.int IntKind.i64, Cel.int IntKind.i64, Cel.int IntKind.i64] true false (List.length x.l) (hasS x.l) anyV), some
(Blk.arr (11 : Nat) (List.length (x.l ++ x.j)) (lsF Sh.c (x.l ++ x.j)))] [some (Blk.row [AV.v (Value.int IntKind.i64 x.f), AV.v (Value.int IntKind.u32 x.bad), AV.map (1 : Nat), AV.hs (2 :
Nat) (0 : Nat) (List.length x.l)]), some (Blk.mp [Cel.int IntKind.i64, Cel.int IntKind.i64, Cel.int IntKind.i64, Cel.int IntKind.i64, Cel.int IntKind.i64, Cel.int IntKind.i64, Cel.int
IntKind.i64, Cel.int IntKind.i64, Cel.int IntKind.i64, Cel.int IntKind.i64, Cel.int IntKind.i64] true false (List.length x.l) (hasS x.l) anyV), some (Blk.arr (11 : Nat) (List.length (x.l ++
x.j)) (lsF Sh.c (x.l ++ x.j)))])) (Tree.chk (cl (LeL [AV.ptr (0 : Nat) (0 : Nat), AV.agg [AV.v (Value.int IntKind.i64 (List.getD x.acts x.i default).st.k), AV.v (Value.int IntKind.i64
(List.getD x.acts x.i default).st.b), AV.v (Value.int IntKind.i64 (List.getD x.acts x.i default).st.v), AV.v (Value.int IntKind.i64 (List.getD x.acts x.i default).st.r), AV.v (Value.int
IntKind.i64 (List.getD x.acts x.i default).st.h), AV.v (Value.int IntKind.i64 (List.getD x.acts x.i default).st.a), AV.v (Value.int IntKind.i64 (List.getD x.acts x.i default).st.hk), AV.v
(Value.int IntKind.i64 (List.getD x.acts x.i default).st.hb), AV.v (Value.int IntKind.i64 (List.getD x.acts x.i default).st.hv), AV.v (Value.int IntKind.i64 (List.getD x.acts x.i
default).st.hr)], AV.v (Value.int IntKind.u32 (List.getD x.acts x.i default).set), AV.v (Value.int IntKind.i64 (List.getD x.acts x.i default).le)] [AV.ptr (0 : Nat) (0 : Nat), AV.agg [AV.v
(Value.int IntKind.i64 (List.getD x.acts x.i default).st.k), AV.v (Value.int IntKind.i64 (List.getD x.acts x.i default).st.b), AV.v (Value.int IntKind.i64 (List.getD x.acts x.i
default).st.v), AV.v (Value.int IntKind.i64 (List.getD x.acts x.i default).st.r), AV.v (Value.int IntKind.i64 (List.getD x.acts x.i default).st.h), AV.v (Value.int IntKind.i64 (List.getD
x.acts x.i default).st.a), AV.v (Value.int IntKind.i64 (List.getD x.acts x.i default).st.hk), AV.v (Value.int IntKind.i64 (List.getD x.acts x.i default).st.hb), AV.v (Value.int IntKind.i64
(List.getD x.acts x.i default).st.hv), AV.v (Value.int IntKind.i64 (List.getD x.acts x.i default).st.hr)], AV.v (Value.int IntKind.u32 (List.getD x.acts x.i default).set), AV.v (Value.int
IntKind.i64 (List.getD x.acts x.i default).le)] ∧ LeH [some (Blk.row [AV.v (Value.int IntKind.i64 x.f), AV.v (Value.int IntKind.u32 x.bad), AV.hs (1 : Nat) (0 : Nat) (List.length x.l)]),
some (Blk.arr (11 : Nat) (List.length (x.l ++ x.j')) (lsF Sh.c (x.l ++ x.j')))] [some (Blk.row [AV.v (Value.int IntKind.i64 x.f), AV.v (Value.int IntKind.u32 x.bad), AV.hs (1 : Nat) (0 :
Nat) (List.length x.l)]), some (Blk.arr (11 : Nat) (List.length (x.l ++ x.j')) (lsF Sh.c (x.l ++ x.j')))])) (Tree.chk true (Tree.chk (cl (List.length x.l ≤ (1000000000 : Nat) ∧ ∃ l junk,
List.length x.l = List.length l ∧ List.length (x.l ++ x.j) = List.length (l ++ junk) ∧ ∀ (e : Nat), lsF Sh.c (x.l ++ x.j) e = Sh.c (List.getD (l ++ junk) e default))) (Tree.br (!decide (e =
e)) (Tree.leaf (Out.mk AEx.ret [AV.v (Value.int IntKind.i64 x.f), AV.v (Value.int IntKind.u32 x.bad), AV.sl (14 : Nat) (List.length x.acts) (lsF Ac.c x.acts), AV.ptr (0 : Nat) (0 : Nat),
AV.ptr (3 : Nat) (0 : Nat), AV.v (Value.int IntKind.i64 (↑x.i : Int)), AV.v (Value.bool false)] [some (Blk.row [AV.v (Value.int IntKind.i64 x.f), AV.v (Value.int IntKind.u32 x.bad), AV.map
(1 : Nat), AV.hs (2 : Nat) (0 : Nat) (List.length x.l)]), some (Blk.mp [Cel.int IntKind.i64, Cel.int IntKind.i64, Cel.int IntKind.i64, Cel.int IntKind.i64, Cel.int IntKind.i64, Cel.int
IntKind.i64, Cel.int IntKind.i64, Cel.int IntKind.i64, Cel.int IntKind.i64, Cel.int IntKind.i64, Cel.int IntKind.i64] true false (List.length x.l) (hasS x.l) anyV), some (Blk.arr (11 : Nat)
(List.length (x.l ++ x.j)) (lsF Sh.c (x.l ++ x.j))), some (Blk.row [AV.v (Value.int IntKind.i64 x.f), AV.v (Value.int IntKind.u32 x.bad), AV.hs (4 : Nat) (0 : Nat) (List.length x.l)]), some
(Blk.arr (11 : Nat) (List.length (x.l ++ x.j')) (lsF Sh.c (x.l ++ x.j')))])) (Tree.br (!decide ((↑(List.length x.l) : Int) = (↑(List.length x.l) : Int))) (Tree.leaf (Out.mk AEx.ret [AV.v
(Value.int IntKind.i64 x.f), AV.v (Value.int IntKind.u32 x.bad), AV.sl (14 : Nat) (List.length x.acts) (lsF Ac.c x.acts), AV.ptr (0 : Nat) (0 : Nat), AV.ptr (3 : Nat) (0 : Nat), AV.v
(Value.int IntKind.i64 (↑x.i : Int)), AV.v (Value.bool false)] [some (Blk.row [AV.v (Value.int IntKind.i64 x.f), AV.v (Value.int IntKind.u32 x.bad), AV.map (1 : Nat), AV.hs (2 : Nat) (0 :
Nat) (List.length x.l)]), some (Blk.mp [Cel.int IntKind.i64, Cel.int IntKind.i64, Cel.int IntKind.i64, Cel.int IntKind.i64, Cel.int IntKind.i64, Cel.int IntKind.i64, Cel.int IntKind.i64,
Cel.int IntKind.i64, Cel.int IntKind.i64, Cel.int IntKind.i64, Cel.int IntKind.i64] true false (List.length x.l) (hasS x.l) anyV), some (Blk.arr (11 : Nat) (List.length (x.l ++ x.j)) (lsF
Sh.c (x.l ++ x.j))), some (Blk.row [AV.v (Value.int IntKind.i64 x.f), AV.v (Value.int IntKind.u32 x.bad), AV.hs (4 : Nat) (0 : Nat) (List.length x.l)]), some (Blk.arr (11 : Nat) (List.length
(x.l ++ x.j')) (lsF Sh.c (x.l ++ x.j')))])) (Tree.br (!decide (x.f = x.f)) (Tree.leaf (Out.mk AEx.ret [AV.v (Value.int IntKind.i64 x.f), AV.v (Value.int IntKind.u32 x.bad), AV.sl (14 : Nat)
(List.length x.acts) (lsF Ac.c x.acts), AV.ptr (0 : Nat) (0 : Nat), AV.ptr (3 : Nat) (0 : Nat), AV.v (Value.int IntKind.i64 (↑x.i : Int)), AV.v (Value.bool false)] [some (Blk.row [AV.v
(Value.int IntKind.i64 x.f), AV.v (Value.int IntKind.u32 x.bad), AV.map (1 : Nat), AV.hs (2 : Nat) (0 : Nat) (List.length x.l)]), some (Blk.mp [Cel.int IntKind.i64, Cel.int IntKind.i64,
Cel.int IntKind.i64, Cel.int IntKind.i64, Cel.int IntKind.i64, Cel.int IntKind.i64, Cel.int IntKind.i64, Cel.int IntKind.i64, Cel.int IntKind.i64, Cel.int IntKind.i64, Cel.int IntKind.i64]
true false (List.length x.l) (hasS x.l) anyV), some (Blk.arr (11 : Nat) (List.length (x.l ++ x.j)) (lsF Sh.c (x.l ++ x.j))), some (Blk.row [AV.v (Value.int IntKind.i64 x.f), AV.v (Value.int
IntKind.u32 x.bad), AV.hs (4 : Nat) (0 : Nat) (List.length x.l)]), some (Blk.arr (11 : Nat) (List.length (x.l ++ x.j')) (lsF Sh.c (x.l ++ x.j')))])) (Tree.br (!decide (x.bad = x.bad))
(Tree.leaf (Out.mk AEx.ret [AV.v (Value.int IntKind.i64 x.f), AV.v (Value.int IntKind.u32 x.bad), AV.sl (14 : Nat) (List.length x.acts) (lsF Ac.c x.acts), AV.ptr (0 : Nat) (0 : Nat), AV.ptr
(3 : Nat) (0 : Nat), AV.v (Value.int IntKind.i64 (↑x.i : Int)), AV.v (Value.bool false)] [some (Blk.row [AV.v (Value.int IntKind.i64 x.f), AV.v (Value.int IntKind.u32 x.bad), AV.map (1 :
Nat), AV.hs (2 : Nat) (0 : Nat) (List.length x.l)]), some (Blk.mp [Cel.int IntKind.i64, Cel.int IntKind.i64, Cel.int IntKind.i64, Cel.int IntKind.i64, Cel.int IntKind.i64, Cel.int
IntKind.i64, Cel.int IntKind.i64, Cel.int IntKind.i64, Cel.int IntKind.i64, Cel.int IntKind.i64, Cel.int IntKind.i64] true false (List.length x.l) (hasS x.l) anyV), some (Blk.arr (11 : Nat)
(List.length (x.l ++ x.j)) (lsF Sh.c (x.l ++ x.j))), some (Blk.row [AV.v (Value.int IntKind.i64 x.f), AV.v (Value.int IntKind.u32 x.bad), AV.hs (4 : Nat) (0 : Nat) (List.length x.l)]), some
(Blk.arr (11 : Nat) (List.length (x.l ++ x.j')) (lsF Sh.c (x.l ++ x.j')))])) (Tree.chk (cl (LeL [AV.v (Value.int IntKind.i64 x.f), AV.v (Value.int IntKind.u32 x.bad), AV.sl (14 : Nat)
(List.length x.acts) (lsF Ac.c x.acts), AV.ptr (0 : Nat) (0 : Nat), AV.ptr (3 : Nat) (0 : Nat), AV.v (Value.int IntKind.i64 (↑x.i : Int)), AV.hs (5 : Nat) (0 : Nat) (List.length x.l), AV.v
(Value.int IntKind.i64 (0 : Int)), AV.any] [AV.v (Value.int IntKind.i64 x.f), AV.v (Value.int IntKind.u32 x.bad), AV.sl (14 : Nat) (List.length x.acts) (lsF Ac.c x.acts), AV.ptr (0 : Nat) (0
: Nat), AV.ptr (3 : Nat) (0 : Nat), AV.v (Value.int IntKind.i64 (↑x.i : Int)), AV.hs (5 : Nat) (0 : Nat) (List.length x.l), AV.v (Value.int IntKind.i64 (↑(0 : Nat) : Int)), AV.any] ∧ LeH
[some (Blk.row [AV.v (Value.int IntKind.i64 x.f), AV.v (Value.int IntKind.u32 x.bad), AV.map (1 : Nat), AV.hs (2 : Nat) (0 : Nat) (List.length x.l)]), some (Blk.mp [Cel.int IntKind.i64,
Cel.int IntKind.i64, Cel.int IntKind.i64, Cel.int IntKind.i64, Cel.int IntKind.i64, Cel.int IntKind.i64, Cel.int IntKind.i64, Cel.int IntKind.i64, Cel.int IntKind.i64, Cel.int IntKind.i64,
Cel.int IntKind.i64] true false (List.length x.l) (hasS x.l) anyV), some (Blk.arr (11 : Nat) (List.length (x.l ++ x.j)) (lsF Sh.c (x.l ++ x.j))), some (Blk.row [AV.v (Value.int IntKind.i64
x.f), AV.v (Value.int IntKind.u32 x.bad), AV.hs (4 : Nat) (0 : Nat) (List.length x.l)]), some (Blk.arr (11 : Nat) (List.length (x.l ++ x.j')) (lsF Sh.c (x.l ++ x.j'))), some (Blk.arr (11 :
Nat) (List.length x.l) (lsF Sh.c (x.l ++ x.j)))] [some (Blk.row [AV.v (Value.int IntKind.i64 x.f), AV.v (Value.int IntKind.u32 x.bad), AV.map (1 : Nat), AV.hs (2 : Nat) (0 : Nat)
(List.length x.l)]), some (Blk.mp [Cel.int IntKind.i64, Cel.int IntKind.i64, Cel.int IntKind.i64, Cel.int IntKind.i64, Cel.int IntKind.i64, Cel.int IntKind.i64, Cel.int IntKind.i64, Cel.int
IntKind.i64, Cel.int IntKind.i64, Cel.int IntKind.i64, Cel.int IntKind.i64] true false (List.length x.l) (hasS x.l) anyV), some (Blk.arr (11 : Nat) (List.length (x.l ++ x.j)) (lsF Sh.c (x.l
++ x.j))), some (Blk.row [AV.v (Value.int IntKind.i64 x.f), AV.v (Value.int IntKind.u32 x.bad), AV.hs (4 : Nat) (0 : Nat) (List.length x.l)]), some (Blk.arr (11 : Nat) (List.length (x.l ++
x.j')) (lsF Sh.c (x.l ++ x.j'))), some (Blk.arr (11 : Nat) (List.length x.l) (lsF Sh.c (x.l ++ x.j)))])) (Tree.leaf (Out.mk AEx.normal [AV.v (Value.int IntKind.i64 x.f), AV.v (Value.int
IntKind.u32 x.bad), AV.sl (14 : Nat) (List.length x.acts) (lsF Ac.c x.acts), AV.ptr (0 : Nat) (0 : Nat), AV.ptr (3 : Nat) (0 : Nat), AV.v (Value.int IntKind.i64 (IntKind.wrap IntKind.i64
((↑x.i : Int) + (1 : Int)))), AV.any] [some (Blk.row [AV.v (Value.int IntKind.i64 x.f), AV.v (Value.int IntKind.u32 x.bad), AV.map (1 : Nat), AV.hs (2 : Nat) (0 : Nat) (List.length x.l)]),
some (Blk.mp [Cel.int IntKind.i64, Cel.int IntKind.i64, Cel.int IntKind.i64, Cel.int IntKind.i64, Cel.int IntKind.i64, Cel.int IntKind.i64, Cel.int IntKind.i64, Cel.int IntKind.i64, Cel.int
IntKind.i64, Cel.int IntKind.i64, Cel.int IntKind.i64] true false (List.length x.l) (hasS x.l) anyV), some (Blk.arr (11 : Nat) (List.length (x.l ++ x.j)) (lsF Sh.c (x.l ++ x.j))), some
(Blk.row [AV.v (Value.int IntKind.i64 x.f), AV.v (Value.int IntKind.u32 x.bad), AV.hs (4 : Nat) (0 : Nat) (List.length x.l)]), some (Blk.arr (11 : Nat) (List.length (x.l ++ x.j')) (lsF Sh.c
(x.l ++ x.j')))]))))))))))) (Tree.chk true (Tree.chk (cl (List.length x.l ≤ (1000000000 : Nat) ∧ ∃ l junk, List.length x.l = List.length l ∧ List.length (x.l ++ x.j) = List.length (l ++
junk) ∧ ∀ (e : Nat), lsF Sh.c (x.l ++ x.j) e = Sh.c (List.getD (l ++ junk) e default))) (Tree.br false (Tree.leaf (Out.mk AEx.ret [AV.v (Value.int IntKind.i64 x.f), AV.v (Value.int
IntKind.u32 x.bad), AV.sl (14 : Nat) (List.length x.acts) (lsF Ac.c x.acts), AV.ptr (0 : Nat) (0 : Nat), AV.ptr (3 : Nat) (0 : Nat), AV.v (Value.int IntKind.i64 (↑x.i : Int)), AV.v
(Value.bool false)] [some (Blk.row [AV.v (Value.int IntKind.i64 x.f), AV.v (Value.int IntKind.u32 x.bad), AV.map (1 : Nat), AV.hs (2 : Nat) (0 : Nat) (List.length x.l)]), some (Blk.mp
[Cel.int IntKind.i64, Cel.int IntKind.i64, Cel.int IntKind.i64, Cel.int IntKind.i64, Cel.int IntKind.i64, Cel.int IntKind.i64, Cel.int IntKind.i64, Cel.int IntKind.i64, Cel.int IntKind.i64,
Cel.int IntKind.i64, Cel.int IntKind.i64] true false (List.length x.l) (hasS x.l) anyV), some (Blk.arr (11 : Nat) (List.length (x.l ++ x.j)) (lsF Sh.c (x.l ++ x.j))), some (Blk.row [AV.v
(Value.int IntKind.i64 x.f), AV.v (Value.int IntKind.u32 x.bad), AV.hs (4 : Nat) (0 : Nat) (List.length x.l)]), some (Blk.arr (11 : Nat) (List.length (x.l ++ x.j')) (lsF Sh.c (x.l ++
x.j')))])) (Tree.br (!decide ((↑(List.length x.l) : Int) = (↑(List.length x.l) : Int))) (Tree.leaf (Out.mk AEx.ret [AV.v (Value.int IntKind.i64 x.f), AV.v (Value.int IntKind.u32 x.bad),
AV.sl (14 : Nat) (List.length x.acts) (lsF Ac.c x.acts), AV.ptr (0 : Nat) (0 : Nat), AV.ptr (3 : Nat) (0 : Nat), AV.v (Value.int IntKind.i64 (↑x.i : Int)), AV.v (Value.bool false)] [some
(Blk.row [AV.v (Value.int IntKind.i64 x.f), AV.v (Value.int IntKind.u32 x.bad), AV.map (1 : Nat), AV.hs (2 : Nat) (0 : Nat) (List.length x.l)]), some (Blk.mp [Cel.int IntKind.i64, Cel.int
IntKind.i64, Cel.int IntKind.i64, Cel.int IntKind.i64, Cel.int IntKind.i64, Cel.int IntKind.i64, Cel.int IntKind.i64, Cel.int IntKind.i64, Cel.int IntKind.i64, Cel.int IntKind.i64, Cel.int
IntKind.i64] true false (List.length x.l) (hasS x.l) anyV), some (Blk.arr (11 : Nat) (List.length (x.l ++ x.j)) (lsF Sh.c (x.l ++ x.j))), some (Blk.row [AV.v (Value.int IntKind.i64 x.f),
AV.v (Value.int IntKind.u32 x.bad), AV.hs (4 : Nat) (0 : Nat) (List.length x.l)]), some (Blk.arr (11 : Nat) (List.length (x.l ++ x.j')) (lsF Sh.c (x.l ++ x.j')))])) (Tree.br (!decide (x.f =
x.f)) (Tree.leaf (Out.mk AEx.ret [AV.v (Value.int IntKind.i64 x.f), AV.v (Value.int IntKind.u32 x.bad), AV.sl (14 : Nat) (List.length x.acts) (lsF Ac.c x.acts), AV.ptr (0 : Nat) (0 : Nat),
AV.ptr (3 : Nat) (0 : Nat), AV.v (Value.int IntKind.i64 (↑x.i : Int)), AV.v (Value.bool false)] [some (Blk.row [AV.v (Value.int IntKind.i64 x.f), AV.v (Value.int IntKind.u32 x.bad), AV.map
(1 : Nat), AV.hs (2 : Nat) (0 : Nat) (List.length x.l)]), some (Blk.mp [Cel.int IntKind.i64, Cel.int IntKind.i64, Cel.int IntKind.i64, Cel.int IntKind.i64, Cel.int IntKind.i64, Cel.int
IntKind.i64, Cel.int IntKind.i64, Cel.int IntKind.i64, Cel.int IntKind.i64, Cel.int IntKind.i64, Cel.int IntKind.i64] true false (List.length x.l) (hasS x.l) anyV), some (Blk.arr (11 : Nat)
(List.length (x.l ++ x.j)) (lsF Sh.c (x.l ++ x.j))), some (Blk.row [AV.v (Value.int IntKind.i64 x.f), AV.v (Value.int IntKind.u32 x.bad), AV.hs (4 : Nat) (0 : Nat) (List.length x.l)]), some
(Blk.arr (11 : Nat) (List.length (x.l ++ x.j')) (lsF Sh.c (x.l ++ x.j')))])) (Tree.br (!decide (x.bad = x.bad)) (Tree.leaf (Out.mk AEx.ret [AV.v (Value.int IntKind.i64 x.f), AV.v (Value.int
IntKind.u32 x.bad), AV.sl (14 : Nat) (List.length x.acts) (lsF Ac.c x.acts), AV.ptr (0 : Nat) (0 : Nat), AV.ptr (3 : Nat) (0 : Nat), AV.v (Value.int IntKind.i64 (↑x.i : Int)), AV.v
(Value.bool false)] [some (Blk.row [AV.v (Value.int IntKind.i64 x.f), AV.v (Value.int IntKind.u32 x.bad), AV.map (1 : Nat), AV.hs (2 : Nat) (0 : Nat) (List.length x.l)]), some (Blk.mp
[Cel.int IntKind.i64, Cel.int IntKind.i64, Cel.int IntKind.i64, Cel.int IntKind.i64, Cel.int IntKind.i64, Cel.int IntKind.i64, Cel.int IntKind.i64, Cel.int IntKind.i64, Cel.int IntKind.i64,
Cel.int IntKind.i64, Cel.int IntKind.i64] true false (List.length x.l) (hasS x.l) anyV), some (Blk.arr (11 : Nat) (List.length (x.l ++ x.j)) (lsF Sh.c (x.l ++ x.j))), some (Blk.row [AV.v
(Value.int IntKind.i64 x.f), AV.v (Value.int IntKind.u32 x.bad), AV.hs (4 : Nat) (0 : Nat) (List.length x.l)]), some (Blk.arr (11 : Nat) (List.length (x.l ++ x.j')) (lsF Sh.c (x.l ++
x.j')))])) (Tree.chk (cl (LeL [AV.v (Value.int IntKind.i64 x.f), AV.v (Value.int IntKind.u32 x.bad), AV.sl (14 : Nat) (List.length x.acts) (lsF Ac.c x.acts), AV.ptr (0 : Nat) (0 : Nat),
AV.ptr (3 : Nat) (0 : Nat), AV.v (Value.int IntKind.i64 (↑x.i : Int)), AV.hs (5 : Nat) (0 : Nat) (List.length x.l), AV.v (Value.int IntKind.i64 (0 : Int)), AV.any] [AV.v (Value.int
IntKind.i64 x.f), AV.v (Value.int IntKind.u32 x.bad), AV.sl (14 : Nat) (List.length x.acts) (lsF Ac.c x.acts), AV.ptr (0 : Nat) (0 : Nat), AV.ptr (3 : Nat) (0 : Nat), AV.v (Value.int
IntKind.i64 (↑x.i : Int)), AV.hs (5 : Nat) (0 : Nat) (List.length x.l), AV.v (Value.int IntKind.i64 (↑(0 : Nat) : Int)), AV.any] ∧ LeH [some (Blk.row [AV.v (Value.int IntKind.i64 x.f), AV.v
(Value.int IntKind.u32 x.bad), AV.map (1 : Nat), AV.hs (2 : Nat) (0 : Nat) (List.length x.l)]), some (Blk.mp [Cel.int IntKind.i64, Cel.int IntKind.i64, Cel.int IntKind.i64, Cel.int
IntKind.i64, Cel.int IntKind.i64, Cel.int IntKind.i64, Cel.int IntKind.i64, Cel.int IntKind.i64, Cel.int IntKind.i64, Cel.int IntKind.i64, Cel.int IntKind.i64] true false (List.length x.l)
(hasS x.l) anyV), some (Blk.arr (11 : Nat) (List.length (x.l ++ x.j)) (lsF Sh.c (x.l ++ x.j))), some (Blk.row [AV.v (Value.int IntKind.i64 x.f), AV.v (Value.int IntKind.u32 x.bad), AV.hs (4
: Nat) (0 : Nat) (List.length x.l)]), some (Blk.arr (11 : Nat) (List.length (x.l ++ x.j')) (lsF Sh.c (x.l ++ x.j'))), some (Blk.arr (11 : Nat) (List.length x.l) (lsF Sh.c (x.l ++ x.j)))]
[some (Blk.row [AV.v (Value.int IntKind.i64 x.f), AV.v (Value.int IntKind.u32 x.bad), AV.map (1 : Nat), AV.hs (2 : Nat) (0 : Nat) (List.length x.l)]), some (Blk.mp [Cel.int IntKind.i64,
Cel.int IntKind.i64, Cel.int IntKind.i64, Cel.int IntKind.i64, Cel.int IntKind.i64, Cel.int IntKind.i64, Cel.int IntKind.i64, Cel.int IntKind.i64, Cel.int IntKind.i64, Cel.int IntKind.i64,
Cel.int IntKind.i64] true false (List.length x.l) (hasS x.l) anyV), some (Blk.arr (11 : Nat) (List.length (x.l ++ x.j)) (lsF Sh.c (x.l ++ x.j))), some (Blk.row [AV.v (Value.int IntKind.i64
x.f), AV.v (Value.int IntKind.u32 x.bad), AV.hs (4 : Nat) (0 : Nat) (List.length x.l)]), some (Blk.arr (11 : Nat) (List.length (x.l ++ x.j')) (lsF Sh.c (x.l ++ x.j'))), some (Blk.arr (11 :
Nat) (List.length x.l) (lsF Sh.c (x.l ++ x.j)))])) (Tree.leaf (Out.mk AEx.normal [AV.v (Value.int IntKind.i64 x.f), AV.v (Value.int IntKind.u32 x.bad), AV.sl (14 : Nat) (List.length x.acts)
(lsF Ac.c x.acts), AV.ptr (0 : Nat) (0 : Nat), AV.ptr (3 : Nat) (0 : Nat), AV.v (Value.int IntKind.i64 (IntKind.wrap IntKind.i64 ((↑x.i : Int) + (1 : Int)))), AV.any] [some (Blk.row [AV.v
(Value.int IntKind.i64 x.f), AV.v (Value.int IntKind.u32 x.bad), AV.map (1 : Nat), AV.hs (2 : Nat) (0 : Nat) (List.length x.l)]), some (Blk.mp [Cel.int IntKind.i64, Cel.int IntKind.i64,
Cel.int IntKind.i64, Cel.int IntKind.i64, Cel.int IntKind.i64, Cel.int IntKind.i64, Cel.int IntKind.i64, Cel.int IntKind.i64, Cel.int IntKind.i64, Cel.int IntKind.i64, Cel.int IntKind.i64]
true false (List.length x.l) (hasS x.l) anyV), some (Blk.arr (11 : Nat) (List.length (x.l ++ x.j)) (lsF Sh.c (x.l ++ x.j))), some (Blk.row [AV.v (Value.int IntKind.i64 x.f), AV.v (Value.int
IntKind.u32 x.bad), AV.hs (4 : Nat) (0 : Nat) (List.length x.l)]), some (Blk.arr (11 : Nat) (List.length (x.l ++ x.j')) (lsF Sh.c (x.l ++ x.j')))])))))))))))))) (Tree.leaf (Out.mk (AEx.exit
(0 : Nat)) [AV.v (Value.int IntKind.i64 x.f), AV.v (Value.int IntKind.u32 x.bad), AV.sl (14 : Nat) (List.length x.acts) (lsF Ac.c x.acts), AV.ptr (0 : Nat) (0 : Nat), AV.ptr (3 : Nat) (0 :
Nat), AV.v (Value.int IntKind.i64 (↑x.i : Int)), AV.any] [some (Blk.row [AV.v (Value.int IntKind.i64 x.f), AV.v (Value.int IntKind.u32 x.bad), AV.map (1 : Nat), AV.hs (2 : Nat) (0 : Nat)
(List.length x.l)]), some (Blk.mp [Cel.int IntKind.i64, Cel.int IntKind.i64, Cel.int IntKind.i64, Cel.int IntKind.i64, Cel.int IntKind.i64, Cel.int IntKind.i64, Cel.int IntKind.i64, Cel.int
IntKind.i64, Cel.int IntKind.i64, Cel.int IntKind.i64, Cel.int IntKind.i64] true false (List.length x.l) (hasS x.l) anyV), some (Blk.arr (11 : Nat) (List.length (x.l ++ x.j)) (lsF Sh.c (x.l
++ x.j))), some (Blk.row [AV.v (Value.int IntKind.i64 x.f), AV.v (Value.int IntKind.u32 x.bad), AV.hs (4 : Nat) (0 : Nat) (List.length x.l)]), some (Blk.arr (11 : Nat) (List.length (x.l ++
x.j')) (lsF Sh.c (x.l ++ x.j')))])) := by kernel_rfl
end Go.Eng.Si

/- sign: any calls: the loops. -/
namespace Go.Eng.Si
open Go Go.Eng Go.Eng.M Go.Proofs
set_option linter.unusedSimpArgs false
set_option linter.unusedVariables false
theorem loop42 {x : X4} (hl : x.l.length ≤ 100000) : ∀ k, k ≤ x.l.length → LoopOK Tryd.prog Γs 0 159 (lp4 1) (LSpec.at lv42 [] (S42 x k) (O42 x)) := by
  refine loop_at (S := S42 x) (O := fun _ => O42 x) (k := 0) (fun k => x.l.length - k) fun k hp => .of (noLoops (by kernel_rfl)) (r42 x k) ?_
  rcases Nat.lt_or_ge k x.l.length with hi | hi
  · simp only [or_true, true_or, false_or, or_false, and_false, false_and, cond_true, cond_false, Bool.not_true, Bool.not_false, Bool.false_eq_true, Bool.true_eq_false, not_true_eq_false, not_false_eq_true, false_implies, true_implies, implies_true, Nat.blt_eq, owesN, owesX, owesR, notT, sat_brT, sat_brF, sat_chkT, cl_iff, cl_false, AV.le_refl, AV.le_any, OLe_refl, OLe_none, sat_brN, Tree.sat_chk, Tree.sat_leaf, Tree.sat_fail, Nat.zero_add, Nat.sub_zero, Int.toNat_natCast, LeH_cons, LeH_nil, LeL_cons, LeL_nil, and_true, true_and, Bool.and_eq_true, Bool.or_eq_true, decide_eq_true_eq, decide_eq_false_iff_not, Bool.cond_true_left, Bool.cond_false_right, List.cons_append, List.nil_append, List.map_cons, List.map_nil, getD_app hi, shEq, wrapUpN (show k ≤ 1000000000 by omega)]
    repeat' (first | apply And.intro | intro _hc)
    all_goals first | omega | contradiction | exact AV.le_refl _ | exact AV.le_any _ | exact OLe.refl _ | exact OLe.none _ | exact LeH.refl _ | exact LeL.refl _ | exact AV.le.bs _ | exact AV.le.sb _ | exact ⟨k + 1, LeL.refl _, LeH.refl _, hi, by omega⟩ | (exfalso; omega) | contradiction
  · simp only [or_true, true_or, false_or, or_false, and_false, false_and, cond_true, cond_false, Bool.not_true, Bool.not_false, Bool.false_eq_true, Bool.true_eq_false, not_true_eq_false, not_false_eq_true, false_implies, true_implies, implies_true, Nat.blt_eq, owesN, owesX, owesR, notT, sat_brT, sat_brF, sat_chkT, cl_iff, cl_false, AV.le_refl, AV.le_any, OLe_refl, OLe_none, sat_brN, Tree.sat_chk, Tree.sat_leaf, Tree.sat_fail, Nat.zero_add, Nat.sub_zero, Int.toNat_natCast, LeH_cons, LeH_nil, LeL_cons, LeL_nil, and_true, true_and, Bool.and_eq_true, Bool.or_eq_true, decide_eq_true_eq, decide_eq_false_iff_not, Bool.cond_true_left, Bool.cond_false_right, List.cons_append, List.nil_append, List.map_cons, List.map_nil]
    repeat' (first | apply And.intro | intro _hc)
    all_goals first | omega | contradiction | exact AV.le_refl _ | exact AV.le_any _ | exact OLe.refl _ | exact OLe.none _ | exact LeH.refl _ | exact LeL.refl _ | exact AV.le.bs _ | exact AV.le.sb _ | exact rfl | (exfalso; omega) | contradiction
structure pre4 (f bad : Int) (acts : List Ac) (x : X4) : Prop where
  e1 : x.f = f
  e2 : x.bad = bad
  e3 : x.acts = acts
  i : x.i ≤ acts.length
  l : x.l.length ≤ x.i
abbrev O41 : Out := ⟨.exit 0, [.any, .any, .any, .any, .any, .any, .any], [none, none, none, none, none]⟩
abbrev RO4 (f bad : Int) (acts : List Ac) (x : X4) : Prop := RoundOK Tryd.prog Γs 0 159 0 (lp4 0) lv41 nl41 (S41 x) (OwesA S41 (pre4 f bad acts) (fun _ => O41) (fun x => acts.length - x.i) (acts.length - x.i) O41)
theorem go4 {f bad : Int} {acts : List Ac} {fr : List AV} {H : Heap} {x x' : X4} (hi : x.i < acts.length) (h1 : x'.f = f) (h2 : x'.bad = bad) (h3 : x'.acts = acts) (he : x'.i = x.i + 1) (h4 : LeL fr (S41 x').1) (h5 : LeH H (S41 x').2) (h6 : x'.l.length ≤ x.i + 1) :
    ∃ x', LeL fr (S41 x').fst ∧ LeH H (S41 x').snd ∧ pre4 f bad acts x' ∧ acts.length - x'.i < acts.length - x.i :=
  ⟨x', h4, h5, ⟨h1, h2, h3, by omega, by omega⟩, by omega⟩
theorem inner4 {x : X4} (hl : x.l.length ≤ 100000) : ∀ (j : Nat) (b : Code), (loopBodies (lp4 0))[j]? = some b → LoopOK Tryd.prog Γs 0 159 b (L41 x (0 + j)) :=
  fun j b hj => oneLoop (L := fun j => L41 x (0 + j)) (b := lp4 1) (by kernel_rfl) (loop42 hl 0 (Nat.zero_le _)) j b hj
theorem clE {l j : List Sh} : ∃ l1 junk : List Sh, l.length = l1.length ∧ (l ++ j).length = (l1 ++ junk).length ∧ ∀ e, lsF Sh.c (l ++ j) e = Sh.c ((l1 ++ junk).getD e default) := ⟨l, j, rfl, rfl, fun _ => rfl⟩
theorem clE0 {l : List Sh} : ∃ l1 junk : List Sh, l.length = l1.length ∧ l.length = (l1 ++ junk).length ∧ ∀ e, lsF Sh.c l e = Sh.c ((l1 ++ junk).getD e default) := ⟨l, [], rfl, by rw [List.append_nil], fun e => by rw [List.append_nil, lsF_at]⟩
theorem p4out {f bad : Int} {acts : List Ac} {x : X4} (hp : pre4 f bad acts x) (hn : acts.length ≤ 100) (hi : x.i < acts.length) (hk : (x.acts.getD x.i default).k = 0) (h : outS x.f (shOf (x.acts.getD x.i default))) : RO4 f bad acts x := by
  obtain ⟨hp1, hp2, hp3, hp4, hp5⟩ := hp
  have hac : x.acts.length = acts.length := by rw [hp3]
  refine .of (inner4 (x := x) (by first | omega | (dsimp only; omega))) (r4out x h) ?_
  simp only [or_true, true_or, false_or, or_false, and_false, false_and, cond_true, cond_false, Bool.not_true, Bool.not_false, Bool.false_eq_true, Bool.true_eq_false, not_true_eq_false, not_false_eq_true, false_implies, true_implies, implies_true, Nat.blt_eq, owesN, owesX, owesR, notT, sat_brT, sat_brF, sat_chkT, cl_iff, cl_false, AV.le_refl, AV.le_any, OLe_refl, OLe_none, sat_brN, Tree.sat_chk, Tree.sat_leaf, Tree.sat_fail, Nat.zero_add, Nat.sub_zero, Int.toNat_natCast, LeH_cons, LeH_nil, LeL_cons, LeL_nil, and_true, true_and, Bool.and_eq_true, Bool.or_eq_true, decide_eq_true_eq, decide_eq_false_iff_not, Bool.cond_true_left, Bool.cond_false_right, List.cons_append, List.nil_append, List.map_cons, List.map_nil, wrapUpN (show x.i ≤ 1000000000 by omega)]
  repeat' (first | apply And.intro | intro _hc)
  all_goals first | omega | contradiction | exact AV.le_refl _ | exact AV.le_any _ | exact OLe.refl _ | exact OLe.none _ | exact LeH.refl _ | exact LeL.refl _ | exact AV.le.bs _ | exact AV.le.sb _ | exact clE | exact clE0 | exact go4 (x' := { x with i := x.i + 1 }) hi hp1 hp2 hp3 rfl (LeL.refl _) (LeH.refl _) (by first | omega | (dsimp only; omega)) | ((rw [List.append_nil]; exact OLe.refl _)) | (exfalso; omega) | contradiction
theorem p4there {f bad : Int} {acts : List Ac} {x : X4} (hp : pre4 f bad acts x) (hn : acts.length ≤ 100) (hi : x.i < acts.length) (hk : (x.acts.getD x.i default).k = 0) (h : ¬ outS x.f (shOf (x.acts.getD x.i default))) (hx : (shOf (x.acts.getD x.i default)) ∈ x.l) : RO4 f bad acts x := by
  obtain ⟨hp1, hp2, hp3, hp4, hp5⟩ := hp
  have hac : x.acts.length = acts.length := by rw [hp3]
  refine .of (inner4 (x := x) (by first | omega | (dsimp only; omega))) (r4there x h (by omega) hx) ?_
  simp only [or_true, true_or, false_or, or_false, and_false, false_and, cond_true, cond_false, Bool.not_true, Bool.not_false, Bool.false_eq_true, Bool.true_eq_false, not_true_eq_false, not_false_eq_true, false_implies, true_implies, implies_true, Nat.blt_eq, owesN, owesX, owesR, notT, sat_brT, sat_brF, sat_chkT, cl_iff, cl_false, AV.le_refl, AV.le_any, OLe_refl, OLe_none, sat_brN, Tree.sat_chk, Tree.sat_leaf, Tree.sat_fail, Nat.zero_add, Nat.sub_zero, Int.toNat_natCast, LeH_cons, LeH_nil, LeL_cons, LeL_nil, and_true, true_and, Bool.and_eq_true, Bool.or_eq_true, decide_eq_true_eq, decide_eq_false_iff_not, Bool.cond_true_left, Bool.cond_false_right, List.cons_append, List.nil_append, List.map_cons, List.map_nil, wrapUpN (show x.i ≤ 1000000000 by omega)]
  repeat' (first | apply And.intro | intro _hc)
  all_goals first | omega | contradiction | exact AV.le_refl _ | exact AV.le_any _ | exact OLe.refl _ | exact OLe.none _ | exact LeH.refl _ | exact LeL.refl _ | exact AV.le.bs _ | exact AV.le.sb _ | exact clE | exact clE0 | exact go4 (x' := { x with i := x.i + 1 }) hi hp1 hp2 hp3 rfl (LeL.refl _) (LeH.refl _) (by first | omega | (dsimp only; omega)) | ((rw [List.append_nil]; exact OLe.refl _)) | (exfalso; omega) | contradiction
theorem p4new {f bad : Int} {acts : List Ac} {x : X4} (hp : pre4 f bad acts x) (hn : acts.length ≤ 100) (hi : x.i < acts.length) (hk : (x.acts.getD x.i default).k = 0) (h : ¬ outS x.f (shOf (x.acts.getD x.i default))) (hx : ¬ (shOf (x.acts.getD x.i default)) ∈ x.l) : RO4 f bad acts x := by
  obtain ⟨hp1, hp2, hp3, hp4, hp5⟩ := hp
  have hac : x.acts.length = acts.length := by rw [hp3]
  have hla : (x.l ++ [(shOf (x.acts.getD x.i default))]).length = x.l.length + 1 := by simp
  refine .of (inner4 (x := { x with l := x.l ++ [(shOf (x.acts.getD x.i default))], j := [], j' := [] }) (by first | omega | (dsimp only; omega))) (r4new x h (by omega) (by omega) hx) ?_
  simp only [or_true, true_or, false_or, or_false, and_false, false_and, cond_true, cond_false, Bool.not_true, Bool.not_false, Bool.false_eq_true, Bool.true_eq_false, not_true_eq_false, not_false_eq_true, false_implies, true_implies, implies_true, Nat.blt_eq, owesN, owesX, owesR, notT, sat_brT, sat_brF, sat_chkT, cl_iff, cl_false, AV.le_refl, AV.le_any, OLe_refl, OLe_none, sat_brN, Tree.sat_chk, Tree.sat_leaf, Tree.sat_fail, Nat.zero_add, Nat.sub_zero, Int.toNat_natCast, LeH_cons, LeH_nil, LeL_cons, LeL_nil, and_true, true_and, Bool.and_eq_true, Bool.or_eq_true, decide_eq_true_eq, decide_eq_false_iff_not, Bool.cond_true_left, Bool.cond_false_right, List.cons_append, List.nil_append, List.map_cons, List.map_nil, wrapUpN (show x.i ≤ 1000000000 by omega)]
  repeat' (first | apply And.intro | intro _hc)
  all_goals first | omega | contradiction | exact AV.le_refl _ | exact AV.le_any _ | exact OLe.refl _ | exact OLe.none _ | exact LeH.refl _ | exact LeL.refl _ | exact AV.le.bs _ | exact AV.le.sb _ | exact clE | exact clE0 | exact go4 (x' := { { x with l := x.l ++ [(shOf (x.acts.getD x.i default))], j := [], j' := [] } with i := x.i + 1 }) hi hp1 hp2 hp3 rfl (LeL.refl _) (LeH.refl _) (by first | omega | (dsimp only; omega)) | ((rw [List.append_nil]; exact OLe.refl _)) | (exfalso; omega) | contradiction
theorem p4cnt {f bad : Int} {acts : List Ac} {x : X4} (hp : pre4 f bad acts x) (hn : acts.length ≤ 100) (hi : x.i < acts.length) (hk : (x.acts.getD x.i default).k = 1) (hb : inU32 x.bad = true) : RO4 f bad acts x := by
  obtain ⟨hp1, hp2, hp3, hp4, hp5⟩ := hp
  have hac : x.acts.length = acts.length := by rw [hp3]
  refine .of (inner4 (x := x) (by first | omega | (dsimp only; omega))) (r4cnt x hb (by omega)) ?_
  simp only [or_true, true_or, false_or, or_false, and_false, false_and, cond_true, cond_false, Bool.not_true, Bool.not_false, Bool.false_eq_true, Bool.true_eq_false, not_true_eq_false, not_false_eq_true, false_implies, true_implies, implies_true, Nat.blt_eq, owesN, owesX, owesR, notT, sat_brT, sat_brF, sat_chkT, cl_iff, cl_false, AV.le_refl, AV.le_any, OLe_refl, OLe_none, sat_brN, Tree.sat_chk, Tree.sat_leaf, Tree.sat_fail, Nat.zero_add, Nat.sub_zero, Int.toNat_natCast, LeH_cons, LeH_nil, LeL_cons, LeL_nil, and_true, true_and, Bool.and_eq_true, Bool.or_eq_true, decide_eq_true_eq, decide_eq_false_iff_not, Bool.cond_true_left, Bool.cond_false_right, List.cons_append, List.nil_append, List.map_cons, List.map_nil, wrapUpN (show x.i ≤ 1000000000 by omega)]
  repeat' (first | apply And.intro | intro _hc)
  all_goals first | omega | contradiction | exact AV.le_refl _ | exact AV.le_any _ | exact OLe.refl _ | exact OLe.none _ | exact LeH.refl _ | exact LeL.refl _ | exact AV.le.bs _ | exact AV.le.sb _ | exact clE | exact clE0 | exact go4 (x' := { x with i := x.i + 1 }) hi hp1 hp2 hp3 rfl (LeL.refl _) (LeH.refl _) (by first | omega | (dsimp only; omega)) | ((rw [List.append_nil]; exact OLe.refl _)) | (exfalso; omega) | contradiction
theorem p4all {f bad : Int} {acts : List Ac} {x : X4} (hp : pre4 f bad acts x) (hn : acts.length ≤ 100) (hi : x.i < acts.length) (hk : (x.acts.getD x.i default).k = 2) (e : Int) (hu : inU32 (x.acts.getD x.i default).set = true) (hb : inU32 x.bad = true) (h : EnE (x.acts.getD x.i default).set 0 (x.acts.getD x.i default).st x.f x.bad x.l e) : RO4 f bad acts x := by
  obtain ⟨hp1, hp2, hp3, hp4, hp5⟩ := hp
  have hac : x.acts.length = acts.length := by rw [hp3]
  refine .of (inner4 (x := x) (by first | omega | (dsimp only; omega))) (r4all x e hu hb (by omega) h) ?_
  simp only [or_true, true_or, false_or, or_false, and_false, false_and, cond_true, cond_false, Bool.not_true, Bool.not_false, Bool.false_eq_true, Bool.true_eq_false, not_true_eq_false, not_false_eq_true, false_implies, true_implies, implies_true, Nat.blt_eq, owesN, owesX, owesR, notT, sat_brT, sat_brF, sat_chkT, cl_iff, cl_false, AV.le_refl, AV.le_any, OLe_refl, OLe_none, sat_brN, Tree.sat_chk, Tree.sat_leaf, Tree.sat_fail, Nat.zero_add, Nat.sub_zero, Int.toNat_natCast, LeH_cons, LeH_nil, LeL_cons, LeL_nil, and_true, true_and, Bool.and_eq_true, Bool.or_eq_true, decide_eq_true_eq, decide_eq_false_iff_not, Bool.cond_true_left, Bool.cond_false_right, List.cons_append, List.nil_append, List.map_cons, List.map_nil, wrapUpN (show x.i ≤ 1000000000 by omega)]
  repeat' (first | apply And.intro | intro _hc)
  all_goals first | omega | contradiction | exact AV.le_refl _ | exact AV.le_any _ | exact OLe.refl _ | exact OLe.none _ | exact LeH.refl _ | exact LeL.refl _ | exact AV.le.bs _ | exact AV.le.sb _ | exact clE | exact clE0 | exact go4 (x' := { x with i := x.i + 1 }) hi hp1 hp2 hp3 rfl (LeL.refl _) (LeH.refl _) (by first | omega | (dsimp only; omega)) | ((rw [List.append_nil]; exact OLe.refl _)) | (exfalso; omega) | contradiction
theorem p4eno {f bad : Int} {acts : List Ac} {x : X4} (hp : pre4 f bad acts x) (hn : acts.length ≤ 100) (hi : x.i < acts.length) (hk : (x.acts.getD x.i default).k = 3) (e : Int) (hu : inU32 (x.acts.getD x.i default).set = true) (hb : inU32 x.bad = true) (h : EnE (x.acts.getD x.i default).set (x.acts.getD x.i default).le (x.acts.getD x.i default).st x.f x.bad x.l e) : RO4 f bad acts x := by
  obtain ⟨hp1, hp2, hp3, hp4, hp5⟩ := hp
  have hac : x.acts.length = acts.length := by rw [hp3]
  refine .of (inner4 (x := x) (by first | omega | (dsimp only; omega))) (r4eno x e hu hb (by omega) h) ?_
  simp only [or_true, true_or, false_or, or_false, and_false, false_and, cond_true, cond_false, Bool.not_true, Bool.not_false, Bool.false_eq_true, Bool.true_eq_false, not_true_eq_false, not_false_eq_true, false_implies, true_implies, implies_true, Nat.blt_eq, owesN, owesX, owesR, notT, sat_brT, sat_brF, sat_chkT, cl_iff, cl_false, AV.le_refl, AV.le_any, OLe_refl, OLe_none, sat_brN, Tree.sat_chk, Tree.sat_leaf, Tree.sat_fail, Nat.zero_add, Nat.sub_zero, Int.toNat_natCast, LeH_cons, LeH_nil, LeL_cons, LeL_nil, and_true, true_and, Bool.and_eq_true, Bool.or_eq_true, decide_eq_true_eq, decide_eq_false_iff_not, Bool.cond_true_left, Bool.cond_false_right, List.cons_append, List.nil_append, List.map_cons, List.map_nil, wrapUpN (show x.i ≤ 1000000000 by omega)]
  repeat' (first | apply And.intro | intro _hc)
  all_goals first | omega | contradiction | exact AV.le_refl _ | exact AV.le_any _ | exact OLe.refl _ | exact OLe.none _ | exact LeH.refl _ | exact LeL.refl _ | exact AV.le.bs _ | exact AV.le.sb _ | exact clE | exact clE0 | exact go4 (x' := { x with i := x.i + 1 }) hi hp1 hp2 hp3 rfl (LeL.refl _) (LeH.refl _) (by first | omega | (dsimp only; omega)) | ((rw [List.append_nil]; exact OLe.refl _)) | (exfalso; omega) | contradiction
theorem p4else {f bad : Int} {acts : List Ac} {x : X4} (hp : pre4 f bad acts x) (hn : acts.length ≤ 100) (hi : x.i < acts.length) (h0 : (x.acts.getD x.i default).k ≠ 0) (h1 : (x.acts.getD x.i default).k ≠ 1) (h2 : (x.acts.getD x.i default).k ≠ 2) (h3 : (x.acts.getD x.i default).k ≠ 3) : RO4 f bad acts x := by
  obtain ⟨hp1, hp2, hp3, hp4, hp5⟩ := hp
  have hac : x.acts.length = acts.length := by rw [hp3]
  refine .of (inner4 (x := x) (by first | omega | (dsimp only; omega))) (r4end x ) ?_
  simp only [or_true, true_or, false_or, or_false, and_false, false_and, cond_true, cond_false, Bool.not_true, Bool.not_false, Bool.false_eq_true, Bool.true_eq_false, not_true_eq_false, not_false_eq_true, false_implies, true_implies, implies_true, Nat.blt_eq, owesN, owesX, owesR, notT, sat_brT, sat_brF, sat_chkT, cl_iff, cl_false, AV.le_refl, AV.le_any, OLe_refl, OLe_none, sat_brN, Tree.sat_chk, Tree.sat_leaf, Tree.sat_fail, Nat.zero_add, Nat.sub_zero, Int.toNat_natCast, LeH_cons, LeH_nil, LeL_cons, LeL_nil, and_true, true_and, Bool.and_eq_true, Bool.or_eq_true, decide_eq_true_eq, decide_eq_false_iff_not, Bool.cond_true_left, Bool.cond_false_right, List.cons_append, List.nil_append, List.map_cons, List.map_nil, wrapUpN (show x.i ≤ 1000000000 by omega)]
  repeat' (first | apply And.intro | intro _hc)
  all_goals first | omega | contradiction | exact AV.le_refl _ | exact AV.le_any _ | exact OLe.refl _ | exact OLe.none _ | exact LeH.refl _ | exact LeL.refl _ | exact AV.le.bs _ | exact AV.le.sb _ | exact clE | exact clE0 | exact go4 (x' := { x with i := x.i + 1 }) hi hp1 hp2 hp3 rfl (LeL.refl _) (LeH.refl _) (by first | omega | (dsimp only; omega)) | ((rw [List.append_nil]; exact OLe.refl _)) | (exfalso; omega) | contradiction
theorem p4end {f bad : Int} {acts : List Ac} {x : X4} (hp : pre4 f bad acts x) (hn : acts.length ≤ 100) (hi : acts.length ≤ x.i) : RO4 f bad acts x := by
  obtain ⟨hp1, hp2, hp3, hp4, hp5⟩ := hp
  have hac : x.acts.length = acts.length := by rw [hp3]
  refine .of (inner4 (x := x) (by first | omega | (dsimp only; omega))) (r4end x) ?_
  simp only [or_true, true_or, false_or, or_false, and_false, false_and, cond_true, cond_false, Bool.not_true, Bool.not_false, Bool.false_eq_true, Bool.true_eq_false, not_true_eq_false, not_false_eq_true, false_implies, true_implies, implies_true, Nat.blt_eq, owesN, owesX, owesR, notT, sat_brT, sat_brF, sat_chkT, cl_iff, cl_false, AV.le_refl, AV.le_any, OLe_refl, OLe_none, sat_brN, Tree.sat_chk, Tree.sat_leaf, Tree.sat_fail, Nat.zero_add, Nat.sub_zero, Int.toNat_natCast, LeH_cons, LeH_nil, LeL_cons, LeL_nil, and_true, true_and, Bool.and_eq_true, Bool.or_eq_true, decide_eq_true_eq, decide_eq_false_iff_not, Bool.cond_true_left, Bool.cond_false_right, List.cons_append, List.nil_append, List.map_cons, List.map_nil]
  repeat' (first | apply And.intro | intro _hc)
  all_goals first | omega | contradiction | exact AV.le_refl _ | exact AV.le_any _ | exact OLe.refl _ | exact OLe.none _ | exact LeH.refl _ | exact LeL.refl _ | exact AV.le.bs _ | exact AV.le.sb _ | exact rfl | (exfalso; omega) | contradiction
theorem loop41 {f bad : Int} {acts : List Ac} (hn : acts.length ≤ 100) (hb : inU32 bad = true) (hset : ∀ i, i < acts.length → inU32 (acts.getD i default).set = true) : ∀ x, pre4 f bad acts x → LoopOK Tryd.prog Γs 0 159 (lp4 0) (LSpec.at lv41 nl41 (S41 x) O41) := by
  refine loop_at (S := S41) (O := fun _ => O41) (k := 0) (fun x => acts.length - x.i) fun x hp => ?_
  show RO4 f bad acts x
  have hp2 := hp.e2
  have hp3 := hp.e3
  rcases Nat.lt_or_ge x.i acts.length with hi | hi
  case inr => exact p4end hp hn hi
  have hu : inU32 (x.acts.getD x.i default).set = true := by rw [hp3]; exact hset x.i hi
  have hb' : inU32 x.bad = true := by rw [hp2]; exact hb
  by_cases k0 : (x.acts.getD x.i default).k = 0
  · by_cases h : outS x.f (shOf (x.acts.getD x.i default))
    · exact p4out hp hn hi k0 h
    · by_cases hx : (shOf (x.acts.getD x.i default)) ∈ x.l
      · exact p4there hp hn hi k0 h hx
      · exact p4new hp hn hi k0 h hx
  by_cases k1 : (x.acts.getD x.i default).k = 1
  · exact p4cnt hp hn hi k1 hb'
  by_cases k2 : (x.acts.getD x.i default).k = 2
  · obtain ⟨e, he⟩ := EnE.ex (x.acts.getD x.i default).set 0 (x.acts.getD x.i default).st x.f x.bad x.l
    exact p4all hp hn hi k2 e hu hb' he
  by_cases k3 : (x.acts.getD x.i default).k = 3
  · obtain ⟨e, he⟩ := EnE.ex (x.acts.getD x.i default).set (x.acts.getD x.i default).le (x.acts.getD x.i default).st x.f x.bad x.l
    exact p4eno hp hn hi k3 e hu hb' he
  exact p4else hp hn hi k0 k1 k2 k3
end Go.Eng.Si
