/- SignKeeps holds at every input: the table math/bits.deBruijn32tab as the program lays it (tied). -/
import Derived.Test.YtnpfcaecaflfbaaDoorPart4
import Derived.RowKit
import Derived.Carry
import Derived.Test.YtnpfcaecaflfbaaDoorRows
import Derived.Test.YtnpfcaecaflfbaaDoorTie
import Derived.Test.YtnpfcaecaflfbaaDoorCards
import Derived.ProofKit
import Derived.LaidMore
import Derived.OpenShut
import Derived.Stop.Joined
import Derived.SevenTiedAt
/- sign: what each call does, third part. -/
namespace Go.Eng.Si
open Go Go.Eng Go.Eng.M Go.Proofs
set_option linter.unusedSimpArgs false
set_option linter.unusedVariables false
theorem ansIssueROut {x : Sh} {f bad : Int} {l j : List Sh} (h : outS f x) : Answers Tryd.prog Γs 14 [.ptr 0 0, shV x] (DH f bad l j) (.v (.int .i64 40)) ((DH f bad l j).map some) [] :=
  answers (fn := Tryd.f14) (c := bodyOf Tryd.f14) (ntmps := 34) (results := [.tmp 4]) [SiQ.c13] Lno false Tryd.func14 (by kernel_rfl) (by kernel_rfl) (by kernel_rfl) (by kernel_rfl) (by simp) rfl (noLoops (by kernel_rfl)) <| Meets.of (run14o x f bad l j) <| by
    have h1 : x.s < 0 ∨ timesF 3 f ≤ x.s := h
    simp only [or_true, true_or, false_or, or_false, and_false, false_and, cond_true, cond_false, Bool.not_true, Bool.not_false, Bool.false_eq_true, Bool.true_eq_false, not_true_eq_false, not_false_eq_true, false_implies, true_implies, implies_true, Nat.blt_eq, owesN, owesX, owesR, notT, sat_brT, sat_brF, sat_chkT, cl_iff, cl_false, AV.le_refl, AV.le_any, OLe_refl, OLe_none, sat_brN, Tree.sat_chk, Tree.sat_leaf, Tree.sat_fail, Nat.zero_add, Nat.sub_zero, Int.toNat_natCast, LeH_cons, LeH_nil, LeL_cons, LeL_nil, and_true, true_and, Bool.and_eq_true, Bool.or_eq_true, decide_eq_true_eq, decide_eq_false_iff_not, Bool.cond_true_left, Bool.cond_false_right, List.cons_append, List.nil_append, List.map_cons, List.map_nil, repT]
    repeat' (first | apply And.intro | intro _hc)
    all_goals first | omega | contradiction | exact AV.le_refl _ | exact AV.le_any _ | exact OLe.refl _ | exact OLe.none _ | exact LeH.refl _ | exact LeL.refl _ | exact AV.le.bs _ | exact AV.le.sb _ | (exfalso; omega) | contradiction
theorem ansIssueRThere {x : Sh} {f bad : Int} {l j : List Sh} (h : ¬ outS f x) (hs : l.length ≤ 100000) (hx : x ∈ l) : Answers Tryd.prog Γs 14 [.ptr 0 0, shV x] (DH f bad l j) (.v (.int .i64 0)) ((DH f bad l j).map some) [] :=
  answers (fn := Tryd.f14) (c := bodyOf Tryd.f14) (ntmps := 34) (results := [.tmp 4]) [SiQ.c13, CT.at 29 (ansHasY (f := f) (bad := bad) (j := j) hs hx)] Lno false Tryd.func14 (by kernel_rfl) (by kernel_rfl) (by kernel_rfl) (by kernel_rfl) (by simp) rfl (noLoops (by kernel_rfl)) <| Meets.of (run14y x f bad l j hs hx) <| by
    have h1 := outS_not h
    simp only [or_true, true_or, false_or, or_false, and_false, false_and, cond_true, cond_false, Bool.not_true, Bool.not_false, Bool.false_eq_true, Bool.true_eq_false, not_true_eq_false, not_false_eq_true, false_implies, true_implies, implies_true, Nat.blt_eq, owesN, owesX, owesR, notT, sat_brT, sat_brF, sat_chkT, cl_iff, cl_false, AV.le_refl, AV.le_any, OLe_refl, OLe_none, sat_brN, Tree.sat_chk, Tree.sat_leaf, Tree.sat_fail, Nat.zero_add, Nat.sub_zero, Int.toNat_natCast, LeH_cons, LeH_nil, LeL_cons, LeL_nil, and_true, true_and, Bool.and_eq_true, Bool.or_eq_true, decide_eq_true_eq, decide_eq_false_iff_not, Bool.cond_true_left, Bool.cond_false_right, List.cons_append, List.nil_append, List.map_cons, List.map_nil, repT]
    repeat' (first | apply And.intro | intro _hc)
    all_goals first | omega | contradiction | exact AV.le_refl _ | exact AV.le_any _ | exact OLe.refl _ | exact OLe.none _ | exact LeH.refl _ | exact LeL.refl _ | exact AV.le.bs _ | exact AV.le.sb _ | (exfalso; omega) | contradiction
theorem ansIssueRNew {x : Sh} {f bad : Int} {l j : List Sh} (h : ¬ outS f x) (hs : l.length ≤ 100000) (hx : ¬ x ∈ l) : Answers Tryd.prog Γs 14 [.ptr 0 0, shV x] (DH f bad l j) (.v (.int .i64 0)) [some (sgD 2 f bad (l ++ [x]).length), some (shB (l ++ j))] [shB (l ++ [x])] :=
  answers (fn := Tryd.f14) (c := bodyOf Tryd.f14) (ntmps := 34) (results := [.tmp 4]) [SiQ.c13, CT.at 29 (ansHasN (f := f) (bad := bad) (j := j) hs hx)] Lno false Tryd.func14 (by kernel_rfl) (by kernel_rfl) (by kernel_rfl) (by kernel_rfl) (by simp) rfl (noLoops (by kernel_rfl)) <| Meets.of (run14n x f bad l j hs hx) <| by
    have h1 := outS_not h
    have hl : (l ++ [x]).length = l.length + 1 := by simp
    simp only [or_true, true_or, false_or, or_false, and_false, false_and, cond_true, cond_false, Bool.not_true, Bool.not_false, Bool.false_eq_true, Bool.true_eq_false, not_true_eq_false, not_false_eq_true, false_implies, true_implies, implies_true, Nat.blt_eq, owesN, owesX, owesR, notT, sat_brT, sat_brF, sat_chkT, cl_iff, cl_false, AV.le_refl, AV.le_any, OLe_refl, OLe_none, sat_brN, Tree.sat_chk, Tree.sat_leaf, Tree.sat_fail, Nat.zero_add, Nat.sub_zero, Int.toNat_natCast, LeH_cons, LeH_nil, LeL_cons, LeL_nil, and_true, true_and, Bool.and_eq_true, Bool.or_eq_true, decide_eq_true_eq, decide_eq_false_iff_not, Bool.cond_true_left, Bool.cond_false_right, List.cons_append, List.nil_append, List.map_cons, List.map_nil, repT]
    repeat' (first | apply And.intro | intro _hc)
    all_goals first | omega | contradiction | exact AV.le_refl _ | exact AV.le_any _ | exact OLe.refl _ | exact OLe.none _ | exact LeH.refl _ | exact LeL.refl _ | exact AV.le.bs _ | exact AV.le.sb _ | exact room88 (by omega) | ((rw [hl]; exact OLe.refl _)) | exact Sh.cod.app2 l j x default default rfl rfl | (exfalso; omega) | contradiction
theorem ansCountsR {x : Sh} {f bad : Int} {l j : List Sh} (hb : inU32 bad = true) (hs : l.length ≤ 100000) : Answers Tryd.prog Γs 16 [.ptr 0 0, shV x] (DH f bad l j) (.v (.int .i64 (cntE f bad l x))) ((DH f bad l j).map some) [] := by
  unfold cntE
  by_cases h : x.s < 0 ∨ timesF 3 f ≤ x.s
  · rw [if_pos h]
    exact answers (fn := Tryd.f16) (c := bodyOf Tryd.f16) (ntmps := 30) (results := [.tmp 4]) [SiQ.c13, SiQ.c23] Lno false Tryd.func16 (by kernel_rfl) (by kernel_rfl) (by kernel_rfl) (by kernel_rfl) (by simp) rfl (noLoops (by kernel_rfl)) <| Meets.of (run16o x f bad l j) <| by
      simp only [or_true, true_or, false_or, or_false, and_false, false_and, cond_true, cond_false, Bool.not_true, Bool.not_false, Bool.false_eq_true, Bool.true_eq_false, not_true_eq_false, not_false_eq_true, false_implies, true_implies, implies_true, Nat.blt_eq, owesN, owesX, owesR, notT, sat_brT, sat_brF, sat_chkT, cl_iff, cl_false, AV.le_refl, AV.le_any, OLe_refl, OLe_none, sat_brN, Tree.sat_chk, Tree.sat_leaf, Tree.sat_fail, Nat.zero_add, Nat.sub_zero, Int.toNat_natCast, LeH_cons, LeH_nil, LeL_cons, LeL_nil, and_true, true_and, Bool.and_eq_true, Bool.or_eq_true, decide_eq_true_eq, decide_eq_false_iff_not, Bool.cond_true_left, Bool.cond_false_right, List.cons_append, List.nil_append, List.map_cons, List.map_nil, repT]
      repeat' (first | apply And.intro | intro _hc)
      all_goals first | omega | contradiction | exact AV.le_refl _ | exact AV.le_any _ | exact OLe.refl _ | exact OLe.none _ | exact LeH.refl _ | exact LeL.refl _ | exact AV.le.bs _ | exact AV.le.sb _ | (exfalso; omega) | contradiction
  · rw [if_neg h]
    have h1 := outS_not h
    by_cases hx : x ∈ l
    · have h2 := hasS_iff.2 hx
      cases hh : hasB bad x.s with
      | true =>
        rw [if_pos rfl]
        exact answers (fn := Tryd.f16) (c := bodyOf Tryd.f16) (ntmps := 30) (results := [.tmp 4]) [SiQ.c13, SiQ.c23, CT.at 29 (ansHasY (f := f) (bad := bad) (j := j) hs hx)] Lno false Tryd.func16 (by kernel_rfl) (by kernel_rfl) (by kernel_rfl) (by kernel_rfl) (by simp) rfl (noLoops (by kernel_rfl)) <| Meets.of (run16y x f bad l j hs hx) <| by
          simp only [or_true, true_or, false_or, or_false, and_false, false_and, cond_true, cond_false, Bool.not_true, Bool.not_false, Bool.false_eq_true, Bool.true_eq_false, not_true_eq_false, not_false_eq_true, false_implies, true_implies, implies_true, Nat.blt_eq, owesN, owesX, owesR, notT, sat_brT, sat_brF, sat_chkT, cl_iff, cl_false, AV.le_refl, AV.le_any, OLe_refl, OLe_none, sat_brN, Tree.sat_chk, Tree.sat_leaf, Tree.sat_fail, Nat.zero_add, Nat.sub_zero, Int.toNat_natCast, LeH_cons, LeH_nil, LeL_cons, LeL_nil, and_true, true_and, Bool.and_eq_true, Bool.or_eq_true, decide_eq_true_eq, decide_eq_false_iff_not, Bool.cond_true_left, Bool.cond_false_right, List.cons_append, List.nil_append, List.map_cons, List.map_nil, repT, hb, hh]
          repeat' (first | apply And.intro | intro _hc)
          all_goals first | omega | contradiction | exact AV.le_refl _ | exact AV.le_any _ | exact OLe.refl _ | exact OLe.none _ | exact LeH.refl _ | exact LeL.refl _ | exact AV.le.bs _ | exact AV.le.sb _ | (exfalso; omega) | contradiction
      | false =>
        rw [if_neg (by simp), if_pos h2]
        exact answers (fn := Tryd.f16) (c := bodyOf Tryd.f16) (ntmps := 30) (results := [.tmp 4]) [SiQ.c13, SiQ.c23, CT.at 29 (ansHasY (f := f) (bad := bad) (j := j) hs hx)] Lno false Tryd.func16 (by kernel_rfl) (by kernel_rfl) (by kernel_rfl) (by kernel_rfl) (by simp) rfl (noLoops (by kernel_rfl)) <| Meets.of (run16y x f bad l j hs hx) <| by
          simp only [or_true, true_or, false_or, or_false, and_false, false_and, cond_true, cond_false, Bool.not_true, Bool.not_false, Bool.false_eq_true, Bool.true_eq_false, not_true_eq_false, not_false_eq_true, false_implies, true_implies, implies_true, Nat.blt_eq, owesN, owesX, owesR, notT, sat_brT, sat_brF, sat_chkT, cl_iff, cl_false, AV.le_refl, AV.le_any, OLe_refl, OLe_none, sat_brN, Tree.sat_chk, Tree.sat_leaf, Tree.sat_fail, Nat.zero_add, Nat.sub_zero, Int.toNat_natCast, LeH_cons, LeH_nil, LeL_cons, LeL_nil, and_true, true_and, Bool.and_eq_true, Bool.or_eq_true, decide_eq_true_eq, decide_eq_false_iff_not, Bool.cond_true_left, Bool.cond_false_right, List.cons_append, List.nil_append, List.map_cons, List.map_nil, repT, hb, hh]
          repeat' (first | apply And.intro | intro _hc)
          all_goals first | omega | contradiction | exact AV.le_refl _ | exact AV.le_any _ | exact OLe.refl _ | exact OLe.none _ | exact LeH.refl _ | exact LeL.refl _ | exact AV.le.bs _ | exact AV.le.sb _ | (exfalso; omega) | contradiction
    · have h2 : ¬ hasS l (shK x) = true := fun h => hx (hasS_iff.1 h)
      cases hh : hasB bad x.s with
      | true =>
        rw [if_pos rfl]
        exact answers (fn := Tryd.f16) (c := bodyOf Tryd.f16) (ntmps := 30) (results := [.tmp 4]) [SiQ.c13, SiQ.c23, CT.at 29 (ansHasN (f := f) (bad := bad) (j := j) hs hx)] Lno false Tryd.func16 (by kernel_rfl) (by kernel_rfl) (by kernel_rfl) (by kernel_rfl) (by simp) rfl (noLoops (by kernel_rfl)) <| Meets.of (run16n x f bad l j hs hx) <| by
          simp only [or_true, true_or, false_or, or_false, and_false, false_and, cond_true, cond_false, Bool.not_true, Bool.not_false, Bool.false_eq_true, Bool.true_eq_false, not_true_eq_false, not_false_eq_true, false_implies, true_implies, implies_true, Nat.blt_eq, owesN, owesX, owesR, notT, sat_brT, sat_brF, sat_chkT, cl_iff, cl_false, AV.le_refl, AV.le_any, OLe_refl, OLe_none, sat_brN, Tree.sat_chk, Tree.sat_leaf, Tree.sat_fail, Nat.zero_add, Nat.sub_zero, Int.toNat_natCast, LeH_cons, LeH_nil, LeL_cons, LeL_nil, and_true, true_and, Bool.and_eq_true, Bool.or_eq_true, decide_eq_true_eq, decide_eq_false_iff_not, Bool.cond_true_left, Bool.cond_false_right, List.cons_append, List.nil_append, List.map_cons, List.map_nil, repT, hb, hh]
          repeat' (first | apply And.intro | intro _hc)
          all_goals first | omega | contradiction | exact AV.le_refl _ | exact AV.le_any _ | exact OLe.refl _ | exact OLe.none _ | exact LeH.refl _ | exact LeL.refl _ | exact AV.le.bs _ | exact AV.le.sb _ | (exfalso; omega) | contradiction
      | false =>
        rw [if_neg (by simp), if_neg h2]
        exact answers (fn := Tryd.f16) (c := bodyOf Tryd.f16) (ntmps := 30) (results := [.tmp 4]) [SiQ.c13, SiQ.c23, CT.at 29 (ansHasN (f := f) (bad := bad) (j := j) hs hx)] Lno false Tryd.func16 (by kernel_rfl) (by kernel_rfl) (by kernel_rfl) (by kernel_rfl) (by simp) rfl (noLoops (by kernel_rfl)) <| Meets.of (run16n x f bad l j hs hx) <| by
          simp only [or_true, true_or, false_or, or_false, and_false, false_and, cond_true, cond_false, Bool.not_true, Bool.not_false, Bool.false_eq_true, Bool.true_eq_false, not_true_eq_false, not_false_eq_true, false_implies, true_implies, implies_true, Nat.blt_eq, owesN, owesX, owesR, notT, sat_brT, sat_brF, sat_chkT, cl_iff, cl_false, AV.le_refl, AV.le_any, OLe_refl, OLe_none, sat_brN, Tree.sat_chk, Tree.sat_leaf, Tree.sat_fail, Nat.zero_add, Nat.sub_zero, Int.toNat_natCast, LeH_cons, LeH_nil, LeL_cons, LeL_nil, and_true, true_and, Bool.and_eq_true, Bool.or_eq_true, decide_eq_true_eq, decide_eq_false_iff_not, Bool.cond_true_left, Bool.cond_false_right, List.cons_append, List.nil_append, List.map_cons, List.map_nil, repT, hb, hh]
          repeat' (first | apply And.intro | intro _hc)
          all_goals first | omega | contradiction | exact AV.le_refl _ | exact AV.le_any _ | exact OLe.refl _ | exact OLe.none _ | exact LeH.refl _ | exact LeL.refl _ | exact AV.le.bs _ | exact AV.le.sb _ | (exfalso; omega) | contradiction
theorem ansAllChk {s : Int} {st : St} {f bad : Int} {l j : List Sh} (hu : inU32 s = true) (h : checkF f s ≠ 0) : Answers Tryd.prog Γs 8 [.ptr 0 0, .agg st.c, .v (.int .u32 s)] (SH f bad l j) (.v (.int .i64 (checkF f s))) ((SH f bad l j).map some) [] :=
  answers (fn := Tryd.f8) (c := bodyOf Tryd.f8) (ntmps := 38) (results := [.tmp 6]) [SiQ.c21, SiQ.c17] (Lno) false Tryd.func8 (by kernel_rfl) (by kernel_rfl) (by kernel_rfl) (by kernel_rfl) (by simp) rfl (failOK fun _ _ _ => rfl) <| Meets.of (run8c s st f bad l j) <| by
    simp only [or_true, true_or, false_or, or_false, and_false, false_and, cond_true, cond_false, Bool.not_true, Bool.not_false, Bool.false_eq_true, Bool.true_eq_false, not_true_eq_false, not_false_eq_true, false_implies, true_implies, implies_true, Nat.blt_eq, owesN, owesX, owesR, notT, sat_brT, sat_brF, sat_chkT, cl_iff, cl_false, AV.le_refl, AV.le_any, OLe_refl, OLe_none, sat_brN, Tree.sat_chk, Tree.sat_leaf, Tree.sat_fail, Nat.zero_add, Nat.sub_zero, Int.toNat_natCast, LeH_cons, LeH_nil, LeL_cons, LeL_nil, and_true, true_and, Bool.and_eq_true, Bool.or_eq_true, decide_eq_true_eq, decide_eq_false_iff_not, Bool.cond_true_left, Bool.cond_false_right, List.cons_append, List.nil_append, List.map_cons, List.map_nil, hu, h]
    repeat' (first | apply And.intro | intro _hc)
    all_goals first | omega | contradiction | exact AV.le_refl _ | exact AV.le_any _ | exact OLe.refl _ | exact OLe.none _ | exact LeH.refl _ | exact LeL.refl _ | exact AV.le.bs _ | exact AV.le.sb _ | (exfalso; omega) | contradiction
theorem ansAllErr {s : Int} {st : St} {f bad : Int} {l j : List Sh} (hu : inU32 s = true) (hb : inU32 bad = true) (h : checkF f s = 0) {p : Nat} (h2 : p < pc s) (h3 : cAt s st f bad l p ≠ 0) (h4 : ∀ q, q < p → cAt s st f bad l q = 0) : Answers Tryd.prog Γs 8 [.ptr 0 0, .agg st.c, .v (.int .u32 s)] (SH f bad l j) (.v (.int .i64 (cAt s st f bad l p))) ((SH f bad l j).map some) [] :=
  answers (fn := Tryd.f8) (c := bodyOf Tryd.f8) (ntmps := 38) (results := [.tmp 6]) [SiQ.c21, SiQ.c17] (fun _ => LSpec.at [0, 4, 23, 24, 25, 6] [] (S8 s st f bad l j 0) (O8y s st f bad l j (cAt s st f bad l p))) false Tryd.func8 (by kernel_rfl) (by kernel_rfl) (by kernel_rfl) (by kernel_rfl) (by simp) rfl (oneLoop (b := lp8) (by kernel_rfl) (loop8y hb h2 h3 h4 0 (Nat.zero_le _))) <| Meets.of (run8y s (cAt s st f bad l p) st f bad l j) <| by
    simp only [or_true, true_or, false_or, or_false, and_false, false_and, cond_true, cond_false, Bool.not_true, Bool.not_false, Bool.false_eq_true, Bool.true_eq_false, not_true_eq_false, not_false_eq_true, false_implies, true_implies, implies_true, Nat.blt_eq, owesN, owesX, owesR, notT, sat_brT, sat_brF, sat_chkT, cl_iff, cl_false, AV.le_refl, AV.le_any, OLe_refl, OLe_none, sat_brN, Tree.sat_chk, Tree.sat_leaf, Tree.sat_fail, Nat.zero_add, Nat.sub_zero, Int.toNat_natCast, LeH_cons, LeH_nil, LeL_cons, LeL_nil, and_true, true_and, Bool.and_eq_true, Bool.or_eq_true, decide_eq_true_eq, decide_eq_false_iff_not, Bool.cond_true_left, Bool.cond_false_right, List.cons_append, List.nil_append, List.map_cons, List.map_nil, hu, h]
    repeat' (first | apply And.intro | intro _hc)
    all_goals first | omega | contradiction | exact AV.le_refl _ | exact AV.le_any _ | exact OLe.refl _ | exact OLe.none _ | exact LeH.refl _ | exact LeL.refl _ | exact AV.le.bs _ | exact AV.le.sb _ | (exfalso; omega) | contradiction
theorem ansAllOk {s : Int} {st : St} {f bad : Int} {l j : List Sh} (hu : inU32 s = true) (hb : inU32 bad = true) (h : checkF f s = 0) (h4 : ∀ q, q < pc s → cAt s st f bad l q = 0) : Answers Tryd.prog Γs 8 [.ptr 0 0, .agg st.c, .v (.int .u32 s)] (SH f bad l j) (.v (.int .i64 0)) ((SH f bad l j).map some) [] :=
  answers (fn := Tryd.f8) (c := bodyOf Tryd.f8) (ntmps := 38) (results := [.tmp 6]) [SiQ.c21, SiQ.c17] (fun _ => LSpec.at [0, 4, 23, 24, 25, 6] [] (S8 s st f bad l j 0) (O8n s st f bad l j)) false Tryd.func8 (by kernel_rfl) (by kernel_rfl) (by kernel_rfl) (by kernel_rfl) (by simp) rfl (oneLoop (b := lp8) (by kernel_rfl) (loop8n hb h4 0 (Nat.zero_le _))) <| Meets.of (run8n s st f bad l j) <| by
    simp only [or_true, true_or, false_or, or_false, and_false, false_and, cond_true, cond_false, Bool.not_true, Bool.not_false, Bool.false_eq_true, Bool.true_eq_false, not_true_eq_false, not_false_eq_true, false_implies, true_implies, implies_true, Nat.blt_eq, owesN, owesX, owesR, notT, sat_brT, sat_brF, sat_chkT, cl_iff, cl_false, AV.le_refl, AV.le_any, OLe_refl, OLe_none, sat_brN, Tree.sat_chk, Tree.sat_leaf, Tree.sat_fail, Nat.zero_add, Nat.sub_zero, Int.toNat_natCast, LeH_cons, LeH_nil, LeL_cons, LeL_nil, and_true, true_and, Bool.and_eq_true, Bool.or_eq_true, decide_eq_true_eq, decide_eq_false_iff_not, Bool.cond_true_left, Bool.cond_false_right, List.cons_append, List.nil_append, List.map_cons, List.map_nil, hu, h]
    repeat' (first | apply And.intro | intro _hc)
    all_goals first | omega | contradiction | exact AV.le_refl _ | exact AV.le_any _ | exact OLe.refl _ | exact OLe.none _ | exact LeH.refl _ | exact LeL.refl _ | exact AV.le.bs _ | exact AV.le.sb _ | (exfalso; omega) | contradiction
theorem run12 (s le e : Int) (st : St) (f bad : Int) (l j : List Sh) (h : Answers Tryd.prog Γs 8 [.ptr 0 0, .agg st.c, .v (.int .u32 s)] (SH f bad l j) (.v (.int .i64 e)) ((SH f bad l j).map some) []) : bodyE (P := Tryd.prog) (Γ := Γs) [CT.at 8 h, SiQ.c10] Lno false 21 [.tmp 8] (bodyOf Tryd.f12) [.ptr 0 0, .agg st.c, .v (.int .u32 s), .v (.int .i64 le)] (SH f bad l j) =
  Tree.chk (cl (LeL [AV.ptr (0 : Nat) (0 : Nat), AV.agg [AV.v (Value.int IntKind.i64 st.k), AV.v (Value.int IntKind.i64 st.b), AV.v (Value.int IntKind.i64 st.v), AV.v (Value.int IntKind.i64
    st.r), AV.v (Value.int IntKind.i64 st.h), AV.v (Value.int IntKind.i64 st.a), AV.v (Value.int IntKind.i64 st.hk), AV.v (Value.int IntKind.i64 st.hb), AV.v (Value.int IntKind.i64 st.hv),
    AV.v (Value.int IntKind.i64 st.hr)], AV.v (Value.int IntKind.u32 s)] [AV.ptr (0 : Nat) (0 : Nat), AV.agg [AV.v (Value.int IntKind.i64 st.k), AV.v (Value.int IntKind.i64 st.b), AV.v
    (Value.int IntKind.i64 st.v), AV.v (Value.int IntKind.i64 st.r), AV.v (Value.int IntKind.i64 st.h), AV.v (Value.int IntKind.i64 st.a), AV.v (Value.int IntKind.i64 st.hk), AV.v (Value.int
    IntKind.i64 st.hb), AV.v (Value.int IntKind.i64 st.hv), AV.v (Value.int IntKind.i64 st.hr)], AV.v (Value.int IntKind.u32 s)] ∧ LeH [some (Blk.row [AV.v (Value.int IntKind.i64 f), AV.v
    (Value.int IntKind.u32 bad), AV.map (1 : Nat), AV.hs (2 : Nat) (0 : Nat) (List.length l)]), some (Blk.mp [Cel.int IntKind.i64, Cel.int IntKind.i64, Cel.int IntKind.i64, Cel.int
    IntKind.i64, Cel.int IntKind.i64, Cel.int IntKind.i64, Cel.int IntKind.i64, Cel.int IntKind.i64, Cel.int IntKind.i64, Cel.int IntKind.i64, Cel.int IntKind.i64] true false (List.length l)
    (hasS l) anyV), some (Blk.arr (11 : Nat) (List.length (l ++ j)) (lsF Sh.c (l ++ j)))] [some (Blk.row [AV.v (Value.int IntKind.i64 f), AV.v (Value.int IntKind.u32 bad), AV.map (1 : Nat),
    AV.hs (2 : Nat) (0 : Nat) (List.length l)]), some (Blk.mp [Cel.int IntKind.i64, Cel.int IntKind.i64, Cel.int IntKind.i64, Cel.int IntKind.i64, Cel.int IntKind.i64, Cel.int IntKind.i64,
    Cel.int IntKind.i64, Cel.int IntKind.i64, Cel.int IntKind.i64, Cel.int IntKind.i64, Cel.int IntKind.i64] true false (List.length l) (hasS l) anyV), some (Blk.arr (11 : Nat) (List.length
    (l ++ j)) (lsF Sh.c (l ++ j)))])) (Tree.br (!decide (e = (0 : Int))) (Tree.leaf (Ans.mk (AV.v (Value.int IntKind.i64 e)) [some (Blk.row [AV.v (Value.int IntKind.i64 f), AV.v (Value.int
    IntKind.u32 bad), AV.map (1 : Nat), AV.hs (2 : Nat) (0 : Nat) (List.length l)]), some (Blk.mp [Cel.int IntKind.i64, Cel.int IntKind.i64, Cel.int IntKind.i64, Cel.int IntKind.i64, Cel.int
    IntKind.i64, Cel.int IntKind.i64, Cel.int IntKind.i64, Cel.int IntKind.i64, Cel.int IntKind.i64, Cel.int IntKind.i64, Cel.int IntKind.i64] true false (List.length l) (hasS l) anyV), some
    (Blk.arr (11 : Nat) (List.length (l ++ j)) (lsF Sh.c (l ++ j)))])) (Tree.chk (inU32 s) (Tree.br (decide ((↑(pc s) : Int) < le)) (Tree.leaf (Ans.mk (AV.v (Value.int IntKind.i64 (61 :
    Int))) [some (Blk.row [AV.v (Value.int IntKind.i64 f), AV.v (Value.int IntKind.u32 bad), AV.map (1 : Nat), AV.hs (2 : Nat) (0 : Nat) (List.length l)]), some (Blk.mp [Cel.int IntKind.i64,
    Cel.int IntKind.i64, Cel.int IntKind.i64, Cel.int IntKind.i64, Cel.int IntKind.i64, Cel.int IntKind.i64, Cel.int IntKind.i64, Cel.int IntKind.i64, Cel.int IntKind.i64, Cel.int
    IntKind.i64, Cel.int IntKind.i64] true false (List.length l) (hasS l) anyV), some (Blk.arr (11 : Nat) (List.length (l ++ j)) (lsF Sh.c (l ++ j)))])) (Tree.leaf (Ans.mk (AV.v (Value.int
    IntKind.i64 (0 : Int))) [some (Blk.row [AV.v (Value.int IntKind.i64 f), AV.v (Value.int IntKind.u32 bad), AV.map (1 : Nat), AV.hs (2 : Nat) (0 : Nat) (List.length l)]), some (Blk.mp
    [Cel.int IntKind.i64, Cel.int IntKind.i64, Cel.int IntKind.i64, Cel.int IntKind.i64, Cel.int IntKind.i64, Cel.int IntKind.i64, Cel.int IntKind.i64, Cel.int IntKind.i64, Cel.int
    IntKind.i64, Cel.int IntKind.i64, Cel.int IntKind.i64] true false (List.length l) (hasS l) anyV), some (Blk.arr (11 : Nat) (List.length (l ++ j)) (lsF Sh.c (l ++ j)))]))))) := by kernel_rfl
def S17 (s le : Int) (st : St) (f bad : Int) (l j : List Sh) (k : Nat) : List AV × Heap := ([.ptr 0 0, .v (.int .u32 s), .v (.int .i64 le), .ptr 2 0, .hs 3 0 (pc s), .v (.int .i64 (k : Int)), .any], (DH f bad l j ++ [Blk.row st.c, Blk.arr 1 (pc s) (ints (nth s))]).map some)
theorem r17 (s le : Int) (st : St) (f bad : Int) (l j : List Sh) (k : Nat) (hb : inU32 bad = true) (hs : l.length ≤ 100000) : roundE (P := Tryd.prog) (Γ := Γs) [CT.at 16 (ansCountsR (x := ⟨nth s k, st⟩) (f := f) (bad := bad) (l := l) (j := j) hb hs)] Lno false 2 0 lp17 [0, 2, 3, 5, 10, 11, 8] [] 44 (S17 s le st f bad l j k).1 (S17 s le st f bad l j k).2 =
  Tree.br (decide ((↑k : Int) < (↑(pc s) : Int))) (Tree.chk (decide ((0 : Int) ≤ (↑k : Int)) && decide ((↑k : Int) < (↑(pc s) : Int))) (Tree.chk (cl (LeL [AV.ptr (0 : Nat) (0 : Nat), AV.agg
    [AV.v (Value.int IntKind.i64 (nth s ((0 : Nat) + k))), AV.v (Value.int IntKind.i64 st.k), AV.v (Value.int IntKind.i64 st.b), AV.v (Value.int IntKind.i64 st.v), AV.v (Value.int
    IntKind.i64 st.r), AV.v (Value.int IntKind.i64 st.h), AV.v (Value.int IntKind.i64 st.a), AV.v (Value.int IntKind.i64 st.hk), AV.v (Value.int IntKind.i64 st.hb), AV.v (Value.int
    IntKind.i64 st.hv), AV.v (Value.int IntKind.i64 st.hr)]] [AV.ptr (0 : Nat) (0 : Nat), AV.agg [AV.v (Value.int IntKind.i64 (nth s k)), AV.v (Value.int IntKind.i64 st.k), AV.v (Value.int
    IntKind.i64 st.b), AV.v (Value.int IntKind.i64 st.v), AV.v (Value.int IntKind.i64 st.r), AV.v (Value.int IntKind.i64 st.h), AV.v (Value.int IntKind.i64 st.a), AV.v (Value.int IntKind.i64
    st.hk), AV.v (Value.int IntKind.i64 st.hb), AV.v (Value.int IntKind.i64 st.hv), AV.v (Value.int IntKind.i64 st.hr)]] ∧ LeH [some (Blk.row [AV.v (Value.int IntKind.i64 f), AV.v (Value.int
    IntKind.u32 bad), AV.hs (1 : Nat) (0 : Nat) (List.length l)]), some (Blk.arr (11 : Nat) (List.length (l ++ j)) (lsF Sh.c (l ++ j)))] [some (Blk.row [AV.v (Value.int IntKind.i64 f), AV.v
    (Value.int IntKind.u32 bad), AV.hs (1 : Nat) (0 : Nat) (List.length l)]), some (Blk.arr (11 : Nat) (List.length (l ++ j)) (lsF Sh.c (l ++ j)))])) (Tree.br (!decide (cntE f bad l (Sh.mk
    (nth s k) st) = (0 : Int))) (Tree.leaf (Out.mk AEx.ret [AV.ptr (0 : Nat) (0 : Nat), AV.v (Value.int IntKind.u32 s), AV.v (Value.int IntKind.i64 le), AV.ptr (2 : Nat) (0 : Nat), AV.hs (3
    : Nat) (0 : Nat) (pc s), AV.v (Value.int IntKind.i64 (↑k : Int)), AV.v (Value.int IntKind.i64 (cntE f bad l (Sh.mk (nth s k) st)))] [some (Blk.row [AV.v (Value.int IntKind.i64 f), AV.v
    (Value.int IntKind.u32 bad), AV.hs (1 : Nat) (0 : Nat) (List.length l)]), some (Blk.arr (11 : Nat) (List.length (l ++ j)) (lsF Sh.c (l ++ j))), some (Blk.row [AV.v (Value.int IntKind.i64
    st.k), AV.v (Value.int IntKind.i64 st.b), AV.v (Value.int IntKind.i64 st.v), AV.v (Value.int IntKind.i64 st.r), AV.v (Value.int IntKind.i64 st.h), AV.v (Value.int IntKind.i64 st.a), AV.v
    (Value.int IntKind.i64 st.hk), AV.v (Value.int IntKind.i64 st.hb), AV.v (Value.int IntKind.i64 st.hv), AV.v (Value.int IntKind.i64 st.hr)]), some (Blk.arr (1 : Nat) (pc s) fun i => [AV.v
    (Value.int IntKind.i64 (nth s i))])])) (Tree.leaf (Out.mk AEx.normal [AV.ptr (0 : Nat) (0 : Nat), AV.v (Value.int IntKind.u32 s), AV.v (Value.int IntKind.i64 le), AV.ptr (2 : Nat) (0 :
    Nat), AV.hs (3 : Nat) (0 : Nat) (pc s), AV.v (Value.int IntKind.i64 (IntKind.wrap IntKind.i64 ((↑k : Int) + (1 : Int)))), AV.any] [some (Blk.row [AV.v (Value.int IntKind.i64 f), AV.v
    (Value.int IntKind.u32 bad), AV.hs (1 : Nat) (0 : Nat) (List.length l)]), some (Blk.arr (11 : Nat) (List.length (l ++ j)) (lsF Sh.c (l ++ j))), some (Blk.row [AV.v (Value.int IntKind.i64
    st.k), AV.v (Value.int IntKind.i64 st.b), AV.v (Value.int IntKind.i64 st.v), AV.v (Value.int IntKind.i64 st.r), AV.v (Value.int IntKind.i64 st.h), AV.v (Value.int IntKind.i64 st.a), AV.v
    (Value.int IntKind.i64 st.hk), AV.v (Value.int IntKind.i64 st.hb), AV.v (Value.int IntKind.i64 st.hv), AV.v (Value.int IntKind.i64 st.hr)]), some (Blk.arr (1 : Nat) (pc s) fun i => [AV.v
    (Value.int IntKind.i64 (nth s i))])]))))) (Tree.leaf (Out.mk (AEx.exit (0 : Nat)) [AV.ptr (0 : Nat) (0 : Nat), AV.v (Value.int IntKind.u32 s), AV.v (Value.int IntKind.i64 le), AV.ptr (2
    : Nat) (0 : Nat), AV.hs (3 : Nat) (0 : Nat) (pc s), AV.v (Value.int IntKind.i64 (↑k : Int)), AV.any] [some (Blk.row [AV.v (Value.int IntKind.i64 f), AV.v (Value.int IntKind.u32 bad),
    AV.hs (1 : Nat) (0 : Nat) (List.length l)]), some (Blk.arr (11 : Nat) (List.length (l ++ j)) (lsF Sh.c (l ++ j))), some (Blk.row [AV.v (Value.int IntKind.i64 st.k), AV.v (Value.int
    IntKind.i64 st.b), AV.v (Value.int IntKind.i64 st.v), AV.v (Value.int IntKind.i64 st.r), AV.v (Value.int IntKind.i64 st.h), AV.v (Value.int IntKind.i64 st.a), AV.v (Value.int IntKind.i64
    st.hk), AV.v (Value.int IntKind.i64 st.hb), AV.v (Value.int IntKind.i64 st.hv), AV.v (Value.int IntKind.i64 st.hr)]), some (Blk.arr (1 : Nat) (pc s) fun i => [AV.v (Value.int IntKind.i64
    (nth s i))])])) := by kernel_rfl
def O17y (s le : Int) (st : St) (f bad : Int) (l j : List Sh) (e : Int) : Out := ⟨.ret, [.any, .any, .any, .any, .any, .any, .v (.int .i64 e)], (DH f bad l j).map some ++ [none, none]⟩
def O17n (s le : Int) (st : St) (f bad : Int) (l j : List Sh) : Out := ⟨.exit 0, [.any, .any, .v (.int .i64 le), .any, .hs 3 0 (pc s), .any, .any], (DH f bad l j).map some ++ [none, some (Blk.arr 1 (pc s) (ints (nth s)))]⟩
theorem loop17y {s le : Int} {st : St} {f bad : Int} {l j : List Sh} (hb : inU32 bad = true) (hs : l.length ≤ 100000) {p : Nat} (h2 : p < pc s) (h3 : cAt s st f bad l p ≠ 0) (h4 : ∀ q, q < p → cAt s st f bad l q = 0) : ∀ k, k ≤ p → LoopOK Tryd.prog Γs 2 44 lp17 (LSpec.at [0, 2, 3, 5, 10, 11, 8] [] (S17 s le st f bad l j k) (O17y s le st f bad l j (cAt s st f bad l p))) := by
  refine loop_at (S := S17 s le st f bad l j) (O := fun _ => O17y s le st f bad l j (cAt s st f bad l p)) (k := 0) (fun k => p - k) fun k hp => .of (noLoops (by kernel_rfl)) (r17 s le st f bad l j k hb hs) ?_
  have := pcLe s
  rcases Nat.lt_or_ge k p with hk | hk
  · have h5 := h4 k hk
    simp only [or_true, true_or, false_or, or_false, and_false, false_and, cond_true, cond_false, Bool.not_true, Bool.not_false, Bool.false_eq_true, Bool.true_eq_false, not_true_eq_false, not_false_eq_true, false_implies, true_implies, implies_true, Nat.blt_eq, owesN, owesX, owesR, notT, sat_brT, sat_brF, sat_chkT, cl_iff, cl_false, AV.le_refl, AV.le_any, OLe_refl, OLe_none, sat_brN, Tree.sat_chk, Tree.sat_leaf, Tree.sat_fail, Nat.zero_add, Nat.sub_zero, Int.toNat_natCast, LeH_cons, LeH_nil, LeL_cons, LeL_nil, and_true, true_and, Bool.and_eq_true, Bool.or_eq_true, decide_eq_true_eq, decide_eq_false_iff_not, Bool.cond_true_left, Bool.cond_false_right, List.cons_append, List.nil_append, List.map_cons, List.map_nil, h5, wrapUpN (show k ≤ 1000000000 by omega)]
    repeat' (first | apply And.intro | intro _hc)
    all_goals first | omega | contradiction | exact AV.le_refl _ | exact AV.le_any _ | exact OLe.refl _ | exact OLe.none _ | exact LeH.refl _ | exact LeL.refl _ | exact AV.le.bs _ | exact AV.le.sb _ | exact ⟨k + 1, LeL.refl _, LeH.refl _, hk, by omega⟩ | (exfalso; omega) | contradiction
  · obtain rfl : k = p := by omega
    simp only [or_true, true_or, false_or, or_false, and_false, false_and, cond_true, cond_false, Bool.not_true, Bool.not_false, Bool.false_eq_true, Bool.true_eq_false, not_true_eq_false, not_false_eq_true, false_implies, true_implies, implies_true, Nat.blt_eq, owesN, owesX, owesR, notT, sat_brT, sat_brF, sat_chkT, cl_iff, cl_false, AV.le_refl, AV.le_any, OLe_refl, OLe_none, sat_brN, Tree.sat_chk, Tree.sat_leaf, Tree.sat_fail, Nat.zero_add, Nat.sub_zero, Int.toNat_natCast, LeH_cons, LeH_nil, LeL_cons, LeL_nil, and_true, true_and, Bool.and_eq_true, Bool.or_eq_true, decide_eq_true_eq, decide_eq_false_iff_not, Bool.cond_true_left, Bool.cond_false_right, List.cons_append, List.nil_append, List.map_cons, List.map_nil, h3]
    repeat' (first | apply And.intro | intro _hc)
    all_goals first | omega | contradiction | exact AV.le_refl _ | exact AV.le_any _ | exact OLe.refl _ | exact OLe.none _ | exact LeH.refl _ | exact LeL.refl _ | exact AV.le.bs _ | exact AV.le.sb _ | exact rfl | (exfalso; omega) | contradiction
theorem loop17n {s le : Int} {st : St} {f bad : Int} {l j : List Sh} (hb : inU32 bad = true) (hs : l.length ≤ 100000) (h4 : ∀ q, q < pc s → cAt s st f bad l q = 0) : ∀ k, k ≤ pc s → LoopOK Tryd.prog Γs 2 44 lp17 (LSpec.at [0, 2, 3, 5, 10, 11, 8] [] (S17 s le st f bad l j k) (O17n s le st f bad l j)) := by
  refine loop_at (S := S17 s le st f bad l j) (O := fun _ => O17n s le st f bad l j) (k := 0) (fun k => pc s - k) fun k hp => .of (noLoops (by kernel_rfl)) (r17 s le st f bad l j k hb hs) ?_
  have := pcLe s
  rcases Nat.lt_or_ge k (pc s) with hk | hk
  · have h5 := h4 k hk
    simp only [or_true, true_or, false_or, or_false, and_false, false_and, cond_true, cond_false, Bool.not_true, Bool.not_false, Bool.false_eq_true, Bool.true_eq_false, not_true_eq_false, not_false_eq_true, false_implies, true_implies, implies_true, Nat.blt_eq, owesN, owesX, owesR, notT, sat_brT, sat_brF, sat_chkT, cl_iff, cl_false, AV.le_refl, AV.le_any, OLe_refl, OLe_none, sat_brN, Tree.sat_chk, Tree.sat_leaf, Tree.sat_fail, Nat.zero_add, Nat.sub_zero, Int.toNat_natCast, LeH_cons, LeH_nil, LeL_cons, LeL_nil, and_true, true_and, Bool.and_eq_true, Bool.or_eq_true, decide_eq_true_eq, decide_eq_false_iff_not, Bool.cond_true_left, Bool.cond_false_right, List.cons_append, List.nil_append, List.map_cons, List.map_nil, h5, wrapUpN (show k ≤ 1000000000 by omega)]
    repeat' (first | apply And.intro | intro _hc)
    all_goals first | omega | contradiction | exact AV.le_refl _ | exact AV.le_any _ | exact OLe.refl _ | exact OLe.none _ | exact LeH.refl _ | exact LeL.refl _ | exact AV.le.bs _ | exact AV.le.sb _ | exact ⟨k + 1, LeL.refl _, LeH.refl _, hk, by omega⟩ | (exfalso; omega) | contradiction
  · simp only [or_true, true_or, false_or, or_false, and_false, false_and, cond_true, cond_false, Bool.not_true, Bool.not_false, Bool.false_eq_true, Bool.true_eq_false, not_true_eq_false, not_false_eq_true, false_implies, true_implies, implies_true, Nat.blt_eq, owesN, owesX, owesR, notT, sat_brT, sat_brF, sat_chkT, cl_iff, cl_false, AV.le_refl, AV.le_any, OLe_refl, OLe_none, sat_brN, Tree.sat_chk, Tree.sat_leaf, Tree.sat_fail, Nat.zero_add, Nat.sub_zero, Int.toNat_natCast, LeH_cons, LeH_nil, LeL_cons, LeL_nil, and_true, true_and, Bool.and_eq_true, Bool.or_eq_true, decide_eq_true_eq, decide_eq_false_iff_not, Bool.cond_true_left, Bool.cond_false_right, List.cons_append, List.nil_append, List.map_cons, List.map_nil]
    repeat' (first | apply And.intro | intro _hc)
    all_goals first | omega | contradiction | exact AV.le_refl _ | exact AV.le_any _ | exact OLe.refl _ | exact OLe.none _ | exact LeH.refl _ | exact LeL.refl _ | exact AV.le.bs _ | exact AV.le.sb _ | exact rfl | (exfalso; omega) | contradiction
abbrev A17 (s le : Int) (st : St) : List AV := [.ptr 0 0, .agg st.c, .v (.int .u32 s), .v (.int .i64 le)]
theorem run17c (s le : Int) (st : St) (f bad : Int) (l j : List Sh) : bodyE (P := Tryd.prog) (Γ := Γs) [SiQ.c22, SiQ.c20] Lno false 44 [.tmp 8] (bodyOf Tryd.f17) (A17 s le st) (DH f bad l j) =
  Tree.chk (inU32 s) (Tree.br (!decide (checkF f s = (0 : Int))) (Tree.leaf (Ans.mk (AV.v (Value.int IntKind.i64 (checkF f s))) [some (Blk.row [AV.v (Value.int IntKind.i64 f), AV.v (Value.int
    IntKind.u32 bad), AV.hs (1 : Nat) (0 : Nat) (List.length l)]), some (Blk.arr (11 : Nat) (List.length (l ++ j)) (lsF Sh.c (l ++ j)))])) (Tree.chk (inU32 s) Tree.fail)) := by kernel_rfl
theorem run17y (s le e : Int) (st : St) (f bad : Int) (l j : List Sh) : bodyE (P := Tryd.prog) (Γ := Γs) [SiQ.c22, SiQ.c20] (fun _ => LSpec.at [0, 2, 3, 5, 10, 11, 8] [] (S17 s le st f bad l j 0) (O17y s le st f bad l j e)) false 44 [.tmp 8] (bodyOf Tryd.f17) (A17 s le st) (DH f bad l j) =
  Tree.chk (inU32 s) (Tree.br (!decide (checkF f s = (0 : Int))) (Tree.leaf (Ans.mk (AV.v (Value.int IntKind.i64 (checkF f s))) [some (Blk.row [AV.v (Value.int IntKind.i64 f), AV.v (Value.int
    IntKind.u32 bad), AV.hs (1 : Nat) (0 : Nat) (List.length l)]), some (Blk.arr (11 : Nat) (List.length (l ++ j)) (lsF Sh.c (l ++ j)))])) (Tree.chk (inU32 s) (Tree.chk (cl (LeL [AV.ptr (0 :
    Nat) (0 : Nat), AV.v (Value.int IntKind.u32 s), AV.v (Value.int IntKind.i64 le), AV.ptr (2 : Nat) (0 : Nat), AV.hs (3 : Nat) (0 : Nat) (pc s), AV.v (Value.int IntKind.i64 (0 : Int)),
    AV.v (Value.int IntKind.i64 (0 : Int))] [AV.ptr (0 : Nat) (0 : Nat), AV.v (Value.int IntKind.u32 s), AV.v (Value.int IntKind.i64 le), AV.ptr (2 : Nat) (0 : Nat), AV.hs (3 : Nat) (0 :
    Nat) (pc s), AV.v (Value.int IntKind.i64 (↑(0 : Nat) : Int)), AV.any] ∧ LeH [some (Blk.row [AV.v (Value.int IntKind.i64 f), AV.v (Value.int IntKind.u32 bad), AV.hs (1 : Nat) (0 : Nat)
    (List.length l)]), some (Blk.arr (11 : Nat) (List.length (l ++ j)) (lsF Sh.c (l ++ j))), some (Blk.row [AV.v (Value.int IntKind.i64 st.k), AV.v (Value.int IntKind.i64 st.b), AV.v
    (Value.int IntKind.i64 st.v), AV.v (Value.int IntKind.i64 st.r), AV.v (Value.int IntKind.i64 st.h), AV.v (Value.int IntKind.i64 st.a), AV.v (Value.int IntKind.i64 st.hk), AV.v (Value.int
    IntKind.i64 st.hb), AV.v (Value.int IntKind.i64 st.hv), AV.v (Value.int IntKind.i64 st.hr)]), some (Blk.arr (1 : Nat) (pc s) fun i => [AV.v (Value.int IntKind.i64 (nth s i))])] [some
    (Blk.row [AV.v (Value.int IntKind.i64 f), AV.v (Value.int IntKind.u32 bad), AV.hs (1 : Nat) (0 : Nat) (List.length l)]), some (Blk.arr (11 : Nat) (List.length (l ++ j)) (lsF Sh.c (l ++
    j))), some (Blk.row [AV.v (Value.int IntKind.i64 st.k), AV.v (Value.int IntKind.i64 st.b), AV.v (Value.int IntKind.i64 st.v), AV.v (Value.int IntKind.i64 st.r), AV.v (Value.int
    IntKind.i64 st.h), AV.v (Value.int IntKind.i64 st.a), AV.v (Value.int IntKind.i64 st.hk), AV.v (Value.int IntKind.i64 st.hb), AV.v (Value.int IntKind.i64 st.hv), AV.v (Value.int
    IntKind.i64 st.hr)]), some (Blk.arr (1 : Nat) (pc s) fun i => [AV.v (Value.int IntKind.i64 (nth s i))])])) (Tree.leaf (Ans.mk (AV.v (Value.int IntKind.i64 e)) [some (Blk.row [AV.v
    (Value.int IntKind.i64 f), AV.v (Value.int IntKind.u32 bad), AV.hs (1 : Nat) (0 : Nat) (List.length l)]), some (Blk.arr (11 : Nat) (List.length (l ++ j)) (lsF Sh.c (l ++ j)))]))))) := by kernel_rfl
theorem run17n (s le : Int) (st : St) (f bad : Int) (l j : List Sh) : bodyE (P := Tryd.prog) (Γ := Γs) [SiQ.c22, SiQ.c20] (fun _ => LSpec.at [0, 2, 3, 5, 10, 11, 8] [] (S17 s le st f bad l j 0) (O17n s le st f bad l j)) false 44 [.tmp 8] (bodyOf Tryd.f17) (A17 s le st) (DH f bad l j) =
  Tree.chk (inU32 s) (Tree.br (!decide (checkF f s = (0 : Int))) (Tree.leaf (Ans.mk (AV.v (Value.int IntKind.i64 (checkF f s))) [some (Blk.row [AV.v (Value.int IntKind.i64 f), AV.v (Value.int
    IntKind.u32 bad), AV.hs (1 : Nat) (0 : Nat) (List.length l)]), some (Blk.arr (11 : Nat) (List.length (l ++ j)) (lsF Sh.c (l ++ j)))])) (Tree.chk (inU32 s) (Tree.chk (cl (LeL [AV.ptr (0 :
    Nat) (0 : Nat), AV.v (Value.int IntKind.u32 s), AV.v (Value.int IntKind.i64 le), AV.ptr (2 : Nat) (0 : Nat), AV.hs (3 : Nat) (0 : Nat) (pc s), AV.v (Value.int IntKind.i64 (0 : Int)),
    AV.v (Value.int IntKind.i64 (0 : Int))] [AV.ptr (0 : Nat) (0 : Nat), AV.v (Value.int IntKind.u32 s), AV.v (Value.int IntKind.i64 le), AV.ptr (2 : Nat) (0 : Nat), AV.hs (3 : Nat) (0 :
    Nat) (pc s), AV.v (Value.int IntKind.i64 (↑(0 : Nat) : Int)), AV.any] ∧ LeH [some (Blk.row [AV.v (Value.int IntKind.i64 f), AV.v (Value.int IntKind.u32 bad), AV.hs (1 : Nat) (0 : Nat)
    (List.length l)]), some (Blk.arr (11 : Nat) (List.length (l ++ j)) (lsF Sh.c (l ++ j))), some (Blk.row [AV.v (Value.int IntKind.i64 st.k), AV.v (Value.int IntKind.i64 st.b), AV.v
    (Value.int IntKind.i64 st.v), AV.v (Value.int IntKind.i64 st.r), AV.v (Value.int IntKind.i64 st.h), AV.v (Value.int IntKind.i64 st.a), AV.v (Value.int IntKind.i64 st.hk), AV.v (Value.int
    IntKind.i64 st.hb), AV.v (Value.int IntKind.i64 st.hv), AV.v (Value.int IntKind.i64 st.hr)]), some (Blk.arr (1 : Nat) (pc s) fun i => [AV.v (Value.int IntKind.i64 (nth s i))])] [some
    (Blk.row [AV.v (Value.int IntKind.i64 f), AV.v (Value.int IntKind.u32 bad), AV.hs (1 : Nat) (0 : Nat) (List.length l)]), some (Blk.arr (11 : Nat) (List.length (l ++ j)) (lsF Sh.c (l ++
    j))), some (Blk.row [AV.v (Value.int IntKind.i64 st.k), AV.v (Value.int IntKind.i64 st.b), AV.v (Value.int IntKind.i64 st.v), AV.v (Value.int IntKind.i64 st.r), AV.v (Value.int
    IntKind.i64 st.h), AV.v (Value.int IntKind.i64 st.a), AV.v (Value.int IntKind.i64 st.hk), AV.v (Value.int IntKind.i64 st.hb), AV.v (Value.int IntKind.i64 st.hv), AV.v (Value.int
    IntKind.i64 st.hr)]), some (Blk.arr (1 : Nat) (pc s) fun i => [AV.v (Value.int IntKind.i64 (nth s i))])])) (Tree.br (decide ((↑(pc s) : Int) < le)) (Tree.leaf (Ans.mk (AV.v (Value.int
    IntKind.i64 (61 : Int))) [some (Blk.row [AV.v (Value.int IntKind.i64 f), AV.v (Value.int IntKind.u32 bad), AV.hs (1 : Nat) (0 : Nat) (List.length l)]), some (Blk.arr (11 : Nat)
    (List.length (l ++ j)) (lsF Sh.c (l ++ j)))])) (Tree.leaf (Ans.mk (AV.v (Value.int IntKind.i64 (0 : Int))) [some (Blk.row [AV.v (Value.int IntKind.i64 f), AV.v (Value.int IntKind.u32
    bad), AV.hs (1 : Nat) (0 : Nat) (List.length l)]), some (Blk.arr (11 : Nat) (List.length (l ++ j)) (lsF Sh.c (l ++ j)))])))))) := by kernel_rfl
/-- a set's error: it may not be, or one does not count, or there are too few -/
inductive EnE (s le : Int) (st : St) (f bad : Int) (l : List Sh) : Int → Prop where
  | chk (h : checkF f s ≠ 0) : EnE s le st f bad l (checkF f s)
  | err (p : Nat) (h : checkF f s = 0) (h2 : p < pc s) (h3 : cAt s st f bad l p ≠ 0) (h4 : ∀ q, q < p → cAt s st f bad l q = 0) : EnE s le st f bad l (cAt s st f bad l p)
  | few (h : checkF f s = 0) (h4 : ∀ q, q < pc s → cAt s st f bad l q = 0) (h5 : (pc s : Int) < le) : EnE s le st f bad l 61
  | ok (h : checkF f s = 0) (h4 : ∀ q, q < pc s → cAt s st f bad l q = 0) (h5 : ¬ (pc s : Int) < le) : EnE s le st f bad l 0
theorem EnE.ex (s le : Int) (st : St) (f bad : Int) (l : List Sh) : ∃ e, EnE s le st f bad l e := by
  by_cases h : checkF f s = 0
  · by_cases h4 : ∀ q, q < pc s → cAt s st f bad l q = 0
    · by_cases h5 : (pc s : Int) < le
      · exact ⟨_, .few h h4 h5⟩
      · exact ⟨_, .ok h h4 h5⟩
    · have : ∃ p, p < pc s ∧ cAt s st f bad l p ≠ 0 := by
        refine Classical.byContradiction fun hn => h4 fun q hq => ?_
        refine Classical.byContradiction fun h6 => hn ⟨q, hq, h6⟩
      have key : ∀ n, (∃ p, p < n ∧ cAt s st f bad l p ≠ 0) → ∃ p, p < n ∧ cAt s st f bad l p ≠ 0 ∧ ∀ q, q < p → cAt s st f bad l q = 0 := by
        intro n
        induction n with
        | zero => exact fun ⟨p, hp, _⟩ => absurd hp (Nat.not_lt_zero _)
        | succ n ih =>
          intro ⟨p, hp, hc⟩
          by_cases hn : ∃ p, p < n ∧ cAt s st f bad l p ≠ 0
          · obtain ⟨p', a1, a2, a3⟩ := ih hn
            exact ⟨p', by omega, a2, a3⟩
          · refine ⟨p, hp, hc, fun q hq => Classical.byContradiction fun h6 => hn ⟨q, by omega, h6⟩⟩
      obtain ⟨p, a1, a2, a3⟩ := key _ this
      exact ⟨_, .err p h a1 a2 a3⟩
  · exact ⟨_, .chk h⟩
theorem ansAll {s e : Int} {st : St} {f bad : Int} {l j : List Sh} (hu : inU32 s = true) (hb : inU32 bad = true) (h : EnE s 0 st f bad l e) : Answers Tryd.prog Γs 8 [.ptr 0 0, .agg st.c, .v (.int .u32 s)] (SH f bad l j) (.v (.int .i64 e)) ((SH f bad l j).map some) [] := by
  cases h with
  | chk h => exact ansAllChk hu h
  | err p h h2 h3 h4 => exact ansAllErr hu hb h h2 h3 h4
  | few h h4 h5 => omega
  | ok h h4 h5 => exact ansAllOk hu hb h h4
theorem ansEnough {s le e : Int} {st : St} {f bad : Int} {l j : List Sh} (hu : inU32 s = true) (hb : inU32 bad = true) (h : EnE s le st f bad l e) : Answers Tryd.prog Γs 12 (A17 s le st) (SH f bad l j) (.v (.int .i64 e)) ((SH f bad l j).map some) [] := by
  cases h with
  | chk h =>
    have hA := ansAllChk (st := st) (bad := bad) (l := l) (j := j) hu h
    exact answers (fn := Tryd.f12) (c := bodyOf Tryd.f12) (ntmps := 21) (results := [.tmp 8]) [CT.at 8 hA, SiQ.c10] Lno false Tryd.func12 (by kernel_rfl) (by kernel_rfl) (by kernel_rfl) (by kernel_rfl) (by simp) rfl (noLoops (by kernel_rfl)) <| Meets.of (run12 s le (checkF f s) st f bad l j hA) <| by
      simp only [or_true, true_or, false_or, or_false, and_false, false_and, cond_true, cond_false, Bool.not_true, Bool.not_false, Bool.false_eq_true, Bool.true_eq_false, not_true_eq_false, not_false_eq_true, false_implies, true_implies, implies_true, Nat.blt_eq, owesN, owesX, owesR, notT, sat_brT, sat_brF, sat_chkT, cl_iff, cl_false, AV.le_refl, AV.le_any, OLe_refl, OLe_none, sat_brN, Tree.sat_chk, Tree.sat_leaf, Tree.sat_fail, Nat.zero_add, Nat.sub_zero, Int.toNat_natCast, LeH_cons, LeH_nil, LeL_cons, LeL_nil, and_true, true_and, Bool.and_eq_true, Bool.or_eq_true, decide_eq_true_eq, decide_eq_false_iff_not, Bool.cond_true_left, Bool.cond_false_right, List.cons_append, List.nil_append, List.map_cons, List.map_nil, hu, h]
      repeat' (first | apply And.intro | intro _hc)
      all_goals first | omega | contradiction | exact AV.le_refl _ | exact AV.le_any _ | exact OLe.refl _ | exact OLe.none _ | exact LeH.refl _ | exact LeL.refl _ | exact AV.le.bs _ | exact AV.le.sb _ | (exfalso; omega) | contradiction
  | err p h h2 h3 h4 =>
    have hA := ansAllErr (j := j) hu hb h h2 h3 h4
    exact answers (fn := Tryd.f12) (c := bodyOf Tryd.f12) (ntmps := 21) (results := [.tmp 8]) [CT.at 8 hA, SiQ.c10] Lno false Tryd.func12 (by kernel_rfl) (by kernel_rfl) (by kernel_rfl) (by kernel_rfl) (by simp) rfl (noLoops (by kernel_rfl)) <| Meets.of (run12 s le (cAt s st f bad l p) st f bad l j hA) <| by
      simp only [or_true, true_or, false_or, or_false, and_false, false_and, cond_true, cond_false, Bool.not_true, Bool.not_false, Bool.false_eq_true, Bool.true_eq_false, not_true_eq_false, not_false_eq_true, false_implies, true_implies, implies_true, Nat.blt_eq, owesN, owesX, owesR, notT, sat_brT, sat_brF, sat_chkT, cl_iff, cl_false, AV.le_refl, AV.le_any, OLe_refl, OLe_none, sat_brN, Tree.sat_chk, Tree.sat_leaf, Tree.sat_fail, Nat.zero_add, Nat.sub_zero, Int.toNat_natCast, LeH_cons, LeH_nil, LeL_cons, LeL_nil, and_true, true_and, Bool.and_eq_true, Bool.or_eq_true, decide_eq_true_eq, decide_eq_false_iff_not, Bool.cond_true_left, Bool.cond_false_right, List.cons_append, List.nil_append, List.map_cons, List.map_nil, hu, h3]
      repeat' (first | apply And.intro | intro _hc)
      all_goals first | omega | contradiction | exact AV.le_refl _ | exact AV.le_any _ | exact OLe.refl _ | exact OLe.none _ | exact LeH.refl _ | exact LeL.refl _ | exact AV.le.bs _ | exact AV.le.sb _ | (exfalso; omega) | contradiction
  | few h h4 h5 =>
    have hA := ansAllOk (j := j) hu hb h h4
    exact answers (fn := Tryd.f12) (c := bodyOf Tryd.f12) (ntmps := 21) (results := [.tmp 8]) [CT.at 8 hA, SiQ.c10] Lno false Tryd.func12 (by kernel_rfl) (by kernel_rfl) (by kernel_rfl) (by kernel_rfl) (by simp) rfl (noLoops (by kernel_rfl)) <| Meets.of (run12 s le 0 st f bad l j hA) <| by
      simp only [or_true, true_or, false_or, or_false, and_false, false_and, cond_true, cond_false, Bool.not_true, Bool.not_false, Bool.false_eq_true, Bool.true_eq_false, not_true_eq_false, not_false_eq_true, false_implies, true_implies, implies_true, Nat.blt_eq, owesN, owesX, owesR, notT, sat_brT, sat_brF, sat_chkT, cl_iff, cl_false, AV.le_refl, AV.le_any, OLe_refl, OLe_none, sat_brN, Tree.sat_chk, Tree.sat_leaf, Tree.sat_fail, Nat.zero_add, Nat.sub_zero, Int.toNat_natCast, LeH_cons, LeH_nil, LeL_cons, LeL_nil, and_true, true_and, Bool.and_eq_true, Bool.or_eq_true, decide_eq_true_eq, decide_eq_false_iff_not, Bool.cond_true_left, Bool.cond_false_right, List.cons_append, List.nil_append, List.map_cons, List.map_nil, hu, h5]
      repeat' (first | apply And.intro | intro _hc)
      all_goals first | omega | contradiction | exact AV.le_refl _ | exact AV.le_any _ | exact OLe.refl _ | exact OLe.none _ | exact LeH.refl _ | exact LeL.refl _ | exact AV.le.bs _ | exact AV.le.sb _ | (exfalso; omega) | contradiction
  | ok h h4 h5 =>
    have hA := ansAllOk (j := j) hu hb h h4
    exact answers (fn := Tryd.f12) (c := bodyOf Tryd.f12) (ntmps := 21) (results := [.tmp 8]) [CT.at 8 hA, SiQ.c10] Lno false Tryd.func12 (by kernel_rfl) (by kernel_rfl) (by kernel_rfl) (by kernel_rfl) (by simp) rfl (noLoops (by kernel_rfl)) <| Meets.of (run12 s le 0 st f bad l j hA) <| by
      simp only [or_true, true_or, false_or, or_false, and_false, false_and, cond_true, cond_false, Bool.not_true, Bool.not_false, Bool.false_eq_true, Bool.true_eq_false, not_true_eq_false, not_false_eq_true, false_implies, true_implies, implies_true, Nat.blt_eq, owesN, owesX, owesR, notT, sat_brT, sat_brF, sat_chkT, cl_iff, cl_false, AV.le_refl, AV.le_any, OLe_refl, OLe_none, sat_brN, Tree.sat_chk, Tree.sat_leaf, Tree.sat_fail, Nat.zero_add, Nat.sub_zero, Int.toNat_natCast, LeH_cons, LeH_nil, LeL_cons, LeL_nil, and_true, true_and, Bool.and_eq_true, Bool.or_eq_true, decide_eq_true_eq, decide_eq_false_iff_not, Bool.cond_true_left, Bool.cond_false_right, List.cons_append, List.nil_append, List.map_cons, List.map_nil, hu, h5]
      repeat' (first | apply And.intro | intro _hc)
      all_goals first | omega | contradiction | exact AV.le_refl _ | exact AV.le_any _ | exact OLe.refl _ | exact OLe.none _ | exact LeH.refl _ | exact LeL.refl _ | exact AV.le.bs _ | exact AV.le.sb _ | (exfalso; omega) | contradiction
theorem ansEnoughR {s le e : Int} {st : St} {f bad : Int} {l j : List Sh} (hu : inU32 s = true) (hb : inU32 bad = true) (hs : l.length ≤ 100000) (h : EnE s le st f bad l e) : Answers Tryd.prog Γs 17 (A17 s le st) (DH f bad l j) (.v (.int .i64 e)) ((DH f bad l j).map some) [] := by
  cases h with
  | chk h =>
    exact answers (fn := Tryd.f17) (c := bodyOf Tryd.f17) (ntmps := 44) (results := [.tmp 8]) [SiQ.c22, SiQ.c20] (Lno) false Tryd.func17 (by kernel_rfl) (by kernel_rfl) (by kernel_rfl) (by kernel_rfl) (by simp) rfl (failOK fun _ _ _ => rfl) <| Meets.of (run17c s le st f bad l j) <| by
      simp only [or_true, true_or, false_or, or_false, and_false, false_and, cond_true, cond_false, Bool.not_true, Bool.not_false, Bool.false_eq_true, Bool.true_eq_false, not_true_eq_false, not_false_eq_true, false_implies, true_implies, implies_true, Nat.blt_eq, owesN, owesX, owesR, notT, sat_brT, sat_brF, sat_chkT, cl_iff, cl_false, AV.le_refl, AV.le_any, OLe_refl, OLe_none, sat_brN, Tree.sat_chk, Tree.sat_leaf, Tree.sat_fail, Nat.zero_add, Nat.sub_zero, Int.toNat_natCast, LeH_cons, LeH_nil, LeL_cons, LeL_nil, and_true, true_and, Bool.and_eq_true, Bool.or_eq_true, decide_eq_true_eq, decide_eq_false_iff_not, Bool.cond_true_left, Bool.cond_false_right, List.cons_append, List.nil_append, List.map_cons, List.map_nil, hu, h]
      repeat' (first | apply And.intro | intro _hc)
      all_goals first | omega | contradiction | exact AV.le_refl _ | exact AV.le_any _ | exact OLe.refl _ | exact OLe.none _ | exact LeH.refl _ | exact LeL.refl _ | exact AV.le.bs _ | exact AV.le.sb _ | (exfalso; omega) | contradiction
  | err p h h2 h3 h4 =>
    exact answers (fn := Tryd.f17) (c := bodyOf Tryd.f17) (ntmps := 44) (results := [.tmp 8]) [SiQ.c22, SiQ.c20] (fun _ => LSpec.at [0, 2, 3, 5, 10, 11, 8] [] (S17 s le st f bad l j 0) (O17y s le st f bad l j (cAt s st f bad l p))) false Tryd.func17 (by kernel_rfl) (by kernel_rfl) (by kernel_rfl) (by kernel_rfl) (by simp) rfl (oneLoop (b := lp17) (by kernel_rfl) (loop17y hb hs h2 h3 h4 0 (Nat.zero_le _))) <| Meets.of (run17y s le (cAt s st f bad l p) st f bad l j) <| by
      simp only [or_true, true_or, false_or, or_false, and_false, false_and, cond_true, cond_false, Bool.not_true, Bool.not_false, Bool.false_eq_true, Bool.true_eq_false, not_true_eq_false, not_false_eq_true, false_implies, true_implies, implies_true, Nat.blt_eq, owesN, owesX, owesR, notT, sat_brT, sat_brF, sat_chkT, cl_iff, cl_false, AV.le_refl, AV.le_any, OLe_refl, OLe_none, sat_brN, Tree.sat_chk, Tree.sat_leaf, Tree.sat_fail, Nat.zero_add, Nat.sub_zero, Int.toNat_natCast, LeH_cons, LeH_nil, LeL_cons, LeL_nil, and_true, true_and, Bool.and_eq_true, Bool.or_eq_true, decide_eq_true_eq, decide_eq_false_iff_not, Bool.cond_true_left, Bool.cond_false_right, List.cons_append, List.nil_append, List.map_cons, List.map_nil, hu, h]
      repeat' (first | apply And.intro | intro _hc)
      all_goals first | omega | contradiction | exact AV.le_refl _ | exact AV.le_any _ | exact OLe.refl _ | exact OLe.none _ | exact LeH.refl _ | exact LeL.refl _ | exact AV.le.bs _ | exact AV.le.sb _ | (exfalso; omega) | contradiction
  | few h h4 h5 =>
    exact answers (fn := Tryd.f17) (c := bodyOf Tryd.f17) (ntmps := 44) (results := [.tmp 8]) [SiQ.c22, SiQ.c20] (fun _ => LSpec.at [0, 2, 3, 5, 10, 11, 8] [] (S17 s le st f bad l j 0) (O17n s le st f bad l j)) false Tryd.func17 (by kernel_rfl) (by kernel_rfl) (by kernel_rfl) (by kernel_rfl) (by simp) rfl (oneLoop (b := lp17) (by kernel_rfl) (loop17n hb hs h4 0 (Nat.zero_le _))) <| Meets.of (run17n s le st f bad l j) <| by
      simp only [or_true, true_or, false_or, or_false, and_false, false_and, cond_true, cond_false, Bool.not_true, Bool.not_false, Bool.false_eq_true, Bool.true_eq_false, not_true_eq_false, not_false_eq_true, false_implies, true_implies, implies_true, Nat.blt_eq, owesN, owesX, owesR, notT, sat_brT, sat_brF, sat_chkT, cl_iff, cl_false, AV.le_refl, AV.le_any, OLe_refl, OLe_none, sat_brN, Tree.sat_chk, Tree.sat_leaf, Tree.sat_fail, Nat.zero_add, Nat.sub_zero, Int.toNat_natCast, LeH_cons, LeH_nil, LeL_cons, LeL_nil, and_true, true_and, Bool.and_eq_true, Bool.or_eq_true, decide_eq_true_eq, decide_eq_false_iff_not, Bool.cond_true_left, Bool.cond_false_right, List.cons_append, List.nil_append, List.map_cons, List.map_nil, hu, h, h5]
      repeat' (first | apply And.intro | intro _hc)
      all_goals first | omega | contradiction | exact AV.le_refl _ | exact AV.le_any _ | exact OLe.refl _ | exact OLe.none _ | exact LeH.refl _ | exact LeL.refl _ | exact AV.le.bs _ | exact AV.le.sb _ | (exfalso; omega) | contradiction
  | ok h h4 h5 =>
    exact answers (fn := Tryd.f17) (c := bodyOf Tryd.f17) (ntmps := 44) (results := [.tmp 8]) [SiQ.c22, SiQ.c20] (fun _ => LSpec.at [0, 2, 3, 5, 10, 11, 8] [] (S17 s le st f bad l j 0) (O17n s le st f bad l j)) false Tryd.func17 (by kernel_rfl) (by kernel_rfl) (by kernel_rfl) (by kernel_rfl) (by simp) rfl (oneLoop (b := lp17) (by kernel_rfl) (loop17n hb hs h4 0 (Nat.zero_le _))) <| Meets.of (run17n s le st f bad l j) <| by
      simp only [or_true, true_or, false_or, or_false, and_false, false_and, cond_true, cond_false, Bool.not_true, Bool.not_false, Bool.false_eq_true, Bool.true_eq_false, not_true_eq_false, not_false_eq_true, false_implies, true_implies, implies_true, Nat.blt_eq, owesN, owesX, owesR, notT, sat_brT, sat_brF, sat_chkT, cl_iff, cl_false, AV.le_refl, AV.le_any, OLe_refl, OLe_none, sat_brN, Tree.sat_chk, Tree.sat_leaf, Tree.sat_fail, Nat.zero_add, Nat.sub_zero, Int.toNat_natCast, LeH_cons, LeH_nil, LeL_cons, LeL_nil, and_true, true_and, Bool.and_eq_true, Bool.or_eq_true, decide_eq_true_eq, decide_eq_false_iff_not, Bool.cond_true_left, Bool.cond_false_right, List.cons_append, List.nil_append, List.map_cons, List.map_nil, hu, h, h5]
      repeat' (first | apply And.intro | intro _hc)
      all_goals first | omega | contradiction | exact AV.le_refl _ | exact AV.le_any _ | exact OLe.refl _ | exact OLe.none _ | exact LeH.refl _ | exact LeL.refl _ | exact AV.le.bs _ | exact AV.le.sb _ | (exfalso; omega) | contradiction
end Go.Eng.Si

/- A call with a nil slice in a row: from what it does where the slice has a block of its own. -/
namespace Go.Eng
open Go
set_option linter.unusedSimpArgs false
set_option linter.unusedVariables false
section
variable {P : Program} {Γ : Nat → AV}
theorem getHmap (l : List Blk) (k : Nat) : getH (l.map some) k = l[k]? := by
  unfold getH
  rw [List.getElem?_map]
  cases l[k]? <;> rfl
theorem Contract.box {f : FuncId} {args : List AV} {Hin : List Blk} {i c sz : Nat} {cs : List AV} {g : Nat → List AV} {r r' : Res} (hg : Hin[i]? = some (.row cs)) (hc : cs[c]? = some (.v (.slice none 0 0))) (hz : ∀ e, (g e).length = sz)
    (h : Contract P Γ f args (Hin.set i (.row (cs.set c (.hs Hin.length 0 0))) ++ [.arr sz 0 g]) r) (hv : r'.val = r.val) (hh : r'.heap Hin = r.heap (Hin.set i (.row (cs.set c (.hs Hin.length 0 0))) ++ [.arr sz 0 g])) :
    Contract P Γ f args Hin r' := by
  intro σ φ w vals hG hV hn hR
  have hnb := hn Hin.length (Nat.le_refl _)
  let L0 : Lc := ⟨0, 0, sz, 0, 0, true⟩
  have hle := fresh_le hnb L0
  have hB : (fun b => ∃ k L, φ k = some L ∧ L.virt = false ∧ L.b = b) = (fun b => ∃ k L, fresh φ Hin.length L0 k = some L ∧ L.virt = false ∧ L.b = b) := by
    funext b
    refine propext ⟨fun ⟨k, L, h1, h2, h3⟩ => ⟨k, L, hle k L h1, h2, h3⟩, fun ⟨k, L, h1, h2, h3⟩ => ?_⟩
    by_cases e : k = Hin.length
    · subst e
      rw [fresh_at] at h1
      cases h1
      simp [L0] at h2
    · simp only [fresh, e, if_false] at h1
      exact ⟨k, L, h1, h2, h3⟩
  have hR1 := hR.virtual (L := L0) hnb rfl (some (.arr sz 0 g)) (fun b' hb' => by simp at hb'; subst hb'; exact hz) (fun _ _ _ h' => by cases h'; rfl)
  have hg1 : updG (getH (Hin.map some)) Hin.length (some (Blk.arr sz 0 g)) = getH (Hin.map some ++ [some (Blk.arr sz 0 g)]) := by
    have := fun j => getH_append (H := Hin.map some) (bs := [Blk.arr sz 0 g]) (k := j)
    funext j
    have h1 := this j
    rw [List.length_map] at h1
    exact h1.symm
  rw [hg1] at hR1
  have hil : i < Hin.length := (List.getElem?_eq_some_iff.1 hg).1
  have hg2 : getH (Hin.map some ++ [some (Blk.arr sz 0 g)]) i = some (.row cs) := by
    rw [← hg1]
    have : i ≠ Hin.length := by omega
    simp only [updG, this, if_false]
    rw [getHmap, hg]
  have hR2 := hR1.setRow (x' := .hs Hin.length 0 0) hg2 hc (fun y hy => by
    have := hy.v_eq
    subst this
    exact .hsnil none fresh_at (Nat.le_refl 0) rfl)
  have hH : (Hin.map some ++ [some (Blk.arr sz 0 g)]).set i (some (.row (cs.set c (.hs Hin.length 0 0)))) = (Hin.set i (.row (cs.set c (.hs Hin.length 0 0))) ++ [Blk.arr sz 0 g]).map some := by
    rw [List.set_append_left _ _ (by simpa using hil), List.map_append, List.map_set]
    rfl
  rw [hH] at hR2
  have hlen : (Hin.set i (.row (cs.set c (.hs Hin.length 0 0))) ++ [Blk.arr sz 0 g]).length = Hin.length + 1 := by simp
  rw [hB] at hR2 ⊢
  refine (h σ (fresh φ Hin.length L0) w vals hG ⟨hV.1, fun j a y ha hy => (hV.2 j a y ha hy).mono (Store.le_refl σ) hle⟩ (fun k hk => ?_) hR2).mono fun e w' ⟨σ', φ', v, e1, e2, e3, e4, e5⟩ => ⟨σ', φ', v, e1, by rw [hv]; exact e2, by rw [hh]; exact e3, fun k hk => ?_, by rw [hh]; exact e5⟩
  · rw [hlen] at hk
    have : k ≠ Hin.length := by omega
    simp only [fresh, this, if_false]
    exact hn k (by omega)
  · rw [e4 k (by rw [hlen]; omega)]
    have : k ≠ Hin.length := by omega
    simp only [fresh, this, if_false]
theorem Answers.box {f : FuncId} {args : List AV} {Hin : List Blk} (i c : Nat) {sz : Nat} {cs : List AV} {g : Nat → List AV} {v : AV} {H1 : List (Option Blk)} {b : Blk} {new : List Blk} (hg : Hin[i]? = some (.row cs)) (hc : cs[c]? = some (.v (.slice none 0 0))) (hz : ∀ e, (g e).length = sz) (hl : H1.length = Hin.length)
    (h : Answers P Γ f args (Hin.set i (.row (cs.set c (.hs Hin.length 0 0))) ++ [.arr sz 0 g]) v (H1 ++ [some b]) new) : Answers P Γ f args Hin v H1 (b :: new) where
  len := hl
  enters := h.enters
  ok := h.ok.box hg hc hz rfl (by
    show outOf Hin (H1.map some) ++ _ = outOf _ ((H1 ++ [some b]).map some) ++ _
    rw [outOf_all _ _ hl, outOf_all _ _ (by simp [hl])]
    simp)
end
section
open Go.ChangeShapes Go.RowKit
variable {H : Type} {enc : TypeId × Value → H} {P : Program} {w : World} {base : Nat} {spare : Nat → Bool} {held : Bool}
theorem trodAll_five {t0 t1 t2 t3 t4 : TypeId} {args : Array Value} {ds : List (DataW H)} {ps : List MemPlace} (h : DataW.TrodAll enc P w base spare held [t0, t1, t2, t3, t4] args.toList ds ps) :
    ∃ v0 v1 v2 v3 v4 d0 d1 d2 d3 d4 p0 p1 p2 p3 p4, args = #[v0, v1, v2, v3, v4] ∧ ds = [d0, d1, d2, d3, d4] ∧ ps = p0 ++ p1 ++ p2 ++ p3 ++ p4 ∧ DataW.Trod enc P w base spare held t0 v0 d0 p0 ∧ DataW.Trod enc P w base spare held t1 v1 d1 p1 ∧
      DataW.Trod enc P w base spare held t2 v2 d2 p2 ∧ DataW.Trod enc P w base spare held t3 v3 d3 p3 ∧ DataW.Trod enc P w base spare held t4 v4 d4 p4 := by
  obtain ⟨v0, s0, d0, e0, p0, q0, hargs, rfl, rfl, h0, r0⟩ := trodAll_cons h
  obtain ⟨v1, s1, d1, e1, p1, q1, rfl, rfl, rfl, h1, r1⟩ := trodAll_cons r0
  obtain ⟨v2, s2, d2, e2, p2, q2, rfl, rfl, rfl, h2, r2⟩ := trodAll_cons r1
  obtain ⟨v3, s3, d3, e3, p3, q3, rfl, rfl, rfl, h3, r3⟩ := trodAll_cons r2
  obtain ⟨v4, s4, d4, e4, p4, q4, rfl, rfl, rfl, h4, r4⟩ := trodAll_cons r3
  obtain ⟨rfl, rfl, rfl⟩ := trodAll_nil r4
  exact ⟨v0, v1, v2, v3, v4, d0, d1, d2, d3, d4, p0, p1, p2, p3, p4, by cases args; simp_all, rfl, by simp, h0, h1, h2, h3, h4⟩
end
end Go.Eng

/- sign: what counts goes on: the loop. -/
namespace Go.Eng.Si
open Go Go.Eng Go.Eng.M Go.Proofs
set_option linter.unusedSimpArgs false
set_option linter.unusedVariables false
structure Ac where
  k : Int
  s : Int
  le : Int
  set : Int
  st : St
instance : Inhabited Ac := ⟨⟨0, 0, 0, 0, default⟩⟩
def Ac.c (x : Ac) : List AV := [.v (.int .i64 x.k), .v (.int .i64 x.s), .v (.int .i64 x.le), .v (.int .u32 x.set), .v (.int .i64 x.st.k), .v (.int .i64 x.st.b), .v (.int .i64 x.st.v), .v (.int .i64 x.st.r), .v (.int .i64 x.st.h), .v (.int .i64 x.st.a), .v (.int .i64 x.st.hk), .v (.int .i64 x.st.hb), .v (.int .i64 x.st.hv), .v (.int .i64 x.st.hr)]
def Ac.cells (x : Ac) : List Value := [.int .i64 x.k, .int .i64 x.s, .int .i64 x.le, .int .u32 x.set, .int .i64 x.st.k, .int .i64 x.st.b, .int .i64 x.st.v, .int .i64 x.st.r, .int .i64 x.st.h, .int .i64 x.st.a, .int .i64 x.st.hk, .int .i64 x.st.hb, .int .i64 x.st.hv, .int .i64 x.st.hr]
theorem Ac.cod : Cod Ac.c 14 := ⟨fun _ => rfl, fun b x y => by cases b <;> rfl⟩
theorem Ac.dec (vs : List Value) (h0 : GoodVs [.int .i64, .int .i64, .int .i64, .int .u32, .int .i64, .int .i64, .int .i64, .int .i64, .int .i64, .int .i64, .int .i64, .int .i64, .int .i64, .int .i64] vs) : ∃ a : Ac, vs = a.cells := by
  obtain ⟨_, _, rfl, ⟨a0, rfl, _⟩, h1⟩ := h0.cons
  obtain ⟨_, _, rfl, ⟨a1, rfl, _⟩, h2⟩ := h1.cons
  obtain ⟨_, _, rfl, ⟨a2, rfl, _⟩, h3⟩ := h2.cons
  obtain ⟨_, _, rfl, ⟨a3, rfl, _⟩, h4⟩ := h3.cons
  obtain ⟨_, _, rfl, ⟨a4, rfl, _⟩, h5⟩ := h4.cons
  obtain ⟨_, _, rfl, ⟨a5, rfl, _⟩, h6⟩ := h5.cons
  obtain ⟨_, _, rfl, ⟨a6, rfl, _⟩, h7⟩ := h6.cons
  obtain ⟨_, _, rfl, ⟨a7, rfl, _⟩, h8⟩ := h7.cons
  obtain ⟨_, _, rfl, ⟨a8, rfl, _⟩, h9⟩ := h8.cons
  obtain ⟨_, _, rfl, ⟨a9, rfl, _⟩, h10⟩ := h9.cons
  obtain ⟨_, _, rfl, ⟨a10, rfl, _⟩, h11⟩ := h10.cons
  obtain ⟨_, _, rfl, ⟨a11, rfl, _⟩, h12⟩ := h11.cons
  obtain ⟨_, _, rfl, ⟨a12, rfl, _⟩, h13⟩ := h12.cons
  obtain ⟨_, _, rfl, ⟨a13, rfl, _⟩, h14⟩ := h13.cons
  obtain rfl := h14.nil
  exact ⟨⟨a0, a1, a2, a3, ⟨a4, a5, a6, a7, a8, a9, a10, a11, a12, a13⟩⟩, rfl⟩
abbrev Ac.ks : List Cel := [.int .i64, .int .i64, .int .i64, .int .u32, .int .i64, .int .i64, .int .i64, .int .i64, .int .i64, .int .i64, .int .i64, .int .i64, .int .i64, .int .i64]
def shOf (a : Ac) : Sh := ⟨a.s, a.st⟩
noncomputable abbrev lp3 : Code := loopOf (bodyOf Tryd.f3) 0
structure X3 where
  f : Int
  bad : Int
  set : Int
  st : St
  be : Int
  acts : List Ac
  l : List Sh
  on : Bool
  i : Nat
def X3.v (x : X3) : List AV := [.v (.int .i64 x.f), .v (.int .u32 x.bad), .sl 14 x.acts.length (lsF Ac.c x.acts), .v (.int .u32 x.set), .ptr 0 0, .ptr 1 0, .v (.int .i64 x.be), .sb x.on, .v (.int .i64 (x.i : Int)), .any]
def X3.H (x : X3) : List Blk := [.row x.st.c, sgR 2 3 x.f x.bad x.l.length, sgM x.l, shB (x.l ++ [])]
def S31 (x : X3) : List AV × Heap := (x.v, x.H.map some)
abbrev lv3 : List Nat := [0, 1, 2, 4, 8, 11, 13, 14, 15, 10]
abbrev nl3 : List (Nat × TypeId) := [(405, 36)]
theorem r3out (x : X3) (h : outS x.f (shOf (x.acts.getD x.i default))) : roundE (P := Tryd.prog) (Γ := Γs) [SiQ.c18, CT.at 9 (ansIssueOut (f := x.f) (bad := x.bad) (l := x.l) (j := []) h)] Lno false 0 0 lp3 lv3 nl3 97 (S31 x).1 (S31 x).2 =
  Tree.br (decide ((↑x.i : Int) < (↑(List.length x.acts) : Int))) (Tree.chk (decide ((0 : Int) ≤ (↑x.i : Int)) && decide ((↑x.i : Int) < (↑(List.length x.acts) : Int))) (Tree.chk (decide ((0 :
    Int) ≤ (↑x.i : Int)) && decide ((↑x.i : Int) < (↑(List.length x.acts) : Int))) (Tree.chk (cl (LeL [AV.ptr (0 : Nat) (0 : Nat), AV.agg [AV.v (Value.int IntKind.i64 (List.getD x.acts x.i
    default).s), AV.v (Value.int IntKind.i64 (List.getD x.acts x.i default).st.k), AV.v (Value.int IntKind.i64 (List.getD x.acts x.i default).st.b), AV.v (Value.int IntKind.i64 (List.getD
    x.acts x.i default).st.v), AV.v (Value.int IntKind.i64 (List.getD x.acts x.i default).st.r), AV.v (Value.int IntKind.i64 (List.getD x.acts x.i default).st.h), AV.v (Value.int IntKind.i64
    (List.getD x.acts x.i default).st.a), AV.v (Value.int IntKind.i64 (List.getD x.acts x.i default).st.hk), AV.v (Value.int IntKind.i64 (List.getD x.acts x.i default).st.hb), AV.v
    (Value.int IntKind.i64 (List.getD x.acts x.i default).st.hv), AV.v (Value.int IntKind.i64 (List.getD x.acts x.i default).st.hr)]] [AV.ptr (0 : Nat) (0 : Nat), AV.agg [AV.v (Value.int
    IntKind.i64 (List.getD x.acts x.i default).s), AV.v (Value.int IntKind.i64 (List.getD x.acts x.i default).st.k), AV.v (Value.int IntKind.i64 (List.getD x.acts x.i default).st.b), AV.v
    (Value.int IntKind.i64 (List.getD x.acts x.i default).st.v), AV.v (Value.int IntKind.i64 (List.getD x.acts x.i default).st.r), AV.v (Value.int IntKind.i64 (List.getD x.acts x.i
    default).st.h), AV.v (Value.int IntKind.i64 (List.getD x.acts x.i default).st.a), AV.v (Value.int IntKind.i64 (List.getD x.acts x.i default).st.hk), AV.v (Value.int IntKind.i64
    (List.getD x.acts x.i default).st.hb), AV.v (Value.int IntKind.i64 (List.getD x.acts x.i default).st.hv), AV.v (Value.int IntKind.i64 (List.getD x.acts x.i default).st.hr)]] ∧ LeH [some
    (Blk.row [AV.v (Value.int IntKind.i64 x.f), AV.v (Value.int IntKind.u32 x.bad), AV.map (1 : Nat), AV.hs (2 : Nat) (0 : Nat) (List.length x.l)]), some (Blk.mp [Cel.int IntKind.i64,
    Cel.int IntKind.i64, Cel.int IntKind.i64, Cel.int IntKind.i64, Cel.int IntKind.i64, Cel.int IntKind.i64, Cel.int IntKind.i64, Cel.int IntKind.i64, Cel.int IntKind.i64, Cel.int
    IntKind.i64, Cel.int IntKind.i64] true false (List.length x.l) (hasS x.l) anyV), some (Blk.arr (11 : Nat) (List.length (x.l ++ [])) (lsF Sh.c (x.l ++ [])))] [some (Blk.row [AV.v
    (Value.int IntKind.i64 x.f), AV.v (Value.int IntKind.u32 x.bad), AV.map (1 : Nat), AV.hs (2 : Nat) (0 : Nat) (List.length x.l)]), some (Blk.mp [Cel.int IntKind.i64, Cel.int IntKind.i64,
    Cel.int IntKind.i64, Cel.int IntKind.i64, Cel.int IntKind.i64, Cel.int IntKind.i64, Cel.int IntKind.i64, Cel.int IntKind.i64, Cel.int IntKind.i64, Cel.int IntKind.i64, Cel.int
    IntKind.i64] true false (List.length x.l) (hasS x.l) anyV), some (Blk.arr (11 : Nat) (List.length (x.l ++ [])) (lsF Sh.c (x.l ++ [])))])) (Tree.chk (bif x.on then decide ((0 : Int) ≤
    (↑x.i : Int)) && decide ((↑x.i : Int) < (↑(List.length x.acts) : Int)) && bif !(decide ((List.getD x.acts x.i default).st.k = x.st.k) && (decide ((List.getD x.acts x.i default).st.b =
    x.st.b) && (decide ((List.getD x.acts x.i default).st.v = x.st.v) && (decide ((List.getD x.acts x.i default).st.r = x.st.r) && (decide ((List.getD x.acts x.i default).st.h = x.st.h) &&
    (decide ((List.getD x.acts x.i default).st.a = x.st.a) && (decide ((List.getD x.acts x.i default).st.hk = x.st.hk) && (decide ((List.getD x.acts x.i default).st.hb = x.st.hb) && (decide
    ((List.getD x.acts x.i default).st.hv = x.st.hv) && decide ((List.getD x.acts x.i default).st.hr = x.st.hr)))))))))) then true else decide ((0 : Int) ≤ (↑x.i : Int)) && decide ((↑x.i :
    Int) < (↑(List.length x.acts) : Int)) && inU32 x.bad else true) (Tree.leaf (Out.mk AEx.normal [AV.v (Value.int IntKind.i64 x.f), AV.v (Value.int IntKind.u32 x.bad), AV.sl (14 : Nat)
    (List.length x.acts) (lsF Ac.c x.acts), AV.v (Value.int IntKind.u32 x.set), AV.ptr (0 : Nat) (0 : Nat), AV.ptr (1 : Nat) (0 : Nat), AV.v (Value.int IntKind.i64 x.be), AV.sb (bif x.on
    then bif !(decide ((List.getD x.acts x.i default).st.k = x.st.k) && (decide ((List.getD x.acts x.i default).st.b = x.st.b) && (decide ((List.getD x.acts x.i default).st.v = x.st.v) &&
    (decide ((List.getD x.acts x.i default).st.r = x.st.r) && (decide ((List.getD x.acts x.i default).st.h = x.st.h) && (decide ((List.getD x.acts x.i default).st.a = x.st.a) && (decide
    ((List.getD x.acts x.i default).st.hk = x.st.hk) && (decide ((List.getD x.acts x.i default).st.hb = x.st.hb) && (decide ((List.getD x.acts x.i default).st.hv = x.st.hv) && decide
    ((List.getD x.acts x.i default).st.hr = x.st.hr)))))))))) then true else hasB x.bad (List.getD x.acts x.i default).s else false), AV.v (Value.int IntKind.i64 (IntKind.wrap IntKind.i64
    ((↑x.i : Int) + (1 : Int)))), AV.any] [some (Blk.row [AV.v (Value.int IntKind.i64 x.st.k), AV.v (Value.int IntKind.i64 x.st.b), AV.v (Value.int IntKind.i64 x.st.v), AV.v (Value.int
    IntKind.i64 x.st.r), AV.v (Value.int IntKind.i64 x.st.h), AV.v (Value.int IntKind.i64 x.st.a), AV.v (Value.int IntKind.i64 x.st.hk), AV.v (Value.int IntKind.i64 x.st.hb), AV.v (Value.int
    IntKind.i64 x.st.hv), AV.v (Value.int IntKind.i64 x.st.hr)]), some (Blk.row [AV.v (Value.int IntKind.i64 x.f), AV.v (Value.int IntKind.u32 x.bad), AV.map (2 : Nat), AV.hs (3 : Nat) (0 :
    Nat) (List.length x.l)]), some (Blk.mp [Cel.int IntKind.i64, Cel.int IntKind.i64, Cel.int IntKind.i64, Cel.int IntKind.i64, Cel.int IntKind.i64, Cel.int IntKind.i64, Cel.int IntKind.i64,
    Cel.int IntKind.i64, Cel.int IntKind.i64, Cel.int IntKind.i64, Cel.int IntKind.i64] true false (List.length x.l) (hasS x.l) anyV), some (Blk.arr (11 : Nat) (List.length (x.l ++ [])) (lsF
    Sh.c (x.l ++ [])))])))))) (Tree.leaf (Out.mk (AEx.exit (0 : Nat)) [AV.v (Value.int IntKind.i64 x.f), AV.v (Value.int IntKind.u32 x.bad), AV.sl (14 : Nat) (List.length x.acts) (lsF Ac.c
    x.acts), AV.v (Value.int IntKind.u32 x.set), AV.ptr (0 : Nat) (0 : Nat), AV.ptr (1 : Nat) (0 : Nat), AV.v (Value.int IntKind.i64 x.be), AV.sb x.on, AV.v (Value.int IntKind.i64 (↑x.i :
    Int)), AV.any] [some (Blk.row [AV.v (Value.int IntKind.i64 x.st.k), AV.v (Value.int IntKind.i64 x.st.b), AV.v (Value.int IntKind.i64 x.st.v), AV.v (Value.int IntKind.i64 x.st.r), AV.v
    (Value.int IntKind.i64 x.st.h), AV.v (Value.int IntKind.i64 x.st.a), AV.v (Value.int IntKind.i64 x.st.hk), AV.v (Value.int IntKind.i64 x.st.hb), AV.v (Value.int IntKind.i64 x.st.hv),
    AV.v (Value.int IntKind.i64 x.st.hr)]), some (Blk.row [AV.v (Value.int IntKind.i64 x.f), AV.v (Value.int IntKind.u32 x.bad), AV.map (2 : Nat), AV.hs (3 : Nat) (0 : Nat) (List.length
    x.l)]), some (Blk.mp [Cel.int IntKind.i64, Cel.int IntKind.i64, Cel.int IntKind.i64, Cel.int IntKind.i64, Cel.int IntKind.i64, Cel.int IntKind.i64, Cel.int IntKind.i64, Cel.int
    IntKind.i64, Cel.int IntKind.i64, Cel.int IntKind.i64, Cel.int IntKind.i64] true false (List.length x.l) (hasS x.l) anyV), some (Blk.arr (11 : Nat) (List.length (x.l ++ [])) (lsF Sh.c
    (x.l ++ [])))])) := by kernel_rfl
theorem r3there (x : X3) (h : ¬ outS x.f (shOf (x.acts.getD x.i default))) (hx : (shOf (x.acts.getD x.i default)) ∈ x.l) : roundE (P := Tryd.prog) (Γ := Γs) [SiQ.c18, CT.at 9 (ansIssueThere (f := x.f) (bad := x.bad) (l := x.l) (j := []) h hx)] Lno false 0 0 lp3 lv3 nl3 97 (S31 x).1 (S31 x).2 =
  Tree.br (decide ((↑x.i : Int) < (↑(List.length x.acts) : Int))) (Tree.chk (decide ((0 : Int) ≤ (↑x.i : Int)) && decide ((↑x.i : Int) < (↑(List.length x.acts) : Int))) (Tree.chk (decide ((0 :
    Int) ≤ (↑x.i : Int)) && decide ((↑x.i : Int) < (↑(List.length x.acts) : Int))) (Tree.chk (cl (LeL [AV.ptr (0 : Nat) (0 : Nat), AV.agg [AV.v (Value.int IntKind.i64 (List.getD x.acts x.i
    default).s), AV.v (Value.int IntKind.i64 (List.getD x.acts x.i default).st.k), AV.v (Value.int IntKind.i64 (List.getD x.acts x.i default).st.b), AV.v (Value.int IntKind.i64 (List.getD
    x.acts x.i default).st.v), AV.v (Value.int IntKind.i64 (List.getD x.acts x.i default).st.r), AV.v (Value.int IntKind.i64 (List.getD x.acts x.i default).st.h), AV.v (Value.int IntKind.i64
    (List.getD x.acts x.i default).st.a), AV.v (Value.int IntKind.i64 (List.getD x.acts x.i default).st.hk), AV.v (Value.int IntKind.i64 (List.getD x.acts x.i default).st.hb), AV.v
    (Value.int IntKind.i64 (List.getD x.acts x.i default).st.hv), AV.v (Value.int IntKind.i64 (List.getD x.acts x.i default).st.hr)]] [AV.ptr (0 : Nat) (0 : Nat), AV.agg [AV.v (Value.int
    IntKind.i64 (List.getD x.acts x.i default).s), AV.v (Value.int IntKind.i64 (List.getD x.acts x.i default).st.k), AV.v (Value.int IntKind.i64 (List.getD x.acts x.i default).st.b), AV.v
    (Value.int IntKind.i64 (List.getD x.acts x.i default).st.v), AV.v (Value.int IntKind.i64 (List.getD x.acts x.i default).st.r), AV.v (Value.int IntKind.i64 (List.getD x.acts x.i
    default).st.h), AV.v (Value.int IntKind.i64 (List.getD x.acts x.i default).st.a), AV.v (Value.int IntKind.i64 (List.getD x.acts x.i default).st.hk), AV.v (Value.int IntKind.i64
    (List.getD x.acts x.i default).st.hb), AV.v (Value.int IntKind.i64 (List.getD x.acts x.i default).st.hv), AV.v (Value.int IntKind.i64 (List.getD x.acts x.i default).st.hr)]] ∧ LeH [some
    (Blk.row [AV.v (Value.int IntKind.i64 x.f), AV.v (Value.int IntKind.u32 x.bad), AV.map (1 : Nat), AV.hs (2 : Nat) (0 : Nat) (List.length x.l)]), some (Blk.mp [Cel.int IntKind.i64,
    Cel.int IntKind.i64, Cel.int IntKind.i64, Cel.int IntKind.i64, Cel.int IntKind.i64, Cel.int IntKind.i64, Cel.int IntKind.i64, Cel.int IntKind.i64, Cel.int IntKind.i64, Cel.int
    IntKind.i64, Cel.int IntKind.i64] true false (List.length x.l) (hasS x.l) anyV), some (Blk.arr (11 : Nat) (List.length (x.l ++ [])) (lsF Sh.c (x.l ++ [])))] [some (Blk.row [AV.v
    (Value.int IntKind.i64 x.f), AV.v (Value.int IntKind.u32 x.bad), AV.map (1 : Nat), AV.hs (2 : Nat) (0 : Nat) (List.length x.l)]), some (Blk.mp [Cel.int IntKind.i64, Cel.int IntKind.i64,
    Cel.int IntKind.i64, Cel.int IntKind.i64, Cel.int IntKind.i64, Cel.int IntKind.i64, Cel.int IntKind.i64, Cel.int IntKind.i64, Cel.int IntKind.i64, Cel.int IntKind.i64, Cel.int
    IntKind.i64] true false (List.length x.l) (hasS x.l) anyV), some (Blk.arr (11 : Nat) (List.length (x.l ++ [])) (lsF Sh.c (x.l ++ [])))])) (Tree.chk (bif x.on then decide ((0 : Int) ≤
    (↑x.i : Int)) && decide ((↑x.i : Int) < (↑(List.length x.acts) : Int)) && bif !(decide ((List.getD x.acts x.i default).st.k = x.st.k) && (decide ((List.getD x.acts x.i default).st.b =
    x.st.b) && (decide ((List.getD x.acts x.i default).st.v = x.st.v) && (decide ((List.getD x.acts x.i default).st.r = x.st.r) && (decide ((List.getD x.acts x.i default).st.h = x.st.h) &&
    (decide ((List.getD x.acts x.i default).st.a = x.st.a) && (decide ((List.getD x.acts x.i default).st.hk = x.st.hk) && (decide ((List.getD x.acts x.i default).st.hb = x.st.hb) && (decide
    ((List.getD x.acts x.i default).st.hv = x.st.hv) && decide ((List.getD x.acts x.i default).st.hr = x.st.hr)))))))))) then true else decide ((0 : Int) ≤ (↑x.i : Int)) && decide ((↑x.i :
    Int) < (↑(List.length x.acts) : Int)) && inU32 x.bad else true) (Tree.leaf (Out.mk AEx.normal [AV.v (Value.int IntKind.i64 x.f), AV.v (Value.int IntKind.u32 x.bad), AV.sl (14 : Nat)
    (List.length x.acts) (lsF Ac.c x.acts), AV.v (Value.int IntKind.u32 x.set), AV.ptr (0 : Nat) (0 : Nat), AV.ptr (1 : Nat) (0 : Nat), AV.v (Value.int IntKind.i64 x.be), AV.sb (bif x.on
    then bif !(decide ((List.getD x.acts x.i default).st.k = x.st.k) && (decide ((List.getD x.acts x.i default).st.b = x.st.b) && (decide ((List.getD x.acts x.i default).st.v = x.st.v) &&
    (decide ((List.getD x.acts x.i default).st.r = x.st.r) && (decide ((List.getD x.acts x.i default).st.h = x.st.h) && (decide ((List.getD x.acts x.i default).st.a = x.st.a) && (decide
    ((List.getD x.acts x.i default).st.hk = x.st.hk) && (decide ((List.getD x.acts x.i default).st.hb = x.st.hb) && (decide ((List.getD x.acts x.i default).st.hv = x.st.hv) && decide
    ((List.getD x.acts x.i default).st.hr = x.st.hr)))))))))) then true else hasB x.bad (List.getD x.acts x.i default).s else false), AV.v (Value.int IntKind.i64 (IntKind.wrap IntKind.i64
    ((↑x.i : Int) + (1 : Int)))), AV.any] [some (Blk.row [AV.v (Value.int IntKind.i64 x.st.k), AV.v (Value.int IntKind.i64 x.st.b), AV.v (Value.int IntKind.i64 x.st.v), AV.v (Value.int
    IntKind.i64 x.st.r), AV.v (Value.int IntKind.i64 x.st.h), AV.v (Value.int IntKind.i64 x.st.a), AV.v (Value.int IntKind.i64 x.st.hk), AV.v (Value.int IntKind.i64 x.st.hb), AV.v (Value.int
    IntKind.i64 x.st.hv), AV.v (Value.int IntKind.i64 x.st.hr)]), some (Blk.row [AV.v (Value.int IntKind.i64 x.f), AV.v (Value.int IntKind.u32 x.bad), AV.map (2 : Nat), AV.hs (3 : Nat) (0 :
    Nat) (List.length x.l)]), some (Blk.mp [Cel.int IntKind.i64, Cel.int IntKind.i64, Cel.int IntKind.i64, Cel.int IntKind.i64, Cel.int IntKind.i64, Cel.int IntKind.i64, Cel.int IntKind.i64,
    Cel.int IntKind.i64, Cel.int IntKind.i64, Cel.int IntKind.i64, Cel.int IntKind.i64] true false (List.length x.l) (hasS x.l) anyV), some (Blk.arr (11 : Nat) (List.length (x.l ++ [])) (lsF
    Sh.c (x.l ++ [])))])))))) (Tree.leaf (Out.mk (AEx.exit (0 : Nat)) [AV.v (Value.int IntKind.i64 x.f), AV.v (Value.int IntKind.u32 x.bad), AV.sl (14 : Nat) (List.length x.acts) (lsF Ac.c
    x.acts), AV.v (Value.int IntKind.u32 x.set), AV.ptr (0 : Nat) (0 : Nat), AV.ptr (1 : Nat) (0 : Nat), AV.v (Value.int IntKind.i64 x.be), AV.sb x.on, AV.v (Value.int IntKind.i64 (↑x.i :
    Int)), AV.any] [some (Blk.row [AV.v (Value.int IntKind.i64 x.st.k), AV.v (Value.int IntKind.i64 x.st.b), AV.v (Value.int IntKind.i64 x.st.v), AV.v (Value.int IntKind.i64 x.st.r), AV.v
    (Value.int IntKind.i64 x.st.h), AV.v (Value.int IntKind.i64 x.st.a), AV.v (Value.int IntKind.i64 x.st.hk), AV.v (Value.int IntKind.i64 x.st.hb), AV.v (Value.int IntKind.i64 x.st.hv),
    AV.v (Value.int IntKind.i64 x.st.hr)]), some (Blk.row [AV.v (Value.int IntKind.i64 x.f), AV.v (Value.int IntKind.u32 x.bad), AV.map (2 : Nat), AV.hs (3 : Nat) (0 : Nat) (List.length
    x.l)]), some (Blk.mp [Cel.int IntKind.i64, Cel.int IntKind.i64, Cel.int IntKind.i64, Cel.int IntKind.i64, Cel.int IntKind.i64, Cel.int IntKind.i64, Cel.int IntKind.i64, Cel.int
    IntKind.i64, Cel.int IntKind.i64, Cel.int IntKind.i64, Cel.int IntKind.i64] true false (List.length x.l) (hasS x.l) anyV), some (Blk.arr (11 : Nat) (List.length (x.l ++ [])) (lsF Sh.c
    (x.l ++ [])))])) := by kernel_rfl
theorem r3new (x : X3) (h : ¬ outS x.f (shOf (x.acts.getD x.i default))) (hs' : x.l.length ≤ 999999999) (hx : ¬ (shOf (x.acts.getD x.i default)) ∈ x.l) : roundE (P := Tryd.prog) (Γ := Γs) [SiQ.c18, CT.at 9 (ansIssueNew (f := x.f) (bad := x.bad) (l := x.l) (j := []) h hx hs')] Lno false 0 0 lp3 lv3 nl3 97 (S31 x).1 (S31 x).2 =
  Tree.br (decide ((↑x.i : Int) < (↑(List.length x.acts) : Int))) (Tree.chk (decide ((0 : Int) ≤ (↑x.i : Int)) && decide ((↑x.i : Int) < (↑(List.length x.acts) : Int))) (Tree.chk (decide ((0 :
    Int) ≤ (↑x.i : Int)) && decide ((↑x.i : Int) < (↑(List.length x.acts) : Int))) (Tree.chk (cl (LeL [AV.ptr (0 : Nat) (0 : Nat), AV.agg [AV.v (Value.int IntKind.i64 (List.getD x.acts x.i
    default).s), AV.v (Value.int IntKind.i64 (List.getD x.acts x.i default).st.k), AV.v (Value.int IntKind.i64 (List.getD x.acts x.i default).st.b), AV.v (Value.int IntKind.i64 (List.getD
    x.acts x.i default).st.v), AV.v (Value.int IntKind.i64 (List.getD x.acts x.i default).st.r), AV.v (Value.int IntKind.i64 (List.getD x.acts x.i default).st.h), AV.v (Value.int IntKind.i64
    (List.getD x.acts x.i default).st.a), AV.v (Value.int IntKind.i64 (List.getD x.acts x.i default).st.hk), AV.v (Value.int IntKind.i64 (List.getD x.acts x.i default).st.hb), AV.v
    (Value.int IntKind.i64 (List.getD x.acts x.i default).st.hv), AV.v (Value.int IntKind.i64 (List.getD x.acts x.i default).st.hr)]] [AV.ptr (0 : Nat) (0 : Nat), AV.agg [AV.v (Value.int
    IntKind.i64 (List.getD x.acts x.i default).s), AV.v (Value.int IntKind.i64 (List.getD x.acts x.i default).st.k), AV.v (Value.int IntKind.i64 (List.getD x.acts x.i default).st.b), AV.v
    (Value.int IntKind.i64 (List.getD x.acts x.i default).st.v), AV.v (Value.int IntKind.i64 (List.getD x.acts x.i default).st.r), AV.v (Value.int IntKind.i64 (List.getD x.acts x.i
    default).st.h), AV.v (Value.int IntKind.i64 (List.getD x.acts x.i default).st.a), AV.v (Value.int IntKind.i64 (List.getD x.acts x.i default).st.hk), AV.v (Value.int IntKind.i64
    (List.getD x.acts x.i default).st.hb), AV.v (Value.int IntKind.i64 (List.getD x.acts x.i default).st.hv), AV.v (Value.int IntKind.i64 (List.getD x.acts x.i default).st.hr)]] ∧ LeH [some
    (Blk.row [AV.v (Value.int IntKind.i64 x.f), AV.v (Value.int IntKind.u32 x.bad), AV.map (1 : Nat), AV.hs (2 : Nat) (0 : Nat) (List.length x.l)]), some (Blk.mp [Cel.int IntKind.i64,
    Cel.int IntKind.i64, Cel.int IntKind.i64, Cel.int IntKind.i64, Cel.int IntKind.i64, Cel.int IntKind.i64, Cel.int IntKind.i64, Cel.int IntKind.i64, Cel.int IntKind.i64, Cel.int
    IntKind.i64, Cel.int IntKind.i64] true false (List.length x.l) (hasS x.l) anyV), some (Blk.arr (11 : Nat) (List.length (x.l ++ [])) (lsF Sh.c (x.l ++ [])))] [some (Blk.row [AV.v
    (Value.int IntKind.i64 x.f), AV.v (Value.int IntKind.u32 x.bad), AV.map (1 : Nat), AV.hs (2 : Nat) (0 : Nat) (List.length x.l)]), some (Blk.mp [Cel.int IntKind.i64, Cel.int IntKind.i64,
    Cel.int IntKind.i64, Cel.int IntKind.i64, Cel.int IntKind.i64, Cel.int IntKind.i64, Cel.int IntKind.i64, Cel.int IntKind.i64, Cel.int IntKind.i64, Cel.int IntKind.i64, Cel.int
    IntKind.i64] true false (List.length x.l) (hasS x.l) anyV), some (Blk.arr (11 : Nat) (List.length (x.l ++ [])) (lsF Sh.c (x.l ++ [])))])) (Tree.chk (bif x.on then decide ((0 : Int) ≤
    (↑x.i : Int)) && decide ((↑x.i : Int) < (↑(List.length x.acts) : Int)) && bif !(decide ((List.getD x.acts x.i default).st.k = x.st.k) && (decide ((List.getD x.acts x.i default).st.b =
    x.st.b) && (decide ((List.getD x.acts x.i default).st.v = x.st.v) && (decide ((List.getD x.acts x.i default).st.r = x.st.r) && (decide ((List.getD x.acts x.i default).st.h = x.st.h) &&
    (decide ((List.getD x.acts x.i default).st.a = x.st.a) && (decide ((List.getD x.acts x.i default).st.hk = x.st.hk) && (decide ((List.getD x.acts x.i default).st.hb = x.st.hb) && (decide
    ((List.getD x.acts x.i default).st.hv = x.st.hv) && decide ((List.getD x.acts x.i default).st.hr = x.st.hr)))))))))) then true else decide ((0 : Int) ≤ (↑x.i : Int)) && decide ((↑x.i :
    Int) < (↑(List.length x.acts) : Int)) && inU32 x.bad else true) (Tree.leaf (Out.mk AEx.normal [AV.v (Value.int IntKind.i64 x.f), AV.v (Value.int IntKind.u32 x.bad), AV.sl (14 : Nat)
    (List.length x.acts) (lsF Ac.c x.acts), AV.v (Value.int IntKind.u32 x.set), AV.ptr (0 : Nat) (0 : Nat), AV.ptr (1 : Nat) (0 : Nat), AV.v (Value.int IntKind.i64 x.be), AV.sb (bif x.on
    then bif !(decide ((List.getD x.acts x.i default).st.k = x.st.k) && (decide ((List.getD x.acts x.i default).st.b = x.st.b) && (decide ((List.getD x.acts x.i default).st.v = x.st.v) &&
    (decide ((List.getD x.acts x.i default).st.r = x.st.r) && (decide ((List.getD x.acts x.i default).st.h = x.st.h) && (decide ((List.getD x.acts x.i default).st.a = x.st.a) && (decide
    ((List.getD x.acts x.i default).st.hk = x.st.hk) && (decide ((List.getD x.acts x.i default).st.hb = x.st.hb) && (decide ((List.getD x.acts x.i default).st.hv = x.st.hv) && decide
    ((List.getD x.acts x.i default).st.hr = x.st.hr)))))))))) then true else hasB x.bad (List.getD x.acts x.i default).s else false), AV.v (Value.int IntKind.i64 (IntKind.wrap IntKind.i64
    ((↑x.i : Int) + (1 : Int)))), AV.any] [some (Blk.row [AV.v (Value.int IntKind.i64 x.st.k), AV.v (Value.int IntKind.i64 x.st.b), AV.v (Value.int IntKind.i64 x.st.v), AV.v (Value.int
    IntKind.i64 x.st.r), AV.v (Value.int IntKind.i64 x.st.h), AV.v (Value.int IntKind.i64 x.st.a), AV.v (Value.int IntKind.i64 x.st.hk), AV.v (Value.int IntKind.i64 x.st.hb), AV.v (Value.int
    IntKind.i64 x.st.hv), AV.v (Value.int IntKind.i64 x.st.hr)]), some (Blk.row [AV.v (Value.int IntKind.i64 x.f), AV.v (Value.int IntKind.u32 x.bad), AV.map (2 : Nat), AV.hs (3 : Nat) (0 :
    Nat) (List.length (x.l ++ [shOf (List.getD x.acts x.i default)]))]), some (Blk.mp [Cel.int IntKind.i64, Cel.int IntKind.i64, Cel.int IntKind.i64, Cel.int IntKind.i64, Cel.int
    IntKind.i64, Cel.int IntKind.i64, Cel.int IntKind.i64, Cel.int IntKind.i64, Cel.int IntKind.i64, Cel.int IntKind.i64, Cel.int IntKind.i64] true false (List.length (x.l ++ [shOf
    (List.getD x.acts x.i default)])) (hasS (x.l ++ [shOf (List.getD x.acts x.i default)])) anyV), some (Blk.arr (11 : Nat) (List.length (x.l ++ [shOf (List.getD x.acts x.i default)])) (lsF
    Sh.c (x.l ++ [shOf (List.getD x.acts x.i default)])))])))))) (Tree.leaf (Out.mk (AEx.exit (0 : Nat)) [AV.v (Value.int IntKind.i64 x.f), AV.v (Value.int IntKind.u32 x.bad), AV.sl (14 :
    Nat) (List.length x.acts) (lsF Ac.c x.acts), AV.v (Value.int IntKind.u32 x.set), AV.ptr (0 : Nat) (0 : Nat), AV.ptr (1 : Nat) (0 : Nat), AV.v (Value.int IntKind.i64 x.be), AV.sb x.on,
    AV.v (Value.int IntKind.i64 (↑x.i : Int)), AV.any] [some (Blk.row [AV.v (Value.int IntKind.i64 x.st.k), AV.v (Value.int IntKind.i64 x.st.b), AV.v (Value.int IntKind.i64 x.st.v), AV.v
    (Value.int IntKind.i64 x.st.r), AV.v (Value.int IntKind.i64 x.st.h), AV.v (Value.int IntKind.i64 x.st.a), AV.v (Value.int IntKind.i64 x.st.hk), AV.v (Value.int IntKind.i64 x.st.hb), AV.v
    (Value.int IntKind.i64 x.st.hv), AV.v (Value.int IntKind.i64 x.st.hr)]), some (Blk.row [AV.v (Value.int IntKind.i64 x.f), AV.v (Value.int IntKind.u32 x.bad), AV.map (2 : Nat), AV.hs (3 :
    Nat) (0 : Nat) (List.length x.l)]), some (Blk.mp [Cel.int IntKind.i64, Cel.int IntKind.i64, Cel.int IntKind.i64, Cel.int IntKind.i64, Cel.int IntKind.i64, Cel.int IntKind.i64, Cel.int
    IntKind.i64, Cel.int IntKind.i64, Cel.int IntKind.i64, Cel.int IntKind.i64, Cel.int IntKind.i64] true false (List.length x.l) (hasS x.l) anyV), some (Blk.arr (11 : Nat) (List.length (x.l
    ++ [])) (lsF Sh.c (x.l ++ [])))])) := by kernel_rfl
theorem r3end (x : X3) : roundE (P := Tryd.prog) (Γ := Γs) [SiQ.c18] Lno false 0 0 lp3 lv3 nl3 97 (S31 x).1 (S31 x).2 =
  Tree.br (decide ((↑x.i : Int) < (↑(List.length x.acts) : Int))) (Tree.chk (decide ((0 : Int) ≤ (↑x.i : Int)) && decide ((↑x.i : Int) < (↑(List.length x.acts) : Int))) (Tree.chk (decide ((0 :
    Int) ≤ (↑x.i : Int)) && decide ((↑x.i : Int) < (↑(List.length x.acts) : Int))) Tree.fail)) (Tree.leaf (Out.mk (AEx.exit (0 : Nat)) [AV.v (Value.int IntKind.i64 x.f), AV.v (Value.int
    IntKind.u32 x.bad), AV.sl (14 : Nat) (List.length x.acts) (lsF Ac.c x.acts), AV.v (Value.int IntKind.u32 x.set), AV.ptr (0 : Nat) (0 : Nat), AV.ptr (1 : Nat) (0 : Nat), AV.v (Value.int
    IntKind.i64 x.be), AV.sb x.on, AV.v (Value.int IntKind.i64 (↑x.i : Int)), AV.any] [some (Blk.row [AV.v (Value.int IntKind.i64 x.st.k), AV.v (Value.int IntKind.i64 x.st.b), AV.v
    (Value.int IntKind.i64 x.st.v), AV.v (Value.int IntKind.i64 x.st.r), AV.v (Value.int IntKind.i64 x.st.h), AV.v (Value.int IntKind.i64 x.st.a), AV.v (Value.int IntKind.i64 x.st.hk), AV.v
    (Value.int IntKind.i64 x.st.hb), AV.v (Value.int IntKind.i64 x.st.hv), AV.v (Value.int IntKind.i64 x.st.hr)]), some (Blk.row [AV.v (Value.int IntKind.i64 x.f), AV.v (Value.int
    IntKind.u32 x.bad), AV.map (2 : Nat), AV.hs (3 : Nat) (0 : Nat) (List.length x.l)]), some (Blk.mp [Cel.int IntKind.i64, Cel.int IntKind.i64, Cel.int IntKind.i64, Cel.int IntKind.i64,
    Cel.int IntKind.i64, Cel.int IntKind.i64, Cel.int IntKind.i64, Cel.int IntKind.i64, Cel.int IntKind.i64, Cel.int IntKind.i64, Cel.int IntKind.i64] true false (List.length x.l) (hasS x.l)
    anyV), some (Blk.arr (11 : Nat) (List.length (x.l ++ [])) (lsF Sh.c (x.l ++ [])))])) := by kernel_rfl
def stEq (y x : St) : Bool := decide (y.k = x.k) && (decide (y.b = x.b) && (decide (y.v = x.v) && (decide (y.r = x.r) && (decide (y.h = x.h) && (decide (y.a = x.a) && (decide (y.hk = x.hk) && (decide (y.hb = x.hb) && (decide (y.hv = x.hv) && decide (y.hr = x.hr)))))))))
theorem stEq_iff {y x : St} : stEq y x = true ↔ y = x := by
  obtain ⟨x0, x1, x2, x3, x4, x5, x6, x7, x8, x9⟩ := x
  obtain ⟨y0, y1, y2, y3, y4, y5, y6, y7, y8, y9⟩ := y
  simp [stEq]
def onK (bad : Int) (st : St) (on : Bool) (a : Ac) : Bool := on && (!stEq a.st st || hasB bad a.s)
open Classical in
noncomputable def lK (f : Int) (l : List Sh) (a : Ac) : List Sh := if outS f (shOf a) ∨ shOf a ∈ l then l else l ++ [shOf a]
noncomputable def stepK (f bad : Int) (st : St) (g : List Sh × Bool) (a : Ac) : List Sh × Bool := (lK f g.1 a, onK bad st g.2 a)
noncomputable def finK (f bad : Int) (st : St) (acts : List Ac) (i : Nat) (g : List Sh × Bool) : List Sh × Bool := (acts.drop i).foldl (stepK f bad st) g
theorem finK_next {f bad : Int} {st : St} {acts : List Ac} {i : Nat} {g : List Sh × Bool} (hi : i < acts.length) : finK f bad st acts i g = finK f bad st acts (i + 1) (stepK f bad st g (acts.getD i default)) := by
  unfold finK
  rw [List.drop_eq_getElem_cons hi, List.foldl_cons, getD_get hi]
theorem finK_end {f bad : Int} {st : St} {acts : List Ac} {i : Nat} {g : List Sh × Bool} (hi : acts.length ≤ i) : finK f bad st acts i g = g := by
  unfold finK
  rw [List.drop_eq_nil_of_le hi]; rfl
def OK3 (f bad set : Int) (st : St) (be : Int) (g : List Sh × Bool) : Out := ⟨.exit 0, [.v (.int .i64 f), .v (.int .u32 bad), .any, .v (.int .u32 set), .ptr 0 0, .ptr 1 0, .v (.int .i64 be), .sb g.2, .any, .any], [some (.row st.c), some (sgR 2 3 f bad g.1.length), some (sgM g.1), some (shB (g.1 ++ []))]⟩
noncomputable def O31 (x : X3) : Out := OK3 x.f x.bad x.set x.st x.be (finK x.f x.bad x.st x.acts x.i (x.l, x.on))
structure pre3 (acts : List Ac) (x : X3) : Prop where
  e1 : x.acts = acts
  e2 : inU32 x.bad = true
  i : x.i ≤ acts.length
  l : x.l.length ≤ x.i
abbrev RO3 (acts : List Ac) (x : X3) : Prop := RoundOK Tryd.prog Γs 0 97 0 lp3 lv3 nl3 (S31 x) (OwesA S31 (pre3 acts) O31 (fun x => acts.length - x.i) (acts.length - x.i) (O31 x))
theorem go3 {acts : List Ac} {x x' : X3} {fr : List AV} {H : Heap} (hi : x.i < acts.length) (h1 : x'.acts = acts) (h2 : inU32 x'.bad = true) (he : x'.i = x.i + 1) (h4 : LeL fr (S31 x').1) (h5 : LeH H (S31 x').2) (h6 : x'.l.length ≤ x.i + 1) (hO : O31 x' = O31 x) :
    ∃ x', LeL fr (S31 x').fst ∧ LeH H (S31 x').snd ∧ pre3 acts x' ∧ O31 x' = O31 x ∧ acts.length - x'.i < acts.length - x.i :=
  ⟨x', h4, h5, ⟨h1, h2, by omega, by omega⟩, hO, by omega⟩
theorem k3out {acts : List Ac} {x : X3} (hp : pre3 acts x) (hn : acts.length ≤ 100) (hi : x.i < acts.length) (h : outS x.f (shOf (x.acts.getD x.i default))) : RO3 acts x := by
  obtain ⟨hp1, hp2, hp3, hp4⟩ := hp
  have hac : x.acts.length = acts.length := by rw [hp1]
  have hla : (x.l ++ [(shOf (x.acts.getD x.i default))]).length = x.l.length + 1 := by simp
  have hL : lK x.f x.l (x.acts.getD x.i default) = x.l := if_pos (.inl h)
  have hO : O31 { x with l := x.l, on := onK x.bad x.st x.on (x.acts.getD x.i default), i := x.i + 1 } = O31 x := by
    unfold O31
    simp only
    rw [finK_next (i := x.i) (by omega : x.i < x.acts.length)]
    unfold stepK
    rw [hL]
  have d0 : decide ((0 : Int) ≤ (x.i : Int)) = true := decide_eq_true (by omega)
  have d1 : decide ((x.i : Int) < (x.acts.length : Int)) = true := decide_eq_true (by omega)
  refine .of (noLoops (by kernel_rfl)) (r3out x h) ?_
  simp only [or_true, true_or, false_or, or_false, and_false, false_and, cond_true, cond_false, Bool.not_true, Bool.not_false, Bool.false_eq_true, Bool.true_eq_false, not_true_eq_false, not_false_eq_true, false_implies, true_implies, implies_true, Nat.blt_eq, owesN, owesX, owesR, notT, sat_brT, sat_brF, sat_chkT, cl_iff, cl_false, AV.le_refl, AV.le_any, OLe_refl, OLe_none, sat_brN, Tree.sat_chk, Tree.sat_leaf, Tree.sat_fail, Nat.zero_add, Nat.sub_zero, Int.toNat_natCast, LeH_cons, LeH_nil, LeL_cons, LeL_nil, and_true, true_and, Bool.and_eq_true, Bool.or_eq_true, decide_eq_true_eq, decide_eq_false_iff_not, Bool.cond_true_left, Bool.cond_false_right, List.cons_append, List.nil_append, List.map_cons, List.map_nil, wrapUpN (show x.i ≤ 1000000000 by omega), hp2, d0, d1, Bool.and_true, Bool.true_and, Bool.or_true, Bool.cond_self]
  repeat' (first | apply And.intro | intro _hc)
  all_goals first | omega | contradiction | exact AV.le_refl _ | exact AV.le_any _ | exact OLe.refl _ | exact OLe.none _ | exact LeH.refl _ | exact LeL.refl _ | exact AV.le.bs _ | exact AV.le.sb _ | exact go3 (x' := { x with l := x.l, on := onK x.bad x.st x.on (x.acts.getD x.i default), i := x.i + 1 }) hi hp1 hp2 rfl (LeL.refl _) (LeH.refl _) (by first | omega | (dsimp only; omega)) hO | exact go3 (x' := { x with l := x.l, on := onK x.bad x.st x.on (x.acts.getD x.i default), i := x.i + 1 }) hi hp1 hp2 rfl (LeL.refl _) (by (show LeH _ (List.map some [Blk.row x.st.c, sgR 2 3 x.f x.bad (x.l ++ [(shOf (x.acts.getD x.i default))]).length, sgM (x.l ++ [(shOf (x.acts.getD x.i default))]), shB ((x.l ++ [(shOf (x.acts.getD x.i default))]) ++ [])]); rw [List.append_nil (x.l ++ [(shOf (x.acts.getD x.i default))])]; exact LeH.refl _)) (by first | omega | (dsimp only; omega)) hO | (exfalso; omega) | contradiction
theorem k3there {acts : List Ac} {x : X3} (hp : pre3 acts x) (hn : acts.length ≤ 100) (hi : x.i < acts.length) (h : ¬ outS x.f (shOf (x.acts.getD x.i default))) (hx : (shOf (x.acts.getD x.i default)) ∈ x.l) : RO3 acts x := by
  obtain ⟨hp1, hp2, hp3, hp4⟩ := hp
  have hac : x.acts.length = acts.length := by rw [hp1]
  have hla : (x.l ++ [(shOf (x.acts.getD x.i default))]).length = x.l.length + 1 := by simp
  have hL : lK x.f x.l (x.acts.getD x.i default) = x.l := if_pos (.inr hx)
  have hO : O31 { x with l := x.l, on := onK x.bad x.st x.on (x.acts.getD x.i default), i := x.i + 1 } = O31 x := by
    unfold O31
    simp only
    rw [finK_next (i := x.i) (by omega : x.i < x.acts.length)]
    unfold stepK
    rw [hL]
  have d0 : decide ((0 : Int) ≤ (x.i : Int)) = true := decide_eq_true (by omega)
  have d1 : decide ((x.i : Int) < (x.acts.length : Int)) = true := decide_eq_true (by omega)
  refine .of (noLoops (by kernel_rfl)) (r3there x h hx) ?_
  simp only [or_true, true_or, false_or, or_false, and_false, false_and, cond_true, cond_false, Bool.not_true, Bool.not_false, Bool.false_eq_true, Bool.true_eq_false, not_true_eq_false, not_false_eq_true, false_implies, true_implies, implies_true, Nat.blt_eq, owesN, owesX, owesR, notT, sat_brT, sat_brF, sat_chkT, cl_iff, cl_false, AV.le_refl, AV.le_any, OLe_refl, OLe_none, sat_brN, Tree.sat_chk, Tree.sat_leaf, Tree.sat_fail, Nat.zero_add, Nat.sub_zero, Int.toNat_natCast, LeH_cons, LeH_nil, LeL_cons, LeL_nil, and_true, true_and, Bool.and_eq_true, Bool.or_eq_true, decide_eq_true_eq, decide_eq_false_iff_not, Bool.cond_true_left, Bool.cond_false_right, List.cons_append, List.nil_append, List.map_cons, List.map_nil, wrapUpN (show x.i ≤ 1000000000 by omega), hp2, d0, d1, Bool.and_true, Bool.true_and, Bool.or_true, Bool.cond_self]
  repeat' (first | apply And.intro | intro _hc)
  all_goals first | omega | contradiction | exact AV.le_refl _ | exact AV.le_any _ | exact OLe.refl _ | exact OLe.none _ | exact LeH.refl _ | exact LeL.refl _ | exact AV.le.bs _ | exact AV.le.sb _ | exact go3 (x' := { x with l := x.l, on := onK x.bad x.st x.on (x.acts.getD x.i default), i := x.i + 1 }) hi hp1 hp2 rfl (LeL.refl _) (LeH.refl _) (by first | omega | (dsimp only; omega)) hO | exact go3 (x' := { x with l := x.l, on := onK x.bad x.st x.on (x.acts.getD x.i default), i := x.i + 1 }) hi hp1 hp2 rfl (LeL.refl _) (by (show LeH _ (List.map some [Blk.row x.st.c, sgR 2 3 x.f x.bad (x.l ++ [(shOf (x.acts.getD x.i default))]).length, sgM (x.l ++ [(shOf (x.acts.getD x.i default))]), shB ((x.l ++ [(shOf (x.acts.getD x.i default))]) ++ [])]); rw [List.append_nil (x.l ++ [(shOf (x.acts.getD x.i default))])]; exact LeH.refl _)) (by first | omega | (dsimp only; omega)) hO | (exfalso; omega) | contradiction
theorem k3new {acts : List Ac} {x : X3} (hp : pre3 acts x) (hn : acts.length ≤ 100) (hi : x.i < acts.length) (h : ¬ outS x.f (shOf (x.acts.getD x.i default))) (hx : ¬ (shOf (x.acts.getD x.i default)) ∈ x.l) : RO3 acts x := by
  obtain ⟨hp1, hp2, hp3, hp4⟩ := hp
  have hac : x.acts.length = acts.length := by rw [hp1]
  have hla : (x.l ++ [(shOf (x.acts.getD x.i default))]).length = x.l.length + 1 := by simp
  have hL : lK x.f x.l (x.acts.getD x.i default) = x.l ++ [(shOf (x.acts.getD x.i default))] := if_neg (fun h1 => h1.elim h hx)
  have hO : O31 { x with l := x.l ++ [(shOf (x.acts.getD x.i default))], on := onK x.bad x.st x.on (x.acts.getD x.i default), i := x.i + 1 } = O31 x := by
    unfold O31
    simp only
    rw [finK_next (i := x.i) (by omega : x.i < x.acts.length)]
    unfold stepK
    rw [hL]
  have d0 : decide ((0 : Int) ≤ (x.i : Int)) = true := decide_eq_true (by omega)
  have d1 : decide ((x.i : Int) < (x.acts.length : Int)) = true := decide_eq_true (by omega)
  refine .of (noLoops (by kernel_rfl)) (r3new x h (by omega) hx) ?_
  simp only [or_true, true_or, false_or, or_false, and_false, false_and, cond_true, cond_false, Bool.not_true, Bool.not_false, Bool.false_eq_true, Bool.true_eq_false, not_true_eq_false, not_false_eq_true, false_implies, true_implies, implies_true, Nat.blt_eq, owesN, owesX, owesR, notT, sat_brT, sat_brF, sat_chkT, cl_iff, cl_false, AV.le_refl, AV.le_any, OLe_refl, OLe_none, sat_brN, Tree.sat_chk, Tree.sat_leaf, Tree.sat_fail, Nat.zero_add, Nat.sub_zero, Int.toNat_natCast, LeH_cons, LeH_nil, LeL_cons, LeL_nil, and_true, true_and, Bool.and_eq_true, Bool.or_eq_true, decide_eq_true_eq, decide_eq_false_iff_not, Bool.cond_true_left, Bool.cond_false_right, List.cons_append, List.nil_append, List.map_cons, List.map_nil, wrapUpN (show x.i ≤ 1000000000 by omega), hp2, d0, d1, Bool.and_true, Bool.true_and, Bool.or_true, Bool.cond_self]
  repeat' (first | apply And.intro | intro _hc)
  all_goals first | omega | contradiction | exact AV.le_refl _ | exact AV.le_any _ | exact OLe.refl _ | exact OLe.none _ | exact LeH.refl _ | exact LeL.refl _ | exact AV.le.bs _ | exact AV.le.sb _ | exact go3 (x' := { x with l := x.l ++ [(shOf (x.acts.getD x.i default))], on := onK x.bad x.st x.on (x.acts.getD x.i default), i := x.i + 1 }) hi hp1 hp2 rfl (LeL.refl _) (LeH.refl _) (by first | omega | (dsimp only; omega)) hO | exact go3 (x' := { x with l := x.l ++ [(shOf (x.acts.getD x.i default))], on := onK x.bad x.st x.on (x.acts.getD x.i default), i := x.i + 1 }) hi hp1 hp2 rfl (LeL.refl _) (by (show LeH _ (List.map some [Blk.row x.st.c, sgR 2 3 x.f x.bad (x.l ++ [(shOf (x.acts.getD x.i default))]).length, sgM (x.l ++ [(shOf (x.acts.getD x.i default))]), shB ((x.l ++ [(shOf (x.acts.getD x.i default))]) ++ [])]); rw [List.append_nil (x.l ++ [(shOf (x.acts.getD x.i default))])]; exact LeH.refl _)) (by first | omega | (dsimp only; omega)) hO | (exfalso; omega) | contradiction
theorem k3end {acts : List Ac} {x : X3} (hp : pre3 acts x) (hi : acts.length ≤ x.i) (h : outS x.f (shOf (x.acts.getD x.i default)) ∨ ¬ outS x.f (shOf (x.acts.getD x.i default))) : RO3 acts x := by
  obtain ⟨hp1, hp2, hp3, hp4⟩ := hp
  have hac : x.acts.length = acts.length := by rw [hp1]
  have hO : O31 x = OK3 x.f x.bad x.set x.st x.be (x.l, x.on) := by
    unfold O31
    rw [finK_end (i := x.i) (by omega)]
  refine .of (noLoops (by kernel_rfl)) (r3end x) ?_
  simp only [or_true, true_or, false_or, or_false, and_false, false_and, cond_true, cond_false, Bool.not_true, Bool.not_false, Bool.false_eq_true, Bool.true_eq_false, not_true_eq_false, not_false_eq_true, false_implies, true_implies, implies_true, Nat.blt_eq, owesN, owesX, owesR, notT, sat_brT, sat_brF, sat_chkT, cl_iff, cl_false, AV.le_refl, AV.le_any, OLe_refl, OLe_none, sat_brN, Tree.sat_chk, Tree.sat_leaf, Tree.sat_fail, Nat.zero_add, Nat.sub_zero, Int.toNat_natCast, LeH_cons, LeH_nil, LeL_cons, LeL_nil, and_true, true_and, Bool.and_eq_true, Bool.or_eq_true, decide_eq_true_eq, decide_eq_false_iff_not, Bool.cond_true_left, Bool.cond_false_right, List.cons_append, List.nil_append, List.map_cons, List.map_nil, hO]
  repeat' (first | apply And.intro | intro _hc)
  all_goals first | omega | contradiction | exact AV.le_refl _ | exact AV.le_any _ | exact OLe.refl _ | exact OLe.none _ | exact LeH.refl _ | exact LeL.refl _ | exact AV.le.bs _ | exact AV.le.sb _ | exact rfl | (exfalso; omega) | contradiction
end Go.Eng.Si

/- sign: what counts goes on: the law. -/
namespace Go.Eng.Si
open Go Go.Eng Go.Eng.M Go.Proofs
set_option linter.unusedSimpArgs false
set_option linter.unusedVariables false
theorem loop3 {acts : List Ac} (hn : acts.length ≤ 100) : ∀ x, pre3 acts x → LoopOK Tryd.prog Γs 0 97 lp3 (LSpec.at lv3 nl3 (S31 x) (O31 x)) := by
  refine loop_at (S := S31) (O := O31) (k := 0) (fun x => acts.length - x.i) fun x hp => ?_
  show RO3 acts x
  rcases Nat.lt_or_ge x.i acts.length with hi | hi
  case inr => exact k3end hp hi (Classical.em _)
  by_cases h : outS x.f (shOf (x.acts.getD x.i default))
  · exact k3out hp hn hi h
  · by_cases hx : shOf (x.acts.getD x.i default) ∈ x.l
    · exact k3there hp hn hi h hx
    · exact k3new hp hn hi h hx
def onInv (bad : Int) (st : St) (g : List Sh × Bool) : Prop := g.2 = true → ∀ y ∈ g.1, y.st = st → hasB bad y.s = true
theorem onInv_step {f bad : Int} {st : St} {g : List Sh × Bool} (a : Ac) (h : onInv bad st g) : onInv bad st (stepK f bad st g a) := by
  intro hon y hy hst
  have h1 : onK bad st g.2 a = true := hon
  unfold onK at h1
  cases hg : g.2 with
  | false => rw [hg] at h1; simp at h1
  | true =>
    rw [hg] at h1
    simp only [Bool.true_and] at h1
    have hy' : y ∈ lK f g.1 a := hy
    unfold lK at hy'
    split at hy'
    · exact h hg y hy' hst
    · rcases List.mem_append.1 hy' with h2 | h2
      · exact h hg y h2 hst
      · obtain rfl := List.mem_singleton.1 h2
        have h3 : a.st = st := hst
        rw [stEq_iff.2 h3] at h1
        show hasB bad a.s = true
        simpa using h1
theorem onInv_fin {f bad : Int} {st : St} {g : List Sh × Bool} : ∀ (r : List Ac), onInv bad st g → onInv bad st (r.foldl (stepK f bad st) g) := by
  intro r
  induction r generalizing g with
  | nil => exact fun h => h
  | cons a r ih => exact fun h => ih (onInv_step a h)
theorem cnt_bad {f bad : Int} {x : Sh} (h : cntE f bad [] x = 0) : ¬ (x.s < 0 ∨ timesF 3 f ≤ x.s) ∧ hasB bad x.s = true := by
  unfold cntE at h
  split at h
  · simp at h
  · rename_i h1
    refine ⟨h1, ?_⟩
    split at h
    · assumption
    · simp [hasS] at h
theorem cnt_keep {f bad : Int} {x : Sh} (l : List Sh) (h : cntE f bad [] x = 0) : cntE f bad l x = 0 := by
  obtain ⟨h1, h2⟩ := cnt_bad h
  unfold cntE
  rw [if_neg h1, if_pos h2]
theorem few_bad {f bad s : Int} {st : St} {g : List Sh × Bool} (hb : inU32 bad = true) (hu : inU32 s = true) (h : ∀ q, q < pc s → cAt s st f bad g.1 q = 0) (hi : onInv bad st g) (hon : g.2 = true) : pc s ≤ pc bad := by
  rw [pc_cnt, pc_cnt]
  refine cnt_mono fun i hi32 ht => ?_
  obtain ⟨q, hq, hn⟩ := (mem_nth hu).1 ht
  have hc := h q hq
  have hB : hasB bad (nth s q) = true := by
    unfold cAt cntE at hc
    split at hc
    · simp at hc
    · split at hc
      · assumption
      · split at hc
        · rename_i h3
          exact hi hon _ (hasS_iff.1 h3) rfl
        · simp at hc
  unfold hasB at hB
  rw [Bool.and_eq_true] at hB
  rw [← hn]
  exact hB.2
noncomputable def k7 : CT Tryd.prog Γs := CT.auto false 100 3 [SiQ.c21, SiQ.c10] 7 Tryd.f7 (bodyOf Tryd.f7) false 22 [.tmp 4, .tmp 5] Tryd.func7 (by kernel_rfl) (by kernel_rfl) (by kernel_rfl) (by kernel_rfl)
abbrev A8 (st : St) (s : Int) : List AV := [.ptr 0 0, .agg st.c, .v (.int .u32 s)]
def RI (f bad : Int) : Blk := .row [.v (.int .i64 f), .v (.int .u32 bad), .map 1, .v (.slice none 0 0)]
theorem ansInit {s e : Int} {st : St} {f bad : Int} (h : Answers Tryd.prog Γs 8 (A8 st s) (SH f bad [] []) (.v (.int .i64 e)) ((SH f bad [] []).map some) []) : Answers Tryd.prog Γs 8 (A8 st s) [RI f bad, sgM []] (.v (.int .i64 e)) [some (sgR 1 2 f bad 0), some (sgM [])] [shB ([] ++ [])] :=
  Answers.box 0 3 (g := lsF Sh.c ([] ++ [])) rfl rfl (fun _ => rfl) rfl h
def sel8 (args : List AV) (Hin : List Blk) : Bool := match Hin with
  | [_, _] => true
  | _ => false
def A3 (f bad : Int) (acts : List Ac) (st : St) (s : Int) : List AV := [.v (.int .i64 f), .v (.int .u32 bad), .sl 14 acts.length (lsF Ac.c acts), .agg st.c, .v (.int .u32 s)]
theorem law3no (f bad : Int) (acts : List Ac) (st : St) (s : Int) : bodyE (P := Tryd.prog) (Γ := Γs) [c6, k7] Lno false 97 [.tmp 10] (bodyOf Tryd.f3) (A3 f bad acts st s) [] =
  Tree.chk (inU32 bad) (Tree.br (!decide (checkF f bad = (0 : Int))) (Tree.br (bif !decide (checkF f bad = (0 : Int)) then true else decide ((100 : Int) < (↑(List.length acts) : Int)))
    (Tree.leaf (Ans.mk (AV.v (Value.bool true)) [])) Tree.fail) (Tree.chk (inU32 bad) (Tree.br (decide (f < (↑(pc bad) : Int))) (Tree.br true (Tree.leaf (Ans.mk (AV.v (Value.bool true)) []))
    Tree.fail) (Tree.br (decide ((100 : Int) < (↑(List.length acts) : Int))) (Tree.leaf (Ans.mk (AV.v (Value.bool true)) [])) Tree.fail)))) := by kernel_rfl
theorem law3 (f bad : Int) (acts : List Ac) (st : St) (s be e1 e2 : Int) (g : List Sh × Bool) (h1 : Answers Tryd.prog Γs 8 (A8 st s) [RI f bad, sgM []] (.v (.int .i64 be)) [some (sgR 1 2 f bad 0), some (sgM [])] [shB ([] ++ [])]) (h2 : Answers Tryd.prog Γs 8 (A8 st s) (SH f bad g.1 []) (.v (.int .i64 e1)) ((SH f bad g.1 []).map some) []) (h3 : Answers Tryd.prog Γs 12 (A17 s 0 st) (SH f bad g.1 []) (.v (.int .i64 e2)) ((SH f bad g.1 []).map some) []) : bodyE (P := Tryd.prog) (Γ := Γs) [c6, k7, CT.orElse sel8 (CT.at 8 h1) (CT.at 8 h2) rfl, SiQ.c10, CT.at 12 h3] (fun _ => LSpec.at lv3 nl3 (S31 ⟨f, bad, s, st, be, acts, [], true, 0⟩) (OK3 f bad s st be g)) false 97 [.tmp 10] (bodyOf Tryd.f3) (A3 f bad acts st s) [] =
  Tree.chk (inU32 bad) (Tree.br (!decide (checkF f bad = (0 : Int))) (Tree.br (bif !decide (checkF f bad = (0 : Int)) then true else decide ((100 : Int) < (↑(List.length acts) : Int)))
    (Tree.leaf (Ans.mk (AV.v (Value.bool true)) [])) (Tree.chk (cl (LeL [AV.v (Value.pointer none), AV.agg [AV.v (Value.int IntKind.i64 st.k), AV.v (Value.int IntKind.i64 st.b), AV.v
    (Value.int IntKind.i64 st.v), AV.v (Value.int IntKind.i64 st.r), AV.v (Value.int IntKind.i64 st.h), AV.v (Value.int IntKind.i64 st.a), AV.v (Value.int IntKind.i64 st.hk), AV.v (Value.int
    IntKind.i64 st.hb), AV.v (Value.int IntKind.i64 st.hv), AV.v (Value.int IntKind.i64 st.hr)], AV.v (Value.int IntKind.u32 s)] [AV.ptr (0 : Nat) (0 : Nat), AV.agg [AV.v (Value.int
    IntKind.i64 st.k), AV.v (Value.int IntKind.i64 st.b), AV.v (Value.int IntKind.i64 st.v), AV.v (Value.int IntKind.i64 st.r), AV.v (Value.int IntKind.i64 st.h), AV.v (Value.int IntKind.i64
    st.a), AV.v (Value.int IntKind.i64 st.hk), AV.v (Value.int IntKind.i64 st.hb), AV.v (Value.int IntKind.i64 st.hv), AV.v (Value.int IntKind.i64 st.hr)], AV.v (Value.int IntKind.u32 s)] ∧
    LeH [] [some (Blk.row [AV.v (Value.int IntKind.i64 f), AV.v (Value.int IntKind.u32 bad), AV.map (1 : Nat), AV.hs (2 : Nat) (0 : Nat) (List.length g.fst)]), some (Blk.mp [Cel.int
    IntKind.i64, Cel.int IntKind.i64, Cel.int IntKind.i64, Cel.int IntKind.i64, Cel.int IntKind.i64, Cel.int IntKind.i64, Cel.int IntKind.i64, Cel.int IntKind.i64, Cel.int IntKind.i64,
    Cel.int IntKind.i64, Cel.int IntKind.i64] true false (List.length g.fst) (hasS g.fst) anyV), some (Blk.arr (11 : Nat) (List.length (g.fst ++ [])) (lsF Sh.c (g.fst ++ [])))])) (Tree.chk
    (cl (LeL [AV.v (Value.int IntKind.i64 f), AV.v (Value.int IntKind.u32 bad), AV.sl (14 : Nat) (List.length acts) (lsF Ac.c acts), AV.v (Value.int IntKind.u32 s), AV.ptr (0 : Nat) (0 :
    Nat), AV.v (Value.pointer none), AV.v (Value.int IntKind.i64 e1), AV.v (Value.bool true), AV.v (Value.int IntKind.i64 (0 : Int)), AV.v (Value.bool false)] [AV.v (Value.int IntKind.i64
    f), AV.v (Value.int IntKind.u32 bad), AV.sl (14 : Nat) (List.length (X3.mk f bad s st be acts [] true (0 : Nat)).acts) (lsF Ac.c (X3.mk f bad s st be acts [] true (0 : Nat)).acts), AV.v
    (Value.int IntKind.u32 s), AV.ptr (0 : Nat) (0 : Nat), AV.ptr (1 : Nat) (0 : Nat), AV.v (Value.int IntKind.i64 be), AV.sb true, AV.v (Value.int IntKind.i64 (↑(0 : Nat) : Int)), AV.any] ∧
    LeH [some (Blk.row [AV.v (Value.int IntKind.i64 st.k), AV.v (Value.int IntKind.i64 st.b), AV.v (Value.int IntKind.i64 st.v), AV.v (Value.int IntKind.i64 st.r), AV.v (Value.int
    IntKind.i64 st.h), AV.v (Value.int IntKind.i64 st.a), AV.v (Value.int IntKind.i64 st.hk), AV.v (Value.int IntKind.i64 st.hb), AV.v (Value.int IntKind.i64 st.hv), AV.v (Value.int
    IntKind.i64 st.hr)])] [some (Blk.row [AV.v (Value.int IntKind.i64 st.k), AV.v (Value.int IntKind.i64 st.b), AV.v (Value.int IntKind.i64 st.v), AV.v (Value.int IntKind.i64 st.r), AV.v
    (Value.int IntKind.i64 st.h), AV.v (Value.int IntKind.i64 st.a), AV.v (Value.int IntKind.i64 st.hk), AV.v (Value.int IntKind.i64 st.hb), AV.v (Value.int IntKind.i64 st.hv), AV.v
    (Value.int IntKind.i64 st.hr)]), some (Blk.row [AV.v (Value.int IntKind.i64 f), AV.v (Value.int IntKind.u32 bad), AV.map (2 : Nat), AV.hs (3 : Nat) (0 : Nat) (0 : Nat)]), some (Blk.mp
    [Cel.int IntKind.i64, Cel.int IntKind.i64, Cel.int IntKind.i64, Cel.int IntKind.i64, Cel.int IntKind.i64, Cel.int IntKind.i64, Cel.int IntKind.i64, Cel.int IntKind.i64, Cel.int
    IntKind.i64, Cel.int IntKind.i64, Cel.int IntKind.i64] true false (0 : Nat) (hasS (X3.mk f bad s st be acts [] true (0 : Nat)).l) anyV), some (Blk.arr (11 : Nat) (0 : Nat) (lsF Sh.c
    ((X3.mk f bad s st be acts [] true (0 : Nat)).l ++ [])))])) (Tree.br (decide (be = (0 : Int))) (Tree.chk (cl (LeL [AV.ptr (0 : Nat) (0 : Nat), AV.agg [AV.v (Value.int IntKind.i64 st.k),
    AV.v (Value.int IntKind.i64 st.b), AV.v (Value.int IntKind.i64 st.v), AV.v (Value.int IntKind.i64 st.r), AV.v (Value.int IntKind.i64 st.h), AV.v (Value.int IntKind.i64 st.a), AV.v
    (Value.int IntKind.i64 st.hk), AV.v (Value.int IntKind.i64 st.hb), AV.v (Value.int IntKind.i64 st.hv), AV.v (Value.int IntKind.i64 st.hr)], AV.v (Value.int IntKind.u32 s)] [AV.ptr (0 :
    Nat) (0 : Nat), AV.agg [AV.v (Value.int IntKind.i64 st.k), AV.v (Value.int IntKind.i64 st.b), AV.v (Value.int IntKind.i64 st.v), AV.v (Value.int IntKind.i64 st.r), AV.v (Value.int
    IntKind.i64 st.h), AV.v (Value.int IntKind.i64 st.a), AV.v (Value.int IntKind.i64 st.hk), AV.v (Value.int IntKind.i64 st.hb), AV.v (Value.int IntKind.i64 st.hv), AV.v (Value.int
    IntKind.i64 st.hr)], AV.v (Value.int IntKind.u32 s)] ∧ LeH [some (Blk.row [AV.v (Value.int IntKind.i64 f), AV.v (Value.int IntKind.u32 bad), AV.map (1 : Nat), AV.hs (2 : Nat) (0 : Nat)
    (List.length g.fst)]), some (Blk.mp [Cel.int IntKind.i64, Cel.int IntKind.i64, Cel.int IntKind.i64, Cel.int IntKind.i64, Cel.int IntKind.i64, Cel.int IntKind.i64, Cel.int IntKind.i64,
    Cel.int IntKind.i64, Cel.int IntKind.i64, Cel.int IntKind.i64, Cel.int IntKind.i64] true false (List.length g.fst) (hasS g.fst) anyV), some (Blk.arr (11 : Nat) (List.length (g.fst ++
    [])) (lsF Sh.c (g.fst ++ [])))] [some (Blk.row [AV.v (Value.int IntKind.i64 f), AV.v (Value.int IntKind.u32 bad), AV.map (1 : Nat), AV.hs (2 : Nat) (0 : Nat) (List.length g.fst)]), some
    (Blk.mp [Cel.int IntKind.i64, Cel.int IntKind.i64, Cel.int IntKind.i64, Cel.int IntKind.i64, Cel.int IntKind.i64, Cel.int IntKind.i64, Cel.int IntKind.i64, Cel.int IntKind.i64, Cel.int
    IntKind.i64, Cel.int IntKind.i64, Cel.int IntKind.i64] true false (List.length g.fst) (hasS g.fst) anyV), some (Blk.arr (11 : Nat) (List.length (g.fst ++ [])) (lsF Sh.c (g.fst ++
    [])))])) (Tree.br (!decide (e1 = (0 : Int))) (Tree.leaf (Ans.mk (AV.v (Value.bool false)) [])) (Tree.br (!g.snd) (Tree.leaf (Ans.mk (AV.v (Value.bool true)) [])) (Tree.chk (inU32 s)
    (Tree.br (decide ((↑(pc s) : Int) ≤ f)) (Tree.leaf (Ans.mk (AV.v (Value.bool true)) [])) (Tree.chk (cl (LeL [AV.ptr (0 : Nat) (0 : Nat), AV.agg [AV.v (Value.int IntKind.i64 st.k), AV.v
    (Value.int IntKind.i64 st.b), AV.v (Value.int IntKind.i64 st.v), AV.v (Value.int IntKind.i64 st.r), AV.v (Value.int IntKind.i64 st.h), AV.v (Value.int IntKind.i64 st.a), AV.v (Value.int
    IntKind.i64 st.hk), AV.v (Value.int IntKind.i64 st.hb), AV.v (Value.int IntKind.i64 st.hv), AV.v (Value.int IntKind.i64 st.hr)], AV.v (Value.int IntKind.u32 s), AV.v (Value.int
    IntKind.i64 (0 : Int))] [AV.ptr (0 : Nat) (0 : Nat), AV.agg [AV.v (Value.int IntKind.i64 st.k), AV.v (Value.int IntKind.i64 st.b), AV.v (Value.int IntKind.i64 st.v), AV.v (Value.int
    IntKind.i64 st.r), AV.v (Value.int IntKind.i64 st.h), AV.v (Value.int IntKind.i64 st.a), AV.v (Value.int IntKind.i64 st.hk), AV.v (Value.int IntKind.i64 st.hb), AV.v (Value.int
    IntKind.i64 st.hv), AV.v (Value.int IntKind.i64 st.hr)], AV.v (Value.int IntKind.u32 s), AV.v (Value.int IntKind.i64 (0 : Int))] ∧ LeH [some (Blk.row [AV.v (Value.int IntKind.i64 f),
    AV.v (Value.int IntKind.u32 bad), AV.map (1 : Nat), AV.hs (2 : Nat) (0 : Nat) (List.length g.fst)]), some (Blk.mp [Cel.int IntKind.i64, Cel.int IntKind.i64, Cel.int IntKind.i64, Cel.int
    IntKind.i64, Cel.int IntKind.i64, Cel.int IntKind.i64, Cel.int IntKind.i64, Cel.int IntKind.i64, Cel.int IntKind.i64, Cel.int IntKind.i64, Cel.int IntKind.i64] true false (List.length
    g.fst) (hasS g.fst) anyV), some (Blk.arr (11 : Nat) (List.length (g.fst ++ [])) (lsF Sh.c (g.fst ++ [])))] [some (Blk.row [AV.v (Value.int IntKind.i64 f), AV.v (Value.int IntKind.u32
    bad), AV.map (1 : Nat), AV.hs (2 : Nat) (0 : Nat) (List.length g.fst)]), some (Blk.mp [Cel.int IntKind.i64, Cel.int IntKind.i64, Cel.int IntKind.i64, Cel.int IntKind.i64, Cel.int
    IntKind.i64, Cel.int IntKind.i64, Cel.int IntKind.i64, Cel.int IntKind.i64, Cel.int IntKind.i64, Cel.int IntKind.i64, Cel.int IntKind.i64] true false (List.length g.fst) (hasS g.fst)
    anyV), some (Blk.arr (11 : Nat) (List.length (g.fst ++ [])) (lsF Sh.c (g.fst ++ [])))])) (Tree.leaf (Ans.mk (AV.sb !decide (e2 = (0 : Int))) [])))))))) (Tree.br (!g.snd) (Tree.leaf
    (Ans.mk (AV.v (Value.bool true)) [])) (Tree.chk (inU32 s) (Tree.br (decide ((↑(pc s) : Int) ≤ f)) (Tree.leaf (Ans.mk (AV.v (Value.bool true)) [])) (Tree.chk (cl (LeL [AV.ptr (0 : Nat) (0
    : Nat), AV.agg [AV.v (Value.int IntKind.i64 st.k), AV.v (Value.int IntKind.i64 st.b), AV.v (Value.int IntKind.i64 st.v), AV.v (Value.int IntKind.i64 st.r), AV.v (Value.int IntKind.i64
    st.h), AV.v (Value.int IntKind.i64 st.a), AV.v (Value.int IntKind.i64 st.hk), AV.v (Value.int IntKind.i64 st.hb), AV.v (Value.int IntKind.i64 st.hv), AV.v (Value.int IntKind.i64 st.hr)],
    AV.v (Value.int IntKind.u32 s), AV.v (Value.int IntKind.i64 (0 : Int))] [AV.ptr (0 : Nat) (0 : Nat), AV.agg [AV.v (Value.int IntKind.i64 st.k), AV.v (Value.int IntKind.i64 st.b), AV.v
    (Value.int IntKind.i64 st.v), AV.v (Value.int IntKind.i64 st.r), AV.v (Value.int IntKind.i64 st.h), AV.v (Value.int IntKind.i64 st.a), AV.v (Value.int IntKind.i64 st.hk), AV.v (Value.int
    IntKind.i64 st.hb), AV.v (Value.int IntKind.i64 st.hv), AV.v (Value.int IntKind.i64 st.hr)], AV.v (Value.int IntKind.u32 s), AV.v (Value.int IntKind.i64 (0 : Int))] ∧ LeH [some (Blk.row
    [AV.v (Value.int IntKind.i64 f), AV.v (Value.int IntKind.u32 bad), AV.map (1 : Nat), AV.hs (2 : Nat) (0 : Nat) (List.length g.fst)]), some (Blk.mp [Cel.int IntKind.i64, Cel.int
    IntKind.i64, Cel.int IntKind.i64, Cel.int IntKind.i64, Cel.int IntKind.i64, Cel.int IntKind.i64, Cel.int IntKind.i64, Cel.int IntKind.i64, Cel.int IntKind.i64, Cel.int IntKind.i64,
    Cel.int IntKind.i64] true false (List.length g.fst) (hasS g.fst) anyV), some (Blk.arr (11 : Nat) (List.length (g.fst ++ [])) (lsF Sh.c (g.fst ++ [])))] [some (Blk.row [AV.v (Value.int
    IntKind.i64 f), AV.v (Value.int IntKind.u32 bad), AV.map (1 : Nat), AV.hs (2 : Nat) (0 : Nat) (List.length g.fst)]), some (Blk.mp [Cel.int IntKind.i64, Cel.int IntKind.i64, Cel.int
    IntKind.i64, Cel.int IntKind.i64, Cel.int IntKind.i64, Cel.int IntKind.i64, Cel.int IntKind.i64, Cel.int IntKind.i64, Cel.int IntKind.i64, Cel.int IntKind.i64, Cel.int IntKind.i64] true
    false (List.length g.fst) (hasS g.fst) anyV), some (Blk.arr (11 : Nat) (List.length (g.fst ++ [])) (lsF Sh.c (g.fst ++ [])))])) (Tree.leaf (Ans.mk (AV.sb !decide (e2 = (0 : Int)))
    [])))))))))) (Tree.chk (inU32 bad) (Tree.br (decide (f < (↑(pc bad) : Int))) (Tree.br true (Tree.leaf (Ans.mk (AV.v (Value.bool true)) [])) (Tree.chk (cl (LeL [AV.v (Value.pointer none),
    AV.agg [AV.v (Value.int IntKind.i64 st.k), AV.v (Value.int IntKind.i64 st.b), AV.v (Value.int IntKind.i64 st.v), AV.v (Value.int IntKind.i64 st.r), AV.v (Value.int IntKind.i64 st.h),
    AV.v (Value.int IntKind.i64 st.a), AV.v (Value.int IntKind.i64 st.hk), AV.v (Value.int IntKind.i64 st.hb), AV.v (Value.int IntKind.i64 st.hv), AV.v (Value.int IntKind.i64 st.hr)], AV.v
    (Value.int IntKind.u32 s)] [AV.ptr (0 : Nat) (0 : Nat), AV.agg [AV.v (Value.int IntKind.i64 st.k), AV.v (Value.int IntKind.i64 st.b), AV.v (Value.int IntKind.i64 st.v), AV.v (Value.int
    IntKind.i64 st.r), AV.v (Value.int IntKind.i64 st.h), AV.v (Value.int IntKind.i64 st.a), AV.v (Value.int IntKind.i64 st.hk), AV.v (Value.int IntKind.i64 st.hb), AV.v (Value.int
    IntKind.i64 st.hv), AV.v (Value.int IntKind.i64 st.hr)], AV.v (Value.int IntKind.u32 s)] ∧ LeH [] [some (Blk.row [AV.v (Value.int IntKind.i64 f), AV.v (Value.int IntKind.u32 bad), AV.map
    (1 : Nat), AV.hs (2 : Nat) (0 : Nat) (List.length g.fst)]), some (Blk.mp [Cel.int IntKind.i64, Cel.int IntKind.i64, Cel.int IntKind.i64, Cel.int IntKind.i64, Cel.int IntKind.i64, Cel.int
    IntKind.i64, Cel.int IntKind.i64, Cel.int IntKind.i64, Cel.int IntKind.i64, Cel.int IntKind.i64, Cel.int IntKind.i64] true false (List.length g.fst) (hasS g.fst) anyV), some (Blk.arr (11
    : Nat) (List.length (g.fst ++ [])) (lsF Sh.c (g.fst ++ [])))])) (Tree.chk (cl (LeL [AV.v (Value.int IntKind.i64 f), AV.v (Value.int IntKind.u32 bad), AV.sl (14 : Nat) (List.length acts)
    (lsF Ac.c acts), AV.v (Value.int IntKind.u32 s), AV.ptr (0 : Nat) (0 : Nat), AV.v (Value.pointer none), AV.v (Value.int IntKind.i64 e1), AV.v (Value.bool true), AV.v (Value.int
    IntKind.i64 (0 : Int)), AV.v (Value.bool false)] [AV.v (Value.int IntKind.i64 f), AV.v (Value.int IntKind.u32 bad), AV.sl (14 : Nat) (List.length (X3.mk f bad s st be acts [] true (0 :
    Nat)).acts) (lsF Ac.c (X3.mk f bad s st be acts [] true (0 : Nat)).acts), AV.v (Value.int IntKind.u32 s), AV.ptr (0 : Nat) (0 : Nat), AV.ptr (1 : Nat) (0 : Nat), AV.v (Value.int
    IntKind.i64 be), AV.sb true, AV.v (Value.int IntKind.i64 (↑(0 : Nat) : Int)), AV.any] ∧ LeH [some (Blk.row [AV.v (Value.int IntKind.i64 st.k), AV.v (Value.int IntKind.i64 st.b), AV.v
    (Value.int IntKind.i64 st.v), AV.v (Value.int IntKind.i64 st.r), AV.v (Value.int IntKind.i64 st.h), AV.v (Value.int IntKind.i64 st.a), AV.v (Value.int IntKind.i64 st.hk), AV.v (Value.int
    IntKind.i64 st.hb), AV.v (Value.int IntKind.i64 st.hv), AV.v (Value.int IntKind.i64 st.hr)])] [some (Blk.row [AV.v (Value.int IntKind.i64 st.k), AV.v (Value.int IntKind.i64 st.b), AV.v
    (Value.int IntKind.i64 st.v), AV.v (Value.int IntKind.i64 st.r), AV.v (Value.int IntKind.i64 st.h), AV.v (Value.int IntKind.i64 st.a), AV.v (Value.int IntKind.i64 st.hk), AV.v (Value.int
    IntKind.i64 st.hb), AV.v (Value.int IntKind.i64 st.hv), AV.v (Value.int IntKind.i64 st.hr)]), some (Blk.row [AV.v (Value.int IntKind.i64 f), AV.v (Value.int IntKind.u32 bad), AV.map (2 :
    Nat), AV.hs (3 : Nat) (0 : Nat) (0 : Nat)]), some (Blk.mp [Cel.int IntKind.i64, Cel.int IntKind.i64, Cel.int IntKind.i64, Cel.int IntKind.i64, Cel.int IntKind.i64, Cel.int IntKind.i64,
    Cel.int IntKind.i64, Cel.int IntKind.i64, Cel.int IntKind.i64, Cel.int IntKind.i64, Cel.int IntKind.i64] true false (0 : Nat) (hasS (X3.mk f bad s st be acts [] true (0 : Nat)).l) anyV),
    some (Blk.arr (11 : Nat) (0 : Nat) (lsF Sh.c ((X3.mk f bad s st be acts [] true (0 : Nat)).l ++ [])))])) (Tree.br (decide (be = (0 : Int))) (Tree.chk (cl (LeL [AV.ptr (0 : Nat) (0 :
    Nat), AV.agg [AV.v (Value.int IntKind.i64 st.k), AV.v (Value.int IntKind.i64 st.b), AV.v (Value.int IntKind.i64 st.v), AV.v (Value.int IntKind.i64 st.r), AV.v (Value.int IntKind.i64
    st.h), AV.v (Value.int IntKind.i64 st.a), AV.v (Value.int IntKind.i64 st.hk), AV.v (Value.int IntKind.i64 st.hb), AV.v (Value.int IntKind.i64 st.hv), AV.v (Value.int IntKind.i64 st.hr)],
    AV.v (Value.int IntKind.u32 s)] [AV.ptr (0 : Nat) (0 : Nat), AV.agg [AV.v (Value.int IntKind.i64 st.k), AV.v (Value.int IntKind.i64 st.b), AV.v (Value.int IntKind.i64 st.v), AV.v
    (Value.int IntKind.i64 st.r), AV.v (Value.int IntKind.i64 st.h), AV.v (Value.int IntKind.i64 st.a), AV.v (Value.int IntKind.i64 st.hk), AV.v (Value.int IntKind.i64 st.hb), AV.v
    (Value.int IntKind.i64 st.hv), AV.v (Value.int IntKind.i64 st.hr)], AV.v (Value.int IntKind.u32 s)] ∧ LeH [some (Blk.row [AV.v (Value.int IntKind.i64 f), AV.v (Value.int IntKind.u32
    bad), AV.map (1 : Nat), AV.hs (2 : Nat) (0 : Nat) (List.length g.fst)]), some (Blk.mp [Cel.int IntKind.i64, Cel.int IntKind.i64, Cel.int IntKind.i64, Cel.int IntKind.i64, Cel.int
    IntKind.i64, Cel.int IntKind.i64, Cel.int IntKind.i64, Cel.int IntKind.i64, Cel.int IntKind.i64, Cel.int IntKind.i64, Cel.int IntKind.i64] true false (List.length g.fst) (hasS g.fst)
    anyV), some (Blk.arr (11 : Nat) (List.length (g.fst ++ [])) (lsF Sh.c (g.fst ++ [])))] [some (Blk.row [AV.v (Value.int IntKind.i64 f), AV.v (Value.int IntKind.u32 bad), AV.map (1 : Nat),
    AV.hs (2 : Nat) (0 : Nat) (List.length g.fst)]), some (Blk.mp [Cel.int IntKind.i64, Cel.int IntKind.i64, Cel.int IntKind.i64, Cel.int IntKind.i64, Cel.int IntKind.i64, Cel.int
    IntKind.i64, Cel.int IntKind.i64, Cel.int IntKind.i64, Cel.int IntKind.i64, Cel.int IntKind.i64, Cel.int IntKind.i64] true false (List.length g.fst) (hasS g.fst) anyV), some (Blk.arr (11
    : Nat) (List.length (g.fst ++ [])) (lsF Sh.c (g.fst ++ [])))])) (Tree.br (!decide (e1 = (0 : Int))) (Tree.leaf (Ans.mk (AV.v (Value.bool false)) [])) (Tree.br (!g.snd) (Tree.leaf (Ans.mk
    (AV.v (Value.bool true)) [])) (Tree.chk (inU32 s) (Tree.br (decide ((↑(pc s) : Int) ≤ f)) (Tree.leaf (Ans.mk (AV.v (Value.bool true)) [])) (Tree.chk (cl (LeL [AV.ptr (0 : Nat) (0 : Nat),
    AV.agg [AV.v (Value.int IntKind.i64 st.k), AV.v (Value.int IntKind.i64 st.b), AV.v (Value.int IntKind.i64 st.v), AV.v (Value.int IntKind.i64 st.r), AV.v (Value.int IntKind.i64 st.h),
    AV.v (Value.int IntKind.i64 st.a), AV.v (Value.int IntKind.i64 st.hk), AV.v (Value.int IntKind.i64 st.hb), AV.v (Value.int IntKind.i64 st.hv), AV.v (Value.int IntKind.i64 st.hr)], AV.v
    (Value.int IntKind.u32 s), AV.v (Value.int IntKind.i64 (0 : Int))] [AV.ptr (0 : Nat) (0 : Nat), AV.agg [AV.v (Value.int IntKind.i64 st.k), AV.v (Value.int IntKind.i64 st.b), AV.v
    (Value.int IntKind.i64 st.v), AV.v (Value.int IntKind.i64 st.r), AV.v (Value.int IntKind.i64 st.h), AV.v (Value.int IntKind.i64 st.a), AV.v (Value.int IntKind.i64 st.hk), AV.v (Value.int
    IntKind.i64 st.hb), AV.v (Value.int IntKind.i64 st.hv), AV.v (Value.int IntKind.i64 st.hr)], AV.v (Value.int IntKind.u32 s), AV.v (Value.int IntKind.i64 (0 : Int))] ∧ LeH [some (Blk.row
    [AV.v (Value.int IntKind.i64 f), AV.v (Value.int IntKind.u32 bad), AV.map (1 : Nat), AV.hs (2 : Nat) (0 : Nat) (List.length g.fst)]), some (Blk.mp [Cel.int IntKind.i64, Cel.int
    IntKind.i64, Cel.int IntKind.i64, Cel.int IntKind.i64, Cel.int IntKind.i64, Cel.int IntKind.i64, Cel.int IntKind.i64, Cel.int IntKind.i64, Cel.int IntKind.i64, Cel.int IntKind.i64,
    Cel.int IntKind.i64] true false (List.length g.fst) (hasS g.fst) anyV), some (Blk.arr (11 : Nat) (List.length (g.fst ++ [])) (lsF Sh.c (g.fst ++ [])))] [some (Blk.row [AV.v (Value.int
    IntKind.i64 f), AV.v (Value.int IntKind.u32 bad), AV.map (1 : Nat), AV.hs (2 : Nat) (0 : Nat) (List.length g.fst)]), some (Blk.mp [Cel.int IntKind.i64, Cel.int IntKind.i64, Cel.int
    IntKind.i64, Cel.int IntKind.i64, Cel.int IntKind.i64, Cel.int IntKind.i64, Cel.int IntKind.i64, Cel.int IntKind.i64, Cel.int IntKind.i64, Cel.int IntKind.i64, Cel.int IntKind.i64] true
    false (List.length g.fst) (hasS g.fst) anyV), some (Blk.arr (11 : Nat) (List.length (g.fst ++ [])) (lsF Sh.c (g.fst ++ [])))])) (Tree.leaf (Ans.mk (AV.sb !decide (e2 = (0 : Int)))
    [])))))))) (Tree.br (!g.snd) (Tree.leaf (Ans.mk (AV.v (Value.bool true)) [])) (Tree.chk (inU32 s) (Tree.br (decide ((↑(pc s) : Int) ≤ f)) (Tree.leaf (Ans.mk (AV.v (Value.bool true)) []))
    (Tree.chk (cl (LeL [AV.ptr (0 : Nat) (0 : Nat), AV.agg [AV.v (Value.int IntKind.i64 st.k), AV.v (Value.int IntKind.i64 st.b), AV.v (Value.int IntKind.i64 st.v), AV.v (Value.int
    IntKind.i64 st.r), AV.v (Value.int IntKind.i64 st.h), AV.v (Value.int IntKind.i64 st.a), AV.v (Value.int IntKind.i64 st.hk), AV.v (Value.int IntKind.i64 st.hb), AV.v (Value.int
    IntKind.i64 st.hv), AV.v (Value.int IntKind.i64 st.hr)], AV.v (Value.int IntKind.u32 s), AV.v (Value.int IntKind.i64 (0 : Int))] [AV.ptr (0 : Nat) (0 : Nat), AV.agg [AV.v (Value.int
    IntKind.i64 st.k), AV.v (Value.int IntKind.i64 st.b), AV.v (Value.int IntKind.i64 st.v), AV.v (Value.int IntKind.i64 st.r), AV.v (Value.int IntKind.i64 st.h), AV.v (Value.int IntKind.i64
    st.a), AV.v (Value.int IntKind.i64 st.hk), AV.v (Value.int IntKind.i64 st.hb), AV.v (Value.int IntKind.i64 st.hv), AV.v (Value.int IntKind.i64 st.hr)], AV.v (Value.int IntKind.u32 s),
    AV.v (Value.int IntKind.i64 (0 : Int))] ∧ LeH [some (Blk.row [AV.v (Value.int IntKind.i64 f), AV.v (Value.int IntKind.u32 bad), AV.map (1 : Nat), AV.hs (2 : Nat) (0 : Nat) (List.length
    g.fst)]), some (Blk.mp [Cel.int IntKind.i64, Cel.int IntKind.i64, Cel.int IntKind.i64, Cel.int IntKind.i64, Cel.int IntKind.i64, Cel.int IntKind.i64, Cel.int IntKind.i64, Cel.int
    IntKind.i64, Cel.int IntKind.i64, Cel.int IntKind.i64, Cel.int IntKind.i64] true false (List.length g.fst) (hasS g.fst) anyV), some (Blk.arr (11 : Nat) (List.length (g.fst ++ [])) (lsF
    Sh.c (g.fst ++ [])))] [some (Blk.row [AV.v (Value.int IntKind.i64 f), AV.v (Value.int IntKind.u32 bad), AV.map (1 : Nat), AV.hs (2 : Nat) (0 : Nat) (List.length g.fst)]), some (Blk.mp
    [Cel.int IntKind.i64, Cel.int IntKind.i64, Cel.int IntKind.i64, Cel.int IntKind.i64, Cel.int IntKind.i64, Cel.int IntKind.i64, Cel.int IntKind.i64, Cel.int IntKind.i64, Cel.int
    IntKind.i64, Cel.int IntKind.i64, Cel.int IntKind.i64] true false (List.length g.fst) (hasS g.fst) anyV), some (Blk.arr (11 : Nat) (List.length (g.fst ++ [])) (lsF Sh.c (g.fst ++
    [])))])) (Tree.leaf (Ans.mk (AV.sb !decide (e2 = (0 : Int))) [])))))))))) (Tree.br (decide ((100 : Int) < (↑(List.length acts) : Int))) (Tree.leaf (Ans.mk (AV.v (Value.bool true)) []))
    (Tree.chk (cl (LeL [AV.ptr (0 : Nat) (0 : Nat), AV.agg [AV.v (Value.int IntKind.i64 st.k), AV.v (Value.int IntKind.i64 st.b), AV.v (Value.int IntKind.i64 st.v), AV.v (Value.int
    IntKind.i64 st.r), AV.v (Value.int IntKind.i64 st.h), AV.v (Value.int IntKind.i64 st.a), AV.v (Value.int IntKind.i64 st.hk), AV.v (Value.int IntKind.i64 st.hb), AV.v (Value.int
    IntKind.i64 st.hv), AV.v (Value.int IntKind.i64 st.hr)], AV.v (Value.int IntKind.u32 s)] [AV.ptr (0 : Nat) (0 : Nat), AV.agg [AV.v (Value.int IntKind.i64 st.k), AV.v (Value.int
    IntKind.i64 st.b), AV.v (Value.int IntKind.i64 st.v), AV.v (Value.int IntKind.i64 st.r), AV.v (Value.int IntKind.i64 st.h), AV.v (Value.int IntKind.i64 st.a), AV.v (Value.int IntKind.i64
    st.hk), AV.v (Value.int IntKind.i64 st.hb), AV.v (Value.int IntKind.i64 st.hv), AV.v (Value.int IntKind.i64 st.hr)], AV.v (Value.int IntKind.u32 s)] ∧ LeH [some (Blk.row [AV.v (Value.int
    IntKind.i64 f), AV.v (Value.int IntKind.u32 bad), AV.map (1 : Nat), AV.v (Value.slice none (0 : Nat) (0 : Nat))]), some (Blk.mp [Cel.int IntKind.i64, Cel.int IntKind.i64, Cel.int
    IntKind.i64, Cel.int IntKind.i64, Cel.int IntKind.i64, Cel.int IntKind.i64, Cel.int IntKind.i64, Cel.int IntKind.i64, Cel.int IntKind.i64, Cel.int IntKind.i64, Cel.int IntKind.i64] true
    false (0 : Nat) (fun x => false) fun x => [AV.v (Value.int IntKind.i64 (0 : Int))])] [some (Blk.row [AV.v (Value.int IntKind.i64 f), AV.v (Value.int IntKind.u32 bad), AV.map (1 : Nat),
    AV.v (Value.slice none (0 : Nat) (0 : Nat))]), some (Blk.mp [Cel.int IntKind.i64, Cel.int IntKind.i64, Cel.int IntKind.i64, Cel.int IntKind.i64, Cel.int IntKind.i64, Cel.int IntKind.i64,
    Cel.int IntKind.i64, Cel.int IntKind.i64, Cel.int IntKind.i64, Cel.int IntKind.i64, Cel.int IntKind.i64] true false (0 : Nat) (hasS []) anyV)])) (Tree.chk (cl (LeL [AV.v (Value.int
    IntKind.i64 f), AV.v (Value.int IntKind.u32 bad), AV.sl (14 : Nat) (List.length acts) (lsF Ac.c acts), AV.v (Value.int IntKind.u32 s), AV.ptr (0 : Nat) (0 : Nat), AV.ptr (1 : Nat) (0 :
    Nat), AV.v (Value.int IntKind.i64 be), AV.v (Value.bool true), AV.v (Value.int IntKind.i64 (0 : Int)), AV.v (Value.bool false)] [AV.v (Value.int IntKind.i64 f), AV.v (Value.int
    IntKind.u32 bad), AV.sl (14 : Nat) (List.length (X3.mk f bad s st be acts [] true (0 : Nat)).acts) (lsF Ac.c (X3.mk f bad s st be acts [] true (0 : Nat)).acts), AV.v (Value.int
    IntKind.u32 s), AV.ptr (0 : Nat) (0 : Nat), AV.ptr (1 : Nat) (0 : Nat), AV.v (Value.int IntKind.i64 be), AV.sb true, AV.v (Value.int IntKind.i64 (↑(0 : Nat) : Int)), AV.any] ∧ LeH [some
    (Blk.row [AV.v (Value.int IntKind.i64 st.k), AV.v (Value.int IntKind.i64 st.b), AV.v (Value.int IntKind.i64 st.v), AV.v (Value.int IntKind.i64 st.r), AV.v (Value.int IntKind.i64 st.h),
    AV.v (Value.int IntKind.i64 st.a), AV.v (Value.int IntKind.i64 st.hk), AV.v (Value.int IntKind.i64 st.hb), AV.v (Value.int IntKind.i64 st.hv), AV.v (Value.int IntKind.i64 st.hr)]), some
    (Blk.row [AV.v (Value.int IntKind.i64 f), AV.v (Value.int IntKind.u32 bad), AV.map (2 : Nat), AV.hs (3 : Nat) (0 : Nat) (0 : Nat)]), some (Blk.mp [Cel.int IntKind.i64, Cel.int
    IntKind.i64, Cel.int IntKind.i64, Cel.int IntKind.i64, Cel.int IntKind.i64, Cel.int IntKind.i64, Cel.int IntKind.i64, Cel.int IntKind.i64, Cel.int IntKind.i64, Cel.int IntKind.i64,
    Cel.int IntKind.i64] true false (0 : Nat) (hasS []) anyV), some (Blk.arr (11 : Nat) (0 : Nat) (lsF Sh.c ([] ++ [])))] [some (Blk.row [AV.v (Value.int IntKind.i64 st.k), AV.v (Value.int
    IntKind.i64 st.b), AV.v (Value.int IntKind.i64 st.v), AV.v (Value.int IntKind.i64 st.r), AV.v (Value.int IntKind.i64 st.h), AV.v (Value.int IntKind.i64 st.a), AV.v (Value.int IntKind.i64
    st.hk), AV.v (Value.int IntKind.i64 st.hb), AV.v (Value.int IntKind.i64 st.hv), AV.v (Value.int IntKind.i64 st.hr)]), some (Blk.row [AV.v (Value.int IntKind.i64 f), AV.v (Value.int
    IntKind.u32 bad), AV.map (2 : Nat), AV.hs (3 : Nat) (0 : Nat) (0 : Nat)]), some (Blk.mp [Cel.int IntKind.i64, Cel.int IntKind.i64, Cel.int IntKind.i64, Cel.int IntKind.i64, Cel.int
    IntKind.i64, Cel.int IntKind.i64, Cel.int IntKind.i64, Cel.int IntKind.i64, Cel.int IntKind.i64, Cel.int IntKind.i64, Cel.int IntKind.i64] true false (0 : Nat) (hasS (X3.mk f bad s st be
    acts [] true (0 : Nat)).l) anyV), some (Blk.arr (11 : Nat) (0 : Nat) (lsF Sh.c ((X3.mk f bad s st be acts [] true (0 : Nat)).l ++ [])))])) (Tree.br (decide (be = (0 : Int))) (Tree.chk
    (cl (LeL [AV.ptr (0 : Nat) (0 : Nat), AV.agg [AV.v (Value.int IntKind.i64 st.k), AV.v (Value.int IntKind.i64 st.b), AV.v (Value.int IntKind.i64 st.v), AV.v (Value.int IntKind.i64 st.r),
    AV.v (Value.int IntKind.i64 st.h), AV.v (Value.int IntKind.i64 st.a), AV.v (Value.int IntKind.i64 st.hk), AV.v (Value.int IntKind.i64 st.hb), AV.v (Value.int IntKind.i64 st.hv), AV.v
    (Value.int IntKind.i64 st.hr)], AV.v (Value.int IntKind.u32 s)] [AV.ptr (0 : Nat) (0 : Nat), AV.agg [AV.v (Value.int IntKind.i64 st.k), AV.v (Value.int IntKind.i64 st.b), AV.v (Value.int
    IntKind.i64 st.v), AV.v (Value.int IntKind.i64 st.r), AV.v (Value.int IntKind.i64 st.h), AV.v (Value.int IntKind.i64 st.a), AV.v (Value.int IntKind.i64 st.hk), AV.v (Value.int
    IntKind.i64 st.hb), AV.v (Value.int IntKind.i64 st.hv), AV.v (Value.int IntKind.i64 st.hr)], AV.v (Value.int IntKind.u32 s)] ∧ LeH [some (Blk.row [AV.v (Value.int IntKind.i64 f), AV.v
    (Value.int IntKind.u32 bad), AV.map (1 : Nat), AV.hs (2 : Nat) (0 : Nat) (List.length g.fst)]), some (Blk.mp [Cel.int IntKind.i64, Cel.int IntKind.i64, Cel.int IntKind.i64, Cel.int
    IntKind.i64, Cel.int IntKind.i64, Cel.int IntKind.i64, Cel.int IntKind.i64, Cel.int IntKind.i64, Cel.int IntKind.i64, Cel.int IntKind.i64, Cel.int IntKind.i64] true false (List.length
    g.fst) (hasS g.fst) anyV), some (Blk.arr (11 : Nat) (List.length (g.fst ++ [])) (lsF Sh.c (g.fst ++ [])))] [some (Blk.row [AV.v (Value.int IntKind.i64 f), AV.v (Value.int IntKind.u32
    bad), AV.map (1 : Nat), AV.hs (2 : Nat) (0 : Nat) (List.length g.fst)]), some (Blk.mp [Cel.int IntKind.i64, Cel.int IntKind.i64, Cel.int IntKind.i64, Cel.int IntKind.i64, Cel.int
    IntKind.i64, Cel.int IntKind.i64, Cel.int IntKind.i64, Cel.int IntKind.i64, Cel.int IntKind.i64, Cel.int IntKind.i64, Cel.int IntKind.i64] true false (List.length g.fst) (hasS g.fst)
    anyV), some (Blk.arr (11 : Nat) (List.length (g.fst ++ [])) (lsF Sh.c (g.fst ++ [])))])) (Tree.br (!decide (e1 = (0 : Int))) (Tree.leaf (Ans.mk (AV.v (Value.bool false)) [])) (Tree.br
    (!g.snd) (Tree.leaf (Ans.mk (AV.v (Value.bool true)) [])) (Tree.chk (inU32 s) (Tree.br (decide ((↑(pc s) : Int) ≤ f)) (Tree.leaf (Ans.mk (AV.v (Value.bool true)) [])) (Tree.chk (cl (LeL
    [AV.ptr (0 : Nat) (0 : Nat), AV.agg [AV.v (Value.int IntKind.i64 st.k), AV.v (Value.int IntKind.i64 st.b), AV.v (Value.int IntKind.i64 st.v), AV.v (Value.int IntKind.i64 st.r), AV.v
    (Value.int IntKind.i64 st.h), AV.v (Value.int IntKind.i64 st.a), AV.v (Value.int IntKind.i64 st.hk), AV.v (Value.int IntKind.i64 st.hb), AV.v (Value.int IntKind.i64 st.hv), AV.v
    (Value.int IntKind.i64 st.hr)], AV.v (Value.int IntKind.u32 s), AV.v (Value.int IntKind.i64 (0 : Int))] [AV.ptr (0 : Nat) (0 : Nat), AV.agg [AV.v (Value.int IntKind.i64 st.k), AV.v
    (Value.int IntKind.i64 st.b), AV.v (Value.int IntKind.i64 st.v), AV.v (Value.int IntKind.i64 st.r), AV.v (Value.int IntKind.i64 st.h), AV.v (Value.int IntKind.i64 st.a), AV.v (Value.int
    IntKind.i64 st.hk), AV.v (Value.int IntKind.i64 st.hb), AV.v (Value.int IntKind.i64 st.hv), AV.v (Value.int IntKind.i64 st.hr)], AV.v (Value.int IntKind.u32 s), AV.v (Value.int
    IntKind.i64 (0 : Int))] ∧ LeH [some (Blk.row [AV.v (Value.int IntKind.i64 f), AV.v (Value.int IntKind.u32 bad), AV.map (1 : Nat), AV.hs (2 : Nat) (0 : Nat) (List.length g.fst)]), some
    (Blk.mp [Cel.int IntKind.i64, Cel.int IntKind.i64, Cel.int IntKind.i64, Cel.int IntKind.i64, Cel.int IntKind.i64, Cel.int IntKind.i64, Cel.int IntKind.i64, Cel.int IntKind.i64, Cel.int
    IntKind.i64, Cel.int IntKind.i64, Cel.int IntKind.i64] true false (List.length g.fst) (hasS g.fst) anyV), some (Blk.arr (11 : Nat) (List.length (g.fst ++ [])) (lsF Sh.c (g.fst ++ [])))]
    [some (Blk.row [AV.v (Value.int IntKind.i64 f), AV.v (Value.int IntKind.u32 bad), AV.map (1 : Nat), AV.hs (2 : Nat) (0 : Nat) (List.length g.fst)]), some (Blk.mp [Cel.int IntKind.i64,
    Cel.int IntKind.i64, Cel.int IntKind.i64, Cel.int IntKind.i64, Cel.int IntKind.i64, Cel.int IntKind.i64, Cel.int IntKind.i64, Cel.int IntKind.i64, Cel.int IntKind.i64, Cel.int
    IntKind.i64, Cel.int IntKind.i64] true false (List.length g.fst) (hasS g.fst) anyV), some (Blk.arr (11 : Nat) (List.length (g.fst ++ [])) (lsF Sh.c (g.fst ++ [])))])) (Tree.leaf (Ans.mk
    (AV.sb !decide (e2 = (0 : Int))) [])))))))) (Tree.br (!g.snd) (Tree.leaf (Ans.mk (AV.v (Value.bool true)) [])) (Tree.chk (inU32 s) (Tree.br (decide ((↑(pc s) : Int) ≤ f)) (Tree.leaf
    (Ans.mk (AV.v (Value.bool true)) [])) (Tree.chk (cl (LeL [AV.ptr (0 : Nat) (0 : Nat), AV.agg [AV.v (Value.int IntKind.i64 st.k), AV.v (Value.int IntKind.i64 st.b), AV.v (Value.int
    IntKind.i64 st.v), AV.v (Value.int IntKind.i64 st.r), AV.v (Value.int IntKind.i64 st.h), AV.v (Value.int IntKind.i64 st.a), AV.v (Value.int IntKind.i64 st.hk), AV.v (Value.int
    IntKind.i64 st.hb), AV.v (Value.int IntKind.i64 st.hv), AV.v (Value.int IntKind.i64 st.hr)], AV.v (Value.int IntKind.u32 s), AV.v (Value.int IntKind.i64 (0 : Int))] [AV.ptr (0 : Nat) (0
    : Nat), AV.agg [AV.v (Value.int IntKind.i64 st.k), AV.v (Value.int IntKind.i64 st.b), AV.v (Value.int IntKind.i64 st.v), AV.v (Value.int IntKind.i64 st.r), AV.v (Value.int IntKind.i64
    st.h), AV.v (Value.int IntKind.i64 st.a), AV.v (Value.int IntKind.i64 st.hk), AV.v (Value.int IntKind.i64 st.hb), AV.v (Value.int IntKind.i64 st.hv), AV.v (Value.int IntKind.i64 st.hr)],
    AV.v (Value.int IntKind.u32 s), AV.v (Value.int IntKind.i64 (0 : Int))] ∧ LeH [some (Blk.row [AV.v (Value.int IntKind.i64 f), AV.v (Value.int IntKind.u32 bad), AV.map (1 : Nat), AV.hs (2
    : Nat) (0 : Nat) (List.length g.fst)]), some (Blk.mp [Cel.int IntKind.i64, Cel.int IntKind.i64, Cel.int IntKind.i64, Cel.int IntKind.i64, Cel.int IntKind.i64, Cel.int IntKind.i64,
    Cel.int IntKind.i64, Cel.int IntKind.i64, Cel.int IntKind.i64, Cel.int IntKind.i64, Cel.int IntKind.i64] true false (List.length g.fst) (hasS g.fst) anyV), some (Blk.arr (11 : Nat)
    (List.length (g.fst ++ [])) (lsF Sh.c (g.fst ++ [])))] [some (Blk.row [AV.v (Value.int IntKind.i64 f), AV.v (Value.int IntKind.u32 bad), AV.map (1 : Nat), AV.hs (2 : Nat) (0 : Nat)
    (List.length g.fst)]), some (Blk.mp [Cel.int IntKind.i64, Cel.int IntKind.i64, Cel.int IntKind.i64, Cel.int IntKind.i64, Cel.int IntKind.i64, Cel.int IntKind.i64, Cel.int IntKind.i64,
    Cel.int IntKind.i64, Cel.int IntKind.i64, Cel.int IntKind.i64, Cel.int IntKind.i64] true false (List.length g.fst) (hasS g.fst) anyV), some (Blk.arr (11 : Nat) (List.length (g.fst ++
    [])) (lsF Sh.c (g.fst ++ [])))])) (Tree.leaf (Ans.mk (AV.sb !decide (e2 = (0 : Int))) []))))))))))))) := by kernel_rfl
theorem law3ok (f bad : Int) (acts : List Ac) (st : St) (s : Int) (hb : inU32 bad = true) (hu : inU32 s = true) : LawOK Tryd.prog Γs 97 [.tmp 10] (bodyOf Tryd.f3) (A3 f bad acts st s) := by
  by_cases hno : 100 < acts.length ∨ checkF f bad ≠ 0 ∨ f < (pc bad : Int)
  · refine .mk' (T := [c6, k7]) (ip := false) (L := Lno) (failOK fun _ _ _ => rfl) (Right.of (law3no f bad acts st s) ?_)
    by_cases hc : checkF f bad = 0
    · have hq : 100 < acts.length ∨ f < (pc bad : Int) := by
        rcases hno with h | h | h
        · exact .inl h
        · exact absurd hc h
        · exact .inr h
      by_cases hp : f < (pc bad : Int)
      · simp only [or_true, true_or, false_or, or_false, and_false, false_and, cond_true, cond_false, Bool.not_true, Bool.not_false, Bool.false_eq_true, Bool.true_eq_false, not_true_eq_false, not_false_eq_true, false_implies, true_implies, implies_true, Nat.blt_eq, owesN, owesX, owesR, notT, sat_brT, sat_brF, sat_chkT, cl_iff, cl_false, AV.le_refl, AV.le_any, OLe_refl, OLe_none, sat_brN, Tree.sat_chk, Tree.sat_leaf, Tree.sat_fail, Nat.zero_add, Nat.sub_zero, Int.toNat_natCast, LeH_cons, LeH_nil, LeL_cons, LeL_nil, and_true, true_and, Bool.and_eq_true, Bool.or_eq_true, decide_eq_true_eq, decide_eq_false_iff_not, Bool.cond_true_left, Bool.cond_false_right, List.cons_append, List.nil_append, List.map_cons, List.map_nil, hb, hc, hp]
        repeat' (first | apply And.intro | intro _hc)
        all_goals first | omega | contradiction | exact AV.le_refl _ | exact AV.le_any _ | exact OLe.refl _ | exact OLe.none _ | exact LeH.refl _ | exact LeL.refl _ | exact AV.le.bs _ | exact AV.le.sb _ | (exfalso; omega) | contradiction
      · have h1 : 100 < acts.length := hq.resolve_right hp
        simp only [or_true, true_or, false_or, or_false, and_false, false_and, cond_true, cond_false, Bool.not_true, Bool.not_false, Bool.false_eq_true, Bool.true_eq_false, not_true_eq_false, not_false_eq_true, false_implies, true_implies, implies_true, Nat.blt_eq, owesN, owesX, owesR, notT, sat_brT, sat_brF, sat_chkT, cl_iff, cl_false, AV.le_refl, AV.le_any, OLe_refl, OLe_none, sat_brN, Tree.sat_chk, Tree.sat_leaf, Tree.sat_fail, Nat.zero_add, Nat.sub_zero, Int.toNat_natCast, LeH_cons, LeH_nil, LeL_cons, LeL_nil, and_true, true_and, Bool.and_eq_true, Bool.or_eq_true, decide_eq_true_eq, decide_eq_false_iff_not, Bool.cond_true_left, Bool.cond_false_right, List.cons_append, List.nil_append, List.map_cons, List.map_nil, hb, hc, hp]
        repeat' (first | apply And.intro | intro _hc)
        all_goals first | omega | contradiction | exact AV.le_refl _ | exact AV.le_any _ | exact OLe.refl _ | exact OLe.none _ | exact LeH.refl _ | exact LeL.refl _ | exact AV.le.bs _ | exact AV.le.sb _ | (exfalso; omega) | contradiction
    · simp only [or_true, true_or, false_or, or_false, and_false, false_and, cond_true, cond_false, Bool.not_true, Bool.not_false, Bool.false_eq_true, Bool.true_eq_false, not_true_eq_false, not_false_eq_true, false_implies, true_implies, implies_true, Nat.blt_eq, owesN, owesX, owesR, notT, sat_brT, sat_brF, sat_chkT, cl_iff, cl_false, AV.le_refl, AV.le_any, OLe_refl, OLe_none, sat_brN, Tree.sat_chk, Tree.sat_leaf, Tree.sat_fail, Nat.zero_add, Nat.sub_zero, Int.toNat_natCast, LeH_cons, LeH_nil, LeL_cons, LeL_nil, and_true, true_and, Bool.and_eq_true, Bool.or_eq_true, decide_eq_true_eq, decide_eq_false_iff_not, Bool.cond_true_left, Bool.cond_false_right, List.cons_append, List.nil_append, List.map_cons, List.map_nil, hb, hc]
      repeat' (first | apply And.intro | intro _hc)
      all_goals first | omega | contradiction | exact AV.le_refl _ | exact AV.le_any _ | exact OLe.refl _ | exact OLe.none _ | exact LeH.refl _ | exact LeL.refl _ | exact AV.le.bs _ | exact AV.le.sb _ | (exfalso; omega) | contradiction
  have hn : acts.length ≤ 100 := by omega
  have hc : checkF f bad = 0 := Classical.byContradiction fun h => hno (.inr (.inl h))
  have hp : ¬ f < (pc bad : Int) := fun h => hno (.inr (.inr h))
  obtain ⟨be, hbe⟩ := EnE.ex s 0 st f bad []
  have hx0 : pre3 acts ⟨f, bad, s, st, be, acts, [], true, 0⟩ := ⟨rfl, hb, Nat.zero_le _, Nat.le_refl _⟩
  have hl := loop3 hn _ hx0
  have hO : O31 ⟨f, bad, s, st, be, acts, [], true, 0⟩ = OK3 f bad s st be (finK f bad st acts 0 ([], true)) := rfl
  rw [hO] at hl
  have hinv : onInv bad st (finK f bad st acts 0 ([], true)) := onInv_fin _ (fun _ y hy => absurd hy (List.not_mem_nil))
  generalize hg : finK f bad st acts 0 ([], true) = g at hl hinv
  obtain ⟨e1, he1⟩ := EnE.ex s 0 st f bad g.1
  obtain ⟨e2, he2⟩ := EnE.ex s 0 st f bad g.1
  have h1 := ansInit (ansAll (j := []) hu hb hbe)
  have h2 := ansAll (j := []) hu hb he1
  have h3 := ansEnough (j := []) hu hb he2
  have k1 : be = 0 → e1 = 0 := fun h0 => by
    subst h0
    have hz : checkF f s = 0 ∧ ∀ q, q < pc s → cAt s st f bad [] q = 0 := by
      generalize hE : (0 : Int) = E at hbe
      cases hbe with
      | chk h => exact absurd hE.symm h
      | err p h h2 h3 h4 => exact absurd hE.symm h3
      | few h h4 h5 => simp at hE
      | ok h h4 h5 => exact ⟨h, h4⟩
    have hz2 : ∀ q, q < pc s → cAt s st f bad g.1 q = 0 := fun q hq => cnt_keep _ (hz.2 q hq)
    cases he1 with
    | chk h => exact hz.1
    | err p a1 a2 a3 a4 => exact hz2 p a2
    | few h h4 h5 => omega
    | ok h h4 h5 => rfl
  have k2 : g.2 = true → f < (pc s : Int) → e2 ≠ 0 := fun hon hf h0 => by
    subst h0
    have hz : ∀ q, q < pc s → cAt s st f bad g.1 q = 0 := by
      generalize hE : (0 : Int) = E at he2
      cases he2 with
      | chk h => exact absurd hE.symm h
      | err p h h2 h3 h4 => exact absurd hE.symm h3
      | few h h4 h5 => simp at hE
      | ok h h4 h5 => exact h4
    have := few_bad hb hu hz hinv hon
    omega
  have hM : OLe (some (.mp Sh.ks true false 0 (fun _ => false) fun _ => [AV.v (Value.int IntKind.i64 0)])) (some (.mp Sh.ks true false 0 (hasS []) anyV)) := OLe.mp rfl (fun _ => rfl) (fun _ _ => ⟨.any _, trivial⟩)
  refine .mk' (T := [c6, k7, CT.orElse sel8 (CT.at 8 h1) (CT.at 8 h2) rfl, SiQ.c10, CT.at 12 h3]) (ip := false) (L := fun _ => LSpec.at lv3 nl3 (S31 ⟨f, bad, s, st, be, acts, [], true, 0⟩) (OK3 f bad s st be g)) (oneLoop (b := lp3) (by kernel_rfl) hl) (Right.of (law3 f bad acts st s be e1 e2 g h1 h2 h3) ?_)
  by_cases b0 : be = 0
  · have b1 := k1 b0
    cases hon : g.2 with
    | false =>
      simp only [or_true, true_or, false_or, or_false, and_false, false_and, cond_true, cond_false, Bool.not_true, Bool.not_false, Bool.false_eq_true, Bool.true_eq_false, not_true_eq_false, not_false_eq_true, false_implies, true_implies, implies_true, Nat.blt_eq, owesN, owesX, owesR, notT, sat_brT, sat_brF, sat_chkT, cl_iff, cl_false, AV.le_refl, AV.le_any, OLe_refl, OLe_none, sat_brN, Tree.sat_chk, Tree.sat_leaf, Tree.sat_fail, Nat.zero_add, Nat.sub_zero, Int.toNat_natCast, LeH_cons, LeH_nil, LeL_cons, LeL_nil, and_true, true_and, Bool.and_eq_true, Bool.or_eq_true, decide_eq_true_eq, decide_eq_false_iff_not, Bool.cond_true_left, Bool.cond_false_right, List.cons_append, List.nil_append, List.map_cons, List.map_nil, hb, hu, hc, hp, hon, b0, b1, decide_false, decide_true]
      repeat' (first | apply And.intro | intro _hc)
      all_goals first | omega | contradiction | exact AV.le_refl _ | exact AV.le_any _ | exact OLe.refl _ | exact OLe.none _ | exact LeH.refl _ | exact LeL.refl _ | exact AV.le.bs _ | exact AV.le.sb _ | exact hM | (exfalso; omega) | contradiction
    | true =>
      by_cases hf : f < (pc s : Int)
      · have b2 := k2 hon hf
        simp only [or_true, true_or, false_or, or_false, and_false, false_and, cond_true, cond_false, Bool.not_true, Bool.not_false, Bool.false_eq_true, Bool.true_eq_false, not_true_eq_false, not_false_eq_true, false_implies, true_implies, implies_true, Nat.blt_eq, owesN, owesX, owesR, notT, sat_brT, sat_brF, sat_chkT, cl_iff, cl_false, AV.le_refl, AV.le_any, OLe_refl, OLe_none, sat_brN, Tree.sat_chk, Tree.sat_leaf, Tree.sat_fail, Nat.zero_add, Nat.sub_zero, Int.toNat_natCast, LeH_cons, LeH_nil, LeL_cons, LeL_nil, and_true, true_and, Bool.and_eq_true, Bool.or_eq_true, decide_eq_true_eq, decide_eq_false_iff_not, Bool.cond_true_left, Bool.cond_false_right, List.cons_append, List.nil_append, List.map_cons, List.map_nil, hb, hu, hc, hp, hon, b0, b1, b2, decide_false, decide_true]
        repeat' (first | apply And.intro | intro _hc)
        all_goals first | omega | contradiction | exact AV.le_refl _ | exact AV.le_any _ | exact OLe.refl _ | exact OLe.none _ | exact LeH.refl _ | exact LeL.refl _ | exact AV.le.bs _ | exact AV.le.sb _ | exact hM | (exfalso; omega) | contradiction
      · have hf' : (pc s : Int) ≤ f := by omega
        simp only [or_true, true_or, false_or, or_false, and_false, false_and, cond_true, cond_false, Bool.not_true, Bool.not_false, Bool.false_eq_true, Bool.true_eq_false, not_true_eq_false, not_false_eq_true, false_implies, true_implies, implies_true, Nat.blt_eq, owesN, owesX, owesR, notT, sat_brT, sat_brF, sat_chkT, cl_iff, cl_false, AV.le_refl, AV.le_any, OLe_refl, OLe_none, sat_brN, Tree.sat_chk, Tree.sat_leaf, Tree.sat_fail, Nat.zero_add, Nat.sub_zero, Int.toNat_natCast, LeH_cons, LeH_nil, LeL_cons, LeL_nil, and_true, true_and, Bool.and_eq_true, Bool.or_eq_true, decide_eq_true_eq, decide_eq_false_iff_not, Bool.cond_true_left, Bool.cond_false_right, List.cons_append, List.nil_append, List.map_cons, List.map_nil, hb, hu, hc, hp, hon, b0, b1, hf', decide_false, decide_true]
        repeat' (first | apply And.intro | intro _hc)
        all_goals first | omega | contradiction | exact AV.le_refl _ | exact AV.le_any _ | exact OLe.refl _ | exact OLe.none _ | exact LeH.refl _ | exact LeL.refl _ | exact AV.le.bs _ | exact AV.le.sb _ | exact hM | (exfalso; omega) | contradiction
  · cases hon : g.2 with
    | false =>
      simp only [or_true, true_or, false_or, or_false, and_false, false_and, cond_true, cond_false, Bool.not_true, Bool.not_false, Bool.false_eq_true, Bool.true_eq_false, not_true_eq_false, not_false_eq_true, false_implies, true_implies, implies_true, Nat.blt_eq, owesN, owesX, owesR, notT, sat_brT, sat_brF, sat_chkT, cl_iff, cl_false, AV.le_refl, AV.le_any, OLe_refl, OLe_none, sat_brN, Tree.sat_chk, Tree.sat_leaf, Tree.sat_fail, Nat.zero_add, Nat.sub_zero, Int.toNat_natCast, LeH_cons, LeH_nil, LeL_cons, LeL_nil, and_true, true_and, Bool.and_eq_true, Bool.or_eq_true, decide_eq_true_eq, decide_eq_false_iff_not, Bool.cond_true_left, Bool.cond_false_right, List.cons_append, List.nil_append, List.map_cons, List.map_nil, hb, hu, hc, hp, hon, b0, decide_false, decide_true]
      repeat' (first | apply And.intro | intro _hc)
      all_goals first | omega | contradiction | exact AV.le_refl _ | exact AV.le_any _ | exact OLe.refl _ | exact OLe.none _ | exact LeH.refl _ | exact LeL.refl _ | exact AV.le.bs _ | exact AV.le.sb _ | exact hM | (exfalso; omega) | contradiction
    | true =>
      by_cases hf : f < (pc s : Int)
      · have b2 := k2 hon hf
        simp only [or_true, true_or, false_or, or_false, and_false, false_and, cond_true, cond_false, Bool.not_true, Bool.not_false, Bool.false_eq_true, Bool.true_eq_false, not_true_eq_false, not_false_eq_true, false_implies, true_implies, implies_true, Nat.blt_eq, owesN, owesX, owesR, notT, sat_brT, sat_brF, sat_chkT, cl_iff, cl_false, AV.le_refl, AV.le_any, OLe_refl, OLe_none, sat_brN, Tree.sat_chk, Tree.sat_leaf, Tree.sat_fail, Nat.zero_add, Nat.sub_zero, Int.toNat_natCast, LeH_cons, LeH_nil, LeL_cons, LeL_nil, and_true, true_and, Bool.and_eq_true, Bool.or_eq_true, decide_eq_true_eq, decide_eq_false_iff_not, Bool.cond_true_left, Bool.cond_false_right, List.cons_append, List.nil_append, List.map_cons, List.map_nil, hb, hu, hc, hp, hon, b0, b2, decide_false, decide_true]
        repeat' (first | apply And.intro | intro _hc)
        all_goals first | omega | contradiction | exact AV.le_refl _ | exact AV.le_any _ | exact OLe.refl _ | exact OLe.none _ | exact LeH.refl _ | exact LeL.refl _ | exact AV.le.bs _ | exact AV.le.sb _ | exact hM | (exfalso; omega) | contradiction
      · have hf' : (pc s : Int) ≤ f := by omega
        simp only [or_true, true_or, false_or, or_false, and_false, false_and, cond_true, cond_false, Bool.not_true, Bool.not_false, Bool.false_eq_true, Bool.true_eq_false, not_true_eq_false, not_false_eq_true, false_implies, true_implies, implies_true, Nat.blt_eq, owesN, owesX, owesR, notT, sat_brT, sat_brF, sat_chkT, cl_iff, cl_false, AV.le_refl, AV.le_any, OLe_refl, OLe_none, sat_brN, Tree.sat_chk, Tree.sat_leaf, Tree.sat_fail, Nat.zero_add, Nat.sub_zero, Int.toNat_natCast, LeH_cons, LeH_nil, LeL_cons, LeL_nil, and_true, true_and, Bool.and_eq_true, Bool.or_eq_true, decide_eq_true_eq, decide_eq_false_iff_not, Bool.cond_true_left, Bool.cond_false_right, List.cons_append, List.nil_append, List.map_cons, List.map_nil, hb, hu, hc, hp, hon, b0, hf', decide_false, decide_true]
        repeat' (first | apply And.intro | intro _hc)
        all_goals first | omega | contradiction | exact AV.le_refl _ | exact AV.le_any _ | exact OLe.refl _ | exact OLe.none _ | exact LeH.refl _ | exact LeL.refl _ | exact AV.le.bs _ | exact AV.le.sb _ | exact hM | (exfalso; omega) | contradiction
structure Y3 where
  f : Int
  bad : Int
  acts : List Ac
  st : St
  s : Int
noncomputable def c3 : CT Tryd.prog Γs := CT.lawE (fun x : Y3 => A3 x.f x.bad x.acts x.st x.s) (fun x => inU32 x.bad = true ∧ inU32 x.s = true) 3 Tryd.f3 (bodyOf Tryd.f3) 97 [.tmp 10] Tryd.func3 (by kernel_rfl) (by kernel_rfl) (by kernel_rfl) (by kernel_rfl) (fun _ _ => by simp [A3]) (fun x h => law3ok x.f x.bad x.acts x.st x.s h.1 h.2)
theorem inU32_wf {n : Int} (h : (Lit.int .u32 n).wf = true) : inU32 n = true := by
  simp [Lit.wf, IntKind.min, IntKind.max, IntKind.signed, IntKind.bits] at h
  exact inU32_iff.2 ⟨by omega, by omega⟩
end Go.Eng.Si

/- The program's one table: what the rows' condition gives. -/
namespace Go.Proofs.YtnpfcaecaflfbaaDoor
open Go Go.ChangeShapes Go.WideShapes Go.ChangeAt Go.WideMaps Go.WideElems Go.RowKit Go.Eng Go.Eng.M Go.Eng.Si
set_option linter.unusedSimpArgs false
set_option linter.unusedVariables false

theorem own : ownKnob Tryd.prog.godebug = none := by kernel_rfl
theorem gTab : Tryd.prog.globalNamed "math/bits.deBruijn32tab" = some 0 := by kernel_rfl
theorem tTab : (Tryd.prog.globals[0]?).map (·.type) = some 70 := by kernel_rfl
abbrev laidL : List (String × DataW Unit) := [("math/bits.deBruijn32tab", Lib.tabData .u8 deb)]
theorem door_met (os : Os) (args : Array Value) : laidMetH Tryd.prog laidL ((World.doorLaid Tryd.prog 400 os).forCall (fun _ _ => 0) ⟨#[], args, []⟩).memory :=
  laidMetH_of_parts3 (fuel := 8) (laidMet_of_run' 8 (by kernel_rfl) (by kernel_rfl)) (by kernel_rfl) (by kernel_rfl)
theorem globals_ok {W : World} (h : laidMetH Tryd.prog laidL W) : Globals Γs (σof W) := by
  rw [MakeChecks.laidMetH_plain _ _ _ (by kernel_rfl)] at h
  have hT := Lib.tabIs_of_head gTab tTab Tryd.underlying70 Tryd.underlying5 (by kernel_rfl) (by kernel_rfl) h
  intro g
  unfold Γs
  split
  · rename_i hg
    obtain rfl := Nat.eq_of_beq_eq_true hg
    refine .pa 1 32 _ ⟨0, 0, none⟩ (fun e j => .int .u8 (deb.getD e 0)) rfl (fun _ => rfl) (fun e j c he hc => ?_) (fun e j c he hc => ?_)
    · cases j with
      | zero => simpa using σof_of (hT.cell gTab e (by simpa [deb] using he))
      | succ j => simp at hc
    · cases j with
      | zero => simp at hc; subst hc; exact .v _
      | succ j => simp at hc
  · exact .any _
end Go.Proofs.YtnpfcaecaflfbaaDoor

/- SignKeeps holds at every input: the table math/bits.deBruijn32tab as the program lays it (tied). -/
namespace Go.Proofs.YtnpfcaecaflfbaaDoor
open Go Go.ChangeShapes Go.WideShapes Go.ChangeAt Go.WideMaps Go.WideElems Go.RowKit Go.Eng Go.Eng.M Go.Eng.Si
set_option linter.unusedSimpArgs false
set_option linter.unusedVariables false

set_option maxRecDepth 100000 in
theorem signKeeps_lifted (os : Os) (started : os.Started) (H : Type) (enc : TypeId × Value → H) :
    ReturnsInHanded {} Tryd.checked os 3 .any (fun w args => (Rows.signKeepsSpec.pre enc Tryd.prog Tryd.f3 [] false w args ∧ laidMetH Tryd.prog laidL w) ∧ sizedMet enc Tryd.prog Tryd.f3 (OpenSpec.ofChange Rows.signKeepsSpec) false w args)
      (Rows.signKeepsSpec.post enc Tryd.prog Tryd.f3 false true false false) := by
  refine returnsInHanded_of_change_and (C := Tryd.checked) (X := fun w _ => laidMetH Tryd.prog laidL w) (fun _ _ _ hh h => h.of_heap hh) own started (by kernel_rfl) Tryd.func3
    (ChangeSpec.witness_shaped (enc := enc) (C := Tryd.checked) (os := os) (X := fun w _ => laidMetH Tryd.prog laidL w) false (World.doorLaid Tryd.prog 400 os) #[.int .i64 1, .int .u32 1, .slice none 0 0, .agg #[.int .i64 0, .int .i64 0, .int .i64 0, .int .i64 0, .int .i64 0, .int .i64 0, .int .i64 0, .int .i64 0, .int .i64 0, .int .i64 0], .int .u32 1] 8 rfl (World.shaped_of_RefB (by kernel_rfl) (by kernel_rfl)) (by kernel_rfl) (by kernel_rfl) (by kernel_rfl) (door_met os _)) ?_
  intro W base args ds gs before hval0 hW _ _ hL _
  have hval : ∀ (j : Nat) t v, Tryd.f3.params[j]? = some t → args[j]? = some v → Value.okWide Tryd.prog W .any base t v := hval0
  have hW' := hW
  obtain ⟨p, q, hA0, hV, rfl, hfz, hnd⟩ := hW
  have hA : DataW.TrodAll enc Tryd.prog W 0 (fun _ => true) true Tryd.f3.params.toList args.toList ds p := hA0
  rw [Tryd.params3] at hA hval
  obtain ⟨v0, v1, v2, v3, v4, d0, d1, d2, d3, d4, p0, p1, p2, p3, p4, rfl, rfl, rfl, h0, h1, h2, h3, h4⟩ := trodAll_five hA
  obtain ⟨rfl, rfl⟩ := trodVars_none hV
  obtain ⟨n0, rfl, rfl, rfl, w0⟩ := open_int Tryd.underlying3 (hval 0 3 v0 rfl rfl) h0
  obtain ⟨n1, rfl, rfl, rfl, w1⟩ := open_int Tryd.underlying22 (hval 1 22 v1 rfl rfl) h1
  obtain ⟨n2, s2, w2⟩ := open_slL 9 Ac.cells Ac.c (ks := [.int .i64, .int .i64, .int .i64, .int .u32, .int .i64, .int .i64, .int .i64, .int .i64, .int .i64, .int .i64, .int .i64, .int .i64, .int .i64, .int .i64]) (sz := 14) rfl (fun _ => rfl) (fun _ => rfl) Ac.dec rfl Tryd.underlying23 (by kernel_rfl) (by kernel_rfl) (hval 2 23 v2 rfl rfl) h2
  obtain ⟨l3, rfl, g3_0⟩ := open_agg 9 (ks := [.int .i64, .int .i64, .int .i64, .int .i64, .int .i64, .int .i64, .int .i64, .int .i64, .int .i64, .int .i64]) Tryd.underlying25 (by kernel_rfl) (hval 3 25 v3 rfl rfl) h3
  obtain ⟨_, _, rfl, ⟨m3_0, rfl, w3_0⟩, g3_1⟩ := g3_0.cons
  obtain ⟨_, _, rfl, ⟨m3_1, rfl, w3_1⟩, g3_2⟩ := g3_1.cons
  obtain ⟨_, _, rfl, ⟨m3_2, rfl, w3_2⟩, g3_3⟩ := g3_2.cons
  obtain ⟨_, _, rfl, ⟨m3_3, rfl, w3_3⟩, g3_4⟩ := g3_3.cons
  obtain ⟨_, _, rfl, ⟨m3_4, rfl, w3_4⟩, g3_5⟩ := g3_4.cons
  obtain ⟨_, _, rfl, ⟨m3_5, rfl, w3_5⟩, g3_6⟩ := g3_5.cons
  obtain ⟨_, _, rfl, ⟨m3_6, rfl, w3_6⟩, g3_7⟩ := g3_6.cons
  obtain ⟨_, _, rfl, ⟨m3_7, rfl, w3_7⟩, g3_8⟩ := g3_7.cons
  obtain ⟨_, _, rfl, ⟨m3_8, rfl, w3_8⟩, g3_9⟩ := g3_8.cons
  obtain ⟨_, _, rfl, ⟨m3_9, rfl, w3_9⟩, g3_10⟩ := g3_9.cons
  obtain rfl := g3_10.nil
  obtain ⟨n4, rfl, rfl, rfl, w4⟩ := open_int Tryd.underlying22 (hval 4 22 v4 rfl rfl) h4
  refine (calls_true c3 (xs := [.v (.int .i64 n0), .v (.int .u32 n1), .sl 14 n2.length (lsF Ac.c n2), .agg [.v (.int .i64 m3_0), .v (.int .i64 m3_1), .v (.int .i64 m3_2), .v (.int .i64 m3_3), .v (.int .i64 m3_4), .v (.int .i64 m3_5), .v (.int .i64 m3_6), .v (.int .i64 m3_7), .v (.int .i64 m3_8), .v (.int .i64 m3_9)], .v (.int .u32 n4)]) (law_in (A := fun x : Y3 => A3 x.f x.bad x.acts x.st x.s) (pre := fun x => inU32 x.bad = true ∧ inU32 x.s = true) (x := ⟨n0, n1, n2, ⟨m3_0, m3_1, m3_2, m3_3, m3_4, m3_5, m3_6, m3_7, m3_8, m3_9⟩, n4⟩) ⟨inU32_wf w1, inU32_wf w4⟩ (.refl _)) (globals_ok hL) (.one (V_v _) (.one (V_v _) (.one (.base s2) (.one (V_agg (.one (V_v _) (.one (V_v _) (.one (V_v _) (.one (V_v _) (.one (V_v _) (.one (V_v _) (.one (V_v _) (.one (V_v _) (.one (V_v _) (.one (V_v _) (.none)))))))))))) (.one (V_v _) .none)))))).mono fun e W' ⟨he, ho⟩ => ?_
  subst he
  exact ⟨_, rfl, post_true (tb := 4) (by kernel_rfl) (by kernel_rfl) (by kernel_rfl) (by kernel_rfl) (by kernel_rfl) Tryd.underlying4 hW' rfl rfl ho⟩

theorem signKeeps_holds : Rows.SignKeepsSaid :=
  OpenClaim.holds_of_wide 3 Tryd.f3 rfl rfl rfl rfl rfl rfl rfl ⟨rfl, rfl, rfl, rfl, rfl⟩ rfl rfl rfl rfl rfl (by kernel_rfl) Tryd.func3 (by kernel_rfl)
    (of_decide_eq_true (by kernel_rfl)) (by unfold Func.isWrapper; first | (rw [if_pos (by decide +kernel)]; kernel_rfl) | (rw [if_neg (by decide +kernel)]; exact ⟨rfl, rfl⟩))
    (fun os started H enc _ => signKeeps_lifted os started H enc)
theorem signKeeps_card : Rows.SignKeepsCardSaid :=
  Claim7.holds_tied_plain_at .later [] [.data] true (true, "ea82103bd4f039685425a6885866ce4cd769803ee69860d8a1ebfe73fbf5a892") false
    signKeeps_holds (fun _ h => by cases h) (by kernel_rfl) (fun _ h => by cases h) signKeeps_row_tie rfl ⟨rfl, rfl⟩ (by kernel_rfl) rfl
    (fun f fn hf hfn => by
      obtain rfl : f = 3 := Option.some.inj ((show Tryd.prog.funcNamed "hallmoot/hallmootlaw06.SignKeeps" = some 3 by kernel_rfl).symm.trans hf) |>.symm
      obtain rfl : fn = Tryd.f3 := (Option.some.inj (Tryd.func3.symm.trans hfn)).symm
      exact ⟨by kernel_rfl, fun j t ht => by
        rw [Tryd.params3] at ht
        have hm : t ∈ [3, 22, 23, 25, 22] := by simpa using Array.mem_of_getElem? ht
        have hall : ([3, 22, 23, 25, 22].all fun u => !Tryd.prog.wantsStandIn u) = true := by kernel_rfl
        exact (show Tryd.prog.wantsStandIn t = false by simpa using List.all_eq_true.1 hall t hm)⟩)
    (by kernel_rfl)
#print axioms signKeeps_card
end Go.Proofs.YtnpfcaecaflfbaaDoor
