/- FetchAll holds at every input: no condition beyond the row own cells. -/
import Derived.Test.YtkgghcffchlolaaPart4
import Derived.Test.YtkgghcffchlolaaRows
import Derived.ProofKit
import Derived.LaidMore
import Derived.OpenShut
import Derived.Stop.Joined
/- fetch: all are asked: the loop, the law's tree. -/
namespace Go.Eng.F
open Go Go.Eng Go.Eng.M Go.Proofs
set_option linter.unusedSimpArgs false
set_option linter.unusedVariables false
theorem wrapUpN {i : Nat} (h : i ≤ 1000000000) : IntKind.wrap IntKind.i64 ((i : Int) + 1) = ((i + 1 : Nat) : Int) := by rw [wrap64 (by omega) (by omega)]; omega
theorem ans22 {n : Int} : Answers Try.prog Γf 22 [.v (.slice none 0 0), .v (.int .i64 0), .hs 0 0 1] [FW n 0] (.hs 1 0 1) [some (FW n 0)] [FW n 0] :=
  answers (fn := Try.f22) (c := bodyOf Try.f22) (ntmps := 95) (results := [.tmp 6]) [] (Lno) false Try.func22 (by kernel_rfl) (by kernel_rfl) (by kernel_rfl) (by kernel_rfl) (by simp) rfl (failOK fun _ _ _ => rfl) <| Meets.of (run22 n) <| by
    simp only [or_true, true_or, false_or, or_false, and_false, false_and, cond_true, cond_false, Bool.not_true, Bool.not_false, Bool.false_eq_true, Bool.true_eq_false, not_true_eq_false, not_false_eq_true, false_implies, true_implies, implies_true, Nat.blt_eq, owesN, owesX, owesR, notT, sat_brT, sat_brF, sat_chkT, cl_iff, cl_false, AV.le_refl, AV.le_any, OLe_refl, OLe_none, sat_brN, Tree.sat_chk, Tree.sat_leaf, Tree.sat_fail, Nat.zero_add, Nat.sub_zero, Int.toNat_natCast, LeH_cons, LeH_nil, LeL_cons, LeL_nil, and_true, true_and, Bool.and_eq_true, Bool.or_eq_true, decide_eq_true_eq, decide_eq_false_iff_not, Bool.cond_true_left, Bool.cond_false_right, List.cons_append, List.nil_append, List.map_cons, List.map_nil]
    repeat' (first | apply And.intro | intro _hc)
    all_goals first | omega | contradiction | exact AV.le_refl _ | exact AV.le_any _ | exact OLe.refl _ | exact OLe.none _ | exact LeH.refl _ | exact LeL.refl _ | exact AV.le.bs _ | exact AV.le.sb _ | exact hOne rfl rfl | (exfalso; omega) | contradiction
theorem run9 (all me mo n : Int) : bodyE (P := Try.prog) (Γ := Γf) [CT.at 21 (ans21 (all := all) (me := me) (mo := mo) (n := n)), CT.at 22 (ans22 (n := n))] Lno false 44 [.tmp 4] (bodyOf Try.f9) [.ptr 0 0, .v (.int .i64 n)] [FN all me mo] =
  Tree.br (decide (n < (1 : Int))) (Tree.leaf (Ans.mk (AV.v (Value.int IntKind.i64 (1 : Int))) [some (Blk.row [AV.v (Value.int IntKind.i64 all), AV.v (Value.int IntKind.i64 me), AV.v
    (Value.int IntKind.i64 (4 : Int)), AV.v (Value.int IntKind.i64 mo), AV.v (Value.slice none (0 : Nat) (0 : Nat))])])) (Tree.chk (cl (LeL [AV.ptr (0 : Nat) (0 : Nat), AV.v (Value.int
    IntKind.i64 n)] [AV.ptr (0 : Nat) (0 : Nat), AV.v (Value.int IntKind.i64 n)] ∧ LeH [some (Blk.row [AV.v (Value.int IntKind.i64 all), AV.v (Value.int IntKind.i64 me), AV.v (Value.int
    IntKind.i64 (4 : Int)), AV.v (Value.int IntKind.i64 mo), AV.v (Value.slice none (0 : Nat) (0 : Nat))])] [some (Blk.row [AV.v (Value.int IntKind.i64 all), AV.v (Value.int IntKind.i64 me),
    AV.v (Value.int IntKind.i64 (4 : Int)), AV.v (Value.int IntKind.i64 mo), AV.v (Value.slice none (0 : Nat) (0 : Nat))])])) (Tree.br false (Tree.leaf (Ans.mk (AV.v (Value.int IntKind.i64
    (101 : Int))) [some (Blk.row [AV.v (Value.int IntKind.i64 all), AV.v (Value.int IntKind.i64 me), AV.v (Value.int IntKind.i64 (4 : Int)), AV.v (Value.int IntKind.i64 mo), AV.v
    (Value.slice none (0 : Nat) (0 : Nat))])])) (Tree.chk (cl (LeL [AV.v (Value.slice none (0 : Nat) (0 : Nat)), AV.v (Value.int IntKind.i64 (0 : Int)), AV.hs (0 : Nat) (0 : Nat) (1 : Nat)]
    [AV.v (Value.slice none (0 : Nat) (0 : Nat)), AV.v (Value.int IntKind.i64 (0 : Int)), AV.hs (0 : Nat) (0 : Nat) (1 : Nat)] ∧ LeH [some (Blk.arr (2 : Nat) (1 : Nat) fun x => [AV.v
    (Value.int IntKind.i64 (bif Nat.beq x (0 : Nat) then n else (0 : Int))), AV.v (Value.int IntKind.i64 (bif Nat.beq x (0 : Nat) then (0 : Int) else (0 : Int)))])] [some (Blk.arr (2 : Nat)
    (1 : Nat) fun x => [AV.v (Value.int IntKind.i64 n), AV.v (Value.int IntKind.i64 (0 : Int))])])) (Tree.leaf (Ans.mk (AV.v (Value.int IntKind.i64 (0 : Int))) [some (Blk.row [AV.v
    (Value.int IntKind.i64 all), AV.v (Value.int IntKind.i64 me), AV.v (Value.int IntKind.i64 (4 : Int)), AV.v (Value.int IntKind.i64 mo), AV.hs (1 : Nat) (0 : Nat) (1 : Nat)]), some
    (Blk.arr (2 : Nat) (1 : Nat) fun x => [AV.v (Value.int IntKind.i64 n), AV.v (Value.int IntKind.i64 (0 : Int))])]))))) := by kernel_rfl
theorem ans9 {all me mo n : Int} (h : ¬ n < 1) : Answers Try.prog Γf 9 [.ptr 0 0, .v (.int .i64 n)] [FN all me mo] (.v (.int .i64 0)) [some (FR 1 all me mo)] [FW n 0] :=
  answers (fn := Try.f9) (c := bodyOf Try.f9) (ntmps := 44) (results := [.tmp 4]) [CT.at 21 (ans21 (all := all) (me := me) (mo := mo) (n := n)), CT.at 22 (ans22 (n := n))] (Lno) false Try.func9 (by kernel_rfl) (by kernel_rfl) (by kernel_rfl) (by kernel_rfl) (by simp) rfl (failOK fun _ _ _ => rfl) <| Meets.of (run9 all me mo n) <| by
    simp only [or_true, true_or, false_or, or_false, and_false, false_and, cond_true, cond_false, Bool.not_true, Bool.not_false, Bool.false_eq_true, Bool.true_eq_false, not_true_eq_false, not_false_eq_true, false_implies, true_implies, implies_true, Nat.blt_eq, owesN, owesX, owesR, notT, sat_brT, sat_brF, sat_chkT, cl_iff, cl_false, AV.le_refl, AV.le_any, OLe_refl, OLe_none, sat_brN, Tree.sat_chk, Tree.sat_leaf, Tree.sat_fail, Nat.zero_add, Nat.sub_zero, Int.toNat_natCast, LeH_cons, LeH_nil, LeL_cons, LeL_nil, and_true, true_and, Bool.and_eq_true, Bool.or_eq_true, decide_eq_true_eq, decide_eq_false_iff_not, Bool.cond_true_left, Bool.cond_false_right, List.cons_append, List.nil_append, List.map_cons, List.map_nil]
    repeat' (first | apply And.intro | intro _hc)
    all_goals first | omega | contradiction | exact AV.le_refl _ | exact AV.le_any _ | exact OLe.refl _ | exact OLe.none _ | exact LeH.refl _ | exact LeL.refl _ | exact AV.le.bs _ | exact AV.le.sb _ | exact hOne rfl rfl | (exfalso; omega) | contradiction
theorem ans9n {all me mo n : Int} (h : n < 1) : Answers Try.prog Γf 9 [.ptr 0 0, .v (.int .i64 n)] [FN all me mo] (.v (.int .i64 1)) [some (FN all me mo)] [] :=
  answers (fn := Try.f9) (c := bodyOf Try.f9) (ntmps := 44) (results := [.tmp 4]) [CT.at 21 (ans21 (all := all) (me := me) (mo := mo) (n := n)), CT.at 22 (ans22 (n := n))] (Lno) false Try.func9 (by kernel_rfl) (by kernel_rfl) (by kernel_rfl) (by kernel_rfl) (by simp) rfl (failOK fun _ _ _ => rfl) <| Meets.of (run9 all me mo n) <| by
    simp only [or_true, true_or, false_or, or_false, and_false, false_and, cond_true, cond_false, Bool.not_true, Bool.not_false, Bool.false_eq_true, Bool.true_eq_false, not_true_eq_false, not_false_eq_true, false_implies, true_implies, implies_true, Nat.blt_eq, owesN, owesX, owesR, notT, sat_brT, sat_brF, sat_chkT, cl_iff, cl_false, AV.le_refl, AV.le_any, OLe_refl, OLe_none, sat_brN, Tree.sat_chk, Tree.sat_leaf, Tree.sat_fail, Nat.zero_add, Nat.sub_zero, Int.toNat_natCast, LeH_cons, LeH_nil, LeL_cons, LeL_nil, and_true, true_and, Bool.and_eq_true, Bool.or_eq_true, decide_eq_true_eq, decide_eq_false_iff_not, Bool.cond_true_left, Bool.cond_false_right, List.cons_append, List.nil_append, List.map_cons, List.map_nil]
    repeat' (first | apply And.intro | intro _hc)
    all_goals first | omega | contradiction | exact AV.le_refl _ | exact AV.le_any _ | exact OLe.refl _ | exact OLe.none _ | exact LeH.refl _ | exact LeL.refl _ | exact AV.le.bs _ | exact AV.le.sb _ | (exfalso; omega) | contradiction
theorem clT : cl True = true := cl_iff.2 trivial
theorem all3 {f : Int} (h : timesF 3 f ≠ 0) : timesF 3 f = 4 ∨ timesF 3 f = 7 ∨ timesF 3 f = 10 := by
  have h1 : ¬ (f < 1 ∨ 3 < f) := fun h2 => h (times_zero.2 h2)
  have := times3 h1
  omega
theorem toX_eq {all me : Int} (ha : all = 4 ∨ all = 7 ∨ all = 10) (h0 : 0 ≤ me) (h1 : me < all) (i : Nat) : toX all me (i : Int) = toF all me i := by
  unfold toX toF
  have e1 : IntKind.wrap .i64 (me + 1) = me + 1 := wrap64 (by omega) (by omega)
  have e2 : IntKind.wrap .i64 (all - 1) = all - 1 := wrap64 (by omega) (by omega)
  have e3 : Int.tmod (i : Int) (all - 1) = (i : Int) % (all - 1) := Int.tmod_eq_emod_of_nonneg (by omega)
  have b0 : 0 ≤ (i : Int) % (all - 1) := Int.emod_nonneg _ (by omega)
  have b1 : (i : Int) % (all - 1) < all - 1 := Int.emod_lt_of_pos _ (by omega)
  have e4 : IntKind.wrap .i64 (me + 1 + (i : Int) % (all - 1)) = me + 1 + (i : Int) % (all - 1) := wrap64 (by omega) (by omega)
  rw [e1, e2, e3, e4]
  exact Int.tmod_eq_emod_of_nonneg (by omega)
def S51 (x : X5) : List AV × Heap := S5 x (setF (timesF 3 x.f) x.me x.i)
structure pre5 (f me n mo : Int) (x : X5) : Prop where
  e0 : x.f = f
  e1 : x.me = me
  e2 : x.n = n
  e3 : x.mo = mo
  i : (x.i : Int) ≤ mo
def O5 (f me n mo : Int) : Out := ⟨.exit 0, [.any, .any, .any, .any, .ptr 0 0, .any, .any, .any], (FT (timesF 3 f) me mo n mo).map some⟩
theorem loop5 {f me n mo : Int} (hf : timesF 3 f ≠ 0) (hm0 : 0 ≤ me) (hm1 : me < timesF 3 f) (hmo : mo ≤ 40) : ∀ x, pre5 f me n mo x → LoopOK Try.prog Γf 0 119 lp5 (LSpec.at lv5 [] (S51 x) (O5 f me n mo)) := by
  refine loop_at (S := S51) (O := fun _ => O5 f me n mo) (k := 0) (fun x => mo.toNat - x.i) fun x hp => ?_
  obtain ⟨rfl, rfl, rfl, rfl, hi⟩ := hp
  have ha := all3 hf
  by_cases hlt : (x.i : Int) < x.mo
  · have hw : IntKind.wrap .i64 (timesF 3 x.f - 1) = timesF 3 x.f - 1 := wrap64 (by omega) (by omega)
    obtain ⟨t0, t1, t2, t3⟩ := to_ok ha hm0 hm1 x.i
    have hin := set_in ha hm0 hm1 x.i
    have hin' := set_in ha hm0 hm1 (x.i + 1)
    have t0' : ¬ toF (timesF 3 x.f) x.me x.i < 0 := by omega
    have t1' : ¬ timesF 3 x.f ≤ toF (timesF 3 x.f) x.me x.i := by omega
    refine .of (L := Lno) (failOK fun _ _ _ => rfl) (r5 x (setF (timesF 3 x.f) x.me x.i) (setF (timesF 3 x.f) x.me (x.i + 1)) (toF (timesF 3 x.f) x.me x.i) ((x.i + 1 : Nat) : Int) _ (ans13n (by omega) (wrapUpN (by omega)) (toX_eq ha hm0 hm1 x.i) (by rw [hw]; omega) hf) (ansPut hin t3) (ansCnt hin')) ?_
    by_cases hle : timesF 3 x.f - 1 ≤ ((x.i + 1 : Nat) : Int)
    · have hc := set_cnt ha hm0 hm1 (i := x.i) (by omega) (by omega)
      simp only [or_true, true_or, false_or, or_false, and_false, false_and, cond_true, cond_false, Bool.not_true, Bool.not_false, Bool.false_eq_true, Bool.true_eq_false, not_true_eq_false, not_false_eq_true, false_implies, true_implies, implies_true, Nat.blt_eq, owesN, owesX, owesR, notT, sat_brT, sat_brF, sat_chkT, cl_iff, cl_false, AV.le_refl, AV.le_any, OLe_refl, OLe_none, sat_brN, Tree.sat_chk, Tree.sat_leaf, Tree.sat_fail, Nat.zero_add, Nat.sub_zero, Int.toNat_natCast, LeH_cons, LeH_nil, LeL_cons, LeL_nil, and_true, true_and, Bool.and_eq_true, Bool.or_eq_true, decide_eq_true_eq, decide_eq_false_iff_not, Bool.cond_true_left, Bool.cond_false_right, List.cons_append, List.nil_append, List.map_cons, List.map_nil, hw, t0', t1', t2, hle, hc, clT, decide_true, decide_false, Bool.and_true, cond_true, cond_false, wrapUpN (show x.i ≤ 1000000000 by omega)]
      repeat' (first | apply And.intro | intro _hc)
      all_goals first | omega | contradiction | exact AV.le_refl _ | exact AV.le_any _ | exact OLe.refl _ | exact OLe.none _ | exact LeH.refl _ | exact LeL.refl _ | exact AV.le.bs _ | exact AV.le.sb _ | exact ⟨{ x with i := x.i + 1 }, LeL.refl _, LeH.refl _, ⟨rfl, rfl, rfl, rfl, by show ((x.i + 1 : Nat) : Int) ≤ x.mo; omega⟩, by show x.mo.toNat - (x.i + 1) < x.mo.toNat - x.i; omega⟩ | (exfalso; omega) | contradiction
    · simp only [or_true, true_or, false_or, or_false, and_false, false_and, cond_true, cond_false, Bool.not_true, Bool.not_false, Bool.false_eq_true, Bool.true_eq_false, not_true_eq_false, not_false_eq_true, false_implies, true_implies, implies_true, Nat.blt_eq, owesN, owesX, owesR, notT, sat_brT, sat_brF, sat_chkT, cl_iff, cl_false, AV.le_refl, AV.le_any, OLe_refl, OLe_none, sat_brN, Tree.sat_chk, Tree.sat_leaf, Tree.sat_fail, Nat.zero_add, Nat.sub_zero, Int.toNat_natCast, LeH_cons, LeH_nil, LeL_cons, LeL_nil, and_true, true_and, Bool.and_eq_true, Bool.or_eq_true, decide_eq_true_eq, decide_eq_false_iff_not, Bool.cond_true_left, Bool.cond_false_right, List.cons_append, List.nil_append, List.map_cons, List.map_nil, hw, t0', t1', t2, hle, clT, decide_true, decide_false, Bool.and_true, cond_true, cond_false, wrapUpN (show x.i ≤ 1000000000 by omega)]
      repeat' (first | apply And.intro | intro _hc)
      all_goals first | omega | contradiction | exact AV.le_refl _ | exact AV.le_any _ | exact OLe.refl _ | exact OLe.none _ | exact LeH.refl _ | exact LeL.refl _ | exact AV.le.bs _ | exact AV.le.sb _ | exact ⟨{ x with i := x.i + 1 }, LeL.refl _, LeH.refl _, ⟨rfl, rfl, rfl, rfl, by show ((x.i + 1 : Nat) : Int) ≤ x.mo; omega⟩, by show x.mo.toNat - (x.i + 1) < x.mo.toNat - x.i; omega⟩ | (exfalso; omega) | contradiction
  · have he : (x.i : Int) = x.mo := by omega
    refine .of (L := Lno) (failOK fun _ _ _ => rfl) (r5e x (setF (timesF 3 x.f) x.me x.i)) ?_
    simp only [or_true, true_or, false_or, or_false, and_false, false_and, cond_true, cond_false, Bool.not_true, Bool.not_false, Bool.false_eq_true, Bool.true_eq_false, not_true_eq_false, not_false_eq_true, false_implies, true_implies, implies_true, Nat.blt_eq, owesN, owesX, owesR, notT, sat_brT, sat_brF, sat_chkT, cl_iff, cl_false, AV.le_refl, AV.le_any, OLe_refl, OLe_none, sat_brN, Tree.sat_chk, Tree.sat_leaf, Tree.sat_fail, Nat.zero_add, Nat.sub_zero, Int.toNat_natCast, LeH_cons, LeH_nil, LeL_cons, LeL_nil, and_true, true_and, Bool.and_eq_true, Bool.or_eq_true, decide_eq_true_eq, decide_eq_false_iff_not, Bool.cond_true_left, Bool.cond_false_right, List.cons_append, List.nil_append, List.map_cons, List.map_nil, he]
    repeat' (first | apply And.intro | intro _hc)
    all_goals first | omega | contradiction | exact AV.le_refl _ | exact AV.le_any _ | exact OLe.refl _ | exact OLe.none _ | exact LeH.refl _ | exact LeL.refl _ | exact AV.le.bs _ | exact AV.le.sb _ | exact rfl | (exfalso; omega) | contradiction
abbrev A5' (f me n tries : Int) : List AV := [.v (.int .i64 f), .v (.int .i64 me), .v (.int .i64 n), .v (.int .u8 tries)]
theorem law5a (f me n tries : Int) : bodyE (P := Try.prog) (Γ := Γf) [c6, k7] Lno false 119 [.tmp 8] (bodyOf Try.f5) (A5' f me n tries) [] =
  Tree.chk true (Tree.chk true (Tree.br (decide (timesF (3 : Int) f = (0 : Int))) (Tree.br (decide (timesF (3 : Int) f = (0 : Int))) (Tree.br true (Tree.leaf (Ans.mk (AV.v (Value.bool true))
    [])) Tree.fail) (Tree.br (decide (me < (0 : Int))) (Tree.br (decide (me < (0 : Int))) (Tree.br true (Tree.leaf (Ans.mk (AV.v (Value.bool true)) [])) Tree.fail) (Tree.br false (Tree.leaf
    (Ans.mk (AV.v (Value.bool true)) [])) Tree.fail)) (Tree.br (decide (timesF (3 : Int) f ≤ me)) (Tree.br true (Tree.leaf (Ans.mk (AV.v (Value.bool true)) [])) Tree.fail) (Tree.br false
    (Tree.leaf (Ans.mk (AV.v (Value.bool true)) [])) Tree.fail)))) (Tree.br false (Tree.br false (Tree.br true (Tree.leaf (Ans.mk (AV.v (Value.bool true)) [])) Tree.fail) (Tree.br (decide
    (me < (0 : Int))) (Tree.br (decide (me < (0 : Int))) (Tree.br true (Tree.leaf (Ans.mk (AV.v (Value.bool true)) [])) Tree.fail) (Tree.br false (Tree.leaf (Ans.mk (AV.v (Value.bool true))
    [])) Tree.fail)) (Tree.br (decide (timesF (3 : Int) f ≤ me)) (Tree.br true (Tree.leaf (Ans.mk (AV.v (Value.bool true)) [])) Tree.fail) (Tree.br false (Tree.leaf (Ans.mk (AV.v (Value.bool
    true)) [])) Tree.fail)))) (Tree.br false (Tree.br false (Tree.br true (Tree.leaf (Ans.mk (AV.v (Value.bool true)) [])) Tree.fail) (Tree.br (decide (me < (0 : Int))) (Tree.br (decide (me
    < (0 : Int))) (Tree.br true (Tree.leaf (Ans.mk (AV.v (Value.bool true)) [])) Tree.fail) (Tree.br false (Tree.leaf (Ans.mk (AV.v (Value.bool true)) [])) Tree.fail)) (Tree.br (decide
    (timesF (3 : Int) f ≤ me)) (Tree.br true (Tree.leaf (Ans.mk (AV.v (Value.bool true)) [])) Tree.fail) (Tree.br false (Tree.leaf (Ans.mk (AV.v (Value.bool true)) [])) Tree.fail))))
    (Tree.br (decide (IntKind.wrap IntKind.i64 ((1 : Int) + Int.tmod (IntKind.wrap IntKind.i64 tries) (40 : Int)) < (1 : Int))) (Tree.br true (Tree.leaf (Ans.mk (AV.v (Value.bool true)) []))
    Tree.fail) (Tree.br (decide (me < (0 : Int))) (Tree.br (decide (me < (0 : Int))) (Tree.br true (Tree.leaf (Ans.mk (AV.v (Value.bool true)) [])) Tree.fail) (Tree.br false (Tree.leaf
    (Ans.mk (AV.v (Value.bool true)) [])) Tree.fail)) (Tree.br (decide (timesF (3 : Int) f ≤ me)) (Tree.br true (Tree.leaf (Ans.mk (AV.v (Value.bool true)) [])) Tree.fail) (Tree.br false
    (Tree.leaf (Ans.mk (AV.v (Value.bool true)) [])) Tree.fail)))))))) := by kernel_rfl
theorem law5n (f me n tries mo : Int) (h : n < 1) : bodyE (P := Try.prog) (Γ := Γf) [c6, k7, CT.at 9 (ans9n (all := timesF 3 f) (me := me) (mo := mo) h)] Lno false 119 [.tmp 8] (bodyOf Try.f5) (A5' f me n tries) [] =
  Tree.chk true (Tree.chk true (Tree.br (decide (timesF (3 : Int) f = (0 : Int))) (Tree.br (decide (timesF (3 : Int) f = (0 : Int))) (Tree.chk true (Tree.br true (Tree.leaf (Ans.mk (AV.v
    (Value.bool true)) [])) Tree.fail)) (Tree.br (decide (me < (0 : Int))) (Tree.br (decide (me < (0 : Int))) (Tree.chk true (Tree.br true (Tree.leaf (Ans.mk (AV.v (Value.bool true)) []))
    Tree.fail)) (Tree.br false (Tree.leaf (Ans.mk (AV.v (Value.bool true)) [])) (Tree.chk (cl (LeL [AV.ptr (0 : Nat) (0 : Nat), AV.v (Value.int IntKind.i64 n)] [AV.ptr (0 : Nat) (0 : Nat),
    AV.v (Value.int IntKind.i64 n)] ∧ LeH [some (Blk.row [AV.v (Value.int IntKind.i64 (timesF (3 : Int) f)), AV.v (Value.int IntKind.i64 me), AV.v (Value.int IntKind.i64 (4 : Int)), AV.v
    (Value.int IntKind.i64 (IntKind.wrap IntKind.i64 ((1 : Int) + Int.tmod (IntKind.wrap IntKind.i64 tries) (40 : Int)))), AV.v (Value.slice none (0 : Nat) (0 : Nat))])] [some (Blk.row [AV.v
    (Value.int IntKind.i64 (timesF (3 : Int) f)), AV.v (Value.int IntKind.i64 me), AV.v (Value.int IntKind.i64 (4 : Int)), AV.v (Value.int IntKind.i64 mo), AV.v (Value.slice none (0 : Nat)
    (0 : Nat))])])) (Tree.br true (Tree.leaf (Ans.mk (AV.v (Value.bool true)) [])) Tree.fail)))) (Tree.br (decide (timesF (3 : Int) f ≤ me)) (Tree.chk true (Tree.br true (Tree.leaf (Ans.mk
    (AV.v (Value.bool true)) [])) Tree.fail)) (Tree.br false (Tree.leaf (Ans.mk (AV.v (Value.bool true)) [])) (Tree.chk (cl (LeL [AV.ptr (0 : Nat) (0 : Nat), AV.v (Value.int IntKind.i64 n)]
    [AV.ptr (0 : Nat) (0 : Nat), AV.v (Value.int IntKind.i64 n)] ∧ LeH [some (Blk.row [AV.v (Value.int IntKind.i64 (timesF (3 : Int) f)), AV.v (Value.int IntKind.i64 me), AV.v (Value.int
    IntKind.i64 (4 : Int)), AV.v (Value.int IntKind.i64 (IntKind.wrap IntKind.i64 ((1 : Int) + Int.tmod (IntKind.wrap IntKind.i64 tries) (40 : Int)))), AV.v (Value.slice none (0 : Nat) (0 :
    Nat))])] [some (Blk.row [AV.v (Value.int IntKind.i64 (timesF (3 : Int) f)), AV.v (Value.int IntKind.i64 me), AV.v (Value.int IntKind.i64 (4 : Int)), AV.v (Value.int IntKind.i64 mo), AV.v
    (Value.slice none (0 : Nat) (0 : Nat))])])) (Tree.br true (Tree.leaf (Ans.mk (AV.v (Value.bool true)) [])) Tree.fail)))))) (Tree.br false (Tree.br false (Tree.chk true (Tree.br true
    (Tree.leaf (Ans.mk (AV.v (Value.bool true)) [])) Tree.fail)) (Tree.br (decide (me < (0 : Int))) (Tree.br (decide (me < (0 : Int))) (Tree.chk true (Tree.br true (Tree.leaf (Ans.mk (AV.v
    (Value.bool true)) [])) Tree.fail)) (Tree.br false (Tree.leaf (Ans.mk (AV.v (Value.bool true)) [])) (Tree.chk (cl (LeL [AV.ptr (0 : Nat) (0 : Nat), AV.v (Value.int IntKind.i64 n)]
    [AV.ptr (0 : Nat) (0 : Nat), AV.v (Value.int IntKind.i64 n)] ∧ LeH [some (Blk.row [AV.v (Value.int IntKind.i64 (timesF (3 : Int) f)), AV.v (Value.int IntKind.i64 me), AV.v (Value.int
    IntKind.i64 (4 : Int)), AV.v (Value.int IntKind.i64 (IntKind.wrap IntKind.i64 ((1 : Int) + Int.tmod (IntKind.wrap IntKind.i64 tries) (40 : Int)))), AV.v (Value.slice none (0 : Nat) (0 :
    Nat))])] [some (Blk.row [AV.v (Value.int IntKind.i64 (timesF (3 : Int) f)), AV.v (Value.int IntKind.i64 me), AV.v (Value.int IntKind.i64 (4 : Int)), AV.v (Value.int IntKind.i64 mo), AV.v
    (Value.slice none (0 : Nat) (0 : Nat))])])) (Tree.br true (Tree.leaf (Ans.mk (AV.v (Value.bool true)) [])) Tree.fail)))) (Tree.br (decide (timesF (3 : Int) f ≤ me)) (Tree.chk true
    (Tree.br true (Tree.leaf (Ans.mk (AV.v (Value.bool true)) [])) Tree.fail)) (Tree.br false (Tree.leaf (Ans.mk (AV.v (Value.bool true)) [])) (Tree.chk (cl (LeL [AV.ptr (0 : Nat) (0 : Nat),
    AV.v (Value.int IntKind.i64 n)] [AV.ptr (0 : Nat) (0 : Nat), AV.v (Value.int IntKind.i64 n)] ∧ LeH [some (Blk.row [AV.v (Value.int IntKind.i64 (timesF (3 : Int) f)), AV.v (Value.int
    IntKind.i64 me), AV.v (Value.int IntKind.i64 (4 : Int)), AV.v (Value.int IntKind.i64 (IntKind.wrap IntKind.i64 ((1 : Int) + Int.tmod (IntKind.wrap IntKind.i64 tries) (40 : Int)))), AV.v
    (Value.slice none (0 : Nat) (0 : Nat))])] [some (Blk.row [AV.v (Value.int IntKind.i64 (timesF (3 : Int) f)), AV.v (Value.int IntKind.i64 me), AV.v (Value.int IntKind.i64 (4 : Int)), AV.v
    (Value.int IntKind.i64 mo), AV.v (Value.slice none (0 : Nat) (0 : Nat))])])) (Tree.br true (Tree.leaf (Ans.mk (AV.v (Value.bool true)) [])) Tree.fail)))))) (Tree.br false (Tree.br false
    (Tree.chk true (Tree.br true (Tree.leaf (Ans.mk (AV.v (Value.bool true)) [])) Tree.fail)) (Tree.br (decide (me < (0 : Int))) (Tree.br (decide (me < (0 : Int))) (Tree.chk true (Tree.br
    true (Tree.leaf (Ans.mk (AV.v (Value.bool true)) [])) Tree.fail)) (Tree.br false (Tree.leaf (Ans.mk (AV.v (Value.bool true)) [])) (Tree.chk (cl (LeL [AV.ptr (0 : Nat) (0 : Nat), AV.v
    (Value.int IntKind.i64 n)] [AV.ptr (0 : Nat) (0 : Nat), AV.v (Value.int IntKind.i64 n)] ∧ LeH [some (Blk.row [AV.v (Value.int IntKind.i64 (timesF (3 : Int) f)), AV.v (Value.int
    IntKind.i64 me), AV.v (Value.int IntKind.i64 (4 : Int)), AV.v (Value.int IntKind.i64 (IntKind.wrap IntKind.i64 ((1 : Int) + Int.tmod (IntKind.wrap IntKind.i64 tries) (40 : Int)))), AV.v
    (Value.slice none (0 : Nat) (0 : Nat))])] [some (Blk.row [AV.v (Value.int IntKind.i64 (timesF (3 : Int) f)), AV.v (Value.int IntKind.i64 me), AV.v (Value.int IntKind.i64 (4 : Int)), AV.v
    (Value.int IntKind.i64 mo), AV.v (Value.slice none (0 : Nat) (0 : Nat))])])) (Tree.br true (Tree.leaf (Ans.mk (AV.v (Value.bool true)) [])) Tree.fail)))) (Tree.br (decide (timesF (3 :
    Int) f ≤ me)) (Tree.chk true (Tree.br true (Tree.leaf (Ans.mk (AV.v (Value.bool true)) [])) Tree.fail)) (Tree.br false (Tree.leaf (Ans.mk (AV.v (Value.bool true)) [])) (Tree.chk (cl (LeL
    [AV.ptr (0 : Nat) (0 : Nat), AV.v (Value.int IntKind.i64 n)] [AV.ptr (0 : Nat) (0 : Nat), AV.v (Value.int IntKind.i64 n)] ∧ LeH [some (Blk.row [AV.v (Value.int IntKind.i64 (timesF (3 :
    Int) f)), AV.v (Value.int IntKind.i64 me), AV.v (Value.int IntKind.i64 (4 : Int)), AV.v (Value.int IntKind.i64 (IntKind.wrap IntKind.i64 ((1 : Int) + Int.tmod (IntKind.wrap IntKind.i64
    tries) (40 : Int)))), AV.v (Value.slice none (0 : Nat) (0 : Nat))])] [some (Blk.row [AV.v (Value.int IntKind.i64 (timesF (3 : Int) f)), AV.v (Value.int IntKind.i64 me), AV.v (Value.int
    IntKind.i64 (4 : Int)), AV.v (Value.int IntKind.i64 mo), AV.v (Value.slice none (0 : Nat) (0 : Nat))])])) (Tree.br true (Tree.leaf (Ans.mk (AV.v (Value.bool true)) [])) Tree.fail))))))
    (Tree.br (decide (IntKind.wrap IntKind.i64 ((1 : Int) + Int.tmod (IntKind.wrap IntKind.i64 tries) (40 : Int)) < (1 : Int))) (Tree.chk true (Tree.br true (Tree.leaf (Ans.mk (AV.v
    (Value.bool true)) [])) Tree.fail)) (Tree.br (decide (me < (0 : Int))) (Tree.br (decide (me < (0 : Int))) (Tree.chk true (Tree.br true (Tree.leaf (Ans.mk (AV.v (Value.bool true)) []))
    Tree.fail)) (Tree.br false (Tree.leaf (Ans.mk (AV.v (Value.bool true)) [])) (Tree.chk (cl (LeL [AV.ptr (0 : Nat) (0 : Nat), AV.v (Value.int IntKind.i64 n)] [AV.ptr (0 : Nat) (0 : Nat),
    AV.v (Value.int IntKind.i64 n)] ∧ LeH [some (Blk.row [AV.v (Value.int IntKind.i64 (timesF (3 : Int) f)), AV.v (Value.int IntKind.i64 me), AV.v (Value.int IntKind.i64 (4 : Int)), AV.v
    (Value.int IntKind.i64 (IntKind.wrap IntKind.i64 ((1 : Int) + Int.tmod (IntKind.wrap IntKind.i64 tries) (40 : Int)))), AV.v (Value.slice none (0 : Nat) (0 : Nat))])] [some (Blk.row [AV.v
    (Value.int IntKind.i64 (timesF (3 : Int) f)), AV.v (Value.int IntKind.i64 me), AV.v (Value.int IntKind.i64 (4 : Int)), AV.v (Value.int IntKind.i64 mo), AV.v (Value.slice none (0 : Nat)
    (0 : Nat))])])) (Tree.br true (Tree.leaf (Ans.mk (AV.v (Value.bool true)) [])) Tree.fail)))) (Tree.br (decide (timesF (3 : Int) f ≤ me)) (Tree.chk true (Tree.br true (Tree.leaf (Ans.mk
    (AV.v (Value.bool true)) [])) Tree.fail)) (Tree.br false (Tree.leaf (Ans.mk (AV.v (Value.bool true)) [])) (Tree.chk (cl (LeL [AV.ptr (0 : Nat) (0 : Nat), AV.v (Value.int IntKind.i64 n)]
    [AV.ptr (0 : Nat) (0 : Nat), AV.v (Value.int IntKind.i64 n)] ∧ LeH [some (Blk.row [AV.v (Value.int IntKind.i64 (timesF (3 : Int) f)), AV.v (Value.int IntKind.i64 me), AV.v (Value.int
    IntKind.i64 (4 : Int)), AV.v (Value.int IntKind.i64 (IntKind.wrap IntKind.i64 ((1 : Int) + Int.tmod (IntKind.wrap IntKind.i64 tries) (40 : Int)))), AV.v (Value.slice none (0 : Nat) (0 :
    Nat))])] [some (Blk.row [AV.v (Value.int IntKind.i64 (timesF (3 : Int) f)), AV.v (Value.int IntKind.i64 me), AV.v (Value.int IntKind.i64 (4 : Int)), AV.v (Value.int IntKind.i64 mo), AV.v
    (Value.slice none (0 : Nat) (0 : Nat))])])) (Tree.br true (Tree.leaf (Ans.mk (AV.v (Value.bool true)) [])) Tree.fail)))))))))) := by kernel_rfl
theorem law5k (f me n tries mo : Int) (h : ¬ n < 1) : bodyE (P := Try.prog) (Γ := Γf) [c6, k7, CT.at 9 (ans9 (all := timesF 3 f) (me := me) (mo := mo) h), CT.at 13 (ans13y (all := timesF 3 f) (me := me) (mo := mo) (n := n) (Int.le_refl mo)), CT.at 16 (ans16 (all := timesF 3 f) (me := me) (mo := mo))] (fun _ => LSpec.at lv5 [] (S51 ⟨f, me, n, mo, 0⟩) (O5 f me n mo)) false 119 [.tmp 8] (bodyOf Try.f5) (A5' f me n tries) [] =
  Tree.chk true (Tree.chk true (Tree.br (decide (timesF (3 : Int) f = (0 : Int))) (Tree.br (decide (timesF (3 : Int) f = (0 : Int))) (Tree.br true (Tree.leaf (Ans.mk (AV.v (Value.bool true))
    [])) (Tree.chk (cl (LeL [AV.v (Value.pointer none), AV.v (Value.int IntKind.i64 n)] [AV.ptr (0 : Nat) (0 : Nat), AV.v (Value.int IntKind.i64 n)] ∧ LeH [] [some (Blk.row [AV.v (Value.int
    IntKind.i64 (timesF (3 : Int) f)), AV.v (Value.int IntKind.i64 me), AV.v (Value.int IntKind.i64 (4 : Int)), AV.v (Value.int IntKind.i64 mo), AV.v (Value.slice none (0 : Nat) (0 :
    Nat))])])) (Tree.br false (Tree.leaf (Ans.mk (AV.v (Value.bool true)) [])) (Tree.chk (cl (LeL [AV.v (Value.int IntKind.i64 f), AV.v (Value.int IntKind.i64 me), AV.v (Value.int
    IntKind.i64 n), AV.v (Value.int IntKind.i64 (IntKind.wrap IntKind.i64 ((1 : Int) + Int.tmod (IntKind.wrap IntKind.i64 tries) (40 : Int)))), AV.v (Value.pointer none), AV.v (Value.int
    IntKind.u32 (0 : Int)), AV.v (Value.int IntKind.i64 (0 : Int)), AV.v (Value.bool false)] [AV.v (Value.int IntKind.i64 f), AV.v (Value.int IntKind.i64 me), AV.v (Value.int IntKind.i64 n),
    AV.v (Value.int IntKind.i64 mo), AV.ptr (0 : Nat) (0 : Nat), AV.v (Value.int IntKind.u32 (setF (timesF (3 : Int) f) me (0 : Nat))), AV.v (Value.int IntKind.i64 (↑(0 : Nat) : Int)),
    AV.any] ∧ LeH [] [some (Blk.row [AV.v (Value.int IntKind.i64 (timesF (3 : Int) f)), AV.v (Value.int IntKind.i64 me), AV.v (Value.int IntKind.i64 (4 : Int)), AV.v (Value.int IntKind.i64
    mo), AV.hs (1 : Nat) (0 : Nat) (1 : Nat)]), some (Blk.arr (2 : Nat) (1 : Nat) fun x => [AV.v (Value.int IntKind.i64 n), AV.v (Value.int IntKind.i64 (↑(0 : Nat) : Int))])])) (Tree.chk (cl
    (LeL [AV.ptr (0 : Nat) (0 : Nat)] [AV.ptr (0 : Nat) (0 : Nat)] ∧ LeH [some (Blk.row [AV.v (Value.int IntKind.i64 (timesF (3 : Int) f)), AV.v (Value.int IntKind.i64 me), AV.v (Value.int
    IntKind.i64 (4 : Int)), AV.v (Value.int IntKind.i64 mo), AV.hs (1 : Nat) (0 : Nat) (1 : Nat)]), some (Blk.arr (2 : Nat) (1 : Nat) fun x => [AV.v (Value.int IntKind.i64 n), AV.v
    (Value.int IntKind.i64 mo)])] [some (Blk.row [AV.v (Value.int IntKind.i64 (timesF (3 : Int) f)), AV.v (Value.int IntKind.i64 me), AV.v (Value.int IntKind.i64 (4 : Int)), AV.v (Value.int
    IntKind.i64 mo), AV.hs (1 : Nat) (0 : Nat) (1 : Nat)]), some (Blk.arr (2 : Nat) (1 : Nat) fun x => [AV.v (Value.int IntKind.i64 n), AV.v (Value.int IntKind.i64 mo)])])) (Tree.br true
    (Tree.chk (cl (LeL [AV.ptr (0 : Nat) (0 : Nat)] [AV.ptr (0 : Nat) (0 : Nat)] ∧ LeH [some (Blk.row [AV.v (Value.int IntKind.i64 (timesF (3 : Int) f)), AV.v (Value.int IntKind.i64 me),
    AV.v (Value.int IntKind.i64 (4 : Int)), AV.v (Value.int IntKind.i64 mo), AV.hs (1 : Nat) (0 : Nat) (0 : Nat)]), some (Blk.arr (2 : Nat) (1 : Nat) fun x => [AV.v (Value.int IntKind.i64 (0
    : Int)), AV.v (Value.int IntKind.i64 (0 : Int))])] [some (Blk.row [AV.v (Value.int IntKind.i64 (timesF (3 : Int) f)), AV.v (Value.int IntKind.i64 me), AV.v (Value.int IntKind.i64 (4 :
    Int)), AV.v (Value.int IntKind.i64 mo), AV.hs (1 : Nat) (0 : Nat) (0 : Nat)]), some (Blk.arr (2 : Nat) (1 : Nat) fun x => [AV.v (Value.int IntKind.i64 (0 : Int)), AV.v (Value.int
    IntKind.i64 (0 : Int))])])) (Tree.leaf (Ans.mk (AV.sb true) []))) (Tree.leaf (Ans.mk (AV.v (Value.bool false)) [])))))))) (Tree.br (decide (me < (0 : Int))) (Tree.br (decide (me < (0 :
    Int))) (Tree.br true (Tree.leaf (Ans.mk (AV.v (Value.bool true)) [])) (Tree.chk (cl (LeL [AV.v (Value.pointer none), AV.v (Value.int IntKind.i64 n)] [AV.ptr (0 : Nat) (0 : Nat), AV.v
    (Value.int IntKind.i64 n)] ∧ LeH [] [some (Blk.row [AV.v (Value.int IntKind.i64 (timesF (3 : Int) f)), AV.v (Value.int IntKind.i64 me), AV.v (Value.int IntKind.i64 (4 : Int)), AV.v
    (Value.int IntKind.i64 mo), AV.v (Value.slice none (0 : Nat) (0 : Nat))])])) (Tree.br false (Tree.leaf (Ans.mk (AV.v (Value.bool true)) [])) (Tree.chk (cl (LeL [AV.v (Value.int
    IntKind.i64 f), AV.v (Value.int IntKind.i64 me), AV.v (Value.int IntKind.i64 n), AV.v (Value.int IntKind.i64 (IntKind.wrap IntKind.i64 ((1 : Int) + Int.tmod (IntKind.wrap IntKind.i64
    tries) (40 : Int)))), AV.v (Value.pointer none), AV.v (Value.int IntKind.u32 (0 : Int)), AV.v (Value.int IntKind.i64 (0 : Int)), AV.v (Value.bool false)] [AV.v (Value.int IntKind.i64 f),
    AV.v (Value.int IntKind.i64 me), AV.v (Value.int IntKind.i64 n), AV.v (Value.int IntKind.i64 mo), AV.ptr (0 : Nat) (0 : Nat), AV.v (Value.int IntKind.u32 (setF (timesF (3 : Int) f) me (0
    : Nat))), AV.v (Value.int IntKind.i64 (↑(0 : Nat) : Int)), AV.any] ∧ LeH [] [some (Blk.row [AV.v (Value.int IntKind.i64 (timesF (3 : Int) f)), AV.v (Value.int IntKind.i64 me), AV.v
    (Value.int IntKind.i64 (4 : Int)), AV.v (Value.int IntKind.i64 mo), AV.hs (1 : Nat) (0 : Nat) (1 : Nat)]), some (Blk.arr (2 : Nat) (1 : Nat) fun x => [AV.v (Value.int IntKind.i64 n),
    AV.v (Value.int IntKind.i64 (↑(0 : Nat) : Int))])])) (Tree.chk (cl (LeL [AV.ptr (0 : Nat) (0 : Nat)] [AV.ptr (0 : Nat) (0 : Nat)] ∧ LeH [some (Blk.row [AV.v (Value.int IntKind.i64
    (timesF (3 : Int) f)), AV.v (Value.int IntKind.i64 me), AV.v (Value.int IntKind.i64 (4 : Int)), AV.v (Value.int IntKind.i64 mo), AV.hs (1 : Nat) (0 : Nat) (1 : Nat)]), some (Blk.arr (2 :
    Nat) (1 : Nat) fun x => [AV.v (Value.int IntKind.i64 n), AV.v (Value.int IntKind.i64 mo)])] [some (Blk.row [AV.v (Value.int IntKind.i64 (timesF (3 : Int) f)), AV.v (Value.int IntKind.i64
    me), AV.v (Value.int IntKind.i64 (4 : Int)), AV.v (Value.int IntKind.i64 mo), AV.hs (1 : Nat) (0 : Nat) (1 : Nat)]), some (Blk.arr (2 : Nat) (1 : Nat) fun x => [AV.v (Value.int
    IntKind.i64 n), AV.v (Value.int IntKind.i64 mo)])])) (Tree.br true (Tree.chk (cl (LeL [AV.ptr (0 : Nat) (0 : Nat)] [AV.ptr (0 : Nat) (0 : Nat)] ∧ LeH [some (Blk.row [AV.v (Value.int
    IntKind.i64 (timesF (3 : Int) f)), AV.v (Value.int IntKind.i64 me), AV.v (Value.int IntKind.i64 (4 : Int)), AV.v (Value.int IntKind.i64 mo), AV.hs (1 : Nat) (0 : Nat) (0 : Nat)]), some
    (Blk.arr (2 : Nat) (1 : Nat) fun x => [AV.v (Value.int IntKind.i64 (0 : Int)), AV.v (Value.int IntKind.i64 (0 : Int))])] [some (Blk.row [AV.v (Value.int IntKind.i64 (timesF (3 : Int)
    f)), AV.v (Value.int IntKind.i64 me), AV.v (Value.int IntKind.i64 (4 : Int)), AV.v (Value.int IntKind.i64 mo), AV.hs (1 : Nat) (0 : Nat) (0 : Nat)]), some (Blk.arr (2 : Nat) (1 : Nat)
    fun x => [AV.v (Value.int IntKind.i64 (0 : Int)), AV.v (Value.int IntKind.i64 (0 : Int))])])) (Tree.leaf (Ans.mk (AV.sb true) []))) (Tree.leaf (Ans.mk (AV.v (Value.bool false))
    [])))))))) (Tree.br false (Tree.leaf (Ans.mk (AV.v (Value.bool true)) [])) (Tree.chk (cl (LeL [AV.ptr (0 : Nat) (0 : Nat), AV.v (Value.int IntKind.i64 n)] [AV.ptr (0 : Nat) (0 : Nat),
    AV.v (Value.int IntKind.i64 n)] ∧ LeH [some (Blk.row [AV.v (Value.int IntKind.i64 (timesF (3 : Int) f)), AV.v (Value.int IntKind.i64 me), AV.v (Value.int IntKind.i64 (4 : Int)), AV.v
    (Value.int IntKind.i64 (IntKind.wrap IntKind.i64 ((1 : Int) + Int.tmod (IntKind.wrap IntKind.i64 tries) (40 : Int)))), AV.v (Value.slice none (0 : Nat) (0 : Nat))])] [some (Blk.row [AV.v
    (Value.int IntKind.i64 (timesF (3 : Int) f)), AV.v (Value.int IntKind.i64 me), AV.v (Value.int IntKind.i64 (4 : Int)), AV.v (Value.int IntKind.i64 mo), AV.v (Value.slice none (0 : Nat)
    (0 : Nat))])])) (Tree.br false (Tree.leaf (Ans.mk (AV.v (Value.bool true)) [])) (Tree.chk (cl (LeL [AV.v (Value.int IntKind.i64 f), AV.v (Value.int IntKind.i64 me), AV.v (Value.int
    IntKind.i64 n), AV.v (Value.int IntKind.i64 (IntKind.wrap IntKind.i64 ((1 : Int) + Int.tmod (IntKind.wrap IntKind.i64 tries) (40 : Int)))), AV.ptr (0 : Nat) (0 : Nat), AV.v (Value.int
    IntKind.u32 (0 : Int)), AV.v (Value.int IntKind.i64 (0 : Int)), AV.v (Value.bool false)] [AV.v (Value.int IntKind.i64 f), AV.v (Value.int IntKind.i64 me), AV.v (Value.int IntKind.i64 n),
    AV.v (Value.int IntKind.i64 mo), AV.ptr (0 : Nat) (0 : Nat), AV.v (Value.int IntKind.u32 (setF (timesF (3 : Int) f) me (0 : Nat))), AV.v (Value.int IntKind.i64 (↑(0 : Nat) : Int)),
    AV.any] ∧ LeH [some (Blk.row [AV.v (Value.int IntKind.i64 (timesF (3 : Int) f)), AV.v (Value.int IntKind.i64 me), AV.v (Value.int IntKind.i64 (4 : Int)), AV.v (Value.int IntKind.i64 mo),
    AV.hs (1 : Nat) (0 : Nat) (1 : Nat)]), some (Blk.arr (2 : Nat) (1 : Nat) fun x => [AV.v (Value.int IntKind.i64 n), AV.v (Value.int IntKind.i64 (0 : Int))])] [some (Blk.row [AV.v
    (Value.int IntKind.i64 (timesF (3 : Int) f)), AV.v (Value.int IntKind.i64 me), AV.v (Value.int IntKind.i64 (4 : Int)), AV.v (Value.int IntKind.i64 mo), AV.hs (1 : Nat) (0 : Nat) (1 :
    Nat)]), some (Blk.arr (2 : Nat) (1 : Nat) fun x => [AV.v (Value.int IntKind.i64 n), AV.v (Value.int IntKind.i64 (↑(0 : Nat) : Int))])])) (Tree.chk (cl (LeL [AV.ptr (0 : Nat) (0 : Nat)]
    [AV.ptr (0 : Nat) (0 : Nat)] ∧ LeH [some (Blk.row [AV.v (Value.int IntKind.i64 (timesF (3 : Int) f)), AV.v (Value.int IntKind.i64 me), AV.v (Value.int IntKind.i64 (4 : Int)), AV.v
    (Value.int IntKind.i64 mo), AV.hs (1 : Nat) (0 : Nat) (1 : Nat)]), some (Blk.arr (2 : Nat) (1 : Nat) fun x => [AV.v (Value.int IntKind.i64 n), AV.v (Value.int IntKind.i64 mo)])] [some
    (Blk.row [AV.v (Value.int IntKind.i64 (timesF (3 : Int) f)), AV.v (Value.int IntKind.i64 me), AV.v (Value.int IntKind.i64 (4 : Int)), AV.v (Value.int IntKind.i64 mo), AV.hs (1 : Nat) (0
    : Nat) (1 : Nat)]), some (Blk.arr (2 : Nat) (1 : Nat) fun x => [AV.v (Value.int IntKind.i64 n), AV.v (Value.int IntKind.i64 mo)])])) (Tree.br true (Tree.chk (cl (LeL [AV.ptr (0 : Nat) (0
    : Nat)] [AV.ptr (0 : Nat) (0 : Nat)] ∧ LeH [some (Blk.row [AV.v (Value.int IntKind.i64 (timesF (3 : Int) f)), AV.v (Value.int IntKind.i64 me), AV.v (Value.int IntKind.i64 (4 : Int)),
    AV.v (Value.int IntKind.i64 mo), AV.hs (1 : Nat) (0 : Nat) (0 : Nat)]), some (Blk.arr (2 : Nat) (1 : Nat) fun x => [AV.v (Value.int IntKind.i64 (0 : Int)), AV.v (Value.int IntKind.i64 (0
    : Int))])] [some (Blk.row [AV.v (Value.int IntKind.i64 (timesF (3 : Int) f)), AV.v (Value.int IntKind.i64 me), AV.v (Value.int IntKind.i64 (4 : Int)), AV.v (Value.int IntKind.i64 mo),
    AV.hs (1 : Nat) (0 : Nat) (0 : Nat)]), some (Blk.arr (2 : Nat) (1 : Nat) fun x => [AV.v (Value.int IntKind.i64 (0 : Int)), AV.v (Value.int IntKind.i64 (0 : Int))])])) (Tree.leaf (Ans.mk
    (AV.sb true) []))) (Tree.leaf (Ans.mk (AV.v (Value.bool false)) []))))))))) (Tree.br (decide (timesF (3 : Int) f ≤ me)) (Tree.br true (Tree.leaf (Ans.mk (AV.v (Value.bool true)) []))
    (Tree.chk (cl (LeL [AV.v (Value.pointer none), AV.v (Value.int IntKind.i64 n)] [AV.ptr (0 : Nat) (0 : Nat), AV.v (Value.int IntKind.i64 n)] ∧ LeH [] [some (Blk.row [AV.v (Value.int
    IntKind.i64 (timesF (3 : Int) f)), AV.v (Value.int IntKind.i64 me), AV.v (Value.int IntKind.i64 (4 : Int)), AV.v (Value.int IntKind.i64 mo), AV.v (Value.slice none (0 : Nat) (0 :
    Nat))])])) (Tree.br false (Tree.leaf (Ans.mk (AV.v (Value.bool true)) [])) (Tree.chk (cl (LeL [AV.v (Value.int IntKind.i64 f), AV.v (Value.int IntKind.i64 me), AV.v (Value.int
    IntKind.i64 n), AV.v (Value.int IntKind.i64 (IntKind.wrap IntKind.i64 ((1 : Int) + Int.tmod (IntKind.wrap IntKind.i64 tries) (40 : Int)))), AV.v (Value.pointer none), AV.v (Value.int
    IntKind.u32 (0 : Int)), AV.v (Value.int IntKind.i64 (0 : Int)), AV.v (Value.bool false)] [AV.v (Value.int IntKind.i64 f), AV.v (Value.int IntKind.i64 me), AV.v (Value.int IntKind.i64 n),
    AV.v (Value.int IntKind.i64 mo), AV.ptr (0 : Nat) (0 : Nat), AV.v (Value.int IntKind.u32 (setF (timesF (3 : Int) f) me (0 : Nat))), AV.v (Value.int IntKind.i64 (↑(0 : Nat) : Int)),
    AV.any] ∧ LeH [] [some (Blk.row [AV.v (Value.int IntKind.i64 (timesF (3 : Int) f)), AV.v (Value.int IntKind.i64 me), AV.v (Value.int IntKind.i64 (4 : Int)), AV.v (Value.int IntKind.i64
    mo), AV.hs (1 : Nat) (0 : Nat) (1 : Nat)]), some (Blk.arr (2 : Nat) (1 : Nat) fun x => [AV.v (Value.int IntKind.i64 n), AV.v (Value.int IntKind.i64 (↑(0 : Nat) : Int))])])) (Tree.chk (cl
    (LeL [AV.ptr (0 : Nat) (0 : Nat)] [AV.ptr (0 : Nat) (0 : Nat)] ∧ LeH [some (Blk.row [AV.v (Value.int IntKind.i64 (timesF (3 : Int) f)), AV.v (Value.int IntKind.i64 me), AV.v (Value.int
    IntKind.i64 (4 : Int)), AV.v (Value.int IntKind.i64 mo), AV.hs (1 : Nat) (0 : Nat) (1 : Nat)]), some (Blk.arr (2 : Nat) (1 : Nat) fun x => [AV.v (Value.int IntKind.i64 n), AV.v
    (Value.int IntKind.i64 mo)])] [some (Blk.row [AV.v (Value.int IntKind.i64 (timesF (3 : Int) f)), AV.v (Value.int IntKind.i64 me), AV.v (Value.int IntKind.i64 (4 : Int)), AV.v (Value.int
    IntKind.i64 mo), AV.hs (1 : Nat) (0 : Nat) (1 : Nat)]), some (Blk.arr (2 : Nat) (1 : Nat) fun x => [AV.v (Value.int IntKind.i64 n), AV.v (Value.int IntKind.i64 mo)])])) (Tree.br true
    (Tree.chk (cl (LeL [AV.ptr (0 : Nat) (0 : Nat)] [AV.ptr (0 : Nat) (0 : Nat)] ∧ LeH [some (Blk.row [AV.v (Value.int IntKind.i64 (timesF (3 : Int) f)), AV.v (Value.int IntKind.i64 me),
    AV.v (Value.int IntKind.i64 (4 : Int)), AV.v (Value.int IntKind.i64 mo), AV.hs (1 : Nat) (0 : Nat) (0 : Nat)]), some (Blk.arr (2 : Nat) (1 : Nat) fun x => [AV.v (Value.int IntKind.i64 (0
    : Int)), AV.v (Value.int IntKind.i64 (0 : Int))])] [some (Blk.row [AV.v (Value.int IntKind.i64 (timesF (3 : Int) f)), AV.v (Value.int IntKind.i64 me), AV.v (Value.int IntKind.i64 (4 :
    Int)), AV.v (Value.int IntKind.i64 mo), AV.hs (1 : Nat) (0 : Nat) (0 : Nat)]), some (Blk.arr (2 : Nat) (1 : Nat) fun x => [AV.v (Value.int IntKind.i64 (0 : Int)), AV.v (Value.int
    IntKind.i64 (0 : Int))])])) (Tree.leaf (Ans.mk (AV.sb true) []))) (Tree.leaf (Ans.mk (AV.v (Value.bool false)) [])))))))) (Tree.br false (Tree.leaf (Ans.mk (AV.v (Value.bool true)) []))
    (Tree.chk (cl (LeL [AV.ptr (0 : Nat) (0 : Nat), AV.v (Value.int IntKind.i64 n)] [AV.ptr (0 : Nat) (0 : Nat), AV.v (Value.int IntKind.i64 n)] ∧ LeH [some (Blk.row [AV.v (Value.int
    IntKind.i64 (timesF (3 : Int) f)), AV.v (Value.int IntKind.i64 me), AV.v (Value.int IntKind.i64 (4 : Int)), AV.v (Value.int IntKind.i64 (IntKind.wrap IntKind.i64 ((1 : Int) + Int.tmod
    (IntKind.wrap IntKind.i64 tries) (40 : Int)))), AV.v (Value.slice none (0 : Nat) (0 : Nat))])] [some (Blk.row [AV.v (Value.int IntKind.i64 (timesF (3 : Int) f)), AV.v (Value.int
    IntKind.i64 me), AV.v (Value.int IntKind.i64 (4 : Int)), AV.v (Value.int IntKind.i64 mo), AV.v (Value.slice none (0 : Nat) (0 : Nat))])])) (Tree.br false (Tree.leaf (Ans.mk (AV.v
    (Value.bool true)) [])) (Tree.chk (cl (LeL [AV.v (Value.int IntKind.i64 f), AV.v (Value.int IntKind.i64 me), AV.v (Value.int IntKind.i64 n), AV.v (Value.int IntKind.i64 (IntKind.wrap
    IntKind.i64 ((1 : Int) + Int.tmod (IntKind.wrap IntKind.i64 tries) (40 : Int)))), AV.ptr (0 : Nat) (0 : Nat), AV.v (Value.int IntKind.u32 (0 : Int)), AV.v (Value.int IntKind.i64 (0 :
    Int)), AV.v (Value.bool false)] [AV.v (Value.int IntKind.i64 f), AV.v (Value.int IntKind.i64 me), AV.v (Value.int IntKind.i64 n), AV.v (Value.int IntKind.i64 mo), AV.ptr (0 : Nat) (0 :
    Nat), AV.v (Value.int IntKind.u32 (setF (timesF (3 : Int) f) me (0 : Nat))), AV.v (Value.int IntKind.i64 (↑(0 : Nat) : Int)), AV.any] ∧ LeH [some (Blk.row [AV.v (Value.int IntKind.i64
    (timesF (3 : Int) f)), AV.v (Value.int IntKind.i64 me), AV.v (Value.int IntKind.i64 (4 : Int)), AV.v (Value.int IntKind.i64 mo), AV.hs (1 : Nat) (0 : Nat) (1 : Nat)]), some (Blk.arr (2 :
    Nat) (1 : Nat) fun x => [AV.v (Value.int IntKind.i64 n), AV.v (Value.int IntKind.i64 (0 : Int))])] [some (Blk.row [AV.v (Value.int IntKind.i64 (timesF (3 : Int) f)), AV.v (Value.int
    IntKind.i64 me), AV.v (Value.int IntKind.i64 (4 : Int)), AV.v (Value.int IntKind.i64 mo), AV.hs (1 : Nat) (0 : Nat) (1 : Nat)]), some (Blk.arr (2 : Nat) (1 : Nat) fun x => [AV.v
    (Value.int IntKind.i64 n), AV.v (Value.int IntKind.i64 (↑(0 : Nat) : Int))])])) (Tree.chk (cl (LeL [AV.ptr (0 : Nat) (0 : Nat)] [AV.ptr (0 : Nat) (0 : Nat)] ∧ LeH [some (Blk.row [AV.v
    (Value.int IntKind.i64 (timesF (3 : Int) f)), AV.v (Value.int IntKind.i64 me), AV.v (Value.int IntKind.i64 (4 : Int)), AV.v (Value.int IntKind.i64 mo), AV.hs (1 : Nat) (0 : Nat) (1 :
    Nat)]), some (Blk.arr (2 : Nat) (1 : Nat) fun x => [AV.v (Value.int IntKind.i64 n), AV.v (Value.int IntKind.i64 mo)])] [some (Blk.row [AV.v (Value.int IntKind.i64 (timesF (3 : Int) f)),
    AV.v (Value.int IntKind.i64 me), AV.v (Value.int IntKind.i64 (4 : Int)), AV.v (Value.int IntKind.i64 mo), AV.hs (1 : Nat) (0 : Nat) (1 : Nat)]), some (Blk.arr (2 : Nat) (1 : Nat) fun x
    => [AV.v (Value.int IntKind.i64 n), AV.v (Value.int IntKind.i64 mo)])])) (Tree.br true (Tree.chk (cl (LeL [AV.ptr (0 : Nat) (0 : Nat)] [AV.ptr (0 : Nat) (0 : Nat)] ∧ LeH [some (Blk.row
    [AV.v (Value.int IntKind.i64 (timesF (3 : Int) f)), AV.v (Value.int IntKind.i64 me), AV.v (Value.int IntKind.i64 (4 : Int)), AV.v (Value.int IntKind.i64 mo), AV.hs (1 : Nat) (0 : Nat) (0
    : Nat)]), some (Blk.arr (2 : Nat) (1 : Nat) fun x => [AV.v (Value.int IntKind.i64 (0 : Int)), AV.v (Value.int IntKind.i64 (0 : Int))])] [some (Blk.row [AV.v (Value.int IntKind.i64
    (timesF (3 : Int) f)), AV.v (Value.int IntKind.i64 me), AV.v (Value.int IntKind.i64 (4 : Int)), AV.v (Value.int IntKind.i64 mo), AV.hs (1 : Nat) (0 : Nat) (0 : Nat)]), some (Blk.arr (2 :
    Nat) (1 : Nat) fun x => [AV.v (Value.int IntKind.i64 (0 : Int)), AV.v (Value.int IntKind.i64 (0 : Int))])])) (Tree.leaf (Ans.mk (AV.sb true) []))) (Tree.leaf (Ans.mk (AV.v (Value.bool
    false)) []))))))))))) (Tree.br false (Tree.br false (Tree.br true (Tree.leaf (Ans.mk (AV.v (Value.bool true)) [])) (Tree.chk (cl (LeL [AV.v (Value.pointer none), AV.v (Value.int
    IntKind.i64 n)] [AV.ptr (0 : Nat) (0 : Nat), AV.v (Value.int IntKind.i64 n)] ∧ LeH [] [some (Blk.row [AV.v (Value.int IntKind.i64 (timesF (3 : Int) f)), AV.v (Value.int IntKind.i64 me),
    AV.v (Value.int IntKind.i64 (4 : Int)), AV.v (Value.int IntKind.i64 mo), AV.v (Value.slice none (0 : Nat) (0 : Nat))])])) (Tree.br false (Tree.leaf (Ans.mk (AV.v (Value.bool true)) []))
    (Tree.chk (cl (LeL [AV.v (Value.int IntKind.i64 f), AV.v (Value.int IntKind.i64 me), AV.v (Value.int IntKind.i64 n), AV.v (Value.int IntKind.i64 (IntKind.wrap IntKind.i64 ((1 : Int) +
    Int.tmod (IntKind.wrap IntKind.i64 tries) (40 : Int)))), AV.v (Value.pointer none), AV.v (Value.int IntKind.u32 (0 : Int)), AV.v (Value.int IntKind.i64 (0 : Int)), AV.v (Value.bool
    false)] [AV.v (Value.int IntKind.i64 f), AV.v (Value.int IntKind.i64 me), AV.v (Value.int IntKind.i64 n), AV.v (Value.int IntKind.i64 mo), AV.ptr (0 : Nat) (0 : Nat), AV.v (Value.int
    IntKind.u32 (setF (timesF (3 : Int) f) me (0 : Nat))), AV.v (Value.int IntKind.i64 (↑(0 : Nat) : Int)), AV.any] ∧ LeH [] [some (Blk.row [AV.v (Value.int IntKind.i64 (timesF (3 : Int)
    f)), AV.v (Value.int IntKind.i64 me), AV.v (Value.int IntKind.i64 (4 : Int)), AV.v (Value.int IntKind.i64 mo), AV.hs (1 : Nat) (0 : Nat) (1 : Nat)]), some (Blk.arr (2 : Nat) (1 : Nat)
    fun x => [AV.v (Value.int IntKind.i64 n), AV.v (Value.int IntKind.i64 (↑(0 : Nat) : Int))])])) (Tree.chk (cl (LeL [AV.ptr (0 : Nat) (0 : Nat)] [AV.ptr (0 : Nat) (0 : Nat)] ∧ LeH [some
    (Blk.row [AV.v (Value.int IntKind.i64 (timesF (3 : Int) f)), AV.v (Value.int IntKind.i64 me), AV.v (Value.int IntKind.i64 (4 : Int)), AV.v (Value.int IntKind.i64 mo), AV.hs (1 : Nat) (0
    : Nat) (1 : Nat)]), some (Blk.arr (2 : Nat) (1 : Nat) fun x => [AV.v (Value.int IntKind.i64 n), AV.v (Value.int IntKind.i64 mo)])] [some (Blk.row [AV.v (Value.int IntKind.i64 (timesF (3
    : Int) f)), AV.v (Value.int IntKind.i64 me), AV.v (Value.int IntKind.i64 (4 : Int)), AV.v (Value.int IntKind.i64 mo), AV.hs (1 : Nat) (0 : Nat) (1 : Nat)]), some (Blk.arr (2 : Nat) (1 :
    Nat) fun x => [AV.v (Value.int IntKind.i64 n), AV.v (Value.int IntKind.i64 mo)])])) (Tree.br true (Tree.chk (cl (LeL [AV.ptr (0 : Nat) (0 : Nat)] [AV.ptr (0 : Nat) (0 : Nat)] ∧ LeH [some
    (Blk.row [AV.v (Value.int IntKind.i64 (timesF (3 : Int) f)), AV.v (Value.int IntKind.i64 me), AV.v (Value.int IntKind.i64 (4 : Int)), AV.v (Value.int IntKind.i64 mo), AV.hs (1 : Nat) (0
    : Nat) (0 : Nat)]), some (Blk.arr (2 : Nat) (1 : Nat) fun x => [AV.v (Value.int IntKind.i64 (0 : Int)), AV.v (Value.int IntKind.i64 (0 : Int))])] [some (Blk.row [AV.v (Value.int
    IntKind.i64 (timesF (3 : Int) f)), AV.v (Value.int IntKind.i64 me), AV.v (Value.int IntKind.i64 (4 : Int)), AV.v (Value.int IntKind.i64 mo), AV.hs (1 : Nat) (0 : Nat) (0 : Nat)]), some
    (Blk.arr (2 : Nat) (1 : Nat) fun x => [AV.v (Value.int IntKind.i64 (0 : Int)), AV.v (Value.int IntKind.i64 (0 : Int))])])) (Tree.leaf (Ans.mk (AV.sb true) []))) (Tree.leaf (Ans.mk (AV.v
    (Value.bool false)) [])))))))) (Tree.br (decide (me < (0 : Int))) (Tree.br (decide (me < (0 : Int))) (Tree.br true (Tree.leaf (Ans.mk (AV.v (Value.bool true)) [])) (Tree.chk (cl (LeL
    [AV.v (Value.pointer none), AV.v (Value.int IntKind.i64 n)] [AV.ptr (0 : Nat) (0 : Nat), AV.v (Value.int IntKind.i64 n)] ∧ LeH [] [some (Blk.row [AV.v (Value.int IntKind.i64 (timesF (3 :
    Int) f)), AV.v (Value.int IntKind.i64 me), AV.v (Value.int IntKind.i64 (4 : Int)), AV.v (Value.int IntKind.i64 mo), AV.v (Value.slice none (0 : Nat) (0 : Nat))])])) (Tree.br false
    (Tree.leaf (Ans.mk (AV.v (Value.bool true)) [])) (Tree.chk (cl (LeL [AV.v (Value.int IntKind.i64 f), AV.v (Value.int IntKind.i64 me), AV.v (Value.int IntKind.i64 n), AV.v (Value.int
    IntKind.i64 (IntKind.wrap IntKind.i64 ((1 : Int) + Int.tmod (IntKind.wrap IntKind.i64 tries) (40 : Int)))), AV.v (Value.pointer none), AV.v (Value.int IntKind.u32 (0 : Int)), AV.v
    (Value.int IntKind.i64 (0 : Int)), AV.v (Value.bool false)] [AV.v (Value.int IntKind.i64 f), AV.v (Value.int IntKind.i64 me), AV.v (Value.int IntKind.i64 n), AV.v (Value.int IntKind.i64
    mo), AV.ptr (0 : Nat) (0 : Nat), AV.v (Value.int IntKind.u32 (setF (timesF (3 : Int) f) me (0 : Nat))), AV.v (Value.int IntKind.i64 (↑(0 : Nat) : Int)), AV.any] ∧ LeH [] [some (Blk.row
    [AV.v (Value.int IntKind.i64 (timesF (3 : Int) f)), AV.v (Value.int IntKind.i64 me), AV.v (Value.int IntKind.i64 (4 : Int)), AV.v (Value.int IntKind.i64 mo), AV.hs (1 : Nat) (0 : Nat) (1
    : Nat)]), some (Blk.arr (2 : Nat) (1 : Nat) fun x => [AV.v (Value.int IntKind.i64 n), AV.v (Value.int IntKind.i64 (↑(0 : Nat) : Int))])])) (Tree.chk (cl (LeL [AV.ptr (0 : Nat) (0 : Nat)]
    [AV.ptr (0 : Nat) (0 : Nat)] ∧ LeH [some (Blk.row [AV.v (Value.int IntKind.i64 (timesF (3 : Int) f)), AV.v (Value.int IntKind.i64 me), AV.v (Value.int IntKind.i64 (4 : Int)), AV.v
    (Value.int IntKind.i64 mo), AV.hs (1 : Nat) (0 : Nat) (1 : Nat)]), some (Blk.arr (2 : Nat) (1 : Nat) fun x => [AV.v (Value.int IntKind.i64 n), AV.v (Value.int IntKind.i64 mo)])] [some
    (Blk.row [AV.v (Value.int IntKind.i64 (timesF (3 : Int) f)), AV.v (Value.int IntKind.i64 me), AV.v (Value.int IntKind.i64 (4 : Int)), AV.v (Value.int IntKind.i64 mo), AV.hs (1 : Nat) (0
    : Nat) (1 : Nat)]), some (Blk.arr (2 : Nat) (1 : Nat) fun x => [AV.v (Value.int IntKind.i64 n), AV.v (Value.int IntKind.i64 mo)])])) (Tree.br true (Tree.chk (cl (LeL [AV.ptr (0 : Nat) (0
    : Nat)] [AV.ptr (0 : Nat) (0 : Nat)] ∧ LeH [some (Blk.row [AV.v (Value.int IntKind.i64 (timesF (3 : Int) f)), AV.v (Value.int IntKind.i64 me), AV.v (Value.int IntKind.i64 (4 : Int)),
    AV.v (Value.int IntKind.i64 mo), AV.hs (1 : Nat) (0 : Nat) (0 : Nat)]), some (Blk.arr (2 : Nat) (1 : Nat) fun x => [AV.v (Value.int IntKind.i64 (0 : Int)), AV.v (Value.int IntKind.i64 (0
    : Int))])] [some (Blk.row [AV.v (Value.int IntKind.i64 (timesF (3 : Int) f)), AV.v (Value.int IntKind.i64 me), AV.v (Value.int IntKind.i64 (4 : Int)), AV.v (Value.int IntKind.i64 mo),
    AV.hs (1 : Nat) (0 : Nat) (0 : Nat)]), some (Blk.arr (2 : Nat) (1 : Nat) fun x => [AV.v (Value.int IntKind.i64 (0 : Int)), AV.v (Value.int IntKind.i64 (0 : Int))])])) (Tree.leaf (Ans.mk
    (AV.sb true) []))) (Tree.leaf (Ans.mk (AV.v (Value.bool false)) [])))))))) (Tree.br false (Tree.leaf (Ans.mk (AV.v (Value.bool true)) [])) (Tree.chk (cl (LeL [AV.ptr (0 : Nat) (0 : Nat),
    AV.v (Value.int IntKind.i64 n)] [AV.ptr (0 : Nat) (0 : Nat), AV.v (Value.int IntKind.i64 n)] ∧ LeH [some (Blk.row [AV.v (Value.int IntKind.i64 (timesF (3 : Int) f)), AV.v (Value.int
    IntKind.i64 me), AV.v (Value.int IntKind.i64 (4 : Int)), AV.v (Value.int IntKind.i64 (IntKind.wrap IntKind.i64 ((1 : Int) + Int.tmod (IntKind.wrap IntKind.i64 tries) (40 : Int)))), AV.v
    (Value.slice none (0 : Nat) (0 : Nat))])] [some (Blk.row [AV.v (Value.int IntKind.i64 (timesF (3 : Int) f)), AV.v (Value.int IntKind.i64 me), AV.v (Value.int IntKind.i64 (4 : Int)), AV.v
    (Value.int IntKind.i64 mo), AV.v (Value.slice none (0 : Nat) (0 : Nat))])])) (Tree.br false (Tree.leaf (Ans.mk (AV.v (Value.bool true)) [])) (Tree.chk (cl (LeL [AV.v (Value.int
    IntKind.i64 f), AV.v (Value.int IntKind.i64 me), AV.v (Value.int IntKind.i64 n), AV.v (Value.int IntKind.i64 (IntKind.wrap IntKind.i64 ((1 : Int) + Int.tmod (IntKind.wrap IntKind.i64
    tries) (40 : Int)))), AV.ptr (0 : Nat) (0 : Nat), AV.v (Value.int IntKind.u32 (0 : Int)), AV.v (Value.int IntKind.i64 (0 : Int)), AV.v (Value.bool false)] [AV.v (Value.int IntKind.i64
    f), AV.v (Value.int IntKind.i64 me), AV.v (Value.int IntKind.i64 n), AV.v (Value.int IntKind.i64 mo), AV.ptr (0 : Nat) (0 : Nat), AV.v (Value.int IntKind.u32 (setF (timesF (3 : Int) f)
    me (0 : Nat))), AV.v (Value.int IntKind.i64 (↑(0 : Nat) : Int)), AV.any] ∧ LeH [some (Blk.row [AV.v (Value.int IntKind.i64 (timesF (3 : Int) f)), AV.v (Value.int IntKind.i64 me), AV.v
    (Value.int IntKind.i64 (4 : Int)), AV.v (Value.int IntKind.i64 mo), AV.hs (1 : Nat) (0 : Nat) (1 : Nat)]), some (Blk.arr (2 : Nat) (1 : Nat) fun x => [AV.v (Value.int IntKind.i64 n),
    AV.v (Value.int IntKind.i64 (0 : Int))])] [some (Blk.row [AV.v (Value.int IntKind.i64 (timesF (3 : Int) f)), AV.v (Value.int IntKind.i64 me), AV.v (Value.int IntKind.i64 (4 : Int)), AV.v
    (Value.int IntKind.i64 mo), AV.hs (1 : Nat) (0 : Nat) (1 : Nat)]), some (Blk.arr (2 : Nat) (1 : Nat) fun x => [AV.v (Value.int IntKind.i64 n), AV.v (Value.int IntKind.i64 (↑(0 : Nat) :
    Int))])])) (Tree.chk (cl (LeL [AV.ptr (0 : Nat) (0 : Nat)] [AV.ptr (0 : Nat) (0 : Nat)] ∧ LeH [some (Blk.row [AV.v (Value.int IntKind.i64 (timesF (3 : Int) f)), AV.v (Value.int
    IntKind.i64 me), AV.v (Value.int IntKind.i64 (4 : Int)), AV.v (Value.int IntKind.i64 mo), AV.hs (1 : Nat) (0 : Nat) (1 : Nat)]), some (Blk.arr (2 : Nat) (1 : Nat) fun x => [AV.v
    (Value.int IntKind.i64 n), AV.v (Value.int IntKind.i64 mo)])] [some (Blk.row [AV.v (Value.int IntKind.i64 (timesF (3 : Int) f)), AV.v (Value.int IntKind.i64 me), AV.v (Value.int
    IntKind.i64 (4 : Int)), AV.v (Value.int IntKind.i64 mo), AV.hs (1 : Nat) (0 : Nat) (1 : Nat)]), some (Blk.arr (2 : Nat) (1 : Nat) fun x => [AV.v (Value.int IntKind.i64 n), AV.v
    (Value.int IntKind.i64 mo)])])) (Tree.br true (Tree.chk (cl (LeL [AV.ptr (0 : Nat) (0 : Nat)] [AV.ptr (0 : Nat) (0 : Nat)] ∧ LeH [some (Blk.row [AV.v (Value.int IntKind.i64 (timesF (3 :
    Int) f)), AV.v (Value.int IntKind.i64 me), AV.v (Value.int IntKind.i64 (4 : Int)), AV.v (Value.int IntKind.i64 mo), AV.hs (1 : Nat) (0 : Nat) (0 : Nat)]), some (Blk.arr (2 : Nat) (1 :
    Nat) fun x => [AV.v (Value.int IntKind.i64 (0 : Int)), AV.v (Value.int IntKind.i64 (0 : Int))])] [some (Blk.row [AV.v (Value.int IntKind.i64 (timesF (3 : Int) f)), AV.v (Value.int
    IntKind.i64 me), AV.v (Value.int IntKind.i64 (4 : Int)), AV.v (Value.int IntKind.i64 mo), AV.hs (1 : Nat) (0 : Nat) (0 : Nat)]), some (Blk.arr (2 : Nat) (1 : Nat) fun x => [AV.v
    (Value.int IntKind.i64 (0 : Int)), AV.v (Value.int IntKind.i64 (0 : Int))])])) (Tree.leaf (Ans.mk (AV.sb true) []))) (Tree.leaf (Ans.mk (AV.v (Value.bool false)) []))))))))) (Tree.br
    (decide (timesF (3 : Int) f ≤ me)) (Tree.br true (Tree.leaf (Ans.mk (AV.v (Value.bool true)) [])) (Tree.chk (cl (LeL [AV.v (Value.pointer none), AV.v (Value.int IntKind.i64 n)] [AV.ptr
    (0 : Nat) (0 : Nat), AV.v (Value.int IntKind.i64 n)] ∧ LeH [] [some (Blk.row [AV.v (Value.int IntKind.i64 (timesF (3 : Int) f)), AV.v (Value.int IntKind.i64 me), AV.v (Value.int
    IntKind.i64 (4 : Int)), AV.v (Value.int IntKind.i64 mo), AV.v (Value.slice none (0 : Nat) (0 : Nat))])])) (Tree.br false (Tree.leaf (Ans.mk (AV.v (Value.bool true)) [])) (Tree.chk (cl
    (LeL [AV.v (Value.int IntKind.i64 f), AV.v (Value.int IntKind.i64 me), AV.v (Value.int IntKind.i64 n), AV.v (Value.int IntKind.i64 (IntKind.wrap IntKind.i64 ((1 : Int) + Int.tmod
    (IntKind.wrap IntKind.i64 tries) (40 : Int)))), AV.v (Value.pointer none), AV.v (Value.int IntKind.u32 (0 : Int)), AV.v (Value.int IntKind.i64 (0 : Int)), AV.v (Value.bool false)] [AV.v
    (Value.int IntKind.i64 f), AV.v (Value.int IntKind.i64 me), AV.v (Value.int IntKind.i64 n), AV.v (Value.int IntKind.i64 mo), AV.ptr (0 : Nat) (0 : Nat), AV.v (Value.int IntKind.u32 (setF
    (timesF (3 : Int) f) me (0 : Nat))), AV.v (Value.int IntKind.i64 (↑(0 : Nat) : Int)), AV.any] ∧ LeH [] [some (Blk.row [AV.v (Value.int IntKind.i64 (timesF (3 : Int) f)), AV.v (Value.int
    IntKind.i64 me), AV.v (Value.int IntKind.i64 (4 : Int)), AV.v (Value.int IntKind.i64 mo), AV.hs (1 : Nat) (0 : Nat) (1 : Nat)]), some (Blk.arr (2 : Nat) (1 : Nat) fun x => [AV.v
    (Value.int IntKind.i64 n), AV.v (Value.int IntKind.i64 (↑(0 : Nat) : Int))])])) (Tree.chk (cl (LeL [AV.ptr (0 : Nat) (0 : Nat)] [AV.ptr (0 : Nat) (0 : Nat)] ∧ LeH [some (Blk.row [AV.v
    (Value.int IntKind.i64 (timesF (3 : Int) f)), AV.v (Value.int IntKind.i64 me), AV.v (Value.int IntKind.i64 (4 : Int)), AV.v (Value.int IntKind.i64 mo), AV.hs (1 : Nat) (0 : Nat) (1 :
    Nat)]), some (Blk.arr (2 : Nat) (1 : Nat) fun x => [AV.v (Value.int IntKind.i64 n), AV.v (Value.int IntKind.i64 mo)])] [some (Blk.row [AV.v (Value.int IntKind.i64 (timesF (3 : Int) f)),
    AV.v (Value.int IntKind.i64 me), AV.v (Value.int IntKind.i64 (4 : Int)), AV.v (Value.int IntKind.i64 mo), AV.hs (1 : Nat) (0 : Nat) (1 : Nat)]), some (Blk.arr (2 : Nat) (1 : Nat) fun x
    => [AV.v (Value.int IntKind.i64 n), AV.v (Value.int IntKind.i64 mo)])])) (Tree.br true (Tree.chk (cl (LeL [AV.ptr (0 : Nat) (0 : Nat)] [AV.ptr (0 : Nat) (0 : Nat)] ∧ LeH [some (Blk.row
    [AV.v (Value.int IntKind.i64 (timesF (3 : Int) f)), AV.v (Value.int IntKind.i64 me), AV.v (Value.int IntKind.i64 (4 : Int)), AV.v (Value.int IntKind.i64 mo), AV.hs (1 : Nat) (0 : Nat) (0
    : Nat)]), some (Blk.arr (2 : Nat) (1 : Nat) fun x => [AV.v (Value.int IntKind.i64 (0 : Int)), AV.v (Value.int IntKind.i64 (0 : Int))])] [some (Blk.row [AV.v (Value.int IntKind.i64
    (timesF (3 : Int) f)), AV.v (Value.int IntKind.i64 me), AV.v (Value.int IntKind.i64 (4 : Int)), AV.v (Value.int IntKind.i64 mo), AV.hs (1 : Nat) (0 : Nat) (0 : Nat)]), some (Blk.arr (2 :
    Nat) (1 : Nat) fun x => [AV.v (Value.int IntKind.i64 (0 : Int)), AV.v (Value.int IntKind.i64 (0 : Int))])])) (Tree.leaf (Ans.mk (AV.sb true) []))) (Tree.leaf (Ans.mk (AV.v (Value.bool
    false)) [])))))))) (Tree.br false (Tree.leaf (Ans.mk (AV.v (Value.bool true)) [])) (Tree.chk (cl (LeL [AV.ptr (0 : Nat) (0 : Nat), AV.v (Value.int IntKind.i64 n)] [AV.ptr (0 : Nat) (0 :
    Nat), AV.v (Value.int IntKind.i64 n)] ∧ LeH [some (Blk.row [AV.v (Value.int IntKind.i64 (timesF (3 : Int) f)), AV.v (Value.int IntKind.i64 me), AV.v (Value.int IntKind.i64 (4 : Int)),
    AV.v (Value.int IntKind.i64 (IntKind.wrap IntKind.i64 ((1 : Int) + Int.tmod (IntKind.wrap IntKind.i64 tries) (40 : Int)))), AV.v (Value.slice none (0 : Nat) (0 : Nat))])] [some (Blk.row
    [AV.v (Value.int IntKind.i64 (timesF (3 : Int) f)), AV.v (Value.int IntKind.i64 me), AV.v (Value.int IntKind.i64 (4 : Int)), AV.v (Value.int IntKind.i64 mo), AV.v (Value.slice none (0 :
    Nat) (0 : Nat))])])) (Tree.br false (Tree.leaf (Ans.mk (AV.v (Value.bool true)) [])) (Tree.chk (cl (LeL [AV.v (Value.int IntKind.i64 f), AV.v (Value.int IntKind.i64 me), AV.v (Value.int
    IntKind.i64 n), AV.v (Value.int IntKind.i64 (IntKind.wrap IntKind.i64 ((1 : Int) + Int.tmod (IntKind.wrap IntKind.i64 tries) (40 : Int)))), AV.ptr (0 : Nat) (0 : Nat), AV.v (Value.int
    IntKind.u32 (0 : Int)), AV.v (Value.int IntKind.i64 (0 : Int)), AV.v (Value.bool false)] [AV.v (Value.int IntKind.i64 f), AV.v (Value.int IntKind.i64 me), AV.v (Value.int IntKind.i64 n),
    AV.v (Value.int IntKind.i64 mo), AV.ptr (0 : Nat) (0 : Nat), AV.v (Value.int IntKind.u32 (setF (timesF (3 : Int) f) me (0 : Nat))), AV.v (Value.int IntKind.i64 (↑(0 : Nat) : Int)),
    AV.any] ∧ LeH [some (Blk.row [AV.v (Value.int IntKind.i64 (timesF (3 : Int) f)), AV.v (Value.int IntKind.i64 me), AV.v (Value.int IntKind.i64 (4 : Int)), AV.v (Value.int IntKind.i64 mo),
    AV.hs (1 : Nat) (0 : Nat) (1 : Nat)]), some (Blk.arr (2 : Nat) (1 : Nat) fun x => [AV.v (Value.int IntKind.i64 n), AV.v (Value.int IntKind.i64 (0 : Int))])] [some (Blk.row [AV.v
    (Value.int IntKind.i64 (timesF (3 : Int) f)), AV.v (Value.int IntKind.i64 me), AV.v (Value.int IntKind.i64 (4 : Int)), AV.v (Value.int IntKind.i64 mo), AV.hs (1 : Nat) (0 : Nat) (1 :
    Nat)]), some (Blk.arr (2 : Nat) (1 : Nat) fun x => [AV.v (Value.int IntKind.i64 n), AV.v (Value.int IntKind.i64 (↑(0 : Nat) : Int))])])) (Tree.chk (cl (LeL [AV.ptr (0 : Nat) (0 : Nat)]
    [AV.ptr (0 : Nat) (0 : Nat)] ∧ LeH [some (Blk.row [AV.v (Value.int IntKind.i64 (timesF (3 : Int) f)), AV.v (Value.int IntKind.i64 me), AV.v (Value.int IntKind.i64 (4 : Int)), AV.v
    (Value.int IntKind.i64 mo), AV.hs (1 : Nat) (0 : Nat) (1 : Nat)]), some (Blk.arr (2 : Nat) (1 : Nat) fun x => [AV.v (Value.int IntKind.i64 n), AV.v (Value.int IntKind.i64 mo)])] [some
    (Blk.row [AV.v (Value.int IntKind.i64 (timesF (3 : Int) f)), AV.v (Value.int IntKind.i64 me), AV.v (Value.int IntKind.i64 (4 : Int)), AV.v (Value.int IntKind.i64 mo), AV.hs (1 : Nat) (0
    : Nat) (1 : Nat)]), some (Blk.arr (2 : Nat) (1 : Nat) fun x => [AV.v (Value.int IntKind.i64 n), AV.v (Value.int IntKind.i64 mo)])])) (Tree.br true (Tree.chk (cl (LeL [AV.ptr (0 : Nat) (0
    : Nat)] [AV.ptr (0 : Nat) (0 : Nat)] ∧ LeH [some (Blk.row [AV.v (Value.int IntKind.i64 (timesF (3 : Int) f)), AV.v (Value.int IntKind.i64 me), AV.v (Value.int IntKind.i64 (4 : Int)),
    AV.v (Value.int IntKind.i64 mo), AV.hs (1 : Nat) (0 : Nat) (0 : Nat)]), some (Blk.arr (2 : Nat) (1 : Nat) fun x => [AV.v (Value.int IntKind.i64 (0 : Int)), AV.v (Value.int IntKind.i64 (0
    : Int))])] [some (Blk.row [AV.v (Value.int IntKind.i64 (timesF (3 : Int) f)), AV.v (Value.int IntKind.i64 me), AV.v (Value.int IntKind.i64 (4 : Int)), AV.v (Value.int IntKind.i64 mo),
    AV.hs (1 : Nat) (0 : Nat) (0 : Nat)]), some (Blk.arr (2 : Nat) (1 : Nat) fun x => [AV.v (Value.int IntKind.i64 (0 : Int)), AV.v (Value.int IntKind.i64 (0 : Int))])])) (Tree.leaf (Ans.mk
    (AV.sb true) []))) (Tree.leaf (Ans.mk (AV.v (Value.bool false)) []))))))))))) (Tree.br false (Tree.br false (Tree.br true (Tree.leaf (Ans.mk (AV.v (Value.bool true)) [])) (Tree.chk (cl
    (LeL [AV.v (Value.pointer none), AV.v (Value.int IntKind.i64 n)] [AV.ptr (0 : Nat) (0 : Nat), AV.v (Value.int IntKind.i64 n)] ∧ LeH [] [some (Blk.row [AV.v (Value.int IntKind.i64 (timesF
    (3 : Int) f)), AV.v (Value.int IntKind.i64 me), AV.v (Value.int IntKind.i64 (4 : Int)), AV.v (Value.int IntKind.i64 mo), AV.v (Value.slice none (0 : Nat) (0 : Nat))])])) (Tree.br false
    (Tree.leaf (Ans.mk (AV.v (Value.bool true)) [])) (Tree.chk (cl (LeL [AV.v (Value.int IntKind.i64 f), AV.v (Value.int IntKind.i64 me), AV.v (Value.int IntKind.i64 n), AV.v (Value.int
    IntKind.i64 (IntKind.wrap IntKind.i64 ((1 : Int) + Int.tmod (IntKind.wrap IntKind.i64 tries) (40 : Int)))), AV.v (Value.pointer none), AV.v (Value.int IntKind.u32 (0 : Int)), AV.v
    (Value.int IntKind.i64 (0 : Int)), AV.v (Value.bool false)] [AV.v (Value.int IntKind.i64 f), AV.v (Value.int IntKind.i64 me), AV.v (Value.int IntKind.i64 n), AV.v (Value.int IntKind.i64
    mo), AV.ptr (0 : Nat) (0 : Nat), AV.v (Value.int IntKind.u32 (setF (timesF (3 : Int) f) me (0 : Nat))), AV.v (Value.int IntKind.i64 (↑(0 : Nat) : Int)), AV.any] ∧ LeH [] [some (Blk.row
    [AV.v (Value.int IntKind.i64 (timesF (3 : Int) f)), AV.v (Value.int IntKind.i64 me), AV.v (Value.int IntKind.i64 (4 : Int)), AV.v (Value.int IntKind.i64 mo), AV.hs (1 : Nat) (0 : Nat) (1
    : Nat)]), some (Blk.arr (2 : Nat) (1 : Nat) fun x => [AV.v (Value.int IntKind.i64 n), AV.v (Value.int IntKind.i64 (↑(0 : Nat) : Int))])])) (Tree.chk (cl (LeL [AV.ptr (0 : Nat) (0 : Nat)]
    [AV.ptr (0 : Nat) (0 : Nat)] ∧ LeH [some (Blk.row [AV.v (Value.int IntKind.i64 (timesF (3 : Int) f)), AV.v (Value.int IntKind.i64 me), AV.v (Value.int IntKind.i64 (4 : Int)), AV.v
    (Value.int IntKind.i64 mo), AV.hs (1 : Nat) (0 : Nat) (1 : Nat)]), some (Blk.arr (2 : Nat) (1 : Nat) fun x => [AV.v (Value.int IntKind.i64 n), AV.v (Value.int IntKind.i64 mo)])] [some
    (Blk.row [AV.v (Value.int IntKind.i64 (timesF (3 : Int) f)), AV.v (Value.int IntKind.i64 me), AV.v (Value.int IntKind.i64 (4 : Int)), AV.v (Value.int IntKind.i64 mo), AV.hs (1 : Nat) (0
    : Nat) (1 : Nat)]), some (Blk.arr (2 : Nat) (1 : Nat) fun x => [AV.v (Value.int IntKind.i64 n), AV.v (Value.int IntKind.i64 mo)])])) (Tree.br true (Tree.chk (cl (LeL [AV.ptr (0 : Nat) (0
    : Nat)] [AV.ptr (0 : Nat) (0 : Nat)] ∧ LeH [some (Blk.row [AV.v (Value.int IntKind.i64 (timesF (3 : Int) f)), AV.v (Value.int IntKind.i64 me), AV.v (Value.int IntKind.i64 (4 : Int)),
    AV.v (Value.int IntKind.i64 mo), AV.hs (1 : Nat) (0 : Nat) (0 : Nat)]), some (Blk.arr (2 : Nat) (1 : Nat) fun x => [AV.v (Value.int IntKind.i64 (0 : Int)), AV.v (Value.int IntKind.i64 (0
    : Int))])] [some (Blk.row [AV.v (Value.int IntKind.i64 (timesF (3 : Int) f)), AV.v (Value.int IntKind.i64 me), AV.v (Value.int IntKind.i64 (4 : Int)), AV.v (Value.int IntKind.i64 mo),
    AV.hs (1 : Nat) (0 : Nat) (0 : Nat)]), some (Blk.arr (2 : Nat) (1 : Nat) fun x => [AV.v (Value.int IntKind.i64 (0 : Int)), AV.v (Value.int IntKind.i64 (0 : Int))])])) (Tree.leaf (Ans.mk
    (AV.sb true) []))) (Tree.leaf (Ans.mk (AV.v (Value.bool false)) [])))))))) (Tree.br (decide (me < (0 : Int))) (Tree.br (decide (me < (0 : Int))) (Tree.br true (Tree.leaf (Ans.mk (AV.v
    (Value.bool true)) [])) (Tree.chk (cl (LeL [AV.v (Value.pointer none), AV.v (Value.int IntKind.i64 n)] [AV.ptr (0 : Nat) (0 : Nat), AV.v (Value.int IntKind.i64 n)] ∧ LeH [] [some
    (Blk.row [AV.v (Value.int IntKind.i64 (timesF (3 : Int) f)), AV.v (Value.int IntKind.i64 me), AV.v (Value.int IntKind.i64 (4 : Int)), AV.v (Value.int IntKind.i64 mo), AV.v (Value.slice
    none (0 : Nat) (0 : Nat))])])) (Tree.br false (Tree.leaf (Ans.mk (AV.v (Value.bool true)) [])) (Tree.chk (cl (LeL [AV.v (Value.int IntKind.i64 f), AV.v (Value.int IntKind.i64 me), AV.v
    (Value.int IntKind.i64 n), AV.v (Value.int IntKind.i64 (IntKind.wrap IntKind.i64 ((1 : Int) + Int.tmod (IntKind.wrap IntKind.i64 tries) (40 : Int)))), AV.v (Value.pointer none), AV.v
    (Value.int IntKind.u32 (0 : Int)), AV.v (Value.int IntKind.i64 (0 : Int)), AV.v (Value.bool false)] [AV.v (Value.int IntKind.i64 f), AV.v (Value.int IntKind.i64 me), AV.v (Value.int
    IntKind.i64 n), AV.v (Value.int IntKind.i64 mo), AV.ptr (0 : Nat) (0 : Nat), AV.v (Value.int IntKind.u32 (setF (timesF (3 : Int) f) me (0 : Nat))), AV.v (Value.int IntKind.i64 (↑(0 :
    Nat) : Int)), AV.any] ∧ LeH [] [some (Blk.row [AV.v (Value.int IntKind.i64 (timesF (3 : Int) f)), AV.v (Value.int IntKind.i64 me), AV.v (Value.int IntKind.i64 (4 : Int)), AV.v (Value.int
    IntKind.i64 mo), AV.hs (1 : Nat) (0 : Nat) (1 : Nat)]), some (Blk.arr (2 : Nat) (1 : Nat) fun x => [AV.v (Value.int IntKind.i64 n), AV.v (Value.int IntKind.i64 (↑(0 : Nat) : Int))])]))
    (Tree.chk (cl (LeL [AV.ptr (0 : Nat) (0 : Nat)] [AV.ptr (0 : Nat) (0 : Nat)] ∧ LeH [some (Blk.row [AV.v (Value.int IntKind.i64 (timesF (3 : Int) f)), AV.v (Value.int IntKind.i64 me),
    AV.v (Value.int IntKind.i64 (4 : Int)), AV.v (Value.int IntKind.i64 mo), AV.hs (1 : Nat) (0 : Nat) (1 : Nat)]), some (Blk.arr (2 : Nat) (1 : Nat) fun x => [AV.v (Value.int IntKind.i64
    n), AV.v (Value.int IntKind.i64 mo)])] [some (Blk.row [AV.v (Value.int IntKind.i64 (timesF (3 : Int) f)), AV.v (Value.int IntKind.i64 me), AV.v (Value.int IntKind.i64 (4 : Int)), AV.v
    (Value.int IntKind.i64 mo), AV.hs (1 : Nat) (0 : Nat) (1 : Nat)]), some (Blk.arr (2 : Nat) (1 : Nat) fun x => [AV.v (Value.int IntKind.i64 n), AV.v (Value.int IntKind.i64 mo)])]))
    (Tree.br true (Tree.chk (cl (LeL [AV.ptr (0 : Nat) (0 : Nat)] [AV.ptr (0 : Nat) (0 : Nat)] ∧ LeH [some (Blk.row [AV.v (Value.int IntKind.i64 (timesF (3 : Int) f)), AV.v (Value.int
    IntKind.i64 me), AV.v (Value.int IntKind.i64 (4 : Int)), AV.v (Value.int IntKind.i64 mo), AV.hs (1 : Nat) (0 : Nat) (0 : Nat)]), some (Blk.arr (2 : Nat) (1 : Nat) fun x => [AV.v
    (Value.int IntKind.i64 (0 : Int)), AV.v (Value.int IntKind.i64 (0 : Int))])] [some (Blk.row [AV.v (Value.int IntKind.i64 (timesF (3 : Int) f)), AV.v (Value.int IntKind.i64 me), AV.v
    (Value.int IntKind.i64 (4 : Int)), AV.v (Value.int IntKind.i64 mo), AV.hs (1 : Nat) (0 : Nat) (0 : Nat)]), some (Blk.arr (2 : Nat) (1 : Nat) fun x => [AV.v (Value.int IntKind.i64 (0 :
    Int)), AV.v (Value.int IntKind.i64 (0 : Int))])])) (Tree.leaf (Ans.mk (AV.sb true) []))) (Tree.leaf (Ans.mk (AV.v (Value.bool false)) [])))))))) (Tree.br false (Tree.leaf (Ans.mk (AV.v
    (Value.bool true)) [])) (Tree.chk (cl (LeL [AV.ptr (0 : Nat) (0 : Nat), AV.v (Value.int IntKind.i64 n)] [AV.ptr (0 : Nat) (0 : Nat), AV.v (Value.int IntKind.i64 n)] ∧ LeH [some (Blk.row
    [AV.v (Value.int IntKind.i64 (timesF (3 : Int) f)), AV.v (Value.int IntKind.i64 me), AV.v (Value.int IntKind.i64 (4 : Int)), AV.v (Value.int IntKind.i64 (IntKind.wrap IntKind.i64 ((1 :
    Int) + Int.tmod (IntKind.wrap IntKind.i64 tries) (40 : Int)))), AV.v (Value.slice none (0 : Nat) (0 : Nat))])] [some (Blk.row [AV.v (Value.int IntKind.i64 (timesF (3 : Int) f)), AV.v
    (Value.int IntKind.i64 me), AV.v (Value.int IntKind.i64 (4 : Int)), AV.v (Value.int IntKind.i64 mo), AV.v (Value.slice none (0 : Nat) (0 : Nat))])])) (Tree.br false (Tree.leaf (Ans.mk
    (AV.v (Value.bool true)) [])) (Tree.chk (cl (LeL [AV.v (Value.int IntKind.i64 f), AV.v (Value.int IntKind.i64 me), AV.v (Value.int IntKind.i64 n), AV.v (Value.int IntKind.i64
    (IntKind.wrap IntKind.i64 ((1 : Int) + Int.tmod (IntKind.wrap IntKind.i64 tries) (40 : Int)))), AV.ptr (0 : Nat) (0 : Nat), AV.v (Value.int IntKind.u32 (0 : Int)), AV.v (Value.int
    IntKind.i64 (0 : Int)), AV.v (Value.bool false)] [AV.v (Value.int IntKind.i64 f), AV.v (Value.int IntKind.i64 me), AV.v (Value.int IntKind.i64 n), AV.v (Value.int IntKind.i64 mo), AV.ptr
    (0 : Nat) (0 : Nat), AV.v (Value.int IntKind.u32 (setF (timesF (3 : Int) f) me (0 : Nat))), AV.v (Value.int IntKind.i64 (↑(0 : Nat) : Int)), AV.any] ∧ LeH [some (Blk.row [AV.v (Value.int
    IntKind.i64 (timesF (3 : Int) f)), AV.v (Value.int IntKind.i64 me), AV.v (Value.int IntKind.i64 (4 : Int)), AV.v (Value.int IntKind.i64 mo), AV.hs (1 : Nat) (0 : Nat) (1 : Nat)]), some
    (Blk.arr (2 : Nat) (1 : Nat) fun x => [AV.v (Value.int IntKind.i64 n), AV.v (Value.int IntKind.i64 (0 : Int))])] [some (Blk.row [AV.v (Value.int IntKind.i64 (timesF (3 : Int) f)), AV.v
    (Value.int IntKind.i64 me), AV.v (Value.int IntKind.i64 (4 : Int)), AV.v (Value.int IntKind.i64 mo), AV.hs (1 : Nat) (0 : Nat) (1 : Nat)]), some (Blk.arr (2 : Nat) (1 : Nat) fun x =>
    [AV.v (Value.int IntKind.i64 n), AV.v (Value.int IntKind.i64 (↑(0 : Nat) : Int))])])) (Tree.chk (cl (LeL [AV.ptr (0 : Nat) (0 : Nat)] [AV.ptr (0 : Nat) (0 : Nat)] ∧ LeH [some (Blk.row
    [AV.v (Value.int IntKind.i64 (timesF (3 : Int) f)), AV.v (Value.int IntKind.i64 me), AV.v (Value.int IntKind.i64 (4 : Int)), AV.v (Value.int IntKind.i64 mo), AV.hs (1 : Nat) (0 : Nat) (1
    : Nat)]), some (Blk.arr (2 : Nat) (1 : Nat) fun x => [AV.v (Value.int IntKind.i64 n), AV.v (Value.int IntKind.i64 mo)])] [some (Blk.row [AV.v (Value.int IntKind.i64 (timesF (3 : Int)
    f)), AV.v (Value.int IntKind.i64 me), AV.v (Value.int IntKind.i64 (4 : Int)), AV.v (Value.int IntKind.i64 mo), AV.hs (1 : Nat) (0 : Nat) (1 : Nat)]), some (Blk.arr (2 : Nat) (1 : Nat)
    fun x => [AV.v (Value.int IntKind.i64 n), AV.v (Value.int IntKind.i64 mo)])])) (Tree.br true (Tree.chk (cl (LeL [AV.ptr (0 : Nat) (0 : Nat)] [AV.ptr (0 : Nat) (0 : Nat)] ∧ LeH [some
    (Blk.row [AV.v (Value.int IntKind.i64 (timesF (3 : Int) f)), AV.v (Value.int IntKind.i64 me), AV.v (Value.int IntKind.i64 (4 : Int)), AV.v (Value.int IntKind.i64 mo), AV.hs (1 : Nat) (0
    : Nat) (0 : Nat)]), some (Blk.arr (2 : Nat) (1 : Nat) fun x => [AV.v (Value.int IntKind.i64 (0 : Int)), AV.v (Value.int IntKind.i64 (0 : Int))])] [some (Blk.row [AV.v (Value.int
    IntKind.i64 (timesF (3 : Int) f)), AV.v (Value.int IntKind.i64 me), AV.v (Value.int IntKind.i64 (4 : Int)), AV.v (Value.int IntKind.i64 mo), AV.hs (1 : Nat) (0 : Nat) (0 : Nat)]), some
    (Blk.arr (2 : Nat) (1 : Nat) fun x => [AV.v (Value.int IntKind.i64 (0 : Int)), AV.v (Value.int IntKind.i64 (0 : Int))])])) (Tree.leaf (Ans.mk (AV.sb true) []))) (Tree.leaf (Ans.mk (AV.v
    (Value.bool false)) []))))))))) (Tree.br (decide (timesF (3 : Int) f ≤ me)) (Tree.br true (Tree.leaf (Ans.mk (AV.v (Value.bool true)) [])) (Tree.chk (cl (LeL [AV.v (Value.pointer none),
    AV.v (Value.int IntKind.i64 n)] [AV.ptr (0 : Nat) (0 : Nat), AV.v (Value.int IntKind.i64 n)] ∧ LeH [] [some (Blk.row [AV.v (Value.int IntKind.i64 (timesF (3 : Int) f)), AV.v (Value.int
    IntKind.i64 me), AV.v (Value.int IntKind.i64 (4 : Int)), AV.v (Value.int IntKind.i64 mo), AV.v (Value.slice none (0 : Nat) (0 : Nat))])])) (Tree.br false (Tree.leaf (Ans.mk (AV.v
    (Value.bool true)) [])) (Tree.chk (cl (LeL [AV.v (Value.int IntKind.i64 f), AV.v (Value.int IntKind.i64 me), AV.v (Value.int IntKind.i64 n), AV.v (Value.int IntKind.i64 (IntKind.wrap
    IntKind.i64 ((1 : Int) + Int.tmod (IntKind.wrap IntKind.i64 tries) (40 : Int)))), AV.v (Value.pointer none), AV.v (Value.int IntKind.u32 (0 : Int)), AV.v (Value.int IntKind.i64 (0 :
    Int)), AV.v (Value.bool false)] [AV.v (Value.int IntKind.i64 f), AV.v (Value.int IntKind.i64 me), AV.v (Value.int IntKind.i64 n), AV.v (Value.int IntKind.i64 mo), AV.ptr (0 : Nat) (0 :
    Nat), AV.v (Value.int IntKind.u32 (setF (timesF (3 : Int) f) me (0 : Nat))), AV.v (Value.int IntKind.i64 (↑(0 : Nat) : Int)), AV.any] ∧ LeH [] [some (Blk.row [AV.v (Value.int IntKind.i64
    (timesF (3 : Int) f)), AV.v (Value.int IntKind.i64 me), AV.v (Value.int IntKind.i64 (4 : Int)), AV.v (Value.int IntKind.i64 mo), AV.hs (1 : Nat) (0 : Nat) (1 : Nat)]), some (Blk.arr (2 :
    Nat) (1 : Nat) fun x => [AV.v (Value.int IntKind.i64 n), AV.v (Value.int IntKind.i64 (↑(0 : Nat) : Int))])])) (Tree.chk (cl (LeL [AV.ptr (0 : Nat) (0 : Nat)] [AV.ptr (0 : Nat) (0 : Nat)]
    ∧ LeH [some (Blk.row [AV.v (Value.int IntKind.i64 (timesF (3 : Int) f)), AV.v (Value.int IntKind.i64 me), AV.v (Value.int IntKind.i64 (4 : Int)), AV.v (Value.int IntKind.i64 mo), AV.hs
    (1 : Nat) (0 : Nat) (1 : Nat)]), some (Blk.arr (2 : Nat) (1 : Nat) fun x => [AV.v (Value.int IntKind.i64 n), AV.v (Value.int IntKind.i64 mo)])] [some (Blk.row [AV.v (Value.int
    IntKind.i64 (timesF (3 : Int) f)), AV.v (Value.int IntKind.i64 me), AV.v (Value.int IntKind.i64 (4 : Int)), AV.v (Value.int IntKind.i64 mo), AV.hs (1 : Nat) (0 : Nat) (1 : Nat)]), some
    (Blk.arr (2 : Nat) (1 : Nat) fun x => [AV.v (Value.int IntKind.i64 n), AV.v (Value.int IntKind.i64 mo)])])) (Tree.br true (Tree.chk (cl (LeL [AV.ptr (0 : Nat) (0 : Nat)] [AV.ptr (0 :
    Nat) (0 : Nat)] ∧ LeH [some (Blk.row [AV.v (Value.int IntKind.i64 (timesF (3 : Int) f)), AV.v (Value.int IntKind.i64 me), AV.v (Value.int IntKind.i64 (4 : Int)), AV.v (Value.int
    IntKind.i64 mo), AV.hs (1 : Nat) (0 : Nat) (0 : Nat)]), some (Blk.arr (2 : Nat) (1 : Nat) fun x => [AV.v (Value.int IntKind.i64 (0 : Int)), AV.v (Value.int IntKind.i64 (0 : Int))])]
    [some (Blk.row [AV.v (Value.int IntKind.i64 (timesF (3 : Int) f)), AV.v (Value.int IntKind.i64 me), AV.v (Value.int IntKind.i64 (4 : Int)), AV.v (Value.int IntKind.i64 mo), AV.hs (1 :
    Nat) (0 : Nat) (0 : Nat)]), some (Blk.arr (2 : Nat) (1 : Nat) fun x => [AV.v (Value.int IntKind.i64 (0 : Int)), AV.v (Value.int IntKind.i64 (0 : Int))])])) (Tree.leaf (Ans.mk (AV.sb
    true) []))) (Tree.leaf (Ans.mk (AV.v (Value.bool false)) [])))))))) (Tree.br false (Tree.leaf (Ans.mk (AV.v (Value.bool true)) [])) (Tree.chk (cl (LeL [AV.ptr (0 : Nat) (0 : Nat), AV.v
    (Value.int IntKind.i64 n)] [AV.ptr (0 : Nat) (0 : Nat), AV.v (Value.int IntKind.i64 n)] ∧ LeH [some (Blk.row [AV.v (Value.int IntKind.i64 (timesF (3 : Int) f)), AV.v (Value.int
    IntKind.i64 me), AV.v (Value.int IntKind.i64 (4 : Int)), AV.v (Value.int IntKind.i64 (IntKind.wrap IntKind.i64 ((1 : Int) + Int.tmod (IntKind.wrap IntKind.i64 tries) (40 : Int)))), AV.v
    (Value.slice none (0 : Nat) (0 : Nat))])] [some (Blk.row [AV.v (Value.int IntKind.i64 (timesF (3 : Int) f)), AV.v (Value.int IntKind.i64 me), AV.v (Value.int IntKind.i64 (4 : Int)), AV.v
    (Value.int IntKind.i64 mo), AV.v (Value.slice none (0 : Nat) (0 : Nat))])])) (Tree.br false (Tree.leaf (Ans.mk (AV.v (Value.bool true)) [])) (Tree.chk (cl (LeL [AV.v (Value.int
    IntKind.i64 f), AV.v (Value.int IntKind.i64 me), AV.v (Value.int IntKind.i64 n), AV.v (Value.int IntKind.i64 (IntKind.wrap IntKind.i64 ((1 : Int) + Int.tmod (IntKind.wrap IntKind.i64
    tries) (40 : Int)))), AV.ptr (0 : Nat) (0 : Nat), AV.v (Value.int IntKind.u32 (0 : Int)), AV.v (Value.int IntKind.i64 (0 : Int)), AV.v (Value.bool false)] [AV.v (Value.int IntKind.i64
    f), AV.v (Value.int IntKind.i64 me), AV.v (Value.int IntKind.i64 n), AV.v (Value.int IntKind.i64 mo), AV.ptr (0 : Nat) (0 : Nat), AV.v (Value.int IntKind.u32 (setF (timesF (3 : Int) f)
    me (0 : Nat))), AV.v (Value.int IntKind.i64 (↑(0 : Nat) : Int)), AV.any] ∧ LeH [some (Blk.row [AV.v (Value.int IntKind.i64 (timesF (3 : Int) f)), AV.v (Value.int IntKind.i64 me), AV.v
    (Value.int IntKind.i64 (4 : Int)), AV.v (Value.int IntKind.i64 mo), AV.hs (1 : Nat) (0 : Nat) (1 : Nat)]), some (Blk.arr (2 : Nat) (1 : Nat) fun x => [AV.v (Value.int IntKind.i64 n),
    AV.v (Value.int IntKind.i64 (0 : Int))])] [some (Blk.row [AV.v (Value.int IntKind.i64 (timesF (3 : Int) f)), AV.v (Value.int IntKind.i64 me), AV.v (Value.int IntKind.i64 (4 : Int)), AV.v
    (Value.int IntKind.i64 mo), AV.hs (1 : Nat) (0 : Nat) (1 : Nat)]), some (Blk.arr (2 : Nat) (1 : Nat) fun x => [AV.v (Value.int IntKind.i64 n), AV.v (Value.int IntKind.i64 (↑(0 : Nat) :
    Int))])])) (Tree.chk (cl (LeL [AV.ptr (0 : Nat) (0 : Nat)] [AV.ptr (0 : Nat) (0 : Nat)] ∧ LeH [some (Blk.row [AV.v (Value.int IntKind.i64 (timesF (3 : Int) f)), AV.v (Value.int
    IntKind.i64 me), AV.v (Value.int IntKind.i64 (4 : Int)), AV.v (Value.int IntKind.i64 mo), AV.hs (1 : Nat) (0 : Nat) (1 : Nat)]), some (Blk.arr (2 : Nat) (1 : Nat) fun x => [AV.v
    (Value.int IntKind.i64 n), AV.v (Value.int IntKind.i64 mo)])] [some (Blk.row [AV.v (Value.int IntKind.i64 (timesF (3 : Int) f)), AV.v (Value.int IntKind.i64 me), AV.v (Value.int
    IntKind.i64 (4 : Int)), AV.v (Value.int IntKind.i64 mo), AV.hs (1 : Nat) (0 : Nat) (1 : Nat)]), some (Blk.arr (2 : Nat) (1 : Nat) fun x => [AV.v (Value.int IntKind.i64 n), AV.v
    (Value.int IntKind.i64 mo)])])) (Tree.br true (Tree.chk (cl (LeL [AV.ptr (0 : Nat) (0 : Nat)] [AV.ptr (0 : Nat) (0 : Nat)] ∧ LeH [some (Blk.row [AV.v (Value.int IntKind.i64 (timesF (3 :
    Int) f)), AV.v (Value.int IntKind.i64 me), AV.v (Value.int IntKind.i64 (4 : Int)), AV.v (Value.int IntKind.i64 mo), AV.hs (1 : Nat) (0 : Nat) (0 : Nat)]), some (Blk.arr (2 : Nat) (1 :
    Nat) fun x => [AV.v (Value.int IntKind.i64 (0 : Int)), AV.v (Value.int IntKind.i64 (0 : Int))])] [some (Blk.row [AV.v (Value.int IntKind.i64 (timesF (3 : Int) f)), AV.v (Value.int
    IntKind.i64 me), AV.v (Value.int IntKind.i64 (4 : Int)), AV.v (Value.int IntKind.i64 mo), AV.hs (1 : Nat) (0 : Nat) (0 : Nat)]), some (Blk.arr (2 : Nat) (1 : Nat) fun x => [AV.v
    (Value.int IntKind.i64 (0 : Int)), AV.v (Value.int IntKind.i64 (0 : Int))])])) (Tree.leaf (Ans.mk (AV.sb true) []))) (Tree.leaf (Ans.mk (AV.v (Value.bool false)) []))))))))))) (Tree.br
    (decide (IntKind.wrap IntKind.i64 ((1 : Int) + Int.tmod (IntKind.wrap IntKind.i64 tries) (40 : Int)) < (1 : Int))) (Tree.br true (Tree.leaf (Ans.mk (AV.v (Value.bool true)) []))
    (Tree.chk (cl (LeL [AV.v (Value.pointer none), AV.v (Value.int IntKind.i64 n)] [AV.ptr (0 : Nat) (0 : Nat), AV.v (Value.int IntKind.i64 n)] ∧ LeH [] [some (Blk.row [AV.v (Value.int
    IntKind.i64 (timesF (3 : Int) f)), AV.v (Value.int IntKind.i64 me), AV.v (Value.int IntKind.i64 (4 : Int)), AV.v (Value.int IntKind.i64 mo), AV.v (Value.slice none (0 : Nat) (0 :
    Nat))])])) (Tree.br false (Tree.leaf (Ans.mk (AV.v (Value.bool true)) [])) (Tree.chk (cl (LeL [AV.v (Value.int IntKind.i64 f), AV.v (Value.int IntKind.i64 me), AV.v (Value.int
    IntKind.i64 n), AV.v (Value.int IntKind.i64 (IntKind.wrap IntKind.i64 ((1 : Int) + Int.tmod (IntKind.wrap IntKind.i64 tries) (40 : Int)))), AV.v (Value.pointer none), AV.v (Value.int
    IntKind.u32 (0 : Int)), AV.v (Value.int IntKind.i64 (0 : Int)), AV.v (Value.bool false)] [AV.v (Value.int IntKind.i64 f), AV.v (Value.int IntKind.i64 me), AV.v (Value.int IntKind.i64 n),
    AV.v (Value.int IntKind.i64 mo), AV.ptr (0 : Nat) (0 : Nat), AV.v (Value.int IntKind.u32 (setF (timesF (3 : Int) f) me (0 : Nat))), AV.v (Value.int IntKind.i64 (↑(0 : Nat) : Int)),
    AV.any] ∧ LeH [] [some (Blk.row [AV.v (Value.int IntKind.i64 (timesF (3 : Int) f)), AV.v (Value.int IntKind.i64 me), AV.v (Value.int IntKind.i64 (4 : Int)), AV.v (Value.int IntKind.i64
    mo), AV.hs (1 : Nat) (0 : Nat) (1 : Nat)]), some (Blk.arr (2 : Nat) (1 : Nat) fun x => [AV.v (Value.int IntKind.i64 n), AV.v (Value.int IntKind.i64 (↑(0 : Nat) : Int))])])) (Tree.chk (cl
    (LeL [AV.ptr (0 : Nat) (0 : Nat)] [AV.ptr (0 : Nat) (0 : Nat)] ∧ LeH [some (Blk.row [AV.v (Value.int IntKind.i64 (timesF (3 : Int) f)), AV.v (Value.int IntKind.i64 me), AV.v (Value.int
    IntKind.i64 (4 : Int)), AV.v (Value.int IntKind.i64 mo), AV.hs (1 : Nat) (0 : Nat) (1 : Nat)]), some (Blk.arr (2 : Nat) (1 : Nat) fun x => [AV.v (Value.int IntKind.i64 n), AV.v
    (Value.int IntKind.i64 mo)])] [some (Blk.row [AV.v (Value.int IntKind.i64 (timesF (3 : Int) f)), AV.v (Value.int IntKind.i64 me), AV.v (Value.int IntKind.i64 (4 : Int)), AV.v (Value.int
    IntKind.i64 mo), AV.hs (1 : Nat) (0 : Nat) (1 : Nat)]), some (Blk.arr (2 : Nat) (1 : Nat) fun x => [AV.v (Value.int IntKind.i64 n), AV.v (Value.int IntKind.i64 mo)])])) (Tree.br true
    (Tree.chk (cl (LeL [AV.ptr (0 : Nat) (0 : Nat)] [AV.ptr (0 : Nat) (0 : Nat)] ∧ LeH [some (Blk.row [AV.v (Value.int IntKind.i64 (timesF (3 : Int) f)), AV.v (Value.int IntKind.i64 me),
    AV.v (Value.int IntKind.i64 (4 : Int)), AV.v (Value.int IntKind.i64 mo), AV.hs (1 : Nat) (0 : Nat) (0 : Nat)]), some (Blk.arr (2 : Nat) (1 : Nat) fun x => [AV.v (Value.int IntKind.i64 (0
    : Int)), AV.v (Value.int IntKind.i64 (0 : Int))])] [some (Blk.row [AV.v (Value.int IntKind.i64 (timesF (3 : Int) f)), AV.v (Value.int IntKind.i64 me), AV.v (Value.int IntKind.i64 (4 :
    Int)), AV.v (Value.int IntKind.i64 mo), AV.hs (1 : Nat) (0 : Nat) (0 : Nat)]), some (Blk.arr (2 : Nat) (1 : Nat) fun x => [AV.v (Value.int IntKind.i64 (0 : Int)), AV.v (Value.int
    IntKind.i64 (0 : Int))])])) (Tree.leaf (Ans.mk (AV.sb true) []))) (Tree.leaf (Ans.mk (AV.v (Value.bool false)) [])))))))) (Tree.br (decide (me < (0 : Int))) (Tree.br (decide (me < (0 :
    Int))) (Tree.br true (Tree.leaf (Ans.mk (AV.v (Value.bool true)) [])) (Tree.chk (cl (LeL [AV.v (Value.pointer none), AV.v (Value.int IntKind.i64 n)] [AV.ptr (0 : Nat) (0 : Nat), AV.v
    (Value.int IntKind.i64 n)] ∧ LeH [] [some (Blk.row [AV.v (Value.int IntKind.i64 (timesF (3 : Int) f)), AV.v (Value.int IntKind.i64 me), AV.v (Value.int IntKind.i64 (4 : Int)), AV.v
    (Value.int IntKind.i64 mo), AV.v (Value.slice none (0 : Nat) (0 : Nat))])])) (Tree.br false (Tree.leaf (Ans.mk (AV.v (Value.bool true)) [])) (Tree.chk (cl (LeL [AV.v (Value.int
    IntKind.i64 f), AV.v (Value.int IntKind.i64 me), AV.v (Value.int IntKind.i64 n), AV.v (Value.int IntKind.i64 (IntKind.wrap IntKind.i64 ((1 : Int) + Int.tmod (IntKind.wrap IntKind.i64
    tries) (40 : Int)))), AV.v (Value.pointer none), AV.v (Value.int IntKind.u32 (0 : Int)), AV.v (Value.int IntKind.i64 (0 : Int)), AV.v (Value.bool false)] [AV.v (Value.int IntKind.i64 f),
    AV.v (Value.int IntKind.i64 me), AV.v (Value.int IntKind.i64 n), AV.v (Value.int IntKind.i64 mo), AV.ptr (0 : Nat) (0 : Nat), AV.v (Value.int IntKind.u32 (setF (timesF (3 : Int) f) me (0
    : Nat))), AV.v (Value.int IntKind.i64 (↑(0 : Nat) : Int)), AV.any] ∧ LeH [] [some (Blk.row [AV.v (Value.int IntKind.i64 (timesF (3 : Int) f)), AV.v (Value.int IntKind.i64 me), AV.v
    (Value.int IntKind.i64 (4 : Int)), AV.v (Value.int IntKind.i64 mo), AV.hs (1 : Nat) (0 : Nat) (1 : Nat)]), some (Blk.arr (2 : Nat) (1 : Nat) fun x => [AV.v (Value.int IntKind.i64 n),
    AV.v (Value.int IntKind.i64 (↑(0 : Nat) : Int))])])) (Tree.chk (cl (LeL [AV.ptr (0 : Nat) (0 : Nat)] [AV.ptr (0 : Nat) (0 : Nat)] ∧ LeH [some (Blk.row [AV.v (Value.int IntKind.i64
    (timesF (3 : Int) f)), AV.v (Value.int IntKind.i64 me), AV.v (Value.int IntKind.i64 (4 : Int)), AV.v (Value.int IntKind.i64 mo), AV.hs (1 : Nat) (0 : Nat) (1 : Nat)]), some (Blk.arr (2 :
    Nat) (1 : Nat) fun x => [AV.v (Value.int IntKind.i64 n), AV.v (Value.int IntKind.i64 mo)])] [some (Blk.row [AV.v (Value.int IntKind.i64 (timesF (3 : Int) f)), AV.v (Value.int IntKind.i64
    me), AV.v (Value.int IntKind.i64 (4 : Int)), AV.v (Value.int IntKind.i64 mo), AV.hs (1 : Nat) (0 : Nat) (1 : Nat)]), some (Blk.arr (2 : Nat) (1 : Nat) fun x => [AV.v (Value.int
    IntKind.i64 n), AV.v (Value.int IntKind.i64 mo)])])) (Tree.br true (Tree.chk (cl (LeL [AV.ptr (0 : Nat) (0 : Nat)] [AV.ptr (0 : Nat) (0 : Nat)] ∧ LeH [some (Blk.row [AV.v (Value.int
    IntKind.i64 (timesF (3 : Int) f)), AV.v (Value.int IntKind.i64 me), AV.v (Value.int IntKind.i64 (4 : Int)), AV.v (Value.int IntKind.i64 mo), AV.hs (1 : Nat) (0 : Nat) (0 : Nat)]), some
    (Blk.arr (2 : Nat) (1 : Nat) fun x => [AV.v (Value.int IntKind.i64 (0 : Int)), AV.v (Value.int IntKind.i64 (0 : Int))])] [some (Blk.row [AV.v (Value.int IntKind.i64 (timesF (3 : Int)
    f)), AV.v (Value.int IntKind.i64 me), AV.v (Value.int IntKind.i64 (4 : Int)), AV.v (Value.int IntKind.i64 mo), AV.hs (1 : Nat) (0 : Nat) (0 : Nat)]), some (Blk.arr (2 : Nat) (1 : Nat)
    fun x => [AV.v (Value.int IntKind.i64 (0 : Int)), AV.v (Value.int IntKind.i64 (0 : Int))])])) (Tree.leaf (Ans.mk (AV.sb true) []))) (Tree.leaf (Ans.mk (AV.v (Value.bool false))
    [])))))))) (Tree.br false (Tree.leaf (Ans.mk (AV.v (Value.bool true)) [])) (Tree.chk (cl (LeL [AV.ptr (0 : Nat) (0 : Nat), AV.v (Value.int IntKind.i64 n)] [AV.ptr (0 : Nat) (0 : Nat),
    AV.v (Value.int IntKind.i64 n)] ∧ LeH [some (Blk.row [AV.v (Value.int IntKind.i64 (timesF (3 : Int) f)), AV.v (Value.int IntKind.i64 me), AV.v (Value.int IntKind.i64 (4 : Int)), AV.v
    (Value.int IntKind.i64 (IntKind.wrap IntKind.i64 ((1 : Int) + Int.tmod (IntKind.wrap IntKind.i64 tries) (40 : Int)))), AV.v (Value.slice none (0 : Nat) (0 : Nat))])] [some (Blk.row [AV.v
    (Value.int IntKind.i64 (timesF (3 : Int) f)), AV.v (Value.int IntKind.i64 me), AV.v (Value.int IntKind.i64 (4 : Int)), AV.v (Value.int IntKind.i64 mo), AV.v (Value.slice none (0 : Nat)
    (0 : Nat))])])) (Tree.br false (Tree.leaf (Ans.mk (AV.v (Value.bool true)) [])) (Tree.chk (cl (LeL [AV.v (Value.int IntKind.i64 f), AV.v (Value.int IntKind.i64 me), AV.v (Value.int
    IntKind.i64 n), AV.v (Value.int IntKind.i64 (IntKind.wrap IntKind.i64 ((1 : Int) + Int.tmod (IntKind.wrap IntKind.i64 tries) (40 : Int)))), AV.ptr (0 : Nat) (0 : Nat), AV.v (Value.int
    IntKind.u32 (0 : Int)), AV.v (Value.int IntKind.i64 (0 : Int)), AV.v (Value.bool false)] [AV.v (Value.int IntKind.i64 f), AV.v (Value.int IntKind.i64 me), AV.v (Value.int IntKind.i64 n),
    AV.v (Value.int IntKind.i64 mo), AV.ptr (0 : Nat) (0 : Nat), AV.v (Value.int IntKind.u32 (setF (timesF (3 : Int) f) me (0 : Nat))), AV.v (Value.int IntKind.i64 (↑(0 : Nat) : Int)),
    AV.any] ∧ LeH [some (Blk.row [AV.v (Value.int IntKind.i64 (timesF (3 : Int) f)), AV.v (Value.int IntKind.i64 me), AV.v (Value.int IntKind.i64 (4 : Int)), AV.v (Value.int IntKind.i64 mo),
    AV.hs (1 : Nat) (0 : Nat) (1 : Nat)]), some (Blk.arr (2 : Nat) (1 : Nat) fun x => [AV.v (Value.int IntKind.i64 n), AV.v (Value.int IntKind.i64 (0 : Int))])] [some (Blk.row [AV.v
    (Value.int IntKind.i64 (timesF (3 : Int) f)), AV.v (Value.int IntKind.i64 me), AV.v (Value.int IntKind.i64 (4 : Int)), AV.v (Value.int IntKind.i64 mo), AV.hs (1 : Nat) (0 : Nat) (1 :
    Nat)]), some (Blk.arr (2 : Nat) (1 : Nat) fun x => [AV.v (Value.int IntKind.i64 n), AV.v (Value.int IntKind.i64 (↑(0 : Nat) : Int))])])) (Tree.chk (cl (LeL [AV.ptr (0 : Nat) (0 : Nat)]
    [AV.ptr (0 : Nat) (0 : Nat)] ∧ LeH [some (Blk.row [AV.v (Value.int IntKind.i64 (timesF (3 : Int) f)), AV.v (Value.int IntKind.i64 me), AV.v (Value.int IntKind.i64 (4 : Int)), AV.v
    (Value.int IntKind.i64 mo), AV.hs (1 : Nat) (0 : Nat) (1 : Nat)]), some (Blk.arr (2 : Nat) (1 : Nat) fun x => [AV.v (Value.int IntKind.i64 n), AV.v (Value.int IntKind.i64 mo)])] [some
    (Blk.row [AV.v (Value.int IntKind.i64 (timesF (3 : Int) f)), AV.v (Value.int IntKind.i64 me), AV.v (Value.int IntKind.i64 (4 : Int)), AV.v (Value.int IntKind.i64 mo), AV.hs (1 : Nat) (0
    : Nat) (1 : Nat)]), some (Blk.arr (2 : Nat) (1 : Nat) fun x => [AV.v (Value.int IntKind.i64 n), AV.v (Value.int IntKind.i64 mo)])])) (Tree.br true (Tree.chk (cl (LeL [AV.ptr (0 : Nat) (0
    : Nat)] [AV.ptr (0 : Nat) (0 : Nat)] ∧ LeH [some (Blk.row [AV.v (Value.int IntKind.i64 (timesF (3 : Int) f)), AV.v (Value.int IntKind.i64 me), AV.v (Value.int IntKind.i64 (4 : Int)),
    AV.v (Value.int IntKind.i64 mo), AV.hs (1 : Nat) (0 : Nat) (0 : Nat)]), some (Blk.arr (2 : Nat) (1 : Nat) fun x => [AV.v (Value.int IntKind.i64 (0 : Int)), AV.v (Value.int IntKind.i64 (0
    : Int))])] [some (Blk.row [AV.v (Value.int IntKind.i64 (timesF (3 : Int) f)), AV.v (Value.int IntKind.i64 me), AV.v (Value.int IntKind.i64 (4 : Int)), AV.v (Value.int IntKind.i64 mo),
    AV.hs (1 : Nat) (0 : Nat) (0 : Nat)]), some (Blk.arr (2 : Nat) (1 : Nat) fun x => [AV.v (Value.int IntKind.i64 (0 : Int)), AV.v (Value.int IntKind.i64 (0 : Int))])])) (Tree.leaf (Ans.mk
    (AV.sb true) []))) (Tree.leaf (Ans.mk (AV.v (Value.bool false)) []))))))))) (Tree.br (decide (timesF (3 : Int) f ≤ me)) (Tree.br true (Tree.leaf (Ans.mk (AV.v (Value.bool true)) []))
    (Tree.chk (cl (LeL [AV.v (Value.pointer none), AV.v (Value.int IntKind.i64 n)] [AV.ptr (0 : Nat) (0 : Nat), AV.v (Value.int IntKind.i64 n)] ∧ LeH [] [some (Blk.row [AV.v (Value.int
    IntKind.i64 (timesF (3 : Int) f)), AV.v (Value.int IntKind.i64 me), AV.v (Value.int IntKind.i64 (4 : Int)), AV.v (Value.int IntKind.i64 mo), AV.v (Value.slice none (0 : Nat) (0 :
    Nat))])])) (Tree.br false (Tree.leaf (Ans.mk (AV.v (Value.bool true)) [])) (Tree.chk (cl (LeL [AV.v (Value.int IntKind.i64 f), AV.v (Value.int IntKind.i64 me), AV.v (Value.int
    IntKind.i64 n), AV.v (Value.int IntKind.i64 (IntKind.wrap IntKind.i64 ((1 : Int) + Int.tmod (IntKind.wrap IntKind.i64 tries) (40 : Int)))), AV.v (Value.pointer none), AV.v (Value.int
    IntKind.u32 (0 : Int)), AV.v (Value.int IntKind.i64 (0 : Int)), AV.v (Value.bool false)] [AV.v (Value.int IntKind.i64 f), AV.v (Value.int IntKind.i64 me), AV.v (Value.int IntKind.i64 n),
    AV.v (Value.int IntKind.i64 mo), AV.ptr (0 : Nat) (0 : Nat), AV.v (Value.int IntKind.u32 (setF (timesF (3 : Int) f) me (0 : Nat))), AV.v (Value.int IntKind.i64 (↑(0 : Nat) : Int)),
    AV.any] ∧ LeH [] [some (Blk.row [AV.v (Value.int IntKind.i64 (timesF (3 : Int) f)), AV.v (Value.int IntKind.i64 me), AV.v (Value.int IntKind.i64 (4 : Int)), AV.v (Value.int IntKind.i64
    mo), AV.hs (1 : Nat) (0 : Nat) (1 : Nat)]), some (Blk.arr (2 : Nat) (1 : Nat) fun x => [AV.v (Value.int IntKind.i64 n), AV.v (Value.int IntKind.i64 (↑(0 : Nat) : Int))])])) (Tree.chk (cl
    (LeL [AV.ptr (0 : Nat) (0 : Nat)] [AV.ptr (0 : Nat) (0 : Nat)] ∧ LeH [some (Blk.row [AV.v (Value.int IntKind.i64 (timesF (3 : Int) f)), AV.v (Value.int IntKind.i64 me), AV.v (Value.int
    IntKind.i64 (4 : Int)), AV.v (Value.int IntKind.i64 mo), AV.hs (1 : Nat) (0 : Nat) (1 : Nat)]), some (Blk.arr (2 : Nat) (1 : Nat) fun x => [AV.v (Value.int IntKind.i64 n), AV.v
    (Value.int IntKind.i64 mo)])] [some (Blk.row [AV.v (Value.int IntKind.i64 (timesF (3 : Int) f)), AV.v (Value.int IntKind.i64 me), AV.v (Value.int IntKind.i64 (4 : Int)), AV.v (Value.int
    IntKind.i64 mo), AV.hs (1 : Nat) (0 : Nat) (1 : Nat)]), some (Blk.arr (2 : Nat) (1 : Nat) fun x => [AV.v (Value.int IntKind.i64 n), AV.v (Value.int IntKind.i64 mo)])])) (Tree.br true
    (Tree.chk (cl (LeL [AV.ptr (0 : Nat) (0 : Nat)] [AV.ptr (0 : Nat) (0 : Nat)] ∧ LeH [some (Blk.row [AV.v (Value.int IntKind.i64 (timesF (3 : Int) f)), AV.v (Value.int IntKind.i64 me),
    AV.v (Value.int IntKind.i64 (4 : Int)), AV.v (Value.int IntKind.i64 mo), AV.hs (1 : Nat) (0 : Nat) (0 : Nat)]), some (Blk.arr (2 : Nat) (1 : Nat) fun x => [AV.v (Value.int IntKind.i64 (0
    : Int)), AV.v (Value.int IntKind.i64 (0 : Int))])] [some (Blk.row [AV.v (Value.int IntKind.i64 (timesF (3 : Int) f)), AV.v (Value.int IntKind.i64 me), AV.v (Value.int IntKind.i64 (4 :
    Int)), AV.v (Value.int IntKind.i64 mo), AV.hs (1 : Nat) (0 : Nat) (0 : Nat)]), some (Blk.arr (2 : Nat) (1 : Nat) fun x => [AV.v (Value.int IntKind.i64 (0 : Int)), AV.v (Value.int
    IntKind.i64 (0 : Int))])])) (Tree.leaf (Ans.mk (AV.sb true) []))) (Tree.leaf (Ans.mk (AV.v (Value.bool false)) [])))))))) (Tree.br false (Tree.leaf (Ans.mk (AV.v (Value.bool true)) []))
    (Tree.chk (cl (LeL [AV.ptr (0 : Nat) (0 : Nat), AV.v (Value.int IntKind.i64 n)] [AV.ptr (0 : Nat) (0 : Nat), AV.v (Value.int IntKind.i64 n)] ∧ LeH [some (Blk.row [AV.v (Value.int
    IntKind.i64 (timesF (3 : Int) f)), AV.v (Value.int IntKind.i64 me), AV.v (Value.int IntKind.i64 (4 : Int)), AV.v (Value.int IntKind.i64 (IntKind.wrap IntKind.i64 ((1 : Int) + Int.tmod
    (IntKind.wrap IntKind.i64 tries) (40 : Int)))), AV.v (Value.slice none (0 : Nat) (0 : Nat))])] [some (Blk.row [AV.v (Value.int IntKind.i64 (timesF (3 : Int) f)), AV.v (Value.int
    IntKind.i64 me), AV.v (Value.int IntKind.i64 (4 : Int)), AV.v (Value.int IntKind.i64 mo), AV.v (Value.slice none (0 : Nat) (0 : Nat))])])) (Tree.br false (Tree.leaf (Ans.mk (AV.v
    (Value.bool true)) [])) (Tree.chk (cl (LeL [AV.v (Value.int IntKind.i64 f), AV.v (Value.int IntKind.i64 me), AV.v (Value.int IntKind.i64 n), AV.v (Value.int IntKind.i64 (IntKind.wrap
    IntKind.i64 ((1 : Int) + Int.tmod (IntKind.wrap IntKind.i64 tries) (40 : Int)))), AV.ptr (0 : Nat) (0 : Nat), AV.v (Value.int IntKind.u32 (0 : Int)), AV.v (Value.int IntKind.i64 (0 :
    Int)), AV.v (Value.bool false)] [AV.v (Value.int IntKind.i64 f), AV.v (Value.int IntKind.i64 me), AV.v (Value.int IntKind.i64 n), AV.v (Value.int IntKind.i64 mo), AV.ptr (0 : Nat) (0 :
    Nat), AV.v (Value.int IntKind.u32 (setF (timesF (3 : Int) f) me (0 : Nat))), AV.v (Value.int IntKind.i64 (↑(0 : Nat) : Int)), AV.any] ∧ LeH [some (Blk.row [AV.v (Value.int IntKind.i64
    (timesF (3 : Int) f)), AV.v (Value.int IntKind.i64 me), AV.v (Value.int IntKind.i64 (4 : Int)), AV.v (Value.int IntKind.i64 mo), AV.hs (1 : Nat) (0 : Nat) (1 : Nat)]), some (Blk.arr (2 :
    Nat) (1 : Nat) fun x => [AV.v (Value.int IntKind.i64 n), AV.v (Value.int IntKind.i64 (0 : Int))])] [some (Blk.row [AV.v (Value.int IntKind.i64 (timesF (3 : Int) f)), AV.v (Value.int
    IntKind.i64 me), AV.v (Value.int IntKind.i64 (4 : Int)), AV.v (Value.int IntKind.i64 mo), AV.hs (1 : Nat) (0 : Nat) (1 : Nat)]), some (Blk.arr (2 : Nat) (1 : Nat) fun x => [AV.v
    (Value.int IntKind.i64 n), AV.v (Value.int IntKind.i64 (↑(0 : Nat) : Int))])])) (Tree.chk (cl (LeL [AV.ptr (0 : Nat) (0 : Nat)] [AV.ptr (0 : Nat) (0 : Nat)] ∧ LeH [some (Blk.row [AV.v
    (Value.int IntKind.i64 (timesF (3 : Int) f)), AV.v (Value.int IntKind.i64 me), AV.v (Value.int IntKind.i64 (4 : Int)), AV.v (Value.int IntKind.i64 mo), AV.hs (1 : Nat) (0 : Nat) (1 :
    Nat)]), some (Blk.arr (2 : Nat) (1 : Nat) fun x => [AV.v (Value.int IntKind.i64 n), AV.v (Value.int IntKind.i64 mo)])] [some (Blk.row [AV.v (Value.int IntKind.i64 (timesF (3 : Int) f)),
    AV.v (Value.int IntKind.i64 me), AV.v (Value.int IntKind.i64 (4 : Int)), AV.v (Value.int IntKind.i64 mo), AV.hs (1 : Nat) (0 : Nat) (1 : Nat)]), some (Blk.arr (2 : Nat) (1 : Nat) fun x
    => [AV.v (Value.int IntKind.i64 n), AV.v (Value.int IntKind.i64 mo)])])) (Tree.br true (Tree.chk (cl (LeL [AV.ptr (0 : Nat) (0 : Nat)] [AV.ptr (0 : Nat) (0 : Nat)] ∧ LeH [some (Blk.row
    [AV.v (Value.int IntKind.i64 (timesF (3 : Int) f)), AV.v (Value.int IntKind.i64 me), AV.v (Value.int IntKind.i64 (4 : Int)), AV.v (Value.int IntKind.i64 mo), AV.hs (1 : Nat) (0 : Nat) (0
    : Nat)]), some (Blk.arr (2 : Nat) (1 : Nat) fun x => [AV.v (Value.int IntKind.i64 (0 : Int)), AV.v (Value.int IntKind.i64 (0 : Int))])] [some (Blk.row [AV.v (Value.int IntKind.i64
    (timesF (3 : Int) f)), AV.v (Value.int IntKind.i64 me), AV.v (Value.int IntKind.i64 (4 : Int)), AV.v (Value.int IntKind.i64 mo), AV.hs (1 : Nat) (0 : Nat) (0 : Nat)]), some (Blk.arr (2 :
    Nat) (1 : Nat) fun x => [AV.v (Value.int IntKind.i64 (0 : Int)), AV.v (Value.int IntKind.i64 (0 : Int))])])) (Tree.leaf (Ans.mk (AV.sb true) []))) (Tree.leaf (Ans.mk (AV.v (Value.bool
    false)) []))))))))))))))) := by kernel_rfl
end Go.Eng.F

/- fetch: all are asked: the law. -/
namespace Go.Eng.F
open Go Go.Eng Go.Eng.M Go.Proofs
set_option linter.unusedSimpArgs false
set_option linter.unusedVariables false
theorem law5 (f me n tries : Int) (ht0 : 0 ≤ tries) (ht1 : tries ≤ 255) : LawOK Try.prog Γf 119 [.tmp 8] (bodyOf Try.f5) (A5' f me n tries) := by
  have w1 : IntKind.wrap .i64 tries = tries := wrap64 (by omega) (by omega)
  have w2 : Int.tmod tries 40 = tries % 40 := Int.tmod_eq_emod_of_nonneg ht0
  have w3 : IntKind.wrap .i64 (1 + tries % 40) = 1 + tries % 40 := wrap64 (by omega) (by omega)
  have hm1 : ¬ 1 + tries % 40 < 1 := by omega
  by_cases hf : timesF 3 f = 0
  · refine .mk' (T := [c6, k7]) (ip := false) (L := Lno) (failOK fun _ _ _ => rfl) (Right.of (law5a f me n tries) ?_)
    by_cases h0 : me < 0
    · simp only [or_true, true_or, false_or, or_false, and_false, false_and, cond_true, cond_false, Bool.not_true, Bool.not_false, Bool.false_eq_true, Bool.true_eq_false, not_true_eq_false, not_false_eq_true, false_implies, true_implies, implies_true, Nat.blt_eq, owesN, owesX, owesR, notT, sat_brT, sat_brF, sat_chkT, cl_iff, cl_false, AV.le_refl, AV.le_any, OLe_refl, OLe_none, sat_brN, Tree.sat_chk, Tree.sat_leaf, Tree.sat_fail, Nat.zero_add, Nat.sub_zero, Int.toNat_natCast, LeH_cons, LeH_nil, LeL_cons, LeL_nil, and_true, true_and, Bool.and_eq_true, Bool.or_eq_true, decide_eq_true_eq, decide_eq_false_iff_not, Bool.cond_true_left, Bool.cond_false_right, List.cons_append, List.nil_append, List.map_cons, List.map_nil, hf, h0]
      repeat' (first | apply And.intro | intro _hc)
      all_goals first | omega | contradiction | exact AV.le_refl _ | exact AV.le_any _ | exact OLe.refl _ | exact OLe.none _ | exact LeH.refl _ | exact LeL.refl _ | exact AV.le.bs _ | exact AV.le.sb _ | (exfalso; omega) | contradiction
    · by_cases h1 : 0 ≤ me
      · simp only [or_true, true_or, false_or, or_false, and_false, false_and, cond_true, cond_false, Bool.not_true, Bool.not_false, Bool.false_eq_true, Bool.true_eq_false, not_true_eq_false, not_false_eq_true, false_implies, true_implies, implies_true, Nat.blt_eq, owesN, owesX, owesR, notT, sat_brT, sat_brF, sat_chkT, cl_iff, cl_false, AV.le_refl, AV.le_any, OLe_refl, OLe_none, sat_brN, Tree.sat_chk, Tree.sat_leaf, Tree.sat_fail, Nat.zero_add, Nat.sub_zero, Int.toNat_natCast, LeH_cons, LeH_nil, LeL_cons, LeL_nil, and_true, true_and, Bool.and_eq_true, Bool.or_eq_true, decide_eq_true_eq, decide_eq_false_iff_not, Bool.cond_true_left, Bool.cond_false_right, List.cons_append, List.nil_append, List.map_cons, List.map_nil, hf, h0, h1]
        repeat' (first | apply And.intro | intro _hc)
        all_goals first | omega | contradiction | exact AV.le_refl _ | exact AV.le_any _ | exact OLe.refl _ | exact OLe.none _ | exact LeH.refl _ | exact LeL.refl _ | exact AV.le.bs _ | exact AV.le.sb _ | (exfalso; omega) | contradiction
      · simp only [or_true, true_or, false_or, or_false, and_false, false_and, cond_true, cond_false, Bool.not_true, Bool.not_false, Bool.false_eq_true, Bool.true_eq_false, not_true_eq_false, not_false_eq_true, false_implies, true_implies, implies_true, Nat.blt_eq, owesN, owesX, owesR, notT, sat_brT, sat_brF, sat_chkT, cl_iff, cl_false, AV.le_refl, AV.le_any, OLe_refl, OLe_none, sat_brN, Tree.sat_chk, Tree.sat_leaf, Tree.sat_fail, Nat.zero_add, Nat.sub_zero, Int.toNat_natCast, LeH_cons, LeH_nil, LeL_cons, LeL_nil, and_true, true_and, Bool.and_eq_true, Bool.or_eq_true, decide_eq_true_eq, decide_eq_false_iff_not, Bool.cond_true_left, Bool.cond_false_right, List.cons_append, List.nil_append, List.map_cons, List.map_nil, hf, h0, h1]
        repeat' (first | apply And.intro | intro _hc)
        all_goals first | omega | contradiction | exact AV.le_refl _ | exact AV.le_any _ | exact OLe.refl _ | exact OLe.none _ | exact LeH.refl _ | exact LeL.refl _ | exact AV.le.bs _ | exact AV.le.sb _ | (exfalso; omega) | contradiction
  by_cases h0 : me < 0
  · refine .mk' (T := [c6, k7]) (ip := false) (L := Lno) (failOK fun _ _ _ => rfl) (Right.of (law5a f me n tries) ?_)
    simp only [or_true, true_or, false_or, or_false, and_false, false_and, cond_true, cond_false, Bool.not_true, Bool.not_false, Bool.false_eq_true, Bool.true_eq_false, not_true_eq_false, not_false_eq_true, false_implies, true_implies, implies_true, Nat.blt_eq, owesN, owesX, owesR, notT, sat_brT, sat_brF, sat_chkT, cl_iff, cl_false, AV.le_refl, AV.le_any, OLe_refl, OLe_none, sat_brN, Tree.sat_chk, Tree.sat_leaf, Tree.sat_fail, Nat.zero_add, Nat.sub_zero, Int.toNat_natCast, LeH_cons, LeH_nil, LeL_cons, LeL_nil, and_true, true_and, Bool.and_eq_true, Bool.or_eq_true, decide_eq_true_eq, decide_eq_false_iff_not, Bool.cond_true_left, Bool.cond_false_right, List.cons_append, List.nil_append, List.map_cons, List.map_nil, hf, h0, w1, w2, w3, hm1]
    repeat' (first | apply And.intro | intro _hc)
    all_goals first | omega | contradiction | exact AV.le_refl _ | exact AV.le_any _ | exact OLe.refl _ | exact OLe.none _ | exact LeH.refl _ | exact LeL.refl _ | exact AV.le.bs _ | exact AV.le.sb _ | (exfalso; omega) | contradiction
  by_cases h1 : timesF 3 f ≤ me
  · refine .mk' (T := [c6, k7]) (ip := false) (L := Lno) (failOK fun _ _ _ => rfl) (Right.of (law5a f me n tries) ?_)
    simp only [or_true, true_or, false_or, or_false, and_false, false_and, cond_true, cond_false, Bool.not_true, Bool.not_false, Bool.false_eq_true, Bool.true_eq_false, not_true_eq_false, not_false_eq_true, false_implies, true_implies, implies_true, Nat.blt_eq, owesN, owesX, owesR, notT, sat_brT, sat_brF, sat_chkT, cl_iff, cl_false, AV.le_refl, AV.le_any, OLe_refl, OLe_none, sat_brN, Tree.sat_chk, Tree.sat_leaf, Tree.sat_fail, Nat.zero_add, Nat.sub_zero, Int.toNat_natCast, LeH_cons, LeH_nil, LeL_cons, LeL_nil, and_true, true_and, Bool.and_eq_true, Bool.or_eq_true, decide_eq_true_eq, decide_eq_false_iff_not, Bool.cond_true_left, Bool.cond_false_right, List.cons_append, List.nil_append, List.map_cons, List.map_nil, hf, h0, h1, w1, w2, w3, hm1]
    repeat' (first | apply And.intro | intro _hc)
    all_goals first | omega | contradiction | exact AV.le_refl _ | exact AV.le_any _ | exact OLe.refl _ | exact OLe.none _ | exact LeH.refl _ | exact LeL.refl _ | exact AV.le.bs _ | exact AV.le.sb _ | (exfalso; omega) | contradiction
  by_cases hn : n < 1
  · refine .mk' (T := [c6, k7, CT.at 9 (ans9n (all := timesF 3 f) (me := me) (mo := 1 + tries % 40) hn)]) (ip := false) (L := Lno) (failOK fun _ _ _ => rfl) (Right.of (law5n f me n tries (1 + tries % 40) hn) ?_)
    simp only [or_true, true_or, false_or, or_false, and_false, false_and, cond_true, cond_false, Bool.not_true, Bool.not_false, Bool.false_eq_true, Bool.true_eq_false, not_true_eq_false, not_false_eq_true, false_implies, true_implies, implies_true, Nat.blt_eq, owesN, owesX, owesR, notT, sat_brT, sat_brF, sat_chkT, cl_iff, cl_false, AV.le_refl, AV.le_any, OLe_refl, OLe_none, sat_brN, Tree.sat_chk, Tree.sat_leaf, Tree.sat_fail, Nat.zero_add, Nat.sub_zero, Int.toNat_natCast, LeH_cons, LeH_nil, LeL_cons, LeL_nil, and_true, true_and, Bool.and_eq_true, Bool.or_eq_true, decide_eq_true_eq, decide_eq_false_iff_not, Bool.cond_true_left, Bool.cond_false_right, List.cons_append, List.nil_append, List.map_cons, List.map_nil, hf, h0, h1, w1, w2, w3, hm1]
    repeat' (first | apply And.intro | intro _hc)
    all_goals first | omega | contradiction | exact AV.le_refl _ | exact AV.le_any _ | exact OLe.refl _ | exact OLe.none _ | exact LeH.refl _ | exact LeL.refl _ | exact AV.le.bs _ | exact AV.le.sb _ | (exfalso; omega) | contradiction
  have hl := loop5 (f := f) (me := me) (n := n) (mo := 1 + tries % 40) hf (by omega) (by omega) (by omega) ⟨f, me, n, 1 + tries % 40, 0⟩ ⟨rfl, rfl, rfl, rfl, by show ((0 : Nat) : Int) ≤ _; omega⟩
  refine .mk' (T := [c6, k7, CT.at 9 (ans9 (all := timesF 3 f) (me := me) (mo := 1 + tries % 40) hn), CT.at 13 (ans13y (all := timesF 3 f) (me := me) (mo := 1 + tries % 40) (n := n) (Int.le_refl (1 + tries % 40))), CT.at 16 (ans16 (all := timesF 3 f) (me := me) (mo := 1 + tries % 40))]) (ip := false) (L := fun _ => LSpec.at lv5 [] (S51 ⟨f, me, n, 1 + tries % 40, 0⟩) (O5 f me n (1 + tries % 40))) (oneLoop (b := lp5) (by kernel_rfl) hl) (Right.of (law5k f me n tries (1 + tries % 40) hn) ?_)
  simp only [or_true, true_or, false_or, or_false, and_false, false_and, cond_true, cond_false, Bool.not_true, Bool.not_false, Bool.false_eq_true, Bool.true_eq_false, not_true_eq_false, not_false_eq_true, false_implies, true_implies, implies_true, Nat.blt_eq, owesN, owesX, owesR, notT, sat_brT, sat_brF, sat_chkT, cl_iff, cl_false, AV.le_refl, AV.le_any, OLe_refl, OLe_none, sat_brN, Tree.sat_chk, Tree.sat_leaf, Tree.sat_fail, Nat.zero_add, Nat.sub_zero, Int.toNat_natCast, LeH_cons, LeH_nil, LeL_cons, LeL_nil, and_true, true_and, Bool.and_eq_true, Bool.or_eq_true, decide_eq_true_eq, decide_eq_false_iff_not, Bool.cond_true_left, Bool.cond_false_right, List.cons_append, List.nil_append, List.map_cons, List.map_nil, hf, h0, h1, w1, w2, w3, hm1]
  repeat' (first | apply And.intro | intro _hc)
  all_goals first | omega | contradiction | exact AV.le_refl _ | exact AV.le_any _ | exact OLe.refl _ | exact OLe.none _ | exact LeH.refl _ | exact LeL.refl _ | exact AV.le.bs _ | exact AV.le.sb _ | (exfalso; omega) | contradiction
noncomputable def c5 : CT Try.prog Γf := CT.lawE (fun x : Int × Int × Int × Int => A5' x.1 x.2.1 x.2.2.1 x.2.2.2) (fun x => 0 ≤ x.2.2.2 ∧ x.2.2.2 ≤ 255) 5 Try.f5 (bodyOf Try.f5) 119 [.tmp 8] Try.func5 (by kernel_rfl) (by kernel_rfl) (by kernel_rfl) (by kernel_rfl) (fun _ _ => by simp [A5']) (fun x h => law5 x.1 x.2.1 x.2.2.1 x.2.2.2 h.1 h.2)
theorem inU8_wf {n : Int} (h : (Lit.int .u8 n).wf = true) : 0 ≤ n ∧ n ≤ 255 := by
  simp [Lit.wf, IntKind.min, IntKind.max, IntKind.signed, IntKind.bits] at h
  omega
end Go.Eng.F

/- FetchAll holds at every input: no condition beyond the row own cells. -/
namespace Go.Proofs.Ytkgghcffchlolaa
open Go Go.ChangeShapes Go.WideShapes Go.ChangeAt Go.WideMaps Go.WideElems Go.RowKit Go.Eng Go.Eng.M Go.Eng.F
set_option linter.unusedSimpArgs false
set_option linter.unusedVariables false

theorem own0 : ownKnob Try.prog.godebug = none := by kernel_rfl
set_option maxRecDepth 100000 in
theorem fetchAll_lifted (os : Os) (started : os.Started) (H : Type) (enc : TypeId × Value → H) :
    ReturnsInHanded {} Try.checked os 5 .any (Rows.fetchAllSpec.pre6 enc Try.prog Try.f5 Rows.fetchAllRow.domain false)
      (Rows.fetchAllSpec.post enc Try.prog Try.f5 false true false false) := by
  refine returnsInHanded_of_change (C := Try.checked) own0 started (by kernel_rfl) Try.func5
    (ChangeSpec.witness6 (enc := enc) (C := Try.checked) false ⟨#[], #[.int .i64 1, .int .i64 1, .int .i64 1, .int .u8 1], []⟩ 8 (by kernel_rfl) (by kernel_rfl) (by kernel_rfl) (by kernel_rfl)) ?_
  intro W base args ds gs before hval0 hW hcnd _
  have hval : ∀ (j : Nat) t v, Try.f5.params[j]? = some t → args[j]? = some v → Value.okWide Try.prog W .any base t v := hval0
  have hW' := hW
  obtain ⟨p, q, hA0, hV, rfl, hfz, hnd⟩ := hW
  have hA : DataW.TrodAll enc Try.prog W 0 (fun _ => true) true Try.f5.params.toList args.toList ds p := hA0
  rw [Try.params5] at hA hval
  obtain ⟨v0, v1, v2, v3, d0, d1, d2, d3, p0, p1, p2, p3, rfl, rfl, rfl, h0, h1, h2, h3⟩ := trodAll_four hA
  obtain ⟨rfl, rfl⟩ := trodVars_none hV
  obtain ⟨n0, rfl, rfl, rfl, w0⟩ := open_int Try.underlying3 (hval 0 3 v0 rfl rfl) h0
  obtain ⟨n1, rfl, rfl, rfl, w1⟩ := open_int Try.underlying3 (hval 1 3 v1 rfl rfl) h1
  obtain ⟨n2, rfl, rfl, rfl, w2⟩ := open_int Try.underlying3 (hval 2 3 v2 rfl rfl) h2
  obtain ⟨n3, rfl, rfl, rfl, w3⟩ := open_int Try.underlying5 (hval 3 5 v3 rfl rfl) h3
  refine (calls_true c5 (xs := [.v (.int .i64 n0), .v (.int .i64 n1), .v (.int .i64 n2), .v (.int .u8 n3)]) (law_in (A := fun x : Int × Int × Int × Int => A5' x.1 x.2.1 x.2.2.1 x.2.2.2) (pre := fun x => 0 ≤ x.2.2.2 ∧ x.2.2.2 ≤ 255) (x := (n0, n1, n2, n3)) (inU8_wf w3) (.refl _)) (fun _ => .any _) (.one (V_v _) (.one (V_v _) (.one (V_v _) (.one (V_v _) .none))))).mono fun e W' ⟨he, ho⟩ => ?_
  subst he
  exact ⟨_, rfl, post_true (tb := 4) (by kernel_rfl) (by kernel_rfl) (by kernel_rfl) (by kernel_rfl) (by kernel_rfl) Try.underlying4 hW' rfl rfl ho⟩

theorem fetchAll_holds : Rows.FetchAllSaid :=
  OpenClaim.holds_of_wide 5 Try.f5 rfl rfl rfl rfl rfl rfl rfl ⟨rfl, rfl, rfl, rfl, rfl⟩ rfl rfl rfl rfl rfl (by kernel_rfl) Try.func5 (by kernel_rfl)
    (of_decide_eq_true (by kernel_rfl)) (by unfold Func.isWrapper; first | (rw [if_pos (by decide +kernel)]; kernel_rfl) | (rw [if_neg (by decide +kernel)]; exact ⟨rfl, rfl⟩))
    (fun os started H enc _ => fetchAll_lifted os started H enc)
#print axioms fetchAll_holds
end Go.Proofs.Ytkgghcffchlolaa
