/- TapeFast holds at every input: no condition beyond the row own cells. -/
import Derived.Test.YtljejgnclkmpcaaPart5
import Derived.Test.YtljejgnclkmpcaaRows
import Derived.ProofKit
import Derived.LaidMore
import Derived.OpenShut
import Derived.Stop.Joined
set_option linter.unnecessarySimpa false
set_option linter.unusedSectionVars false
set_option linter.unusedSimpArgs false
set_option linter.unusedVariables false
namespace Go.Eng.SB.T
open Go Go.Eng Go.Eng.SB Go.Lib Go.Proofs
theorem any_drop {α : Type} [Inhabited α] {p : α → Bool} {l : List α} {i : Nat} (h : i < l.length) : (l.drop i).any p = (p (l.getD i default) || (l.drop (i + 1)).any p) := by
  rw [List.drop_eq_getElem_cons h, getD_get h, List.any_cons]
theorem loopF {l : List Ac} {b : Bool} (hl : l.length ≤ 100) : ∀ i : Nat, (i ≤ l.length ∧ (l.drop i).any (fun a => decide (3000 < a.s.size)) = b) → LoopOK Try.prog Γb 0 20 lpF (LSpec.at lvF [] (SF l i) (OF b)) := by
  refine loop_at (S := SF l) (pre := fun i => i ≤ l.length ∧ (l.drop i).any (fun a => decide (3000 < a.s.size)) = b) (O := fun _ => OF b) (k := 0) (fun i => l.length - i) fun i hi => .of (noLoops (by kernel_rfl)) (rF l i) ?_
  obtain ⟨h1, h2⟩ := hi
  rcases Nat.lt_or_ge i l.length with h | h
  · have e1 : IntKind.i64.wrap ((i : Int) + 1) = ((i + 1 : Nat) : Int) := wrapUpN (by omega)
    rw [any_drop h] at h2
    simp only [e1]
    by_cases hg : 3000 < (l.getD i default).s.size
    · rw [decide_eq_true hg, Bool.true_or] at h2
      subst h2
      have hq : decide ((3000 : Int) < ((l.getD i default).s.size : Int)) = true := decide_eq_true (by omega)
      unfold OF
      repeat' (first | refine wC (by first | omega | (simp only [W1, cond_true, cond_false, hq]; first | done | omega)) ?_ | refine wT (by first | omega | (simp only [W1, cond_true, cond_false, hq]; first | done | omega)) ?_ | refine wF (by intro _h; first | omega | (simp only [W1, cond_true, cond_false, hq] at _h; first | done | omega)) ?_ | (refine wS ?_ ?_ <;> intro _h <;> simp only [W1, cond_true, cond_false, hq] at _h))
      all_goals simp only [or_true, true_or, false_or, or_false, and_false, false_and, cond_true, cond_false, Bool.not_true, Bool.not_false, Bool.false_eq_true, Bool.true_eq_false, not_true_eq_false, not_false_eq_true, false_implies, true_implies, implies_true, Nat.blt_eq, owesN, owesX, owesR, notT, sat_brT, sat_brF, sat_chkT, cl_iff, cl_false, AV.le_refl, AV.le_any, OLe_refl, OLe_none, sat_brN, Tree.sat_chk, Tree.sat_leaf, Tree.sat_fail, Nat.zero_add, Nat.sub_zero, Int.toNat_natCast, LeH_cons, LeH_nil, LeL_cons, LeL_nil, and_true, true_and, Bool.and_eq_true, Bool.or_eq_true, decide_eq_true_eq, decide_eq_false_iff_not, Bool.cond_true_left, Bool.cond_false_right, List.cons_append, List.nil_append, List.map_cons, List.map_nil, hq]
      repeat' (first | apply And.intro | intro _hc)
      all_goals first | exact rfl | exact ⟨.any _, .any _, .refl _, trivial⟩ | exact AV.le_refl _ | exact AV.le_any _ | exact OLe.refl _ | exact OLe.none _ | exact LeH.refl _ | exact LeL.refl _ | exact AV.le.bs _ | exact AV.le.sb _ | omega | contradiction
    · rw [decide_eq_false hg, Bool.false_or] at h2
      have hq : decide ((3000 : Int) < ((l.getD i default).s.size : Int)) = false := decide_eq_false (by omega)
      repeat' (first | refine wC (by first | omega | (simp only [W1, cond_true, cond_false, hq]; first | done | omega)) ?_ | refine wT (by first | omega | (simp only [W1, cond_true, cond_false, hq]; first | done | omega)) ?_ | refine wF (by intro _h; first | omega | (simp only [W1, cond_true, cond_false, hq] at _h; first | done | omega)) ?_ | (refine wS ?_ ?_ <;> intro _h <;> simp only [W1, cond_true, cond_false, hq] at _h))
      all_goals simp only [or_true, true_or, false_or, or_false, and_false, false_and, cond_true, cond_false, Bool.not_true, Bool.not_false, Bool.false_eq_true, Bool.true_eq_false, not_true_eq_false, not_false_eq_true, false_implies, true_implies, implies_true, Nat.blt_eq, owesN, owesX, owesR, notT, sat_brT, sat_brF, sat_chkT, cl_iff, cl_false, AV.le_refl, AV.le_any, OLe_refl, OLe_none, sat_brN, Tree.sat_chk, Tree.sat_leaf, Tree.sat_fail, Nat.zero_add, Nat.sub_zero, Int.toNat_natCast, LeH_cons, LeH_nil, LeL_cons, LeL_nil, and_true, true_and, Bool.and_eq_true, Bool.or_eq_true, decide_eq_true_eq, decide_eq_false_iff_not, Bool.cond_true_left, Bool.cond_false_right, List.cons_append, List.nil_append, List.map_cons, List.map_nil, hq]
      repeat' (first | apply And.intro | intro _hc)
      all_goals first | exact ⟨i + 1, LeL.refl _, LeH.refl _, ⟨by show i + 1 ≤ _; omega, h2⟩, by omega⟩ | exact AV.le_refl _ | exact AV.le_any _ | exact OLe.refl _ | exact OLe.none _ | exact LeH.refl _ | exact LeL.refl _ | exact AV.le.bs _ | exact AV.le.sb _ | omega | contradiction
  · rw [List.drop_eq_nil_of_le h] at h2
    have h2 : b = false := h2.symm
    subst h2
    unfold OF
    repeat' (first | refine wC (by first | omega | (simp only [W1, cond_true, cond_false]; first | done | omega)) ?_ | refine wT (by first | omega | (simp only [W1, cond_true, cond_false]; first | done | omega)) ?_ | refine wF (by intro _h; first | omega | (simp only [W1, cond_true, cond_false] at _h; first | done | omega)) ?_ | (refine wS ?_ ?_ <;> intro _h <;> simp only [W1, cond_true, cond_false] at _h))
    all_goals simp only [or_true, true_or, false_or, or_false, and_false, false_and, cond_true, cond_false, Bool.not_true, Bool.not_false, Bool.false_eq_true, Bool.true_eq_false, not_true_eq_false, not_false_eq_true, false_implies, true_implies, implies_true, Nat.blt_eq, owesN, owesX, owesR, notT, sat_brT, sat_brF, sat_chkT, cl_iff, cl_false, AV.le_refl, AV.le_any, OLe_refl, OLe_none, sat_brN, Tree.sat_chk, Tree.sat_leaf, Tree.sat_fail, Nat.zero_add, Nat.sub_zero, Int.toNat_natCast, LeH_cons, LeH_nil, LeL_cons, LeL_nil, and_true, true_and, Bool.and_eq_true, Bool.or_eq_true, decide_eq_true_eq, decide_eq_false_iff_not, Bool.cond_true_left, Bool.cond_false_right, List.cons_append, List.nil_append, List.map_cons, List.map_nil]
    repeat' (first | apply And.intro | intro _hc)
    all_goals first | exact rfl | exact AV.le_refl _ | exact AV.le_any _ | exact OLe.refl _ | exact OLe.none _ | exact LeH.refl _ | exact LeL.refl _ | exact AV.le.bs _ | exact AV.le.sb _ | omega | contradiction
theorem runF (l : List Ac) (b : Bool) : bodyE (P := Try.prog) (Γ := Γb) [] (fun _ => LSpec.at lvF [] (SF l 0) (OF true)) false 20 [.tmp 2] (bodyOf Try.f15) [slA l] [] =
  Tree.br (decide ((100 : Int) < (↑(List.length l) : Int))) (Tree.leaf (Ans.mk (AV.v (Value.bool true)) [])) (Tree.chk (cl (LeL [AV.sl (3 : Nat) (List.length l) (lsF Ac.c l), AV.v (Value.int
    IntKind.i64 (0 : Int)), AV.v (Value.bool false)] [AV.sl (3 : Nat) (List.length l) (lsF Ac.c l), AV.v (Value.int IntKind.i64 (↑(0 : Nat) : Int)), AV.v (Value.bool false)] ∧ LeH [] []))
    (Tree.leaf (Ans.mk (AV.v (Value.bool true)) []))) := by kernel_rfl
theorem runFf (l : List Ac) (b : Bool) : bodyE (P := Try.prog) (Γ := Γb) [] (fun _ => LSpec.at lvF [] (SF l 0) (OF false)) false 20 [.tmp 2] (bodyOf Try.f15) [slA l] [] =
  Tree.br (decide ((100 : Int) < (↑(List.length l) : Int))) (Tree.leaf (Ans.mk (AV.v (Value.bool true)) [])) (Tree.chk (cl (LeL [AV.sl (3 : Nat) (List.length l) (lsF Ac.c l), AV.v (Value.int
    IntKind.i64 (0 : Int)), AV.v (Value.bool false)] [AV.sl (3 : Nat) (List.length l) (lsF Ac.c l), AV.v (Value.int IntKind.i64 (↑(0 : Nat) : Int)), AV.v (Value.bool false)] ∧ LeH [] []))
    (Tree.leaf (Ans.mk (AV.v (Value.bool false)) []))) := by kernel_rfl
theorem runFl (l : List Ac) : bodyE (P := Try.prog) (Γ := Γb) [] Lno false 20 [.tmp 2] (bodyOf Try.f15) [slA l] [] =
  Tree.br (decide ((100 : Int) < (↑(List.length l) : Int))) (Tree.leaf (Ans.mk (AV.v (Value.bool true)) [])) Tree.fail := by kernel_rfl
theorem ansF {l : List Ac} : Answers Try.prog Γb 15 [slA l] [] (.v (.bool (farB l))) [] [] := by
  by_cases hl : 100 < l.length
  · have e : farB l = true := by unfold farB; rw [decide_eq_true hl]; rfl
    rw [e]
    refine answers (fn := Try.f15) (c := bodyOf Try.f15) (ntmps := 20) (results := [.tmp 2]) [] Lno false Try.func15 (by kernel_rfl) (by kernel_rfl) (by kernel_rfl) (by kernel_rfl) (by simp) rfl (failOK fun _ _ _ => rfl) (Meets.of (runFl l) ?_)
    repeat' (first | refine wC (by first | omega | (simp only [W1, cond_true, cond_false]; first | done | omega)) ?_ | refine wT (by first | omega | (simp only [W1, cond_true, cond_false]; first | done | omega)) ?_ | refine wF (by intro _h; first | omega | (simp only [W1, cond_true, cond_false] at _h; first | done | omega)) ?_ | (refine wS ?_ ?_ <;> intro _h <;> simp only [W1, cond_true, cond_false] at _h))
    all_goals simp only [or_true, true_or, false_or, or_false, and_false, false_and, cond_true, cond_false, Bool.not_true, Bool.not_false, Bool.false_eq_true, Bool.true_eq_false, not_true_eq_false, not_false_eq_true, false_implies, true_implies, implies_true, Nat.blt_eq, owesN, owesX, owesR, notT, sat_brT, sat_brF, sat_chkT, cl_iff, cl_false, AV.le_refl, AV.le_any, OLe_refl, OLe_none, sat_brN, Tree.sat_chk, Tree.sat_leaf, Tree.sat_fail, Nat.zero_add, Nat.sub_zero, Int.toNat_natCast, LeH_cons, LeH_nil, LeL_cons, LeL_nil, and_true, true_and, Bool.and_eq_true, Bool.or_eq_true, decide_eq_true_eq, decide_eq_false_iff_not, Bool.cond_true_left, Bool.cond_false_right, List.cons_append, List.nil_append, List.map_cons, List.map_nil]
    repeat' (first | apply And.intro | intro _hc)
    all_goals first | exact cl_iff.2 trivial | exact AV.le_refl _ | exact AV.le_any _ | exact OLe.refl _ | exact OLe.none _ | exact LeH.refl _ | exact LeL.refl _ | exact AV.le.bs _ | exact AV.le.sb _ | omega | contradiction
  · have e : farB l = l.any (fun a => decide (3000 < a.s.size)) := by unfold farB; rw [decide_eq_false hl]; rfl
    rw [e]
    cases hg : l.any (fun a => decide (3000 < a.s.size)) with
    | true =>
      refine answers (fn := Try.f15) (c := bodyOf Try.f15) (ntmps := 20) (results := [.tmp 2]) [] (fun _ => LSpec.at lvF [] (SF l 0) (OF true)) false Try.func15 (by kernel_rfl) (by kernel_rfl) (by kernel_rfl) (by kernel_rfl) (by simp) rfl (oneLoop (b := lpF) (by kernel_rfl) (loopF (by omega) 0 ⟨Nat.zero_le _, by rw [List.drop_zero]; exact hg⟩)) (Meets.of (runF l true) ?_)
      repeat' (first | refine wC (by first | omega | (simp only [W1, cond_true, cond_false]; first | done | omega)) ?_ | refine wT (by first | omega | (simp only [W1, cond_true, cond_false]; first | done | omega)) ?_ | refine wF (by intro _h; first | omega | (simp only [W1, cond_true, cond_false] at _h; first | done | omega)) ?_ | (refine wS ?_ ?_ <;> intro _h <;> simp only [W1, cond_true, cond_false] at _h))
      all_goals simp only [or_true, true_or, false_or, or_false, and_false, false_and, cond_true, cond_false, Bool.not_true, Bool.not_false, Bool.false_eq_true, Bool.true_eq_false, not_true_eq_false, not_false_eq_true, false_implies, true_implies, implies_true, Nat.blt_eq, owesN, owesX, owesR, notT, sat_brT, sat_brF, sat_chkT, cl_iff, cl_false, AV.le_refl, AV.le_any, OLe_refl, OLe_none, sat_brN, Tree.sat_chk, Tree.sat_leaf, Tree.sat_fail, Nat.zero_add, Nat.sub_zero, Int.toNat_natCast, LeH_cons, LeH_nil, LeL_cons, LeL_nil, and_true, true_and, Bool.and_eq_true, Bool.or_eq_true, decide_eq_true_eq, decide_eq_false_iff_not, Bool.cond_true_left, Bool.cond_false_right, List.cons_append, List.nil_append, List.map_cons, List.map_nil]
      repeat' (first | apply And.intro | intro _hc)
      all_goals first | exact cl_iff.2 trivial | exact AV.le_refl _ | exact AV.le_any _ | exact OLe.refl _ | exact OLe.none _ | exact LeH.refl _ | exact LeL.refl _ | exact AV.le.bs _ | exact AV.le.sb _ | omega | contradiction
    | false =>
      refine answers (fn := Try.f15) (c := bodyOf Try.f15) (ntmps := 20) (results := [.tmp 2]) [] (fun _ => LSpec.at lvF [] (SF l 0) (OF false)) false Try.func15 (by kernel_rfl) (by kernel_rfl) (by kernel_rfl) (by kernel_rfl) (by simp) rfl (oneLoop (b := lpF) (by kernel_rfl) (loopF (by omega) 0 ⟨Nat.zero_le _, by rw [List.drop_zero]; exact hg⟩)) (Meets.of (runFf l false) ?_)
      repeat' (first | refine wC (by first | omega | (simp only [W1, cond_true, cond_false]; first | done | omega)) ?_ | refine wT (by first | omega | (simp only [W1, cond_true, cond_false]; first | done | omega)) ?_ | refine wF (by intro _h; first | omega | (simp only [W1, cond_true, cond_false] at _h; first | done | omega)) ?_ | (refine wS ?_ ?_ <;> intro _h <;> simp only [W1, cond_true, cond_false] at _h))
      all_goals simp only [or_true, true_or, false_or, or_false, and_false, false_and, cond_true, cond_false, Bool.not_true, Bool.not_false, Bool.false_eq_true, Bool.true_eq_false, not_true_eq_false, not_false_eq_true, false_implies, true_implies, implies_true, Nat.blt_eq, owesN, owesX, owesR, notT, sat_brT, sat_brF, sat_chkT, cl_iff, cl_false, AV.le_refl, AV.le_any, OLe_refl, OLe_none, sat_brN, Tree.sat_chk, Tree.sat_leaf, Tree.sat_fail, Nat.zero_add, Nat.sub_zero, Int.toNat_natCast, LeH_cons, LeH_nil, LeL_cons, LeL_nil, and_true, true_and, Bool.and_eq_true, Bool.or_eq_true, decide_eq_true_eq, decide_eq_false_iff_not, Bool.cond_true_left, Bool.cond_false_right, List.cons_append, List.nil_append, List.map_cons, List.map_nil]
      repeat' (first | apply And.intro | intro _hc)
      all_goals first | exact cl_iff.2 trivial | exact AV.le_refl _ | exact AV.le_any _ | exact OLe.refl _ | exact OLe.none _ | exact LeH.refl _ | exact LeL.refl _ | exact AV.le.bs _ | exact AV.le.sb _ | omega | contradiction
def newT : Blk := .row [.v (.int .i64 1048576), .v (.int .i64 0), .v (.int .i64 0), .v (.slice none 0 0), .v (.int .i64 (-1)), .v (.bool false)]
theorem ansN : Answers Try.prog Γb 14 [.v (.int .i64 1048576)] [] (.tup [.ptr 0 0, .v (.int .i64 0)]) [] [newT] := by
  refine answers (fn := Try.f14) (c := bodyOf Try.f14) (ntmps := 13) (results := [.tmp 2, .tmp 3]) [] Lno false Try.func14 (by kernel_rfl) (by kernel_rfl) (by kernel_rfl) (by kernel_rfl) (by simp) rfl (failOK fun _ _ _ => rfl) (Meets.of runNew ?_)
  unfold newT
  repeat' (first | refine wC (by first | omega | (simp only [W1, cond_true, cond_false]; first | done | omega)) ?_ | refine wT (by first | omega | (simp only [W1, cond_true, cond_false]; first | done | omega)) ?_ | refine wF (by intro _h; first | omega | (simp only [W1, cond_true, cond_false] at _h; first | done | omega)) ?_ | (refine wS ?_ ?_ <;> intro _h <;> simp only [W1, cond_true, cond_false] at _h))
  all_goals simp only [or_true, true_or, false_or, or_false, and_false, false_and, cond_true, cond_false, Bool.not_true, Bool.not_false, Bool.false_eq_true, Bool.true_eq_false, not_true_eq_false, not_false_eq_true, false_implies, true_implies, implies_true, Nat.blt_eq, owesN, owesX, owesR, notT, sat_brT, sat_brF, sat_chkT, cl_iff, cl_false, AV.le_refl, AV.le_any, OLe_refl, OLe_none, sat_brN, Tree.sat_chk, Tree.sat_leaf, Tree.sat_fail, Nat.zero_add, Nat.sub_zero, Int.toNat_natCast, LeH_cons, LeH_nil, LeL_cons, LeL_nil, and_true, true_and, Bool.and_eq_true, Bool.or_eq_true, decide_eq_true_eq, decide_eq_false_iff_not, Bool.cond_true_left, Bool.cond_false_right, List.cons_append, List.nil_append, List.map_cons, List.map_nil]
  repeat' (first | apply And.intro | intro _hc)
  all_goals first | exact cl_iff.2 trivial | exact AV.le_refl _ | exact AV.le_any _ | exact OLe.refl _ | exact OLe.none _ | exact LeH.refl _ | exact LeL.refl _ | exact AV.le.bs _ | exact AV.le.sb _ | omega | contradiction
def Ta.act (a : Ta) (c : Ac) : Ta :=
  if c.k = 0 then if c.s.size = 0 then a else a.wr c.s
  else if c.k = 1 then a.hold else if c.k = 2 then a.shed c.n else if c.k = 3 then a.back c.n else if c.k = 4 then a.fuse c.n else if c.k = 5 then a.crash c.n else a
def Ac.ok (c : Ac) : Prop := (-9223372036854775808 ≤ c.n ∧ c.n ≤ 9223372036854775807) ∧ c.s.size ≤ 3000
theorem inv_act {a : Ta} {m : Nat} (h : a.Inv m) {c : Ac} (hc : c.ok) : (a.act c).Inv (m + 3000) := by
  unfold Ta.act
  split
  · split
    · exact h.mono (by omega)
    · exact inv_wr h hc.2
  · split
    · exact (inv_hold h).mono (by omega)
    · split
      · exact (inv_shed h _).mono (by omega)
      · split
        · exact (inv_back h _).mono (by omega)
        · split
          · exact (inv_fuse h hc.1.2).mono (by omega)
          · split
            · exact (inv_crash h _).mono (by omega)
            · exact h.mono (by omega)
def DoOK (a b : Ta) (c : Ac) : Prop := Answers Try.prog Γb 16 [.ptr 0 0, actV c.k c.n c.s] a.bl .any (b.bl.map some) []
theorem ansDo {a : Ta} {m : Nat} (hi : a.Inv m) (hm : m ≤ 1000000) {c : Ac} (hc : c.ok) : DoOK a (a.act c) c ∨ AnsD2 a (a.act c) (actV c.k c.n c.s) := by
  obtain ⟨k, n, s⟩ := c
  obtain ⟨h1, h2⟩ := hc
  dsimp only at h1 h2
  by_cases k0 : k = 0
  · subst k0
    by_cases hs : s.size = 0
    · rw [show a.act ⟨0, n, s⟩ = a by unfold Ta.act; rw [if_pos rfl, if_pos hs]]
      exact .inl (ansDo0z hi hs)
    · rw [show a.act ⟨0, n, s⟩ = a.wr s by unfold Ta.act; rw [if_pos rfl, if_neg hs]]
      rcases ansDo0 hi (p := n) hs h2 with h | h
      · exact .inl h
      · exact .inr h
  · refine .inl ?_
    by_cases k1 : k = 1
    · subst k1
      exact ansDo1 (ansHold hi hm)
    · by_cases k2 : k = 2
      · subst k2
        exact ansDo2 (ansShed hi hm n h1)
      · by_cases k3 : k = 3
        · subst k3
          exact ansDo3 (ansBack hi hm n h1)
        · by_cases k4 : k = 4
          · subst k4
            exact ansDo4 (ansFuse hi n)
          · by_cases k5 : k = 5
            · subst k5
              exact ansDo5 (ansCrash hi hm n)
            · rw [show a.act ⟨k, n, s⟩ = a by unfold Ta.act; rw [if_neg k0, if_neg k1, if_neg k2, if_neg k3, if_neg k4, if_neg k5]]
              exact ansDo7 (k := k) hi (by omega)
end Go.Eng.SB.T

namespace Go.Eng.SB.T
open Go Go.Eng Go.Eng.SB Go.Lib Go.Proofs
noncomputable abbrev lpL : Code := loopOf (bodyOf Try.f3) 0
abbrev lvL : List Nat := [5, 7, 0, 1]
abbrev nlL : List (Nat × TypeId) := [(400, 5)]
def SL (l : List Ac) (keep : Int) (a : Ta) (i : Nat) : List AV × Heap := ([.ptr 0 0, .v (.int .i64 (i : Int)), slA l, .v (.int .i64 keep)], a.bl.map some)
def OL (l : List Ac) (keep : Int) (a : Ta) : Out := ⟨.exit 0, [.ptr 0 0, .any, slA l, .v (.int .i64 keep)], a.bl.map some⟩
theorem rLe (l : List Ac) (keep : Int) (a : Ta) (i : Nat) : roundE (P := Try.prog) (Γ := Γb) [] Lno false 0 0 lpL lvL nlL 129 (SL l keep a i).1 (SL l keep a i).2 =
  Tree.br (decide ((↑i : Int) < (↑(List.length l) : Int))) (Tree.chk (decide ((0 : Int) ≤ (↑i : Int)) && decide ((↑i : Int) < (↑(List.length l) : Int))) Tree.fail) (Tree.leaf (Out.mk (AEx.exit
    (0 : Nat)) [AV.ptr (0 : Nat) (0 : Nat), AV.v (Value.int IntKind.i64 (↑i : Int)), AV.sl (3 : Nat) (List.length l) (lsF Ac.c l), AV.v (Value.int IntKind.i64 keep)] [some (Blk.row [AV.v
    (Value.int IntKind.i64 (1048576 : Int)), AV.v (Value.int IntKind.i64 a.x.fi), AV.v (Value.int IntKind.i64 a.x.fa), AV.hs (1 : Nat) a.x.o a.x.n, AV.v (Value.int IntKind.i64 a.x.left),
    AV.v (Value.bool a.off)]), some (Blk.arr (1 : Nat) a.x.N fun j => [AV.v (Value.int IntKind.u8 (a.x.g j))])])) := by kernel_rfl
theorem rL (l : List Ac) (keep : Int) (a b : Ta) (i : Nat) (h : DoOK a b (l.getD i default)) : roundE (P := Try.prog) (Γ := Γb) [CT.at 16 h] Lno false 0 0 lpL lvL nlL 129 (SL l keep a i).1 (SL l keep a i).2 =
  Tree.br (decide ((↑i : Int) < (↑(List.length l) : Int))) (Tree.chk (decide ((0 : Int) ≤ (↑i : Int)) && decide ((↑i : Int) < (↑(List.length l) : Int))) (Tree.chk (cl (LeL [AV.ptr (0 : Nat) (0
    : Nat), AV.agg [AV.v (Value.int IntKind.i64 (List.getD l i default).k), AV.v (Value.int IntKind.i64 (List.getD l i default).n), AV.v (Value.string (List.getD l i default).s)]] [AV.ptr (0
    : Nat) (0 : Nat), AV.agg [AV.v (Value.int IntKind.i64 (List.getD l i default).k), AV.v (Value.int IntKind.i64 (List.getD l i default).n), AV.v (Value.string (List.getD l i default).s)]]
    ∧ LeH [some (Blk.row [AV.v (Value.int IntKind.i64 (1048576 : Int)), AV.v (Value.int IntKind.i64 a.x.fi), AV.v (Value.int IntKind.i64 a.x.fa), AV.hs (1 : Nat) a.x.o a.x.n, AV.v (Value.int
    IntKind.i64 a.x.left), AV.v (Value.bool a.off)]), some (Blk.arr (1 : Nat) a.x.N fun j => [AV.v (Value.int IntKind.u8 (a.x.g j))])] [some (Blk.row [AV.v (Value.int IntKind.i64 (1048576 :
    Int)), AV.v (Value.int IntKind.i64 a.x.fi), AV.v (Value.int IntKind.i64 a.x.fa), AV.hs (1 : Nat) a.x.o a.x.n, AV.v (Value.int IntKind.i64 a.x.left), AV.v (Value.bool a.off)]), some
    (Blk.arr (1 : Nat) a.x.N fun j => [AV.v (Value.int IntKind.u8 (a.x.g j))])])) (Tree.leaf (Out.mk AEx.normal [AV.ptr (0 : Nat) (0 : Nat), AV.v (Value.int IntKind.i64 (IntKind.wrap
    IntKind.i64 ((↑i : Int) + (1 : Int)))), AV.sl (3 : Nat) (List.length l) (lsF Ac.c l), AV.v (Value.int IntKind.i64 keep)] [some (Blk.row [AV.v (Value.int IntKind.i64 (1048576 : Int)),
    AV.v (Value.int IntKind.i64 b.x.fi), AV.v (Value.int IntKind.i64 b.x.fa), AV.hs (1 : Nat) b.x.o b.x.n, AV.v (Value.int IntKind.i64 b.x.left), AV.v (Value.bool b.off)]), some (Blk.arr (1
    : Nat) b.x.N fun j => [AV.v (Value.int IntKind.u8 (b.x.g j))])])))) (Tree.leaf (Out.mk (AEx.exit (0 : Nat)) [AV.ptr (0 : Nat) (0 : Nat), AV.v (Value.int IntKind.i64 (↑i : Int)), AV.sl (3
    : Nat) (List.length l) (lsF Ac.c l), AV.v (Value.int IntKind.i64 keep)] [some (Blk.row [AV.v (Value.int IntKind.i64 (1048576 : Int)), AV.v (Value.int IntKind.i64 a.x.fi), AV.v (Value.int
    IntKind.i64 a.x.fa), AV.hs (1 : Nat) a.x.o a.x.n, AV.v (Value.int IntKind.i64 a.x.left), AV.v (Value.bool a.off)]), some (Blk.arr (1 : Nat) a.x.N fun j => [AV.v (Value.int IntKind.u8
    (a.x.g j))])])) := by kernel_rfl
theorem rL2 (l : List Ac) (keep : Int) (a b : Ta) (i : Nat) (h : AnsD2 a b (actV (l.getD i default).k (l.getD i default).n (l.getD i default).s)) : roundE (P := Try.prog) (Γ := Γb) [CT.at 16 h] Lno false 0 0 lpL lvL nlL 129 (SL l keep a i).1 (SL l keep a i).2 =
  Tree.br (decide ((↑i : Int) < (↑(List.length l) : Int))) (Tree.chk (decide ((0 : Int) ≤ (↑i : Int)) && decide ((↑i : Int) < (↑(List.length l) : Int))) (Tree.chk (cl (LeL [AV.ptr (0 : Nat) (0
    : Nat), AV.agg [AV.v (Value.int IntKind.i64 (List.getD l i default).k), AV.v (Value.int IntKind.i64 (List.getD l i default).n), AV.v (Value.string (List.getD l i default).s)]] [AV.ptr (0
    : Nat) (0 : Nat), AV.agg [AV.v (Value.int IntKind.i64 (List.getD l i default).k), AV.v (Value.int IntKind.i64 (List.getD l i default).n), AV.v (Value.string (List.getD l i default).s)]]
    ∧ LeH [some (Blk.row [AV.v (Value.int IntKind.i64 (1048576 : Int)), AV.v (Value.int IntKind.i64 a.x.fi), AV.v (Value.int IntKind.i64 a.x.fa), AV.hs (1 : Nat) a.x.o a.x.n, AV.v (Value.int
    IntKind.i64 a.x.left), AV.v (Value.bool a.off)]), some (Blk.arr (1 : Nat) a.x.N fun j => [AV.v (Value.int IntKind.u8 (a.x.g j))])] [some (Blk.row [AV.v (Value.int IntKind.i64 (1048576 :
    Int)), AV.v (Value.int IntKind.i64 a.x.fi), AV.v (Value.int IntKind.i64 a.x.fa), AV.hs (1 : Nat) a.x.o a.x.n, AV.v (Value.int IntKind.i64 a.x.left), AV.v (Value.bool a.off)]), some
    (Blk.arr (1 : Nat) a.x.N fun j => [AV.v (Value.int IntKind.u8 (a.x.g j))])])) (Tree.leaf (Out.mk AEx.normal [AV.ptr (0 : Nat) (0 : Nat), AV.v (Value.int IntKind.i64 (IntKind.wrap
    IntKind.i64 ((↑i : Int) + (1 : Int)))), AV.sl (3 : Nat) (List.length l) (lsF Ac.c l), AV.v (Value.int IntKind.i64 keep)] [some (Blk.row [AV.v (Value.int IntKind.i64 (1048576 : Int)),
    AV.v (Value.int IntKind.i64 b.x.fi), AV.v (Value.int IntKind.i64 b.x.fa), AV.hs (1 : Nat) b.x.o b.x.n, AV.v (Value.int IntKind.i64 b.x.left), AV.v (Value.bool b.off)]), some (Blk.arr (1
    : Nat) b.x.N fun j => [AV.v (Value.int IntKind.u8 (b.x.g j))])])))) (Tree.leaf (Out.mk (AEx.exit (0 : Nat)) [AV.ptr (0 : Nat) (0 : Nat), AV.v (Value.int IntKind.i64 (↑i : Int)), AV.sl (3
    : Nat) (List.length l) (lsF Ac.c l), AV.v (Value.int IntKind.i64 keep)] [some (Blk.row [AV.v (Value.int IntKind.i64 (1048576 : Int)), AV.v (Value.int IntKind.i64 a.x.fi), AV.v (Value.int
    IntKind.i64 a.x.fa), AV.hs (1 : Nat) a.x.o a.x.n, AV.v (Value.int IntKind.i64 a.x.left), AV.v (Value.bool a.off)]), some (Blk.arr (1 : Nat) a.x.N fun j => [AV.v (Value.int IntKind.u8
    (a.x.g j))])])) := by kernel_rfl
end Go.Eng.SB.T

namespace Go.Eng.SB.T
open Go Go.Eng Go.Eng.SB Go.Lib Go.Proofs
noncomputable def z14x : CT Try.prog Γb := CT.auto true 100 3 [] 14 Try.f14 (bodyOf Try.f14) false 13 [.tmp 2, .tmp 3] Try.func14 (by kernel_rfl) (by kernel_rfl) (by kernel_rfl) (by kernel_rfl)
noncomputable def z78x : CT Try.prog Γb := CT.auto true 100 3 [] 78 Try.f78 (bodyOf Try.f78) false 11 [.tmp 2] Try.func78 (by kernel_rfl) (by kernel_rfl) (by kernel_rfl) (by kernel_rfl)
noncomputable def z118x : CT Try.prog Γb := CT.auto true 100 3 [] 118 Try.f118 (bodyOf Try.f118) false 23 [.tmp 2] Try.func118 (by kernel_rfl) (by kernel_rfl) (by kernel_rfl) (by kernel_rfl)
noncomputable def z73x : CT Try.prog Γb := CT.auto true 100 3 [z78x, z118x] 73 Try.f73 (bodyOf Try.f73) false 52 [.tmp 4] Try.func73 (by kernel_rfl) (by kernel_rfl) (by kernel_rfl) (by kernel_rfl)
noncomputable def z77x : CT Try.prog Γb := CT.auto true 100 3 [] 77 Try.f77 (bodyOf Try.f77) false 13 [.tmp 2] Try.func77 (by kernel_rfl) (by kernel_rfl) (by kernel_rfl) (by kernel_rfl)
noncomputable def z74x : CT Try.prog Γb := CT.auto true 100 3 [z78x, z118x, z77x] 74 Try.f74 (bodyOf Try.f74) false 18 [.tmp 2] Try.func74 (by kernel_rfl) (by kernel_rfl) (by kernel_rfl) (by kernel_rfl)
noncomputable def z119x : CT Try.prog Γb := CT.auto true 100 3 [z118x] 119 Try.f119 (bodyOf Try.f119) false 19 [.tmp 8] Try.func119 (by kernel_rfl) (by kernel_rfl) (by kernel_rfl) (by kernel_rfl)
noncomputable def z75x : CT Try.prog Γb := CT.auto true 100 3 [z78x, z119x] 75 Try.f75 (bodyOf Try.f75) false 44 [.tmp 4] Try.func75 (by kernel_rfl) (by kernel_rfl) (by kernel_rfl) (by kernel_rfl)
noncomputable def z76x : CT Try.prog Γb := CT.auto true 100 3 [z78x, z77x, z119x] 76 Try.f76 (bodyOf Try.f76) false 47 [.tmp 4] Try.func76 (by kernel_rfl) (by kernel_rfl) (by kernel_rfl) (by kernel_rfl)
noncomputable def z38x : CT Try.prog Γb := CT.auto true 100 3 [] 38 Try.f38 (bodyOf Try.f38) false 15 [.tmp 4] Try.func38 (by kernel_rfl) (by kernel_rfl) (by kernel_rfl) (by kernel_rfl)
noncomputable def z18x : CT Try.prog Γb := CT.auto true 100 3 [z77x] 18 Try.f18 (bodyOf Try.f18) false 49 [.tmp 4] Try.func18 (by kernel_rfl) (by kernel_rfl) (by kernel_rfl) (by kernel_rfl)
noncomputable def z79x : CT Try.prog Γb := CT.auto true 100 3 [] 79 Try.f79 (bodyOf Try.f79) false 8 [.tmp 2] Try.func79 (by kernel_rfl) (by kernel_rfl) (by kernel_rfl) (by kernel_rfl)
noncomputable def z19x : CT Try.prog Γb := CT.auto true 100 3 [z78x, z79x] 19 Try.f19 (bodyOf Try.f19) false 20 [.tmp 2, .tmp 3, .tmp 4] Try.func19 (by kernel_rfl) (by kernel_rfl) (by kernel_rfl) (by kernel_rfl)
noncomputable def z16x : CT Try.prog Γb := CT.auto true 100 3 [z73x, z74x, z75x, z76x, z38x, z18x, z19x] 16 Try.f16 (bodyOf Try.f16) false 52 [.tmp 4] Try.func16 (by kernel_rfl) (by kernel_rfl) (by kernel_rfl) (by kernel_rfl)
theorem zrun13 : (bodyE (P := Try.prog) (Γ := Γb) [z14x, z16x, z19x] (autoL true 100 [z14x, z16x, z19x] false 0 51 (loopBodies (bodyOf Try.f13)) 3) false 51 [.tmp 0] (bodyOf Try.f13) [] []).get = some ⟨.sb true, []⟩ := by kernel_rfl
noncomputable def z13' : CT Try.prog Γb := CT.fact 13 Try.f13 (bodyOf Try.f13) [z14x, z16x, z19x] (autoL true 100 [z14x, z16x, z19x] false 0 51 (loopBodies (bodyOf Try.f13)) 3) false 51 [.tmp 0] Try.func13 (by kernel_rfl) (by kernel_rfl) (by kernel_rfl) (by kernel_rfl) (autoL_ok 3) (.sb true) (.sb true) zrun13
end Go.Eng.SB.T

namespace Go.Eng.SB.T
open Go Go.Eng Go.Eng.SB Go.Lib Go.Proofs
def okL (l : List Ac) : Prop := l.length ≤ 100 ∧ ∀ i, i < l.length → (l.getD i default).ok
def finT (l : List Ac) (a : Ta) (i : Nat) : Ta := (l.drop i).foldl Ta.act a
theorem finT_next {l : List Ac} {a : Ta} {i : Nat} (h : i < l.length) : finT l a i = finT l (a.act (l.getD i default)) (i + 1) := by
  unfold finT
  rw [List.drop_eq_getElem_cons h, getD_get h, List.foldl_cons]
theorem finT_end {l : List Ac} {a : Ta} {i : Nat} (h : l.length ≤ i) : finT l a i = a := by
  unfold finT
  rw [List.drop_eq_nil_of_le h]; rfl
theorem finT_inv {l : List Ac} (ha : okL l) : ∀ (n : Nat) (a : Ta) (i : Nat), n = l.length - i → a.Inv (3000 * i) → i ≤ l.length → (finT l a i).Inv (3000 * l.length)
  | 0, a, i, hn, hi, hle => by
    rw [finT_end (by omega)]
    exact hi.mono (by omega)
  | n + 1, a, i, hn, hi, hle => by
    have h : i < l.length := by omega
    rw [finT_next h]
    exact finT_inv ha n _ (i + 1) (by omega) ((inv_act hi (ha.2 i h)).mono (by omega)) h
theorem loopL {l : List Ac} {keep : Int} (ha : okL l) : ∀ y : Ta × Nat, (y.2 ≤ l.length ∧ y.1.Inv (3000 * y.2)) → LoopOK Try.prog Γb 0 129 lpL (LSpec.at lvL nlL (SL l keep y.1 y.2) (OL l keep (finT l y.1 y.2))) := by
  refine loop_at (S := fun y : Ta × Nat => SL l keep y.1 y.2) (pre := fun y => y.2 ≤ l.length ∧ y.1.Inv (3000 * y.2)) (O := fun y => OL l keep (finT l y.1 y.2)) (k := 0) (fun y => l.length - y.2) fun y hp => ?_
  obtain ⟨a, i⟩ := y
  obtain ⟨h1, h2⟩ := hp
  dsimp only at h1 h2
  have hn := ha.1
  rcases Nat.lt_or_ge i l.length with h | h
  · have hok := ha.2 i h
    have e1 : IntKind.i64.wrap ((i : Int) + 1) = ((i + 1 : Nat) : Int) := wrapUpN (by omega)
    have hinv := (inv_act h2 hok).mono (k := 3000 * (i + 1)) (by omega)
    have hfin := finT_next (a := a) h
    rcases ansDo h2 (by omega) hok with hd | hd
    · refine .of (L := Lno) (failOK fun _ _ _ => rfl) (rL l keep a _ i hd) ?_
      simp only [e1]
      repeat' (first | refine wC (by first | omega | (simp only [W1, cond_true, cond_false]; first | done | omega)) ?_ | refine wT (by first | omega | (simp only [W1, cond_true, cond_false]; first | done | omega)) ?_ | refine wF (by intro _h; first | omega | (simp only [W1, cond_true, cond_false] at _h; first | done | omega)) ?_ | (refine wS ?_ ?_ <;> intro _h <;> simp only [W1, cond_true, cond_false] at _h))
      all_goals simp only [or_true, true_or, false_or, or_false, and_false, false_and, cond_true, cond_false, Bool.not_true, Bool.not_false, Bool.false_eq_true, Bool.true_eq_false, not_true_eq_false, not_false_eq_true, false_implies, true_implies, implies_true, Nat.blt_eq, owesN, owesX, owesR, notT, sat_brT, sat_brF, sat_chkT, cl_iff, cl_false, AV.le_refl, AV.le_any, OLe_refl, OLe_none, sat_brN, Tree.sat_chk, Tree.sat_leaf, Tree.sat_fail, Nat.zero_add, Nat.sub_zero, Int.toNat_natCast, LeH_cons, LeH_nil, LeL_cons, LeL_nil, and_true, true_and, Bool.and_eq_true, Bool.or_eq_true, decide_eq_true_eq, decide_eq_false_iff_not, Bool.cond_true_left, Bool.cond_false_right, List.cons_append, List.nil_append, List.map_cons, List.map_nil]
      repeat' (first | apply And.intro | intro _hc)
      all_goals first | exact cl_iff.2 ⟨LeL.refl _, LeH.refl _⟩ | exact ⟨(a.act (l.getD i default), i + 1), LeL.refl _, LeH.refl _, ⟨by show i + 1 ≤ _; omega, hinv⟩, by (dsimp only; rw [hfin]), by (dsimp only; omega)⟩ | exact AV.le_refl _ | exact AV.le_any _ | exact OLe.refl _ | exact OLe.none _ | exact LeH.refl _ | exact LeL.refl _ | exact AV.le.bs _ | exact AV.le.sb _ | omega | contradiction
    · refine .of (L := Lno) (failOK fun _ _ _ => rfl) (rL2 l keep a _ i hd) ?_
      simp only [e1]
      repeat' (first | refine wC (by first | omega | (simp only [W1, cond_true, cond_false]; first | done | omega)) ?_ | refine wT (by first | omega | (simp only [W1, cond_true, cond_false]; first | done | omega)) ?_ | refine wF (by intro _h; first | omega | (simp only [W1, cond_true, cond_false] at _h; first | done | omega)) ?_ | (refine wS ?_ ?_ <;> intro _h <;> simp only [W1, cond_true, cond_false] at _h))
      all_goals simp only [or_true, true_or, false_or, or_false, and_false, false_and, cond_true, cond_false, Bool.not_true, Bool.not_false, Bool.false_eq_true, Bool.true_eq_false, not_true_eq_false, not_false_eq_true, false_implies, true_implies, implies_true, Nat.blt_eq, owesN, owesX, owesR, notT, sat_brT, sat_brF, sat_chkT, cl_iff, cl_false, AV.le_refl, AV.le_any, OLe_refl, OLe_none, sat_brN, Tree.sat_chk, Tree.sat_leaf, Tree.sat_fail, Nat.zero_add, Nat.sub_zero, Int.toNat_natCast, LeH_cons, LeH_nil, LeL_cons, LeL_nil, and_true, true_and, Bool.and_eq_true, Bool.or_eq_true, decide_eq_true_eq, decide_eq_false_iff_not, Bool.cond_true_left, Bool.cond_false_right, List.cons_append, List.nil_append, List.map_cons, List.map_nil]
      repeat' (first | apply And.intro | intro _hc)
      all_goals first | exact cl_iff.2 ⟨LeL.refl _, LeH.refl _⟩ | exact ⟨(a.act (l.getD i default), i + 1), LeL.refl _, LeH.refl _, ⟨by show i + 1 ≤ _; omega, hinv⟩, by (dsimp only; rw [hfin]), by (dsimp only; omega)⟩ | exact AV.le_refl _ | exact AV.le_any _ | exact OLe.refl _ | exact OLe.none _ | exact LeH.refl _ | exact LeL.refl _ | exact AV.le.bs _ | exact AV.le.sb _ | omega | contradiction
  · refine .of (L := Lno) (failOK fun _ _ _ => rfl) (rLe l keep a i) ?_
    rw [show finT l (a, i).1 (a, i).2 = a from finT_end h]
    repeat' (first | refine wC (by first | omega | (simp only [W1, cond_true, cond_false]; first | done | omega)) ?_ | refine wT (by first | omega | (simp only [W1, cond_true, cond_false]; first | done | omega)) ?_ | refine wF (by intro _h; first | omega | (simp only [W1, cond_true, cond_false] at _h; first | done | omega)) ?_ | (refine wS ?_ ?_ <;> intro _h <;> simp only [W1, cond_true, cond_false] at _h))
    all_goals simp only [or_true, true_or, false_or, or_false, and_false, false_and, cond_true, cond_false, Bool.not_true, Bool.not_false, Bool.false_eq_true, Bool.true_eq_false, not_true_eq_false, not_false_eq_true, false_implies, true_implies, implies_true, Nat.blt_eq, owesN, owesX, owesR, notT, sat_brT, sat_brF, sat_chkT, cl_iff, cl_false, AV.le_refl, AV.le_any, OLe_refl, OLe_none, sat_brN, Tree.sat_chk, Tree.sat_leaf, Tree.sat_fail, Nat.zero_add, Nat.sub_zero, Int.toNat_natCast, LeH_cons, LeH_nil, LeL_cons, LeL_nil, and_true, true_and, Bool.and_eq_true, Bool.or_eq_true, decide_eq_true_eq, decide_eq_false_iff_not, Bool.cond_true_left, Bool.cond_false_right, List.cons_append, List.nil_append, List.map_cons, List.map_nil]
    repeat' (first | apply And.intro | intro _hc)
    all_goals first | exact rfl | exact ⟨.refl _, .any _, .refl _, .refl _, trivial⟩ | exact LeH.refl _ | exact AV.le_refl _ | exact AV.le_any _ | exact OLe.refl _ | exact OLe.none _ | exact LeH.refl _ | exact LeL.refl _ | exact AV.le.bs _ | exact AV.le.sb _ | omega | contradiction
def AT (y : List Ac × Int) : List AV := [slA y.1, .v (.int .i64 y.2)]
def RdOK (x : EX) : Prop := Answers Try.prog Γb 19 [.ptr 0 0] x.bl (.tup [.v (.int .i64 x.fi), .hs 2 0 x.n, .v (.int .i64 0)]) (x.bl.map some) [.arr 1 x.n fun j => x.f (x.o + j)]
noncomputable def hRd : CT Try.prog Γb := CT.ex 19 toE RdOK (fun x => .tup [.v (.int .i64 x.fi), .hs 2 0 x.n, .v (.int .i64 0)]) (fun _ => []) (fun x => [.arr 1 x.n fun j => x.f (x.o + j)])
  (callFunc_enters Try.func19 (by kernel_rfl) (by kernel_rfl)) (fun args Hin x hx hp => by
    obtain ⟨rfl, rfl⟩ := toE_inv hx
    exact hp.cU rfl)
noncomputable def k17 : CT Try.prog Γb := CT.auto false 100 3 [] 17 Try.f17 (bodyOf Try.f17) false 12 [.tmp 2] Try.func17 (by kernel_rfl) (by kernel_rfl) (by kernel_rfl) (by kernel_rfl)
noncomputable def k20 : CT Try.prog Γb := CT.auto false 100 3 [k77] 20 Try.f20 (bodyOf Try.f20) false 17 [.tmp 2, .tmp 3, .tmp 4] Try.func20 (by kernel_rfl) (by kernel_rfl) (by kernel_rfl) (by kernel_rfl)
def t0 : Tp := ⟨0, 0, 0, 0, 0, fun _ => 0, -1⟩
theorem lawTf (l : List Ac) (keep : Int) (hF : Answers Try.prog Γb 15 [slA l] [] (.v (.bool true)) [] []) (hN : Answers Try.prog Γb 14 [.v (.int .i64 1048576)] [] (.tup [.ptr 0 0, .v (.int .i64 0)]) [] [newT]) : bodyE (P := Try.prog) (Γ := Γb) [z13', CT.at 15 hF, CT.at 14 hN] Lno false 129 [.tmp 4] (bodyOf Try.f3) (AT (l, keep)) [] =
  Tree.chk (cl (LeL [AV.v (Value.int IntKind.i64 (1048576 : Int))] [AV.v (Value.int IntKind.i64 (1048576 : Int))] ∧ LeH [] [])) (Tree.chk (cl (LeL [AV.sl (3 : Nat) (List.length (l, keep).fst)
    (lsF Ac.c (l, keep).fst)] [AV.sl (3 : Nat) (List.length l) (lsF Ac.c l)] ∧ LeH [] [])) (Tree.br true (Tree.leaf (Ans.mk (AV.sb true) [])) Tree.fail)) := by kernel_rfl
theorem lawTo (l : List Ac) (keep : Int) (x b : Tp) (hF : Answers Try.prog Γb 15 [slA l] [] (.v (.bool false)) [] []) (hN : Answers Try.prog Γb 14 [.v (.int .i64 1048576)] [] (.tup [.ptr 0 0, .v (.int .i64 0)]) [] [newT]) (hC : Answers Try.prog Γb 18 [.ptr 0 0, .v (.int .i64 keep)] (x.bl true) (.v (.int .i64 0)) ((b.bl false).map some) []) : bodyE (P := Try.prog) (Γ := Γb) [z13', CT.at 15 hF, CT.at 14 hN, k17, CT.at 18 hC] (fun _ => LSpec.at lvL nlL (SL l keep ⟨t0, false⟩ 0) (OL l keep ⟨x, true⟩)) false 129 [.tmp 4] (bodyOf Try.f3) (AT (l, keep)) [] =
  Tree.chk (cl (LeL [AV.v (Value.int IntKind.i64 (1048576 : Int))] [AV.v (Value.int IntKind.i64 (1048576 : Int))] ∧ LeH [] [])) (Tree.chk (cl (LeL [AV.sl (3 : Nat) (List.length (l, keep).fst)
    (lsF Ac.c (l, keep).fst)] [AV.sl (3 : Nat) (List.length l) (lsF Ac.c l)] ∧ LeH [] [])) (Tree.br false (Tree.leaf (Ans.mk (AV.sb true) [])) (Tree.chk (cl (LeL [AV.ptr (0 : Nat) (0 : Nat),
    AV.v (Value.int IntKind.i64 (0 : Int)), AV.sl (3 : Nat) (List.length (l, keep).fst) (lsF Ac.c (l, keep).fst), AV.v (Value.int IntKind.i64 keep)] [AV.ptr (0 : Nat) (0 : Nat), AV.v
    (Value.int IntKind.i64 (↑(0 : Nat) : Int)), AV.sl (3 : Nat) (List.length l) (lsF Ac.c l), AV.v (Value.int IntKind.i64 keep)] ∧ LeH [some (Blk.row [AV.v (Value.int IntKind.i64 (1048576 :
    Int)), AV.v (Value.int IntKind.i64 (0 : Int)), AV.v (Value.int IntKind.i64 (0 : Int)), AV.hs (1 : Nat) (0 : Nat) (0 : Nat), AV.v (Value.int IntKind.i64 (-1 : Int)), AV.v (Value.bool
    false)]), some (Blk.arr (1 : Nat) (0 : Nat) fun x => [AV.v (Value.int IntKind.u8 (0 : Int))])] [some (Blk.row [AV.v (Value.int IntKind.i64 (1048576 : Int)), AV.v (Value.int IntKind.i64
    (0 : Int)), AV.v (Value.int IntKind.i64 (0 : Int)), AV.hs (1 : Nat) (0 : Nat) (0 : Nat), AV.v (Value.int IntKind.i64 (-1 : Int)), AV.v (Value.bool false)]), some (Blk.arr (1 : Nat) (0 :
    Nat) fun j => [AV.v (Value.int IntKind.u8 (t0.g j))])])) (Tree.chk (cl (LeL [AV.ptr (0 : Nat) (0 : Nat), AV.v (Value.int IntKind.i64 keep)] [AV.ptr (0 : Nat) (0 : Nat), AV.v (Value.int
    IntKind.i64 keep)] ∧ LeH [some (Blk.row [AV.v (Value.int IntKind.i64 (1048576 : Int)), AV.v (Value.int IntKind.i64 x.fi), AV.v (Value.int IntKind.i64 x.fa), AV.hs (1 : Nat) x.o x.n, AV.v
    (Value.int IntKind.i64 x.left), AV.v (Value.bool true)]), some (Blk.arr (1 : Nat) x.N fun j => [AV.v (Value.int IntKind.u8 (x.g j))])] [some (Blk.row [AV.v (Value.int IntKind.i64
    (1048576 : Int)), AV.v (Value.int IntKind.i64 x.fi), AV.v (Value.int IntKind.i64 x.fa), AV.hs (1 : Nat) x.o x.n, AV.v (Value.int IntKind.i64 x.left), AV.v (Value.bool true)]), some
    (Blk.arr (1 : Nat) x.N fun j => [AV.v (Value.int IntKind.u8 (x.g j))])])) (Tree.br true (Tree.leaf (Ans.mk (AV.v (Value.bool true)) [])) (Tree.leaf (Ans.mk (AV.v (Value.bool false))
    []))))))) := by kernel_rfl
theorem lawTn (l : List Ac) (keep : Int) (x b : Tp) (hF : Answers Try.prog Γb 15 [slA l] [] (.v (.bool false)) [] []) (hN : Answers Try.prog Γb 14 [.v (.int .i64 1048576)] [] (.tup [.ptr 0 0, .v (.int .i64 0)]) [] [newT]) (hC : Answers Try.prog Γb 18 [.ptr 0 0, .v (.int .i64 keep)] (x.bl false) (.v (.int .i64 0)) ((b.bl false).map some) []) : bodyE (P := Try.prog) (Γ := Γb) [z13', CT.at 15 hF, CT.at 14 hN, k17, k20, hRd, CT.at 18 hC] (fun _ => LSpec.at lvL nlL (SL l keep ⟨t0, false⟩ 0) (OL l keep ⟨x, false⟩)) false 129 [.tmp 4] (bodyOf Try.f3) (AT (l, keep)) [] =
  Tree.chk (cl (LeL [AV.v (Value.int IntKind.i64 (1048576 : Int))] [AV.v (Value.int IntKind.i64 (1048576 : Int))] ∧ LeH [] [])) (Tree.chk (cl (LeL [AV.sl (3 : Nat) (List.length (l, keep).fst)
    (lsF Ac.c (l, keep).fst)] [AV.sl (3 : Nat) (List.length l) (lsF Ac.c l)] ∧ LeH [] [])) (Tree.br false (Tree.leaf (Ans.mk (AV.sb true) [])) (Tree.chk (cl (LeL [AV.ptr (0 : Nat) (0 : Nat),
    AV.v (Value.int IntKind.i64 (0 : Int)), AV.sl (3 : Nat) (List.length (l, keep).fst) (lsF Ac.c (l, keep).fst), AV.v (Value.int IntKind.i64 keep)] [AV.ptr (0 : Nat) (0 : Nat), AV.v
    (Value.int IntKind.i64 (↑(0 : Nat) : Int)), AV.sl (3 : Nat) (List.length l) (lsF Ac.c l), AV.v (Value.int IntKind.i64 keep)] ∧ LeH [some (Blk.row [AV.v (Value.int IntKind.i64 (1048576 :
    Int)), AV.v (Value.int IntKind.i64 (0 : Int)), AV.v (Value.int IntKind.i64 (0 : Int)), AV.hs (1 : Nat) (0 : Nat) (0 : Nat), AV.v (Value.int IntKind.i64 (-1 : Int)), AV.v (Value.bool
    false)]), some (Blk.arr (1 : Nat) (0 : Nat) fun x => [AV.v (Value.int IntKind.u8 (0 : Int))])] [some (Blk.row [AV.v (Value.int IntKind.i64 (1048576 : Int)), AV.v (Value.int IntKind.i64
    (0 : Int)), AV.v (Value.int IntKind.i64 (0 : Int)), AV.hs (1 : Nat) (0 : Nat) (0 : Nat), AV.v (Value.int IntKind.i64 (-1 : Int)), AV.v (Value.bool false)]), some (Blk.arr (1 : Nat) (0 :
    Nat) fun j => [AV.v (Value.int IntKind.u8 (t0.g j))])])) (Tree.chk (cl (RdOK (EX.mk (1048576 : Int) x.fi x.fa x.o x.n x.left false x.N (bF (Ta.mk x false).x.g)))) (Tree.chk (cl True)
    (Tree.chk (cl (LeL [AV.ptr (0 : Nat) (0 : Nat), AV.v (Value.int IntKind.i64 keep)] [AV.ptr (0 : Nat) (0 : Nat), AV.v (Value.int IntKind.i64 keep)] ∧ LeH [some (Blk.row [AV.v (Value.int
    IntKind.i64 (1048576 : Int)), AV.v (Value.int IntKind.i64 x.fi), AV.v (Value.int IntKind.i64 x.fa), AV.hs (1 : Nat) x.o x.n, AV.v (Value.int IntKind.i64 x.left), AV.v (Value.bool
    false)]), some (Blk.arr (1 : Nat) x.N fun j => [AV.v (Value.int IntKind.u8 (x.g j))])] [some (Blk.row [AV.v (Value.int IntKind.i64 (1048576 : Int)), AV.v (Value.int IntKind.i64 x.fi),
    AV.v (Value.int IntKind.i64 x.fa), AV.hs (1 : Nat) x.o x.n, AV.v (Value.int IntKind.i64 x.left), AV.v (Value.bool false)]), some (Blk.arr (1 : Nat) x.N fun j => [AV.v (Value.int
    IntKind.u8 (x.g j))])])) (Tree.br false (Tree.leaf (Ans.mk (AV.v (Value.bool false)) [])) (Tree.chk (cl (RdOK (EX.mk (1048576 : Int) b.fi b.fa b.o b.n b.left false b.N (bF b.g))))
    (Tree.chk (cl True) (Tree.chk (bif decide (b.fi = x.fi) then bif decide (b.fi = x.fi) then bif decide (b.fa = IntKind.wrap IntKind.i64 (b.fi + (↑b.n : Int))) then bif decide (x.fa ≤
    IntKind.wrap IntKind.i64 (b.fi + (↑b.n : Int))) then bif decide (IntKind.wrap IntKind.i64 (b.fi + (↑b.n : Int)) ≤ IntKind.wrap IntKind.i64 (x.fi + (↑x.n : Int))) then bif decide ((↑b.n :
    Int) ≤ (↑x.n : Int)) then (allBytes b.n fun j => [AV.v (Value.int IntKind.u8 (b.g (b.o + ((0 : Nat) + j))))]) && (decide ((↑(0 : Nat) : Int) ≤ (↑b.n : Int)) && decide ((↑b.n : Int) ≤
    (↑x.n : Int)) && allBytes b.n fun j => [AV.v (Value.int IntKind.u8 (x.g (x.o + ((0 : Nat) + j))))]) else true else true else true else true else true else true) (Tree.leaf (Ans.mk (AV.sb
    (bif decide (b.fi = x.fi) then bif decide (b.fi = x.fi) then bif decide (b.fa = IntKind.wrap IntKind.i64 (b.fi + (↑b.n : Int))) then bif decide (x.fa ≤ IntKind.wrap IntKind.i64 (b.fi +
    (↑b.n : Int))) then bif decide (IntKind.wrap IntKind.i64 (b.fi + (↑b.n : Int)) ≤ IntKind.wrap IntKind.i64 (x.fi + (↑x.n : Int))) then bif decide ((↑b.n : Int) ≤ (↑x.n : Int)) then decide
    ((textOf b.n fun j => [AV.v (Value.int IntKind.u8 (b.g (b.o + ((0 : Nat) + j))))]) = textOf b.n fun j => [AV.v (Value.int IntKind.u8 (x.g (x.o + ((0 : Nat) + j))))]) else false else
    false else false else false else false else false)) [])))))))))))) := by kernel_rfl
end Go.Eng.SB.T

namespace Go.Eng.SB.T
open Go Go.Eng Go.Eng.SB Go.Lib Go.Proofs
def goodA (y : List Ac × Int) : Prop := ∀ i, i < y.1.length → -9223372036854775808 ≤ (y.1.getD i default).n ∧ (y.1.getD i default).n ≤ 9223372036854775807
theorem ac_n {a : Ac} (h : GoodVs Ac.ks a.cells) : -9223372036854775808 ≤ a.n ∧ a.n ≤ 9223372036854775807 := by
  obtain ⟨n, h1, h2⟩ := h.2.1
  cases h1
  have := bounds_i64 h2
  exact ⟨this.1, this.2⟩
theorem okL_of {l : List Ac} {keep : Int} (hf : farB l = false) (hg : goodA (l, keep)) : okL l := by
  unfold farB at hf
  rw [Bool.or_eq_false_iff] at hf
  obtain ⟨h1, h2⟩ := hf
  have h1 := of_decide_eq_false h1
  refine ⟨by omega, fun i hi => ⟨hg i hi, ?_⟩⟩
  have := List.any_eq_false.1 h2 l[i] (List.getElem_mem hi)
  rw [getD_get hi]
  simp only [decide_eq_true_eq] at this
  omega
theorem rdOK {x : Tp} {m : Nat} (hi : (Ta.mk x false).Inv m) : RdOK ⟨1048576, x.fi, x.fa, x.o, x.n, x.left, false, x.N, bF x.g⟩ := ansRd hi rfl
theorem allB (n : Nat) (g : Nat → Int) : allBytes n (fun j => [AV.v (Value.int IntKind.u8 (g j))]) = true := by
  unfold allBytes
  rw [List.all_eq_true]
  intro j _
  rfl
theorem lawTF (y : List Ac × Int) (hg : goodA y) : LawOK Try.prog Γb 129 [.tmp 4] (bodyOf Try.f3) (AT y) := by
  obtain ⟨l, keep⟩ := y
  have hF := ansF (l := l)
  have hN := ansN
  cases hf : farB l with
  | true =>
    rw [hf] at hF
    refine .mk' (T := [z13', CT.at 15 hF, CT.at 14 hN]) (ip := false) (L := Lno) (failOK fun _ _ _ => rfl) (Right.of (lawTf l keep hF hN) ?_)
    repeat' (first | refine wC (by first | omega | (simp only [W1, cond_true, cond_false]; first | done | omega)) ?_ | refine wT (by first | omega | (simp only [W1, cond_true, cond_false]; first | done | omega)) ?_ | refine wF (by intro _h; first | omega | (simp only [W1, cond_true, cond_false] at _h; first | done | omega)) ?_ | (refine wS ?_ ?_ <;> intro _h <;> simp only [W1, cond_true, cond_false] at _h))
    all_goals simp only [or_true, true_or, false_or, or_false, and_false, false_and, cond_true, cond_false, Bool.not_true, Bool.not_false, Bool.false_eq_true, Bool.true_eq_false, not_true_eq_false, not_false_eq_true, false_implies, true_implies, implies_true, Nat.blt_eq, owesN, owesX, owesR, notT, sat_brT, sat_brF, sat_chkT, cl_iff, cl_false, AV.le_refl, AV.le_any, OLe_refl, OLe_none, sat_brN, Tree.sat_chk, Tree.sat_leaf, Tree.sat_fail, Nat.zero_add, Nat.sub_zero, Int.toNat_natCast, LeH_cons, LeH_nil, LeL_cons, LeL_nil, and_true, true_and, Bool.and_eq_true, Bool.or_eq_true, decide_eq_true_eq, decide_eq_false_iff_not, Bool.cond_true_left, Bool.cond_false_right, List.cons_append, List.nil_append, List.map_cons, List.map_nil]
    repeat' (first | apply And.intro | intro _hc)
    all_goals first | exact cl_iff.2 ⟨LeL.refl _, trivial⟩ | exact ⟨.refl _, trivial⟩ | exact AV.le_refl _ | exact AV.le_any _ | exact OLe.refl _ | exact OLe.none _ | exact LeH.refl _ | exact LeL.refl _ | exact AV.le.bs _ | exact AV.le.sb _ | omega | contradiction
  | false =>
    rw [hf] at hF
    have ha := okL_of hf hg
    have hi0 : (Ta.mk t0 false).Inv (3000 * 0) := ⟨Int.le_refl _, Int.le_refl _, by show (0 : Int) ≤ 0 + ((0 : Nat) : Int); omega, by show (0 : Int) + ((0 : Nat) : Int) ≤ ((3000 * 0 : Nat) : Int); omega, by show 0 + 0 ≤ 0; omega, by show (-1 : Int) ≤ -1; omega, by show (-1 : Int) ≤ _; omega, fun j => by show (0 : Int) ≤ 0 ∧ (0 : Int) < 256; omega, by show 0 ≤ 1048576; omega⟩
    have hl := loopL (keep := keep) ha (⟨t0, false⟩, 0) ⟨Nat.zero_le _, hi0⟩
    have hv := finT_inv ha l.length ⟨t0, false⟩ 0 (by omega) hi0 (Nat.zero_le _)
    dsimp only at hl
    have hn := ha.1
    generalize finT l ⟨t0, false⟩ 0 = a at *
    obtain ⟨x, off⟩ := a
    have hC := ansCrash hv (by omega) keep
    have hcv := inv_crash hv keep
    have hx1 : OLe (some (.arr 1 0 fun _ => [AV.v (Value.int IntKind.u8 0)])) (some (.arr 1 0 (bF t0.g))) := .some (.refl _)
    obtain ⟨k1, k2⟩ := kept_range hv keep
    have hlo : Ta.loose ⟨x, off⟩ = x.fi + (x.n : Int) - x.fa := rfl
    have hb : Ta.crash ⟨x, off⟩ keep = ⟨{ x with n := ((x.n : Int) - (Ta.mk x off).loose + (Ta.mk x off).kept keep).toNat, fa := x.fi + (((x.n : Int) - (Ta.mk x off).loose + (Ta.mk x off).kept keep).toNat : Int), left := -1 }, false⟩ := rfl
    have l0 := hv.l0; have l1 := hv.l1; have l2 := hv.l2; have l3 := hv.l3
    dsimp only at l0 l1 l2 l3
    generalize hk : (Ta.mk x off).kept keep = q at *
    rw [hlo] at hb k2
    rw [hb] at hC hcv
    cases off with
    | true =>
      generalize hbb : ({ x with n := ((x.n : Int) - (x.fi + (x.n : Int) - x.fa) + q).toNat, fa := x.fi + (((x.n : Int) - (x.fi + (x.n : Int) - x.fa) + q).toNat : Int), left := -1 } : Tp) = b at *
      refine .mk' (T := [z13', CT.at 15 hF, CT.at 14 hN, k17, CT.at 18 hC]) (ip := false) (L := fun _ => LSpec.at lvL nlL (SL l keep ⟨t0, false⟩ 0) (OL l keep ⟨x, true⟩)) (oneLoop (b := lpL) (by kernel_rfl) hl) (Right.of (lawTo l keep x b hF hN hC) ?_)
      refine wC (cl_iff.2 ⟨LeL.refl _, trivial⟩) (wC (cl_iff.2 ⟨LeL.refl _, trivial⟩) (wF (by decide) (wC (cl_iff.2 ⟨LeL.refl _, .refl _, hx1, trivial⟩) (wC (cl_iff.2 ⟨LeL.refl _, LeH.refl _⟩) ?_))))
      repeat' (first | refine wC (by first | omega | (simp only [W1, cond_true, cond_false]; first | done | omega)) ?_ | refine wT (by first | omega | (simp only [W1, cond_true, cond_false]; first | done | omega)) ?_ | refine wF (by intro _h; first | omega | (simp only [W1, cond_true, cond_false] at _h; first | done | omega)) ?_ | (refine wS ?_ ?_ <;> intro _h <;> simp only [W1, cond_true, cond_false] at _h))
      all_goals simp only [or_true, true_or, false_or, or_false, and_false, false_and, cond_true, cond_false, Bool.not_true, Bool.not_false, Bool.false_eq_true, Bool.true_eq_false, not_true_eq_false, not_false_eq_true, false_implies, true_implies, implies_true, Nat.blt_eq, owesN, owesX, owesR, notT, sat_brT, sat_brF, sat_chkT, cl_iff, cl_false, AV.le_refl, AV.le_any, OLe_refl, OLe_none, sat_brN, Tree.sat_chk, Tree.sat_leaf, Tree.sat_fail, Nat.zero_add, Nat.sub_zero, Int.toNat_natCast, LeH_cons, LeH_nil, LeL_cons, LeL_nil, and_true, true_and, Bool.and_eq_true, Bool.or_eq_true, decide_eq_true_eq, decide_eq_false_iff_not, Bool.cond_true_left, Bool.cond_false_right, List.cons_append, List.nil_append, List.map_cons, List.map_nil]
      repeat' (first | apply And.intro | intro _hc)
      all_goals first | exact ⟨.refl _, trivial⟩ | exact AV.le_refl _ | exact AV.le_any _ | exact OLe.refl _ | exact OLe.none _ | exact LeH.refl _ | exact LeL.refl _ | exact AV.le.bs _ | exact AV.le.sb _ | omega | contradiction
    | false =>
      have hbn : (((x.n : Int) - (x.fi + (x.n : Int) - x.fa) + q).toNat : Int) = (x.n : Int) - (x.fi + (x.n : Int) - x.fa) + q := by omega
      have hg1 : ({ x with n := ((x.n : Int) - (x.fi + (x.n : Int) - x.fa) + q).toNat, fa := x.fi + (((x.n : Int) - (x.fi + (x.n : Int) - x.fa) + q).toNat : Int), left := -1 } : Tp).fi = x.fi := rfl
      have hg2 : ({ x with n := ((x.n : Int) - (x.fi + (x.n : Int) - x.fa) + q).toNat, fa := x.fi + (((x.n : Int) - (x.fi + (x.n : Int) - x.fa) + q).toNat : Int), left := -1 } : Tp).o = x.o := rfl
      have hg3 : ({ x with n := ((x.n : Int) - (x.fi + (x.n : Int) - x.fa) + q).toNat, fa := x.fi + (((x.n : Int) - (x.fi + (x.n : Int) - x.fa) + q).toNat : Int), left := -1 } : Tp).g = x.g := rfl
      have hg4 : (({ x with n := ((x.n : Int) - (x.fi + (x.n : Int) - x.fa) + q).toNat, fa := x.fi + (((x.n : Int) - (x.fi + (x.n : Int) - x.fa) + q).toNat : Int), left := -1 } : Tp).n : Int) = (x.n : Int) - (x.fi + (x.n : Int) - x.fa) + q := hbn
      have hg5 : ({ x with n := ((x.n : Int) - (x.fi + (x.n : Int) - x.fa) + q).toNat, fa := x.fi + (((x.n : Int) - (x.fi + (x.n : Int) - x.fa) + q).toNat : Int), left := -1 } : Tp).fa = x.fi + ((x.n : Int) - (x.fi + (x.n : Int) - x.fa) + q) := congrArg (x.fi + ·) hbn
      clear hbn hb
      generalize hbb : ({ x with n := ((x.n : Int) - (x.fi + (x.n : Int) - x.fa) + q).toNat, fa := x.fi + (((x.n : Int) - (x.fi + (x.n : Int) - x.fa) + q).toNat : Int), left := -1 } : Tp) = b at *
      refine .mk' (T := [z13', CT.at 15 hF, CT.at 14 hN, k17, k20, hRd, CT.at 18 hC]) (ip := false) (L := fun _ => LSpec.at lvL nlL (SL l keep ⟨t0, false⟩ 0) (OL l keep ⟨x, false⟩)) (oneLoop (b := lpL) (by kernel_rfl) hl) (Right.of (lawTn l keep x b hF hN hC) ?_)
      refine wC (cl_iff.2 ⟨LeL.refl _, trivial⟩) (wC (cl_iff.2 ⟨LeL.refl _, trivial⟩) (wF (by decide) (wC (cl_iff.2 ⟨LeL.refl _, .refl _, hx1, trivial⟩) (wC (cl_iff.2 (rdOK hv)) (wC (cl_iff.2 trivial) (wC (cl_iff.2 ⟨LeL.refl _, LeH.refl _⟩) (wF (by decide) (wC (cl_iff.2 (rdOK hcv)) (wC (cl_iff.2 trivial) ?_)))))))))
      have w1 : IntKind.i64.wrap (b.fi + (b.n : Int)) = b.fi + (b.n : Int) := wrapM (by omega) (by omega)
      have w2 : IntKind.i64.wrap (x.fi + (x.n : Int)) = x.fi + (x.n : Int) := wrapM (by omega) (by omega)
      have c1 : decide (b.fi = x.fi) = true := decide_eq_true hg1
      have c2 : decide (b.fa = b.fi + (b.n : Int)) = true := decide_eq_true (by omega)
      have c3 : decide (x.fa ≤ b.fi + (b.n : Int)) = true := decide_eq_true (by omega)
      have c4 : decide (b.fi + (b.n : Int) ≤ x.fi + (x.n : Int)) = true := decide_eq_true (by omega)
      have c5 : decide ((b.n : Int) ≤ (x.n : Int)) = true := decide_eq_true (by omega)
      have c6 : decide (((0 : Nat) : Int) ≤ (b.n : Int)) = true := decide_eq_true (by omega)
      simp only [w1, w2, c1, c2, c3, c4, c5, c6, cond_true, hg2, hg3, allB, decide_true, Bool.and_self]
      exact ⟨rfl, .sb _, trivial⟩
noncomputable def c3L : CT Try.prog Γb := CT.lawE AT goodA 3 Try.f3 (bodyOf Try.f3) 129 [.tmp 4] Try.func3 (by kernel_rfl) (by kernel_rfl) (by kernel_rfl) (by kernel_rfl) (fun _ _ => by simp [AT]) (fun y h => lawTF y h)
end Go.Eng.SB.T

/- TapeFast holds at every input: no condition beyond the row own cells. -/
namespace Go.Proofs.Ytljejgnclkmpcaa
open Go Go.ChangeShapes Go.WideShapes Go.ChangeAt Go.WideMaps Go.WideElems Go.RowKit Go.Eng Go.Eng.SB Go.Eng.SB.T

theorem own0 : ownKnob Try.prog.godebug = none := by kernel_rfl
set_option maxRecDepth 100000 in
theorem tapeFast_lifted (os : Os) (started : os.Started) (H : Type) (enc : TypeId × Value → H) :
    ReturnsInHanded {} Try.checked os 3 .any (Rows.tapeFastSpec.pre6 enc Try.prog Try.f3 Rows.tapeFastRow.domain false)
      (Rows.tapeFastSpec.post enc Try.prog Try.f3 false true false false) := by
  refine returnsInHanded_of_change (C := Try.checked) own0 started (by kernel_rfl) Try.func3
    (ChangeSpec.witness6 (enc := enc) (C := Try.checked) false ⟨#[], #[.slice none 0 0, .int .i64 0], []⟩ 8 (by kernel_rfl) (by kernel_rfl) (by kernel_rfl) (by kernel_rfl)) ?_
  intro W base args ds gs before hval0 hW hcnd _
  have hval : ∀ (j : Nat) t v, Try.f3.params[j]? = some t → args[j]? = some v → Value.okWide Try.prog W .any base t v := hval0
  have hW' := hW
  obtain ⟨p, q, hA0, hV, rfl, hfz, hnd⟩ := hW
  have hA : DataW.TrodAll enc Try.prog W 0 (fun _ => true) true Try.f3.params.toList args.toList ds p := hA0
  rw [Try.params3] at hA hval
  obtain ⟨v0, v1, d0, d1, p0, p1, rfl, rfl, rfl, h0, h1⟩ := trodAll_two hA
  obtain ⟨rfl, rfl⟩ := trodVars_none hV
  obtain ⟨n0, s0, w0⟩ := open_slL 9 T.Ac.cells T.Ac.c (ks := [.int .i64, .int .i64, .str]) (sz := 3) rfl (fun _ => rfl) (fun _ => rfl) T.Ac.dec rfl Try.underlying22 (by kernel_rfl) (by kernel_rfl) (hval 0 22 v0 rfl rfl) h0
  obtain ⟨n1, rfl, rfl, rfl, w1⟩ := open_int Try.underlying3 (hval 1 3 v1 rfl rfl) h1
  refine (calls_true c3L (xs := [.sl 3 n0.length (lsF T.Ac.c n0), .v (.int .i64 n1)]) (law_in (A := AT) (pre := goodA) (x := (n0, n1)) (fun i hi => ac_n (w0 i hi)) (.refl _)) (fun _ => .any _) (.one (.base s0) (.one (V_v _) .none))).mono fun e W' ⟨he, ho⟩ => ?_
  subst he
  exact ⟨_, rfl, post_true (tb := 4) (by kernel_rfl) (by kernel_rfl) (by kernel_rfl) (by kernel_rfl) (by kernel_rfl) Try.underlying4 hW' rfl rfl ho⟩

theorem tapeFast_holds : Rows.TapeFastSaid :=
  OpenClaim.holds_of_wide 3 Try.f3 rfl rfl rfl rfl rfl rfl rfl ⟨rfl, rfl, rfl, rfl, rfl⟩ rfl rfl rfl rfl rfl (by kernel_rfl) Try.func3 (by kernel_rfl)
    (of_decide_eq_true (by kernel_rfl)) (by unfold Func.isWrapper; first | (rw [if_pos (by decide +kernel)]; kernel_rfl) | (rw [if_neg (by decide +kernel)]; exact ⟨rfl, rfl⟩))
    (fun os started H enc _ => tapeFast_lifted os started H enc)
#print axioms tapeFast_holds
end Go.Proofs.Ytljejgnclkmpcaa
