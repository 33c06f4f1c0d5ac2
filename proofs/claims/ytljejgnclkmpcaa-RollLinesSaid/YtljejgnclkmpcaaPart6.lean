/- RollLines holds at every input: no condition beyond the row own cells. -/
import Derived.Test.YtljejgnclkmpcaaPart5
import Derived.Test.YtljejgnclkmpcaaRows
import Derived.ProofKit
import Derived.LaidMore
import Derived.OpenShut
import Derived.Stop.Joined
set_option linter.unnecessarySimpa false
set_option linter.unusedSectionVars false
set_option linter.unusedSimpArgs false
set_option linter.unusedVariables false
namespace Go.Eng.SB.B
open Go Go.Eng Go.Eng.SB Go.Eng.SB.R Go.Eng.RD Go.Lib Go.Proofs
theorem runMay (x : En) : bodyE (P := Try.prog) (Γ := Γb) [] Lno false 25 [.tmp 2] (bodyOf Try.f83) [x.av] [] =
  Tree.br (bif decide (x.num < (1 : Int)) then true else bif decide ((4611686018427387904 : Int) < x.num) then true else bif decide (x.kind < (1 : Int)) then true else decide ((2 : Int) <
    x.kind)) (Tree.leaf (Ans.mk (AV.v (Value.int IntKind.i64 (1 : Int))) [])) (Tree.br (decide ((4194304 : Int) < (↑(ByteArray.size x.bytes) : Int))) (Tree.leaf (Ans.mk (AV.v (Value.int
    IntKind.i64 (2 : Int))) [])) (Tree.leaf (Ans.mk (AV.v (Value.int IntKind.i64 (0 : Int))) []))) := by kernel_rfl
theorem ansMay (x : En) : Answers Try.prog Γb 83 [x.av] [] (.v (.int .i64 (lnR x).e)) [] [] := by
  refine answers (fn := Try.f83) (c := bodyOf Try.f83) (ntmps := 25) (results := [.tmp 2]) [] Lno false Try.func83 (by kernel_rfl) (by kernel_rfl) (by kernel_rfl) (by kernel_rfl) (by simp) rfl (failOK fun _ _ _ => rfl) (Meets.of (runMay x) ?_)
  have hc : (bif decide (x.num < (1 : Int)) then true else bif decide ((4611686018427387904 : Int) < x.num) then true else bif decide (x.kind < (1 : Int)) then true else decide ((2 : Int) < x.kind)) = !cl x.w1 := by
    by_cases h : x.w1
    · obtain ⟨h1, h2, h3⟩ := id h
      rw [cl_iff.2 h, decide_eq_false h1, decide_eq_false h2, decide_eq_false (by omega), decide_eq_false (by omega)]; rfl
    · have hf : cl x.w1 = false := by
        cases hq : cl x.w1 with
        | false => rfl
        | true => exact absurd (cl_iff.1 hq) h
      rw [hf]
      unfold En.w1 at h
      by_cases h1 : x.num < 1
      · rw [decide_eq_true h1]; rfl
      · by_cases h2 : 4611686018427387904 < x.num
        · rw [decide_eq_false h1, decide_eq_true h2]; rfl
        · by_cases h3 : x.kind < 1
          · rw [decide_eq_false h1, decide_eq_false h2, decide_eq_true h3]; rfl
          · rw [decide_eq_false h1, decide_eq_false h2, decide_eq_false h3, decide_eq_true (by omega)]; rfl
  rw [hc]
  by_cases h : x.w1
  · refine wN (by rw [cl_iff.2 h]; rfl) ?_
    by_cases h2 : x.w2
    · have e : lnR x = ⟨lineB x, 0⟩ := by unfold lnR; rw [if_pos h, if_pos h2]
      have h2 : x.bytes.size ≤ 4194304 := h2
      rw [e]
      exact wN (decide_eq_false (by omega)) ⟨.refl _, trivial⟩
    · have e : lnR x = ⟨⟨#[]⟩, 2⟩ := by unfold lnR; rw [if_pos h, if_neg h2]
      have h2 : ¬ x.bytes.size ≤ 4194304 := h2
      rw [e]
      exact wT (decide_eq_true (by omega)) ⟨.refl _, trivial⟩
  · have e : lnR x = ⟨⟨#[]⟩, 1⟩ := by unfold lnR; rw [if_neg h]
    have hf : cl x.w1 = false := by
      cases hq : cl x.w1 with
      | false => rfl
      | true => exact absurd (cl_iff.1 hq) h
    rw [e]
    exact wT (by rw [hf]; rfl) ⟨.refl _, trivial⟩
noncomputable def hMay : CT Try.prog Γb := CT.ex 83 toEn (fun _ => True) (fun x => .v (.int .i64 (lnR x).e)) (fun _ => []) (fun _ => [])
  (callFunc_enters Try.func83 (by kernel_rfl) (by kernel_rfl)) (fun args Hin x hx hp => by
    obtain ⟨rfl, rfl⟩ := toEn_inv hx
    exact (ansMay x).cU rfl)
noncomputable def k85 : CT Try.prog Γb := CT.auto false 100 2 [Z.c84] 85 Try.f85 (bodyOf Try.f85) false 11 [.tmp 2] Try.func85 (by kernel_rfl) (by kernel_rfl) (by kernel_rfl) (by kernel_rfl)
noncomputable def kDrR : CT Try.prog Γb := CT.tx 23 (fun s => .v (.string (dressB s))) (callFunc_enters Try.func23 (by kernel_rfl) (by kernel_rfl)) fun s h => ansDrR h
theorem runLnR (x : En) : bodyE (P := Try.prog) (Γ := Γb) [hMay, Z.c84, k85, kDrR] Lno false 28 [.tmp 2, .tmp 3] (bodyOf Try.f27) [x.av] [] =
  Tree.chk (cl True) (Tree.br (!decide ((lnR (En.mk x.num x.kind x.bytes)).e = (0 : Int))) (Tree.leaf (Ans.mk (AV.tup [AV.v (Value.string (ByteArray.mk #[])), AV.v (Value.int IntKind.i64 (lnR
    (En.mk x.num x.kind x.bytes)).e)]) [])) (Tree.chk true (Tree.chk (decide (ByteArray.size (bif okN x.num then numB (Int.toNat x.num) else ByteArray.mk #[]) + ByteArray.size (bif okN
    x.kind then numB (Int.toNat x.kind) else ByteArray.mk #[]) ≤ (9223372036854775807 : Nat)) && (decide (ByteArray.size ((bif okN x.num then numB (Int.toNat x.num) else ByteArray.mk #[]) ++
    bif okN x.kind then numB (Int.toNat x.kind) else ByteArray.mk #[]) + ByteArray.size x.bytes ≤ (9223372036854775807 : Nat)) && (Nat.ble (ByteArray.size (((bif okN x.num then numB
    (Int.toNat x.num) else ByteArray.mk #[]) ++ bif okN x.kind then numB (Int.toNat x.kind) else ByteArray.mk #[]) ++ x.bytes)) (1000000000 : Nat) && decide (ByteArray.size (dressB (((bif
    okN x.num then numB (Int.toNat x.num) else ByteArray.mk #[]) ++ bif okN x.kind then numB (Int.toNat x.kind) else ByteArray.mk #[]) ++ x.bytes)) + (1 : Nat) ≤ (9223372036854775807 :
    Nat))))) (Tree.leaf (Ans.mk (AV.tup [AV.v (Value.string (dressB (((bif okN x.num then numB (Int.toNat x.num) else ByteArray.mk #[]) ++ bif okN x.kind then numB (Int.toNat x.kind) else
    ByteArray.mk #[]) ++ x.bytes) ++ ByteArray.mk #[(0 : UInt8)])), AV.v (Value.int IntKind.i64 (0 : Int))]) []))))) := by kernel_rfl
def St2 (u t : ByteArray) (b : Bool) : Prop := Answers Try.prog Γb 25 [.v (.string u)] [] (.tup [.v (.string t), .v (.bool b)]) [] []
def toRd : List AV → List Blk → Option (ByteArray × Int)
  | [.agg [.v (.string S), .v (.int .i64 e)]], [] => some (S, e)
  | _, _ => none
theorem toRd_inv {args : List AV} {Hin : List Blk} {x : ByteArray × Int} (h : toRd args Hin = some x) : args = [rdV x.1 x.2] ∧ Hin = [] := by
  unfold toRd at h
  split at h
  · cases h; exact ⟨rfl, rfl⟩
  · cases h
noncomputable def hQn : CT Try.prog Γb := CT.ex 89 toRd (fun x => x.1.size ≤ 1000000000000) (fun x => .tup [.v (.int .i64 (qN x.1 0 x.2)), .agg [.v (.string (x.1.extract (qO x.1 0 x.2) x.1.size)), .v (.int .i64 (qE x.1 0 x.2))]]) (fun _ => []) (fun _ => [])
  (callFunc_enters Try.func89 (by kernel_rfl) (by kernel_rfl)) (fun args Hin x hx hp => by
    obtain ⟨rfl, rfl⟩ := toRd_inv hx
    exact (ansQn hp).cU rfl)
theorem runUnR (s t : ByteArray) (h : St2 (s.extract 0 (s.size - 1)) t true) : bodyE (P := Try.prog) (Γ := Γb) [CT.at 25 h, hQn, hMay] Lno false 63 [.cell 2 49, .tmp 3] (bodyOf Try.f29) [.v (.string s)] [] =
  Tree.chk (bif decide ((↑(ByteArray.size s) : Int) = (0 : Int)) then true else decide ((0 : Int) ≤ IntKind.wrap IntKind.i64 ((↑(ByteArray.size s) : Int) - (1 : Int))) && decide (IntKind.wrap
    IntKind.i64 ((↑(ByteArray.size s) : Int) - (1 : Int)) < (↑(ByteArray.size s) : Int))) (Tree.br (bif decide ((↑(ByteArray.size s) : Int) = (0 : Int)) then true else !decide (sbyte s
    (Int.toNat (IntKind.wrap IntKind.i64 ((↑(ByteArray.size s) : Int) - (1 : Int)))) = (0 : Int))) (Tree.leaf (Ans.mk (AV.tup [AV.agg [AV.v (Value.int IntKind.i64 (0 : Int)), AV.v (Value.int
    IntKind.i64 (0 : Int)), AV.v (Value.string (ByteArray.mk #[]))], AV.v (Value.bool false)]) [])) (Tree.chk (decide ((↑(0 : Nat) : Int) ≤ IntKind.wrap IntKind.i64 ((↑(ByteArray.size s) :
    Int) - (1 : Int))) && decide (IntKind.wrap IntKind.i64 ((↑(ByteArray.size s) : Int) - (1 : Int)) ≤ (↑(ByteArray.size s) : Int)) && cl (LeL [AV.v (Value.string (ByteArray.extract s (0 :
    Nat) (Int.toNat (IntKind.wrap IntKind.i64 ((↑(ByteArray.size s) : Int) - (1 : Int))))))] [AV.v (Value.string (ByteArray.extract s (0 : Nat) (ByteArray.size s - (1 : Nat))))] ∧ LeH []
    [])) (Tree.chk (cl (ByteArray.size t ≤ (1000000000000 : Nat))) (Tree.chk (cl (ByteArray.size (ByteArray.extract t (qO t (0 : Nat) (0 : Int)) (ByteArray.size t)) ≤ (1000000000000 : Nat)))
    (Tree.br (bif !decide (qE (ByteArray.extract t (qO t (0 : Nat) (0 : Int)) (ByteArray.size t)) (0 : Nat) (qE t (0 : Nat) (0 : Int)) = (0 : Int)) then true else decide ((2 : Int) < qN
    (ByteArray.extract t (qO t (0 : Nat) (0 : Int)) (ByteArray.size t)) (0 : Nat) (qE t (0 : Nat) (0 : Int)))) (Tree.leaf (Ans.mk (AV.tup [AV.agg [AV.v (Value.int IntKind.i64 (0 : Int)),
    AV.v (Value.int IntKind.i64 (0 : Int)), AV.v (Value.string (ByteArray.mk #[]))], AV.v (Value.bool false)]) [])) (Tree.chk (cl True) (Tree.br (!decide ((lnR (En.mk (qN t (0 : Nat) (0 :
    Int)) (qN (ByteArray.extract t (qO t (0 : Nat) (0 : Int)) (ByteArray.size t)) (0 : Nat) (qE t (0 : Nat) (0 : Int))) (ByteArray.extract (ByteArray.extract t (qO t (0 : Nat) (0 : Int))
    (ByteArray.size t)) (qO (ByteArray.extract t (qO t (0 : Nat) (0 : Int)) (ByteArray.size t)) (0 : Nat) (qE t (0 : Nat) (0 : Int))) (ByteArray.size (ByteArray.extract t (qO t (0 : Nat) (0
    : Int)) (ByteArray.size t)))))).e = (0 : Int))) (Tree.leaf (Ans.mk (AV.tup [AV.agg [AV.v (Value.int IntKind.i64 (0 : Int)), AV.v (Value.int IntKind.i64 (0 : Int)), AV.v (Value.string
    (ByteArray.mk #[]))], AV.v (Value.bool false)]) [])) (Tree.leaf (Ans.mk (AV.tup [AV.agg [AV.v (Value.int IntKind.i64 (qN t (0 : Nat) (0 : Int))), AV.v (Value.int IntKind.i64 (qN
    (ByteArray.extract t (qO t (0 : Nat) (0 : Int)) (ByteArray.size t)) (0 : Nat) (qE t (0 : Nat) (0 : Int)))), AV.v (Value.string (ByteArray.extract (ByteArray.extract t (qO t (0 : Nat) (0
    : Int)) (ByteArray.size t)) (qO (ByteArray.extract t (qO t (0 : Nat) (0 : Int)) (ByteArray.size t)) (0 : Nat) (qE t (0 : Nat) (0 : Int))) (ByteArray.size (ByteArray.extract t (qO t (0 :
    Nat) (0 : Int)) (ByteArray.size t)))))], AV.v (Value.bool true)]) []))))))))) := by kernel_rfl
theorem runUnRn (s : ByteArray) (h : St2 (s.extract 0 (s.size - 1)) ⟨#[]⟩ false) : bodyE (P := Try.prog) (Γ := Γb) [CT.at 25 h] Lno false 63 [.cell 2 49, .tmp 3] (bodyOf Try.f29) [.v (.string s)] [] =
  Tree.chk (bif decide ((↑(ByteArray.size s) : Int) = (0 : Int)) then true else decide ((0 : Int) ≤ IntKind.wrap IntKind.i64 ((↑(ByteArray.size s) : Int) - (1 : Int))) && decide (IntKind.wrap
    IntKind.i64 ((↑(ByteArray.size s) : Int) - (1 : Int)) < (↑(ByteArray.size s) : Int))) (Tree.br (bif decide ((↑(ByteArray.size s) : Int) = (0 : Int)) then true else !decide (sbyte s
    (Int.toNat (IntKind.wrap IntKind.i64 ((↑(ByteArray.size s) : Int) - (1 : Int)))) = (0 : Int))) (Tree.leaf (Ans.mk (AV.tup [AV.agg [AV.v (Value.int IntKind.i64 (0 : Int)), AV.v (Value.int
    IntKind.i64 (0 : Int)), AV.v (Value.string (ByteArray.mk #[]))], AV.v (Value.bool false)]) [])) (Tree.chk (decide ((↑(0 : Nat) : Int) ≤ IntKind.wrap IntKind.i64 ((↑(ByteArray.size s) :
    Int) - (1 : Int))) && decide (IntKind.wrap IntKind.i64 ((↑(ByteArray.size s) : Int) - (1 : Int)) ≤ (↑(ByteArray.size s) : Int)) && cl (LeL [AV.v (Value.string (ByteArray.extract s (0 :
    Nat) (Int.toNat (IntKind.wrap IntKind.i64 ((↑(ByteArray.size s) : Int) - (1 : Int))))))] [AV.v (Value.string (ByteArray.extract s (0 : Nat) (ByteArray.size s - (1 : Nat))))] ∧ LeH []
    [])) (Tree.leaf (Ans.mk (AV.tup [AV.agg [AV.v (Value.int IntKind.i64 (0 : Int)), AV.v (Value.int IntKind.i64 (0 : Int)), AV.v (Value.string (ByteArray.mk #[]))], AV.v (Value.bool
    false)]) [])))) := by kernel_rfl
theorem runUnR0 (s : ByteArray) : bodyE (P := Try.prog) (Γ := Γb) [] Lno false 63 [.cell 2 49, .tmp 3] (bodyOf Try.f29) [.v (.string s)] [] =
  Tree.chk (bif decide ((↑(ByteArray.size s) : Int) = (0 : Int)) then true else decide ((0 : Int) ≤ IntKind.wrap IntKind.i64 ((↑(ByteArray.size s) : Int) - (1 : Int))) && decide (IntKind.wrap
    IntKind.i64 ((↑(ByteArray.size s) : Int) - (1 : Int)) < (↑(ByteArray.size s) : Int))) (Tree.br (bif decide ((↑(ByteArray.size s) : Int) = (0 : Int)) then true else !decide (sbyte s
    (Int.toNat (IntKind.wrap IntKind.i64 ((↑(ByteArray.size s) : Int) - (1 : Int)))) = (0 : Int))) (Tree.leaf (Ans.mk (AV.tup [AV.agg [AV.v (Value.int IntKind.i64 (0 : Int)), AV.v (Value.int
    IntKind.i64 (0 : Int)), AV.v (Value.string (ByteArray.mk #[]))], AV.v (Value.bool false)]) [])) (Tree.chk (decide ((↑(0 : Nat) : Int) ≤ IntKind.wrap IntKind.i64 ((↑(ByteArray.size s) :
    Int) - (1 : Int))) && decide (IntKind.wrap IntKind.i64 ((↑(ByteArray.size s) : Int) - (1 : Int)) ≤ (↑(ByteArray.size s) : Int))) Tree.fail)) := by kernel_rfl
end Go.Eng.SB.B

namespace Go.Eng.SB.B
open Go Go.Eng Go.Eng.SB Go.Eng.SB.R Go.Eng.RD Go.Lib Go.Proofs
theorem lnR_t {x : En} (h : ¬ (lnR x).e = 0) : (lnR x).t = ⟨#[]⟩ := by
  unfold lnR at h ⊢
  split
  · rename_i h1
    rw [if_pos h1] at h
    split
    · rename_i h2; rw [if_pos h2] at h; exact absurd rfl h
    · rfl
  · rfl
theorem emp_app (a : ByteArray) : (⟨#[]⟩ : ByteArray) ++ a = a := by
  apply ByteArray.ext
  rw [ByteArray.data_append]
  simp
theorem ansLnR (x : En) : Answers Try.prog Γb 27 [x.av] [] (.tup [.v (.string (lnR x).t), .v (.int .i64 (lnR x).e)]) [] [] := by
  refine answers (fn := Try.f27) (c := bodyOf Try.f27) (ntmps := 28) (results := [.tmp 2, .tmp 3]) [hMay, Z.c84, k85, kDrR] Lno false Try.func27 (by kernel_rfl) (by kernel_rfl) (by kernel_rfl) (by kernel_rfl) (by simp) rfl (failOK fun _ _ _ => rfl) (Meets.of (runLnR x) ?_)
  have hxx : En.mk x.num x.kind x.bytes = x := rfl
  rw [hxx]
  refine wC (cl_iff.2 trivial) ?_
  by_cases he : (lnR x).e = 0
  · have hg := lnR_ok.1 (decide_eq_true he)
    have hl : lnR x = ⟨lineB x, 0⟩ := by unfold lnR; rw [if_pos hg.1, if_pos hg.2]
    obtain ⟨g1, g2, g3⟩ := id hg.1
    have k1 : okN x.num = true := okN_le (by omega) (by omega)
    have k2 : okN x.kind = true := okN_le (by omega) (by omega)
    have hz := cat_small hg.1
    have hw2 : x.bytes.size ≤ 4194304 := hg.2
    have hc : catN (gL x) 2 = numB x.num.toNat ++ numB x.kind.toNat := by
      show (⟨#[]⟩ ++ numB x.num.toNat) ++ numB x.kind.toNat = _
      rw [emp_app]
    have hin : (numB x.num.toNat ++ numB x.kind.toNat) ++ x.bytes = inB x := by unfold inB; rw [hc]
    have hsz : (inB x).size ≤ 18 + x.bytes.size := by unfold inB; rw [ByteArray.size_append]; omega
    rw [hc, ByteArray.size_append] at hz
    have hd := dressB_size (inB x)
    rw [hl, k1, k2]
    simp only [cond_true, hin]
    refine wN rfl (wC rfl (wC ?_ ⟨.refl _, trivial⟩))
    simp only [Bool.and_eq_true, decide_eq_true_eq, ByteArray.size_append]
    refine ⟨by omega, by omega, Nat.ble_eq_true_of_le (by omega), ?_⟩
    first | (simp; omega) | omega
  · rw [lnR_t he]
    exact wT (by rw [decide_eq_false he]; rfl) ⟨.refl _, trivial⟩
noncomputable def hLnR : CT Try.prog Γb := CT.ex 27 toEn (fun _ => True) (fun x => .tup [.v (.string (lnR x).t), .v (.int .i64 (lnR x).e)]) (fun _ => []) (fun _ => [])
  (callFunc_enters Try.func27 (by kernel_rfl) (by kernel_rfl)) (fun args Hin x hx hp => by
    obtain ⟨rfl, rfl⟩ := toEn_inv hx
    exact (ansLnR x).cU rfl)
theorem endsZ_iff {s : ByteArray} : endsZ s ↔ 1 ≤ s.size ∧ sbyte s (s.size - 1) = 0 := by
  constructor
  · rintro ⟨h1, h2⟩
    refine ⟨h1, ?_⟩
    have := congrArg (fun b => bN b 0) h2
    rw [bN_extract _ _ _ _ (Nat.le_refl _), if_pos (by omega), one0, Nat.add_zero] at this
    show ((bN s (s.size - 1) : Nat) : Int) = 0
    omega
  · rintro ⟨h1, h2⟩
    have h2 : ((bN s (s.size - 1) : Nat) : Int) = 0 := h2
    refine ⟨h1, bN_eq (by rw [ext_size _ _ _ (Nat.le_refl _)]; show s.size - (s.size - 1) = 1; omega) (fun j hj => ?_)⟩
    rw [ext_size _ _ _ (Nat.le_refl _)] at hj
    rw [bN_extract _ _ _ _ (Nat.le_refl _), if_pos (by omega), one0, show s.size - 1 + j = s.size - 1 by omega]
    omega
def uR : Option En → AV
  | some x => .tup [x.av, .v (.bool true)]
  | none => .tup [en0.av, .v (.bool false)]
theorem ansUnR {s : ByteArray} (hs : s.size ≤ 1000000000) {v : AV} (hv : AV.le (uR (unl s)) v) : Answers Try.prog Γb 29 [.v (.string s)] [] v [] [] := by
  by_cases hz : endsZ s
  · obtain ⟨h1, h2⟩ := endsZ_iff.1 hz
    have w1 : IntKind.i64.wrap ((s.size : Int) - (1 : Int)) = ((s.size - 1 : Nat) : Int) := by rw [wrap64 (by omega) (by omega)]; omega
    have c0 : decide ((s.size : Int) = 0) = false := decide_eq_false (by omega)
    have c1 : decide ((0 : Int) ≤ ((s.size - 1 : Nat) : Int)) = true := decide_eq_true (by omega)
    have c1' : decide (((0 : Nat) : Int) ≤ ((s.size - 1 : Nat) : Int)) = true := decide_eq_true (by omega)
    have c2 : decide (((s.size - 1 : Nat) : Int) < (s.size : Int)) = true := decide_eq_true (by omega)
    have c3 : decide (((s.size - 1 : Nat) : Int) ≤ (s.size : Int)) = true := decide_eq_true (by omega)
    have cc : ∀ u : ByteArray, cl (LeL [AV.v (.string u)] [AV.v (.string u)] ∧ LeH [] []) = true := fun _ => cl_iff.2 ⟨LeL.refl _, trivial⟩
    have e : unl s = (stripO (s.extract 0 (s.size - 1))).bind unT := by unfold unl; rw [if_pos hz]
    have hu : (s.extract 0 (s.size - 1)).size ≤ 1000000000 := by rw [ByteArray.size_extract]; omega
    cases ho : stripO (s.extract 0 (s.size - 1)) with
    | none =>
      rw [e, ho] at hv
      have hS : St2 (s.extract 0 (s.size - 1)) ⟨#[]⟩ false := ansStR hu (by unfold stripR; rw [ho]; exact .refl _)
      refine answers (fn := Try.f29) (c := bodyOf Try.f29) (ntmps := 63) (results := [.cell 2 49, .tmp 3]) [CT.at 25 hS] Lno false Try.func29 (by kernel_rfl) (by kernel_rfl) (by kernel_rfl) (by kernel_rfl) (by simp) rfl (failOK fun _ _ _ => rfl) (Meets.of (runUnRn s hS) ?_)
      simp only [w1, Int.toNat_natCast, c0, c1, c1', c2, c3, cc, h2]
      exact wC rfl (wN rfl (wC rfl ⟨hv, trivial⟩))
    | some t =>
      have hts := stripB_size ho
      have hb : s.extract 0 (s.size - 1) = s.extract 0 (s.size - 1) := rfl
      rw [e, ho] at hv
      have hv : AV.le (uR (unT t)) v := hv
      have hS : St2 (s.extract 0 (s.size - 1)) t true := ansStR hu (by unfold stripR; rw [ho]; exact .refl _)
      refine answers (fn := Try.f29) (c := bodyOf Try.f29) (ntmps := 63) (results := [.cell 2 49, .tmp 3]) [CT.at 25 hS, hQn, hMay] Lno false Try.func29 (by kernel_rfl) (by kernel_rfl) (by kernel_rfl) (by kernel_rfl) (by simp) rfl (failOK fun _ _ _ => rfl) (Meets.of (runUnR s t hS) ?_)
      have hto : qO t 0 0 ≤ t.size := (qO_le (t := t) (off := 0) (e := 0) (Nat.zero_le _)).2
      obtain ⟨q1, q2, q3⟩ := q_ext (t := t) (off := qO t 0 0) (e := qE t 0 0) hto
      have q4 : (t.extract (qO t 0 0) t.size).extract (qO (t.extract (qO t 0 0) t.size) 0 (qE t 0 0)) (t.extract (qO t 0 0) t.size).size = t.extract (o2 t) t.size := by
        rw [ext_back hto, q2]; rfl
      simp only [w1, Int.toNat_natCast, c0, c1, c1', c2, c3, cc, h2, q4]
      simp only [q1, q3]
      have ek : qN t (qO t 0 0) (qE t 0 0) = k2 t := rfl
      have ee : qE t (qO t 0 0) (qE t 0 0) = e2 t := rfl
      rw [ek, ee]
      have hse := size_ext (t := t) (off := qO t 0 0)
      refine wC rfl (wN rfl (wC rfl (wC (cl_iff.2 (by omega)) (wC (cl_iff.2 (by omega)) ?_))))
      by_cases h0 : e2 t = 0
      · by_cases hk : 2 < k2 t
        · have hn : unT t = none := by
            unfold unT
            rw [if_neg]
            rintro ⟨_, hg, _⟩
            obtain ⟨_, _, hkk⟩ := hg
            have : (unX t).kind = if 3 < k2 t then 3 else k2 t := rfl
            rw [this] at hkk
            split at hkk <;> omega
          rw [hn] at hv
          exact wT (by rw [decide_eq_true h0, decide_eq_true hk]; rfl) ⟨hv, trivial⟩
        · have hx : En.mk (qN t 0 0) (k2 t) (t.extract (o2 t) t.size) = unX t := by
            unfold unX
            rw [if_neg (by omega)]
          refine wN (by rw [decide_eq_true h0, decide_eq_false hk]; rfl) (wC (cl_iff.2 trivial) ?_)
          rw [hx]
          by_cases hg : (unX t).good
          · have hn : unT t = some (unX t) := by unfold unT; rw [if_pos ⟨h0, hg⟩]
            rw [hn] at hv
            have hav : (unX t).av = .agg [.v (.int .i64 (qN t 0 0)), .v (.int .i64 (k2 t)), .v (.string (t.extract (o2 t) t.size))] := by rw [← hx]; rfl
            have hv : AV.le (.tup [(unX t).av, .v (.bool true)]) v := hv
            rw [hav] at hv
            exact wN (by rw [lnR_ok.2 hg]; rfl) ⟨hv, trivial⟩
          · have hn : unT t = none := by unfold unT; rw [if_neg (fun h => hg h.2)]
            rw [hn] at hv
            have : decide ((lnR (unX t)).e = 0) = false := by
              cases hd : decide ((lnR (unX t)).e = 0) with
              | false => rfl
              | true => exact absurd (lnR_ok.1 hd) hg
            exact wT (by rw [this]; rfl) ⟨hv, trivial⟩
      · have hn : unT t = none := by unfold unT; rw [if_neg (fun h => h0 h.1)]
        rw [hn] at hv
        exact wT (by rw [decide_eq_false h0]; rfl) ⟨hv, trivial⟩
  · have e : unl s = none := by unfold unl; rw [if_neg hz]
    rw [e] at hv
    refine answers (fn := Try.f29) (c := bodyOf Try.f29) (ntmps := 63) (results := [.cell 2 49, .tmp 3]) [] Lno false Try.func29 (by kernel_rfl) (by kernel_rfl) (by kernel_rfl) (by kernel_rfl) (by simp) rfl (failOK fun _ _ _ => rfl) (Meets.of (runUnR0 s) ?_)
    rw [endsZ_iff] at hz
    by_cases h1 : s.size = 0
    · have c0 : decide ((s.size : Int) = 0) = true := decide_eq_true (by omega)
      rw [c0]
      exact wC rfl (wT rfl ⟨hv, trivial⟩)
    · have w1 : IntKind.i64.wrap ((s.size : Int) - (1 : Int)) = ((s.size - 1 : Nat) : Int) := by rw [wrap64 (by omega) (by omega)]; omega
      have c0 : decide ((s.size : Int) = 0) = false := decide_eq_false (by omega)
      have c1 : decide ((0 : Int) ≤ ((s.size - 1 : Nat) : Int)) = true := decide_eq_true (by omega)
      have c2 : decide (((s.size - 1 : Nat) : Int) < (s.size : Int)) = true := decide_eq_true (by omega)
      have hb : ¬ sbyte s (s.size - 1) = 0 := fun h => hz ⟨by omega, h⟩
      simp only [w1, Int.toNat_natCast, c0, c1, c2, decide_eq_false hb]
      exact wC rfl (wT rfl ⟨hv, trivial⟩)
end Go.Eng.SB.B

namespace Go.Eng.SB.B
open Go Go.Eng Go.Eng.SB Go.Eng.SB.R Go.Eng.RD Go.Lib Go.Proofs
noncomputable def uB (s : ByteArray) : Bool := (unl s).isSome
noncomputable def uVR (s : ByteArray) : AV := .tup [.agg [.v (.int .i64 (uX s).num), .v (.int .i64 (uX s).kind), .v (.string (uX s).bytes)], .sb (uB s)]
theorem uVR_le (s : ByteArray) : AV.le (uR (unl s)) (uVR s) := by
  unfold uVR uX uB
  cases unl s with
  | none => exact tup2 (.refl _) (.bs _)
  | some x => exact tup2 (.refl _) (.bs _)
noncomputable def hUnR : CT Try.prog Γb := CT.ex 29 toT (fun s => s.size ≤ 1000000000) uVR (fun _ => []) (fun _ => [])
  (callFunc_enters Try.func29 (by kernel_rfl) (by kernel_rfl)) (fun args Hin x hx hp => by
    obtain ⟨rfl, rfl⟩ := toT_inv hx
    exact (ansUnR hp (uVR_le x)).cU rfl)
def StP (s t : ByteArray) (e : Int) : Prop := Answers Try.prog Γb 24 [.v (.string s)] [] (.tup [.v (.string t), .v (.int .i64 e)]) [] []
def StR (s t : ByteArray) (b : Bool) : Prop := Answers Try.prog Γb 25 [.v (.string s)] [] (.tup [.v (.string t), .sb b]) [] []
theorem lawRL (s t : ByteArray) (n k e : Int) (b : Bool) (h1 : StP s t e) (h2 : StR s t b) : bodyE (P := Try.prog) (Γ := Γb) [z21', kDr, kDrR, CT.at 24 h1, CT.at 25 h2, hLn, hLnR, hUn, hUnR] Lno false 106 [.tmp 6] (bodyOf Try.f4) [.v (.string s), .v (.int .i64 n), .v (.int .i64 k)] [] =
  Tree.br (decide ((5000 : Int) < (↑(ByteArray.size s) : Int))) (Tree.leaf (Ans.mk (AV.v (Value.bool true)) [])) (Tree.chk (Nat.ble (ByteArray.size s) (1000000000 : Nat) && Nat.ble
    (ByteArray.size s) (1000000000 : Nat)) (Tree.br (!decide (dressB s = dressB s)) (Tree.leaf (Ans.mk (AV.v (Value.bool false)) [])) (Tree.chk (cl (LeL [AV.v (Value.string s)] [AV.v
    (Value.string s)] ∧ LeH [] [])) (Tree.chk (cl (LeL [AV.v (Value.string s)] [AV.v (Value.string s)] ∧ LeH [] [])) (Tree.br (bif !decide (t = t) then true else bif !decide (e = (0 : Int))
    == b then true else bif !b then !decide (e = (180 : Int)) else false) (Tree.leaf (Ans.mk (AV.v (Value.bool false)) [])) (Tree.chk (cl True) (Tree.chk (cl True) (Tree.br (bif !decide
    ((lnR (En.mk n k s)).t = (lnR (En.mk n k s)).t) then true else !decide ((lnR (En.mk n k s)).e = (lnR (En.mk n k s)).e)) (Tree.leaf (Ans.mk (AV.v (Value.bool false)) [])) (Tree.chk (cl
    (ByteArray.size s ≤ (1000000000 : Nat))) (Tree.chk (cl (ByteArray.size s ≤ (1000000000 : Nat))) (Tree.leaf (Ans.mk (AV.sb (bif decide ((uX s).num = (uX s).num) && (decide ((uX s).kind =
    (uX s).kind) && decide ((uX s).bytes = (uX s).bytes)) then bif decide (uE s = (0 : Int)) == uB s then bif uB s then true else decide (uE s = (180 : Int)) else false else false))
    [])))))))))))) := by kernel_rfl
theorem lawRL0 (s : ByteArray) (n k : Int) : bodyE (P := Try.prog) (Γ := Γb) [z21'] Lno false 106 [.tmp 6] (bodyOf Try.f4) [.v (.string s), .v (.int .i64 n), .v (.int .i64 k)] [] =
  Tree.br (decide ((5000 : Int) < (↑(ByteArray.size s) : Int))) (Tree.leaf (Ans.mk (AV.v (Value.bool true)) [])) Tree.fail := by kernel_rfl
theorem stPR {s : ByteArray} (hs : s.size ≤ 5000) : ∃ (t : ByteArray) (e : Int) (b : Bool), StP s t e ∧ StR s t b ∧ ((e = 0 ∧ b = true) ∨ (e = 180 ∧ b = false)) := by
  have h1 := ansSp (s := s) (by omega)
  have h2 := fun v => ansStR (s := s) (by omega) (v := v)
  unfold stripA at h1
  unfold stripR at h2
  cases ho : stripO s with
  | none =>
    rw [ho] at h1 h2
    exact ⟨_, _, false, h1, h2 _ (tup2 (.refl _) (.bs _)), .inr ⟨rfl, rfl⟩⟩
  | some t =>
    rw [ho] at h1 h2
    exact ⟨_, _, true, h1, h2 _ (tup2 (.refl _) (.bs _)), .inl ⟨rfl, rfl⟩⟩
theorem lawRL_ok (s : ByteArray) (n k : Int) : LawOK Try.prog Γb 106 [.tmp 6] (bodyOf Try.f4) [.v (.string s), .v (.int .i64 n), .v (.int .i64 k)] := by
  by_cases hb : 5000 < s.size
  · refine .mk' (T := [z21']) (ip := false) (L := Lno) (failOK fun _ _ _ => rfl) (Right.of (lawRL0 s n k) ?_)
    exact wT (decide_eq_true (by omega)) ⟨.refl _, trivial⟩
  · have hs : s.size ≤ 5000 := by omega
    obtain ⟨t, e, b, h1, h2, h3⟩ := stPR hs
    refine .mk' (T := [z21', kDr, kDrR, CT.at 24 h1, CT.at 25 h2, hLn, hLnR, hUn, hUnR]) (ip := false) (L := Lno) (failOK fun _ _ _ => rfl) (Right.of (lawRL s t n k e b h1 h2) ?_)
    have g1 : Nat.ble s.size 1000000000 = true := Nat.ble_eq_true_of_le (by omega)
    have g2 : cl (s.size ≤ 1000000000) = true := cl_iff.2 (by omega)
    have g3 : (bif !decide (t = t) then true else bif !decide (e = (0 : Int)) == b then true else bif !b then !decide (e = (180 : Int)) else false) = false := by
      rcases h3 with ⟨rfl, rfl⟩ | ⟨rfl, rfl⟩
      · simp
      · simp
    have g4 : (bif !decide ((lnR (En.mk n k s)).t = (lnR (En.mk n k s)).t) then true else !decide ((lnR (En.mk n k s)).e = (lnR (En.mk n k s)).e)) = false := by simp
    have hu : (uE s = 0 ∧ uB s = true) ∨ (uE s = 180 ∧ uB s = false) := by
      unfold uE uB
      cases unl s with
      | none => exact .inr ⟨rfl, rfl⟩
      | some x => exact .inl ⟨rfl, rfl⟩
    have g5 : (bif decide ((uX s).num = (uX s).num) && (decide ((uX s).kind = (uX s).kind) && decide ((uX s).bytes = (uX s).bytes)) then bif decide (uE s = (0 : Int)) == uB s then bif uB s then true else decide (uE s = (180 : Int)) else false else false) = true := by
      rcases hu with ⟨a, b⟩ | ⟨a, b⟩ <;> rw [a, b] <;> simp
    rw [g1, g2, g3, g4, g5]
    exact wN (decide_eq_false (by omega)) (wC rfl (wN (by simp) (wC (cl_iff.2 ⟨LeL.refl _, LeH.refl _⟩) (wC (cl_iff.2 ⟨LeL.refl _, LeH.refl _⟩) (wN rfl (wC (cl_iff.2 trivial) (wC (cl_iff.2 trivial) (wN rfl (wC rfl (wC rfl ⟨.sb true, trivial⟩))))))))))
structure LI where
  s : ByteArray
  n : Int
  k : Int
def A4 (y : LI) : List AV := [.v (.string y.s), .v (.int .i64 y.n), .v (.int .i64 y.k)]
noncomputable def c4L : CT Try.prog Γb := CT.lawE A4 (fun _ => True) 4 Try.f4 (bodyOf Try.f4) 106 [.tmp 6] Try.func4 (by kernel_rfl) (by kernel_rfl) (by kernel_rfl) (by kernel_rfl) (fun _ _ => by simp [A4]) (fun y _ => lawRL_ok y.s y.n y.k)
end Go.Eng.SB.B

/- RollLines holds at every input: no condition beyond the row own cells. -/
namespace Go.Proofs.Ytljejgnclkmpcaa
open Go Go.ChangeShapes Go.WideShapes Go.ChangeAt Go.WideMaps Go.WideElems Go.RowKit Go.Eng Go.Eng.SB Go.Eng.SB.B

theorem own0 : ownKnob Try.prog.godebug = none := by kernel_rfl
set_option maxRecDepth 100000 in
theorem rollLines_lifted (os : Os) (started : os.Started) (H : Type) (enc : TypeId × Value → H) :
    ReturnsInHanded {} Try.checked os 4 .any (Rows.rollLinesSpec.pre6 enc Try.prog Try.f4 Rows.rollLinesRow.domain false)
      (Rows.rollLinesSpec.post enc Try.prog Try.f4 false true false false) := by
  refine returnsInHanded_of_change (C := Try.checked) own0 started (by kernel_rfl) Try.func4
    (ChangeSpec.witness6 (enc := enc) (C := Try.checked) false ⟨#[], #[.string ⟨#[]⟩, .int .i64 0, .int .i64 0], []⟩ 8 (by kernel_rfl) (by kernel_rfl) (by kernel_rfl) (by kernel_rfl)) ?_
  intro W base args ds gs before hval0 hW hcnd _
  have hval : ∀ (j : Nat) t v, Try.f4.params[j]? = some t → args[j]? = some v → Value.okWide Try.prog W .any base t v := hval0
  have hW' := hW
  obtain ⟨p, q, hA0, hV, rfl, hfz, hnd⟩ := hW
  have hA : DataW.TrodAll enc Try.prog W 0 (fun _ => true) true Try.f4.params.toList args.toList ds p := hA0
  rw [Try.params4] at hA hval
  obtain ⟨v0, v1, v2, d0, d1, d2, p0, p1, p2, rfl, rfl, rfl, h0, h1, h2⟩ := trodAll_three hA
  obtain ⟨rfl, rfl⟩ := trodVars_none hV
  obtain ⟨n0, rfl, rfl, rfl, w0⟩ := Go.ChangeMaps.open_string Try.underlying9 (hval 0 9 v0 rfl rfl) h0
  obtain ⟨n1, rfl, rfl, rfl, w1⟩ := open_int Try.underlying2 (hval 1 2 v1 rfl rfl) h1
  obtain ⟨n2, rfl, rfl, rfl, w2⟩ := open_int Try.underlying3 (hval 2 3 v2 rfl rfl) h2
  refine (calls_true c4L (xs := [.v (.string n0), .v (.int .i64 n1), .v (.int .i64 n2)]) (law_in (A := A4) (pre := fun _ => True) (x := ⟨n0, n1, n2⟩) trivial (.refl _)) (fun _ => .any _) (.one (V_v _) (.one (V_v _) (.one (V_v _) .none)))).mono fun e W' ⟨he, ho⟩ => ?_
  subst he
  exact ⟨_, rfl, post_true (tb := 4) (by kernel_rfl) (by kernel_rfl) (by kernel_rfl) (by kernel_rfl) (by kernel_rfl) Try.underlying4 hW' rfl rfl ho⟩

theorem rollLines_holds : Rows.RollLinesSaid :=
  OpenClaim.holds_of_wide 4 Try.f4 rfl rfl rfl rfl rfl rfl rfl ⟨rfl, rfl, rfl, rfl, rfl⟩ rfl rfl rfl rfl rfl (by kernel_rfl) Try.func4 (by kernel_rfl)
    (of_decide_eq_true (by kernel_rfl)) (by unfold Func.isWrapper; first | (rw [if_pos (by decide +kernel)]; kernel_rfl) | (rw [if_neg (by decide +kernel)]; exact ⟨rfl, rfl⟩))
    (fun os started H enc _ => rollLines_lifted os started H enc)
#print axioms rollLines_holds
end Go.Proofs.Ytljejgnclkmpcaa
