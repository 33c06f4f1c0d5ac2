/- NumBack holds at every input: no condition beyond the row own cells. -/
import Derived.Test.YtffpnoieklnejaaPart4
import Derived.Test.YtffpnoieklnejaaRows
import Derived.ProofKit
import Derived.LaidMore
import Derived.OpenShut
import Derived.Stop.Joined
import Derived.ChangeMaps5
/- numbers: read: the contracts. -/
namespace Go.Eng.U
open Go Go.Eng Go.Eng.M Go.Lib Go.Proofs
set_option linter.unusedSimpArgs false
set_option linter.unusedVariables false
def vS (s : ByteArray) : Nat := vN (bdS s) (bdS s).size
def okV (s : ByteArray) : Bool := decide (vS s ≤ if ngB s then 9223372036854775808 else 9223372036854775807)
def inV (s : ByteArray) (lo hi : Int) : Bool := okV s && (decide (lo ≤ sgV (ngB s) (vS s)) && decide (sgV (ngB s) (vS s) ≤ hi))
noncomputable def rdE (s : ByteArray) (lo hi : Int) : Int := if fmB s then (if inV s lo hi then 0 else 10) else 11
noncomputable def rdN (s : ByteArray) (lo hi : Int) : Int := if fmB s then (if inV s lo hi then sgV (ngB s) (vS s) else 0) else 0
noncomputable def rdV (s : ByteArray) (lo hi : Int) : AV := .tup [.v (.int .i64 (rdN s lo hi)), .v (.int .i64 (rdE s lo hi))]
noncomputable abbrev TRe : List (CT Try.prog Γu) := [kForm, kWi]
theorem runRe0 (s : ByteArray) (lo hi : Int) : bodyE (P := Try.prog) (Γ := Γu) TRe Lno false 59 [.tmp 6, .tmp 7] (bodyOf Try.f8) [.v (.string s), .v (.int .i64 lo), .v (.int .i64 hi)] [] =
  Tree.chk (cl (ByteArray.size s ≤ (1000000000 : Nat) ∧ LeL [AV.v (Value.string s)] [AV.v (Value.string s)] ∧ LeH [] [])) (Tree.br (!fmB s) (Tree.leaf (Ans.mk (AV.tup [AV.v (Value.int
    IntKind.i64 (0 : Int)), AV.v (Value.int IntKind.i64 (11 : Int))]) [])) Tree.fail) := by kernel_rfl
theorem runRe1 (s : ByteArray) (lo hi : Int) : bodyE (P := Try.prog) (Γ := Γu) TRe (fun _ => LSpec.at lvRe [] (SRe (fmD s) lo hi (fmN s) 0) retRe) false 59 [.tmp 6, .tmp 7] (bodyOf Try.f8) [.v (.string s), .v (.int .i64 lo), .v (.int .i64 hi)] [] =
  Tree.chk (cl (ByteArray.size s ≤ (1000000000 : Nat) ∧ LeL [AV.v (Value.string s)] [AV.v (Value.string s)] ∧ LeH [] [])) (Tree.br (!fmB s) (Tree.leaf (Ans.mk (AV.tup [AV.v (Value.int
    IntKind.i64 (0 : Int)), AV.v (Value.int IntKind.i64 (11 : Int))]) [])) (Tree.chk (cl (LeL [AV.v (Value.int IntKind.i64 lo), AV.v (Value.int IntKind.i64 hi), AV.sb (fmN s), AV.v
    (Value.int IntKind.i64 (0 : Int)), AV.its (0 : Nat), AV.v (Value.int IntKind.i64 (0 : Int)), AV.v (Value.int IntKind.i64 (0 : Int))] [AV.v (Value.int IntKind.i64 lo), AV.v (Value.int
    IntKind.i64 hi), AV.sb (fmN s), AV.v (Value.int IntKind.i64 (-(↑(0 : Nat) : Int))), AV.its (0 : Nat), AV.any, AV.any] ∧ LeH [some (Blk.sit (fmD s) (0 : Nat))] [some (Blk.sit (fmD s) (0 :
    Nat))])) (Tree.leaf (Ans.mk (AV.tup [AV.v (Value.int IntKind.i64 (0 : Int)), AV.v (Value.int IntKind.i64 (10 : Int))]) [])))) := by kernel_rfl
theorem runRe2 (s : ByteArray) (lo hi : Int) : bodyE (P := Try.prog) (Γ := Γu) TRe (fun _ => LSpec.at lvRe [] (SRe (fmD s) lo hi (fmN s) 0) (endRe (fmD s) lo hi (fmN s))) false 59 [.tmp 6, .tmp 7] (bodyOf Try.f8) [.v (.string s), .v (.int .i64 lo), .v (.int .i64 hi)] [] =
  Tree.chk (cl (ByteArray.size s ≤ (1000000000 : Nat) ∧ LeL [AV.v (Value.string s)] [AV.v (Value.string s)] ∧ LeH [] [])) (Tree.br (!fmB s) (Tree.leaf (Ans.mk (AV.tup [AV.v (Value.int
    IntKind.i64 (0 : Int)), AV.v (Value.int IntKind.i64 (11 : Int))]) [])) (Tree.chk (cl (LeL [AV.v (Value.int IntKind.i64 lo), AV.v (Value.int IntKind.i64 hi), AV.sb (fmN s), AV.v
    (Value.int IntKind.i64 (0 : Int)), AV.its (0 : Nat), AV.v (Value.int IntKind.i64 (0 : Int)), AV.v (Value.int IntKind.i64 (0 : Int))] [AV.v (Value.int IntKind.i64 lo), AV.v (Value.int
    IntKind.i64 hi), AV.sb (fmN s), AV.v (Value.int IntKind.i64 (-(↑(0 : Nat) : Int))), AV.its (0 : Nat), AV.any, AV.any] ∧ LeH [some (Blk.sit (fmD s) (0 : Nat))] [some (Blk.sit (fmD s) (0 :
    Nat))])) (Tree.br (!fmN s) (Tree.br (decide (-(↑(vN (fmD s) (ByteArray.size (fmD s))) : Int) = (-9223372036854775808 : Int))) (Tree.leaf (Ans.mk (AV.tup [AV.v (Value.int IntKind.i64 (0 :
    Int)), AV.v (Value.int IntKind.i64 (10 : Int))]) [])) (Tree.br (!bif decide (lo ≤ IntKind.wrap IntKind.i64 ((0 : Int) - -(↑(vN (fmD s) (ByteArray.size (fmD s))) : Int))) then decide
    (IntKind.wrap IntKind.i64 ((0 : Int) - -(↑(vN (fmD s) (ByteArray.size (fmD s))) : Int)) ≤ hi) else false) (Tree.leaf (Ans.mk (AV.tup [AV.v (Value.int IntKind.i64 (0 : Int)), AV.v
    (Value.int IntKind.i64 (10 : Int))]) [])) (Tree.leaf (Ans.mk (AV.tup [AV.v (Value.int IntKind.i64 (IntKind.wrap IntKind.i64 ((0 : Int) - -(↑(vN (fmD s) (ByteArray.size (fmD s))) :
    Int)))), AV.v (Value.int IntKind.i64 (0 : Int))]) [])))) (Tree.br (!bif decide (lo ≤ -(↑(vN (fmD s) (ByteArray.size (fmD s))) : Int)) then decide (-(↑(vN (fmD s) (ByteArray.size (fmD
    s))) : Int) ≤ hi) else false) (Tree.leaf (Ans.mk (AV.tup [AV.v (Value.int IntKind.i64 (0 : Int)), AV.v (Value.int IntKind.i64 (10 : Int))]) [])) (Tree.leaf (Ans.mk (AV.tup [AV.v
    (Value.int IntKind.i64 (-(↑(vN (fmD s) (ByteArray.size (fmD s))) : Int))), AV.v (Value.int IntKind.i64 (0 : Int))]) [])))))) := by kernel_rfl
theorem aD_all {s : ByteArray} : aD s ↔ allD (bdS s) := ⟨fun h i hi => by
    rw [bd_at hi]
    rw [bd_size] at hi
    exact h _ (by omega) (by omega), fun h i h1 h2 => by
    have h3 : i - loS s < (bdS s).size := by rw [bd_size]; omega
    have := h (i - loS s) h3
    rw [bd_at h3, show loS s + (i - loS s) = i by omega] at this
    exact this⟩
theorem bd_le {s : ByteArray} : (bdS s).size ≤ s.size := by rw [bd_size]; omega
theorem ansRe {s : ByteArray} {lo hi : Int} (hs : s.size ≤ 1000000000) : Answers Try.prog Γu 8 [.v (.string s), .v (.int .i64 lo), .v (.int .i64 hi)] [] (rdV s lo hi) [] [] := by
  unfold rdV rdN rdE
  cases hf : fmB s with
  | false =>
    simp only [Bool.false_eq_true, if_false]
    refine answers (fn := Try.f8) (c := bodyOf Try.f8) (ntmps := 59) (results := [.tmp 6, .tmp 7]) [kForm, kWi] (Lno) false Try.func8 (by kernel_rfl) (by kernel_rfl) (by kernel_rfl) (by kernel_rfl) (by simp) rfl (failOK fun _ _ _ => rfl) <| Meets.of (runRe0 s lo hi) <| ?_
    repeat' (first | refine wC (by first | omega | (simp only [W1, cond_true, cond_false, hf]; first | done | omega)) ?_ | refine wT (by first | omega | (simp only [W1, cond_true, cond_false, hf]; first | done | omega)) ?_ | refine wF (by intro _h; first | omega | (simp only [W1, cond_true, cond_false, hf] at _h; first | done | omega)) ?_ | (refine wS ?_ ?_ <;> intro _h <;> simp only [W1, cond_true, cond_false, hf] at _h))
    all_goals simp only [W1, W2, owesN, owesX, owesR, cond_true, cond_false, hf]
    repeat' (first | apply And.intro | intro _hc)
    all_goals first | exact AV.le_refl _ | exact AV.le_any _ | exact OLe.refl _ | exact OLe.none _ | exact LeH.refl _ | exact LeL.refl _ | exact AV.le.bs _ | exact AV.le.sb _ | omega | contradiction
  | true =>
    simp only [if_true]
    have ha : aD s := (cl_iff.1 hf).1
    have hD : fmD s = bdS s := if_pos ha
    have hN : fmN s = ngB s := if_pos ha
    have hl := loopRe (d := bdS s) (lo := lo) (hi := hi) (n := ngB s) (aD_all.1 ha) (Nat.le_trans bd_le hs) 0 ⟨Nat.zero_le _, Nat.zero_le _⟩
    unfold ORe at hl
    by_cases hq : 9223372036854775808 < vN (bdS s) (bdS s).size
    · rw [if_pos hq] at hl
      have hv0 : inV s lo hi = false := by
        unfold inV okV vS
        rw [decide_eq_false, Bool.false_and]
        split <;> omega
      rw [hv0]
      simp only [Bool.false_eq_true, if_false]
      refine answers (fn := Try.f8) (c := bodyOf Try.f8) (ntmps := 59) (results := [.tmp 6, .tmp 7]) [kForm, kWi] (fun _ => LSpec.at lvRe [] (SRe (fmD s) lo hi (fmN s) 0) retRe) false Try.func8 (by kernel_rfl) (by kernel_rfl) (by kernel_rfl) (by kernel_rfl) (by simp) rfl (oneLoop (b := lpRe) (by kernel_rfl) (by rw [hD, hN]; exact hl)) <| Meets.of (runRe1 s lo hi) <| ?_
      repeat' (first | refine wC (by first | omega | (simp only [W1, cond_true, cond_false, hf]; first | done | omega)) ?_ | refine wT (by first | omega | (simp only [W1, cond_true, cond_false, hf]; first | done | omega)) ?_ | refine wF (by intro _h; first | omega | (simp only [W1, cond_true, cond_false, hf] at _h; first | done | omega)) ?_ | (refine wS ?_ ?_ <;> intro _h <;> simp only [W1, cond_true, cond_false, hf] at _h))
      all_goals simp only [W1, W2, owesN, owesX, owesR, cond_true, cond_false, hf]
      repeat' (first | apply And.intro | intro _hc)
      all_goals first | exact AV.le_refl _ | exact AV.le_any _ | exact OLe.refl _ | exact OLe.none _ | exact LeH.refl _ | exact LeL.refl _ | exact AV.le.bs _ | exact AV.le.sb _ | omega | contradiction
    · rw [if_neg hq] at hl
      refine answers (fn := Try.f8) (c := bodyOf Try.f8) (ntmps := 59) (results := [.tmp 6, .tmp 7]) [kForm, kWi] (fun _ => LSpec.at lvRe [] (SRe (fmD s) lo hi (fmN s) 0) (endRe (fmD s) lo hi (fmN s))) false Try.func8 (by kernel_rfl) (by kernel_rfl) (by kernel_rfl) (by kernel_rfl) (by simp) rfl (oneLoop (b := lpRe) (by kernel_rfl) (by rw [hD, hN]; exact hl)) <| Meets.of (runRe2 s lo hi) <| ?_
      simp only [hD, hN]
      unfold inV okV vS sgV
      generalize vN (bdS s) (bdS s).size = V at *
      cases ngB s with
      | true =>
        have d1 : decide (V ≤ 9223372036854775808) = true := decide_eq_true (by omega)
        simp only [if_true, d1, Bool.true_and]
        cases h1 : decide (lo ≤ -(V : Int)) <;> cases h2 : decide (-(V : Int) ≤ hi)
        · repeat' (first | refine wC (by first | omega | (simp only [W1, cond_true, cond_false, h1, h2]; first | done | omega)) ?_ | refine wT (by first | omega | (simp only [W1, cond_true, cond_false, h1, h2]; first | done | omega)) ?_ | refine wF (by intro _h; first | omega | (simp only [W1, cond_true, cond_false, h1, h2] at _h; first | done | omega)) ?_ | (refine wS ?_ ?_ <;> intro _h <;> simp only [W1, cond_true, cond_false, h1, h2] at _h))
          all_goals simp only [W1, W2, owesN, owesX, owesR, cond_true, cond_false, h1, h2]
          repeat' (first | apply And.intro | intro _hc)
          all_goals first | exact tup2 (leI rfl) (leI rfl) | exact AV.le_refl _ | exact AV.le_any _ | exact OLe.refl _ | exact OLe.none _ | exact LeH.refl _ | exact LeL.refl _ | exact AV.le.bs _ | exact AV.le.sb _ | omega | contradiction
        · repeat' (first | refine wC (by first | omega | (simp only [W1, cond_true, cond_false, h1, h2]; first | done | omega)) ?_ | refine wT (by first | omega | (simp only [W1, cond_true, cond_false, h1, h2]; first | done | omega)) ?_ | refine wF (by intro _h; first | omega | (simp only [W1, cond_true, cond_false, h1, h2] at _h; first | done | omega)) ?_ | (refine wS ?_ ?_ <;> intro _h <;> simp only [W1, cond_true, cond_false, h1, h2] at _h))
          all_goals simp only [W1, W2, owesN, owesX, owesR, cond_true, cond_false, h1, h2]
          repeat' (first | apply And.intro | intro _hc)
          all_goals first | exact tup2 (leI rfl) (leI rfl) | exact AV.le_refl _ | exact AV.le_any _ | exact OLe.refl _ | exact OLe.none _ | exact LeH.refl _ | exact LeL.refl _ | exact AV.le.bs _ | exact AV.le.sb _ | omega | contradiction
        · repeat' (first | refine wC (by first | omega | (simp only [W1, cond_true, cond_false, h1, h2]; first | done | omega)) ?_ | refine wT (by first | omega | (simp only [W1, cond_true, cond_false, h1, h2]; first | done | omega)) ?_ | refine wF (by intro _h; first | omega | (simp only [W1, cond_true, cond_false, h1, h2] at _h; first | done | omega)) ?_ | (refine wS ?_ ?_ <;> intro _h <;> simp only [W1, cond_true, cond_false, h1, h2] at _h))
          all_goals simp only [W1, W2, owesN, owesX, owesR, cond_true, cond_false, h1, h2]
          repeat' (first | apply And.intro | intro _hc)
          all_goals first | exact tup2 (leI rfl) (leI rfl) | exact AV.le_refl _ | exact AV.le_any _ | exact OLe.refl _ | exact OLe.none _ | exact LeH.refl _ | exact LeL.refl _ | exact AV.le.bs _ | exact AV.le.sb _ | omega | contradiction
        · repeat' (first | refine wC (by first | omega | (simp only [W1, cond_true, cond_false, h1, h2]; first | done | omega)) ?_ | refine wT (by first | omega | (simp only [W1, cond_true, cond_false, h1, h2]; first | done | omega)) ?_ | refine wF (by intro _h; first | omega | (simp only [W1, cond_true, cond_false, h1, h2] at _h; first | done | omega)) ?_ | (refine wS ?_ ?_ <;> intro _h <;> simp only [W1, cond_true, cond_false, h1, h2] at _h))
          all_goals simp only [W1, W2, owesN, owesX, owesR, cond_true, cond_false, h1, h2]
          repeat' (first | apply And.intro | intro _hc)
          all_goals first | exact tup2 (leI rfl) (leI rfl) | exact AV.le_refl _ | exact AV.le_any _ | exact OLe.refl _ | exact OLe.none _ | exact LeH.refl _ | exact LeL.refl _ | exact AV.le.bs _ | exact AV.le.sb _ | omega | contradiction
      | false =>
        simp only [Bool.false_eq_true, if_false]
        by_cases hb : V = 9223372036854775808
        · have d1 : decide (V ≤ 9223372036854775807) = false := decide_eq_false (by omega)
          simp only [d1, Bool.false_and, Bool.false_eq_true, if_false]
          repeat' (first | refine wC (by first | omega | (simp only [W1, cond_true, cond_false]; first | done | omega)) ?_ | refine wT (by first | omega | (simp only [W1, cond_true, cond_false]; first | done | omega)) ?_ | refine wF (by intro _h; first | omega | (simp only [W1, cond_true, cond_false] at _h; first | done | omega)) ?_ | (refine wS ?_ ?_ <;> intro _h <;> simp only [W1, cond_true, cond_false] at _h))
          all_goals simp only [W1, W2, owesN, owesX, owesR, cond_true, cond_false]
          repeat' (first | apply And.intro | intro _hc)
          all_goals first | exact tup2 (leI rfl) (leI rfl) | exact AV.le_refl _ | exact AV.le_any _ | exact OLe.refl _ | exact OLe.none _ | exact LeH.refl _ | exact LeL.refl _ | exact AV.le.bs _ | exact AV.le.sb _ | omega | contradiction
        · have d1 : decide (V ≤ 9223372036854775807) = true := decide_eq_true (by omega)
          have w1 : IntKind.wrap IntKind.i64 ((0 : Int) - -(V : Int)) = (V : Int) := by rw [wrap64 (by omega) (by omega)]; omega
          simp only [d1, Bool.true_and, w1]
          cases h1 : decide (lo ≤ (V : Int)) <;> cases h2 : decide ((V : Int) ≤ hi)
          · repeat' (first | refine wC (by first | omega | (simp only [W1, cond_true, cond_false, h1, h2]; first | done | omega)) ?_ | refine wT (by first | omega | (simp only [W1, cond_true, cond_false, h1, h2]; first | done | omega)) ?_ | refine wF (by intro _h; first | omega | (simp only [W1, cond_true, cond_false, h1, h2] at _h; first | done | omega)) ?_ | (refine wS ?_ ?_ <;> intro _h <;> simp only [W1, cond_true, cond_false, h1, h2] at _h))
            all_goals simp only [W1, W2, owesN, owesX, owesR, cond_true, cond_false, h1, h2]
            repeat' (first | apply And.intro | intro _hc)
            all_goals first | exact tup2 (leI rfl) (leI rfl) | exact AV.le_refl _ | exact AV.le_any _ | exact OLe.refl _ | exact OLe.none _ | exact LeH.refl _ | exact LeL.refl _ | exact AV.le.bs _ | exact AV.le.sb _ | omega | contradiction
          · repeat' (first | refine wC (by first | omega | (simp only [W1, cond_true, cond_false, h1, h2]; first | done | omega)) ?_ | refine wT (by first | omega | (simp only [W1, cond_true, cond_false, h1, h2]; first | done | omega)) ?_ | refine wF (by intro _h; first | omega | (simp only [W1, cond_true, cond_false, h1, h2] at _h; first | done | omega)) ?_ | (refine wS ?_ ?_ <;> intro _h <;> simp only [W1, cond_true, cond_false, h1, h2] at _h))
            all_goals simp only [W1, W2, owesN, owesX, owesR, cond_true, cond_false, h1, h2]
            repeat' (first | apply And.intro | intro _hc)
            all_goals first | exact tup2 (leI rfl) (leI rfl) | exact AV.le_refl _ | exact AV.le_any _ | exact OLe.refl _ | exact OLe.none _ | exact LeH.refl _ | exact LeL.refl _ | exact AV.le.bs _ | exact AV.le.sb _ | omega | contradiction
          · repeat' (first | refine wC (by first | omega | (simp only [W1, cond_true, cond_false, h1, h2]; first | done | omega)) ?_ | refine wT (by first | omega | (simp only [W1, cond_true, cond_false, h1, h2]; first | done | omega)) ?_ | refine wF (by intro _h; first | omega | (simp only [W1, cond_true, cond_false, h1, h2] at _h; first | done | omega)) ?_ | (refine wS ?_ ?_ <;> intro _h <;> simp only [W1, cond_true, cond_false, h1, h2] at _h))
            all_goals simp only [W1, W2, owesN, owesX, owesR, cond_true, cond_false, h1, h2]
            repeat' (first | apply And.intro | intro _hc)
            all_goals first | exact tup2 (leI rfl) (leI rfl) | exact AV.le_refl _ | exact AV.le_any _ | exact OLe.refl _ | exact OLe.none _ | exact LeH.refl _ | exact LeL.refl _ | exact AV.le.bs _ | exact AV.le.sb _ | omega | contradiction
          · repeat' (first | refine wC (by first | omega | (simp only [W1, cond_true, cond_false, h1, h2]; first | done | omega)) ?_ | refine wT (by first | omega | (simp only [W1, cond_true, cond_false, h1, h2]; first | done | omega)) ?_ | refine wF (by intro _h; first | omega | (simp only [W1, cond_true, cond_false, h1, h2] at _h; first | done | omega)) ?_ | (refine wS ?_ ?_ <;> intro _h <;> simp only [W1, cond_true, cond_false, h1, h2] at _h))
            all_goals simp only [W1, W2, owesN, owesX, owesR, cond_true, cond_false, h1, h2]
            repeat' (first | apply And.intro | intro _hc)
            all_goals first | exact tup2 (leI rfl) (leI rfl) | exact AV.le_refl _ | exact AV.le_any _ | exact OLe.refl _ | exact OLe.none _ | exact LeH.refl _ | exact LeL.refl _ | exact AV.le.bs _ | exact AV.le.sb _ | omega | contradiction
end Go.Eng.U

/- numbers: digits compared as bytes. -/
namespace Go.Eng.U
open Go Go.Eng Go.Eng.M Go.Lib Go.Proofs
set_option linter.unusedSimpArgs false
set_option linter.unusedVariables false
def vL : List UInt8 → Nat → Nat
  | [], a => a
  | x :: l, a => vL l (10 * a + (x.toNat - 48))
def dL (l : List UInt8) : Prop := ∀ x ∈ l, 48 ≤ x.toNat ∧ x.toNat ≤ 57
theorem vL_app (l : List UInt8) (x : UInt8) : ∀ a, vL (l ++ [x]) a = 10 * vL l a + (x.toNat - 48) := by
  induction l with
  | nil => intro a; rfl
  | cons y l ih => intro a; exact ih _
theorem vL_bound : ∀ {l : List UInt8} {a : Nat}, dL l → a * 10 ^ l.length ≤ vL l a ∧ vL l a < (a + 1) * 10 ^ l.length := by
  intro l
  induction l with
  | nil => intro a _; simp [vL]
  | cons x l ih =>
    intro a h
    obtain ⟨h1, h2⟩ := h x (List.mem_cons_self ..)
    obtain ⟨i1, i2⟩ := ih (a := 10 * a + (x.toNat - 48)) (fun y hy => h y (List.mem_cons_of_mem _ hy))
    rw [List.length_cons, Nat.pow_succ]
    show a * (10 ^ l.length * 10) ≤ vL l (10 * a + (x.toNat - 48)) ∧ vL l (10 * a + (x.toNat - 48)) < (a + 1) * (10 ^ l.length * 10)
    generalize 10 ^ l.length = T at *
    generalize vL l (10 * a + (x.toNat - 48)) = V at *
    generalize hk : x.toNat - 48 = k at *
    have hk : k ≤ 9 := by omega
    have e1 : a * (T * 10) ≤ (10 * a + k) * T := by
      have : a * (T * 10) = (10 * a) * T := by rw [Nat.mul_comm T 10, ← Nat.mul_assoc, Nat.mul_comm a 10]
      rw [this]; exact Nat.mul_le_mul_right _ (by omega)
    have e2 : (10 * a + k + 1) * T ≤ (a + 1) * (T * 10) := by
      have : (a + 1) * (T * 10) = (10 * (a + 1)) * T := by rw [Nat.mul_comm T 10, ← Nat.mul_assoc, Nat.mul_comm (a + 1) 10]
      rw [this]; exact Nat.mul_le_mul_right _ (by omega)
    omega
theorem vL_lt {l m : List UInt8} {a b : Nat} (hl : dL l) (hm : dL m) (he : l.length = m.length) (h : a < b) : vL l a < vL m b := by
  have h1 := (vL_bound (a := a) hl).2
  have h2 := (vL_bound (a := b) hm).1
  rw [← he] at h2
  have : (a + 1) * 10 ^ l.length ≤ b * 10 ^ l.length := Nat.mul_le_mul_right _ h
  omega
theorem vL_inj : ∀ {l m : List UInt8} {a : Nat}, dL l → dL m → l.length = m.length → vL l a = vL m a → l = m := by
  intro l
  induction l with
  | nil => intro m a _ _ h _; exact (List.eq_nil_of_length_eq_zero h.symm).symm
  | cons x l ih =>
    intro m a hl hm h e
    cases m with
    | nil => cases h
    | cons y m =>
      have hn : l.length = m.length := by simpa using h
      clear h
      have hl' : dL l := fun z hz => hl z (List.mem_cons_of_mem _ hz)
      have hm' : dL m := fun z hz => hm z (List.mem_cons_of_mem _ hz)
      obtain ⟨x1, x2⟩ := hl x (List.mem_cons_self ..)
      obtain ⟨y1, y2⟩ := hm y (List.mem_cons_self ..)
      have e : vL l (10 * a + (x.toNat - 48)) = vL m (10 * a + (y.toNat - 48)) := e
      rcases Nat.lt_trichotomy x.toNat y.toNat with c | c | c
      · have := vL_lt hl' hm' hn (show 10 * a + (x.toNat - 48) < 10 * a + (y.toNat - 48) by omega); omega
      · obtain rfl : x = y := UInt8.toNat_inj.1 c
        rw [ih hl' hm' hn e]
      · have := vL_lt hm' hl' hn.symm (show 10 * a + (y.toNat - 48) < 10 * a + (x.toNat - 48) by omega); omega
theorem vL_less : ∀ {l m : List UInt8} {a : Nat}, dL l → dL m → l.length = m.length → Op.bytesLess l m = decide (vL l a < vL m a) := by
  intro l
  induction l with
  | nil => intro m a _ _ h; rw [List.eq_nil_of_length_eq_zero h.symm]; simp [Op.bytesLess, vL]
  | cons x l ih =>
    intro m a hl hm h
    cases m with
    | nil => cases h
    | cons y m =>
      have hn : l.length = m.length := by simpa using h
      clear h
      have hl' : dL l := fun z hz => hl z (List.mem_cons_of_mem _ hz)
      have hm' : dL m := fun z hz => hm z (List.mem_cons_of_mem _ hz)
      obtain ⟨x1, x2⟩ := hl x (List.mem_cons_self ..)
      obtain ⟨y1, y2⟩ := hm y (List.mem_cons_self ..)
      show (decide (x < y) || (x == y && Op.bytesLess l m)) = decide (vL l (10 * a + (x.toNat - 48)) < vL m (10 * a + (y.toNat - 48)))
      rcases Nat.lt_trichotomy x.toNat y.toNat with c | c | c
      · have h1 := vL_lt hl' hm' hn (show 10 * a + (x.toNat - 48) < 10 * a + (y.toNat - 48) by omega)
        rw [decide_eq_true h1, decide_eq_true (UInt8.lt_iff_toNat_lt.2 c)]; rfl
      · obtain rfl : x = y := UInt8.toNat_inj.1 c
        rw [← ih hl' hm' hn, decide_eq_false (show ¬ x < x from fun hh => by have := UInt8.lt_iff_toNat_lt.1 hh; omega)]
        simp
      · have h1 := vL_lt hm' hl' hn.symm (show 10 * a + (y.toNat - 48) < 10 * a + (x.toNat - 48) by omega)
        rw [decide_eq_false (show ¬ vL l (10 * a + (x.toNat - 48)) < vL m (10 * a + (y.toNat - 48)) by omega), decide_eq_false (show ¬ x < y from fun hh => by have := UInt8.lt_iff_toNat_lt.1 hh; omega)]
        have hne : (x == y) = false := by
          rw [beq_eq_false_iff_ne]; intro e; subst e; omega
        rw [hne]; rfl
theorem bN_list (l : List UInt8) (i : Nat) (h : i < l.length) : bN ⟨⟨l⟩⟩ i = (l[i]).toNat := by
  unfold bN
  simp [List.getElem?_eq_getElem h]
theorem vN_vL (l : List UInt8) : ∀ q, q ≤ l.length → vN ⟨⟨l⟩⟩ q = vL (l.take q) 0 := by
  intro q
  induction q with
  | zero => intro _; rfl
  | succ q ih =>
    intro h
    rw [vN, ih (by omega), List.take_succ_eq_append_getElem (by omega), vL_app, bN_list l q (by omega)]
theorem vN_size (d : ByteArray) : vN d d.size = vL d.data.toList 0 := by
  obtain ⟨⟨l⟩⟩ := d
  show vN ⟨⟨l⟩⟩ l.length = vL l 0
  rw [vN_vL l _ (Nat.le_refl _), List.take_length]
end Go.Eng.U

/- numbers: the document reads. -/
namespace Go.Eng.U
open Go Go.Eng Go.Eng.M Go.Lib Go.Proofs
set_option linter.unusedSimpArgs false
set_option linter.unusedVariables false
def topP : ByteArray := ⟨#[57, 50, 50, 51, 51, 55, 50, 48, 51, 54, 56, 53, 52, 55, 55, 53, 56, 48, 55]⟩
def topN : ByteArray := ⟨#[57, 50, 50, 51, 51, 55, 50, 48, 51, 54, 56, 53, 52, 55, 55, 53, 56, 48, 56]⟩
def topB (n : Bool) : ByteArray := if n then topN else topP
def topM (n : Bool) : Nat := if n then 9223372036854775808 else 9223372036854775807
theorem topV (n : Bool) : vL (topB n).data.toList 0 = topM n ∧ (topB n).data.toList.length = 19 ∧ dL (topB n).data.toList := by
  cases n
  · exact ⟨by decide +kernel, by decide +kernel, by unfold dL; decide +kernel⟩
  · exact ⟨by decide +kernel, by decide +kernel, by unfold dL; decide +kernel⟩
theorem allD_dL {d : ByteArray} (h : allD d) : dL d.data.toList := fun x hx => by
  obtain ⟨i, hi, rfl⟩ := List.getElem_of_mem hx
  have := h i hi
  obtain ⟨⟨l⟩⟩ := d
  rw [bN_list l i hi] at this
  exact this
/-- is it more than the top? as the document asks -/
def overB (n : Bool) (d : ByteArray) : Bool := bif decide (((19 : Nat) : Int) < (d.size : Int)) then true else bif decide ((d.size : Int) = ((19 : Nat) : Int)) then !(Op.bytesLess d.data.toList (topB n).data.toList || decide (d = topB n)) else false
theorem over_iff {n : Bool} {d : ByteArray} (ha : allD d) (hz : d.size = 1 ∨ (1 < d.size ∧ bN d 0 ≠ 48)) : overB n d = decide (topM n < vN d d.size) := by
  obtain ⟨t1, t2, t3⟩ := topV n
  have hL := allD_dL ha
  have hsz : d.data.toList.length = d.size := rfl
  obtain ⟨b1, b2⟩ := vL_bound (a := 0) hL
  rw [hsz] at b1 b2
  have hv := vN_size d
  have hM : 9223372036854775807 ≤ topM n ∧ topM n ≤ 9223372036854775808 := by unfold topM; split <;> omega
  unfold overB
  rcases Nat.lt_trichotomy d.size 19 with c | c | c
  · have : vL d.data.toList 0 < 10 ^ 18 := Nat.lt_of_lt_of_le b2 (by rw [Nat.zero_add, Nat.one_mul]; exact Nat.pow_le_pow_right (by omega) (by omega))
    rw [decide_eq_false (show ¬ ((19 : Nat) : Int) < (d.size : Int) by omega), decide_eq_false (show ¬ (d.size : Int) = ((19 : Nat) : Int) by omega), decide_eq_false (show ¬ topM n < vN d d.size by omega)]; rfl
  · have hl : d.data.toList.length = (topB n).data.toList.length := by rw [t2, hsz, c]
    have h1 := vL_less (a := 0) hL t3 hl
    rw [decide_eq_false (show ¬ ((19 : Nat) : Int) < (d.size : Int) by omega), decide_eq_true (show (d.size : Int) = ((19 : Nat) : Int) by omega), h1, t1, ← hv]
    simp only [cond_true, cond_false]
    by_cases he : d = topB n
    · have : vN d d.size = topM n := by rw [hv, he, t1]
      rw [decide_eq_true he, decide_eq_false (show ¬ topM n < vN d d.size by omega)]; simp
    · have hne : ¬ vN d d.size = topM n := fun e => he (by
        have := vL_inj (a := 0) hL t3 hl (by rw [t1, ← hv, e])
        obtain ⟨⟨l⟩⟩ := d
        generalize topB n = tb at *
        obtain ⟨⟨m⟩⟩ := tb
        have : l = m := this
        rw [this])
      rw [decide_eq_false he]
      by_cases hq : vN d d.size < topM n
      · rw [decide_eq_true hq, decide_eq_false (show ¬ topM n < vN d d.size by omega)]; rfl
      · rw [decide_eq_false hq, decide_eq_true (show topM n < vN d d.size by omega)]; rfl
  · have hb : 10 ^ 19 ≤ vN d d.size := by
      rcases hz with hz | ⟨_, hz⟩
      · omega
      · rw [hv]
        obtain ⟨⟨l⟩⟩ := d
        cases l with
        | nil => exact absurd c (by show ¬ 19 < 0; omega)
        | cons x l =>
          have hx : 49 ≤ x.toNat := by
            obtain ⟨x1, x2⟩ := hL x (List.mem_cons_self ..)
            have : bN ⟨⟨x :: l⟩⟩ 0 = x.toNat := rfl
            omega
          have hl' : dL l := fun z h => hL z (List.mem_cons_of_mem _ h)
          have b3 := (vL_bound (a := 10 * 0 + (x.toNat - 48)) hl').1
          have c : 19 < l.length + 1 := c
          have b4 : 10 ^ 19 ≤ 10 ^ l.length := Nat.pow_le_pow_right (by omega) (by omega)
          have b5 : 1 * 10 ^ l.length ≤ (10 * 0 + (x.toNat - 48)) * 10 ^ l.length := Nat.mul_le_mul_right _ (by omega)
          show 10 ^ 19 ≤ vL l (10 * 0 + (x.toNat - 48))
          omega
    rw [decide_eq_true (show ((19 : Nat) : Int) < (d.size : Int) by omega), decide_eq_true (show topM n < vN d d.size by omega)]; rfl
/-- which words are a number's, as the document asks -/
theorem fm_dg {s : ByteArray} : fmB s = (dgB (bdS s) && !(ngB s && decide (bdS s = ⟨#[48]⟩))) := by
  rw [Bool.eq_iff_iff, Bool.and_eq_true]
  unfold fmB dgB
  rw [cl_iff, cl_iff, aD_all, Bool.not_eq_true', Bool.and_eq_false_iff, decide_eq_false_iff_not, zero_size]
  constructor
  · intro ⟨h1, h2, h3⟩
    refine ⟨⟨h1, ?_⟩, ?_⟩
    · rcases h3 with h | ⟨h, _⟩
      · by_cases hs : (bdS s).size = 1
        · exact .inl hs
        · exact .inr ⟨by omega, h⟩
      · exact .inl h
    · rcases h3 with h | ⟨_, h⟩
      · exact .inr fun hh => h hh.2
      · exact .inl h
  · intro ⟨⟨h1, h2⟩, h3⟩
    refine ⟨h1, by omega, ?_⟩
    rcases h3 with h | h
    · rcases h2 with h2 | ⟨_, h2⟩
      · exact .inr ⟨h2, h⟩
      · exact .inl h2
    · by_cases hb : bN (bdS s) 0 = 48
      · rcases h2 with h2 | ⟨_, h2⟩
        · exact absurd ⟨h2, hb⟩ h
        · exact .inl h2
      · exact .inl hb
theorem runRl (s : ByteArray) (lo hi : Int) : bodyE (P := Try.prog) (Γ := Γu) [kDg] (fun _ => LSpec.at lvRr [] (SRr (bdS s) lo hi (ngB s) 0) (endRr (bdS s) lo hi (ngB s))) false 84 [.tmp 6, .tmp 7] (bodyOf Try.f9) [.v (.string s), .v (.int .i64 lo), .v (.int .i64 hi)] [] =
  Tree.chk (bif decide ((0 : Int) < (↑(ByteArray.size s) : Int)) then decide ((0 : Int) < (↑(ByteArray.size s) : Int)) else true) (Tree.br (bif decide ((0 : Int) < (↑(ByteArray.size s) : Int))
    then decide (sbyte s (Int.toNat (0 : Int)) = (45 : Int)) else false) (Tree.chk (decide ((1 : Int) ≤ (↑(ByteArray.size s) : Int)) && decide ((↑(ByteArray.size s) : Int) ≤
    (↑(ByteArray.size s) : Int))) (Tree.chk (cl (ByteArray.size (ByteArray.extract s (Int.toNat (1 : Int)) (ByteArray.size s)) ≤ (1000000000 : Nat) ∧ LeL [AV.v (Value.string
    (ByteArray.extract s (Int.toNat (1 : Int)) (ByteArray.size s)))] [AV.v (Value.string (ByteArray.extract s (Int.toNat (1 : Int)) (ByteArray.size s)))] ∧ LeH [] [])) (Tree.br (bif !dgB
    (ByteArray.extract s (Int.toNat (1 : Int)) (ByteArray.size s)) then true else bif bif decide ((0 : Int) < (↑(ByteArray.size s) : Int)) then decide (sbyte s (Int.toNat (0 : Int)) = (45 :
    Int)) else false then decide (ByteArray.extract s (Int.toNat (1 : Int)) (ByteArray.size s) = ByteArray.mk #[(48 : UInt8)]) else false) (Tree.leaf (Ans.mk (AV.tup [AV.v (Value.int
    IntKind.i64 (0 : Int)), AV.v (Value.int IntKind.i64 (11 : Int))]) [])) (Tree.br (bif decide ((↑(19 : Nat) : Int) < (↑(ByteArray.size (ByteArray.extract s (Int.toNat (1 : Int))
    (ByteArray.size s))) : Int)) then true else bif decide ((↑(ByteArray.size (ByteArray.extract s (Int.toNat (1 : Int)) (ByteArray.size s))) : Int) = (↑(19 : Nat) : Int)) then
    !(Op.bytesLess (ByteArray.extract s (Int.toNat (1 : Int)) (Int.toNat (↑(ByteArray.size s) : Int))).data.toList (ByteArray.mk #[(57 : UInt8), (50 : UInt8), (50 : UInt8), (51 : UInt8), (51
    : UInt8), (55 : UInt8), (50 : UInt8), (48 : UInt8), (51 : UInt8), (54 : UInt8), (56 : UInt8), (53 : UInt8), (52 : UInt8), (55 : UInt8), (55 : UInt8), (53 : UInt8), (56 : UInt8), (48 :
    UInt8), (56 : UInt8)]).data.toList || decide (ByteArray.extract s (Int.toNat (1 : Int)) (ByteArray.size s) = ByteArray.mk #[(57 : UInt8), (50 : UInt8), (50 : UInt8), (51 : UInt8), (51 :
    UInt8), (55 : UInt8), (50 : UInt8), (48 : UInt8), (51 : UInt8), (54 : UInt8), (56 : UInt8), (53 : UInt8), (52 : UInt8), (55 : UInt8), (55 : UInt8), (53 : UInt8), (56 : UInt8), (48 :
    UInt8), (56 : UInt8)])) else false) (Tree.leaf (Ans.mk (AV.tup [AV.v (Value.int IntKind.i64 (0 : Int)), AV.v (Value.int IntKind.i64 (10 : Int))]) [])) (Tree.chk (cl (LeL [AV.v (Value.int
    IntKind.i64 lo), AV.v (Value.int IntKind.i64 hi), AV.v (Value.string (ByteArray.extract s (Int.toNat (1 : Int)) (ByteArray.size s))), AV.sb (bif decide ((0 : Int) < (↑(ByteArray.size s)
    : Int)) then decide (sbyte s (Int.toNat (0 : Int)) = (45 : Int)) else false), AV.v (Value.int IntKind.i64 (0 : Int)), AV.v (Value.int IntKind.i64 (0 : Int))] [AV.v (Value.int IntKind.i64
    lo), AV.v (Value.int IntKind.i64 hi), AV.v (Value.string (bdS s)), AV.sb (ngB s), AV.v (Value.int IntKind.i64 (if ngB s = true then -(↑(0 : Nat) : Int) else (↑(0 : Nat) : Int))), AV.v
    (Value.int IntKind.i64 (↑(0 : Nat) : Int))] ∧ LeH [] [])) (Tree.br (bif decide (sgV (ngB s) (vN (bdS s) (ByteArray.size (bdS s))) < lo) then true else decide (hi < sgV (ngB s) (vN (bdS
    s) (ByteArray.size (bdS s))))) (Tree.leaf (Ans.mk (AV.tup [AV.v (Value.int IntKind.i64 (0 : Int)), AV.v (Value.int IntKind.i64 (10 : Int))]) [])) (Tree.leaf (Ans.mk (AV.tup [AV.v
    (Value.int IntKind.i64 (sgV (ngB s) (vN (bdS s) (ByteArray.size (bdS s))))), AV.v (Value.int IntKind.i64 (0 : Int))]) [])))))))) (Tree.chk (cl (ByteArray.size s ≤ (1000000000 : Nat) ∧
    LeL [AV.v (Value.string s)] [AV.v (Value.string s)] ∧ LeH [] [])) (Tree.br (bif !dgB s then true else bif bif decide ((0 : Int) < (↑(ByteArray.size s) : Int)) then decide (sbyte s
    (Int.toNat (0 : Int)) = (45 : Int)) else false then decide (s = ByteArray.mk #[(48 : UInt8)]) else false) (Tree.leaf (Ans.mk (AV.tup [AV.v (Value.int IntKind.i64 (0 : Int)), AV.v
    (Value.int IntKind.i64 (11 : Int))]) [])) (Tree.br (bif decide ((↑(19 : Nat) : Int) < (↑(ByteArray.size s) : Int)) then true else bif decide ((↑(ByteArray.size s) : Int) = (↑(19 : Nat) :
    Int)) then !(Op.bytesLess s.data.toList (ByteArray.mk #[(57 : UInt8), (50 : UInt8), (50 : UInt8), (51 : UInt8), (51 : UInt8), (55 : UInt8), (50 : UInt8), (48 : UInt8), (51 : UInt8), (54
    : UInt8), (56 : UInt8), (53 : UInt8), (52 : UInt8), (55 : UInt8), (55 : UInt8), (53 : UInt8), (56 : UInt8), (48 : UInt8), (55 : UInt8)]).data.toList || decide (s = ByteArray.mk #[(57 :
    UInt8), (50 : UInt8), (50 : UInt8), (51 : UInt8), (51 : UInt8), (55 : UInt8), (50 : UInt8), (48 : UInt8), (51 : UInt8), (54 : UInt8), (56 : UInt8), (53 : UInt8), (52 : UInt8), (55 :
    UInt8), (55 : UInt8), (53 : UInt8), (56 : UInt8), (48 : UInt8), (55 : UInt8)])) else false) (Tree.leaf (Ans.mk (AV.tup [AV.v (Value.int IntKind.i64 (0 : Int)), AV.v (Value.int
    IntKind.i64 (10 : Int))]) [])) (Tree.chk (cl (LeL [AV.v (Value.int IntKind.i64 lo), AV.v (Value.int IntKind.i64 hi), AV.v (Value.string s), AV.sb (bif decide ((0 : Int) <
    (↑(ByteArray.size s) : Int)) then decide (sbyte s (Int.toNat (0 : Int)) = (45 : Int)) else false), AV.v (Value.int IntKind.i64 (0 : Int)), AV.v (Value.int IntKind.i64 (0 : Int))] [AV.v
    (Value.int IntKind.i64 lo), AV.v (Value.int IntKind.i64 hi), AV.v (Value.string (bdS s)), AV.sb (ngB s), AV.v (Value.int IntKind.i64 (if ngB s = true then -(↑(0 : Nat) : Int) else (↑(0 :
    Nat) : Int))), AV.v (Value.int IntKind.i64 (↑(0 : Nat) : Int))] ∧ LeH [] [])) (Tree.br (bif decide (sgV (ngB s) (vN (bdS s) (ByteArray.size (bdS s))) < lo) then true else decide (hi <
    sgV (ngB s) (vN (bdS s) (ByteArray.size (bdS s))))) (Tree.leaf (Ans.mk (AV.tup [AV.v (Value.int IntKind.i64 (0 : Int)), AV.v (Value.int IntKind.i64 (10 : Int))]) [])) (Tree.leaf (Ans.mk
    (AV.tup [AV.v (Value.int IntKind.i64 (sgV (ngB s) (vN (bdS s) (ByteArray.size (bdS s))))), AV.v (Value.int IntKind.i64 (0 : Int))]) [])))))))) := by kernel_rfl
end Go.Eng.U

/- numbers: the document reads: the contract. -/
namespace Go.Eng.U
open Go Go.Eng Go.Eng.M Go.Lib Go.Proofs
set_option linter.unusedSimpArgs false
set_option linter.unusedVariables false
theorem ngE (s : ByteArray) : (bif decide ((0 : Int) < (s.size : Int)) then decide (sbyte s (Int.toNat (0 : Int)) = (45 : Int)) else false) = ngB s := by
  have e0 : sbyte s (Int.toNat 0) = (bN s 0 : Int) := rfl
  have h1 : ((bN s 0 : Int) = 45) ↔ bN s 0 = 45 := by omega
  have h2 : ((0 : Int) < (s.size : Int)) ↔ 0 < s.size := by omega
  simp only [e0, h1, h2]
  unfold ngB
  cases decide (0 < s.size) <;> rfl
theorem brE (s : ByteArray) : (bif !dgB (bdS s) then true else bif ngB s then decide (bdS s = ⟨#[48]⟩) else false) = !fmB s := by
  rw [fm_dg]
  cases dgB (bdS s) <;> cases ngB s <;> cases decide (bdS s = ⟨#[48]⟩) <;> rfl
theorem overT (d : ByteArray) : (bif decide (((19 : Nat) : Int) < (d.size : Int)) then true else bif decide ((d.size : Int) = ((19 : Nat) : Int)) then !(Op.bytesLess d.data.toList [(57 : UInt8), (50 : UInt8), (50 : UInt8), (51 : UInt8), (51 : UInt8), (55 : UInt8), (50 : UInt8), (48 : UInt8), (51 : UInt8), (54 : UInt8), (56 : UInt8), (53 : UInt8), (52 : UInt8), (55 : UInt8), (55 : UInt8), (53 : UInt8), (56 : UInt8), (48 : UInt8), (56 : UInt8)] || decide (d = ByteArray.mk #[(57 : UInt8), (50 : UInt8), (50 : UInt8), (51 : UInt8), (51 : UInt8), (55 : UInt8), (50 : UInt8), (48 : UInt8), (51 : UInt8), (54 : UInt8), (56 : UInt8), (53 : UInt8), (52 : UInt8), (55 : UInt8), (55 : UInt8), (53 : UInt8), (56 : UInt8), (48 : UInt8), (56 : UInt8)])) else false) = overB true d := rfl
theorem overF (d : ByteArray) : (bif decide (((19 : Nat) : Int) < (d.size : Int)) then true else bif decide ((d.size : Int) = ((19 : Nat) : Int)) then !(Op.bytesLess d.data.toList [(57 : UInt8), (50 : UInt8), (50 : UInt8), (51 : UInt8), (51 : UInt8), (55 : UInt8), (50 : UInt8), (48 : UInt8), (51 : UInt8), (54 : UInt8), (56 : UInt8), (53 : UInt8), (52 : UInt8), (55 : UInt8), (55 : UInt8), (53 : UInt8), (56 : UInt8), (48 : UInt8), (55 : UInt8)] || decide (d = ByteArray.mk #[(57 : UInt8), (50 : UInt8), (50 : UInt8), (51 : UInt8), (51 : UInt8), (55 : UInt8), (50 : UInt8), (48 : UInt8), (51 : UInt8), (54 : UInt8), (56 : UInt8), (53 : UInt8), (52 : UInt8), (55 : UInt8), (55 : UInt8), (53 : UInt8), (56 : UInt8), (48 : UInt8), (55 : UInt8)])) else false) = overB false d := rfl
theorem fm_facts {s : ByteArray} (h : fmB s = true) : allD (bdS s) ∧ ((bdS s).size = 1 ∨ (1 < (bdS s).size ∧ bN (bdS s) 0 ≠ 48)) := by
  rw [fm_dg, Bool.and_eq_true] at h
  exact cl_iff.1 h.1
theorem okV_over {s : ByteArray} (h : fmB s = true) : okV s = !overB (ngB s) (bdS s) := by
  obtain ⟨h1, h2⟩ := fm_facts h
  rw [over_iff h1 h2]
  unfold okV vS topM
  rw [Bool.eq_iff_iff, decide_eq_true_iff, Bool.not_eq_true', decide_eq_false_iff_not]
  exact Nat.not_lt.symm
set_option maxHeartbeats 1000000 in
theorem ansRr {s : ByteArray} {lo hi : Int} (hs : s.size ≤ 1000000000) : Answers Try.prog Γu 9 [.v (.string s), .v (.int .i64 lo), .v (.int .i64 hi)] [] (rdV s lo hi) [] [] := by
  have hbr := brE s
  have hbl : (bdS s).size ≤ 1000000000 := Nat.le_trans bd_le hs
  have hng := ngE s
  have hC : (bif decide ((0 : Int) < (s.size : Int)) then decide ((0 : Int) < (s.size : Int)) else true) = true := by
    cases decide ((0 : Int) < (s.size : Int)) <;> rfl
  have hz : ngB s = true → 1 ≤ s.size := fun h => by unfold ngB at h; simp at h; omega
  unfold rdV rdN rdE
  by_cases hf : fmB s = true ∧ okV s = true
  · obtain ⟨hf, hok⟩ := hf
    have hov := okV_over hf
    rw [hok] at hov
    have hov : overB (ngB s) (bdS s) = false := by cases h : overB (ngB s) (bdS s) with | true => (rw [h] at hov; exact absurd hov (by decide)) | false => rfl
    have hv : vN (bdS s) (bdS s).size ≤ if ngB s then 9223372036854775808 else 9223372036854775807 := of_decide_eq_true hok
    have hl := loopRr (d := bdS s) (lo := lo) (hi := hi) (n := ngB s) (fm_facts hf).1 hbl hv 0 (Nat.zero_le _)
    refine answers (fn := Try.f9) (c := bodyOf Try.f9) (ntmps := 84) (results := [.tmp 6, .tmp 7]) [kDg] (fun _ => LSpec.at lvRr [] (SRr (bdS s) lo hi (ngB s) 0) (endRr (bdS s) lo hi (ngB s))) false Try.func9 (by kernel_rfl) (by kernel_rfl) (by kernel_rfl) (by kernel_rfl) (by simp) rfl (oneLoop (b := lpRr) (by kernel_rfl) hl) <| Meets.of (runRl s lo hi) <| ?_
    rw [hf] at hbr ⊢
    unfold inV
    rw [hok]
    change Tree.sat _ _
    simp only [if_true, Bool.true_and, hng, hC]
    have hV : vS s = vN (bdS s) (bdS s).size := rfl
    rw [hV]
    generalize sgV (ngB s) (vN (bdS s) (bdS s).size) = V at *
    have hi2 : (bif decide (V < lo) then true else decide (hi < V)) = !(decide (lo ≤ V) && decide (V ≤ hi)) := by
      have e1 : decide (V < lo) = !decide (lo ≤ V) := by rw [Bool.eq_iff_iff]; simp
      have e2 : decide (hi < V) = !decide (V ≤ hi) := by rw [Bool.eq_iff_iff]; simp
      rw [e1, e2]
      cases decide (lo ≤ V) <;> cases decide (V ≤ hi) <;> rfl
    rw [hi2]
    cases hn : ngB s with
    | true =>
      have hx := bd_neg hn
      rw [hn] at hov hbr
      simp only [Int.toNat_one, Int.toNat_natCast, ← hx, hbr, overT, hov, hn, hi2]
      have := hz hn
      cases hin : decide (lo ≤ V) && decide (V ≤ hi)
      · repeat' (first | refine wC (by first | omega | (simp only [W1, cond_true, cond_false, hin, hbl]; first | done | omega)) ?_ | refine wT (by first | omega | (simp only [W1, cond_true, cond_false, hin, hbl]; first | done | omega)) ?_ | refine wF (by intro _h; first | omega | (simp only [W1, cond_true, cond_false, hin, hbl] at _h; first | done | omega)) ?_ | (refine wS ?_ ?_ <;> intro _h <;> simp only [W1, cond_true, cond_false, hin, hbl] at _h))
        all_goals simp only [W1, W2, owesN, owesX, owesR, cond_true, cond_false, hin, hbl]
        repeat' (first | apply And.intro | intro _hc)
        all_goals first | exact tup2 (leI rfl) (leI rfl) | exact AV.le_refl _ | exact AV.le_any _ | exact OLe.refl _ | exact OLe.none _ | exact LeH.refl _ | exact LeL.refl _ | exact AV.le.bs _ | exact AV.le.sb _ | omega | contradiction
      · repeat' (first | refine wC (by first | omega | (simp only [W1, cond_true, cond_false, hin, hbl]; first | done | omega)) ?_ | refine wT (by first | omega | (simp only [W1, cond_true, cond_false, hin, hbl]; first | done | omega)) ?_ | refine wF (by intro _h; first | omega | (simp only [W1, cond_true, cond_false, hin, hbl] at _h; first | done | omega)) ?_ | (refine wS ?_ ?_ <;> intro _h <;> simp only [W1, cond_true, cond_false, hin, hbl] at _h))
        all_goals simp only [W1, W2, owesN, owesX, owesR, cond_true, cond_false, hin, hbl]
        repeat' (first | apply And.intro | intro _hc)
        all_goals first | exact tup2 (leI rfl) (leI rfl) | exact AV.le_refl _ | exact AV.le_any _ | exact OLe.refl _ | exact OLe.none _ | exact LeH.refl _ | exact LeL.refl _ | exact AV.le.bs _ | exact AV.le.sb _ | omega | contradiction
    | false =>
      have hx := bd_pos hn
      rw [hn, hx] at hov hbr
      simp only [hbr, overF, hov, hn, hi2, hx]
      cases hin : decide (lo ≤ V) && decide (V ≤ hi)
      · repeat' (first | refine wC (by first | omega | (simp only [W1, cond_true, cond_false, hin, hs]; first | done | omega)) ?_ | refine wT (by first | omega | (simp only [W1, cond_true, cond_false, hin, hs]; first | done | omega)) ?_ | refine wF (by intro _h; first | omega | (simp only [W1, cond_true, cond_false, hin, hs] at _h; first | done | omega)) ?_ | (refine wS ?_ ?_ <;> intro _h <;> simp only [W1, cond_true, cond_false, hin, hs] at _h))
        all_goals simp only [W1, W2, owesN, owesX, owesR, cond_true, cond_false, hin, hs]
        repeat' (first | apply And.intro | intro _hc)
        all_goals first | exact tup2 (leI rfl) (leI rfl) | exact AV.le_refl _ | exact AV.le_any _ | exact OLe.refl _ | exact OLe.none _ | exact LeH.refl _ | exact LeL.refl _ | exact AV.le.bs _ | exact AV.le.sb _ | omega | contradiction
      · repeat' (first | refine wC (by first | omega | (simp only [W1, cond_true, cond_false, hin, hs]; first | done | omega)) ?_ | refine wT (by first | omega | (simp only [W1, cond_true, cond_false, hin, hs]; first | done | omega)) ?_ | refine wF (by intro _h; first | omega | (simp only [W1, cond_true, cond_false, hin, hs] at _h; first | done | omega)) ?_ | (refine wS ?_ ?_ <;> intro _h <;> simp only [W1, cond_true, cond_false, hin, hs] at _h))
        all_goals simp only [W1, W2, owesN, owesX, owesR, cond_true, cond_false, hin, hs]
        repeat' (first | apply And.intro | intro _hc)
        all_goals first | exact tup2 (leI rfl) (leI rfl) | exact AV.le_refl _ | exact AV.le_any _ | exact OLe.refl _ | exact OLe.none _ | exact LeH.refl _ | exact LeL.refl _ | exact AV.le.bs _ | exact AV.le.sb _ | omega | contradiction
  · refine answers (fn := Try.f9) (c := bodyOf Try.f9) (ntmps := 84) (results := [.tmp 6, .tmp 7]) [kDg] (Lno) false Try.func9 (by kernel_rfl) (by kernel_rfl) (by kernel_rfl) (by kernel_rfl) (by simp) rfl (failOK fun _ _ _ => rfl) <| Meets.of (runRr s lo hi) <| ?_
    simp only [hng, hC]
    cases hf' : fmB s with
    | false =>
      rw [hf'] at hbr
      simp only [Bool.false_eq_true, if_false]
      cases hn : ngB s with
      | true =>
        have hx := bd_neg hn
        rw [hn] at hbr
        have := hz hn
        simp only [Int.toNat_one, Int.toNat_natCast, ← hx, hbr, hn]
        repeat' (first | refine wC (by first | omega | (simp only [W1, cond_true, cond_false, hbl]; first | done | omega)) ?_ | refine wT (by first | omega | (simp only [W1, cond_true, cond_false, hbl]; first | done | omega)) ?_ | refine wF (by intro _h; first | omega | (simp only [W1, cond_true, cond_false, hbl] at _h; first | done | omega)) ?_ | (refine wS ?_ ?_ <;> intro _h <;> simp only [W1, cond_true, cond_false, hbl] at _h))
        all_goals simp only [W1, W2, owesN, owesX, owesR, cond_true, cond_false, hbl]
        repeat' (first | apply And.intro | intro _hc)
        all_goals first | exact tup2 (leI rfl) (leI rfl) | exact AV.le_refl _ | exact AV.le_any _ | exact OLe.refl _ | exact OLe.none _ | exact LeH.refl _ | exact LeL.refl _ | exact AV.le.bs _ | exact AV.le.sb _ | omega | contradiction
      | false =>
        have hx := bd_pos hn
        rw [hn, hx] at hbr
        simp only [hbr, hn]
        repeat' (first | refine wC (by first | omega | (simp only [W1, cond_true, cond_false, hs]; first | done | omega)) ?_ | refine wT (by first | omega | (simp only [W1, cond_true, cond_false, hs]; first | done | omega)) ?_ | refine wF (by intro _h; first | omega | (simp only [W1, cond_true, cond_false, hs] at _h; first | done | omega)) ?_ | (refine wS ?_ ?_ <;> intro _h <;> simp only [W1, cond_true, cond_false, hs] at _h))
        all_goals simp only [W1, W2, owesN, owesX, owesR, cond_true, cond_false, hs]
        repeat' (first | apply And.intro | intro _hc)
        all_goals first | exact tup2 (leI rfl) (leI rfl) | exact AV.le_refl _ | exact AV.le_any _ | exact OLe.refl _ | exact OLe.none _ | exact LeH.refl _ | exact LeL.refl _ | exact AV.le.bs _ | exact AV.le.sb _ | omega | contradiction
    | true =>
      have hok : okV s = false := by
        cases h : okV s with
        | true => exact absurd ⟨hf', h⟩ hf
        | false => rfl
      have hov := okV_over hf'
      rw [hok] at hov
      have hov : overB (ngB s) (bdS s) = true := by cases h : overB (ngB s) (bdS s) with | true => rfl | false => (rw [h] at hov; exact absurd hov (by decide))
      unfold inV
      rw [hok]
      rw [hf'] at hbr
      simp only [if_true, Bool.false_and, Bool.false_eq_true, if_false]
      cases hn : ngB s with
      | true =>
        have hx := bd_neg hn
        rw [hn] at hov hbr
        have := hz hn
        simp only [Int.toNat_one, Int.toNat_natCast, ← hx, hbr, overT, hov, hn]
        repeat' (first | refine wC (by first | omega | (simp only [W1, cond_true, cond_false, hbl]; first | done | omega)) ?_ | refine wT (by first | omega | (simp only [W1, cond_true, cond_false, hbl]; first | done | omega)) ?_ | refine wF (by intro _h; first | omega | (simp only [W1, cond_true, cond_false, hbl] at _h; first | done | omega)) ?_ | (refine wS ?_ ?_ <;> intro _h <;> simp only [W1, cond_true, cond_false, hbl] at _h))
        all_goals simp only [W1, W2, owesN, owesX, owesR, cond_true, cond_false, hbl]
        repeat' (first | apply And.intro | intro _hc)
        all_goals first | exact tup2 (leI rfl) (leI rfl) | exact AV.le_refl _ | exact AV.le_any _ | exact OLe.refl _ | exact OLe.none _ | exact LeH.refl _ | exact LeL.refl _ | exact AV.le.bs _ | exact AV.le.sb _ | omega | contradiction
      | false =>
        have hx := bd_pos hn
        rw [hn, hx] at hov hbr
        simp only [hbr, overF, hov, hn]
        repeat' (first | refine wC (by first | omega | (simp only [W1, cond_true, cond_false, hs]; first | done | omega)) ?_ | refine wT (by first | omega | (simp only [W1, cond_true, cond_false, hs]; first | done | omega)) ?_ | refine wF (by intro _h; first | omega | (simp only [W1, cond_true, cond_false, hs] at _h; first | done | omega)) ?_ | (refine wS ?_ ?_ <;> intro _h <;> simp only [W1, cond_true, cond_false, hs] at _h))
        all_goals simp only [W1, W2, owesN, owesX, owesR, cond_true, cond_false, hs]
        repeat' (first | apply And.intro | intro _hc)
        all_goals first | exact tup2 (leI rfl) (leI rfl) | exact AV.le_refl _ | exact AV.le_any _ | exact OLe.refl _ | exact OLe.none _ | exact LeH.refl _ | exact LeL.refl _ | exact AV.le.bs _ | exact AV.le.sb _ | omega | contradiction
end Go.Eng.U

/- numbers: printed, the loops. -/
namespace Go.Eng.U
open Go Go.Eng Go.Eng.M Go.Lib Go.Proofs
set_option linter.unusedSimpArgs false
set_option linter.unusedVariables false
noncomputable abbrev lpPn : Code := loopOf (bodyOf Try.f10) 0
abbrev lvPn : List Nat := [0, 3, 4, 5, 6]
def SPn (v : Int) (i m : Nat) (dn : Bool) (T : ByteArray) : List AV × Heap := ([.v (.int .i64 v), .ap 0, .v (.int .i64 (i : Int)), .v (.int .i64 (-(m : Int))), .sb dn], [some (.arr 1 20 (bsF T))])
def OPn (v : Int) (i : Nat) (T : ByteArray) : Out := ⟨.exit 0, [.v (.int .i64 v), .ap 0, .v (.int .i64 (i : Int)), .any, .any], [some (.arr 1 20 (bsF T))]⟩
theorem rPn (v : Int) (i m : Nat) (dn : Bool) (T : ByteArray) : roundE (P := Try.prog) (Γ := Γu) [] Lno false 0 0 lpPn lvPn [] 35 (SPn v i m dn T).1 (SPn v i m dn T).2 =
  Tree.br (!dn) (Tree.chk true (Tree.chk (decide ((0 : Int) ≤ IntKind.wrap IntKind.i64 ((↑i : Int) - (1 : Int))) && decide (IntKind.wrap IntKind.i64 ((↑i : Int) - (1 : Int)) < (↑(20 : Nat) :
    Int))) (Tree.chk true (Tree.leaf (Out.mk AEx.normal [AV.v (Value.int IntKind.i64 v), AV.ap (0 : Nat), AV.v (Value.int IntKind.i64 (IntKind.wrap IntKind.i64 ((↑i : Int) - (1 : Int)))),
    AV.v (Value.int IntKind.i64 (IntKind.wrap IntKind.i64 (Int.tdiv (-(↑m : Int)) (10 : Int)))), AV.sb (decide (IntKind.wrap IntKind.i64 (Int.tdiv (-(↑m : Int)) (10 : Int)) = (0 : Int)))]
    [some (Blk.arr (1 : Nat) (20 : Nat) fun k => mixL (Nat.beq k (Int.toNat (IntKind.wrap IntKind.i64 ((↑i : Int) - (1 : Int))))) [AV.v (Value.int IntKind.u8 (IntKind.wrap IntKind.u8
    (IntKind.wrap IntKind.i64 ((48 : Int) - Int.tmod (-(↑m : Int)) (10 : Int)))))] [AV.v (Value.int IntKind.u8 (sbyte T k))])]))))) (Tree.leaf (Out.mk (AEx.exit (0 : Nat)) [AV.v (Value.int
    IntKind.i64 v), AV.ap (0 : Nat), AV.v (Value.int IntKind.i64 (↑i : Int)), AV.v (Value.int IntKind.i64 (-(↑m : Int))), AV.sb dn] [some (Blk.arr (1 : Nat) (20 : Nat) fun j => [AV.v
    (Value.int IntKind.u8 (sbyte T j))])])) := by kernel_rfl
theorem runPn (v : Int) (m i : Nat) (T0 T : ByteArray) : bodyE (P := Try.prog) (Γ := Γu) [] (fun _ => LSpec.at lvPn [] (SPn v 20 m false T0) (OPn v i T)) false 35 [.tmp 2] (bodyOf Try.f10) [.v (.int .i64 v)] [] =
  Tree.br (decide ((0 : Int) < v)) (Tree.chk (cl (LeL [AV.v (Value.int IntKind.i64 v), AV.ap (0 : Nat), AV.v (Value.int IntKind.i64 (20 : Int)), AV.v (Value.int IntKind.i64 (IntKind.wrap
    IntKind.i64 ((0 : Int) - v))), AV.v (Value.bool false)] [AV.v (Value.int IntKind.i64 v), AV.ap (0 : Nat), AV.v (Value.int IntKind.i64 (↑(20 : Nat) : Int)), AV.v (Value.int IntKind.i64
    (-(↑m : Int))), AV.sb false] ∧ LeH [some (Blk.arr (1 : Nat) (20 : Nat) fun x => [AV.v (Value.int IntKind.u8 (bif Nat.beq x (0 : Nat) then (0 : Int) else bif Nat.beq x (1 : Nat) then (0 :
    Int) else bif Nat.beq x (2 : Nat) then (0 : Int) else bif Nat.beq x (3 : Nat) then (0 : Int) else bif Nat.beq x (4 : Nat) then (0 : Int) else bif Nat.beq x (5 : Nat) then (0 : Int) else
    bif Nat.beq x (6 : Nat) then (0 : Int) else bif Nat.beq x (7 : Nat) then (0 : Int) else bif Nat.beq x (8 : Nat) then (0 : Int) else bif Nat.beq x (9 : Nat) then (0 : Int) else bif
    Nat.beq x (10 : Nat) then (0 : Int) else bif Nat.beq x (11 : Nat) then (0 : Int) else bif Nat.beq x (12 : Nat) then (0 : Int) else bif Nat.beq x (13 : Nat) then (0 : Int) else bif
    Nat.beq x (14 : Nat) then (0 : Int) else bif Nat.beq x (15 : Nat) then (0 : Int) else bif Nat.beq x (16 : Nat) then (0 : Int) else bif Nat.beq x (17 : Nat) then (0 : Int) else bif
    Nat.beq x (18 : Nat) then (0 : Int) else bif Nat.beq x (19 : Nat) then (0 : Int) else (0 : Int)))])] [some (Blk.arr (1 : Nat) (20 : Nat) fun j => [AV.v (Value.int IntKind.u8 (sbyte T0
    j))])])) (Tree.br (decide (v < (0 : Int))) (Tree.chk (decide ((0 : Int) ≤ IntKind.wrap IntKind.i64 ((↑i : Int) - (1 : Int))) && decide (IntKind.wrap IntKind.i64 ((↑i : Int) - (1 : Int))
    < (↑(20 : Nat) : Int))) (Tree.chk (decide ((0 : Int) ≤ IntKind.wrap IntKind.i64 ((↑i : Int) - (1 : Int))) && decide (IntKind.wrap IntKind.i64 ((↑i : Int) - (1 : Int)) ≤ (↑(20 : Nat) :
    Int)) && true && allBytes ((20 : Nat) - Int.toNat (IntKind.wrap IntKind.i64 ((↑i : Int) - (1 : Int)))) fun j => mixL (Nat.beq (Int.toNat (IntKind.wrap IntKind.i64 ((↑i : Int) - (1 :
    Int))) + j) (Int.toNat (IntKind.wrap IntKind.i64 ((↑i : Int) - (1 : Int))))) [AV.v (Value.int IntKind.u8 (45 : Int))] [AV.v (Value.int IntKind.u8 (sbyte T (Int.toNat (IntKind.wrap
    IntKind.i64 ((↑i : Int) - (1 : Int))) + j)))]) (Tree.leaf (Ans.mk (AV.v (Value.string (textOf ((20 : Nat) - Int.toNat (IntKind.wrap IntKind.i64 ((↑i : Int) - (1 : Int)))) fun j => mixL
    (Nat.beq (Int.toNat (IntKind.wrap IntKind.i64 ((↑i : Int) - (1 : Int))) + j) (Int.toNat (IntKind.wrap IntKind.i64 ((↑i : Int) - (1 : Int))))) [AV.v (Value.int IntKind.u8 (45 : Int))]
    [AV.v (Value.int IntKind.u8 (sbyte T (Int.toNat (IntKind.wrap IntKind.i64 ((↑i : Int) - (1 : Int))) + j)))]))) [])))) (Tree.chk (decide ((0 : Int) ≤ (↑i : Int)) && decide ((↑i : Int) ≤
    (↑(20 : Nat) : Int)) && true && allBytes ((20 : Nat) - i) fun j => [AV.v (Value.int IntKind.u8 (sbyte T (i + j)))]) (Tree.leaf (Ans.mk (AV.v (Value.string (textOf ((20 : Nat) - i) fun j
    => [AV.v (Value.int IntKind.u8 (sbyte T (i + j)))]))) []))))) (Tree.chk (cl (LeL [AV.v (Value.int IntKind.i64 v), AV.ap (0 : Nat), AV.v (Value.int IntKind.i64 (20 : Int)), AV.v
    (Value.int IntKind.i64 v), AV.v (Value.bool false)] [AV.v (Value.int IntKind.i64 v), AV.ap (0 : Nat), AV.v (Value.int IntKind.i64 (↑(20 : Nat) : Int)), AV.v (Value.int IntKind.i64 (-(↑m
    : Int))), AV.sb false] ∧ LeH [some (Blk.arr (1 : Nat) (20 : Nat) fun x => [AV.v (Value.int IntKind.u8 (bif Nat.beq x (0 : Nat) then (0 : Int) else bif Nat.beq x (1 : Nat) then (0 : Int)
    else bif Nat.beq x (2 : Nat) then (0 : Int) else bif Nat.beq x (3 : Nat) then (0 : Int) else bif Nat.beq x (4 : Nat) then (0 : Int) else bif Nat.beq x (5 : Nat) then (0 : Int) else bif
    Nat.beq x (6 : Nat) then (0 : Int) else bif Nat.beq x (7 : Nat) then (0 : Int) else bif Nat.beq x (8 : Nat) then (0 : Int) else bif Nat.beq x (9 : Nat) then (0 : Int) else bif Nat.beq x
    (10 : Nat) then (0 : Int) else bif Nat.beq x (11 : Nat) then (0 : Int) else bif Nat.beq x (12 : Nat) then (0 : Int) else bif Nat.beq x (13 : Nat) then (0 : Int) else bif Nat.beq x (14 :
    Nat) then (0 : Int) else bif Nat.beq x (15 : Nat) then (0 : Int) else bif Nat.beq x (16 : Nat) then (0 : Int) else bif Nat.beq x (17 : Nat) then (0 : Int) else bif Nat.beq x (18 : Nat)
    then (0 : Int) else bif Nat.beq x (19 : Nat) then (0 : Int) else (0 : Int)))])] [some (Blk.arr (1 : Nat) (20 : Nat) fun j => [AV.v (Value.int IntKind.u8 (sbyte T0 j))])])) (Tree.br
    (decide (v < (0 : Int))) (Tree.chk (decide ((0 : Int) ≤ IntKind.wrap IntKind.i64 ((↑i : Int) - (1 : Int))) && decide (IntKind.wrap IntKind.i64 ((↑i : Int) - (1 : Int)) < (↑(20 : Nat) :
    Int))) (Tree.chk (decide ((0 : Int) ≤ IntKind.wrap IntKind.i64 ((↑i : Int) - (1 : Int))) && decide (IntKind.wrap IntKind.i64 ((↑i : Int) - (1 : Int)) ≤ (↑(20 : Nat) : Int)) && true &&
    allBytes ((20 : Nat) - Int.toNat (IntKind.wrap IntKind.i64 ((↑i : Int) - (1 : Int)))) fun j => mixL (Nat.beq (Int.toNat (IntKind.wrap IntKind.i64 ((↑i : Int) - (1 : Int))) + j)
    (Int.toNat (IntKind.wrap IntKind.i64 ((↑i : Int) - (1 : Int))))) [AV.v (Value.int IntKind.u8 (45 : Int))] [AV.v (Value.int IntKind.u8 (sbyte T (Int.toNat (IntKind.wrap IntKind.i64 ((↑i :
    Int) - (1 : Int))) + j)))]) (Tree.leaf (Ans.mk (AV.v (Value.string (textOf ((20 : Nat) - Int.toNat (IntKind.wrap IntKind.i64 ((↑i : Int) - (1 : Int)))) fun j => mixL (Nat.beq (Int.toNat
    (IntKind.wrap IntKind.i64 ((↑i : Int) - (1 : Int))) + j) (Int.toNat (IntKind.wrap IntKind.i64 ((↑i : Int) - (1 : Int))))) [AV.v (Value.int IntKind.u8 (45 : Int))] [AV.v (Value.int
    IntKind.u8 (sbyte T (Int.toNat (IntKind.wrap IntKind.i64 ((↑i : Int) - (1 : Int))) + j)))]))) [])))) (Tree.chk (decide ((0 : Int) ≤ (↑i : Int)) && decide ((↑i : Int) ≤ (↑(20 : Nat) :
    Int)) && true && allBytes ((20 : Nat) - i) fun j => [AV.v (Value.int IntKind.u8 (sbyte T (i + j)))]) (Tree.leaf (Ans.mk (AV.v (Value.string (textOf ((20 : Nat) - i) fun j => [AV.v
    (Value.int IntKind.u8 (sbyte T (i + j)))]))) []))))) := by kernel_rfl
end Go.Eng.U

/- numbers: printed: the program's loop. -/
namespace Go.Eng.U
open Go Go.Eng Go.Eng.M Go.Lib Go.Proofs
set_option linter.unusedSimpArgs false
set_option linter.unusedVariables false
def prL (n : Nat) : List UInt8 := if n < 10 then [b8 (48 + n)] else prL (n / 10) ++ [b8 (48 + n % 10)]
  termination_by n
  decreasing_by omega
theorem prL_small {n : Nat} (h : n < 10) : prL n = [b8 (48 + n)] := by rw [prL, if_pos h]
theorem prL_step {n : Nat} (h : 10 ≤ n) : prL n = prL (n / 10) ++ [b8 (48 + n % 10)] := by rw [prL, if_neg (by omega)]
theorem prL_pos (n : Nat) : 1 ≤ (prL n).length := by
  rcases Nat.lt_or_ge n 10 with h | h
  · rw [prL_small h]; exact Nat.le_refl _
  · rw [prL_step h]; simp
theorem prL_len : ∀ (k n : Nat), n < 10 ^ (k + 1) → (prL n).length ≤ k + 1 := by
  intro k
  induction k with
  | zero => intro n h; rw [prL_small (by simpa using h)]; exact Nat.le_refl _
  | succ k ih =>
    intro n h
    rcases Nat.lt_or_ge n 10 with h1 | h1
    · rw [prL_small h1]; simp
    · rw [prL_step h1, List.length_append]
      have := ih (n / 10) (by rw [Nat.pow_succ] at h; omega)
      simp; omega
def padT (t : List UInt8) : ByteArray := ⟨⟨List.replicate (20 - t.length) 0 ++ t⟩⟩
theorem sb_pad (t : List UInt8) (k : Nat) : sbyte (padT t) k = (((List.replicate (20 - t.length) 0 ++ t)[k]?.getD 0).toNat : Int) := by
  show ((((padT t).data[k]?).getD 0).toNat : Int) = _
  unfold padT
  simp
theorem sb_zero (k : Nat) : sbyte (padT []) k = 0 := by
  rw [sb_pad]
  simp only [List.append_nil, List.getElem?_replicate]
  split <;> rfl
theorem sb_cons {t : List UInt8} (h : t.length < 20) (d : UInt8) (k : Nat) : sbyte (padT (d :: t)) k = if k = 19 - t.length then (d.toNat : Int) else sbyte (padT t) k := by
  rw [sb_pad, sb_pad]
  have e1 : 20 - (d :: t).length = 19 - t.length := by rw [List.length_cons]; omega
  have e2 : 20 - t.length = (19 - t.length) + 1 := by omega
  rw [e1, e2]
  generalize 19 - t.length = n
  rcases Nat.lt_trichotomy k n with c | c | c
  · rw [if_neg (by omega), List.getElem?_append_left (by simp; omega), List.getElem?_append_left (by simp; omega), List.getElem?_replicate, List.getElem?_replicate, if_pos c, if_pos (by omega)]
  · subst c
    rw [if_pos rfl, List.getElem?_append_right (by simp)]
    simp
  · rw [if_neg (by omega), List.getElem?_append_right (by simp; omega), List.getElem?_append_right (by simp; omega), List.length_replicate, List.length_replicate, show k - n = (k - (n + 1)) + 1 by omega, List.getElem?_cons_succ]
theorem mixU (c : Bool) (a b : Int) : mixL c [.v (.int .u8 a)] [.v (.int .u8 b)] = [.v (.int .u8 (bif c then a else b))] := by cases c <;> rfl
theorem upd_pad {t : List UInt8} (h : t.length < 20) (d : UInt8) {q : Nat} (hq : q = 19 - t.length) {a : Int} (ha : a = (d.toNat : Int)) : (fun k => mixL (Nat.beq k q) [.v (.int .u8 a)] (bsF (padT t) k)) = bsF (padT (d :: t)) := by
  funext k
  show mixL _ _ [.v (.int .u8 (sbyte (padT t) k))] = [.v (.int .u8 (sbyte (padT (d :: t)) k))]
  rw [mixU, sb_cons h, hq, ha]
  by_cases hk : k = 19 - t.length
  · rw [if_pos hk, show Nat.beq k (19 - t.length) = true from by rw [Nat.beq_eq]; exact hk]; rfl
  · rw [if_neg hk, show Nat.beq k (19 - t.length) = false from by rw [Bool.eq_false_iff]; exact fun h => hk (Nat.eq_of_beq_eq_true h)]; rfl
theorem dg8 {m : Nat} : IntKind.wrap IntKind.u8 (IntKind.wrap IntKind.i64 ((48 : Int) - Int.tmod (-(m : Int)) (10 : Int))) = (((b8 (48 + m % 10)).toNat : Nat) : Int) := by
  rw [Int.neg_tmod, Int.tmod_eq_emod_of_nonneg (by omega)]
  have h1 : IntKind.wrap IntKind.i64 ((48 : Int) - -((m : Int) % 10)) = (48 : Int) - -((m : Int) % 10) := wrap64 (by omega) (by omega)
  rw [h1, wrapU8, b8_nat (by omega)]
  omega
theorem dq8 {m : Nat} (h : m ≤ 9223372036854775808) : IntKind.wrap IntKind.i64 (Int.tdiv (-(m : Int)) (10 : Int)) = -((m / 10 : Nat) : Int) := by
  rw [Int.neg_tdiv, Int.tdiv_eq_ediv_of_nonneg (by omega), wrap64 (by omega) (by omega)]
  omega
def dnN (b : Bool) : Nat := if b then 0 else 1
structure XN where
  m : Nat
  dn : Bool
  t : List UInt8
theorem loopPn {v : Int} {tgt : List UInt8} (ht : tgt.length ≤ 19) : ∀ x : XN, (x.m ≤ 9223372036854775808 ∧ ((x.dn = true ∧ x.m = 0 ∧ x.t = tgt) ∨ (x.dn = false ∧ prL x.m ++ x.t = tgt))) → LoopOK Try.prog Γu 0 35 lpPn (LSpec.at lvPn [] (SPn v (20 - x.t.length) x.m x.dn (padT x.t)) (OPn v (20 - tgt.length) (padT tgt))) := by
  refine loop_at (S := fun x : XN => SPn v (20 - x.t.length) x.m x.dn (padT x.t)) (O := fun _ => OPn v (20 - tgt.length) (padT tgt)) (k := 0) (fun x => 2 * x.m + dnN x.dn) fun x hp => .of (noLoops (by kernel_rfl)) (rPn v (20 - x.t.length) x.m x.dn (padT x.t)) ?_
  obtain ⟨m, dn, t⟩ := x
  obtain ⟨h1, h2⟩ := hp
  dsimp only at h1 h2
  rcases h2 with ⟨rfl, rfl, rfl⟩ | ⟨rfl, h2⟩
  · repeat' (first | refine wC (by first | omega | (simp only [W1, cond_true, cond_false]; first | done | omega)) ?_ | refine wT (by first | omega | (simp only [W1, cond_true, cond_false]; first | done | omega)) ?_ | refine wF (by intro _h; first | omega | (simp only [W1, cond_true, cond_false] at _h; first | done | omega)) ?_ | (refine wS ?_ ?_ <;> intro _h <;> simp only [W1, cond_true, cond_false] at _h))
    all_goals simp only [W1, W2, owesN, owesX, owesR, cond_true, cond_false]
    repeat' (first | apply And.intro | intro _hc)
    all_goals first | exact rfl | exact AV.le_refl _ | exact AV.le_any _ | exact OLe.refl _ | exact OLe.none _ | exact LeH.refl _ | exact LeL.refl _ | exact AV.le.bs _ | exact AV.le.sb _ | omega | contradiction
  · have hl := congrArg List.length h2
    rw [List.length_append] at hl
    have hpl := prL_pos m
    have w1 : IntKind.wrap IntKind.i64 (((20 - t.length : Nat) : Int) - 1) = ((19 - t.length : Nat) : Int) := by rw [wrap64 (by omega) (by omega)]; omega
    have hu := upd_pad (t := t) (by omega) (b8 (48 + m % 10)) (q := 19 - t.length) rfl rfl
    have hz : decide (-((m / 10 : Nat) : Int) = 0) = decide (m / 10 = 0) := by
      rw [Bool.eq_iff_iff, decide_eq_true_iff, decide_eq_true_iff]; omega
    have hnx : (decide (m / 10 = 0) = true ∧ m / 10 = 0 ∧ b8 (48 + m % 10) :: t = tgt) ∨ (decide (m / 10 = 0) = false ∧ prL (m / 10) ++ b8 (48 + m % 10) :: t = tgt) := by
      rcases Nat.lt_or_ge m 10 with c | c
      · refine .inl ⟨decide_eq_true (by omega), by omega, ?_⟩
        rw [prL_small c] at h2
        rw [show m % 10 = m by omega]; exact h2
      · refine .inr ⟨decide_eq_false (by omega), ?_⟩
        rw [prL_step c, List.append_assoc] at h2
        exact h2
    have hlen : 20 - (b8 (48 + m % 10) :: t).length = 19 - t.length := by rw [List.length_cons]; omega
    have hmu : 2 * (m / 10) + dnN (decide (m / 10 = 0)) < 2 * m + dnN false := by
      have e1 : dnN false = 1 := rfl
      by_cases hc : m / 10 = 0
      · rw [decide_eq_true hc, e1, show dnN true = 0 from rfl]; omega
      · rw [decide_eq_false hc, e1]; omega
    have hu' : OLe (some (Blk.arr 1 20 fun k => mixL (Nat.beq k (19 - t.length)) [.v (.int .u8 ((b8 (48 + m % 10)).toNat : Int))] [.v (.int .u8 (sbyte (padT t) k))])) (some (.arr 1 20 (bsF (padT (b8 (48 + m % 10) :: t))))) := by
      rw [← hu]; exact OLe.refl _
    simp only [w1, dq8 h1, dg8, hz, Int.toNat_natCast]
    repeat' (first | refine wC (by first | omega | (simp only [W1, cond_true, cond_false]; first | done | omega)) ?_ | refine wT (by first | omega | (simp only [W1, cond_true, cond_false]; first | done | omega)) ?_ | refine wF (by intro _h; first | omega | (simp only [W1, cond_true, cond_false] at _h; first | done | omega)) ?_ | (refine wS ?_ ?_ <;> intro _h <;> simp only [W1, cond_true, cond_false] at _h))
    all_goals simp only [W1, W2, owesN, owesX, owesR, cond_true, cond_false]
    repeat' (first | apply And.intro | intro _hc)
    all_goals first | exact ⟨⟨m / 10, decide (m / 10 = 0), b8 (48 + m % 10) :: t⟩, by (rw [hlen]; exact LeL.refl _), ⟨hu', trivial⟩, ⟨by dsimp only; omega, hnx⟩, hmu⟩ | exact AV.le_refl _ | exact AV.le_any _ | exact OLe.refl _ | exact OLe.none _ | exact LeH.refl _ | exact LeL.refl _ | exact AV.le.bs _ | exact AV.le.sb _ | omega | contradiction
end Go.Eng.U

/- numbers: printed: the contracts. -/
namespace Go.Eng.U
open Go Go.Eng Go.Eng.M Go.Lib Go.Proofs
set_option linter.unusedSimpArgs false
set_option linter.unusedVariables false
def prU (v : Int) : List UInt8 := if v < 0 then 45 :: prL v.natAbs else prL v.natAbs
def prS (v : Int) : ByteArray := ⟨⟨prU v⟩⟩
def inI64 (v : Int) : Prop := -9223372036854775808 ≤ v ∧ v ≤ 9223372036854775807
theorem sb_tail {u : List UInt8} (h : u.length ≤ 20) (j : Nat) : sbyte (padT u) (20 - u.length + j) = sbyte ⟨⟨u⟩⟩ j := by
  rw [sb_pad, List.getElem?_append_right (by simp)]
  rw [List.length_replicate, show 20 - u.length + j - (20 - u.length) = j by omega]
  show _ = ((((⟨⟨u⟩⟩ : ByteArray).data[j]?).getD 0).toNat : Int)
  simp
theorem txt_pad {u : List UInt8} (h : u.length ≤ 20) {n : Nat} (hn : n = u.length) : textOf n (fun j => [.v (.int .u8 (sbyte (padT u) (20 - u.length + j)))]) = ⟨⟨u⟩⟩ := by
  have : (fun j => [AV.v (.int .u8 (sbyte (padT u) (20 - u.length + j)))]) = bsF ⟨⟨u⟩⟩ := by
    funext j; rw [sb_tail h]; rfl
  rw [this]
  exact textOf_bs hn
theorem all_pad (n i : Nat) (T : ByteArray) : allBytes n (fun j => [.v (.int .u8 (sbyte T (i + j)))]) = true := by
  unfold allBytes
  rw [List.all_eq_true]
  intro j _
  rfl
theorem neg_pad {t : List UInt8} (h : t.length < 20) (j : Nat) : mixL (Nat.beq (19 - t.length + j) (19 - t.length)) [.v (.int .u8 45)] [.v (.int .u8 (sbyte (padT t) (19 - t.length + j)))] = [.v (.int .u8 (sbyte (padT (45 :: t)) (19 - t.length + j)))] :=
  congrFun (upd_pad h 45 (q := 19 - t.length) rfl (a := 45) rfl) (19 - t.length + j)
theorem ansPn {v : Int} (h : inI64 v) : Answers Try.prog Γu 10 [.v (.int .i64 v)] [] (.v (.string (prS v))) [] [] := by
  obtain ⟨h1, h2⟩ := h
  have hlen : (prL v.natAbs).length ≤ 19 := prL_len 18 _ (by omega)
  have hl := loopPn (v := v) hlen ⟨v.natAbs, false, []⟩ ⟨by dsimp only; omega, .inr ⟨rfl, List.append_nil _⟩⟩
  refine answers (fn := Try.f10) (c := bodyOf Try.f10) (ntmps := 35) (results := [.tmp 2]) [] (fun _ => LSpec.at lvPn [] (SPn v 20 v.natAbs false (padT [])) (OPn v (20 - (prL v.natAbs).length) (padT (prL v.natAbs)))) false Try.func10 (by kernel_rfl) (by kernel_rfl) (by kernel_rfl) (by kernel_rfl) (by simp) rfl (oneLoop (b := lpPn) (by kernel_rfl) hl) <| Meets.of (runPn v v.natAbs (20 - (prL v.natAbs).length) (padT []) (padT (prL v.natAbs))) <| ?_
  have hc : ∀ b : Bool, (bif b then (0 : Int) else 0) = 0 := fun b => by cases b <;> rfl
  unfold prS prU
  rcases Int.lt_trichotomy v 0 with c | c | c
  · rw [if_pos c]
    have w0 : -((v.natAbs : Nat) : Int) = v := by omega
    have hsp := prL_pos v.natAbs
    generalize prL v.natAbs = t at *
    have w1 : IntKind.wrap IntKind.i64 (((20 - t.length : Nat) : Int) - 1) = ((19 - t.length : Nat) : Int) := by rw [wrap64 (by omega) (by omega)]; omega
    have hT : textOf (20 - (19 - t.length)) (fun j => [.v (.int .u8 (sbyte (padT (45 :: t)) (19 - t.length + j)))]) = ⟨⟨45 :: t⟩⟩ := by
      have := txt_pad (u := 45 :: t) (by rw [List.length_cons]; omega) (n := 20 - (19 - t.length)) (by rw [List.length_cons]; omega)
      rw [show 20 - (45 :: t).length = 19 - t.length by rw [List.length_cons]; omega] at this
      exact this
    simp only [w1, Int.toNat_natCast, neg_pad (show t.length < 20 by omega), hT, all_pad, w0, hc, sb_zero]
    repeat' (first | refine wC (by first | omega | (simp only [W1, cond_true, cond_false]; first | done | omega)) ?_ | refine wT (by first | omega | (simp only [W1, cond_true, cond_false]; first | done | omega)) ?_ | refine wF (by intro _h; first | omega | (simp only [W1, cond_true, cond_false] at _h; first | done | omega)) ?_ | (refine wS ?_ ?_ <;> intro _h <;> simp only [W1, cond_true, cond_false] at _h))
    all_goals simp only [W1, W2, owesN, owesX, owesR, cond_true, cond_false]
    repeat' (first | apply And.intro | intro _hc)
    all_goals first | exact AV.le_refl _ | exact AV.le_any _ | exact OLe.refl _ | exact OLe.none _ | exact LeH.refl _ | exact LeL.refl _ | exact AV.le.bs _ | exact AV.le.sb _ | omega | contradiction
  · subst c
    rw [if_neg (by omega)]
    have hT := txt_pad (u := prL (Int.natAbs 0)) (by omega) (n := 20 - (20 - (prL (Int.natAbs 0)).length)) (by omega)
    simp only [hT, all_pad, hc, sb_zero]
    repeat' (first | refine wC (by first | omega | (simp only [W1, cond_true, cond_false]; first | done | omega)) ?_ | refine wT (by first | omega | (simp only [W1, cond_true, cond_false]; first | done | omega)) ?_ | refine wF (by intro _h; first | omega | (simp only [W1, cond_true, cond_false] at _h; first | done | omega)) ?_ | (refine wS ?_ ?_ <;> intro _h <;> simp only [W1, cond_true, cond_false] at _h))
    all_goals simp only [W1, W2, owesN, owesX, owesR, cond_true, cond_false]
    repeat' (first | apply And.intro | intro _hc)
    all_goals first | exact AV.le_refl _ | exact AV.le_any _ | exact OLe.refl _ | exact OLe.none _ | exact LeH.refl _ | exact LeL.refl _ | exact AV.le.bs _ | exact AV.le.sb _ | omega | contradiction
  · rw [if_neg (by omega)]
    have w0 : IntKind.wrap IntKind.i64 ((0 : Int) - v) = -((v.natAbs : Nat) : Int) := by rw [wrap64 (by omega) (by omega)]; omega
    have hT := txt_pad (u := prL v.natAbs) (by omega) (n := 20 - (20 - (prL v.natAbs).length)) (by omega)
    simp only [hT, all_pad, hc, sb_zero, w0]
    repeat' (first | refine wC (by first | omega | (simp only [W1, cond_true, cond_false]; first | done | omega)) ?_ | refine wT (by first | omega | (simp only [W1, cond_true, cond_false]; first | done | omega)) ?_ | refine wF (by intro _h; first | omega | (simp only [W1, cond_true, cond_false] at _h; first | done | omega)) ?_ | (refine wS ?_ ?_ <;> intro _h <;> simp only [W1, cond_true, cond_false] at _h))
    all_goals simp only [W1, W2, owesN, owesX, owesR, cond_true, cond_false]
    repeat' (first | apply And.intro | intro _hc)
    all_goals first | exact AV.le_refl _ | exact AV.le_any _ | exact OLe.refl _ | exact OLe.none _ | exact LeH.refl _ | exact LeL.refl _ | exact AV.le.bs _ | exact AV.le.sb _ | omega | contradiction
noncomputable def kPr : CT Try.prog Γu := CT.oI 10 .i64 Try.func10 (by kernel_rfl) (by kernel_rfl) (fun v => inI64 v) (fun v => .v (.string (prS v))) (fun _ => []) (fun v h => ansPn h)
end Go.Eng.U

/- numbers: the document prints. -/
namespace Go.Eng.U
open Go Go.Eng Go.Eng.M Go.Lib Go.Proofs
set_option linter.unusedSimpArgs false
set_option linter.unusedVariables false
noncomputable abbrev lpPr : Code := loopOf (bodyOf Try.f11) 0
def SPr (v : Nat) (s : ByteArray) : List AV × Heap := ([.v (.int .i64 (v : Int)), .v (.string s), .any], [])
def OPr (s : ByteArray) : Out := ⟨.ret, [.any, .any, .v (.string s)], []⟩
theorem rPr (v : Nat) (s : ByteArray) : roundE (P := Try.prog) (Γ := Γu) [] Lno false 0 0 lpPr [0, 3, 2] [] 25 (SPr v s).1 (SPr v s).2 =
  Tree.chk true (Tree.chk (allBytes (1 : Nat) fun j => chain [AV.v (Value.int IntKind.u8 (0 : Int))] (0 : Nat) [[AV.v (Value.int IntKind.u8 (IntKind.wrap IntKind.u8 (IntKind.wrap IntKind.i64
    ((48 : Int) + Int.tmod (↑v : Int) (10 : Int)))))]] ((0 : Nat) + j)) (Tree.chk (decide ((1 : Nat) + ByteArray.size s ≤ (9223372036854775807 : Nat))) (Tree.chk true (Tree.br (decide
    (IntKind.wrap IntKind.i64 (Int.tdiv (↑v : Int) (10 : Int)) = (0 : Int))) (Tree.leaf (Out.mk AEx.ret [AV.v (Value.int IntKind.i64 (IntKind.wrap IntKind.i64 (Int.tdiv (↑v : Int) (10 :
    Int)))), AV.v (Value.string ((textOf (1 : Nat) fun j => chain [AV.v (Value.int IntKind.u8 (0 : Int))] (0 : Nat) [[AV.v (Value.int IntKind.u8 (IntKind.wrap IntKind.u8 (IntKind.wrap
    IntKind.i64 ((48 : Int) + Int.tmod (↑v : Int) (10 : Int)))))]] ((0 : Nat) + j)) ++ s)), AV.v (Value.string ((textOf (1 : Nat) fun j => chain [AV.v (Value.int IntKind.u8 (0 : Int))] (0 :
    Nat) [[AV.v (Value.int IntKind.u8 (IntKind.wrap IntKind.u8 (IntKind.wrap IntKind.i64 ((48 : Int) + Int.tmod (↑v : Int) (10 : Int)))))]] ((0 : Nat) + j)) ++ s))] [])) (Tree.leaf (Out.mk
    AEx.normal [AV.v (Value.int IntKind.i64 (IntKind.wrap IntKind.i64 (Int.tdiv (↑v : Int) (10 : Int)))), AV.v (Value.string ((textOf (1 : Nat) fun j => chain [AV.v (Value.int IntKind.u8 (0
    : Int))] (0 : Nat) [[AV.v (Value.int IntKind.u8 (IntKind.wrap IntKind.u8 (IntKind.wrap IntKind.i64 ((48 : Int) + Int.tmod (↑v : Int) (10 : Int)))))]] ((0 : Nat) + j)) ++ s)), AV.any]
    [])))))) := by kernel_rfl
theorem dgT {v : Nat} : textOf (1 : Nat) (fun j => chain [AV.v (Value.int IntKind.u8 (0 : Int))] (0 : Nat) [[AV.v (Value.int IntKind.u8 (IntKind.wrap IntKind.u8 (IntKind.wrap IntKind.i64 ((48 : Int) + Int.tmod (v : Int) (10 : Int)))))]] ((0 : Nat) + j)) = ⟨⟨[b8 (48 + v % 10)]⟩⟩ := by
  rw [Int.tmod_eq_emod_of_nonneg (by omega)]
  have h1 : IntKind.wrap IntKind.i64 ((48 : Int) + (v : Int) % 10) = (48 : Int) + (v : Int) % 10 := wrap64 (by omega) (by omega)
  have h2 : IntKind.wrap IntKind.u8 ((48 : Int) + (v : Int) % 10) = ((48 + v % 10 : Nat) : Int) := by rw [wrapU8]; omega
  rw [h1, h2]
  rfl
theorem dgA {v : Nat} : allBytes (1 : Nat) (fun j => chain [AV.v (Value.int IntKind.u8 (0 : Int))] (0 : Nat) [[AV.v (Value.int IntKind.u8 (IntKind.wrap IntKind.u8 (IntKind.wrap IntKind.i64 ((48 : Int) + Int.tmod (v : Int) (10 : Int)))))]] ((0 : Nat) + j)) = true := rfl
theorem mk_app (l m : List UInt8) : (⟨⟨l⟩⟩ : ByteArray) ++ ⟨⟨m⟩⟩ = ⟨⟨l ++ m⟩⟩ := by
  apply ByteArray.ext
  rw [ByteArray.data_append]
  simp
theorem loopPr {tgt : List UInt8} (ht : tgt.length ≤ 100) : ∀ x : Nat × List UInt8, (x.1 ≤ 9223372036854775807 ∧ prL x.1 ++ x.2 = tgt) → LoopOK Try.prog Γu 0 25 lpPr (LSpec.at [0, 3, 2] [] (SPr x.1 ⟨⟨x.2⟩⟩) (OPr ⟨⟨tgt⟩⟩)) := by
  refine loop_at (S := fun x : Nat × List UInt8 => SPr x.1 ⟨⟨x.2⟩⟩) (O := fun _ => OPr ⟨⟨tgt⟩⟩) (k := 0) (fun x => x.1) fun x hp => .of (noLoops (by kernel_rfl)) (rPr x.1 ⟨⟨x.2⟩⟩) ?_
  obtain ⟨v, t⟩ := x
  obtain ⟨h1, h2⟩ := hp
  dsimp only at h1 h2
  have hl := congrArg List.length h2
  rw [List.length_append] at hl
  have hq : IntKind.wrap IntKind.i64 (Int.tdiv (v : Int) (10 : Int)) = ((v / 10 : Nat) : Int) := by
    rw [Int.tdiv_eq_ediv_of_nonneg (by omega), wrap64 (by omega) (by omega)]; omega
  have hz : ByteArray.size ⟨⟨t⟩⟩ = t.length := rfl
  simp only [dgA, dgT, hq, mk_app, hz, List.cons_append, List.nil_append]
  rcases Nat.lt_or_ge v 10 with c | c
  · rw [prL_small c] at h2
    have e : b8 (48 + v % 10) :: t = tgt := by rw [show v % 10 = v by omega]; exact h2
    rw [e]
    repeat' (first | refine wC (by first | omega | (simp only [W1, cond_true, cond_false]; first | done | omega)) ?_ | refine wT (by first | omega | (simp only [W1, cond_true, cond_false]; first | done | omega)) ?_ | refine wF (by intro _h; first | omega | (simp only [W1, cond_true, cond_false] at _h; first | done | omega)) ?_ | (refine wS ?_ ?_ <;> intro _h <;> simp only [W1, cond_true, cond_false] at _h))
    all_goals simp only [W1, W2, owesN, owesX, owesR, cond_true, cond_false]
    repeat' (first | apply And.intro | intro _hc)
    all_goals first | exact rfl | exact AV.le_refl _ | exact AV.le_any _ | exact OLe.refl _ | exact OLe.none _ | exact LeH.refl _ | exact LeL.refl _ | exact AV.le.bs _ | exact AV.le.sb _ | omega | contradiction
  · rw [prL_step c, List.append_assoc] at h2
    repeat' (first | refine wC (by first | omega | (simp only [W1, cond_true, cond_false]; first | done | omega)) ?_ | refine wT (by first | omega | (simp only [W1, cond_true, cond_false]; first | done | omega)) ?_ | refine wF (by intro _h; first | omega | (simp only [W1, cond_true, cond_false] at _h; first | done | omega)) ?_ | (refine wS ?_ ?_ <;> intro _h <;> simp only [W1, cond_true, cond_false] at _h))
    all_goals simp only [W1, W2, owesN, owesX, owesR, cond_true, cond_false]
    repeat' (first | apply And.intro | intro _hc)
    all_goals first | exact ⟨(v / 10, b8 (48 + v % 10) :: t), LeL.refl _, LeH.refl _, ⟨by dsimp only; omega, h2⟩, by dsimp only; omega⟩ | exact AV.le_refl _ | exact AV.le_any _ | exact OLe.refl _ | exact OLe.none _ | exact LeH.refl _ | exact LeL.refl _ | exact AV.le.bs _ | exact AV.le.sb _ | omega | contradiction
theorem runPo (v : Nat) (T : ByteArray) : bodyE (P := Try.prog) (Γ := Γu) [] (fun _ => LSpec.at [0, 3, 2] [] (SPr v ⟨⟨[]⟩⟩) (OPr T)) false 25 [.tmp 2] (bodyOf Try.f11) [.v (.int .i64 (v : Int))] [] =
  Tree.br (decide ((↑v : Int) = (-9223372036854775808 : Int))) (Tree.leaf (Ans.mk (AV.v (Value.string (ByteArray.mk #[(45 : UInt8), (57 : UInt8), (50 : UInt8), (50 : UInt8), (51 : UInt8), (51
    : UInt8), (55 : UInt8), (50 : UInt8), (48 : UInt8), (51 : UInt8), (54 : UInt8), (56 : UInt8), (53 : UInt8), (52 : UInt8), (55 : UInt8), (55 : UInt8), (53 : UInt8), (56 : UInt8), (48 :
    UInt8), (56 : UInt8)]))) [])) (Tree.br (decide ((↑v : Int) < (0 : Int))) Tree.fail (Tree.chk (cl (LeL [AV.v (Value.int IntKind.i64 (↑v : Int)), AV.v (Value.string (ByteArray.mk #[])),
    AV.v (Value.string (ByteArray.mk #[]))] [AV.v (Value.int IntKind.i64 (↑v : Int)), AV.v (Value.string (ByteArray.mk (Array.mk []))), AV.any] ∧ LeH [] [])) (Tree.leaf (Ans.mk (AV.v
    (Value.string T)) [])))) := by kernel_rfl
theorem ansPo {v : Nat} (h : v ≤ 9223372036854775807) : Answers Try.prog Γu 11 [.v (.int .i64 (v : Int))] [] (.v (.string (prS (v : Int)))) [] [] := by
  have hlen : (prL v).length ≤ 19 := prL_len 18 _ (by omega)
  have hl := loopPr (tgt := prL v) (by omega) (v, []) ⟨h, List.append_nil _⟩
  have he : prS (v : Int) = ⟨⟨prL v⟩⟩ := by unfold prS prU; rw [if_neg (by omega), Int.natAbs_natCast]
  rw [he]
  refine answers (fn := Try.f11) (c := bodyOf Try.f11) (ntmps := 25) (results := [.tmp 2]) [] (fun _ => LSpec.at [0, 3, 2] [] (SPr v ⟨⟨[]⟩⟩) (OPr ⟨⟨prL v⟩⟩)) false Try.func11 (by kernel_rfl) (by kernel_rfl) (by kernel_rfl) (by kernel_rfl) (by simp) rfl (oneLoop (b := lpPr) (by kernel_rfl) hl) <| Meets.of (runPo v ⟨⟨prL v⟩⟩) <| ?_
  repeat' (first | refine wC (by first | omega | (simp only [W1, cond_true, cond_false]; first | done | omega)) ?_ | refine wT (by first | omega | (simp only [W1, cond_true, cond_false]; first | done | omega)) ?_ | refine wF (by intro _h; first | omega | (simp only [W1, cond_true, cond_false] at _h; first | done | omega)) ?_ | (refine wS ?_ ?_ <;> intro _h <;> simp only [W1, cond_true, cond_false] at _h))
  all_goals simp only [W1, W2, owesN, owesX, owesR, cond_true, cond_false]
  repeat' (first | apply And.intro | intro _hc)
  all_goals first | exact AV.le_refl _ | exact AV.le_any _ | exact OLe.refl _ | exact OLe.none _ | exact LeH.refl _ | exact LeL.refl _ | exact AV.le.bs _ | exact AV.le.sb _ | omega | contradiction
theorem runPa (v : Int) (k : Nat) (h : Answers Try.prog Γu 11 [.v (.int .i64 (k : Int))] [] (.v (.string (prS (k : Int)))) [] []) : bodyE (P := Try.prog) (Γ := Γu) [CT.at 11 h] Lno false 25 [.tmp 2] (bodyOf Try.f11) [.v (.int .i64 v)] [] =
  Tree.br (decide (v = (-9223372036854775808 : Int))) (Tree.leaf (Ans.mk (AV.v (Value.string (ByteArray.mk #[(45 : UInt8), (57 : UInt8), (50 : UInt8), (50 : UInt8), (51 : UInt8), (51 : UInt8),
    (55 : UInt8), (50 : UInt8), (48 : UInt8), (51 : UInt8), (54 : UInt8), (56 : UInt8), (53 : UInt8), (52 : UInt8), (55 : UInt8), (55 : UInt8), (53 : UInt8), (56 : UInt8), (48 : UInt8), (56
    : UInt8)]))) [])) (Tree.br (decide (v < (0 : Int))) (Tree.chk (cl (LeL [AV.v (Value.int IntKind.i64 (IntKind.wrap IntKind.i64 ((0 : Int) - v)))] [AV.v (Value.int IntKind.i64 (↑k : Int))]
    ∧ LeH [] []) && decide ((1 : Nat) + ByteArray.size (prS (↑k : Int)) ≤ (9223372036854775807 : Nat))) (Tree.leaf (Ans.mk (AV.v (Value.string (ByteArray.mk #[(45 : UInt8)] ++ prS (↑k :
    Int)))) []))) Tree.fail) := by kernel_rfl
theorem ansPrR {v : Int} (h : inI64 v) : Answers Try.prog Γu 11 [.v (.int .i64 v)] [] (.v (.string (prS v))) [] [] := by
  obtain ⟨h1, h2⟩ := h
  rcases Int.lt_or_le v 0 with c | c
  · by_cases hm : v = -9223372036854775808
    · subst hm
      have h0 := ansPo (v := 0) (by omega)
      refine answers (fn := Try.f11) (c := bodyOf Try.f11) (ntmps := 25) (results := [.tmp 2]) [CT.at 11 h0] (Lno) false Try.func11 (by kernel_rfl) (by kernel_rfl) (by kernel_rfl) (by kernel_rfl) (by simp) rfl (failOK fun _ _ _ => rfl) <| Meets.of (runPa (-9223372036854775808) 0 h0) <| ?_
      have e : prS (-9223372036854775808) = ⟨#[45, 57, 50, 50, 51, 51, 55, 50, 48, 51, 54, 56, 53, 52, 55, 55, 53, 56, 48, 56]⟩ := by
        unfold prS prU
        rw [if_pos (by decide)]
        have : prL 9223372036854775808 = [57, 50, 50, 51, 51, 55, 50, 48, 51, 54, 56, 53, 52, 55, 55, 53, 56, 48, 56] := by
          simp only [prL, Nat.reduceDiv, Nat.reduceMod, Nat.reduceAdd, Nat.reduceLT, if_true, if_false, ↓reduceIte, List.cons_append, List.nil_append]
          rfl
        exact congrArg (fun l => (⟨⟨45 :: l⟩⟩ : ByteArray)) this
      rw [e]
      repeat' (first | refine wC (by first | omega | (simp only [W1, cond_true, cond_false]; first | done | omega)) ?_ | refine wT (by first | omega | (simp only [W1, cond_true, cond_false]; first | done | omega)) ?_ | refine wF (by intro _h; first | omega | (simp only [W1, cond_true, cond_false] at _h; first | done | omega)) ?_ | (refine wS ?_ ?_ <;> intro _h <;> simp only [W1, cond_true, cond_false] at _h))
      all_goals simp only [W1, W2, owesN, owesX, owesR, cond_true, cond_false]
      repeat' (first | apply And.intro | intro _hc)
      all_goals first | exact AV.le_refl _ | exact AV.le_any _ | exact OLe.refl _ | exact OLe.none _ | exact LeH.refl _ | exact LeL.refl _ | exact AV.le.bs _ | exact AV.le.sb _ | omega | contradiction
    · have h0 := ansPo (v := v.natAbs) (by omega)
      refine answers (fn := Try.f11) (c := bodyOf Try.f11) (ntmps := 25) (results := [.tmp 2]) [CT.at 11 h0] (Lno) false Try.func11 (by kernel_rfl) (by kernel_rfl) (by kernel_rfl) (by kernel_rfl) (by simp) rfl (failOK fun _ _ _ => rfl) <| Meets.of (runPa v v.natAbs h0) <| ?_
      have w : IntKind.wrap IntKind.i64 ((0 : Int) - v) = ((v.natAbs : Nat) : Int) := by rw [wrap64 (by omega) (by omega)]; omega
      have e : (⟨#[45]⟩ : ByteArray) ++ prS ((v.natAbs : Nat) : Int) = prS v := by
        unfold prS prU
        rw [if_neg (by omega), if_pos c, Int.natAbs_natCast]
        exact mk_app [45] _
      have hlen : (prL v.natAbs).length ≤ 19 := prL_len 18 _ (by omega)
      have hz : (prS ((v.natAbs : Nat) : Int)).size ≤ 19 := by
        unfold prS prU; rw [if_neg (by omega), Int.natAbs_natCast]; exact hlen
      repeat' (first | refine wC (by first | omega | (simp only [W1, cond_true, cond_false, w, e]; first | done | omega)) ?_ | refine wT (by first | omega | (simp only [W1, cond_true, cond_false, w, e]; first | done | omega)) ?_ | refine wF (by intro _h; first | omega | (simp only [W1, cond_true, cond_false, w, e] at _h; first | done | omega)) ?_ | (refine wS ?_ ?_ <;> intro _h <;> simp only [W1, cond_true, cond_false, w, e] at _h))
      all_goals simp only [W1, W2, owesN, owesX, owesR, cond_true, cond_false, w, e]
      repeat' (first | apply And.intro | intro _hc)
      all_goals first | exact AV.le_refl _ | exact AV.le_any _ | exact OLe.refl _ | exact OLe.none _ | exact LeH.refl _ | exact LeL.refl _ | exact AV.le.bs _ | exact AV.le.sb _ | omega | contradiction
  · obtain ⟨k, rfl⟩ := Int.eq_ofNat_of_zero_le c
    exact ansPo (by omega)
noncomputable def kPrR : CT Try.prog Γu := CT.oI 11 .i64 Try.func11 (by kernel_rfl) (by kernel_rfl) (fun v => inI64 v) (fun v => .v (.string (prS v))) (fun _ => []) (fun v h => ansPrR h)
end Go.Eng.U

/- numbers: what is printed is read. -/
namespace Go.Eng.U
open Go Go.Eng Go.Eng.M Go.Lib Go.Proofs
set_option linter.unusedSimpArgs false
set_option linter.unusedVariables false
theorem prL_ind {P : Nat → Prop} (h1 : ∀ n, n < 10 → P n) (h2 : ∀ n, 10 ≤ n → P (n / 10) → P n) (n : Nat) : P n := by
  induction n using Nat.strongRecOn with
  | ind n ih =>
    rcases Nat.lt_or_ge n 10 with h | h
    · exact h1 n h
    · exact h2 n h (ih _ (by omega))
theorem prL_dL (n : Nat) : dL (prL n) := by
  refine prL_ind (P := fun n => dL (prL n)) (fun n h => ?_) (fun n h ih => ?_) n
  · rw [prL_small h]
    intro x hx
    rw [List.mem_singleton.1 hx, b8_nat (by omega)]; omega
  · rw [prL_step h]
    intro x hx
    rcases List.mem_append.1 hx with hx | hx
    · exact ih x hx
    · rw [List.mem_singleton.1 hx, b8_nat (by omega)]; omega
theorem prL_vL (n : Nat) : vL (prL n) 0 = n := by
  refine prL_ind (P := fun n => vL (prL n) 0 = n) (fun n h => ?_) (fun n h ih => ?_) n
  · rw [prL_small h]
    show 10 * 0 + ((b8 (48 + n)).toNat - 48) = n
    rw [b8_nat (by omega)]; omega
  · rw [prL_step h, vL_app, ih, b8_nat (by omega)]; omega
theorem prL_head (n : Nat) : 1 ≤ n → 49 ≤ bN ⟨⟨prL n⟩⟩ 0 := by
  refine prL_ind (P := fun n => 1 ≤ n → 49 ≤ bN ⟨⟨prL n⟩⟩ 0) (fun n h h1 => ?_) (fun n h ih h1 => ?_) n
  · rw [prL_small h, bN_cons0, b8_nat (by omega)]; omega
  · have := ih (by omega)
    have hp := prL_pos (n / 10)
    rw [prL_step h]
    have e : bN ⟨⟨prL (n / 10) ++ [b8 (48 + n % 10)]⟩⟩ 0 = bN ⟨⟨prL (n / 10)⟩⟩ 0 := by
      rw [bN_list _ 0 (by rw [List.length_append]; omega), bN_list _ 0 (by omega), List.getElem_append_left (by omega)]
    rw [e]; exact this
theorem dL_allD {l : List UInt8} (h : dL l) : allD ⟨⟨l⟩⟩ := fun i hi => by
  rw [bN_list l i hi]
  exact h _ (List.getElem_mem _)
theorem pr_neg {v : Int} (h : v < 0) : ngB (prS v) = true ∧ bdS (prS v) = ⟨⟨prL v.natAbs⟩⟩ := by
  have e : prS v = ⟨⟨45 :: prL v.natAbs⟩⟩ := by unfold prS prU; rw [if_pos h]
  have hz : (prS v).size = (prL v.natAbs).length + 1 := by rw [e]; rfl
  have h1 : ngB (prS v) = true := by
    unfold ngB
    rw [decide_eq_true (by omega), decide_eq_true (show bN (prS v) 0 = 45 by rw [e]; rfl)]; rfl
  have hlo : loS (prS v) = 1 := by unfold loS; rw [if_pos h1]
  have hb : (bdS (prS v)).size = (prL v.natAbs).length := by rw [bd_size, hlo, hz]; omega
  refine ⟨h1, bN_eq hb fun j hj => ?_⟩
  rw [bd_at hj, hlo, e, Nat.add_comm, bN_consS]
theorem pr_pos {v : Int} (h : 0 ≤ v) : ngB (prS v) = false ∧ bdS (prS v) = ⟨⟨prL v.natAbs⟩⟩ := by
  have e : prS v = ⟨⟨prL v.natAbs⟩⟩ := by unfold prS prU; rw [if_neg (by omega)]
  have hp := prL_pos v.natAbs
  have hd := dL_allD (prL_dL v.natAbs) 0 hp
  have h1 : ngB (prS v) = false := by
    unfold ngB
    rw [decide_eq_false (show ¬ bN (prS v) 0 = 45 by rw [e]; unfold isD at hd; omega), Bool.and_false]
  exact ⟨h1, by rw [bd_pos h1, e]⟩
theorem pr_read {v : Int} (h : inI64 v) : fmB (prS v) = true ∧ okV (prS v) = true ∧ sgV (ngB (prS v)) (vS (prS v)) = v := by
  obtain ⟨i1, i2⟩ := h
  have hp := prL_pos v.natAbs
  have hv : vN ⟨⟨prL v.natAbs⟩⟩ (prL v.natAbs).length = v.natAbs := by
    have := vN_size ⟨⟨prL v.natAbs⟩⟩
    rw [show (⟨⟨prL v.natAbs⟩⟩ : ByteArray).data.toList = prL v.natAbs from rfl, prL_vL] at this
    exact this
  rcases Int.lt_or_le v 0 with c | c
  · obtain ⟨h1, h2⟩ := pr_neg c
    have hh := prL_head v.natAbs (by omega)
    have hV : vS (prS v) = v.natAbs := by unfold vS; rw [h2]; exact hv
    refine ⟨cl_iff.2 ⟨aD_all.2 (by rw [h2]; exact dL_allD (prL_dL _)), by rw [h2]; exact hp, .inl (by rw [h2]; omega)⟩, ?_, ?_⟩
    · unfold okV; rw [hV, h1]; exact decide_eq_true (by rw [if_pos rfl]; omega)
    · rw [hV, h1]; unfold sgV; rw [if_pos rfl]; omega
  · obtain ⟨h1, h2⟩ := pr_pos c
    have hV : vS (prS v) = v.natAbs := by unfold vS; rw [h2]; exact hv
    refine ⟨cl_iff.2 ⟨aD_all.2 (by rw [h2]; exact dL_allD (prL_dL _)), by rw [h2]; exact hp, ?_⟩, ?_, ?_⟩
    · rw [h2]
      by_cases hz : v = 0
      · subst hz
        exact .inr ⟨by rw [show (0 : Int).natAbs = 0 from rfl, prL_small (by omega)]; rfl, h1⟩
      · have := prL_head v.natAbs (by omega)
        exact .inl (by omega)
    · unfold okV; rw [hV, h1]; exact decide_eq_true (by rw [if_neg Bool.false_ne_true]; omega)
    · rw [hV, h1]; unfold sgV; rw [if_neg Bool.false_ne_true]; omega
theorem pr_rd {v lo hi : Int} (h : inI64 v) (h1 : lo ≤ v) (h2 : v ≤ hi) : rdN (prS v) lo hi = v ∧ rdE (prS v) lo hi = 0 := by
  obtain ⟨a, b, c⟩ := pr_read h
  have hi' : inV (prS v) lo hi = true := by unfold inV; rw [b, c, decide_eq_true h1, decide_eq_true h2]; rfl
  unfold rdN rdE
  rw [a, hi', c]
  exact ⟨rfl, rfl⟩
theorem pr_size {v : Int} (h : inI64 v) : (prS v).size ≤ 20 := by
  obtain ⟨i1, i2⟩ := h
  have := prL_len 18 v.natAbs (by omega)
  unfold prS prU
  split
  · show (45 :: prL v.natAbs).length ≤ 20
    rw [List.length_cons]; omega
  · show (prL v.natAbs).length ≤ 20
    omega
end Go.Eng.U

/- NumReads: the law. -/
namespace Go.Eng.U
open Go Go.Eng Go.Eng.M Go.Lib Go.Proofs
set_option linter.unusedSimpArgs false
set_option linter.unusedVariables false
def ofSII : List AV → List Blk → Option (ByteArray × Int × Int)
  | [.v (.string s), .v (.int _ a), .v (.int _ b)], [] => some (s, a, b)
  | _, _ => none
noncomputable def kRe : CT Try.prog Γu := CT.par 8 ofSII (fun | (s, _, _) => s.size ≤ 1000000000) (fun | (s, a, b) => [.v (.string s), .v (.int .i64 a), .v (.int .i64 b)]) (fun _ => []) (fun | (s, a, b) => .tup [.v (.int .i64 (rdN s a b)), .v (.int .i64 (rdE s a b))]) (fun _ => []) (fun _ => []) (callFunc_enters Try.func8 (by kernel_rfl) (by kernel_rfl)) fun ⟨s, a, b⟩ h => ansRe h
noncomputable def kRr : CT Try.prog Γu := CT.par 9 ofSII (fun | (s, _, _) => s.size ≤ 1000000000) (fun | (s, a, b) => [.v (.string s), .v (.int .i64 a), .v (.int .i64 b)]) (fun _ => []) (fun | (s, a, b) => .tup [.v (.int .i64 (rdN s a b)), .v (.int .i64 (rdE s a b))]) (fun _ => []) (fun _ => []) (callFunc_enters Try.func9 (by kernel_rfl) (by kernel_rfl)) fun ⟨s, a, b⟩ h => ansRr h
theorem leV {a : Bool} (h : a = true) : AV.le (.sb a) (.v (.bool true)) := by rw [h]; exact .sb true
structure Y3 where
  s : ByteArray
  lo : Int
  hi : Int
  v : Int
def A3 (y : Y3) : List AV := [.v (.string y.s), .v (.int .i64 y.lo), .v (.int .i64 y.hi), .v (.int .i64 y.v)]
theorem law3 (y : Y3) : bodyE (P := Try.prog) (Γ := Γu) [c7, kRe, kRr, kPr, kPrR, kWi] Lno false 62 [.tmp 8] (bodyOf Try.f3) (A3 y) [] =
  Tree.br (decide ((300 : Int) < (↑(ByteArray.size y.s) : Int))) (Tree.leaf (Ans.mk (AV.v (Value.bool true)) [])) (Tree.chk (cl (ByteArray.size y.s ≤ (1000000000 : Nat) ∧ LeL [AV.v
    (Value.string y.s), AV.v (Value.int IntKind.i64 y.lo), AV.v (Value.int IntKind.i64 y.hi)] [AV.v (Value.string y.s), AV.v (Value.int IntKind.i64 y.lo), AV.v (Value.int IntKind.i64 y.hi)]
    ∧ LeH [] [])) (Tree.chk (cl (ByteArray.size y.s ≤ (1000000000 : Nat) ∧ LeL [AV.v (Value.string y.s), AV.v (Value.int IntKind.i64 y.lo), AV.v (Value.int IntKind.i64 y.hi)] [AV.v
    (Value.string y.s), AV.v (Value.int IntKind.i64 y.lo), AV.v (Value.int IntKind.i64 y.hi)] ∧ LeH [] [])) (Tree.chk (bif decide (rdN y.s y.lo y.hi = rdN y.s y.lo y.hi) then bif decide (rdE
    y.s y.lo y.hi = rdE y.s y.lo y.hi) then cl (inI64 y.v ∧ LeL [AV.v (Value.int IntKind.i64 y.v)] [AV.v (Value.int IntKind.i64 y.v)] ∧ LeH [] []) && cl (inI64 y.v ∧ LeL [AV.v (Value.int
    IntKind.i64 y.v)] [AV.v (Value.int IntKind.i64 y.v)] ∧ LeH [] []) else true else true) (Tree.leaf (Ans.mk (AV.sb (bif decide (rdN y.s y.lo y.hi = rdN y.s y.lo y.hi) then bif decide (rdE
    y.s y.lo y.hi = rdE y.s y.lo y.hi) then bif decide (prS y.v = prS y.v) then bif decide (y.lo ≤ y.v) then (bif decide (y.lo ≤ y.v) then decide (y.v ≤ y.hi) else false) == decide (y.v ≤
    y.hi) else (bif decide (y.lo ≤ y.v) then decide (y.v ≤ y.hi) else false) == false else false else false else false)) []))))) := by kernel_rfl
theorem lawNR (y : Y3) (hv : inI64 y.v) : LawOK Try.prog Γu 62 [.tmp 8] (bodyOf Try.f3) (A3 y) := by
  refine .mk' (T := [c7, kRe, kRr, kPr, kPrR, kWi]) (ip := false) (L := Lno) (failOK fun _ _ _ => rfl) (Right.of (law3 y) ?_)
  by_cases hs : 300 < y.s.size
  · repeat' (first | refine wC (by first | omega | (simp only [W1, cond_true, cond_false]; first | done | omega)) ?_ | refine wT (by first | omega | (simp only [W1, cond_true, cond_false]; first | done | omega)) ?_ | refine wF (by intro _h; first | omega | (simp only [W1, cond_true, cond_false] at _h; first | done | omega)) ?_ | (refine wS ?_ ?_ <;> intro _h <;> simp only [W1, cond_true, cond_false] at _h))
    all_goals simp only [W1, W2, owesN, owesX, owesR, cond_true, cond_false]
    repeat' (first | apply And.intro | intro _hc)
    all_goals first | exact AV.le_refl _ | exact AV.le_any _ | exact OLe.refl _ | exact OLe.none _ | exact LeH.refl _ | exact LeL.refl _ | exact AV.le.bs _ | exact AV.le.sb _ | omega | contradiction
  · repeat' (first | refine wC (by first | omega | (simp only [W1, cond_true, cond_false, hv]; first | done | omega)) ?_ | refine wT (by first | omega | (simp only [W1, cond_true, cond_false, hv]; first | done | omega)) ?_ | refine wF (by intro _h; first | omega | (simp only [W1, cond_true, cond_false, hv] at _h; first | done | omega)) ?_ | (refine wS ?_ ?_ <;> intro _h <;> simp only [W1, cond_true, cond_false, hv] at _h))
    all_goals simp only [W1, W2, owesN, owesX, owesR, cond_true, cond_false, hv]
    repeat' (first | apply And.intro | intro _hc)
    all_goals first | exact leV (by (cases decide (y.lo ≤ y.v) <;> cases decide (y.v ≤ y.hi) <;> simp)) | exact AV.le_refl _ | exact AV.le_any _ | exact OLe.refl _ | exact OLe.none _ | exact LeH.refl _ | exact LeL.refl _ | exact AV.le.bs _ | exact AV.le.sb _ | omega | contradiction
noncomputable def c3L : CT Try.prog Γu := CT.lawE A3 (fun y => inI64 y.v) 3 Try.f3 (bodyOf Try.f3) 62 [.tmp 8] Try.func3 (by kernel_rfl) (by kernel_rfl) (by kernel_rfl) (by kernel_rfl) (fun _ _ => by simp [A3]) (fun x h => lawNR x h)
end Go.Eng.U

/- num: sums of lists: the loops. -/
namespace Go.Eng.U
open Go Go.Eng Go.Proofs Go.Eng.M
set_option linter.unusedSimpArgs false
set_option linter.unusedVariables false
theorem round13 (n i : Int) (m : Nat) (e : Nat → Int) : roundE (P := Try.prog) (Γ := Γu) [c15'] Lno false 0 0 loop13 [2, 3, 4, 8, 9, 10] [] 25 [.v (.int .i64 0), .v (.int .i64 0), .v (.int .i64 n), .sl 1 m (ints e), .v (.int .i64 (m : Int)), .v (.int .i64 i)] [] =
  Tree.br (decide (i < (↑m : Int)))
  (Tree.chk (decide ((0 : Int) ≤ i) && decide (i < (↑m : Int)))
    (Tree.chk (true && true)
      (Tree.br (!decide (addE n (e i.toNat) = (0 : Int)))
        (Tree.leaf
          { ex := AEx.ret,
            fr :=
              [AV.v (Value.int IntKind.i64 (0 : Int)), AV.v (Value.int IntKind.i64 (addE n (e i.toNat))),
                AV.v (Value.int IntKind.i64 (addF n (e i.toNat))),
                AV.sl (1 : Nat) m fun i => [AV.v (Value.int IntKind.i64 (e i))],
                AV.v (Value.int IntKind.i64 (↑m : Int)), AV.v (Value.int IntKind.i64 i)],
            H := [] })
        (Tree.leaf
          { ex := AEx.normal,
            fr :=
              [AV.v (Value.int IntKind.i64 (0 : Int)), AV.v (Value.int IntKind.i64 (0 : Int)),
                AV.v (Value.int IntKind.i64 (addF n (e i.toNat))),
                AV.sl (1 : Nat) m fun i => [AV.v (Value.int IntKind.i64 (e i))],
                AV.v (Value.int IntKind.i64 (↑m : Int)),
                AV.v (Value.int IntKind.i64 (IntKind.i64.wrap (i + (1 : Int))))],
            H := [] }))))
  (Tree.leaf
    { ex := AEx.exit (0 : Nat),
      fr :=
        [AV.v (Value.int IntKind.i64 (0 : Int)), AV.v (Value.int IntKind.i64 (0 : Int)), AV.v (Value.int IntKind.i64 n),
          AV.sl (1 : Nat) m fun i => [AV.v (Value.int IntKind.i64 (e i))], AV.v (Value.int IntKind.i64 (↑m : Int)),
          AV.v (Value.int IntKind.i64 i)],
      H := [] }) := by kernel_rfl
theorem round14 (n i : Int) (m : Nat) (e : Nat → Int) : roundE (P := Try.prog) (Γ := Γu) [c16'] Lno false 0 0 loop14 [2, 3, 0, 4, 5] [] 28 [.v (.int .i64 0), .v (.int .i64 0), .sl 1 m (ints e), .v (.int .i64 n), .v (.int .i64 i)] [] =
  Tree.br (decide (i < (↑m : Int)))
  (Tree.chk (decide ((0 : Int) ≤ i) && decide (i < (↑m : Int)) && (true && true))
    (Tree.br (!decide (addE n (e i.toNat) = (0 : Int)))
      (Tree.leaf
        { ex := AEx.ret,
          fr :=
            [AV.v (Value.int IntKind.i64 (0 : Int)), AV.v (Value.int IntKind.i64 (addE n (e i.toNat))),
              AV.sl (1 : Nat) m fun i => [AV.v (Value.int IntKind.i64 (e i))], AV.v (Value.int IntKind.i64 n),
              AV.v (Value.int IntKind.i64 i)],
          H := [] })
      (Tree.leaf
        { ex := AEx.normal,
          fr :=
            [AV.v (Value.int IntKind.i64 (0 : Int)), AV.v (Value.int IntKind.i64 (0 : Int)),
              AV.sl (1 : Nat) m fun i => [AV.v (Value.int IntKind.i64 (e i))],
              AV.v (Value.int IntKind.i64 (addF n (e i.toNat))),
              AV.v (Value.int IntKind.i64 (IntKind.i64.wrap (i + (1 : Int))))],
          H := [] })))
  (Tree.leaf
    { ex := AEx.exit (0 : Nat),
      fr :=
        [AV.v (Value.int IntKind.i64 (0 : Int)), AV.v (Value.int IntKind.i64 (0 : Int)),
          AV.sl (1 : Nat) m fun i => [AV.v (Value.int IntKind.i64 (e i))], AV.v (Value.int IntKind.i64 n),
          AV.v (Value.int IntKind.i64 i)],
      H := [] }) := by kernel_rfl

/-- the sum of k numbers from the i-th on, and the error -/
def sumT (g : Nat → Int) : Nat → Nat → Int → Int × Int
  | 0, _, n => (n, 0)
  | k + 1, i, n => bif decide (addE n (g i) = 0) then sumT g k (i + 1) (addF n (g i)) else (0, addE n (g i))
noncomputable def list13 (vals : List AV) (H : Heap) : Tree Out := match vals, H with
  | [.v (.int .i64 0), .v (.int .i64 0), .v (.int .i64 n), .sl sz m f, .v (.int .i64 l), .v (.int .i64 i)], [] =>
    .chk (Nat.beq sz 1 && decide (l = (m : Int)) && decide (0 ≤ i) && decide (i ≤ m) && decide (m ≤ 2000)) (.chk (isInts f)
      (.br (decide ((sumT (fun j => getI (f j)) (m - i.toNat) i.toNat n).2 = 0)) (.leaf ⟨.exit 0, [.v (.int .i64 0), .v (.int .i64 0), .v (.int .i64 (sumT (fun j => getI (f j)) (m - i.toNat) i.toNat n).1), .any, .any, .any], []⟩)
        (.leaf ⟨.ret, [.v (.int .i64 0), .v (.int .i64 (sumT (fun j => getI (f j)) (m - i.toNat) i.toNat n).2), .any, .any, .any, .any], []⟩)))
  | _, _ => .fail
noncomputable def list14 (vals : List AV) (H : Heap) : Tree Out := match vals, H with
  | [.v (.int .i64 0), .v (.int .i64 0), .sl sz m f, .v (.int .i64 n), .v (.int .i64 i)], [] =>
    .chk (Nat.beq sz 1 && decide (0 ≤ i) && decide (i ≤ m) && decide (m ≤ 2000)) (.chk (isInts f)
      (.br (decide ((sumT (fun j => getI (f j)) (m - i.toNat) i.toNat n).2 = 0)) (.leaf ⟨.exit 0, [.v (.int .i64 0), .v (.int .i64 0), .any, .v (.int .i64 (sumT (fun j => getI (f j)) (m - i.toNat) i.toNat n).1), .any], []⟩)
        (.leaf ⟨.ret, [.v (.int .i64 0), .v (.int .i64 (sumT (fun j => getI (f j)) (m - i.toNat) i.toNat n).2), .any, .any, .any], []⟩)))
  | _, _ => .fail
theorem br_get {α : Type} {c : Bool} {a b r : α} (h : (Tree.br c (.leaf a) (.leaf b)).get = some r) : r = bif c then a else b := by
  cases c <;> (simp only [Tree.get, Option.some.injEq] at h; exact h.symm)
theorem list13_elim {vals : List AV} {H : Heap} {o : Out} (h : (list13 vals H).get = some o) (C : List AV → Heap → Out → Prop) (hC : ∀ (n : Int) (m i : Nat) (g : Nat → Int), i ≤ m → m ≤ 2000 →
    C [.v (.int .i64 0), .v (.int .i64 0), .v (.int .i64 n), .sl 1 m (ints g), .v (.int .i64 (m : Int)), .v (.int .i64 (i : Int))] []
      (bif decide ((sumT g (m - i) i n).2 = 0) then ⟨.exit 0, [.v (.int .i64 0), .v (.int .i64 0), .v (.int .i64 (sumT g (m - i) i n).1), .any, .any, .any], []⟩ else ⟨.ret, [.v (.int .i64 0), .v (.int .i64 (sumT g (m - i) i n).2), .any, .any, .any, .any], []⟩)) : C vals H o := by
  unfold list13 at h
  split at h
  · rename_i n sz m f l i
    have hc := (Tree.chk_get h).1
    replace h := (Tree.chk_get h).2
    have hf := (Tree.chk_get h).1
    replace h := br_get (Tree.chk_get h).2
    simp only [Bool.and_eq_true, decide_eq_true_eq] at hc
    have hm := hc.2
    have hi1 := hc.1.2
    have hi0 := hc.1.1.2
    have hl := hc.1.1.1.2
    have hs := hc.1.1.1.1
    clear hc
    obtain rfl := Nat.eq_of_beq_eq_true hs
    obtain ⟨k, hk⟩ := Int.eq_ofNat_of_zero_le hi0
    subst hk
    subst hl
    have hfe := isInts_eq hf
    generalize hg : (fun i => getI (f i)) = g at hfe h
    subst hfe
    rw [Int.toNat_natCast] at h
    subst h
    exact hC n m k g (by omega) hm
  · simp [Tree.get] at h
theorem list14_elim {vals : List AV} {H : Heap} {o : Out} (h : (list14 vals H).get = some o) (C : List AV → Heap → Out → Prop) (hC : ∀ (n : Int) (m i : Nat) (g : Nat → Int), i ≤ m → m ≤ 2000 →
    C [.v (.int .i64 0), .v (.int .i64 0), .sl 1 m (ints g), .v (.int .i64 n), .v (.int .i64 (i : Int))] []
      (bif decide ((sumT g (m - i) i n).2 = 0) then ⟨.exit 0, [.v (.int .i64 0), .v (.int .i64 0), .any, .v (.int .i64 (sumT g (m - i) i n).1), .any], []⟩ else ⟨.ret, [.v (.int .i64 0), .v (.int .i64 (sumT g (m - i) i n).2), .any, .any, .any], []⟩)) : C vals H o := by
  unfold list14 at h
  split at h
  · rename_i sz m f n i
    have hc := (Tree.chk_get h).1
    replace h := (Tree.chk_get h).2
    have hf := (Tree.chk_get h).1
    replace h := br_get (Tree.chk_get h).2
    simp only [Bool.and_eq_true, decide_eq_true_eq] at hc
    have hm := hc.2
    have hi1 := hc.1.2
    have hi0 := hc.1.1.2
    have hs := hc.1.1.1
    clear hc
    obtain rfl := Nat.eq_of_beq_eq_true hs
    obtain ⟨k, hk⟩ := Int.eq_ofNat_of_zero_le hi0
    subst hk
    have hfe := isInts_eq hf
    generalize hg : (fun i => getI (f i)) = g at hfe h
    subst hfe
    rw [Int.toNat_natCast] at h
    subst h
    exact hC n m k g (by omega) hm
  · simp [Tree.get] at h
theorem list13_at (n : Int) (m i : Nat) (g : Nat → Int) (h : i ≤ m) (hm : m ≤ 2000) : (list13 [.v (.int .i64 0), .v (.int .i64 0), .v (.int .i64 n), .sl 1 m (ints g), .v (.int .i64 (m : Int)), .v (.int .i64 (i : Int))] []).get =
    some (bif decide ((sumT g (m - i) i n).2 = 0) then ⟨.exit 0, [.v (.int .i64 0), .v (.int .i64 0), .v (.int .i64 (sumT g (m - i) i n).1), .any, .any, .any], []⟩ else ⟨.ret, [.v (.int .i64 0), .v (.int .i64 (sumT g (m - i) i n).2), .any, .any, .any, .any], []⟩) := by
  simp only [list13, isInts_ints, Nat.beq_refl, Bool.true_and, Int.toNat_natCast, decide_true]
  rw [decide_eq_true (show (0 : Int) ≤ (i : Int) by omega), decide_eq_true (show (i : Int) ≤ (m : Int) by omega), decide_eq_true hm]
  show (Tree.br (decide ((sumT g (m - i) i n).2 = 0)) _ _).get = _
  cases decide ((sumT g (m - i) i n).2 = 0) <;> rfl
theorem list14_at (n : Int) (m i : Nat) (g : Nat → Int) (h : i ≤ m) (hm : m ≤ 2000) : (list14 [.v (.int .i64 0), .v (.int .i64 0), .sl 1 m (ints g), .v (.int .i64 n), .v (.int .i64 (i : Int))] []).get =
    some (bif decide ((sumT g (m - i) i n).2 = 0) then ⟨.exit 0, [.v (.int .i64 0), .v (.int .i64 0), .any, .v (.int .i64 (sumT g (m - i) i n).1), .any], []⟩ else ⟨.ret, [.v (.int .i64 0), .v (.int .i64 (sumT g (m - i) i n).2), .any, .any, .any], []⟩) := by
  simp only [list14, isInts_ints, Nat.beq_refl, Bool.true_and, Int.toNat_natCast]
  rw [decide_eq_true (show (0 : Int) ≤ (i : Int) by omega), decide_eq_true (show (i : Int) ≤ (m : Int) by omega), decide_eq_true hm]
  show (Tree.br (decide ((sumT g (m - i) i n).2 = 0)) _ _).get = _
  cases decide ((sumT g (m - i) i n).2 = 0) <;> rfl
def mu13 (vals : List AV) (_ : Heap) : Nat := match vals with
  | [_, _, _, _, .v (.int _ l), .v (.int _ i)] => (l - i).toNat
  | _ => 0
def mu14 (vals : List AV) (_ : Heap) : Nat := match vals with
  | [_, _, .sl _ m _, _, .v (.int _ i)] => ((m : Int) - i).toNat
  | _ => 0
theorem sum_end (g : Nat → Int) (i : Nat) (n : Int) {k : Nat} (h : k = 0) : sumT g k i n = (n, 0) := by subst h; rfl
theorem sum_go (g : Nat → Int) (i : Nat) (n : Int) {m : Nat} (h : i < m) (he : addE n (g i) = 0) : sumT g (m - i) i n = sumT g (m - (i + 1)) (i + 1) (addF n (g i)) := by
  rw [show m - i = (m - (i + 1)) + 1 by omega, sumT, decide_eq_true he, cond_true]
theorem sum_bad (g : Nat → Int) (i : Nat) (n : Int) {m : Nat} (h : i < m) (he : ¬ addE n (g i) = 0) : sumT g (m - i) i n = (0, addE n (g i)) := by
  rw [show m - i = (m - (i + 1)) + 1 by omega, sumT, decide_eq_false he, cond_false]
theorem w1 {m i : Nat} (h : i < m) (hm : m ≤ 2000) : IntKind.i64.wrap ((i : Int) + 1) = ((i + 1 : Nat) : Int) := by rw [wrapE]; omega
noncomputable def L13 : Nat → LSpec := fun _ => ⟨[2, 3, 4, 8, 9, 10], [], list13⟩
noncomputable def L14 : Nat → LSpec := fun _ => ⟨[2, 3, 0, 4, 5], [], list14⟩
theorem loop13_ok : LoopOK Try.prog Γu 0 25 loop13 (L13 0) := by
  refine loop_ok (T := [c15']) (L := Lno) (ip := false) (k := 0) mu13 (noLoops (by kernel_rfl)) fun vals H o h => ?_
  refine list13_elim h (fun vals H o => (roundE (P := Try.prog) (Γ := Γu) [c15'] Lno false 0 0 loop13 [2, 3, 4, 8, 9, 10] [] 25 vals H).sat (Owes list13 mu13 (mu13 vals H) o)) ?_
  clear h
  intro n m i g hi hm
  show (roundE (P := Try.prog) (Γ := Γu) [c15'] Lno false 0 0 loop13 [2, 3, 4, 8, 9, 10] [] 25 [.v (.int .i64 0), .v (.int .i64 0), .v (.int .i64 n), .sl 1 m (ints g), .v (.int .i64 (m : Int)), .v (.int .i64 (i : Int))] []).sat _
  rw [round13]
  simp only [Tree.sat_br, Tree.sat_chk, Tree.sat_leaf, decide_eq_true_eq, decide_eq_false_iff_not, Bool.and_self, Int.toNat_natCast, Bool.not_eq_true', Bool.not_eq_false']
  refine ⟨fun hlt => ⟨by simp only [Bool.and_eq_true, decide_eq_true_eq]; exact ⟨by omega, hlt⟩, trivial, fun he => ?_, fun he => ?_⟩, fun hge => ?_⟩
  · rw [sum_bad g i n (by omega) he, decide_eq_false he, cond_false]
    exact ⟨rfl, by simp, trivial⟩
  · refine ⟨_, _, LeL.refl _, LeH.refl _, ?_, ?_⟩
    · rw [w1 (by omega) hm, sum_go g i n (by omega) he]
      exact list13_at (addF n (g i)) m (i + 1) g (by omega) hm
    · show ((m : Int) - IntKind.i64.wrap ((i : Int) + 1)).toNat < ((m : Int) - (i : Int)).toNat
      rw [w1 (by omega) hm]; omega
  · rw [sum_end g i n (by omega)]
    exact ⟨rfl, by simp, trivial⟩
theorem loop14_ok : LoopOK Try.prog Γu 0 28 loop14 (L14 0) := by
  refine loop_ok (T := [c16']) (L := Lno) (ip := false) (k := 0) mu14 (noLoops (by kernel_rfl)) fun vals H o h => ?_
  refine list14_elim h (fun vals H o => (roundE (P := Try.prog) (Γ := Γu) [c16'] Lno false 0 0 loop14 [2, 3, 0, 4, 5] [] 28 vals H).sat (Owes list14 mu14 (mu14 vals H) o)) ?_
  clear h
  intro n m i g hi hm
  show (roundE (P := Try.prog) (Γ := Γu) [c16'] Lno false 0 0 loop14 [2, 3, 0, 4, 5] [] 28 [.v (.int .i64 0), .v (.int .i64 0), .sl 1 m (ints g), .v (.int .i64 n), .v (.int .i64 (i : Int))] []).sat _
  rw [round14]
  simp only [Tree.sat_br, Tree.sat_chk, Tree.sat_leaf, decide_eq_true_eq, decide_eq_false_iff_not, Bool.and_self, Bool.and_true, Int.toNat_natCast, Bool.not_eq_true', Bool.not_eq_false']
  refine ⟨fun hlt => ⟨by simp only [Bool.and_eq_true, decide_eq_true_eq]; exact ⟨by omega, hlt⟩, fun he => ?_, fun he => ?_⟩, fun hge => ?_⟩
  · rw [sum_bad g i n (by omega) he, decide_eq_false he, cond_false]
    exact ⟨rfl, by simp, trivial⟩
  · refine ⟨_, _, LeL.refl _, LeH.refl _, ?_, ?_⟩
    · rw [w1 (by omega) hm, sum_go g i n (by omega) he]
      exact list14_at (addF n (g i)) m (i + 1) g (by omega) hm
    · show ((m : Int) - IntKind.i64.wrap ((i : Int) + 1)).toNat < ((m : Int) - (i : Int)).toNat
      rw [w1 (by omega) hm]; omega
  · rw [sum_end g i n (by omega)]
    exact ⟨rfl, by simp, trivial⟩
end Go.Eng.U

/- num: sums of lists: contracts, and the law. -/
namespace Go.Eng.U
open Go Go.Eng Go.Proofs Go.Eng.M
set_option linter.unusedSimpArgs false
set_option linter.unusedVariables false
theorem run13 (m : Nat) (g : Nat → Int) : bodyE (P := Try.prog) (Γ := Γu) [c15'] L13 false 25 [.tmp 2, .tmp 3] (bodyOf Try.f13) [.sl 1 m (ints g)] [] =
  Tree.chk
  (true && decide ((↑m : Int) = (↑m : Int)) && true && decide ((0 : Int) ≤ (↑m : Int)) && decide (m ≤ (2000 : Nat)))
  (Tree.chk (isInts (ints g))
    (Tree.br
      (decide
        ((sumT (fun j => getI [AV.v (Value.int IntKind.i64 (g j))]) (m - Int.toNat (0 : Int)) (Int.toNat (0 : Int))
              (0 : Int)).snd =
          (0 : Int)))
      (Tree.leaf
        {
          val :=
            AV.tup
              [AV.v
                  (Value.int IntKind.i64
                    (sumT (fun j => getI [AV.v (Value.int IntKind.i64 (g j))]) (m - Int.toNat (0 : Int))
                        (Int.toNat (0 : Int)) (0 : Int)).fst),
                AV.v (Value.int IntKind.i64 (0 : Int))],
          H := [] })
      (Tree.leaf
        {
          val :=
            AV.tup
              [AV.v (Value.int IntKind.i64 (0 : Int)),
                AV.v
                  (Value.int IntKind.i64
                    (sumT (fun j => getI [AV.v (Value.int IntKind.i64 (g j))]) (m - Int.toNat (0 : Int))
                        (Int.toNat (0 : Int)) (0 : Int)).snd)],
          H := [] }))) := by kernel_rfl
theorem run14 (m : Nat) (g : Nat → Int) : bodyE (P := Try.prog) (Γ := Γu) [c16'] L14 false 28 [.tmp 2, .tmp 3] (bodyOf Try.f14) [.sl 1 m (ints g)] [] =
  Tree.chk (true && decide ((0 : Int) ≤ (↑m : Int)) && decide (m ≤ (2000 : Nat)))
  (Tree.chk (isInts (ints g))
    (Tree.br
      (decide
        ((sumT (fun j => getI [AV.v (Value.int IntKind.i64 (g j))]) (m - Int.toNat (0 : Int)) (Int.toNat (0 : Int))
              (0 : Int)).snd =
          (0 : Int)))
      (Tree.leaf
        {
          val :=
            AV.tup
              [AV.v
                  (Value.int IntKind.i64
                    (sumT (fun j => getI [AV.v (Value.int IntKind.i64 (g j))]) (m - Int.toNat (0 : Int))
                        (Int.toNat (0 : Int)) (0 : Int)).fst),
                AV.v (Value.int IntKind.i64 (0 : Int))],
          H := [] })
      (Tree.leaf
        {
          val :=
            AV.tup
              [AV.v (Value.int IntKind.i64 (0 : Int)),
                AV.v
                  (Value.int IntKind.i64
                    (sumT (fun j => getI [AV.v (Value.int IntKind.i64 (g j))]) (m - Int.toNat (0 : Int))
                        (Int.toNat (0 : Int)) (0 : Int)).snd)],
          H := [] }))) := by kernel_rfl

theorem sum_shape (g : Nat → Int) : ∀ (k i : Nat) (n : Int), (sumT g k i n).2 ≠ 0 → (sumT g k i n).1 = 0
  | 0, i, n, h => absurd rfl h
  | k + 1, i, n, h => by
    rw [sumT] at h ⊢
    cases hb : decide (addE n (g i) = 0) with
    | true => rw [hb] at h; exact sum_shape g k (i + 1) _ h
    | false => rfl
noncomputable def specS (args : List AV) (Hin : List Blk) : Tree Res := match args, Hin with
  | [.sl sz m f], [] => .chk (Nat.beq sz 1 && decide (m ≤ 2000)) (.chk (isInts f)
      (.leaf { val := .tup [.v (.int .i64 (sumT (fun j => getI (f j)) m 0 0).1), .v (.int .i64 (sumT (fun j => getI (f j)) m 0 0).2)] }))
  | _, _ => .fail
theorem specS_elim {args : List AV} {Hin : List Blk} {r : Res} (h : (specS args Hin).get = some r) (C : List AV → List Blk → Res → Prop) (hC : ∀ (m : Nat) (g : Nat → Int), m ≤ 2000 → C [.sl 1 m (ints g)] [] { val := .tup [.v (.int .i64 (sumT g m 0 0).1), .v (.int .i64 (sumT g m 0 0).2)] }) : C args Hin r := by
  unfold specS at h
  split at h
  · rename_i sz m f
    have hc := (Tree.chk_get h).1
    replace h := (Tree.chk_get h).2
    have hf := (Tree.chk_get h).1
    replace h := Tree.leaf_get (Tree.chk_get h).2
    simp only [Bool.and_eq_true, decide_eq_true_eq] at hc
    obtain rfl := Nat.eq_of_beq_eq_true hc.1
    have hfe := isInts_eq hf
    generalize hg : (fun i => getI (f i)) = g at hfe h
    subst hfe
    subst h
    exact hC m g hc.2
  · simp [Tree.get] at h
theorem gives13 (m : Nat) (g : Nat → Int) (hm : m ≤ 2000) : Gives (bodyE (P := Try.prog) (Γ := Γu) [c15'] L13 false 25 [.tmp 2, .tmp 3] (bodyOf Try.f13) [.sl 1 m (ints g)] []) (.tup [.v (.int .i64 (sumT g m 0 0).1), .v (.int .i64 (sumT g m 0 0).2)]) := ⟨by
  rw [run13]
  show (Tree.chk _ (Tree.chk _ (Tree.br (decide ((sumT g m 0 0).2 = 0)) (.leaf (Ans.mk (.tup [.v (.int .i64 (sumT g m 0 0).1), .v (.int .i64 0)]) [])) (.leaf (Ans.mk (.tup [.v (.int .i64 0), .v (.int .i64 (sumT g m 0 0).2)]) []))))).sat _
  simp only [Tree.sat_br, Tree.sat_chk, Tree.sat_leaf, isInts_ints, decide_eq_true_eq, decide_eq_false_iff_not, Bool.true_and, Bool.and_eq_true, true_and]
  refine ⟨⟨by omega, hm⟩, fun h => ⟨by rw [h]; exact .refl _, trivial⟩, fun h => ⟨by rw [sum_shape g m 0 0 h]; exact .refl _, trivial⟩⟩⟩
theorem gives14 (m : Nat) (g : Nat → Int) (hm : m ≤ 2000) : Gives (bodyE (P := Try.prog) (Γ := Γu) [c16'] L14 false 28 [.tmp 2, .tmp 3] (bodyOf Try.f14) [.sl 1 m (ints g)] []) (.tup [.v (.int .i64 (sumT g m 0 0).1), .v (.int .i64 (sumT g m 0 0).2)]) := ⟨by
  rw [run14]
  show (Tree.chk _ (Tree.chk _ (Tree.br (decide ((sumT g m 0 0).2 = 0)) (.leaf (Ans.mk (.tup [.v (.int .i64 (sumT g m 0 0).1), .v (.int .i64 0)]) [])) (.leaf (Ans.mk (.tup [.v (.int .i64 0), .v (.int .i64 (sumT g m 0 0).2)]) []))))).sat _
  simp only [Tree.sat_br, Tree.sat_chk, Tree.sat_leaf, isInts_ints, decide_eq_true_eq, decide_eq_false_iff_not, Bool.true_and, Bool.and_eq_true, true_and]
  refine ⟨⟨by omega, hm⟩, fun h => ⟨by rw [h]; exact .refl _, trivial⟩, fun h => ⟨by rw [sum_shape g m 0 0 h]; exact .refl _, trivial⟩⟩⟩
noncomputable def c13' : CT Try.prog Γu := CT.told 13 Try.f13 (bodyOf Try.f13) [c15'] L13 false 25 [.tmp 2, .tmp 3] specS Try.func13 (by kernel_rfl) (by kernel_rfl) (by kernel_rfl) (by kernel_rfl)
  (fun args Hin r h => specS_elim h (fun _ Hin _ => ∀ (j : Nat) (b : Code), (loopBodies (bodyOf Try.f13))[j]? = some b → LoopOK Try.prog Γu Hin.length 25 b (L13 j)) fun _ _ _ => oneLoop (b := loop13) (by kernel_rfl) loop13_ok)
  (fun args Hin r h => specS_elim h (fun args Hin r => args.length ≤ 25 ∧ Meets (bodyE (P := Try.prog) (Γ := Γu) [c15'] L13 false 25 [.tmp 2, .tmp 3] (bodyOf Try.f13) args Hin) r.val (r.heap Hin)) fun m g hm => by
    refine ⟨by simp, ?_⟩
    exact (gives13 m g hm).meets)
noncomputable def c14' : CT Try.prog Γu := CT.told 14 Try.f14 (bodyOf Try.f14) [c16'] L14 false 28 [.tmp 2, .tmp 3] specS Try.func14 (by kernel_rfl) (by kernel_rfl) (by kernel_rfl) (by kernel_rfl)
  (fun args Hin r h => specS_elim h (fun _ Hin _ => ∀ (j : Nat) (b : Code), (loopBodies (bodyOf Try.f14))[j]? = some b → LoopOK Try.prog Γu Hin.length 28 b (L14 j)) fun _ _ _ => oneLoop (b := loop14) (by kernel_rfl) loop14_ok)
  (fun args Hin r h => specS_elim h (fun args Hin r => args.length ≤ 28 ∧ Meets (bodyE (P := Try.prog) (Γ := Γu) [c16'] L14 false 28 [.tmp 2, .tmp 3] (bodyOf Try.f14) args Hin) r.val (r.heap Hin)) fun m g hm => by
    refine ⟨by simp, ?_⟩
    exact (gives14 m g hm).meets)
end Go.Eng.U

/- num: differences and products: contracts. -/
namespace Go.Eng.U
open Go Go.Eng Go.Proofs Go.Eng.M
set_option linter.unusedSimpArgs false
set_option linter.unusedVariables false
noncomputable def d26 : CT Try.prog Γu := CT.auto false 3 1 [] 26 Try.f26 (bodyOf Try.f26) false 8 [.tmp 2] Try.func26 (by kernel_rfl) (by kernel_rfl) (by kernel_rfl) (by kernel_rfl)
noncomputable def mulP (T0 : List (CT Try.prog Γu)) (pre : Int → Int → Bool) (g : Int → Int → AV) (hs : ∀ a b, pre a b = true → Gives (bodyE T0 Lno false 70 [.tmp 4, .tmp 5] (bodyOf Try.f20) [.v (.int .i64 a), .v (.int .i64 b)] []) (g a b)) : CT Try.prog Γu :=
  CT.val2 20 Try.f20 (bodyOf Try.f20) T0 Lno false 70 [.tmp 4, .tmp 5] .i64 .i64 pre g Try.func20 (by kernel_rfl) (by kernel_rfl) (by kernel_rfl) (by kernel_rfl) (by decide) (noLoops (by kernel_rfl)) hs
end Go.Eng.U

/- num: differences and products: the program's and the document's answer. -/
namespace Go.Eng.U
open Go Go.Eng Go.Proofs Go.Eng.M
set_option linter.unusedSimpArgs false
set_option linter.unusedVariables false
theorem run17 (a b : Int) : bodyE (P := Try.prog) (Γ := Γu) [d23, d24, c15'] Lno false 19 [.tmp 4, .tmp 5] (bodyOf Try.f17) [.v (.int .i64 a), .v (.int .i64 b)] [] =
  Tree.br true
  (Tree.chk true
    (Tree.br
      (!bif decide ((-4611686018427387904 : Int) ≤ bif true then b else (0 : Int)) then
          decide ((bif true then b else (0 : Int)) ≤ (4611686018427387904 : Int))
        else false)
      (Tree.leaf
        { val := AV.tup [AV.v (Value.int IntKind.i64 (0 : Int)), AV.v (Value.int IntKind.i64 (10 : Int))], H := [] })
      (Tree.br false
        (Tree.chk false
          (Tree.br
            (!bif decide ((-4611686018427387904 : Int) ≤ bif false then b else (0 : Int)) then
                decide ((bif false then b else (0 : Int)) ≤ (4611686018427387904 : Int))
              else false)
            (Tree.leaf
              { val := AV.tup [AV.v (Value.int IntKind.i64 (0 : Int)), AV.v (Value.int IntKind.i64 (10 : Int))],
                H := [] })
            (Tree.br false
              (Tree.chk false
                (Tree.br
                  (!bif decide ((-4611686018427387904 : Int) ≤ bif false then b else (0 : Int)) then
                      decide ((bif false then b else (0 : Int)) ≤ (4611686018427387904 : Int))
                    else false)
                  (Tree.leaf
                    { val := AV.tup [AV.v (Value.int IntKind.i64 (0 : Int)), AV.v (Value.int IntKind.i64 (10 : Int))],
                      H := [] })
                  Tree.fail))
              (Tree.chk (true && true)
                (Tree.leaf
                  {
                    val :=
                      AV.tup
                        [AV.v (Value.int IntKind.i64 (addF a (IntKind.i64.wrap ((0 : Int) - b)))),
                          AV.v (Value.int IntKind.i64 (addE a (IntKind.i64.wrap ((0 : Int) - b))))],
                    H := [] })))))
        (Tree.chk (true && true)
          (Tree.leaf
            {
              val :=
                AV.tup
                  [AV.v (Value.int IntKind.i64 (addF a (IntKind.i64.wrap ((0 : Int) - b)))),
                    AV.v (Value.int IntKind.i64 (addE a (IntKind.i64.wrap ((0 : Int) - b))))],
              H := [] })))))
  (Tree.chk (true && true)
    (Tree.leaf
      {
        val :=
          AV.tup
            [AV.v (Value.int IntKind.i64 (addF a (IntKind.i64.wrap ((0 : Int) - b)))),
              AV.v (Value.int IntKind.i64 (addE a (IntKind.i64.wrap ((0 : Int) - b))))],
        H := [] })) := by kernel_rfl
theorem run18 (a b : Int) : bodyE (P := Try.prog) (Γ := Γu) [S.c25] Lno false 37 [.tmp 4, .tmp 5] (bodyOf Try.f18) [.v (.int .i64 a), .v (.int .i64 b)] [] =
  Tree.br
  (bif !bif decide ((-4611686018427387904 : Int) ≤ a) then decide (a ≤ (4611686018427387904 : Int)) else false then true
  else
    bif !bif decide ((-4611686018427387904 : Int) ≤ b) then decide (b ≤ (4611686018427387904 : Int)) else false then
      true
    else
      bif decide (b < (0 : Int)) then
        bif decide (IntKind.i64.wrap ((4611686018427387904 : Int) + b) < a) then true
        else bif decide ((0 : Int) < b) then decide (a < IntKind.i64.wrap (b - (4611686018427387904 : Int))) else false
      else bif decide ((0 : Int) < b) then decide (a < IntKind.i64.wrap (b - (4611686018427387904 : Int))) else false)
  (Tree.leaf
    { val := AV.tup [AV.v (Value.int IntKind.i64 (0 : Int)), AV.v (Value.int IntKind.i64 (10 : Int))], H := [] })
  (Tree.leaf
    { val := AV.tup [AV.v (Value.int IntKind.i64 (IntKind.i64.wrap (a - b))), AV.v (Value.int IntKind.i64 (0 : Int))],
      H := [] }) := by kernel_rfl
theorem run19 (a b : Int) : bodyE (P := Try.prog) (Γ := Γu) [d23, d24, d26] Lno false 34 [.tmp 4, .tmp 5] (bodyOf Try.f19) [.v (.int .i64 a), .v (.int .i64 b)] [] =
  Tree.br true
  (Tree.chk true
    (Tree.br
      (!bif decide ((-4611686018427387904 : Int) ≤ bif true then a else bif false then b else (0 : Int)) then
          decide ((bif true then a else bif false then b else (0 : Int)) ≤ (4611686018427387904 : Int))
        else false)
      (Tree.leaf
        { val := AV.tup [AV.v (Value.int IntKind.i64 (0 : Int)), AV.v (Value.int IntKind.i64 (10 : Int))], H := [] })
      (Tree.br true
        (Tree.chk true
          (Tree.br
            (!bif decide ((-4611686018427387904 : Int) ≤ bif false then a else bif true then b else (0 : Int)) then
                decide ((bif false then a else bif true then b else (0 : Int)) ≤ (4611686018427387904 : Int))
              else false)
            (Tree.leaf
              { val := AV.tup [AV.v (Value.int IntKind.i64 (0 : Int)), AV.v (Value.int IntKind.i64 (10 : Int))],
                H := [] })
            (Tree.br false
              (Tree.chk false
                (Tree.br
                  (!bif
                        decide
                          ((-4611686018427387904 : Int) ≤ bif false then a else bif false then b else (0 : Int)) then
                      decide ((bif false then a else bif false then b else (0 : Int)) ≤ (4611686018427387904 : Int))
                    else false)
                  (Tree.leaf
                    { val := AV.tup [AV.v (Value.int IntKind.i64 (0 : Int)), AV.v (Value.int IntKind.i64 (10 : Int))],
                      H := [] })
                  Tree.fail))
              (Tree.br (bif decide (a = (0 : Int)) then true else decide (b = (0 : Int)))
                (Tree.leaf
                  { val := AV.tup [AV.v (Value.int IntKind.i64 (0 : Int)), AV.v (Value.int IntKind.i64 (0 : Int))],
                    H := [] })
                (Tree.chk
                  (bif decide (b < (0 : Int)) then !decide (IntKind.i64.wrap ((0 : Int) - b) = (0 : Int))
                  else !decide (b = (0 : Int)))
                  (Tree.br (decide (a < (0 : Int)))
                    (Tree.br
                      (!decide
                          (IntKind.i64.wrap ((0 : Int) - a) ≤
                            bif decide (b < (0 : Int)) then
                              IntKind.i64.wrap (Int.tdiv (4611686018427387904 : Int) (IntKind.i64.wrap ((0 : Int) - b)))
                            else IntKind.i64.wrap (Int.tdiv (4611686018427387904 : Int) b)))
                      (Tree.leaf
                        {
                          val :=
                            AV.tup [AV.v (Value.int IntKind.i64 (0 : Int)), AV.v (Value.int IntKind.i64 (10 : Int))],
                          H := [] })
                      (Tree.br true
                        (Tree.chk true
                          (Tree.br
                            (!bif
                                  decide
                                    ((-4611686018427387904 : Int) ≤
                                      bif true then IntKind.i64.wrap (a * b) else (0 : Int)) then
                                decide
                                  ((bif true then IntKind.i64.wrap (a * b) else (0 : Int)) ≤
                                    (4611686018427387904 : Int))
                              else false)
                            (Tree.leaf
                              {
                                val :=
                                  AV.tup
                                    [AV.v (Value.int IntKind.i64 (0 : Int)), AV.v (Value.int IntKind.i64 (10 : Int))],
                                H := [] })
                            (Tree.br false
                              (Tree.chk false
                                (Tree.br
                                  (!bif
                                        decide
                                          ((-4611686018427387904 : Int) ≤
                                            bif false then IntKind.i64.wrap (a * b) else (0 : Int)) then
                                      decide
                                        ((bif false then IntKind.i64.wrap (a * b) else (0 : Int)) ≤
                                          (4611686018427387904 : Int))
                                    else false)
                                  (Tree.leaf
                                    {
                                      val :=
                                        AV.tup
                                          [AV.v (Value.int IntKind.i64 (0 : Int)),
                                            AV.v (Value.int IntKind.i64 (10 : Int))],
                                      H := [] })
                                  (Tree.br false
                                    (Tree.chk false
                                      (Tree.br
                                        (!bif
                                              decide
                                                ((-4611686018427387904 : Int) ≤
                                                  bif false then IntKind.i64.wrap (a * b) else (0 : Int)) then
                                            decide
                                              ((bif false then IntKind.i64.wrap (a * b) else (0 : Int)) ≤
                                                (4611686018427387904 : Int))
                                          else false)
                                        (Tree.leaf
                                          {
                                            val :=
                                              AV.tup
                                                [AV.v (Value.int IntKind.i64 (0 : Int)),
                                                  AV.v (Value.int IntKind.i64 (10 : Int))],
                                            H := [] })
                                        Tree.fail))
                                    (Tree.leaf
                                      {
                                        val :=
                                          AV.tup
                                            [AV.v (Value.int IntKind.i64 (IntKind.i64.wrap (a * b))),
                                              AV.v (Value.int IntKind.i64 (0 : Int))],
                                        H := [] }))))
                              (Tree.leaf
                                {
                                  val :=
                                    AV.tup
                                      [AV.v (Value.int IntKind.i64 (IntKind.i64.wrap (a * b))),
                                        AV.v (Value.int IntKind.i64 (0 : Int))],
                                  H := [] }))))
                        (Tree.leaf
                          {
                            val :=
                              AV.tup
                                [AV.v (Value.int IntKind.i64 (IntKind.i64.wrap (a * b))),
                                  AV.v (Value.int IntKind.i64 (0 : Int))],
                            H := [] })))
                    (Tree.br
                      (!decide
                          (a ≤
                            bif decide (b < (0 : Int)) then
                              IntKind.i64.wrap (Int.tdiv (4611686018427387904 : Int) (IntKind.i64.wrap ((0 : Int) - b)))
                            else IntKind.i64.wrap (Int.tdiv (4611686018427387904 : Int) b)))
                      (Tree.leaf
                        {
                          val :=
                            AV.tup [AV.v (Value.int IntKind.i64 (0 : Int)), AV.v (Value.int IntKind.i64 (10 : Int))],
                          H := [] })
                      (Tree.br true
                        (Tree.chk true
                          (Tree.br
                            (!bif
                                  decide
                                    ((-4611686018427387904 : Int) ≤
                                      bif true then IntKind.i64.wrap (a * b) else (0 : Int)) then
                                decide
                                  ((bif true then IntKind.i64.wrap (a * b) else (0 : Int)) ≤
                                    (4611686018427387904 : Int))
                              else false)
                            (Tree.leaf
                              {
                                val :=
                                  AV.tup
                                    [AV.v (Value.int IntKind.i64 (0 : Int)), AV.v (Value.int IntKind.i64 (10 : Int))],
                                H := [] })
                            (Tree.br false
                              (Tree.chk false
                                (Tree.br
                                  (!bif
                                        decide
                                          ((-4611686018427387904 : Int) ≤
                                            bif false then IntKind.i64.wrap (a * b) else (0 : Int)) then
                                      decide
                                        ((bif false then IntKind.i64.wrap (a * b) else (0 : Int)) ≤
                                          (4611686018427387904 : Int))
                                    else false)
                                  (Tree.leaf
                                    {
                                      val :=
                                        AV.tup
                                          [AV.v (Value.int IntKind.i64 (0 : Int)),
                                            AV.v (Value.int IntKind.i64 (10 : Int))],
                                      H := [] })
                                  (Tree.br false
                                    (Tree.chk false
                                      (Tree.br
                                        (!bif
                                              decide
                                                ((-4611686018427387904 : Int) ≤
                                                  bif false then IntKind.i64.wrap (a * b) else (0 : Int)) then
                                            decide
                                              ((bif false then IntKind.i64.wrap (a * b) else (0 : Int)) ≤
                                                (4611686018427387904 : Int))
                                          else false)
                                        (Tree.leaf
                                          {
                                            val :=
                                              AV.tup
                                                [AV.v (Value.int IntKind.i64 (0 : Int)),
                                                  AV.v (Value.int IntKind.i64 (10 : Int))],
                                            H := [] })
                                        Tree.fail))
                                    (Tree.leaf
                                      {
                                        val :=
                                          AV.tup
                                            [AV.v (Value.int IntKind.i64 (IntKind.i64.wrap (a * b))),
                                              AV.v (Value.int IntKind.i64 (0 : Int))],
                                        H := [] }))))
                              (Tree.leaf
                                {
                                  val :=
                                    AV.tup
                                      [AV.v (Value.int IntKind.i64 (IntKind.i64.wrap (a * b))),
                                        AV.v (Value.int IntKind.i64 (0 : Int))],
                                  H := [] }))))
                        (Tree.leaf
                          {
                            val :=
                              AV.tup
                                [AV.v (Value.int IntKind.i64 (IntKind.i64.wrap (a * b))),
                                  AV.v (Value.int IntKind.i64 (0 : Int))],
                            H := [] })))))))))
        (Tree.br (bif decide (a = (0 : Int)) then true else decide (b = (0 : Int)))
          (Tree.leaf
            { val := AV.tup [AV.v (Value.int IntKind.i64 (0 : Int)), AV.v (Value.int IntKind.i64 (0 : Int))], H := [] })
          (Tree.chk
            (bif decide (b < (0 : Int)) then !decide (IntKind.i64.wrap ((0 : Int) - b) = (0 : Int))
            else !decide (b = (0 : Int)))
            (Tree.br (decide (a < (0 : Int)))
              (Tree.br
                (!decide
                    (IntKind.i64.wrap ((0 : Int) - a) ≤
                      bif decide (b < (0 : Int)) then
                        IntKind.i64.wrap (Int.tdiv (4611686018427387904 : Int) (IntKind.i64.wrap ((0 : Int) - b)))
                      else IntKind.i64.wrap (Int.tdiv (4611686018427387904 : Int) b)))
                (Tree.leaf
                  { val := AV.tup [AV.v (Value.int IntKind.i64 (0 : Int)), AV.v (Value.int IntKind.i64 (10 : Int))],
                    H := [] })
                (Tree.br true
                  (Tree.chk true
                    (Tree.br
                      (!bif
                            decide
                              ((-4611686018427387904 : Int) ≤
                                bif true then IntKind.i64.wrap (a * b) else (0 : Int)) then
                          decide ((bif true then IntKind.i64.wrap (a * b) else (0 : Int)) ≤ (4611686018427387904 : Int))
                        else false)
                      (Tree.leaf
                        {
                          val :=
                            AV.tup [AV.v (Value.int IntKind.i64 (0 : Int)), AV.v (Value.int IntKind.i64 (10 : Int))],
                          H := [] })
                      (Tree.br false
                        (Tree.chk false
                          (Tree.br
                            (!bif
                                  decide
                                    ((-4611686018427387904 : Int) ≤
                                      bif false then IntKind.i64.wrap (a * b) else (0 : Int)) then
                                decide
                                  ((bif false then IntKind.i64.wrap (a * b) else (0 : Int)) ≤
                                    (4611686018427387904 : Int))
                              else false)
                            (Tree.leaf
                              {
                                val :=
                                  AV.tup
                                    [AV.v (Value.int IntKind.i64 (0 : Int)), AV.v (Value.int IntKind.i64 (10 : Int))],
                                H := [] })
                            (Tree.br false
                              (Tree.chk false
                                (Tree.br
                                  (!bif
                                        decide
                                          ((-4611686018427387904 : Int) ≤
                                            bif false then IntKind.i64.wrap (a * b) else (0 : Int)) then
                                      decide
                                        ((bif false then IntKind.i64.wrap (a * b) else (0 : Int)) ≤
                                          (4611686018427387904 : Int))
                                    else false)
                                  (Tree.leaf
                                    {
                                      val :=
                                        AV.tup
                                          [AV.v (Value.int IntKind.i64 (0 : Int)),
                                            AV.v (Value.int IntKind.i64 (10 : Int))],
                                      H := [] })
                                  Tree.fail))
                              (Tree.leaf
                                {
                                  val :=
                                    AV.tup
                                      [AV.v (Value.int IntKind.i64 (IntKind.i64.wrap (a * b))),
                                        AV.v (Value.int IntKind.i64 (0 : Int))],
                                  H := [] }))))
                        (Tree.leaf
                          {
                            val :=
                              AV.tup
                                [AV.v (Value.int IntKind.i64 (IntKind.i64.wrap (a * b))),
                                  AV.v (Value.int IntKind.i64 (0 : Int))],
                            H := [] }))))
                  (Tree.leaf
                    {
                      val :=
                        AV.tup
                          [AV.v (Value.int IntKind.i64 (IntKind.i64.wrap (a * b))),
                            AV.v (Value.int IntKind.i64 (0 : Int))],
                      H := [] })))
              (Tree.br
                (!decide
                    (a ≤
                      bif decide (b < (0 : Int)) then
                        IntKind.i64.wrap (Int.tdiv (4611686018427387904 : Int) (IntKind.i64.wrap ((0 : Int) - b)))
                      else IntKind.i64.wrap (Int.tdiv (4611686018427387904 : Int) b)))
                (Tree.leaf
                  { val := AV.tup [AV.v (Value.int IntKind.i64 (0 : Int)), AV.v (Value.int IntKind.i64 (10 : Int))],
                    H := [] })
                (Tree.br true
                  (Tree.chk true
                    (Tree.br
                      (!bif
                            decide
                              ((-4611686018427387904 : Int) ≤
                                bif true then IntKind.i64.wrap (a * b) else (0 : Int)) then
                          decide ((bif true then IntKind.i64.wrap (a * b) else (0 : Int)) ≤ (4611686018427387904 : Int))
                        else false)
                      (Tree.leaf
                        {
                          val :=
                            AV.tup [AV.v (Value.int IntKind.i64 (0 : Int)), AV.v (Value.int IntKind.i64 (10 : Int))],
                          H := [] })
                      (Tree.br false
                        (Tree.chk false
                          (Tree.br
                            (!bif
                                  decide
                                    ((-4611686018427387904 : Int) ≤
                                      bif false then IntKind.i64.wrap (a * b) else (0 : Int)) then
                                decide
                                  ((bif false then IntKind.i64.wrap (a * b) else (0 : Int)) ≤
                                    (4611686018427387904 : Int))
                              else false)
                            (Tree.leaf
                              {
                                val :=
                                  AV.tup
                                    [AV.v (Value.int IntKind.i64 (0 : Int)), AV.v (Value.int IntKind.i64 (10 : Int))],
                                H := [] })
                            (Tree.br false
                              (Tree.chk false
                                (Tree.br
                                  (!bif
                                        decide
                                          ((-4611686018427387904 : Int) ≤
                                            bif false then IntKind.i64.wrap (a * b) else (0 : Int)) then
                                      decide
                                        ((bif false then IntKind.i64.wrap (a * b) else (0 : Int)) ≤
                                          (4611686018427387904 : Int))
                                    else false)
                                  (Tree.leaf
                                    {
                                      val :=
                                        AV.tup
                                          [AV.v (Value.int IntKind.i64 (0 : Int)),
                                            AV.v (Value.int IntKind.i64 (10 : Int))],
                                      H := [] })
                                  Tree.fail))
                              (Tree.leaf
                                {
                                  val :=
                                    AV.tup
                                      [AV.v (Value.int IntKind.i64 (IntKind.i64.wrap (a * b))),
                                        AV.v (Value.int IntKind.i64 (0 : Int))],
                                  H := [] }))))
                        (Tree.leaf
                          {
                            val :=
                              AV.tup
                                [AV.v (Value.int IntKind.i64 (IntKind.i64.wrap (a * b))),
                                  AV.v (Value.int IntKind.i64 (0 : Int))],
                            H := [] }))))
                  (Tree.leaf
                    {
                      val :=
                        AV.tup
                          [AV.v (Value.int IntKind.i64 (IntKind.i64.wrap (a * b))),
                            AV.v (Value.int IntKind.i64 (0 : Int))],
                      H := [] })))))))))
  (Tree.br (bif decide (a = (0 : Int)) then true else decide (b = (0 : Int)))
    (Tree.leaf
      { val := AV.tup [AV.v (Value.int IntKind.i64 (0 : Int)), AV.v (Value.int IntKind.i64 (0 : Int))], H := [] })
    (Tree.chk
      (bif decide (b < (0 : Int)) then !decide (IntKind.i64.wrap ((0 : Int) - b) = (0 : Int))
      else !decide (b = (0 : Int)))
      (Tree.br (decide (a < (0 : Int)))
        (Tree.br
          (!decide
              (IntKind.i64.wrap ((0 : Int) - a) ≤
                bif decide (b < (0 : Int)) then
                  IntKind.i64.wrap (Int.tdiv (4611686018427387904 : Int) (IntKind.i64.wrap ((0 : Int) - b)))
                else IntKind.i64.wrap (Int.tdiv (4611686018427387904 : Int) b)))
          (Tree.leaf
            { val := AV.tup [AV.v (Value.int IntKind.i64 (0 : Int)), AV.v (Value.int IntKind.i64 (10 : Int))],
              H := [] })
          (Tree.br true
            (Tree.chk true
              (Tree.br
                (!bif decide ((-4611686018427387904 : Int) ≤ bif true then IntKind.i64.wrap (a * b) else (0 : Int)) then
                    decide ((bif true then IntKind.i64.wrap (a * b) else (0 : Int)) ≤ (4611686018427387904 : Int))
                  else false)
                (Tree.leaf
                  { val := AV.tup [AV.v (Value.int IntKind.i64 (0 : Int)), AV.v (Value.int IntKind.i64 (10 : Int))],
                    H := [] })
                (Tree.br false
                  (Tree.chk false
                    (Tree.br
                      (!bif
                            decide
                              ((-4611686018427387904 : Int) ≤
                                bif false then IntKind.i64.wrap (a * b) else (0 : Int)) then
                          decide
                            ((bif false then IntKind.i64.wrap (a * b) else (0 : Int)) ≤ (4611686018427387904 : Int))
                        else false)
                      (Tree.leaf
                        {
                          val :=
                            AV.tup [AV.v (Value.int IntKind.i64 (0 : Int)), AV.v (Value.int IntKind.i64 (10 : Int))],
                          H := [] })
                      (Tree.br false
                        (Tree.chk false
                          (Tree.br
                            (!bif
                                  decide
                                    ((-4611686018427387904 : Int) ≤
                                      bif false then IntKind.i64.wrap (a * b) else (0 : Int)) then
                                decide
                                  ((bif false then IntKind.i64.wrap (a * b) else (0 : Int)) ≤
                                    (4611686018427387904 : Int))
                              else false)
                            (Tree.leaf
                              {
                                val :=
                                  AV.tup
                                    [AV.v (Value.int IntKind.i64 (0 : Int)), AV.v (Value.int IntKind.i64 (10 : Int))],
                                H := [] })
                            Tree.fail))
                        (Tree.leaf
                          {
                            val :=
                              AV.tup
                                [AV.v (Value.int IntKind.i64 (IntKind.i64.wrap (a * b))),
                                  AV.v (Value.int IntKind.i64 (0 : Int))],
                            H := [] }))))
                  (Tree.leaf
                    {
                      val :=
                        AV.tup
                          [AV.v (Value.int IntKind.i64 (IntKind.i64.wrap (a * b))),
                            AV.v (Value.int IntKind.i64 (0 : Int))],
                      H := [] }))))
            (Tree.leaf
              {
                val :=
                  AV.tup
                    [AV.v (Value.int IntKind.i64 (IntKind.i64.wrap (a * b))), AV.v (Value.int IntKind.i64 (0 : Int))],
                H := [] })))
        (Tree.br
          (!decide
              (a ≤
                bif decide (b < (0 : Int)) then
                  IntKind.i64.wrap (Int.tdiv (4611686018427387904 : Int) (IntKind.i64.wrap ((0 : Int) - b)))
                else IntKind.i64.wrap (Int.tdiv (4611686018427387904 : Int) b)))
          (Tree.leaf
            { val := AV.tup [AV.v (Value.int IntKind.i64 (0 : Int)), AV.v (Value.int IntKind.i64 (10 : Int))],
              H := [] })
          (Tree.br true
            (Tree.chk true
              (Tree.br
                (!bif decide ((-4611686018427387904 : Int) ≤ bif true then IntKind.i64.wrap (a * b) else (0 : Int)) then
                    decide ((bif true then IntKind.i64.wrap (a * b) else (0 : Int)) ≤ (4611686018427387904 : Int))
                  else false)
                (Tree.leaf
                  { val := AV.tup [AV.v (Value.int IntKind.i64 (0 : Int)), AV.v (Value.int IntKind.i64 (10 : Int))],
                    H := [] })
                (Tree.br false
                  (Tree.chk false
                    (Tree.br
                      (!bif
                            decide
                              ((-4611686018427387904 : Int) ≤
                                bif false then IntKind.i64.wrap (a * b) else (0 : Int)) then
                          decide
                            ((bif false then IntKind.i64.wrap (a * b) else (0 : Int)) ≤ (4611686018427387904 : Int))
                        else false)
                      (Tree.leaf
                        {
                          val :=
                            AV.tup [AV.v (Value.int IntKind.i64 (0 : Int)), AV.v (Value.int IntKind.i64 (10 : Int))],
                          H := [] })
                      (Tree.br false
                        (Tree.chk false
                          (Tree.br
                            (!bif
                                  decide
                                    ((-4611686018427387904 : Int) ≤
                                      bif false then IntKind.i64.wrap (a * b) else (0 : Int)) then
                                decide
                                  ((bif false then IntKind.i64.wrap (a * b) else (0 : Int)) ≤
                                    (4611686018427387904 : Int))
                              else false)
                            (Tree.leaf
                              {
                                val :=
                                  AV.tup
                                    [AV.v (Value.int IntKind.i64 (0 : Int)), AV.v (Value.int IntKind.i64 (10 : Int))],
                                H := [] })
                            Tree.fail))
                        (Tree.leaf
                          {
                            val :=
                              AV.tup
                                [AV.v (Value.int IntKind.i64 (IntKind.i64.wrap (a * b))),
                                  AV.v (Value.int IntKind.i64 (0 : Int))],
                            H := [] }))))
                  (Tree.leaf
                    {
                      val :=
                        AV.tup
                          [AV.v (Value.int IntKind.i64 (IntKind.i64.wrap (a * b))),
                            AV.v (Value.int IntKind.i64 (0 : Int))],
                      H := [] }))))
            (Tree.leaf
              {
                val :=
                  AV.tup
                    [AV.v (Value.int IntKind.i64 (IntKind.i64.wrap (a * b))), AV.v (Value.int IntKind.i64 (0 : Int))],
                H := [] })))))) := by kernel_rfl
theorem run20 (T0 : List (CT Try.prog Γu)) (pre : Int → Int → Bool) (p q : Int → Int → Int) (hs : ∀ a b, pre a b = true → Gives (bodyE T0 Lno false 70 [.tmp 4, .tmp 5] (bodyOf Try.f20) [.v (.int .i64 a), .v (.int .i64 b)] []) (.tup [.v (.int .i64 (p a b)), .v (.int .i64 (q a b))])) (a b : Int) : bodyE (P := Try.prog) (Γ := Γu) [S.c25, mulP T0 pre (fun a b => .tup [.v (.int .i64 (p a b)), .v (.int .i64 (q a b))]) hs, c16'] Lno false 70 [.tmp 4, .tmp 5] (bodyOf Try.f20) [.v (.int .i64 a), .v (.int .i64 b)] [] =
  Tree.br
  (bif !bif decide ((-4611686018427387904 : Int) ≤ a) then decide (a ≤ (4611686018427387904 : Int)) else false then true
  else !bif decide ((-4611686018427387904 : Int) ≤ b) then decide (b ≤ (4611686018427387904 : Int)) else false)
  (Tree.leaf
    { val := AV.tup [AV.v (Value.int IntKind.i64 (0 : Int)), AV.v (Value.int IntKind.i64 (10 : Int))], H := [] })
  (Tree.br (decide (b < (0 : Int)))
    (Tree.chk (true && pre a (IntKind.i64.wrap ((0 : Int) - b)))
      (Tree.leaf
        {
          val :=
            AV.tup
              [AV.v (Value.int IntKind.i64 (IntKind.i64.wrap ((0 : Int) - p a (IntKind.i64.wrap ((0 : Int) - b))))),
                AV.v (Value.int IntKind.i64 (q a (IntKind.i64.wrap ((0 : Int) - b))))],
          H := [] }))
    (Tree.br (bif decide (b = (0 : Int)) then true else decide (a = (0 : Int)))
      (Tree.leaf
        { val := AV.tup [AV.v (Value.int IntKind.i64 (0 : Int)), AV.v (Value.int IntKind.i64 (0 : Int))], H := [] })
      (Tree.br (decide (b = (1 : Int)))
        (Tree.leaf { val := AV.tup [AV.v (Value.int IntKind.i64 a), AV.v (Value.int IntKind.i64 (0 : Int))], H := [] })
        (Tree.chk (true && (true && pre a (IntKind.i64.wrap (b.tdiv (2 : Int)))))
          (Tree.br (!decide (q a (IntKind.i64.wrap (b.tdiv (2 : Int))) = (0 : Int)))
            (Tree.leaf
              {
                val :=
                  AV.tup
                    [AV.v (Value.int IntKind.i64 (0 : Int)),
                      AV.v (Value.int IntKind.i64 (q a (IntKind.i64.wrap (b.tdiv (2 : Int)))))],
                H := [] })
            (Tree.chk (true && true)
              (Tree.chk
                (bif
                    decide
                      (addE (p a (IntKind.i64.wrap (b.tdiv (2 : Int)))) (p a (IntKind.i64.wrap (b.tdiv (2 : Int)))) =
                        (0 : Int)) then
                  true
                else true)
                (Tree.br
                  (bif
                      decide
                        (addE (p a (IntKind.i64.wrap (b.tdiv (2 : Int)))) (p a (IntKind.i64.wrap (b.tdiv (2 : Int)))) =
                          (0 : Int)) then
                    decide (b.tmod (2 : Int) = (1 : Int))
                  else false)
                  (Tree.chk (true && true)
                    (Tree.leaf
                      {
                        val :=
                          AV.tup
                            [AV.v
                                (Value.int IntKind.i64
                                  (addF
                                    (addF (p a (IntKind.i64.wrap (b.tdiv (2 : Int))))
                                      (p a (IntKind.i64.wrap (b.tdiv (2 : Int)))))
                                    a)),
                              AV.v
                                (Value.int IntKind.i64
                                  (addE
                                    (addF (p a (IntKind.i64.wrap (b.tdiv (2 : Int))))
                                      (p a (IntKind.i64.wrap (b.tdiv (2 : Int)))))
                                    a))],
                        H := [] }))
                  (Tree.leaf
                    {
                      val :=
                        AV.tup
                          [AV.v
                              (Value.int IntKind.i64
                                (addF (p a (IntKind.i64.wrap (b.tdiv (2 : Int))))
                                  (p a (IntKind.i64.wrap (b.tdiv (2 : Int)))))),
                            AV.v
                              (Value.int IntKind.i64
                                (addE (p a (IntKind.i64.wrap (b.tdiv (2 : Int))))
                                  (p a (IntKind.i64.wrap (b.tdiv (2 : Int))))))],
                      H := [] }))))))))) := by kernel_rfl

def subF (a b : Int) : Int := bif inN a && inN b && inN (a - b) then a - b else 0
def subE (a b : Int) : Int := bif inN a && inN b && inN (a - b) then 0 else 10
theorem sub_add {a b : Int} (hb : inN b = true) : addF a (-b) = subF a b ∧ addE a (-b) = subE a b := by
  have h1 : inN (-b) = inN b := by rw [hb]; have := inN_iff.1 hb; exact inN_iff.2 ⟨by omega, by omega⟩
  unfold addF addE subF subE addOk
  rw [h1, show a + -b = a - b by omega]
  exact ⟨rfl, rfl⟩
theorem law17 (a b : Int) : Gives (bodyE (P := Try.prog) (Γ := Γu) [d23, d24, c15'] Lno false 19 [.tmp 4, .tmp 5] (bodyOf Try.f17) [.v (.int .i64 a), .v (.int .i64 b)] []) (.tup [.v (.int .i64 (subF a b)), .v (.int .i64 (subE a b))]) := ⟨by
  rw [run17]
  cases hb : inN b with
  | true =>
    have h := inN_iff.1 hb
    have e : IntKind.i64.wrap (-b) = -b := by rw [wrapE]; omega
    obtain ⟨f, g⟩ := sub_add (a := a) hb
    simp [h.1, h.2, e, f, g, le_tup2]
  | false =>
    have h : ¬ (-4611686018427387904 ≤ b ∧ b ≤ 4611686018427387904) := fun h => by rw [inN_iff.2 h] at hb; exact absurd hb (by decide)
    have f : subF a b = 0 ∧ subE a b = 10 := by simp [subF, subE, hb]
    rw [f.1, f.2]
    by_cases h1 : -4611686018427387904 ≤ b
    · have h2 : ¬ b ≤ 4611686018427387904 := fun h2 => h ⟨h1, h2⟩
      simp [h1, h2, le_tup2]
    · simp [h1, le_tup2]⟩
theorem law18 (a b : Int) : Gives (bodyE (P := Try.prog) (Γ := Γu) [S.c25] Lno false 37 [.tmp 4, .tmp 5] (bodyOf Try.f18) [.v (.int .i64 a), .v (.int .i64 b)] []) (.tup [.v (.int .i64 (subF a b)), .v (.int .i64 (subE a b))]) := ⟨by
  rw [run18]
  have hx : (inN a && inN b && inN (a - b)) = true ↔ ((-4611686018427387904 ≤ a ∧ a ≤ 4611686018427387904) ∧ (-4611686018427387904 ≤ b ∧ b ≤ 4611686018427387904) ∧ (-4611686018427387904 ≤ a - b ∧ a - b ≤ 4611686018427387904)) := by simp [inN]; omega
  cases h : (inN a && inN b && inN (a - b)) with
  | true =>
    have h' := hx.1 h
    have e1 : subF a b = a - b := by unfold subF; rw [h]; rfl
    have e2 : subE a b = 0 := by unfold subE; rw [h]; rfl
    rw [e1, e2]
    by_cases hb : 0 < b <;> by_cases hc : b < 0 <;> simp [hb, hc, le_tup2, wrapE] <;> (try omega) <;> (and_intros <;> intros <;> omega)
  | false =>
    have h' := mt hx.2 (by rw [h]; exact Bool.false_ne_true)
    have e1 : subF a b = 0 := by unfold subF; rw [h]; rfl
    have e2 : subE a b = 10 := by unfold subE; rw [h]; rfl
    rw [e1, e2]
    by_cases hb : 0 < b <;> by_cases hc : b < 0 <;> simp [hb, hc, le_tup2, wrapE] <;> (try omega) <;> (and_intros <;> intros <;> omega)⟩
end Go.Eng.U

/- num: products by halves: the document's Mul. -/
namespace Go.Eng.U
open Go Go.Eng Go.Proofs Go.Eng.M
set_option linter.unusedSimpArgs false
set_option linter.unusedVariables false
def mulOk (a b : Int) : Bool := inN a && inN b && inN (a * b)
def mulF (a b : Int) : Int := bif mulOk a b then a * b else 0
def mulE (a b : Int) : Int := bif mulOk a b then 0 else 10
theorem mul_of {a b x : Int} (ha : inN a = true) (hb : inN b = true) (hx : a * b = x) : mulF a b = (if (-4611686018427387904 ≤ x ∧ x ≤ 4611686018427387904) then x else 0) ∧ mulE a b = (if (-4611686018427387904 ≤ x ∧ x ≤ 4611686018427387904) then 0 else 10) := by
  subst hx
  unfold mulF mulE mulOk
  rw [ha, hb]
  by_cases h : (-4611686018427387904 ≤ a * b ∧ a * b ≤ 4611686018427387904)
  · rw [inN_iff.2 h, if_pos h, if_pos h]; exact ⟨rfl, rfl⟩
  · have : inN (a * b) = false := by
      cases hh : inN (a * b) with
      | false => rfl
      | true => exact absurd (inN_iff.1 hh) h
    rw [this, if_neg h, if_neg h]; exact ⟨rfl, rfl⟩
theorem mul_no {a b : Int} (h : (inN a && inN b) = false) : mulF a b = 0 ∧ mulE a b = 10 := by
  unfold mulF mulE mulOk
  rw [h]; exact ⟨rfl, rfl⟩
theorem add_of {a b : Int} (ha : inN a = true) (hb : inN b = true) : addF a b = (if (-4611686018427387904 ≤ a + b ∧ a + b ≤ 4611686018427387904) then a + b else 0) ∧ addE a b = (if (-4611686018427387904 ≤ a + b ∧ a + b ≤ 4611686018427387904) then 0 else 10) := by
  unfold addF addE addOk
  rw [ha, hb]
  by_cases h : (-4611686018427387904 ≤ a + b ∧ a + b ≤ 4611686018427387904)
  · rw [inN_iff.2 h, if_pos h, if_pos h]; exact ⟨rfl, rfl⟩
  · have : inN (a + b) = false := by
      cases hh : inN (a + b) with
      | false => rfl
      | true => exact absurd (inN_iff.1 hh) h
    rw [this, if_neg h, if_neg h]; exact ⟨rfl, rfl⟩
/-- the half and its product -/
theorem half {a b : Int} (hb : 2 ≤ b) : ∃ h r : Int, b.tdiv 2 = h ∧ b.tmod 2 = r ∧ b = 2 * h + r ∧ (r = 0 ∨ r = 1) ∧ 1 ≤ h ∧ a * b = 2 * (a * h) + r * a ∧ (0 < a → a ≤ a * h) ∧ (a < 0 → a * h ≤ a) ∧ (a = 0 → a * h = 0) := by
  refine ⟨b / 2, b % 2, Int.tdiv_eq_ediv_of_nonneg (by omega), Int.tmod_eq_emod_of_nonneg (by omega), by omega, by omega, by omega, ?_, fun ha => ?_, fun ha => ?_, fun ha => by rw [ha, Int.zero_mul]⟩
  · have e : b = 2 * (b / 2) + b % 2 := by omega
    calc a * b = a * (2 * (b / 2) + b % 2) := by rw [← e]
      _ = 2 * (a * (b / 2)) + b % 2 * a := by rw [Int.mul_add, Int.mul_left_comm, Int.mul_comm a (b % 2)]
  · have := Int.mul_le_mul_of_nonneg_left (show 1 ≤ b / 2 by omega) (Int.le_of_lt ha)
    rwa [Int.mul_one] at this
  · have := Int.mul_le_mul_of_nonpos_left (Int.le_of_lt ha) (show 1 ≤ b / 2 by omega)
    rwa [Int.mul_one] at this
def GM (a b : Int) : AV := .tup [.v (.int .i64 (mulF a b)), .v (.int .i64 (mulE a b))]
theorem lawMul (T0 : List (CT Try.prog Γu)) (pre : Int → Int → Bool) (hs : ∀ a b, pre a b = true → Gives (bodyE T0 Lno false 70 [.tmp 4, .tmp 5] (bodyOf Try.f20) [.v (.int .i64 a), .v (.int .i64 b)] []) (.tup [.v (.int .i64 (mulF a b)), .v (.int .i64 (mulE a b))])) (a b : Int)
    (h1 : inN b = true → b < 0 → pre a (-b) = true) (h2 : inN b = true → 2 ≤ b → pre a (b.tdiv 2) = true) :
    Gives (bodyE (P := Try.prog) (Γ := Γu) [S.c25, mulP T0 pre (fun a b => .tup [.v (.int .i64 (mulF a b)), .v (.int .i64 (mulE a b))]) hs, c16'] Lno false 70 [.tmp 4, .tmp 5] (bodyOf Try.f20) [.v (.int .i64 a), .v (.int .i64 b)] []) (.tup [.v (.int .i64 (mulF a b)), .v (.int .i64 (mulE a b))]) := ⟨by
  rw [run20]
  cases hab : (inN a && inN b) with
  | false =>
    obtain ⟨e1, e2⟩ := mul_no hab
    rw [e1, e2]
    have : (bif !bif decide ((-4611686018427387904 : Int) ≤ a) then decide (a ≤ (4611686018427387904 : Int)) else false then true
      else !bif decide ((-4611686018427387904 : Int) ≤ b) then decide (b ≤ (4611686018427387904 : Int)) else false) = true := by
      have e : (bif !bif decide ((-4611686018427387904 : Int) ≤ a) then decide (a ≤ (4611686018427387904 : Int)) else false then true
        else !bif decide ((-4611686018427387904 : Int) ≤ b) then decide (b ≤ (4611686018427387904 : Int)) else false) = !(inN a && inN b) := by
        unfold inN
        cases decide ((-4611686018427387904 : Int) ≤ a) <;> cases decide (a ≤ (4611686018427387904 : Int)) <;> cases decide ((-4611686018427387904 : Int) ≤ b) <;> cases decide (b ≤ (4611686018427387904 : Int)) <;> rfl
      rw [e, hab]; rfl
    rw [this]
    simp only [Tree.sat_br, Tree.sat_leaf, LeH_nil, and_true, le_tup2]
    exact ⟨fun _ => trivial, fun h => absurd h (by decide)⟩
  | true =>
    simp only [Bool.and_eq_true] at hab
    obtain ⟨ha, hb⟩ := hab
    have ha' := inN_iff.1 ha
    have hb' := inN_iff.1 hb
    have hin : (bif !bif decide ((-4611686018427387904 : Int) ≤ a) then decide (a ≤ (4611686018427387904 : Int)) else false then true
      else !bif decide ((-4611686018427387904 : Int) ≤ b) then decide (b ≤ (4611686018427387904 : Int)) else false) = false := by
      rw [decide_eq_true ha'.1, decide_eq_true ha'.2, decide_eq_true hb'.1, decide_eq_true hb'.2]; rfl
    rw [hin]
    simp only [Tree.sat_br, Tree.sat_leaf, Tree.sat_chk, LeH_nil, and_true, le_tup2, decide_eq_true_eq, decide_eq_false_iff_not, Bool.and_eq_true, true_and]
    refine ⟨fun h => absurd h (by decide), fun _ => ⟨fun hneg => ?_, fun hpos => ⟨fun hz => ?_, fun hnz => ⟨fun h1' => ?_, fun hn1 => ?_⟩⟩⟩⟩
    · have e : IntKind.i64.wrap (0 - b) = -b := by rw [wrapE]; omega
      rw [e]
      have hnb : inN (-b) = true := inN_iff.2 ⟨by omega, by omega⟩
      obtain ⟨k1, k2⟩ := mul_of ha hnb (x := -(a * b)) (by rw [Int.mul_neg])
      obtain ⟨k3, k4⟩ := mul_of ha hb rfl
      refine ⟨h1 hb hneg, ?_⟩
      rw [k1, k2, k3, k4]
      generalize a * b = x
      rw [wrapE]
      constructor <;> (repeat' split) <;> omega
    · have hz' : b = 0 ∨ a = 0 := by
        by_cases h0 : b = 0
        · exact .inl h0
        · rw [decide_eq_false h0] at hz; exact .inr (of_decide_eq_true hz)
      obtain ⟨k3, k4⟩ := mul_of ha hb (x := 0) (by rcases hz' with h0 | h0 <;> rw [h0] <;> simp)
      rw [k3, k4]; decide
    · obtain ⟨k3, k4⟩ := mul_of ha hb (x := a) (by rw [h1', Int.mul_one])
      rw [k3, k4, if_pos ha', if_pos ha']; exact ⟨rfl, rfl⟩
    · have hb0 : b ≠ 0 := fun h0 => by rw [decide_eq_true h0] at hnz; simp at hnz
      have ha0 : a ≠ 0 := fun h0 => by rw [decide_eq_false hb0, decide_eq_true h0] at hnz; simp at hnz
      obtain ⟨h, r, e1, e2, e3, e4, e5, e6, e7, e8, _⟩ := half (a := a) (b := b) (by omega)
      have hh : inN h = true := inN_iff.2 ⟨by omega, by omega⟩
      have hp := h2 hb (by omega)
      rw [e1] at hp ⊢
      have ew : IntKind.i64.wrap h = h := by rw [wrapE]; omega
      rw [ew, e2]
      obtain ⟨k1, k2⟩ := mul_of ha hh (x := a * h) rfl
      obtain ⟨k3, k4⟩ := mul_of ha hb (x := 2 * (a * h) + r * a) e6
      have er : r * a = (if r = 0 then 0 else a) := by rcases e4 with rfl | rfl <;> simp
      rw [er] at k3 k4
      rw [k1, k2, k3, k4]
      generalize a * h = x at e7 e8
      refine ⟨hp, ?_⟩
      by_cases c1 : (-4611686018427387904 ≤ x ∧ x ≤ 4611686018427387904)
      · have hx : inN x = true := inN_iff.2 c1
        obtain ⟨k5, k6⟩ := add_of hx hx
        simp only [if_pos c1]
        rw [k5, k6]
        refine ⟨fun h0 => by simp at h0, fun _ => ⟨by simp, fun hc => ?_, fun hc => ?_⟩⟩
        · by_cases c2 : (-4611686018427387904 ≤ x + x ∧ x + x ≤ 4611686018427387904)
          · simp only [if_pos c2] at hc ⊢
            have hr : r = 1 := by
              simpa using hc
            subst hr
            obtain ⟨k7, k8⟩ := add_of (inN_iff.2 c2) ha
            rw [k7, k8]
            simp only [show ¬ ((1 : Int) = 0) by decide, if_false]
            constructor <;> (repeat' split) <;> omega
          · simp only [if_neg c2] at hc
            exact absurd hc (by simp)
        · by_cases c2 : (-4611686018427387904 ≤ x + x ∧ x + x ≤ 4611686018427387904)
          · simp only [if_pos c2] at hc ⊢
            have hr : r = 0 := by
              have : ¬ r = 1 := by simpa using hc
              omega
            subst hr
            simp only [if_true]
            constructor <;> (repeat' split) <;> omega
          · simp only [if_neg c2]
            rcases e4 with rfl | rfl
            · simp only [if_true]
              constructor <;> (repeat' split) <;> omega
            · simp only [show ¬ ((1 : Int) = 0) by decide, if_false]
              constructor <;> (repeat' split) <;> omega
      · simp only [if_neg c1]
        refine ⟨fun _ => ?_, fun h0 => absurd h0 (by simp)⟩
        rcases e4 with rfl | rfl <;> simp <;> omega⟩
/-- a level of the recursion: what stands below, and what it answers where b lies within k bits -/
def preK (k : Nat) (a b : Int) : Bool := decide (0 ≤ b) && decide (b < 2 ^ k)
noncomputable def mulT : (k : Nat) → { T0 : List (CT Try.prog Γu) // ∀ a b, preK k a b = true → Gives (bodyE T0 Lno false 70 [.tmp 4, .tmp 5] (bodyOf Try.f20) [.v (.int .i64 a), .v (.int .i64 b)] []) (.tup [.v (.int .i64 (mulF a b)), .v (.int .i64 (mulE a b))]) }
  | 0 => ⟨[S.c25, mulP [] (fun _ _ => false) (fun a b => .tup [.v (.int .i64 (mulF a b)), .v (.int .i64 (mulE a b))]) (fun _ _ h => absurd h (by decide)), c16'], fun a b h => lawMul _ _ _ a b (fun _ hb => by
      simp only [preK, Bool.and_eq_true, decide_eq_true_eq] at h; omega) (fun _ hb => by
      simp only [preK, Bool.and_eq_true, decide_eq_true_eq] at h
      have : (2 : Int) ^ 0 = 1 := rfl
      omega)⟩
  | k + 1 => ⟨[S.c25, mulP (mulT k).1 (preK k) (fun a b => .tup [.v (.int .i64 (mulF a b)), .v (.int .i64 (mulE a b))]) (mulT k).2, c16'], fun a b h => lawMul _ _ _ a b (fun _ hb => by
      simp only [preK, Bool.and_eq_true, decide_eq_true_eq] at h; omega) (fun _ hb => by
      simp only [preK, Bool.and_eq_true, decide_eq_true_eq] at h ⊢
      rw [Int.tdiv_eq_ediv_of_nonneg (by omega)]
      have e : (2 : Int) ^ (k + 1) = 2 * 2 ^ k := by rw [Int.pow_succ, Int.mul_comm]
      rw [e] at h
      omega)⟩
noncomputable def c20' : CT Try.prog Γu := mulP [S.c25, mulP (mulT 63).1 (preK 63) (fun a b => .tup [.v (.int .i64 (mulF a b)), .v (.int .i64 (mulE a b))]) (mulT 63).2, c16'] (fun _ _ => true) (fun a b => .tup [.v (.int .i64 (mulF a b)), .v (.int .i64 (mulE a b))])
  (fun a b _ => lawMul _ _ _ a b (fun hin hb => by
      have h := inN_iff.1 hin
      simp only [preK, Bool.and_eq_true, decide_eq_true_eq]
      have e : (2 : Int) ^ 63 = 9223372036854775808 := by decide
      rw [e]; omega) (fun hin hb => by
      have h := inN_iff.1 hin
      simp only [preK, Bool.and_eq_true, decide_eq_true_eq]
      have e : (2 : Int) ^ 63 = 9223372036854775808 := by decide
      rw [e, Int.tdiv_eq_ediv_of_nonneg (by omega)]; omega))
end Go.Eng.U

/- num: products: the program's Mul. -/
namespace Go.Eng.U
open Go Go.Eng Go.Proofs Go.Eng.M
set_option linter.unusedSimpArgs false
set_option linter.unusedVariables false
theorem quo_iff {u v : Int} (hv : 0 < v) : (u ≤ Int.tdiv 4611686018427387904 v) = (u * v ≤ 4611686018427387904) := by
  rw [Int.tdiv_eq_ediv_of_nonneg (by decide)]
  exact propext (Int.le_ediv_iff_mul_le hv)
theorem quo_wrap {v : Int} (hv : 0 < v) : IntKind.i64.wrap (Int.tdiv 4611686018427387904 v) = Int.tdiv 4611686018427387904 v := by
  rw [Int.tdiv_eq_ediv_of_nonneg (by decide), wrapE]
  have h1 : (4611686018427387904 : Int) / v ≤ 4611686018427387904 := Int.ediv_le_self _ (by decide)
  have h2 : 0 ≤ (4611686018427387904 : Int) / v := Int.ediv_nonneg (by decide) (by omega)
  omega
theorem law19 (a b : Int) : Gives (bodyE (P := Try.prog) (Γ := Γu) [d23, d24, d26] Lno false 34 [.tmp 4, .tmp 5] (bodyOf Try.f19) [.v (.int .i64 a), .v (.int .i64 b)] []) (.tup [.v (.int .i64 (mulF a b)), .v (.int .i64 (mulE a b))]) := ⟨by
  rw [run19]
  cases hab : (inN a && inN b) with
  | false =>
    obtain ⟨e1, e2⟩ := mul_no hab
    rw [e1, e2]
    have h : ¬ ((-4611686018427387904 ≤ a ∧ a ≤ 4611686018427387904) ∧ (-4611686018427387904 ≤ b ∧ b ≤ 4611686018427387904)) := fun h => by
      rw [inN_iff.2 h.1, inN_iff.2 h.2] at hab; exact absurd hab (by decide)
    by_cases g1 : -4611686018427387904 ≤ a
    · by_cases g2 : a ≤ 4611686018427387904
      · by_cases g3 : -4611686018427387904 ≤ b
        · have g4 : ¬ b ≤ 4611686018427387904 := fun g4 => h ⟨⟨g1, g2⟩, g3, g4⟩
          simp [g1, g2, g3, g4, le_tup2]
        · simp [g1, g2, g3, le_tup2]
      · simp [g1, g2, le_tup2]
    · simp [g1, le_tup2]
  | true =>
    simp only [Bool.and_eq_true] at hab
    obtain ⟨ha, hb⟩ := hab
    have ha' := inN_iff.1 ha
    have hb' := inN_iff.1 hb
    obtain ⟨k3, k4⟩ := mul_of ha hb rfl
    rw [k3, k4]
    by_cases a0 : a = 0
    · subst a0; simp [hb'.1, hb'.2, le_tup2]
    by_cases b0 : b = 0
    · subst b0; simp [ha'.1, ha'.2, le_tup2]
    by_cases bn : b < 0
    · have e1 : IntKind.i64.wrap (-b) = -b := by rw [wrapE]; omega
      have q1 := quo_wrap (v := -b) (by omega)
      by_cases an : a < 0
      · have e2 : IntKind.i64.wrap (-a) = -a := by rw [wrapE]; omega
        have q2 := quo_iff (u := -a) (v := -b) (by omega)
        rw [Int.neg_mul_neg] at q2
        have hy := Int.mul_pos_of_neg_of_neg an bn
        generalize a * b = y at q2 hy
        simp only [ha'.1, ha'.2, hb'.1, hb'.2, a0, b0, bn, an, decide_true, decide_false, cond_true, cond_false, Bool.not_true, Bool.not_false, Int.zero_sub, e1, e2, q1, q2]
        by_cases c : y ≤ 4611686018427387904
        · simp [c, le_tup2, wrapE, b0] <;> (try omega) <;> (and_intros <;> intros <;> (try split) <;> omega)
        · simp [c, le_tup2, wrapE, b0] <;> (try omega) <;> (and_intros <;> intros <;> (try split) <;> omega)
      · have q2 := quo_iff (u := a) (v := -b) (by omega)
        rw [Int.mul_neg] at q2
        have hy := Int.mul_neg_of_pos_of_neg (show 0 < a by omega) bn
        generalize a * b = y at q2 hy
        simp only [ha'.1, ha'.2, hb'.1, hb'.2, a0, b0, bn, an, decide_true, decide_false, cond_true, cond_false, Bool.not_true, Bool.not_false, Int.zero_sub, e1, q1, q2]
        by_cases c : -y ≤ 4611686018427387904
        · simp [c, le_tup2, wrapE, b0] <;> (try omega) <;> (and_intros <;> intros <;> (try split) <;> omega)
        · simp [c, le_tup2, wrapE, b0] <;> (try omega) <;> (and_intros <;> intros <;> (try split) <;> omega)
    · have q1 := quo_wrap (v := b) (by omega)
      by_cases an : a < 0
      · have e2 : IntKind.i64.wrap (-a) = -a := by rw [wrapE]; omega
        have q2 := quo_iff (u := -a) (v := b) (by omega)
        rw [Int.neg_mul] at q2
        have hy := Int.mul_neg_of_neg_of_pos an (show 0 < b by omega)
        generalize a * b = y at q2 hy
        simp only [ha'.1, ha'.2, hb'.1, hb'.2, a0, b0, bn, an, decide_true, decide_false, cond_true, cond_false, Bool.not_true, Bool.not_false, Int.zero_sub, e2, q1, q2]
        by_cases c : -y ≤ 4611686018427387904
        · simp [c, le_tup2, wrapE, b0] <;> (try omega) <;> (and_intros <;> intros <;> (try split) <;> omega)
        · simp [c, le_tup2, wrapE, b0] <;> (try omega) <;> (and_intros <;> intros <;> (try split) <;> omega)
      · have q2 := quo_iff (u := a) (v := b) (by omega)
        have hy := Int.mul_pos (show 0 < a by omega) (show 0 < b by omega)
        generalize a * b = y at q2 hy
        simp only [ha'.1, ha'.2, hb'.1, hb'.2, a0, b0, bn, an, decide_true, decide_false, cond_true, cond_false, Bool.not_true, Bool.not_false, Int.zero_sub, q1, q2]
        by_cases c : y ≤ 4611686018427387904
        · simp [c, le_tup2, wrapE, b0] <;> (try omega) <;> (and_intros <;> intros <;> (try split) <;> omega)
        · simp [c, le_tup2, wrapE, b0] <;> (try omega) <;> (and_intros <;> intros <;> (try split) <;> omega)⟩
end Go.Eng.U

/- NumDoes: contracts. -/
namespace Go.Eng.U
open Go Go.Eng Go.Proofs Go.Eng.M
set_option linter.unusedSimpArgs false
set_option linter.unusedVariables false
noncomputable def c17' : CT Try.prog Γu := CT.val2 17 Try.f17 (bodyOf Try.f17) [d23, d24, c15'] Lno false 19 [.tmp 4, .tmp 5] .i64 .i64 (fun _ _ => true) (fun a b => .tup [.v (.int .i64 (subF a b)), .v (.int .i64 (subE a b))]) Try.func17 (by kernel_rfl) (by kernel_rfl) (by kernel_rfl) (by kernel_rfl) (by decide) (noLoops (by kernel_rfl)) (fun a b _ => law17 a b)
noncomputable def c18' : CT Try.prog Γu := CT.val2 18 Try.f18 (bodyOf Try.f18) [S.c25] Lno false 37 [.tmp 4, .tmp 5] .i64 .i64 (fun _ _ => true) (fun a b => .tup [.v (.int .i64 (subF a b)), .v (.int .i64 (subE a b))]) Try.func18 (by kernel_rfl) (by kernel_rfl) (by kernel_rfl) (by kernel_rfl) (by decide) (noLoops (by kernel_rfl)) (fun a b _ => law18 a b)
noncomputable def c19' : CT Try.prog Γu := CT.val2 19 Try.f19 (bodyOf Try.f19) [d23, d24, d26] Lno false 34 [.tmp 4, .tmp 5] .i64 .i64 (fun _ _ => true) (fun a b => .tup [.v (.int .i64 (mulF a b)), .v (.int .i64 (mulE a b))]) Try.func19 (by kernel_rfl) (by kernel_rfl) (by kernel_rfl) (by kernel_rfl) (by decide) (noLoops (by kernel_rfl)) (fun a b _ => law19 a b)
end Go.Eng.U

/- NumBack: the rounds. -/
namespace Go.Eng.U
open Go Go.Eng Go.Eng.M Go.Lib Go.Proofs
set_option linter.unusedSimpArgs false
set_option linter.unusedVariables false
noncomputable abbrev lpS : Code := loopOf (bodyOf Try.f13) 0
abbrev lvS : List Nat := [2, 3, 4, 8, 9, 10]
def cA (a : Int) : Nat → List AV := fun _ => [.v (.int .i64 a)]
def SSu (a : Int) (n i : Nat) : List AV × Heap := ([.any, .any, .v (.int .i64 ((i : Int) * a)), .hs 0 0 n, .v (.int .i64 (n : Int)), .v (.int .i64 (i : Int))], [some (.arr 1 n (cA a))])
theorem rSu (a : Int) (n i : Nat) : roundE (P := Try.prog) (Γ := Γu) [c15'] Lno false 1 0 lpS lvS [] 25 (SSu a n i).1 (SSu a n i).2 =
  Tree.br (decide ((↑i : Int) < (↑n : Int))) (Tree.chk (decide ((0 : Int) ≤ (↑i : Int)) && decide ((↑i : Int) < (↑n : Int))) (Tree.chk true (Tree.br (!decide (addE ((↑i : Int) * a) a = (0 :
    Int))) (Tree.leaf (Out.mk AEx.ret [AV.v (Value.int IntKind.i64 (0 : Int)), AV.v (Value.int IntKind.i64 (addE ((↑i : Int) * a) a)), AV.v (Value.int IntKind.i64 (addF ((↑i : Int) * a) a)),
    AV.hs (0 : Nat) (0 : Nat) n, AV.v (Value.int IntKind.i64 (↑n : Int)), AV.v (Value.int IntKind.i64 (↑i : Int))] [some (Blk.arr (1 : Nat) n fun x => [AV.v (Value.int IntKind.i64 a)])]))
    (Tree.leaf (Out.mk AEx.normal [AV.any, AV.any, AV.v (Value.int IntKind.i64 (addF ((↑i : Int) * a) a)), AV.hs (0 : Nat) (0 : Nat) n, AV.v (Value.int IntKind.i64 (↑n : Int)), AV.v
    (Value.int IntKind.i64 (IntKind.wrap IntKind.i64 ((↑i : Int) + (1 : Int))))] [some (Blk.arr (1 : Nat) n fun x => [AV.v (Value.int IntKind.i64 a)])]))))) (Tree.leaf (Out.mk (AEx.exit (0 :
    Nat)) [AV.any, AV.any, AV.v (Value.int IntKind.i64 ((↑i : Int) * a)), AV.hs (0 : Nat) (0 : Nat) n, AV.v (Value.int IntKind.i64 (↑n : Int)), AV.v (Value.int IntKind.i64 (↑i : Int))] [some
    (Blk.arr (1 : Nat) n fun x => [AV.v (Value.int IntKind.i64 a)])])) := by kernel_rfl
def retSu (a : Int) (n : Nat) : Out := ⟨.ret, [.v (.int .i64 0), .v (.int .i64 10), .any, .any, .any, .any], [some (.arr 1 n (cA a))]⟩
def endSu (a : Int) (n : Nat) : Out := ⟨.exit 0, [.any, .any, .v (.int .i64 ((n : Int) * a)), .any, .any, .any], [some (.arr 1 n (cA a))]⟩
theorem runSuR (a : Int) (n : Nat) : bodyE (P := Try.prog) (Γ := Γu) [c15'] (fun _ => LSpec.at lvS [] (SSu a n 0) (retSu a n)) false 25 [.tmp 2, .tmp 3] (bodyOf Try.f13) [.hs 0 0 n] [.arr 1 n (cA a)] =
  Tree.chk (cl (LeL [AV.v (Value.int IntKind.i64 (0 : Int)), AV.v (Value.int IntKind.i64 (0 : Int)), AV.v (Value.int IntKind.i64 (0 : Int)), AV.hs (0 : Nat) (0 : Nat) n, AV.v (Value.int
    IntKind.i64 (↑n : Int)), AV.v (Value.int IntKind.i64 (0 : Int))] [AV.any, AV.any, AV.v (Value.int IntKind.i64 ((↑(0 : Nat) : Int) * a)), AV.hs (0 : Nat) (0 : Nat) n, AV.v (Value.int
    IntKind.i64 (↑n : Int)), AV.v (Value.int IntKind.i64 (↑(0 : Nat) : Int))] ∧ LeH [some (Blk.arr (1 : Nat) n fun x => [AV.v (Value.int IntKind.i64 a)])] [some (Blk.arr (1 : Nat) n fun x =>
    [AV.v (Value.int IntKind.i64 a)])])) (Tree.leaf (Ans.mk (AV.tup [AV.v (Value.int IntKind.i64 (0 : Int)), AV.v (Value.int IntKind.i64 (10 : Int))]) [some (Blk.arr (1 : Nat) n fun x =>
    [AV.v (Value.int IntKind.i64 a)])])) := by kernel_rfl
theorem runSuE (a : Int) (n : Nat) : bodyE (P := Try.prog) (Γ := Γu) [c15'] (fun _ => LSpec.at lvS [] (SSu a n 0) (endSu a n)) false 25 [.tmp 2, .tmp 3] (bodyOf Try.f13) [.hs 0 0 n] [.arr 1 n (cA a)] =
  Tree.chk (cl (LeL [AV.v (Value.int IntKind.i64 (0 : Int)), AV.v (Value.int IntKind.i64 (0 : Int)), AV.v (Value.int IntKind.i64 (0 : Int)), AV.hs (0 : Nat) (0 : Nat) n, AV.v (Value.int
    IntKind.i64 (↑n : Int)), AV.v (Value.int IntKind.i64 (0 : Int))] [AV.any, AV.any, AV.v (Value.int IntKind.i64 ((↑(0 : Nat) : Int) * a)), AV.hs (0 : Nat) (0 : Nat) n, AV.v (Value.int
    IntKind.i64 (↑n : Int)), AV.v (Value.int IntKind.i64 (↑(0 : Nat) : Int))] ∧ LeH [some (Blk.arr (1 : Nat) n fun x => [AV.v (Value.int IntKind.i64 a)])] [some (Blk.arr (1 : Nat) n fun x =>
    [AV.v (Value.int IntKind.i64 a)])])) (Tree.leaf (Ans.mk (AV.tup [AV.v (Value.int IntKind.i64 ((↑n : Int) * a)), AV.v (Value.int IntKind.i64 (0 : Int))]) [some (Blk.arr (1 : Nat) n fun x
    => [AV.v (Value.int IntKind.i64 a)])])) := by kernel_rfl
noncomputable abbrev lpF : Code := loopOf (bodyOf Try.f6) 0
abbrev lvF : List Nat := [0, 2, 15, 16]
def fA (a : Int) (i : Nat) : Nat → List AV := fun e => [.v (.int .i64 (bif Nat.blt e i then a else 0))]
def SFi (a : Int) (n i : Nat) : List AV × Heap := ([.v (.int .i64 a), .v (.int .u8 (n : Int)), .hs 0 0 n, .v (.int .i64 (i : Int))], [some (.arr 1 n (fA a i))])
def endFi (a : Int) (n : Nat) : Out := ⟨.exit 0, [.v (.int .i64 a), .v (.int .u8 (n : Int)), .hs 0 0 n, .any], [some (.arr 1 n (cA a))]⟩
theorem rFi (a : Int) (n i : Nat) : roundE (P := Try.prog) (Γ := Γu) [] Lno false 0 0 lpF lvF [] 125 (SFi a n i).1 (SFi a n i).2 =
  Tree.br (decide ((↑i : Int) < (↑n : Int))) (Tree.chk (decide ((0 : Int) ≤ (↑i : Int)) && decide ((↑i : Int) < (↑n : Int))) (Tree.leaf (Out.mk AEx.normal [AV.v (Value.int IntKind.i64 a), AV.v
    (Value.int IntKind.u8 (↑n : Int)), AV.hs (0 : Nat) (0 : Nat) n, AV.v (Value.int IntKind.i64 (IntKind.wrap IntKind.i64 ((↑i : Int) + (1 : Int))))] [some (Blk.arr (1 : Nat) n fun k => mixL
    (Nat.beq k ((0 : Nat) + i)) [AV.v (Value.int IntKind.i64 a)] [AV.v (Value.int IntKind.i64 (bif Nat.blt k i then a else (0 : Int)))])]))) (Tree.leaf (Out.mk (AEx.exit (0 : Nat)) [AV.v
    (Value.int IntKind.i64 a), AV.v (Value.int IntKind.u8 (↑n : Int)), AV.hs (0 : Nat) (0 : Nat) n, AV.v (Value.int IntKind.i64 (↑i : Int))] [some (Blk.arr (1 : Nat) n fun e => [AV.v
    (Value.int IntKind.i64 (bif Nat.blt e i then a else (0 : Int)))])])) := by kernel_rfl
def A6 (y : Int × Int × Nat) : List AV := [.v (.int .i64 y.1), .v (.int .i64 y.2.1), .v (.int .u8 (y.2.2 : Int))]
theorem law6 (y : Int × Int × Nat) (p s e : Int) (h : Answers Try.prog Γu 13 [.hs 0 0 y.2.2] [.arr 1 y.2.2 (cA y.1)] (.tup [.v (.int .i64 s), .v (.int .i64 e)]) [some (.arr 1 y.2.2 (cA y.1))] []) : bodyE (P := Try.prog) (Γ := Γu) [c7, kPr, kRe, c15', c17', c19', CT.at 13 h] (fun _ => LSpec.at lvF [] (SFi y.1 y.2.2 0) (endFi y.1 y.2.2)) false 125 [.tmp 6] (bodyOf Try.f6) (A6 y) [] =
  Tree.chk (cl (inI64 y.fst ∧ LeL [AV.v (Value.int IntKind.i64 y.fst)] [AV.v (Value.int IntKind.i64 y.fst)] ∧ LeH [] []) && cl (ByteArray.size (prS y.fst) ≤ (1000000000 : Nat) ∧ LeL [AV.v
    (Value.string (prS y.fst)), AV.v (Value.int IntKind.i64 (-9223372036854775808 : Int)), AV.v (Value.int IntKind.i64 (9223372036854775807 : Int))] [AV.v (Value.string (prS y.fst)), AV.v
    (Value.int IntKind.i64 (-9223372036854775808 : Int)), AV.v (Value.int IntKind.i64 (9223372036854775807 : Int))] ∧ LeH [] [])) (Tree.br (bif !decide (rdE (prS y.fst) (-9223372036854775808
    : Int) (9223372036854775807 : Int) = (0 : Int)) then true else !decide (rdN (prS y.fst) (-9223372036854775808 : Int) (9223372036854775807 : Int) = y.fst)) (Tree.leaf (Ans.mk (AV.v
    (Value.bool false)) [])) (Tree.chk true (Tree.br (decide (addE y.fst y.snd.fst = (0 : Int))) (Tree.chk true (Tree.chk true (Tree.br (bif !decide (subE (addF y.fst y.snd.fst) y.snd.fst =
    (0 : Int)) then true else bif !decide (subF (addF y.fst y.snd.fst) y.snd.fst = y.fst) then true else bif !decide (addE y.snd.fst y.fst = (0 : Int)) then true else !decide (addF y.snd.fst
    y.fst = addF y.fst y.snd.fst)) (Tree.leaf (Ans.mk (AV.v (Value.bool false)) [])) (Tree.chk (decide ((0 : Int) ≤ IntKind.wrap IntKind.i64 (↑y.snd.snd : Int)) && decide (IntKind.wrap
    IntKind.i64 (↑y.snd.snd : Int) ≤ IntKind.wrap IntKind.i64 (↑y.snd.snd : Int)) && roomOk (8 : Nat) (Int.toNat (IntKind.wrap IntKind.i64 (↑y.snd.snd : Int)))) (Tree.chk (cl (LeL [AV.v
    (Value.int IntKind.i64 y.fst), AV.v (Value.int IntKind.u8 (↑y.snd.snd : Int)), AV.hs (0 : Nat) (0 : Nat) (Int.toNat (IntKind.wrap IntKind.i64 (↑y.snd.snd : Int))), AV.v (Value.int
    IntKind.i64 (0 : Int))] [AV.v (Value.int IntKind.i64 y.fst), AV.v (Value.int IntKind.u8 (↑y.snd.snd : Int)), AV.hs (0 : Nat) (0 : Nat) y.snd.snd, AV.v (Value.int IntKind.i64 (↑(0 : Nat)
    : Int))] ∧ LeH [some (Blk.arr (1 : Nat) (Int.toNat (IntKind.wrap IntKind.i64 (↑y.snd.snd : Int))) fun x => [AV.v (Value.int IntKind.i64 (0 : Int))])] [some (Blk.arr (1 : Nat) y.snd.snd
    fun e => [AV.v (Value.int IntKind.i64 (0 : Int))])])) (Tree.chk true (Tree.chk (cl (LeL [AV.hs (0 : Nat) (0 : Nat) y.snd.snd] [AV.hs (0 : Nat) (0 : Nat) y.snd.snd] ∧ LeH [some (Blk.arr
    (1 : Nat) y.snd.snd fun x => [AV.v (Value.int IntKind.i64 y.fst)])] [some (Blk.arr (1 : Nat) y.snd.snd fun x => [AV.v (Value.int IntKind.i64 y.fst)])])) (Tree.br (bif decide ((↑y.snd.snd
    : Int) = (0 : Int)) then true else bif decide (y.fst < (-4611686018427387904 : Int)) then true else decide ((4611686018427387904 : Int) < y.fst)) (Tree.leaf (Ans.mk (AV.sb (bif !decide
    ((↑y.snd.snd : Int) = (0 : Int)) then true else bif decide (mulF y.fst (IntKind.wrap IntKind.i64 (↑y.snd.snd : Int)) = (0 : Int)) then decide (s = (0 : Int)) else false)) [])) (Tree.leaf
    (Ans.mk (AV.sb (bif decide (mulF y.fst (IntKind.wrap IntKind.i64 (↑y.snd.snd : Int)) = s) then decide (mulE y.fst (IntKind.wrap IntKind.i64 (↑y.snd.snd : Int)) = e) else false))
    [])))))))))) (Tree.chk (decide ((0 : Int) ≤ IntKind.wrap IntKind.i64 (↑y.snd.snd : Int)) && decide (IntKind.wrap IntKind.i64 (↑y.snd.snd : Int) ≤ IntKind.wrap IntKind.i64 (↑y.snd.snd :
    Int)) && roomOk (8 : Nat) (Int.toNat (IntKind.wrap IntKind.i64 (↑y.snd.snd : Int)))) (Tree.chk (cl (LeL [AV.v (Value.int IntKind.i64 y.fst), AV.v (Value.int IntKind.u8 (↑y.snd.snd :
    Int)), AV.hs (0 : Nat) (0 : Nat) (Int.toNat (IntKind.wrap IntKind.i64 (↑y.snd.snd : Int))), AV.v (Value.int IntKind.i64 (0 : Int))] [AV.v (Value.int IntKind.i64 y.fst), AV.v (Value.int
    IntKind.u8 (↑y.snd.snd : Int)), AV.hs (0 : Nat) (0 : Nat) y.snd.snd, AV.v (Value.int IntKind.i64 (↑(0 : Nat) : Int))] ∧ LeH [some (Blk.arr (1 : Nat) (Int.toNat (IntKind.wrap IntKind.i64
    (↑y.snd.snd : Int))) fun x => [AV.v (Value.int IntKind.i64 (0 : Int))])] [some (Blk.arr (1 : Nat) y.snd.snd fun e => [AV.v (Value.int IntKind.i64 (0 : Int))])])) (Tree.chk true (Tree.chk
    (cl (LeL [AV.hs (0 : Nat) (0 : Nat) y.snd.snd] [AV.hs (0 : Nat) (0 : Nat) y.snd.snd] ∧ LeH [some (Blk.arr (1 : Nat) y.snd.snd fun x => [AV.v (Value.int IntKind.i64 y.fst)])] [some
    (Blk.arr (1 : Nat) y.snd.snd fun x => [AV.v (Value.int IntKind.i64 y.fst)])])) (Tree.br (bif decide ((↑y.snd.snd : Int) = (0 : Int)) then true else bif decide (y.fst <
    (-4611686018427387904 : Int)) then true else decide ((4611686018427387904 : Int) < y.fst)) (Tree.leaf (Ans.mk (AV.sb (bif !decide ((↑y.snd.snd : Int) = (0 : Int)) then true else bif
    decide (mulF y.fst (IntKind.wrap IntKind.i64 (↑y.snd.snd : Int)) = (0 : Int)) then decide (s = (0 : Int)) else false)) [])) (Tree.leaf (Ans.mk (AV.sb (bif decide (mulF y.fst
    (IntKind.wrap IntKind.i64 (↑y.snd.snd : Int)) = s) then decide (mulE y.fst (IntKind.wrap IntKind.i64 (↑y.snd.snd : Int)) = e) else false)) [])))))))))) := by kernel_rfl
end Go.Eng.U

/- NumBack: the law. -/
namespace Go.Eng.U
open Go Go.Eng Go.Eng.M Go.Lib Go.Proofs
set_option linter.unusedSimpArgs false
set_option linter.unusedVariables false
def goodS (a : Int) (n : Nat) : Prop := n = 0 ∨ (inN a = true ∧ inN ((n : Int) * a) = true)
open Classical in
noncomputable def OSu (a : Int) (n : Nat) : Out := if goodS a n then endSu a n else retSu a n
theorem mulUp (i : Nat) (a : Int) : ((i : Int) * a) + a = ((i + 1 : Nat) : Int) * a := by rw [Int.natCast_add, Int.add_mul]; simp
theorem more_bad {a : Int} {i n : Nat} (hin : i ≤ n) (h : ¬ inN ((i : Int) * a) = true) : ¬ inN ((n : Int) * a) = true := by
  intro hn
  apply h
  rw [inN_iff] at hn ⊢
  have hin' : (i : Int) ≤ (n : Int) := by omega
  rcases Int.le_total 0 a with c | c
  · have h1 := Int.mul_le_mul_of_nonneg_right hin' c
    have h2 := Int.mul_nonneg (show (0 : Int) ≤ (i : Int) by omega) c
    omega
  · have h1 := Int.mul_le_mul_of_nonpos_right hin' c
    have h2 := Int.mul_nonpos_of_nonneg_of_nonpos (show (0 : Int) ≤ (i : Int) by omega) c
    omega
theorem loopSu {a : Int} {n : Nat} (hn : n ≤ 255) : ∀ i : Nat, (i ≤ n ∧ goodS a i) → LoopOK Try.prog Γu 1 25 lpS (LSpec.at lvS [] (SSu a n i) (OSu a n)) := by
  refine loop_at (S := SSu a n) (O := fun _ => OSu a n) (k := 0) (fun i => n - i) fun i hp => .of (noLoops (by kernel_rfl)) (rSu a n i) ?_
  obtain ⟨h1, h2⟩ := hp
  rcases Nat.lt_or_ge i n with hi | hi
  · have hz : inN ((i : Int) * a) = true := by
      rcases h2 with h2 | h2
      · subst h2; rw [show ((0 : Nat) : Int) * a = 0 by simp]; rfl
      · exact h2.2
    by_cases hg : goodS a (i + 1)
    · have hg' : inN a = true ∧ inN (((i + 1 : Nat) : Int) * a) = true := hg.resolve_left (by omega)
      obtain ⟨e1, e2⟩ := add_of hz hg'.1
      rw [mulUp] at e1 e2
      rw [if_pos (inN_iff.1 hg'.2)] at e1 e2
      simp only [e1, e2]
      repeat' (first | refine wC (by first | omega | (simp only [W1, cond_true, cond_false, wrapUpN (show i ≤ 10000000000 by omega)]; first | done | omega)) ?_ | refine wT (by first | omega | (simp only [W1, cond_true, cond_false, wrapUpN (show i ≤ 10000000000 by omega)]; first | done | omega)) ?_ | refine wF (by intro _h; first | omega | (simp only [W1, cond_true, cond_false, wrapUpN (show i ≤ 10000000000 by omega)] at _h; first | done | omega)) ?_ | (refine wS ?_ ?_ <;> intro _h <;> simp only [W1, cond_true, cond_false, wrapUpN (show i ≤ 10000000000 by omega)] at _h))
      all_goals simp only [W1, W2, owesN, owesX, owesR, cond_true, cond_false, wrapUpN (show i ≤ 10000000000 by omega)]
      repeat' (first | apply And.intro | intro _hc)
      all_goals first | exact ⟨i + 1, LeL.refl _, LeH.refl _, ⟨hi, hg⟩, by omega⟩ | exact AV.le_refl _ | exact AV.le_any _ | exact OLe.refl _ | exact OLe.none _ | exact LeH.refl _ | exact LeL.refl _ | exact AV.le.bs _ | exact AV.le.sb _ | omega | contradiction
    · have hO : OSu a n = retSu a n := if_neg fun h => hg (by
        rcases h with h | ⟨h, h'⟩
        · omega
        · refine .inr ⟨h, ?_⟩
          cases hq : inN (((i + 1 : Nat) : Int) * a) with
          | true => rfl
          | false => exact absurd h' (more_bad hi (by rw [hq]; decide)))
      have hE : addE ((i : Int) * a) a = 10 := by
        unfold addE addOk
        rw [mulUp, hz]
        have : (inN a && inN (((i + 1 : Nat) : Int) * a)) = false := by
          rw [Bool.eq_false_iff]; intro h; rw [Bool.and_eq_true] at h; exact hg (.inr h)
        rw [Bool.true_and, this]; rfl
      rw [hO]
      simp only [hE]
      repeat' (first | refine wC (by first | omega | (simp only [W1, cond_true, cond_false]; first | done | omega)) ?_ | refine wT (by first | omega | (simp only [W1, cond_true, cond_false]; first | done | omega)) ?_ | refine wF (by intro _h; first | omega | (simp only [W1, cond_true, cond_false] at _h; first | done | omega)) ?_ | (refine wS ?_ ?_ <;> intro _h <;> simp only [W1, cond_true, cond_false] at _h))
      all_goals simp only [W1, W2, owesN, owesX, owesR, cond_true, cond_false]
      repeat' (first | apply And.intro | intro _hc)
      all_goals first | exact rfl | exact AV.le_refl _ | exact AV.le_any _ | exact OLe.refl _ | exact OLe.none _ | exact LeH.refl _ | exact LeL.refl _ | exact AV.le.bs _ | exact AV.le.sb _ | omega | contradiction
  · obtain rfl : i = n := by omega
    have hO : OSu a i = endSu a i := if_pos h2
    rw [hO]
    repeat' (first | refine wC (by first | omega | (simp only [W1, cond_true, cond_false]; first | done | omega)) ?_ | refine wT (by first | omega | (simp only [W1, cond_true, cond_false]; first | done | omega)) ?_ | refine wF (by intro _h; first | omega | (simp only [W1, cond_true, cond_false] at _h; first | done | omega)) ?_ | (refine wS ?_ ?_ <;> intro _h <;> simp only [W1, cond_true, cond_false] at _h))
    all_goals simp only [W1, W2, owesN, owesX, owesR, cond_true, cond_false]
    repeat' (first | apply And.intro | intro _hc)
    all_goals first | exact rfl | exact AV.le_refl _ | exact AV.le_any _ | exact OLe.refl _ | exact OLe.none _ | exact LeH.refl _ | exact LeL.refl _ | exact AV.le.bs _ | exact AV.le.sb _ | omega | contradiction
open Classical in
noncomputable def suN (a : Int) (n : Nat) : Int := if goodS a n then (n : Int) * a else 0
open Classical in
noncomputable def suE (a : Int) (n : Nat) : Int := if goodS a n then 0 else 10
theorem ansSu {a : Int} {n : Nat} (hn : n ≤ 255) : Answers Try.prog Γu 13 [.hs 0 0 n] [.arr 1 n (cA a)] (.tup [.v (.int .i64 (suN a n)), .v (.int .i64 (suE a n))]) [some (.arr 1 n (cA a))] [] := by
  have hl := loopSu (a := a) hn 0 ⟨Nat.zero_le _, .inl rfl⟩
  unfold OSu at hl
  unfold suN suE
  have hz : ((0 : Nat) : Int) * a = 0 := by simp
  by_cases hg : goodS a n
  · rw [if_pos hg] at hl
    rw [if_pos hg, if_pos hg]
    refine answers (fn := Try.f13) (c := bodyOf Try.f13) (ntmps := 25) (results := [.tmp 2, .tmp 3]) [c15'] (fun _ => LSpec.at lvS [] (SSu a n 0) (endSu a n)) false Try.func13 (by kernel_rfl) (by kernel_rfl) (by kernel_rfl) (by kernel_rfl) (by simp) rfl (oneLoop (b := lpS) (by kernel_rfl) hl) <| Meets.of (runSuE a n) <| ?_
    simp only [hz]
    repeat' (first | refine wC (by first | omega | (simp only [W1, cond_true, cond_false]; first | done | omega)) ?_ | refine wT (by first | omega | (simp only [W1, cond_true, cond_false]; first | done | omega)) ?_ | refine wF (by intro _h; first | omega | (simp only [W1, cond_true, cond_false] at _h; first | done | omega)) ?_ | (refine wS ?_ ?_ <;> intro _h <;> simp only [W1, cond_true, cond_false] at _h))
    all_goals simp only [W1, W2, owesN, owesX, owesR, cond_true, cond_false]
    repeat' (first | apply And.intro | intro _hc)
    all_goals first | exact AV.le_refl _ | exact AV.le_any _ | exact OLe.refl _ | exact OLe.none _ | exact LeH.refl _ | exact LeL.refl _ | exact AV.le.bs _ | exact AV.le.sb _ | omega | contradiction
  · rw [if_neg hg] at hl
    rw [if_neg hg, if_neg hg]
    refine answers (fn := Try.f13) (c := bodyOf Try.f13) (ntmps := 25) (results := [.tmp 2, .tmp 3]) [c15'] (fun _ => LSpec.at lvS [] (SSu a n 0) (retSu a n)) false Try.func13 (by kernel_rfl) (by kernel_rfl) (by kernel_rfl) (by kernel_rfl) (by simp) rfl (oneLoop (b := lpS) (by kernel_rfl) hl) <| Meets.of (runSuR a n) <| ?_
    simp only [hz]
    repeat' (first | refine wC (by first | omega | (simp only [W1, cond_true, cond_false]; first | done | omega)) ?_ | refine wT (by first | omega | (simp only [W1, cond_true, cond_false]; first | done | omega)) ?_ | refine wF (by intro _h; first | omega | (simp only [W1, cond_true, cond_false] at _h; first | done | omega)) ?_ | (refine wS ?_ ?_ <;> intro _h <;> simp only [W1, cond_true, cond_false] at _h))
    all_goals simp only [W1, W2, owesN, owesX, owesR, cond_true, cond_false]
    repeat' (first | apply And.intro | intro _hc)
    all_goals first | exact AV.le_refl _ | exact AV.le_any _ | exact OLe.refl _ | exact OLe.none _ | exact LeH.refl _ | exact LeL.refl _ | exact AV.le.bs _ | exact AV.le.sb _ | omega | contradiction
theorem loopFi {a : Int} {n : Nat} (hn : n ≤ 255) : ∀ i : Nat, (i ≤ n) → LoopOK Try.prog Γu 0 125 lpF (LSpec.at lvF [] (SFi a n i) (endFi a n)) := by
  refine loop_at (S := SFi a n) (O := fun _ => endFi a n) (k := 0) (fun i => n - i) fun i h1 => .of (noLoops (by kernel_rfl)) (rFi a n i) ?_
  rcases Nat.lt_or_ge i n with hi | hi
  · have hu : OLe (some (Blk.arr 1 n fun k => mixL (Nat.beq k (0 + i)) [.v (.int .i64 a)] [.v (.int .i64 (bif Nat.blt k i then a else (0 : Int)))])) (some (.arr 1 n (fA a (i + 1)))) := by
      have : (fun k => mixL (Nat.beq k (0 + i)) [AV.v (.int .i64 a)] [.v (.int .i64 (bif Nat.blt k i then a else (0 : Int)))]) = fA a (i + 1) := by
        funext k
        unfold fA
        rw [Nat.zero_add]
        rcases Nat.lt_trichotomy k i with c | c | c
        · rw [show Nat.beq k i = false from by rw [Bool.eq_false_iff]; exact fun h => by have := Nat.eq_of_beq_eq_true h; omega, show Nat.blt k i = true from by rw [Nat.blt_eq]; exact c, show Nat.blt k (i + 1) = true from by rw [Nat.blt_eq]; omega]; rfl
        · rw [show Nat.beq k i = true from by rw [Nat.beq_eq]; exact c, show Nat.blt k (i + 1) = true from by rw [Nat.blt_eq]; omega]; rfl
        · rw [show Nat.beq k i = false from by rw [Bool.eq_false_iff]; exact fun h => by have := Nat.eq_of_beq_eq_true h; omega, show Nat.blt k i = false from by rw [Bool.eq_false_iff]; intro h; rw [Nat.blt_eq] at h; omega, show Nat.blt k (i + 1) = false from by rw [Bool.eq_false_iff]; intro h; rw [Nat.blt_eq] at h; omega]; rfl
      rw [this]; exact OLe.refl _
    rw [Nat.zero_add] at hu
    repeat' (first | refine wC (by first | omega | (simp only [W1, cond_true, cond_false, wrapUpN (show i ≤ 10000000000 by omega)]; first | done | omega)) ?_ | refine wT (by first | omega | (simp only [W1, cond_true, cond_false, wrapUpN (show i ≤ 10000000000 by omega)]; first | done | omega)) ?_ | refine wF (by intro _h; first | omega | (simp only [W1, cond_true, cond_false, wrapUpN (show i ≤ 10000000000 by omega)] at _h; first | done | omega)) ?_ | (refine wS ?_ ?_ <;> intro _h <;> simp only [W1, cond_true, cond_false, wrapUpN (show i ≤ 10000000000 by omega)] at _h))
    all_goals simp only [W1, W2, owesN, owesX, owesR, cond_true, cond_false, wrapUpN (show i ≤ 10000000000 by omega)]
    repeat' (first | apply And.intro | intro _hc)
    all_goals first | exact ⟨i + 1, LeL.refl _, ⟨hu, trivial⟩, hi, by omega⟩ | exact AV.le_refl _ | exact AV.le_any _ | exact OLe.refl _ | exact OLe.none _ | exact LeH.refl _ | exact LeL.refl _ | exact AV.le.bs _ | exact AV.le.sb _ | omega | contradiction
  · obtain rfl : i = n := by omega
    have hu : OLe (some (Blk.arr 1 i fun e => [.v (.int .i64 (bif Nat.blt e i then a else (0 : Int)))])) (some (.arr 1 i (cA a))) := OLe.arr rfl (fun e he => by
      rw [show Nat.blt e i = true from by rw [Nat.blt_eq]; exact he]; rfl) (fun _ => rfl)
    repeat' (first | refine wC (by first | omega | (simp only [W1, cond_true, cond_false]; first | done | omega)) ?_ | refine wT (by first | omega | (simp only [W1, cond_true, cond_false]; first | done | omega)) ?_ | refine wF (by intro _h; first | omega | (simp only [W1, cond_true, cond_false] at _h; first | done | omega)) ?_ | (refine wS ?_ ?_ <;> intro _h <;> simp only [W1, cond_true, cond_false] at _h))
    all_goals simp only [W1, W2, owesN, owesX, owesR, cond_true, cond_false]
    repeat' (first | apply And.intro | intro _hc)
    all_goals first | exact hu | exact ⟨hu, trivial⟩ | exact rfl | exact ⟨.refl _, .refl _, .refl _, .any _, trivial⟩ | exact AV.le_refl _ | exact AV.le_any _ | exact OLe.refl _ | exact OLe.none _ | exact LeH.refl _ | exact LeL.refl _ | exact AV.le.bs _ | exact AV.le.sb _ | omega | contradiction
theorem lawNB (y : Int × Int × Nat) (ha : inI64 y.1) (hn : y.2.2 ≤ 255) : LawOK Try.prog Γu 125 [.tmp 6] (bodyOf Try.f6) (A6 y) := by
  obtain ⟨a, b, n⟩ := y
  dsimp only at ha hn
  have hS := ansSu (a := a) hn
  have hl := loopFi (a := a) hn 0 (Nat.zero_le _)
  refine .mk' (T := [c7, kPr, kRe, c15', c17', c19', CT.at 13 hS]) (ip := false) (L := fun _ => LSpec.at lvF [] (SFi a n 0) (endFi a n)) (oneLoop (b := lpF) (by kernel_rfl) hl) (Right.of (law6 (a, b, n) 0 (suN a n) (suE a n) hS) ?_)
  obtain ⟨r1, r2⟩ := pr_rd (v := a) (lo := -9223372036854775808) (hi := 9223372036854775807) ha ha.1 ha.2
  have hz := pr_size ha
  have hw : IntKind.wrap IntKind.i64 (n : Int) = (n : Int) := wrap64 (by omega) (by omega)
  have hroom : roomOk 8 n = true := by
    unfold roomOk
    exact decide_eq_true (by omega)
  have hadd : addE a b = 0 → subE (addF a b) b = 0 ∧ subF (addF a b) b = a ∧ addE b a = 0 ∧ addF b a = addF a b := fun h => by
    have hok : addOk a b = true := by
      cases hk : addOk a b with
      | true => rfl
      | false => unfold addE at h; rw [hk] at h; exact absurd h (by decide)
    obtain ⟨e1, e2⟩ := add_yes hok
    unfold addOk at hok
    rw [Bool.and_eq_true, Bool.and_eq_true] at hok
    obtain ⟨⟨k1, k2⟩, k3⟩ := hok
    have hok' : addOk b a = true := by unfold addOk; rw [k1, k2, Int.add_comm, k3]; rfl
    obtain ⟨e3, e4⟩ := add_yes hok'
    rw [e1, e3, e4]
    unfold subE subF
    rw [k3, k2, show a + b - b = a by omega, k1]
    exact ⟨rfl, rfl, rfl, Int.add_comm ..⟩
  have hm : ((n : Int) = 0 ∧ mulF a n = 0 ∧ suN a n = 0) ∨ (¬ (n : Int) = 0 ∧ (a < -4611686018427387904 ∨ 4611686018427387904 < a)) ∨ (¬ (n : Int) = 0 ∧ ¬ a < -4611686018427387904 ∧ ¬ 4611686018427387904 < a ∧ mulF a n = suN a n ∧ mulE a n = suE a n) := by
    by_cases h0 : n = 0
    · subst h0
      refine .inl ⟨rfl, ?_, ?_⟩
      · unfold mulF
        cases mulOk a ((0 : Nat) : Int) <;> simp
      · unfold suN
        rw [if_pos (.inl rfl)]; simp
    · by_cases h1 : a < -4611686018427387904 ∨ 4611686018427387904 < a
      · exact .inr (.inl ⟨by omega, h1⟩)
      · have hia : inN a = true := inN_iff.2 (by omega)
        obtain ⟨m1, m2⟩ := mul_of hia (inN_iff.2 (show -4611686018427387904 ≤ (n : Int) ∧ (n : Int) ≤ 4611686018427387904 by omega)) (Int.mul_comm a n)
        refine .inr (.inr ⟨by omega, by omega, by omega, ?_, ?_⟩)
        · rw [m1]
          unfold suN
          by_cases hg : goodS a n
          · have := (hg.resolve_left h0).2
            rw [if_pos hg, if_pos (inN_iff.1 this)]
          · rw [if_neg hg, if_neg fun h => hg (.inr ⟨hia, inN_iff.2 h⟩)]
        · rw [m2]
          unfold suE
          by_cases hg : goodS a n
          · have := (hg.resolve_left h0).2
            rw [if_pos hg, if_pos (inN_iff.1 this)]
          · rw [if_neg hg, if_neg fun h => hg (.inr ⟨hia, inN_iff.2 h⟩)]
  clear hS hl
  have hcc : (bif decide ((n : Int) = (0 : Int)) then true else bif decide (a < (-4611686018427387904 : Int)) then true else decide ((4611686018427387904 : Int) < a)) = decide ((n : Int) = 0 ∨ a < -4611686018427387904 ∨ 4611686018427387904 < a) := by
    by_cases k1 : (n : Int) = 0 <;> by_cases k2 : a < -4611686018427387904 <;> by_cases k3 : 4611686018427387904 < a <;> simp [k1, k2, k3]
  simp only [r1, r2, hw, Int.toNat_natCast, hroom, hcc]
  rcases hm with ⟨h0, g1, g2⟩ | ⟨h0, h1⟩ | ⟨h0, h1, h2, g1, g2⟩
  · have hd : decide ((n : Int) = 0 ∨ a < -4611686018427387904 ∨ 4611686018427387904 < a) = true := decide_eq_true (.inl h0)
    simp only [hd, g1, g2]
    by_cases hq : addE a b = 0
    · obtain ⟨q1, q2, q3, q4⟩ := hadd hq
      simp only [hq, q1, q2, q3, q4]
      repeat' (first | refine wC (by first | omega | (simp only [W1, cond_true, cond_false, ha, show (prS a).size ≤ 1000000000 by omega]; first | done | omega)) ?_ | refine wT (by first | omega | (simp only [W1, cond_true, cond_false, ha, show (prS a).size ≤ 1000000000 by omega]; first | done | omega)) ?_ | refine wF (by intro _h; first | omega | (simp only [W1, cond_true, cond_false, ha, show (prS a).size ≤ 1000000000 by omega] at _h; first | done | omega)) ?_ | (refine wS ?_ ?_ <;> intro _h <;> simp only [W1, cond_true, cond_false, ha, show (prS a).size ≤ 1000000000 by omega] at _h))
      all_goals simp only [W1, W2, owesN, owesX, owesR, cond_true, cond_false, ha, show (prS a).size ≤ 1000000000 by omega]
      repeat' (first | apply And.intro | intro _hc)
      all_goals first | exact leV (by simp [h0]) | exact AV.le_refl _ | exact AV.le_any _ | exact OLe.refl _ | exact OLe.none _ | exact LeH.refl _ | exact LeL.refl _ | exact AV.le.bs _ | exact AV.le.sb _ | omega | contradiction
    · repeat' (first | refine wC (by first | omega | (simp only [W1, cond_true, cond_false, ha, hq, show (prS a).size ≤ 1000000000 by omega]; first | done | omega)) ?_ | refine wT (by first | omega | (simp only [W1, cond_true, cond_false, ha, hq, show (prS a).size ≤ 1000000000 by omega]; first | done | omega)) ?_ | refine wF (by intro _h; first | omega | (simp only [W1, cond_true, cond_false, ha, hq, show (prS a).size ≤ 1000000000 by omega] at _h; first | done | omega)) ?_ | (refine wS ?_ ?_ <;> intro _h <;> simp only [W1, cond_true, cond_false, ha, hq, show (prS a).size ≤ 1000000000 by omega] at _h))
      all_goals simp only [W1, W2, owesN, owesX, owesR, cond_true, cond_false, ha, hq, show (prS a).size ≤ 1000000000 by omega]
      repeat' (first | apply And.intro | intro _hc)
      all_goals first | exact leV (by simp [h0]) | exact AV.le_refl _ | exact AV.le_any _ | exact OLe.refl _ | exact OLe.none _ | exact LeH.refl _ | exact LeL.refl _ | exact AV.le.bs _ | exact AV.le.sb _ | omega | contradiction
  · have hd : decide ((n : Int) = 0 ∨ a < -4611686018427387904 ∨ 4611686018427387904 < a) = true := decide_eq_true (.inr h1)
    have h0' : ¬ n = 0 := by omega
    simp only [hd]
    by_cases hq : addE a b = 0
    · obtain ⟨q1, q2, q3, q4⟩ := hadd hq
      simp only [hq, q1, q2, q3, q4]
      repeat' (first | refine wC (by first | omega | (simp only [W1, cond_true, cond_false, ha, show (prS a).size ≤ 1000000000 by omega]; first | done | omega)) ?_ | refine wT (by first | omega | (simp only [W1, cond_true, cond_false, ha, show (prS a).size ≤ 1000000000 by omega]; first | done | omega)) ?_ | refine wF (by intro _h; first | omega | (simp only [W1, cond_true, cond_false, ha, show (prS a).size ≤ 1000000000 by omega] at _h; first | done | omega)) ?_ | (refine wS ?_ ?_ <;> intro _h <;> simp only [W1, cond_true, cond_false, ha, show (prS a).size ≤ 1000000000 by omega] at _h))
      all_goals simp only [W1, W2, owesN, owesX, owesR, cond_true, cond_false, ha, show (prS a).size ≤ 1000000000 by omega]
      repeat' (first | apply And.intro | intro _hc)
      all_goals first | exact leV (by simp [h0, h0']) | exact AV.le_refl _ | exact AV.le_any _ | exact OLe.refl _ | exact OLe.none _ | exact LeH.refl _ | exact LeL.refl _ | exact AV.le.bs _ | exact AV.le.sb _ | omega | contradiction
    · repeat' (first | refine wC (by first | omega | (simp only [W1, cond_true, cond_false, ha, hq, show (prS a).size ≤ 1000000000 by omega]; first | done | omega)) ?_ | refine wT (by first | omega | (simp only [W1, cond_true, cond_false, ha, hq, show (prS a).size ≤ 1000000000 by omega]; first | done | omega)) ?_ | refine wF (by intro _h; first | omega | (simp only [W1, cond_true, cond_false, ha, hq, show (prS a).size ≤ 1000000000 by omega] at _h; first | done | omega)) ?_ | (refine wS ?_ ?_ <;> intro _h <;> simp only [W1, cond_true, cond_false, ha, hq, show (prS a).size ≤ 1000000000 by omega] at _h))
      all_goals simp only [W1, W2, owesN, owesX, owesR, cond_true, cond_false, ha, hq, show (prS a).size ≤ 1000000000 by omega]
      repeat' (first | apply And.intro | intro _hc)
      all_goals first | exact leV (by simp [h0, h0']) | exact AV.le_refl _ | exact AV.le_any _ | exact OLe.refl _ | exact OLe.none _ | exact LeH.refl _ | exact LeL.refl _ | exact AV.le.bs _ | exact AV.le.sb _ | omega | contradiction
  · have hd : decide ((n : Int) = 0 ∨ a < -4611686018427387904 ∨ 4611686018427387904 < a) = false := decide_eq_false (by omega)
    simp only [hd, g1, g2]
    by_cases hq : addE a b = 0
    · obtain ⟨q1, q2, q3, q4⟩ := hadd hq
      simp only [hq, q1, q2, q3, q4]
      repeat' (first | refine wC (by first | omega | (simp only [W1, cond_true, cond_false, ha, show (prS a).size ≤ 1000000000 by omega]; first | done | omega)) ?_ | refine wT (by first | omega | (simp only [W1, cond_true, cond_false, ha, show (prS a).size ≤ 1000000000 by omega]; first | done | omega)) ?_ | refine wF (by intro _h; first | omega | (simp only [W1, cond_true, cond_false, ha, show (prS a).size ≤ 1000000000 by omega] at _h; first | done | omega)) ?_ | (refine wS ?_ ?_ <;> intro _h <;> simp only [W1, cond_true, cond_false, ha, show (prS a).size ≤ 1000000000 by omega] at _h))
      all_goals simp only [W1, W2, owesN, owesX, owesR, cond_true, cond_false, ha, show (prS a).size ≤ 1000000000 by omega]
      repeat' (first | apply And.intro | intro _hc)
      all_goals first | exact leV (by simp [h0]) | exact AV.le_refl _ | exact AV.le_any _ | exact OLe.refl _ | exact OLe.none _ | exact LeH.refl _ | exact LeL.refl _ | exact AV.le.bs _ | exact AV.le.sb _ | omega | contradiction
    · repeat' (first | refine wC (by first | omega | (simp only [W1, cond_true, cond_false, ha, hq, show (prS a).size ≤ 1000000000 by omega]; first | done | omega)) ?_ | refine wT (by first | omega | (simp only [W1, cond_true, cond_false, ha, hq, show (prS a).size ≤ 1000000000 by omega]; first | done | omega)) ?_ | refine wF (by intro _h; first | omega | (simp only [W1, cond_true, cond_false, ha, hq, show (prS a).size ≤ 1000000000 by omega] at _h; first | done | omega)) ?_ | (refine wS ?_ ?_ <;> intro _h <;> simp only [W1, cond_true, cond_false, ha, hq, show (prS a).size ≤ 1000000000 by omega] at _h))
      all_goals simp only [W1, W2, owesN, owesX, owesR, cond_true, cond_false, ha, hq, show (prS a).size ≤ 1000000000 by omega]
      repeat' (first | apply And.intro | intro _hc)
      all_goals first | exact leV (by simp [h0]) | exact AV.le_refl _ | exact AV.le_any _ | exact OLe.refl _ | exact OLe.none _ | exact LeH.refl _ | exact LeL.refl _ | exact AV.le.bs _ | exact AV.le.sb _ | omega | contradiction
theorem inU8_wf {n : Int} (h : (Lit.int .u8 n).wf = true) : 0 ≤ n ∧ n ≤ 255 := by
  simp [Lit.wf, IntKind.min, IntKind.max, IntKind.signed, IntKind.bits] at h
  omega
noncomputable def c6L : CT Try.prog Γu := CT.lawE A6 (fun y => inI64 y.1 ∧ y.2.2 ≤ 255) 6 Try.f6 (bodyOf Try.f6) 125 [.tmp 6] Try.func6 (by kernel_rfl) (by kernel_rfl) (by kernel_rfl) (by kernel_rfl) (fun _ _ => by simp [A6]) (fun x h => lawNB x h.1 h.2)
end Go.Eng.U

/- NumBack holds at every input: no condition beyond the row own cells. -/
namespace Go.Proofs.Ytffpnoieklnejaa
open Go Go.ChangeShapes Go.WideShapes Go.ChangeAt Go.WideMaps Go.WideElems Go.RowKit Go.Eng Go.Eng.U
set_option linter.unusedSimpArgs false
set_option linter.unusedVariables false

theorem own0 : ownKnob Try.prog.godebug = none := by kernel_rfl
set_option maxRecDepth 100000 in
theorem numBack_lifted (os : Os) (started : os.Started) (H : Type) (enc : TypeId × Value → H) :
    ReturnsInHanded {} Try.checked os 6 .any (Rows.numBackSpec.pre6 enc Try.prog Try.f6 Rows.numBackRow.domain false)
      (Rows.numBackSpec.post enc Try.prog Try.f6 false true false false) := by
  refine returnsInHanded_of_change (C := Try.checked) own0 started (by kernel_rfl) Try.func6
    (ChangeSpec.witness6 (enc := enc) (C := Try.checked) false ⟨#[], #[.int .i64 0, .int .i64 0, .int .u8 0], []⟩ 8 (by kernel_rfl) (by kernel_rfl) (by kernel_rfl) (by kernel_rfl)) ?_
  intro W base args ds gs before hval0 hW hcnd _
  have hval : ∀ (j : Nat) t v, Try.f6.params[j]? = some t → args[j]? = some v → Value.okWide Try.prog W .any base t v := hval0
  have hW' := hW
  obtain ⟨p, q, hA0, hV, rfl, hfz, hnd⟩ := hW
  have hA : DataW.TrodAll enc Try.prog W 0 (fun _ => true) true Try.f6.params.toList args.toList ds p := hA0
  rw [Try.params6] at hA hval
  obtain ⟨v0, v1, v2, d0, d1, d2, p0, p1, p2, rfl, rfl, rfl, h0, h1, h2⟩ := trodAll_three hA
  obtain ⟨rfl, rfl⟩ := trodVars_none hV
  obtain ⟨n0, rfl, rfl, rfl, w0⟩ := open_int Try.underlying2 (hval 0 2 v0 rfl rfl) h0
  obtain ⟨n1, rfl, rfl, rfl, w1⟩ := open_int Try.underlying2 (hval 1 2 v1 rfl rfl) h1
  obtain ⟨n2, rfl, rfl, rfl, w2⟩ := open_int Try.underlying5 (hval 2 5 v2 rfl rfl) h2
  obtain ⟨k, hk⟩ := Int.eq_ofNat_of_zero_le (inU8_wf w2).1
  have hk2 : k ≤ 255 := by have := (inU8_wf w2).2; omega
  subst hk
  refine (calls_true c6L (xs := [.v (.int .i64 n0), .v (.int .i64 n1), .v (.int .u8 (k : Int))]) (law_in (A := A6) (pre := fun y => inI64 y.1 ∧ y.2.2 ≤ 255) (x := (n0, n1, k)) ⟨⟨(bounds_i64 w0).1, (bounds_i64 w0).2⟩, hk2⟩ (.refl _)) (fun _ => .any _) (.one (V_v _) (.one (V_v _) (.one (V_v _) .none)))).mono fun e W' ⟨he, ho⟩ => ?_
  subst he
  exact ⟨_, rfl, post_true (tb := 4) (by kernel_rfl) (by kernel_rfl) (by kernel_rfl) (by kernel_rfl) (by kernel_rfl) Try.underlying4 hW' rfl rfl ho⟩

theorem numBack_holds : Rows.NumBackSaid :=
  OpenClaim.holds_of_wide 6 Try.f6 rfl rfl rfl rfl rfl rfl rfl ⟨rfl, rfl, rfl, rfl, rfl⟩ rfl rfl rfl rfl rfl (by kernel_rfl) Try.func6 (by kernel_rfl)
    (of_decide_eq_true (by kernel_rfl)) (by unfold Func.isWrapper; first | (rw [if_pos (by decide +kernel)]; kernel_rfl) | (rw [if_neg (by decide +kernel)]; exact ⟨rfl, rfl⟩))
    (fun os started H enc _ => numBack_lifted os started H enc)
#print axioms numBack_holds
end Go.Proofs.Ytffpnoieklnejaa
