/- TapeStrokes: the law's own walk, by its five ways. -/
import Derived.Test.YtbjfbghmokkloaaK4
import Derived.Test.YtbjfbghmokkloaaEngAG
namespace Go.Eng.T
open Go Go.Eng Go.Proofs
set_option linter.unusedSimpArgs false
set_option linter.unusedVariables false
theorem runG (n : Int) (s t : ByteArray) : Tree.prune [true] (bodyE (P := Try.prog) (Γ := Γt) [c6, c7, S.c14, c15o, S.c13, S.c10, S.c16] Lno false 107 [.tmp 6] (bodyOf Try.f4) [.v (.string s), .v (.int .i64 n), .v (.string t)] []) =
  Tree.chk
  (bif decide ((3000 : Int) < (↑s.size : Int)) then true
  else bif decide ((3000 : Int) < (↑t.size : Int)) then true else decide (n < (0 : Int)))
  (Tree.leaf { val := AV.v (Value.bool true), H := [] }) := by kernel_rfl
theorem runA0 (n : Int) (s t : ByteArray) : Tree.prune [false, false, false, false, false, true, true, true, true, true] (bodyE (P := Try.prog) (Γ := Γt) [c6, c7, S.c14, c15o, S.c13, S.c10, S.c16] Lno false 107 [.tmp 6] (bodyOf Try.f4) [.v (.string s), .v (.int .i64 n), .v (.string t)] []) =
  Tree.chk
  (!bif decide ((3000 : Int) < (↑s.size : Int)) then true
    else bif decide ((3000 : Int) < (↑t.size : Int)) then true else decide (n < (0 : Int)))
  (Tree.chk (!decide (n < (0 : Int)))
    (Tree.chk true
      (Tree.chk true
        (Tree.chk (!decide (IntKind.i64.wrap ((1048576 : Int) - (0 : Int)) < (↑s.size : Int)))
          (Tree.chk
            (true && true && true && true && true && true && true && true && s.size.beq s.size &&
                    decide ((↑s.size : Int) = (↑s.size : Int)) &&
                  decide (s.size ≤ (3000 : Nat)) &&
                decide ((0 : Int) ≤ n) &&
              decide (n ≤ (9223372036854775807 : Int)))
            (Tree.chk (isU8 fun j => [AV.v (Value.int IntKind.u8 (sbyte s j))])
              (Tree.chk (s.size.ble n.toNat)
                (Tree.chk (s.size.beq (0 : Nat))
                  (Tree.chk (true && true)
                    (Tree.chk (decide ((↑s.size : Int) ≤ n))
                      (Tree.chk true
                        (Tree.chk (decide (IntKind.i64.wrap ((0 : Int) + (0 : Int)) = (↑s.size : Int)))
                          (Tree.leaf { val := AV.v (Value.bool true), H := [] }))))))))))))) := by kernel_rfl
theorem runA1 (n : Int) (s t : ByteArray) : Tree.prune [false, false, false, false, false, true, false, true, true, true] (bodyE (P := Try.prog) (Γ := Γt) [c6, c7, S.c14, c15o, S.c13, S.c10, S.c16] Lno false 107 [.tmp 6] (bodyOf Try.f4) [.v (.string s), .v (.int .i64 n), .v (.string t)] []) =
  Tree.chk
  (!bif decide ((3000 : Int) < (↑s.size : Int)) then true
    else bif decide ((3000 : Int) < (↑t.size : Int)) then true else decide (n < (0 : Int)))
  (Tree.chk (!decide (n < (0 : Int)))
    (Tree.chk true
      (Tree.chk true
        (Tree.chk (!decide (IntKind.i64.wrap ((1048576 : Int) - (0 : Int)) < (↑s.size : Int)))
          (Tree.chk
            (true && true && true && true && true && true && true && true && s.size.beq s.size &&
                    decide ((↑s.size : Int) = (↑s.size : Int)) &&
                  decide (s.size ≤ (3000 : Nat)) &&
                decide ((0 : Int) ≤ n) &&
              decide (n ≤ (9223372036854775807 : Int)))
            (Tree.chk (isU8 fun j => [AV.v (Value.int IntKind.u8 (sbyte s j))])
              (Tree.chk (s.size.ble n.toNat)
                (Tree.chk (!s.size.beq (0 : Nat))
                  (Tree.chk (true && true)
                    (Tree.chk (decide ((↑s.size : Int) ≤ n))
                      (Tree.chk true
                        (Tree.chk (decide (IntKind.i64.wrap ((0 : Int) + (↑s.size : Int)) = (↑s.size : Int)))
                          (Tree.leaf { val := AV.v (Value.bool true), H := [] }))))))))))))) := by kernel_rfl
theorem runB0 (n : Int) (s t : ByteArray) : Tree.prune [false, false, false, false, false, false, true, false, true, false, false, true, true, true, true, true, true] (bodyE (P := Try.prog) (Γ := Γt) [c6, c7, S.c14, c15o, S.c13, S.c10, S.c16] Lno false 107 [.tmp 6] (bodyOf Try.f4) [.v (.string s), .v (.int .i64 n), .v (.string t)] []) =
  Tree.chk
  (!bif decide ((3000 : Int) < (↑s.size : Int)) then true
    else bif decide ((3000 : Int) < (↑t.size : Int)) then true else decide (n < (0 : Int)))
  (Tree.chk (!decide (n < (0 : Int)))
    (Tree.chk true
      (Tree.chk true
        (Tree.chk (!decide (IntKind.i64.wrap ((1048576 : Int) - (0 : Int)) < (↑s.size : Int)))
          (Tree.chk
            (true && true && true && true && true && true && true && true && s.size.beq s.size &&
                    decide ((↑s.size : Int) = (↑s.size : Int)) &&
                  decide (s.size ≤ (3000 : Nat)) &&
                decide ((0 : Int) ≤ n) &&
              decide (n ≤ (9223372036854775807 : Int)))
            (Tree.chk (isU8 fun j => [AV.v (Value.int IntKind.u8 (sbyte s j))])
              (Tree.chk (!s.size.ble n.toNat)
                (Tree.chk (n.toNat.beq (0 : Nat))
                  (Tree.chk (true && true)
                    (Tree.chk (!decide ((↑s.size : Int) ≤ n))
                      (Tree.chk true
                        (Tree.chk true
                          (Tree.chk true
                            (Tree.chk (true && true)
                              (Tree.chk true
                                (Tree.chk (decide (IntKind.i64.wrap ((0 : Int) + (0 : Int)) = n))
                                  (Tree.chk true
                                    (Tree.chk true
                                      (Tree.chk true
                                        (Tree.chk true
                                          (Tree.leaf { val := AV.v (Value.bool true), H := [] }))))))))))))))))))))) := by kernel_rfl
theorem runB1 (n : Int) (s t : ByteArray) : Tree.prune [false, false, false, false, false, false, false, false, true, false, false, true, true, true, true, true, true] (bodyE (P := Try.prog) (Γ := Γt) [c6, c7, S.c14, c15o, S.c13, S.c10, S.c16] Lno false 107 [.tmp 6] (bodyOf Try.f4) [.v (.string s), .v (.int .i64 n), .v (.string t)] []) =
  Tree.chk
  (!bif decide ((3000 : Int) < (↑s.size : Int)) then true
    else bif decide ((3000 : Int) < (↑t.size : Int)) then true else decide (n < (0 : Int)))
  (Tree.chk (!decide (n < (0 : Int)))
    (Tree.chk true
      (Tree.chk true
        (Tree.chk (!decide (IntKind.i64.wrap ((1048576 : Int) - (0 : Int)) < (↑s.size : Int)))
          (Tree.chk
            (true && true && true && true && true && true && true && true && s.size.beq s.size &&
                    decide ((↑s.size : Int) = (↑s.size : Int)) &&
                  decide (s.size ≤ (3000 : Nat)) &&
                decide ((0 : Int) ≤ n) &&
              decide (n ≤ (9223372036854775807 : Int)))
            (Tree.chk (isU8 fun j => [AV.v (Value.int IntKind.u8 (sbyte s j))])
              (Tree.chk (!s.size.ble n.toNat)
                (Tree.chk (!n.toNat.beq (0 : Nat))
                  (Tree.chk (true && true)
                    (Tree.chk (!decide ((↑s.size : Int) ≤ n))
                      (Tree.chk true
                        (Tree.chk true
                          (Tree.chk true
                            (Tree.chk (true && true)
                              (Tree.chk true
                                (Tree.chk (decide (IntKind.i64.wrap ((0 : Int) + (↑n.toNat : Int)) = n))
                                  (Tree.chk true
                                    (Tree.chk true
                                      (Tree.chk true
                                        (Tree.chk
                                          (decide
                                            (IntKind.i64.wrap ((0 : Int) + (↑n.toNat : Int)) =
                                              IntKind.i64.wrap ((0 : Int) + (↑n.toNat : Int))))
                                          (Tree.leaf { val := AV.v (Value.bool true), H := [] }))))))))))))))))))))) := by kernel_rfl

theorem right_path {t : Tree Ans} {cs : List Bool} (h : (Tree.prune cs t).get = some ⟨.v (.bool true), []⟩) : Right t := ⟨Tree.sat_iff.2 ⟨_, prune_get h, .refl _, trivial⟩⟩
theorem chk' {α : Type} {c : Bool} {t : Tree α} {a : α} (hc : c = true) (h : t.get = some a) : (Tree.chk c t).get = some a := by rw [hc]; exact h
theorem law4 (n : Int) (s t : ByteArray) (hmax : n ≤ 9223372036854775807) : Right (bodyE (P := Try.prog) (Γ := Γt) [c6, c7, S.c14, c15o, S.c13, S.c10, S.c16] Lno false 107 [.tmp 6] (bodyOf Try.f4) [.v (.string s), .v (.int .i64 n), .v (.string t)] []) := by
  by_cases hG : ((3000 : Int) < (s.size : Int) ∨ (3000 : Int) < (t.size : Int) ∨ n < 0)
  · refine right_path (cs := [true]) ?_
    rw [runG]
    refine chk' ?_ rfl
    by_cases a1 : (3000 : Int) < (s.size : Int)
    · rw [decide_eq_true a1]; rfl
    · rw [decide_eq_false a1]
      by_cases a2 : (3000 : Int) < (t.size : Int)
      · rw [decide_eq_true a2]; rfl
      · rw [decide_eq_false a2, decide_eq_true (show n < 0 by omega)]; rfl
  · have a1 : ¬ (3000 : Int) < (s.size : Int) := fun h => hG (.inl h)
    have a2 : ¬ (3000 : Int) < (t.size : Int) := fun h => hG (.inr (.inl h))
    have a3 : ¬ n < 0 := fun h => hG (.inr (.inr h))
    obtain ⟨k, rfl⟩ := Int.eq_ofNat_of_zero_le (show 0 ≤ n by omega)
    have g1 : (!bif decide ((3000 : Int) < (s.size : Int)) then true else bif decide ((3000 : Int) < (t.size : Int)) then true else decide ((k : Int) < (0 : Int))) = true := by
      rw [decide_eq_false a1, decide_eq_false a2, decide_eq_false a3]; rfl
    have g2 : (!decide ((k : Int) < (0 : Int))) = true := by rw [decide_eq_false a3]; rfl
    have g3 : (!decide (IntKind.i64.wrap ((1048576 : Int) - (0 : Int)) < (s.size : Int))) = true := by rw [decide_eq_false (by rw [wrapE]; omega)]; rfl
    have g4 : (true && true && true && true && true && true && true && true && s.size.beq s.size && decide ((s.size : Int) = (s.size : Int)) && decide (s.size ≤ (3000 : Nat)) && decide ((0 : Int) ≤ (k : Int)) && decide ((k : Int) ≤ (9223372036854775807 : Int))) = true := by
      rw [decide_eq_true (show s.size ≤ 3000 by omega), decide_eq_true (show (0 : Int) ≤ (k : Int) by omega), decide_eq_true hmax, Nat.beq_refl]; simp
    have g5 : isU8 (fun j => [AV.v (Value.int IntKind.u8 (sbyte s j))]) = true := isU8_bytes _
    by_cases hle : s.size ≤ k
    · have g6 : s.size.ble (k : Int).toNat = true := Nat.ble_eq_true_of_le (by rw [Int.toNat_natCast]; exact hle)
      have g8 : decide ((s.size : Int) ≤ (k : Int)) = true := decide_eq_true (by omega)
      cases hz : s.size.beq 0 with
      | true =>
        refine right_path (cs := [false, false, false, false, false, true, true, true, true, true]) ?_
        rw [runA0]
        have h0 := Nat.eq_of_beq_eq_true hz
        exact chk' g1 (chk' g2 (chk' rfl (chk' rfl (chk' g3 (chk' g4 (chk' g5 (chk' g6 (chk' hz (chk' rfl (chk' g8 (chk' rfl (chk' (decide_eq_true (by rw [wrapE]; omega)) rfl))))))))))))
      | false =>
        refine right_path (cs := [false, false, false, false, false, true, false, true, true, true]) ?_
        rw [runA1]
        exact chk' g1 (chk' g2 (chk' rfl (chk' rfl (chk' g3 (chk' g4 (chk' g5 (chk' g6 (chk' (by rw [hz]; rfl) (chk' rfl (chk' g8 (chk' rfl (chk' (decide_eq_true (by rw [wrapE]; omega)) rfl))))))))))))
    · have g6 : (!s.size.ble (k : Int).toNat) = true := by
        cases hb : s.size.ble (k : Int).toNat with
        | false => rfl
        | true => have := Nat.le_of_ble_eq_true hb; rw [Int.toNat_natCast] at this; exact absurd this hle
      have g8 : (!decide ((s.size : Int) ≤ (k : Int))) = true := by rw [decide_eq_false (by omega)]; rfl
      cases hz : (k : Int).toNat.beq 0 with
      | true =>
        refine right_path (cs := [false, false, false, false, false, false, true, false, true, false, false, true, true, true, true, true, true]) ?_
        rw [runB0]
        have h0 : k = 0 := by have := Nat.eq_of_beq_eq_true hz; rwa [Int.toNat_natCast] at this
        refine chk' g1 (chk' g2 (chk' rfl (chk' rfl (chk' g3 (chk' g4 (chk' g5 (chk' g6 (chk' hz (chk' rfl (chk' g8 ?_))))))))))
        repeat (first | exact rfl | refine chk' rfl ?_ | refine chk' (decide_eq_true (by rw [wrapE]; omega)) ?_)
      | false =>
        refine right_path (cs := [false, false, false, false, false, false, false, false, true, false, false, true, true, true, true, true, true]) ?_
        rw [runB1]
        refine chk' g1 (chk' g2 (chk' rfl (chk' rfl (chk' g3 (chk' g4 (chk' g5 (chk' g6 (chk' (by rw [hz]; rfl) (chk' rfl (chk' g8 ?_))))))))))
        repeat (first | exact rfl | refine chk' rfl ?_ | refine chk' (decide_eq_true (by rw [Int.toNat_natCast, wrapE]; omega)) ?_ | refine chk' (decide_eq_true rfl) ?_)
def A4 (x : ByteArray × Int × ByteArray) : List AV := [.v (.string x.1), .v (.int .i64 x.2.1), .v (.string x.2.2)]
noncomputable def c4 : CT Try.prog Γt := CT.law A4 (fun x => x.2.1 ≤ 9223372036854775807) 4 Try.f4 (bodyOf Try.f4) [c6, c7, S.c14, c15o, S.c13, S.c10, S.c16] Lno false 107 [.tmp 6] Try.func4 (by kernel_rfl) (by kernel_rfl) (by kernel_rfl) (by kernel_rfl) (fun _ _ => by simp [A4]) (noLoops (by kernel_rfl)) (fun x h => law4 x.2.1 x.1 x.2.2 h)
end Go.Eng.T
