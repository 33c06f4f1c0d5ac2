/- QuorumMeets: its contract. -/
import Derived.Test.YthnbpcmajdinpaaDoorTestQ6
import Derived.Test.YthnbpcmajdinpaaDoorQM3
namespace Go.Eng.Q
open Go Go.Eng Go.Eng.M Go.Proofs
set_option linter.unusedSimpArgs false
set_option linter.unusedVariables false
noncomputable def spec3 : List AV → List Blk → Tree Res := fun args Hin => match args, Hin with
  | [.v (.int .i64 f), .v (.int .u32 a), .v (.int .u32 b), .v (.int .u32 d)], [] => .chk (inU32 a && inU32 b && inU32 d) (.leaf { val := .v (.bool true) })
  | _, _ => .fail
theorem run3 (f a b d : Int) : bodyE (P := Tryd.prog) (Γ := Γq) [c7, c8, c9, c10, c11, c12] L0 false 60 [.tmp 8] (bodyOf Tryd.f3) [.v (.int .i64 f), .v (.int .u32 a), .v (.int .u32 b), .v (.int .u32 d)] [] =
  Tree.chk true
  (Tree.br (decide (timesF (3 : Int) f = (0 : Int)))
    (Tree.chk true (Tree.leaf { val := AV.sb (decide (fullF f = (0 : Int))), H := [] }))
    (Tree.chk true
      (Tree.chk true
        (Tree.chk
          (decide (IntKind.u32 = IntKind.u32) && inU32 (bitI BinOp.and IntKind.u32 a (fullF f)) &&
            (decide (IntKind.i64 = IntKind.i64) && true &&
              bif decide ((↑(pc (bitI BinOp.and IntKind.u32 a (fullF f))) : Int) < timesF (2 : Int) f) then true
              else
                decide (IntKind.u32 = IntKind.u32) && inU32 (bitI BinOp.and IntKind.u32 b (fullF f)) &&
                  (decide (IntKind.i64 = IntKind.i64) && true)))
          (Tree.br
            (bif decide ((↑(pc (bitI BinOp.and IntKind.u32 a (fullF f))) : Int) < timesF (2 : Int) f) then true
            else decide ((↑(pc (bitI BinOp.and IntKind.u32 b (fullF f))) : Int) < timesF (2 : Int) f))
            (Tree.leaf { val := AV.v (Value.bool true), H := [] })
            (Tree.chk
              (decide (IntKind.u32 = IntKind.u32) &&
                  inU32
                    (bitI BinOp.and IntKind.u32 (bitI BinOp.and IntKind.u32 a (fullF f))
                      (bitI BinOp.and IntKind.u32 b (fullF f))) &&
                (decide (IntKind.i64 = IntKind.i64) && true))
              (Tree.br
                (decide
                  ((↑(pc
                          (bitI BinOp.and IntKind.u32 (bitI BinOp.and IntKind.u32 a (fullF f))
                            (bitI BinOp.and IntKind.u32 b (fullF f)))) :
                      Int) <
                    timesF (1 : Int) f))
                (Tree.leaf { val := AV.v (Value.bool false), H := [] })
                (Tree.chk
                  (decide (IntKind.i64 = IntKind.i64) && true &&
                    (decide (IntKind.u32 = IntKind.u32) && inU32 (bitI BinOp.and IntKind.u32 d (fullF f)) &&
                      bif decide (f < (↑(pc (bitI BinOp.and IntKind.u32 d (fullF f))) : Int)) then true
                      else
                        decide (IntKind.u32 = IntKind.u32) &&
                          inU32
                            (bitI BinOp.andNot IntKind.u32
                              (bitI BinOp.and IntKind.u32 (bitI BinOp.and IntKind.u32 a (fullF f))
                                (bitI BinOp.and IntKind.u32 b (fullF f)))
                              d)))
                  (Tree.leaf
                    {
                      val :=
                        AV.sb
                          (bif decide (f < (↑(pc (bitI BinOp.and IntKind.u32 d (fullF f))) : Int)) then true
                          else
                            decide
                              ((1 : Int) ≤
                                (↑(pc
                                      (bitI BinOp.andNot IntKind.u32
                                        (bitI BinOp.and IntKind.u32 (bitI BinOp.and IntKind.u32 a (fullF f))
                                          (bitI BinOp.and IntKind.u32 b (fullF f)))
                                        d)) :
                                  Int))),
                      H := [] }))))))))) := by kernel_rfl
theorem full_in (f : Int) : inU32 (fullF f) = true := by
  unfold fullF; repeat' split
  all_goals decide
theorem full_cnt {f : Int} (h : ¬ (f < 1 ∨ 3 < f)) : cnt (tb (fullF f)) = (3 * f + 1).toNat := by
  rcases few h with rfl | rfl | rfl <;> decide
noncomputable def c3 : CT Tryd.prog Γq := CT.summed 3 Tryd.f3 (bodyOf Tryd.f3) [c7, c8, c9, c10, c11, c12] L0 false 60 [.tmp 8] spec3 Tryd.func3 (by kernel_rfl) (by kernel_rfl) (by kernel_rfl) (by kernel_rfl) (fun _ _ _ _ => noLoops (by kernel_rfl)) (by
  intro args Hin r h
  unfold spec3 at h
  split at h
  · rename_i f a b d
    obtain ⟨hc, h⟩ := Tree.chk_get h
    obtain rfl := Tree.leaf_get h
    simp only [Bool.and_eq_true] at hc
    obtain ⟨⟨ha, hb⟩, hd⟩ := hc
    refine ⟨by simp, ?_⟩
    rw [run3]
    have hF := full_in f
    obtain ⟨iA, tA⟩ := tb_and ha hF
    obtain ⟨iB, tB⟩ := tb_and hb hF
    obtain ⟨iD, tD⟩ := tb_and hd hF
    obtain ⟨iAB, tAB⟩ := tb_and iA iB
    obtain ⟨iN, tN⟩ := tb_andNot iAB hd
    simp only [Tree.sat_br, Tree.sat_leaf, Tree.sat_chk, decide_eq_true_eq, decide_eq_false_iff_not, times_zero, iA, iB, iD, iAB, iN, decide_true, Bool.true_and, Bool.and_true, Bool.cond_self]
    refine ⟨trivial, fun h0 => ⟨trivial, ?_, trivial⟩, fun h0 => ⟨trivial, trivial, trivial, fun h1 => ⟨.refl _, trivial⟩, fun h1 => ⟨trivial, fun h2 => ?_, fun h2 => ⟨trivial, ?_, trivial⟩⟩⟩⟩
    · rw [fullF, if_pos h0]; exact .sb true
    · exfalso
      have hab : ¬ ((pc (bitI .and .u32 a (fullF f)) : Nat) : Int) < timesF 2 f ∧ ¬ ((pc (bitI .and .u32 b (fullF f)) : Nat) : Int) < timesF 2 f := by
        by_cases hx : ((pc (bitI .and .u32 a (fullF f)) : Nat) : Int) < timesF 2 f
        · simp [hx] at h1
        · simp [hx] at h1; exact ⟨hx, by omega⟩
      obtain ⟨k1, k2⟩ := hab
      rw [pc_cnt] at k1 k2 h2
      have e1 := cnt_or (tb (bitI .and .u32 a (fullF f))) (tb (bitI .and .u32 b (fullF f)))
      have e2 : cnt (fun i => tb (bitI .and .u32 a (fullF f)) i && tb (bitI .and .u32 b (fullF f)) i) = cnt (tb (bitI .and .u32 (bitI .and .u32 a (fullF f)) (bitI .and .u32 b (fullF f)))) := cnt_congr fun i _ => (tAB i).symm
      have e3 : cnt (fun i => tb (bitI .and .u32 a (fullF f)) i || tb (bitI .and .u32 b (fullF f)) i) ≤ cnt (tb (fullF f)) := cnt_mono fun i _ hi => by
        rw [tA, tB] at hi; revert hi; cases tb (fullF f) i <;> simp
      rw [full_cnt h0] at e3
      rw [timesF, if_neg h0] at k1 k2 h2
      omega
    · have k2 : ¬ ((pc (bitI .and .u32 (bitI .and .u32 a (fullF f)) (bitI .and .u32 b (fullF f))) : Nat) : Int) < timesF 1 f := h2
      by_cases h3 : f < ((pc (bitI .and .u32 d (fullF f)) : Nat) : Int)
      · simp only [h3, decide_true, cond_true]; exact .sb true
      · have h4 : 1 ≤ ((pc (bitI .andNot .u32 (bitI .and .u32 (bitI .and .u32 a (fullF f)) (bitI .and .u32 b (fullF f))) d) : Nat) : Int) := by
          rw [pc_cnt] at k2 h3 ⊢
          have e1 := cnt_or (tb (bitI .and .u32 d (fullF f))) (tb (bitI .andNot .u32 (bitI .and .u32 (bitI .and .u32 a (fullF f)) (bitI .and .u32 b (fullF f))) d))
          have e2 : cnt (tb (bitI .and .u32 (bitI .and .u32 a (fullF f)) (bitI .and .u32 b (fullF f)))) ≤ cnt (fun i => tb (bitI .and .u32 d (fullF f)) i || tb (bitI .andNot .u32 (bitI .and .u32 (bitI .and .u32 a (fullF f)) (bitI .and .u32 b (fullF f))) d) i) := cnt_mono fun i hi hb' => by
            rw [tN i hi, tD, hb']
            rw [tAB, tA] at hb'
            have : tb (fullF f) i = true := by revert hb'; cases tb (fullF f) i <;> simp
            rw [this]; cases tb d i <;> rfl
          rw [timesF, if_neg h0] at k2
          omega
        simp only [h3, decide_false, cond_false, h4, decide_true]; exact .sb true
  · simp [Tree.get] at h)
end Go.Eng.Q
