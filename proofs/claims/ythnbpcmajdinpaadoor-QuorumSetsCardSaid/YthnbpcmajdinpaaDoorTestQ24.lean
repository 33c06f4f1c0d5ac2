/- QuorumSets: the law's own walk. -/
import Derived.Test.YthnbpcmajdinpaaDoorTestQ23
import Derived.Test.YthnbpcmajdinpaaDoorTestQ13
import Derived.Test.YthnbpcmajdinpaaDoorEngZ
namespace Go.Eng.Q
open Go Go.Eng Go.Eng.M Go.Proofs
set_option linter.unusedSimpArgs false
set_option linter.unusedVariables false
/-- the list with one more -/
def more (s k : Int) (j : Nat) : Int := bif decide (j < pc s) then nth s ((0 : Nat) + j) else bif ((0 : Nat) + (j - pc s)).beq (0 : Nat) then k else (0 : Int)
theorem run6 (f s k : Int) : bodyE (P := Tryd.prog) (Γ := Γq) [c7, c17, c20, c10, c21, c22, c18, c23, c19, c24] L6 false 92 [.tmp 6] (bodyOf Tryd.f6) [.v (.int .i64 f), .v (.int .u32 s), .v (.int .i64 k)] [] =
  Tree.chk (inU32 s)
  (Tree.chk (inU32 s)
    (Tree.chk
      (bif !decide ((↑(pc s) : Int) = (↑(pc s) : Int)) then true
      else
        true && inU32 s &&
          bif !decide ((↑(pc s) : Int) = (↑(pc s) : Int)) then true
          else
            true && inU32 s &&
              (true && inU32 s &&
                bif !decide (checkF f s = checkF f s) then true else true && inU32 s && (true && inU32 s)))
      (Tree.br
        (bif !decide ((↑(pc s) : Int) = (↑(pc s) : Int)) then true
        else
          bif !decide ((↑(pc s) : Int) = (↑(pc s) : Int)) then true
          else bif !decide (checkF f s = checkF f s) then true else !hasB s k == hasB s k)
        (Tree.leaf { val := AV.v (Value.bool false), H := [] })
        (Tree.chk
          (true && true && true && (pc s).beq (pc s) && true && true && true && (pc s).beq (pc s) &&
                  (pc s).beq (pc s) &&
                true &&
              decide ((0 : Int) ≤ (↑(pc s) : Int)) &&
            decide (pc s ≤ (1000000 : Nat)))
          (Tree.chk (isInts (ints (nth s)))
            (Tree.chk (sameF (ints (nth s)) fun i => getI (ints (nth s) i))
              (Tree.chk (true && inU32 s)
                (Tree.br (bif decide (k < (0 : Int)) then true else decide ((31 : Int) < k))
                  (Tree.leaf
                    { val := AV.sb (bif decide (putU s k = (0 : Int)) then decide (errF k = (40 : Int)) else false),
                      H := [] })
                  (Tree.br (decide (errF k = (0 : Int)))
                    (Tree.chk (roomOk (8 : Nat) (pc s + (1 : Nat)))
                      (Tree.chk
                        (true && true && true && (pc s + (1 : Nat)).beq (pc s + (1 : Nat)) &&
                          decide (pc s + (1 : Nat) ≤ (1000000 : Nat)))
                        (Tree.chk (isInts (ints (more s k)))
                          (Tree.leaf { val := AV.sb (decide (putU s k = (↑(ofN (inL (pc s + (1 : Nat)) (ints (more s k))) 32 0) : Int))), H := [] }))))
                    (Tree.leaf { val := AV.v (Value.bool false), H := [] })))))))))) := by kernel_rfl

theorem of_more {s k : Int} (hs : inU32 s = true) (hk : okB k = true) : (ofN (inL (pc s + 1) (ints (more s k))) 32 0 : Nat) = putU s k := by
  obtain ⟨p1, p2⟩ := tb_put hs hk
  have hb := ofN_lt (p := inL (pc s + 1) (ints (more s k))) (c := 32) (g := 0) (k := 0) (by decide)
  have hb' : inU32 (ofN (inL (pc s + 1) (ints (more s k))) 32 0 : Nat) = true := inU32_iff.2 ⟨by omega, by
    have : (2 : Nat) ^ (0 + 32) = 4294967296 := by decide
    omega⟩
  have hk1 := okB_iff.1 hk
  refine u32_ext hb' p1 fun t => ?_
  have e0 : tb (ofN (inL (pc s + 1) (ints (more s k))) 32 0 : Nat) t = (ofN (inL (pc s + 1) (ints (more s k))) 32 0).testBit t := by rw [tb, Int.toNat_natCast]
  rw [e0, ofN_bit, p2]
  have hmore : ∀ j, j < pc s → more s k j = nth s j := fun j hj => by simp [more, hj]
  have hlast : more s k (pc s) = k := by simp [more]
  split
  · rename_i ht
    rw [Bool.eq_iff_iff, inL, anyIn_iff, Bool.or_eq_true, decide_eq_true_eq]
    constructor
    · rintro ⟨j, _, hj, h⟩
      have h' : more s k j = (t : Int) := of_decide_eq_true h
      rcases Nat.lt_or_ge j (pc s) with hl | hl
      · rw [hmore j hl] at h'
        exact .inl ((mem_nth hs).2 ⟨j, hl, by omega⟩)
      · obtain rfl : j = pc s := by omega
        rw [hlast] at h'
        exact .inr (by omega)
    · rintro (h | h)
      · obtain ⟨j, hj, e⟩ := (mem_nth hs).1 h
        exact ⟨j, Nat.zero_le _, by omega, decide_eq_true (by show more s k j = _; rw [hmore j hj]; have := okB_iff.1 (nth_ok hs hj).1; omega)⟩
      · exact ⟨pc s, Nat.zero_le _, by omega, decide_eq_true (by show more s k (pc s) = _; rw [hlast]; omega)⟩
  · rename_i ht
    rw [Nat.zero_testBit]
    obtain ⟨n, e, hn⟩ := u32_nat hs
    have h1 : tb s t = false := by
      rw [e, tb, Int.toNat_natCast]
      exact Nat.testBit_lt_two_pow (Nat.lt_of_lt_of_le hn (Nat.pow_le_pow_right (by decide) (by omega)))
    rw [h1, decide_eq_false (by omega)]
    rfl
theorem law6 (f s k : Int) (hs : inU32 s = true) : Right (bodyE (P := Tryd.prog) (Γ := Γq) [c7, c17, c20, c10, c21, c22, c18, c23, c19, c24] L6 false 92 [.tmp 6] (bodyOf Tryd.f6) [.v (.int .i64 f), .v (.int .u32 s), .v (.int .i64 k)] []) := ⟨by
  rw [run6]
  have hpc := pc_le s
  have hsame : sameF (ints (nth s)) (fun i => getI (ints (nth s) i)) = true := sameF_iff.2 (by funext j; rfl)
  have hkk : (bif decide (k < 0) then true else decide (31 < k)) = !okB k := by
    have := @okB_iff k
    cases h : okB k <;> rw [h] at this
    · have h' : ¬ (0 ≤ k ∧ k < 32) := fun h => by simp [h] at this
      by_cases hk : k < 0
      · simp [hk]
      · simp [hk]; omega
    · have h' := this.1 rfl
      simp; omega
  simp only [Tree.sat_br, Tree.sat_leaf, Tree.sat_chk, Bool.true_and, Bool.and_true, Nat.beq_refl, hs, hsame, isInts_ints, decide_true, Bool.not_true, cond_false, cond_true, Bool.and_self, beq_self_eq_true, hkk]
  refine ⟨trivial, trivial, trivial, fun h => ?_, fun _ => ⟨?_, trivial, trivial, trivial, fun hk => ⟨?_, trivial⟩, fun hk => ?_⟩⟩
  · simp at h
  · simp only [Bool.and_eq_true, decide_eq_true_eq]; exact ⟨by omega, by omega⟩
  · have hk' : okB k = false := by simpa using hk
    rw [putU, errF, hk']; exact .sb true
  · have hk' : okB k = true := by simpa using hk
    refine ⟨fun _ => ⟨room8 rfl (by omega), by simp only [decide_eq_true_eq]; omega, trivial, ?_, trivial⟩, fun h => ?_⟩
    · rw [of_more hs hk', decide_eq_true rfl]; exact .sb true
    · rw [errF, hk'] at h; simp at h⟩
def A6 (x : Int × Int × Int) : List AV := [.v (.int .i64 x.1), .v (.int .u32 x.2.1), .v (.int .i64 x.2.2)]
noncomputable def c6 : CT Tryd.prog Γq := CT.law A6 (fun x => inU32 x.2.1 = true) 6 Tryd.f6 (bodyOf Tryd.f6) [c7, c17, c20, c10, c21, c22, c18, c23, c19, c24] L6 false 92 [.tmp 6] Tryd.func6 (by kernel_rfl) (by kernel_rfl) (by kernel_rfl) (by kernel_rfl) (fun _ _ => by simp [A6]) (oneLoop (b := loop6) (by kernel_rfl) loop6_ok) (fun x hs => law6 x.1 x.2.1 x.2.2 hs)
end Go.Eng.Q
