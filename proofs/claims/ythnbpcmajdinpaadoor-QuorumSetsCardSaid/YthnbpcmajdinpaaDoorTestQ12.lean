/- QuorumLists: its loop. -/
import Derived.Test.YthnbpcmajdinpaaDoorQM4
namespace Go.Eng.Q
open Go Go.Eng Go.Eng.M Go.Proofs
set_option linter.unusedSimpArgs false
set_option linter.unusedVariables false
noncomputable def loop5 : Code := loopOf (bodyOf Tryd.f5) 0
theorem round5 (s k g i : Int) (n : Nat) (e : Nat → Int) : roundE [c18, c19] L0 false 0 0 loop5 [0, 1, 5, 6, 7] [] 95 [.v (.int .u32 s), .v (.int .i64 k), .hs 0 0 n, .v (.int .u32 g), .v (.int .i64 i)] [some (.arr 1 n (ints e))] =
  Tree.br (decide (i < (↑n : Int)))
  (Tree.chk
    (bif decide ((0 : Int) < i) then
      decide ((0 : Int) ≤ IntKind.i64.wrap (i - (1 : Int))) && decide (IntKind.i64.wrap (i - (1 : Int)) < (↑n : Int)) &&
        (decide ((0 : Int) ≤ i) && decide (i < (↑n : Int)) &&
          bif decide (e ((0 : Nat) + i.toNat) ≤ e ((0 : Nat) + (IntKind.i64.wrap (i - (1 : Int))).toNat)) then true
          else
            decide ((0 : Int) ≤ i) && decide (i < (↑n : Int)) &&
              (decide (IntKind.u32 = IntKind.u32) && decide (IntKind.i64 = IntKind.i64) && inU32 s))
    else
      decide ((0 : Int) ≤ i) && decide (i < (↑n : Int)) &&
        (decide (IntKind.u32 = IntKind.u32) && decide (IntKind.i64 = IntKind.i64) && inU32 s))
    (Tree.br
      (bif decide ((0 : Int) < i) then
        bif decide (e ((0 : Nat) + i.toNat) ≤ e ((0 : Nat) + (IntKind.i64.wrap (i - (1 : Int))).toNat)) then true
        else !hasB s (e ((0 : Nat) + i.toNat))
      else !hasB s (e ((0 : Nat) + i.toNat)))
      (Tree.leaf
        { ex := AEx.ret,
          fr :=
            [AV.v (Value.int IntKind.u32 s), AV.v (Value.int IntKind.i64 k), AV.hs (0 : Nat) (0 : Nat) n,
              AV.v (Value.int IntKind.u32 g), AV.v (Value.int IntKind.i64 i)],
          H := [some (Blk.arr (1 : Nat) n fun i => [AV.v (Value.int IntKind.i64 (e i))])] })
      (Tree.chk
        (decide ((0 : Int) ≤ i) && decide (i < (↑n : Int)) &&
          (decide (IntKind.u32 = IntKind.u32) && decide (IntKind.i64 = IntKind.i64) && inU32 g))
        (Tree.br (!decide (errF (e ((0 : Nat) + i.toNat)) = (0 : Int)))
          (Tree.leaf
            { ex := AEx.ret,
              fr :=
                [AV.v (Value.int IntKind.u32 s), AV.v (Value.int IntKind.i64 k), AV.hs (0 : Nat) (0 : Nat) n,
                  AV.v (Value.int IntKind.u32 g), AV.v (Value.int IntKind.i64 i)],
              H := [some (Blk.arr (1 : Nat) n fun i => [AV.v (Value.int IntKind.i64 (e i))])] })
          (Tree.leaf
            { ex := AEx.normal,
              fr :=
                [AV.v (Value.int IntKind.u32 s), AV.v (Value.int IntKind.i64 k), AV.hs (0 : Nat) (0 : Nat) n,
                  AV.v (Value.int IntKind.u32 (putU g (e ((0 : Nat) + i.toNat)))),
                  AV.v (Value.int IntKind.i64 (IntKind.i64.wrap (i + (1 : Int))))],
              H := [some (Blk.arr (1 : Nat) n fun i => [AV.v (Value.int IntKind.i64 (e i))])] })))))
  (Tree.leaf
    { ex := AEx.exit (0 : Nat),
      fr :=
        [AV.v (Value.int IntKind.u32 s), AV.v (Value.int IntKind.i64 k), AV.hs (0 : Nat) (0 : Nat) n,
          AV.v (Value.int IntKind.u32 g), AV.v (Value.int IntKind.i64 i)],
      H := [some (Blk.arr (1 : Nat) n fun i => [AV.v (Value.int IntKind.i64 (e i))])] }) := by kernel_rfl
noncomputable def list5 (vals : List AV) (H : Heap) : Tree Out := match vals, H with
  | [.v (.int .u32 s), .v (.int .i64 k), .hs a e n, .v (.int .u32 g), .v (.int .i64 i)], [some (.arr sz q f)] =>
    .chk (Nat.beq a 0 && Nat.beq e 0 && Nat.beq sz 1 && Nat.beq q n && inU32 s && Nat.beq n (pc s) && decide (0 ≤ i) && decide (i ≤ pc s) && decide (g = upto s i.toNat)) (.chk (sameF f (nth s))
      (.leaf ⟨.exit 0, [.v (.int .u32 s), .v (.int .i64 k), .hs 0 0 (pc s), .v (.int .u32 s), .any], [some (.arr 1 (pc s) (ints (nth s)))]⟩))
  | _, _ => .fail
noncomputable def L5 : Nat → LSpec := fun _ => ⟨[0, 1, 5, 6, 7], [], list5⟩
def mu5 (vals : List AV) (_ : Heap) : Nat := match vals with
  | [.v (.int _ s), _, _, _, .v (.int _ i)] => ((pc s : Int) - i).toNat
  | _ => 0
theorem loop5_ok : LoopOK Tryd.prog Γq 0 95 loop5 (L5 0) := by
  refine loop_ok (T := [c18, c19]) (L := L0) (ip := false) (k := 0) mu5 (noLoops (by kernel_rfl)) fun vals H o h => ?_
  unfold L5 list5 at h
  simp only at h
  split at h
  · rename_i s k a e n g i sz q f
    have hc := (Tree.chk_get h).1
    replace h := (Tree.chk_get h).2
    have hf := (Tree.chk_get h).1
    replace h := Tree.leaf_get (Tree.chk_get h).2
    subst h
    simp only [Bool.and_eq_true, decide_eq_true_eq] at hc
    have hg := hc.2
    replace hc := hc.1
    have hi1 := hc.2
    replace hc := hc.1
    have hi0 := hc.2
    replace hc := hc.1
    have hn := hc.2
    replace hc := hc.1
    have hs := hc.2
    replace hc := hc.1
    have hq := hc.2
    replace hc := hc.1
    have hsz := hc.2
    replace hc := hc.1
    have he := hc.2
    have ha := hc.1
    obtain rfl := Nat.eq_of_beq_eq_true ha
    obtain rfl := Nat.eq_of_beq_eq_true he
    obtain rfl := Nat.eq_of_beq_eq_true hsz
    obtain rfl := Nat.eq_of_beq_eq_true hq
    obtain rfl := Nat.eq_of_beq_eq_true hn
    obtain rfl := sameF_iff.1 hf
    obtain ⟨m, rfl⟩ := Int.eq_ofNat_of_zero_le hi0
    have hpc := pc_le s
    rw [Int.toNat_natCast] at hg
    subst hg
    show (roundE [c18, c19] L0 false 0 0 loop5 [0, 1, 5, 6, 7] [] 95 [.v (.int .u32 s), .v (.int .i64 k), .hs 0 0 (pc s), .v (.int .u32 (upto s m)), .v (.int .i64 m)] [some (.arr 1 (pc s) (ints (nth s)))]).sat _
    rw [round5]
    simp only [Tree.sat_br, Tree.sat_chk, Tree.sat_leaf, decide_eq_true_eq, decide_eq_false_iff_not]
    refine ⟨fun hlt => ?_, fun hge => ?_⟩
    · have hm : m < pc s := by omega
      obtain ⟨ho, ht⟩ := nth_ok hs hm
      obtain ⟨hu, _⟩ := upto_ok hs m (by omega)
      have hhas : hasB s (nth s m) = true := by rw [hasB, ho, ht]; rfl
      have herr : errF (nth s m) = 0 := by rw [errF, ho]; rfl
      have e0 : nth s (0 + (m : Int).toNat) = nth s m := by rw [Int.toNat_natCast, Nat.zero_add]
      have w1 : IntKind.i64.wrap ((m : Int) + 1) = ((m + 1 : Nat) : Int) := by rw [wrap64 (by omega) (by omega)]; omega
      have hcond : (bif decide ((0 : Int) < (m : Int)) then bif decide (nth s (0 + (m : Int).toNat) ≤ nth s ((0 : Nat) + (IntKind.i64.wrap ((m : Int) - (1 : Int))).toNat)) then true else !hasB s (nth s (0 + (m : Int).toNat)) else !hasB s (nth s (0 + (m : Int).toNat))) = false := by
        rw [e0, hhas]
        by_cases h0 : (0 : Int) < m
        · have w2 : (IntKind.i64.wrap ((m : Int) - 1)).toNat = m - 1 := by rw [wrap64 (by omega) (by omega)]; omega
          have := nth_lt (s := s) (i := m - 1) (j := m) (by omega) hm
          rw [w2, Nat.zero_add]
          have h2 : ¬ nth s m ≤ nth s (m - 1) := by omega
          simp [h0, h2]
        · have h0' : ¬ 0 < m := by omega
          simp [h0']
      refine ⟨?_, fun hbad => ?_, fun _ => ⟨?_, fun hbad => ?_, fun _ => ?_⟩⟩
      · by_cases h0 : (0 : Int) < m
        · have w2 : IntKind.i64.wrap ((m : Int) - 1) = (m : Int) - 1 := wrap64 (by omega) (by omega)
          have a1 : (0 : Int) ≤ (m : Int) - 1 := by omega
          have a2 : (m : Int) - 1 < (pc s : Int) := by omega
          simp only [h0, decide_true, cond_true, w2, a1, a2, hi0, hlt, Bool.and_true, Bool.true_and, hs]
          cases decide (nth s (0 + (m : Int).toNat) ≤ nth s (0 + ((m : Int) - 1).toNat)) <;> rfl
        · simp only [h0, decide_false, cond_false, hi0, hlt, decide_true, Bool.and_true, Bool.true_and, hs]
      · rw [hcond] at hbad; simp at hbad
      · simp only [hi0, hlt, decide_true, Bool.and_true, Bool.true_and, hu]
      · rw [e0, herr] at hbad; simp at hbad
      · refine ⟨_, _, LeL.refl _, LeH.refl _, ?_, by show ((pc s : Int) - IntKind.i64.wrap ((m : Int) + 1)).toNat < ((pc s : Int) - (m : Int)).toNat; rw [w1]; omega⟩
        rw [e0, w1]
        have hup : putU (upto s m) (nth s m) = upto s (m + 1) := rfl
        simp only [L5, list5, Nat.beq_refl, Bool.true_and, hs, Int.toNat_natCast, hup, decide_true, Bool.and_true]
        have d1 : decide ((0 : Int) ≤ ((m + 1 : Nat) : Int)) = true := decide_eq_true (by omega)
        have d2 : decide (((m + 1 : Nat) : Int) ≤ (pc s : Int)) = true := decide_eq_true (by omega)
        have d3 : sameF (fun i => [AV.v (Value.int IntKind.i64 (nth s i))]) (nth s) = true := sameF_iff.2 rfl
        simp only [d1, d2, d3, Bool.and_true, Tree.get]
    · have hm : m = pc s := by omega
      subst hm
      rw [upto_all hs]
      exact ⟨rfl, by simp, by simp only [LeH_cons, LeH_nil, and_true]; exact .refl _⟩
  · simp [Tree.get] at h
end Go.Eng.Q
