/- The document's Check: its loop. -/
import Derived.Test.YthnbpcmajdinpaaDoorTestQ18
namespace Go.Eng.Q
open Go Go.Eng Go.Eng.M Go.Proofs
set_option linter.unusedSimpArgs false
set_option linter.unusedVariables false
noncomputable def list22 (vals : List AV) (H : Heap) : Tree Out := match vals, H with
  | [.v (.int .i64 k), .v (.int .i64 0), .hs a e n, .v (.int .i64 i)], [some (.arr sz q f)] =>
    .chk (Nat.beq a 0 && Nat.beq e 0 && Nat.beq sz 1 && Nat.beq q n && decide (0 ≤ i) && decide (i ≤ n) && decide (n ≤ 1000000)) (.chk (isInts f)
      (.br (anyIn (fun j => decide (timesF 3 k ≤ getI (f j))) i.toNat n) (.leaf ⟨.ret, [.v (.int .i64 k), .v (.int .i64 40), .hs 0 0 n, .any], [some (.arr 1 n f)]⟩)
        (.leaf ⟨.exit 0, [.v (.int .i64 k), .v (.int .i64 0), .hs 0 0 n, .any], [some (.arr 1 n f)]⟩)))
  | _, _ => .fail
noncomputable def L22 : Nat → LSpec := fun _ => ⟨[0, 4, 5, 6], [], list22⟩
theorem loop22_ok : LoopOK Tryd.prog Γq 0 25 loop22 (L22 0) := by
  refine loop_ok (T := [c13]) (L := L0) (ip := false) (k := 0) mu4 (noLoops (by kernel_rfl)) fun vals H o h => ?_
  unfold L22 list22 at h
  simp only at h
  split at h
  · rename_i k a e n i sz q f
    have hc := (Tree.chk_get h).1
    replace h := (Tree.chk_get h).2
    have hf := (Tree.chk_get h).1
    replace h := (Tree.chk_get h).2
    simp only [Bool.and_eq_true, decide_eq_true_eq] at hc
    have hn := hc.2
    have hi1 := hc.1.2
    have hi0 := hc.1.1.2
    have hq := hc.1.1.1.2
    have hsz := hc.1.1.1.1.2
    have he := hc.1.1.1.1.1.2
    have ha := hc.1.1.1.1.1.1
    clear hc
    obtain rfl := Nat.eq_of_beq_eq_true ha
    obtain rfl := Nat.eq_of_beq_eq_true he
    obtain rfl := Nat.eq_of_beq_eq_true hsz
    obtain rfl := Nat.eq_of_beq_eq_true hq
    have hfe := isInts_eq hf
    generalize (fun i => getI (f i)) = g at hfe
    subst hfe
    clear hf
    obtain ⟨m, hm⟩ := Int.eq_ofNat_of_zero_le hi0
    subst hm
    show (roundE (P := Tryd.prog) (Γ := Γq) [c13] L0 false 0 0 loop22 [0, 4, 5, 6] [] 25 [.v (.int .i64 k), .v (.int .i64 0), .hs 0 0 q, .v (.int .i64 m)] [some (.arr 1 q (ints g))]).sat _
    rw [round22]
    simp only [Tree.sat_br, Tree.sat_chk, Tree.sat_leaf, decide_eq_true_eq, decide_eq_false_iff_not]
    rw [Int.toNat_natCast, Nat.zero_add]
    rw [Int.toNat_natCast] at h
    refine ⟨fun hlt => ⟨by simp only [Bool.and_true, Bool.and_eq_true, decide_eq_true_eq]; exact ⟨hi0, hlt⟩, fun hk => ?_, fun hk => ?_⟩, fun hge => ?_⟩
    · have e1 : anyIn (fun j => decide (timesF 3 k ≤ getI (ints g j))) m q = true := anyIn_iff.2 ⟨m, Nat.le_refl _, by omega, decide_eq_true hk⟩
      rw [e1] at h
      simp only [Tree.get, Option.some.injEq] at h
      subst h
      exact ⟨rfl, by simp, by simp only [LeH_cons, LeH_nil, and_true]; exact .refl _⟩
    · have w1 : IntKind.i64.wrap ((m : Int) + 1) = ((m + 1 : Nat) : Int) := by rw [wrap64 (by omega) (by omega)]; omega
      refine ⟨_, _, LeL.refl _, LeH.refl _, ?_, by show ((q : Int) - IntKind.i64.wrap ((m : Int) + 1)).toNat < ((q : Int) - (m : Int)).toNat; rw [w1]; omega⟩
      rw [w1]
      show (list22 [.v (.int .i64 k), .v (.int .i64 0), .hs 0 0 q, .v (.int .i64 ((m + 1 : Nat) : Int))] [some (.arr 1 q (ints g))]).get = _
      have e1 : anyIn (fun j => decide (timesF 3 k ≤ getI (ints g j))) m q = anyIn (fun j => decide (timesF 3 k ≤ getI (ints g j))) (m + 1) q := by
        rw [anyIn_step (by omega)]
        have : decide (timesF 3 k ≤ getI (ints g m)) = false := decide_eq_false (by rw [getI_ints]; omega)
        simp only [this, Bool.false_or]
      rw [← h, e1]
      simp only [list22, isInts_ints, Nat.beq_refl, Bool.true_and, Int.toNat_natCast]
      rw [decide_eq_true (show (0 : Int) ≤ ((m + 1 : Nat) : Int) by omega), decide_eq_true (show ((m + 1 : Nat) : Int) ≤ (q : Int) by omega), decide_eq_true hn]
      simp only [Bool.and_true, Tree.get]
    · have e1 : anyIn (fun j => decide (timesF 3 k ≤ getI (ints g j))) m q = false := anyIn_end (by omega)
      rw [e1] at h
      simp only [Tree.get, Option.some.injEq] at h
      subst h
      exact ⟨rfl, by simp, by simp only [LeH_cons, LeH_nil, and_true]; exact .refl _⟩
  · simp [Tree.get] at h
end Go.Eng.Q
