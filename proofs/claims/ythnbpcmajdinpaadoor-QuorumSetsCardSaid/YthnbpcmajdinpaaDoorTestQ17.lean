/- The document's Has and Check. -/
import Derived.Test.YthnbpcmajdinpaaDoorQM5
namespace Go.Eng.Q
open Go Go.Eng Go.Eng.M Go.Proofs
set_option linter.unusedSimpArgs false
set_option linter.unusedVariables false
noncomputable def loop23 : Code := loopOf (bodyOf Tryd.f23) 0
noncomputable def loop22 : Code := loopOf (bodyOf Tryd.f22) 0
theorem round23 (k i : Int) (n : Nat) (e : Nat → Int) : roundE (P := Tryd.prog) (Γ := Γq) [] L0 false 0 0 loop23 [1, 4, 5, 6] [] 21 [.v (.int .i64 k), .v (.bool false), .hs 0 0 n, .v (.int .i64 i)] [some (.arr 1 n (ints e))] =
  Tree.br (decide (i < (↑n : Int)))
  (Tree.chk (decide ((0 : Int) ≤ i) && decide (i < (↑n : Int)))
    (Tree.br (decide (e ((0 : Nat) + i.toNat) = k))
      (Tree.leaf
        { ex := AEx.ret,
          fr :=
            [AV.v (Value.int IntKind.i64 k), AV.v (Value.bool true), AV.hs (0 : Nat) (0 : Nat) n,
              AV.v (Value.int IntKind.i64 i)],
          H := [some (Blk.arr (1 : Nat) n fun i => [AV.v (Value.int IntKind.i64 (e i))])] })
      (Tree.leaf
        { ex := AEx.normal,
          fr :=
            [AV.v (Value.int IntKind.i64 k), AV.v (Value.bool false), AV.hs (0 : Nat) (0 : Nat) n,
              AV.v (Value.int IntKind.i64 (IntKind.i64.wrap (i + (1 : Int))))],
          H := [some (Blk.arr (1 : Nat) n fun i => [AV.v (Value.int IntKind.i64 (e i))])] })))
  (Tree.leaf
    { ex := AEx.exit (0 : Nat),
      fr :=
        [AV.v (Value.int IntKind.i64 k), AV.v (Value.bool false), AV.hs (0 : Nat) (0 : Nat) n,
          AV.v (Value.int IntKind.i64 i)],
      H := [some (Blk.arr (1 : Nat) n fun i => [AV.v (Value.int IntKind.i64 (e i))])] }) := by kernel_rfl
theorem round22 (f i : Int) (n : Nat) (e : Nat → Int) : roundE (P := Tryd.prog) (Γ := Γq) [c13] L0 false 0 0 loop22 [0, 4, 5, 6] [] 25 [.v (.int .i64 f), .v (.int .i64 0), .hs 0 0 n, .v (.int .i64 i)] [some (.arr 1 n (ints e))] =
  Tree.br (decide (i < (↑n : Int)))
  (Tree.chk (decide ((0 : Int) ≤ i) && decide (i < (↑n : Int)) && (true && true))
    (Tree.br (decide (timesF (3 : Int) f ≤ e ((0 : Nat) + i.toNat)))
      (Tree.leaf
        { ex := AEx.ret,
          fr :=
            [AV.v (Value.int IntKind.i64 f), AV.v (Value.int IntKind.i64 (40 : Int)), AV.hs (0 : Nat) (0 : Nat) n,
              AV.v (Value.int IntKind.i64 i)],
          H := [some (Blk.arr (1 : Nat) n fun i => [AV.v (Value.int IntKind.i64 (e i))])] })
      (Tree.leaf
        { ex := AEx.normal,
          fr :=
            [AV.v (Value.int IntKind.i64 f), AV.v (Value.int IntKind.i64 (0 : Int)), AV.hs (0 : Nat) (0 : Nat) n,
              AV.v (Value.int IntKind.i64 (IntKind.i64.wrap (i + (1 : Int))))],
          H := [some (Blk.arr (1 : Nat) n fun i => [AV.v (Value.int IntKind.i64 (e i))])] })))
  (Tree.leaf
    { ex := AEx.exit (0 : Nat),
      fr :=
        [AV.v (Value.int IntKind.i64 f), AV.v (Value.int IntKind.i64 (0 : Int)), AV.hs (0 : Nat) (0 : Nat) n,
          AV.v (Value.int IntKind.i64 i)],
      H := [some (Blk.arr (1 : Nat) n fun i => [AV.v (Value.int IntKind.i64 (e i))])] }) := by kernel_rfl

noncomputable def list23 (vals : List AV) (H : Heap) : Tree Out := match vals, H with
  | [.v (.int .i64 k), .v (.bool false), .hs a e n, .v (.int .i64 i)], [some (.arr sz q f)] =>
    .chk (Nat.beq a 0 && Nat.beq e 0 && Nat.beq sz 1 && Nat.beq q n && decide (0 ≤ i) && decide (i ≤ n) && decide (n ≤ 1000000)) (.chk (isInts f)
      (.br (anyIn (fun j => decide (getI (f j) = k)) i.toNat n) (.leaf ⟨.ret, [.v (.int .i64 k), .v (.bool true), .hs 0 0 n, .any], [some (.arr 1 n f)]⟩)
        (.leaf ⟨.exit 0, [.v (.int .i64 k), .v (.bool false), .hs 0 0 n, .any], [some (.arr 1 n f)]⟩)))
  | _, _ => .fail
noncomputable def L23 : Nat → LSpec := fun _ => ⟨[1, 4, 5, 6], [], list23⟩
def mu4 (vals : List AV) (_ : Heap) : Nat := match vals with
  | [_, _, .hs _ _ n, .v (.int _ i)] => ((n : Int) - i).toNat
  | _ => 0
theorem loop23_ok : LoopOK Tryd.prog Γq 0 21 loop23 (L23 0) := by
  refine loop_ok (T := []) (L := L0) (ip := false) (k := 0) mu4 (noLoops (by kernel_rfl)) fun vals H o h => ?_
  unfold L23 list23 at h
  simp only at h
  split at h
  · rename_i k a e n i sz q f
    have hc := (Tree.chk_get h).1
    replace h := (Tree.chk_get h).2
    have hf := (Tree.chk_get h).1
    replace h := (Tree.chk_get h).2
    simp only [Bool.and_eq_true, decide_eq_true_eq] at hc
    have hn := hc.2
    have hi1 := hc.1.2
    have hi0 := hc.1.1.2
    have hq := hc.1.1.1.2
    have hsz := hc.1.1.1.1.2
    have he := hc.1.1.1.1.1.2
    have ha := hc.1.1.1.1.1.1
    clear hc
    obtain rfl := Nat.eq_of_beq_eq_true ha
    obtain rfl := Nat.eq_of_beq_eq_true he
    obtain rfl := Nat.eq_of_beq_eq_true hsz
    obtain rfl := Nat.eq_of_beq_eq_true hq
    have hfe := isInts_eq hf
    generalize (fun i => getI (f i)) = g at hfe
    subst hfe
    clear hf
    obtain ⟨m, hm⟩ := Int.eq_ofNat_of_zero_le hi0
    subst hm
    show (roundE (P := Tryd.prog) (Γ := Γq) [] L0 false 0 0 loop23 [1, 4, 5, 6] [] 21 [.v (.int .i64 k), .v (.bool false), .hs 0 0 q, .v (.int .i64 m)] [some (.arr 1 q (ints g))]).sat _
    rw [round23]
    simp only [Tree.sat_br, Tree.sat_chk, Tree.sat_leaf, decide_eq_true_eq, decide_eq_false_iff_not]
    rw [Int.toNat_natCast, Nat.zero_add]
    rw [Int.toNat_natCast] at h
    refine ⟨fun hlt => ⟨by simp only [Bool.and_eq_true, decide_eq_true_eq]; exact ⟨hi0, hlt⟩, fun hk => ?_, fun hk => ?_⟩, fun hge => ?_⟩
    · have e1 : anyIn (fun j => decide (getI (ints g j) = k)) m q = true := anyIn_iff.2 ⟨m, Nat.le_refl _, by omega, decide_eq_true hk⟩
      rw [e1] at h
      simp only [Tree.get, Option.some.injEq] at h
      subst h
      exact ⟨rfl, by simp, by simp only [LeH_cons, LeH_nil, and_true]; exact .refl _⟩
    · have w1 : IntKind.i64.wrap ((m : Int) + 1) = ((m + 1 : Nat) : Int) := by rw [wrap64 (by omega) (by omega)]; omega
      refine ⟨_, _, LeL.refl _, LeH.refl _, ?_, by show ((q : Int) - IntKind.i64.wrap ((m : Int) + 1)).toNat < ((q : Int) - (m : Int)).toNat; rw [w1]; omega⟩
      rw [w1]
      show (list23 [.v (.int .i64 k), .v (.bool false), .hs 0 0 q, .v (.int .i64 ((m + 1 : Nat) : Int))] [some (.arr 1 q (ints g))]).get = _
      have e1 : anyIn (fun j => decide (getI (ints g j) = k)) m q = anyIn (fun j => decide (getI (ints g j) = k)) (m + 1) q := by
        rw [anyIn_step (by omega)]
        have : decide (getI (ints g m) = k) = false := decide_eq_false hk
        simp only [this, Bool.false_or]
      rw [← h, e1]
      simp only [list23, isInts_ints, Nat.beq_refl, Bool.true_and, Int.toNat_natCast]
      rw [decide_eq_true (show (0 : Int) ≤ ((m + 1 : Nat) : Int) by omega), decide_eq_true (show ((m + 1 : Nat) : Int) ≤ (q : Int) by omega), decide_eq_true hn]
      simp only [Bool.and_true, Tree.get]
    · have e1 : anyIn (fun j => decide (getI (ints g j) = k)) m q = false := anyIn_end (by omega)
      rw [e1] at h
      simp only [Tree.get, Option.some.injEq] at h
      subst h
      exact ⟨rfl, by simp, by simp only [LeH_cons, LeH_nil, and_true]; exact .refl _⟩
  · simp [Tree.get] at h
end Go.Eng.Q
