/- The document's Of: its outer loop. -/
import Derived.Test.YthnbpcmajdinpaaDoorTestQ21
namespace Go.Eng.Q
open Go Go.Eng Go.Eng.M Go.Proofs
set_option linter.unusedSimpArgs false
set_option linter.unusedVariables false
noncomputable def L24i : Nat → LSpec := fun _ => ⟨[0, 3, 4, 5], [], list24b⟩
theorem round24 (g k : Int) (n : Nat) (e : Nat → Int) : roundE (P := Tryd.prog) (Γ := Γq) [] L24i false 1 0 loop24 [0, 3, 4] [] 32 [.hs 0 0 n, .v (.int .u32 g), .v (.int .i64 k)] [some (.arr 1 n (ints e))] =
  Tree.br (decide ((0 : Int) ≤ k))
  (Tree.chk
    (true && n.beq n && true && decide ((0 : Int) ≤ (↑n : Int)) && decide (n ≤ (1000000 : Nat)) &&
      inU32 (IntKind.u32.wrap (g * (2 : Int))))
    (Tree.chk (isInts (ints e))
      (Tree.leaf
        { ex := AEx.normal,
          fr :=
            [AV.hs (0 : Nat) (0 : Nat) n,
              AV.v
                (Value.int IntKind.u32
                  (inc (IntKind.u32.wrap (g * (2 : Int)))
                    (anyIn (fun j => decide (getI (ints e j) = k)) (Int.toNat (0 : Int)) n))),
              AV.v (Value.int IntKind.i64 (IntKind.i64.wrap (k - (1 : Int))))],
          H := [some (Blk.arr (1 : Nat) n fun i => [AV.v (Value.int IntKind.i64 (e i))])] })))
  (Tree.leaf
    { ex := AEx.exit (0 : Nat),
      fr := [AV.hs (0 : Nat) (0 : Nat) n, AV.v (Value.int IntKind.u32 g), AV.v (Value.int IntKind.i64 k)],
      H := [some (Blk.arr (1 : Nat) n fun i => [AV.v (Value.int IntKind.i64 (e i))])] }) := by kernel_rfl

/-- is c in the list? -/
def inL (n : Nat) (f : Nat → List AV) (c : Nat) : Bool := anyIn (fun j => decide (getI (f j) = (c : Int))) 0 n
noncomputable def list24 (vals : List AV) (H : Heap) : Tree Out := match vals, H with
  | [.hs a e n, .v (.int .u32 g), .v (.int .i64 k)], [some (.arr sz q f)] =>
    .chk (Nat.beq a 0 && Nat.beq e 0 && Nat.beq sz 1 && Nat.beq q n && decide (-1 ≤ k) && decide (k ≤ 31) && decide (n ≤ 1000000) && decide (0 ≤ g) && decide (g.toNat < 2 ^ (32 - (k + 1).toNat))) (.chk (isInts f)
      (.leaf ⟨.exit 0, [.hs 0 0 n, .v (.int .u32 (ofN (inL n f) (k + 1).toNat g.toNat : Nat)), .any], [some (.arr 1 n f)]⟩))
  | _, _ => .fail
def mu24 (vals : List AV) (_ : Heap) : Nat := match vals with
  | [_, _, .v (.int _ k)] => (k + 1).toNat
  | _ => 0
theorem loop24_ok : LoopOK Tryd.prog Γq 1 32 loop24 ⟨[0, 3, 4], [], list24⟩ := by
  refine loop_ok (T := []) (L := L24i) (ip := false) (k := 0) mu24 (oneLoop (b := loop24b) (by kernel_rfl) loop24b_ok) fun vals H o h => ?_
  unfold list24 at h
  simp only at h
  split at h
  · rename_i a e n g k sz q f
    have hc := (Tree.chk_get h).1
    replace h := (Tree.chk_get h).2
    have hf := (Tree.chk_get h).1
    replace h := Tree.leaf_get (Tree.chk_get h).2
    simp only [Bool.and_eq_true, decide_eq_true_eq] at hc
    have hgb := hc.2
    have hg0 := hc.1.2
    have hn := hc.1.1.2
    have hk31 := hc.1.1.1.2
    have hk0 := hc.1.1.1.1.2
    have hq := hc.1.1.1.1.1.2
    have hsz := hc.1.1.1.1.1.1.2
    have he := hc.1.1.1.1.1.1.1.2
    have ha := hc.1.1.1.1.1.1.1.1
    clear hc
    obtain rfl := Nat.eq_of_beq_eq_true ha
    obtain rfl := Nat.eq_of_beq_eq_true he
    obtain rfl := Nat.eq_of_beq_eq_true hsz
    obtain rfl := Nat.eq_of_beq_eq_true hq
    have hfe := isInts_eq hf
    generalize (fun i => getI (f i)) = y at hfe
    subst hfe
    clear hf
    obtain ⟨c, hcc⟩ := Int.eq_ofNat_of_zero_le (show 0 ≤ k + 1 by omega)
    obtain rfl : k = (c : Int) - 1 := by omega
    obtain ⟨b, rfl⟩ := Int.eq_ofNat_of_zero_le hg0
    rw [show ((c : Int) - 1 + 1).toNat = c by omega] at h hgb
    rw [Int.toNat_natCast] at h hgb
    subst h
    have hc32 : c ≤ 32 := by omega
    show (roundE (P := Tryd.prog) (Γ := Γq) [] L24i false 1 0 loop24 [0, 3, 4] [] 32 [.hs 0 0 q, .v (.int .u32 (b : Int)), .v (.int .i64 ((c : Int) - 1))] [some (.arr 1 q (ints y))]).sat _
    rw [round24]
    simp only [Tree.sat_br, Tree.sat_chk, Tree.sat_leaf, decide_eq_true_eq, decide_eq_false_iff_not]
    refine ⟨fun hk => ?_, fun hk => ?_⟩
    · obtain ⟨d, rfl⟩ : ∃ d, c = d + 1 := ⟨c - 1, by omega⟩
      have hp : 2 ^ (32 - d) = 2 * 2 ^ (32 - (d + 1)) := by
        rw [show 32 - d = (32 - (d + 1)) + 1 by omega, Nat.pow_succ]; omega
      have hle : 2 ^ (32 - d) ≤ 4294967296 := by
        have : 2 ^ (32 - d) ≤ 2 ^ 32 := Nat.pow_le_pow_right (by decide) (by omega)
        exact this
      have w0 : IntKind.u32.wrap ((b : Int) * 2) = ((2 * b : Nat) : Int) := by rw [wrap_u32 (by omega) (by omega)]; omega
      have w1 : IntKind.i64.wrap (((d + 1 : Nat) : Int) - 1 - 1) = (d : Int) - 1 := by rw [wrap64 (by omega) (by omega)]; omega
      have w2 : ((d + 1 : Nat) : Int) - 1 = (d : Int) := by omega
      rw [w0, w1]
      refine ⟨?_, isInts_ints _, ?_⟩
      · simp only [Bool.and_eq_true, decide_eq_true_eq, Nat.beq_refl, Bool.true_and]
        exact ⟨⟨by omega, hn⟩, inU32_iff.2 ⟨by omega, by omega⟩⟩
      · rw [w2]
        have e1 : ∀ bb : Bool, inc ((2 * b : Nat) : Int) bb = ((2 * b + bb.toNat : Nat) : Int) := fun bb => by
          have : ((2 * b : Nat) : Int).tmod 2 = 0 := by
            rw [Int.tmod_eq_emod_of_nonneg (by omega)]; omega
          unfold inc
          rw [this]
          cases bb
          · rfl
          · simp
        have e2 : anyIn (fun j => decide (getI (ints y j) = (d : Int))) (Int.toNat 0) q = inL q (ints y) d := rfl
        rw [e2, e1]
        refine ⟨_, _, LeL.refl _, LeH.refl _, ?_, by show ((d : Int) - 1 + 1).toNat < ((d : Int) + 1).toNat; omega⟩
        show (list24 [.hs 0 0 q, .v (.int .u32 ((2 * b + (inL q (ints y) d).toNat : Nat) : Int)), .v (.int .i64 ((d : Int) - 1))] [some (.arr 1 q (ints y))]).get = _
        have hbb : (inL q (ints y) d).toNat ≤ 1 := by cases inL q (ints y) d <;> decide
        simp only [list24, isInts_ints, Nat.beq_refl, Bool.true_and, Int.toNat_natCast]
        rw [show ((d : Int) - 1 + 1).toNat = d by omega]
        rw [decide_eq_true (show (-1 : Int) ≤ (d : Int) - 1 by omega), decide_eq_true (show (d : Int) - 1 ≤ 31 by omega), decide_eq_true hn, decide_eq_true (show (0 : Int) ≤ ((2 * b + (inL q (ints y) d).toNat : Nat) : Int) by omega), decide_eq_true (show 2 * b + (inL q (ints y) d).toNat < 2 ^ (32 - d) by omega)]
        simp only [Bool.and_true, Tree.get]
        rfl
    · obtain rfl : c = 0 := by omega
      exact ⟨rfl, by simp only [LeL_cons, LeL_nil, and_true]; exact ⟨.refl _, .refl _, .any _⟩, by simp only [LeH_cons, LeH_nil, and_true]; exact .refl _⟩
  · simp [Tree.get] at h
end Go.Eng.Q
