/- The document's Of: its inner loop. -/
import Derived.Test.YthnbpcmajdinpaaDoorQM6
namespace Go.Eng.Q
open Go Go.Eng Go.Eng.M Go.Proofs
set_option linter.unusedSimpArgs false
set_option linter.unusedVariables false
noncomputable def loop24 : Code := loopOf (bodyOf Tryd.f24) 0
noncomputable def loop24b : Code := loopOf (bodyOf Tryd.f24) 1
theorem round24b (g k i : Int) (n : Nat) (e : Nat → Int) : roundE (P := Tryd.prog) (Γ := Γq) [] L0 false 1 0 loop24b [0, 3, 4, 5] [] 32 [.hs 0 0 n, .v (.int .u32 g), .v (.int .i64 k), .v (.int .i64 i)] [some (.arr 1 n (ints e))] =
  Tree.br (decide (i < (↑n : Int)))
  (Tree.chk
    (decide ((0 : Int) ≤ i) && decide (i < (↑n : Int)) && bif decide (e ((0 : Nat) + i.toNat) = k) then true else true)
    (Tree.br (bif decide (e ((0 : Nat) + i.toNat) = k) then decide (g.tmod (2 : Int) = (0 : Int)) else false)
      (Tree.leaf
        { ex := AEx.normal,
          fr :=
            [AV.hs (0 : Nat) (0 : Nat) n, AV.v (Value.int IntKind.u32 (IntKind.u32.wrap (g + (1 : Int)))),
              AV.v (Value.int IntKind.i64 k), AV.v (Value.int IntKind.i64 (IntKind.i64.wrap (i + (1 : Int))))],
          H := [some (Blk.arr (1 : Nat) n fun i => [AV.v (Value.int IntKind.i64 (e i))])] })
      (Tree.leaf
        { ex := AEx.normal,
          fr :=
            [AV.hs (0 : Nat) (0 : Nat) n, AV.v (Value.int IntKind.u32 g), AV.v (Value.int IntKind.i64 k),
              AV.v (Value.int IntKind.i64 (IntKind.i64.wrap (i + (1 : Int))))],
          H := [some (Blk.arr (1 : Nat) n fun i => [AV.v (Value.int IntKind.i64 (e i))])] })))
  (Tree.leaf
    { ex := AEx.exit (2 : Nat),
      fr :=
        [AV.hs (0 : Nat) (0 : Nat) n, AV.v (Value.int IntKind.u32 g), AV.v (Value.int IntKind.i64 k),
          AV.v (Value.int IntKind.i64 i)],
      H := [some (Blk.arr (1 : Nat) n fun i => [AV.v (Value.int IntKind.i64 (e i))])] }) := by kernel_rfl


noncomputable def list24b (vals : List AV) (H : Heap) : Tree Out := match vals, H with
  | [.hs a e n, .v (.int .u32 g), .v (.int .i64 k), .v (.int .i64 i)], [some (.arr sz q f)] =>
    .chk (Nat.beq a 0 && Nat.beq e 0 && Nat.beq sz 1 && Nat.beq q n && decide (0 ≤ i) && decide (i ≤ n) && decide (n ≤ 1000000) && inU32 g) (.chk (isInts f)
      (.leaf ⟨.exit 2, [.hs 0 0 n, .v (.int .u32 (inc g (anyIn (fun j => decide (getI (f j) = k)) i.toNat n))), .v (.int .i64 k), .any], [some (.arr 1 n f)]⟩))
  | _, _ => .fail
def mu24b (vals : List AV) (_ : Heap) : Nat := match vals with
  | [.hs _ _ n, _, _, .v (.int _ i)] => ((n : Int) - i).toNat
  | _ => 0
theorem inc_in {g : Int} {b : Bool} (h : inU32 g = true) : inU32 (inc g b) = true := by
  obtain ⟨h1, h2⟩ := inU32_iff.1 h
  unfold inc
  cases hb : (b && decide (g.tmod 2 = 0))
  · simpa using h
  · simp only [Bool.and_eq_true, decide_eq_true_eq] at hb
    refine inU32_iff.2 ⟨by simp; omega, ?_⟩
    have : g.tmod 2 = g % 2 := Int.tmod_eq_emod_of_nonneg h1
    simp; omega
theorem loop24b_ok : LoopOK Tryd.prog Γq 1 32 loop24b ⟨[0, 3, 4, 5], [], list24b⟩ := by
  refine loop_ok (T := []) (L := L0) (ip := false) (k := 0) mu24b (noLoops (by kernel_rfl)) fun vals H o h => ?_
  unfold list24b at h
  simp only at h
  split at h
  · rename_i a e n g k i sz q f
    have hc := (Tree.chk_get h).1
    replace h := (Tree.chk_get h).2
    have hf := (Tree.chk_get h).1
    replace h := Tree.leaf_get (Tree.chk_get h).2
    simp only [Bool.and_eq_true, decide_eq_true_eq] at hc
    have hg := hc.2
    have hn := hc.1.2
    have hi1 := hc.1.1.2
    have hi0 := hc.1.1.1.2
    have hq := hc.1.1.1.1.2
    have hsz := hc.1.1.1.1.1.2
    have he := hc.1.1.1.1.1.1.2
    have ha := hc.1.1.1.1.1.1.1
    clear hc
    obtain rfl := Nat.eq_of_beq_eq_true ha
    obtain rfl := Nat.eq_of_beq_eq_true he
    obtain rfl := Nat.eq_of_beq_eq_true hsz
    obtain rfl := Nat.eq_of_beq_eq_true hq
    have hfe := isInts_eq hf
    generalize (fun i => getI (f i)) = y at hfe
    subst hfe
    clear hf
    obtain ⟨m, hm⟩ := Int.eq_ofNat_of_zero_le hi0
    subst hm
    rw [Int.toNat_natCast] at h
    subst h
    show (roundE (P := Tryd.prog) (Γ := Γq) [] L0 false 1 0 loop24b [0, 3, 4, 5] [] 32 [.hs 0 0 q, .v (.int .u32 g), .v (.int .i64 k), .v (.int .i64 m)] [some (.arr 1 q (ints y))]).sat _
    rw [round24b]
    simp only [Tree.sat_br, Tree.sat_chk, Tree.sat_leaf, decide_eq_true_eq, decide_eq_false_iff_not]
    rw [Int.toNat_natCast, Nat.zero_add]
    have hnext : ∀ g2 : Int, inU32 g2 = true → m < q → (list24b [.hs 0 0 q, .v (.int .u32 g2), .v (.int .i64 k), .v (.int .i64 ((m + 1 : Nat) : Int))] [some (.arr 1 q (ints y))]).get = some ⟨.exit 2, [.hs 0 0 q, .v (.int .u32 (inc g2 (anyIn (fun j => decide (getI (ints y j) = k)) (m + 1) q))), .v (.int .i64 k), .any], [some (.arr 1 q (ints y))]⟩ := by
      intro g2 h2 hlt
      simp only [list24b, isInts_ints, Nat.beq_refl, Bool.true_and, Int.toNat_natCast, h2]
      rw [decide_eq_true (show (0 : Int) ≤ ((m + 1 : Nat) : Int) by omega), decide_eq_true (show ((m + 1 : Nat) : Int) ≤ (q : Int) by omega), decide_eq_true hn]
      simp only [Bool.and_true, Tree.get]
    have w1 : m < q → IntKind.i64.wrap ((m : Int) + 1) = ((m + 1 : Nat) : Int) := fun hlt => by rw [wrap64 (by omega) (by omega)]; omega
    obtain ⟨g1, g2⟩ := inU32_iff.1 hg
    refine ⟨fun hlt => ⟨by simp only [Bool.and_eq_true, decide_eq_true_eq]; exact ⟨⟨hi0, hlt⟩, by cases decide (y m = k) <;> rfl⟩, fun hk => ?_, fun hk => ?_⟩, fun hge => ?_⟩
    · have hlt' : m < q := by omega
      have w2 := w1 hlt'
      have hb : decide (y m = k) = true ∧ decide (g.tmod 2 = 0) = true := by
        cases e1 : decide (y m = k) <;> rw [e1] at hk
        · simp at hk
        · exact ⟨rfl, hk⟩
      have ge : g.tmod 2 = 0 := of_decide_eq_true hb.2
      have ht : g.tmod 2 = g % 2 := Int.tmod_eq_emod_of_nonneg g1
      have ht1 : (g + 1).tmod 2 = (g + 1) % 2 := Int.tmod_eq_emod_of_nonneg (by omega)
      have w3 : IntKind.u32.wrap (g + 1) = g + 1 := wrap_u32 (by omega) (by omega)
      refine ⟨_, _, LeL.refl _, LeH.refl _, ?_, by show ((q : Int) - IntKind.i64.wrap ((m : Int) + 1)).toNat < ((q : Int) - (m : Int)).toNat; rw [w2]; omega⟩
      rw [w2, w3]
      refine (hnext (g + 1) (inU32_iff.2 ⟨by omega, by omega⟩) hlt').trans ?_
      have e1 : anyIn (fun j => decide (getI (ints y j) = k)) m q = true := anyIn_iff.2 ⟨m, Nat.le_refl _, by omega, hb.1⟩
      have e2 : inc g true = g + 1 := by simp [inc, ge]
      have e3 : ∀ b, inc (g + 1) b = g + 1 := fun b => by
        have : decide ((g + 1).tmod 2 = 0) = false := decide_eq_false (by omega)
        rw [inc, this]; simp
      rw [e1, e2, e3]
    · have hlt' : m < q := by omega
      have w2 := w1 hlt'
      refine ⟨_, _, LeL.refl _, LeH.refl _, ?_, by show ((q : Int) - IntKind.i64.wrap ((m : Int) + 1)).toNat < ((q : Int) - (m : Int)).toNat; rw [w2]; omega⟩
      rw [w2]
      refine (hnext g hg hlt').trans ?_
      rw [anyIn_step hlt']
      show _ = some (Out.mk _ [_, .v (.int .u32 (inc g (decide (y m = k) || _))), _, _] _)
      cases e1 : decide (y m = k) <;> rw [e1] at hk
      · rfl
      · have hk' : decide (g.tmod 2 = 0) = false := hk
        have e3 : ∀ b, inc g b = g := fun b => by rw [inc, hk']; simp
        rw [e3, e3]
    · have e1 : anyIn (fun j => decide (getI (ints y j) = k)) m q = false := anyIn_end (by omega)
      rw [e1, inc_false]
      exact ⟨rfl, by simp, by simp only [LeH_cons, LeH_nil, and_true]; exact .refl _⟩
  · simp [Tree.get] at h
end Go.Eng.Q
