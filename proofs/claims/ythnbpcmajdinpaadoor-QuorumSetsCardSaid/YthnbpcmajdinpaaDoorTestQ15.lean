/- The document's list of a set, by halves. -/
import Derived.Test.YthnbpcmajdinpaaDoorTestQ13
namespace Go.Eng.Q
open Go Go.Eng Go.Eng.M Go.Proofs
set_option linter.unusedSimpArgs false
set_option linter.unusedVariables false
noncomputable def loop20 : Code := loopOf (bodyOf Tryd.f20) 0
theorem round20 (s k : Int) (n : Nat) (e : Nat → Int) : roundE (P := Tryd.prog) (Γ := Γq) [] L0 false 0 0 loop20 [0, 3, 4] [(1, 3)] 19 [.v (.int .u32 s), .hs 0 0 n, .v (.int .i64 k)] [some (.arr 1 n (ints e))] =
  Tree.br (decide ((0 : Int) < s))
  (Tree.chk true
    (Tree.br (decide (s.tmod (2 : Int) = (1 : Int)))
      (Tree.chk (roomOk (8 : Nat) (n + (1 : Nat)))
        (Tree.chk true
          (Tree.leaf
            { ex := AEx.normal,
              fr :=
                [AV.v (Value.int IntKind.u32 (IntKind.u32.wrap (s.tdiv (2 : Int)))),
                  AV.hs (0 : Nat) (0 : Nat) (n + (1 : Nat)),
                  AV.v (Value.int IntKind.i64 (IntKind.i64.wrap (k + (1 : Int))))],
              H :=
                [some
                    (Blk.arr (1 : Nat) (n + (1 : Nat)) fun j =>
                      [AV.v
                          (Value.int IntKind.i64
                            (bif decide (j < n) then e ((0 : Nat) + j)
                            else bif ((0 : Nat) + (j - n)).beq (0 : Nat) then k else (0 : Int)))])] })))
      (Tree.chk true
        (Tree.leaf
          { ex := AEx.normal,
            fr :=
              [AV.v (Value.int IntKind.u32 (IntKind.u32.wrap (s.tdiv (2 : Int)))), AV.hs (0 : Nat) (0 : Nat) n,
                AV.v (Value.int IntKind.i64 (IntKind.i64.wrap (k + (1 : Int))))],
            H := [some (Blk.arr (1 : Nat) n fun i => [AV.v (Value.int IntKind.i64 (e i))])] }))))
  (Tree.leaf
    { ex := AEx.exit (0 : Nat),
      fr := [AV.v (Value.int IntKind.u32 s), AV.hs (0 : Nat) (0 : Nat) n, AV.v (Value.int IntKind.i64 k)],
      H := [some (Blk.arr (1 : Nat) n fun i => [AV.v (Value.int IntKind.i64 (e i))])] }) := by kernel_rfl

theorem bitsL_half {n : Nat} (h : n < 2 ^ 32) : bitsL n = (if n % 2 = 1 then [0] else []) ++ (bitsL (n / 2)).map (· + 1) := by
  have e : List.range 32 = 0 :: (List.range 31).map (· + 1) := by decide
  have e31 : (List.range 31).filter (fun i => (n / 2).testBit i) = (List.range 32).filter fun i => (n / 2).testBit i := by
    rw [show List.range 32 = List.range 31 ++ [31] by decide, List.filter_append]
    have : (n / 2).testBit 31 = false := Nat.testBit_lt_two_pow (by omega)
    simp [this]
  unfold bitsL
  rw [← e31]
  conv => lhs; rw [e]
  rw [List.filter_cons, List.filter_map]
  have h0 : n.testBit 0 = decide (n % 2 = 1) := by rw [Nat.testBit_zero]
  have h1 : ((fun i => n.testBit i) ∘ fun x => x + 1) = fun i => (n / 2).testBit i := by
    funext i; simp [Nat.testBit_succ]
  rw [h0, h1]
  by_cases hb : n % 2 = 1 <;> simp [hb]
def half (s : Int) : Int := IntKind.u32.wrap (s.tdiv 2)
theorem half_ok {s : Int} (hs : inU32 s = true) : inU32 (half s) = true ∧ (half s).toNat = s.toNat / 2 ∧ (s.tmod 2 = 1 ↔ s.toNat % 2 = 1) := by
  obtain ⟨n, rfl, hn⟩ := u32_nat hs
  have e : half (n : Int) = ((n / 2 : Nat) : Int) := by
    unfold half
    have : (n : Int).tdiv 2 = ((n / 2 : Nat) : Int) := by rw [Int.tdiv_eq_ediv_of_nonneg (by omega)]; rfl
    rw [this, wrap_u32 (by omega) (by omega)]
  refine ⟨by rw [e]; exact nat_u32 (by omega), by rw [e, Int.toNat_natCast, Int.toNat_natCast], ?_⟩
  rw [Int.tmod_eq_emod_of_nonneg (by omega), Int.toNat_natCast]; omega
theorem pc_half {s : Int} (hs : inU32 s = true) : pc s = (if s.tmod 2 = 1 then 1 else 0) + pc (half s) := by
  obtain ⟨_, h2, h3⟩ := half_ok hs
  have hlt : s.toNat < 2 ^ 32 := by have := inU32_iff.1 hs; omega
  unfold pc
  rw [bitsL_half hlt, h2]
  by_cases h : s.toNat % 2 = 1
  · simp [h, h3.2 h]; omega
  · have : ¬ s.tmod 2 = 1 := fun e => h (h3.1 e)
    simp [h, this]
theorem nth_half {s : Int} (hs : inU32 s = true) (j : Nat) (hj : j < pc s) : nth s j = if s.tmod 2 = 1 then (if j = 0 then 0 else nth (half s) (j - 1) + 1) else nth (half s) j + 1 := by
  obtain ⟨_, h2, h3⟩ := half_ok hs
  have hlt : s.toNat < 2 ^ 32 := by have := inU32_iff.1 hs; omega
  unfold pc at hj
  unfold nth
  rw [h2]
  rw [bitsL_half hlt] at hj ⊢
  by_cases h : s.toNat % 2 = 1
  · rw [if_pos (h3.2 h)]
    simp only [h, if_true, List.cons_append, List.nil_append] at hj ⊢
    cases j with
    | zero => simp
    | succ j =>
      have : j < (bitsL (s.toNat / 2)).length := by simpa using hj
      simp [this]
  · have : ¬ s.tmod 2 = 1 := fun e => h (h3.1 e)
    rw [if_neg this]
    simp only [h, if_false, List.nil_append] at hj ⊢
    have : j < (bitsL (s.toNat / 2)).length := by simpa using hj
    simp [this]
noncomputable def list20 (vals : List AV) (H : Heap) : Tree Out := match vals, H with
  | [.v (.int .u32 s), .hs a e n, .v (.int .i64 k)], [some (.arr sz q f)] =>
    .chk (Nat.beq a 0 && Nat.beq e 0 && Nat.beq sz 1 && Nat.beq q n && inU32 s && decide (0 ≤ k) && decide (k ≤ 32) && decide (s.toNat < 2 ^ (32 - k.toNat)) && decide (n + pc s ≤ 1000000)) (.chk (isInts f)
      (.leaf ⟨.exit 0, [.any, .hs 0 0 (n + pc s), .any], [some (.arr 1 (n + pc s) (ints fun j => bif decide (j < n) then getI (f j) else bif decide (j < n + pc s) then nth s (j - n) + k else 0))]⟩))
  | _, _ => .fail
noncomputable def L20 : Nat → LSpec := fun _ => ⟨[0, 3, 4], [(1, 3)], list20⟩
def mu20 (vals : List AV) (_ : Heap) : Nat := match vals with
  | .v (.int _ s) :: _ => s.toNat
  | _ => 0
theorem loop20_ok : LoopOK Tryd.prog Γq 0 19 loop20 (L20 0) := by
  refine loop_ok (T := []) (L := L0) (ip := false) (k := 0) mu20 (noLoops (by kernel_rfl)) fun vals H o h => ?_
  unfold L20 list20 at h
  simp only at h
  split at h
  · rename_i s a e n k sz q f
    have hc := (Tree.chk_get h).1
    replace h := (Tree.chk_get h).2
    have hf := (Tree.chk_get h).1
    replace h := Tree.leaf_get (Tree.chk_get h).2
    subst h
    simp only [Bool.and_eq_true, decide_eq_true_eq] at hc
    have hn := hc.2
    have hlt := hc.1.2
    have hk1 := hc.1.1.2
    have hk0 := hc.1.1.1.2
    have hs := hc.1.1.1.1.2
    have hq := hc.1.1.1.1.1.2
    have hsz := hc.1.1.1.1.1.1.2
    have he := hc.1.1.1.1.1.1.1.2
    have ha := hc.1.1.1.1.1.1.1.1
    clear hc
    obtain rfl := Nat.eq_of_beq_eq_true ha
    obtain rfl := Nat.eq_of_beq_eq_true he
    obtain rfl := Nat.eq_of_beq_eq_true hsz
    obtain rfl := Nat.eq_of_beq_eq_true hq
    have hfe := isInts_eq hf
    generalize (fun i => getI (f i)) = g at hfe
    subst hfe
    obtain ⟨i1, i2⟩ := inU32_iff.1 hs
    show (roundE (P := Tryd.prog) (Γ := Γq) [] L0 false 0 0 loop20 [0, 3, 4] [(1, 3)] 19 [.v (.int .u32 s), .hs 0 0 q, .v (.int .i64 k)] [some (.arr 1 q (ints g))]).sat _
    rw [round20]
    simp only [Tree.sat_br, Tree.sat_chk, Tree.sat_leaf, decide_eq_true_eq, decide_eq_false_iff_not]
    obtain ⟨l1, l2, l3⟩ := half_ok hs
    have hp := pc_half hs
    refine ⟨fun h0 => ⟨trivial, fun hodd => ⟨room8 rfl (by omega), trivial, ?_⟩, fun heven => ⟨trivial, ?_⟩⟩, fun h0 => ?_⟩
    · have hk32 : k.toNat < 32 := by
        rcases Nat.lt_or_ge k.toNat 32 with h | h
        · exact h
        · rw [show 32 - k.toNat = 0 by omega] at hlt; omega
      have w1 : IntKind.i64.wrap (k + 1) = k + 1 := wrap64 (by omega) (by omega)
      have hlt2 : (half s).toNat < 2 ^ (32 - (k + 1).toNat) := by
        rw [l2, show 32 - k.toNat = (32 - (k + 1).toNat) + 1 by omega, Nat.pow_succ] at *
        omega
      rw [if_pos hodd] at hp
      refine ⟨_, _, LeL.refl _, LeH.refl _, ?_, by show (half s).toNat < s.toNat; omega⟩
      rw [w1]
      show (list20 [.v (.int .u32 (half s)), .hs 0 0 (q + 1), .v (.int .i64 (k + 1))] [some (.arr 1 (q + 1) (ints fun j => bif decide (j < q) then g (0 + j) else bif (0 + (j - q)).beq 0 then k else 0))]).get = _
      simp only [list20, isInts_ints, l1, Nat.beq_refl, Bool.true_and]
      rw [decide_eq_true (show (0 : Int) ≤ k + 1 by omega), decide_eq_true (show k + 1 ≤ 32 by omega), decide_eq_true hlt2, decide_eq_true (show q + 1 + pc (half s) ≤ 1000000 by omega)]
      simp only [Bool.and_true, Tree.get]
      have e1 : q + 1 + pc (half s) = q + pc s := by omega
      refine out_eq (by rw [e1]) (congrArg (fun x => [x]) (arr_eq e1 fun j => ints_congr ?_))
      simp only [getI_ints]
      rw [e1]
      by_cases hj : j < q
      · simp [hj, Nat.lt_succ_of_lt hj]
      · by_cases hj3 : j < q + pc s
        · have hn2 := nth_half hs (j - q) (by omega)
          rw [if_pos hodd] at hn2
          by_cases hj2 : j = q
          · subst hj2
            simp at hn2
            simp [hn2, hj3]
          · have h4 : ¬ j < q + 1 := by omega
            have h5 : ¬ j - q = 0 := by omega
            rw [if_neg h5] at hn2
            simp only [hj, h4, hj3, decide_false, decide_true, cond_false, cond_true, hn2]
            rw [show j - (q + 1) = j - q - 1 by omega]; omega
        · have h4 : ¬ j < q + 1 := by omega
          simp [hj, h4, hj3]
    · have hk32 : k.toNat < 32 := by
        rcases Nat.lt_or_ge k.toNat 32 with h | h
        · exact h
        · rw [show 32 - k.toNat = 0 by omega] at hlt; omega
      have w1 : IntKind.i64.wrap (k + 1) = k + 1 := wrap64 (by omega) (by omega)
      have hlt2 : (half s).toNat < 2 ^ (32 - (k + 1).toNat) := by
        rw [l2, show 32 - k.toNat = (32 - (k + 1).toNat) + 1 by omega, Nat.pow_succ] at *
        omega
      rw [if_neg heven] at hp
      refine ⟨_, _, LeL.refl _, LeH.refl _, ?_, by show (half s).toNat < s.toNat; omega⟩
      rw [w1]
      show (list20 [.v (.int .u32 (half s)), .hs 0 0 q, .v (.int .i64 (k + 1))] [some (.arr 1 q (ints g))]).get = _
      simp only [list20, isInts_ints, l1, Nat.beq_refl, Bool.true_and]
      rw [decide_eq_true (show (0 : Int) ≤ k + 1 by omega), decide_eq_true (show k + 1 ≤ 32 by omega), decide_eq_true hlt2, decide_eq_true (show q + pc (half s) ≤ 1000000 by omega)]
      simp only [Bool.and_true, Tree.get]
      have e1 : q + pc (half s) = q + pc s := by omega
      refine out_eq (by rw [e1]) (congrArg (fun x => [x]) (arr_eq e1 fun j => ints_congr ?_))
      simp only [getI_ints]
      rw [e1]
      by_cases hj : j < q
      · simp [hj]
      · by_cases hj3 : j < q + pc s
        · have hn2 := nth_half hs (j - q) (by omega)
          rw [if_neg heven] at hn2
          simp only [hj, hj3, decide_false, decide_true, cond_false, cond_true, hn2]; omega
        · simp [hj, hj3]
    · have h00 : s = 0 := by omega
      subst h00
      refine ⟨rfl, ?_, ?_⟩
      · simp [pc_zero]
      · simp only [LeH_cons, LeH_nil, and_true]
        refine OLe.arr (by rw [pc_zero]; rfl) (fun e he => ?_) fun e => rfl
        refine ints_congr ?_
        simp [he]
  · simp [Tree.get] at h
end Go.Eng.Q
