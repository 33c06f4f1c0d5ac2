import Derived.Test.YthnbpcmajdinpaaDoorTestQ3
import Derived.Test.YthnbpcmajdinpaaDoorQM2
namespace Go.Eng.Q
open Go Go.Eng Go.Eng.M Go.Proofs
set_option linter.unusedSimpArgs false
set_option linter.unusedVariables false
/-! ### math/bits.OnesCount32 -/
noncomputable def spec26 : List AV → List Blk → Tree Res := fun args Hin => match args, Hin with
  | [.v (.int .u32 s)], [] => .chk (inU32 s) (.leaf { val := .v (.int .i64 (pc s)) })
  | _, _ => .fail
theorem run26 (a : Int) : bodyE (P := Tryd.prog) (Γ := Γq) [] L0 false 21 [.tmp 2] (bodyOf Tryd.f26) [.v (.int .u32 a)] [] =
    .chk (decide ((0:Int) ≤ 24) && (decide (0 ≤ a.fdiv (2 ^ min (Int.toNat 24) IntKind.u32.bits)) && decide (a.fdiv (2 ^ min (Int.toNat 24) IntKind.u32.bits) < (tab.size : Int)) &&
      (decide ((0:Int) ≤ 16) && (decide (0 ≤ bitI .and .u32 (a.fdiv (2 ^ min (Int.toNat 16) IntKind.u32.bits)) 255) && decide (bitI .and .u32 (a.fdiv (2 ^ min (Int.toNat 16) IntKind.u32.bits)) 255 < (tab.size : Int)) &&
      (decide ((0:Int) ≤ 8) && (decide (0 ≤ bitI .and .u32 (a.fdiv (2 ^ min (Int.toNat 8) IntKind.u32.bits)) 255) && decide (bitI .and .u32 (a.fdiv (2 ^ min (Int.toNat 8) IntKind.u32.bits)) 255 < (tab.size : Int)) &&
      (decide (0 ≤ bitI .and .u32 a 255) && decide (bitI .and .u32 a 255 < (tab.size : Int)))))))))
    (.leaf { val := .v (.int .i64 (IntKind.i64.wrap (IntKind.u8.wrap (IntKind.u8.wrap (IntKind.u8.wrap (sbyte tab (a.fdiv (2 ^ min (Int.toNat 24) IntKind.u32.bits)).toNat +
      sbyte tab (bitI .and .u32 (a.fdiv (2 ^ min (Int.toNat 16) IntKind.u32.bits)) 255).toNat) + sbyte tab (bitI .and .u32 (a.fdiv (2 ^ min (Int.toNat 8) IntKind.u32.bits)) 255).toNat) +
      sbyte tab (bitI .and .u32 a 255).toNat)))), H := [] }) := by kernel_rfl
noncomputable def c26 : CT Tryd.prog Γq := CT.summed 26 Tryd.f26 (bodyOf Tryd.f26) [] L0 false 21 [.tmp 2] spec26 Tryd.func26 (by kernel_rfl) (by kernel_rfl) (by kernel_rfl) (by kernel_rfl) (fun _ _ _ _ => noLoops (by kernel_rfl)) (by
  intro args Hin r h
  unfold spec26 at h
  split at h
  · rename_i s
    obtain ⟨hc, h⟩ := Tree.chk_get h
    obtain rfl := Tree.leaf_get h
    refine ⟨by simp, ?_⟩
    rw [run26]
    obtain ⟨h1, h2, h3, h4, h5, h6, h7, h8, h9⟩ := ones_table hc
    simp only [Tree.sat_chk, Tree.sat_leaf, Bool.and_eq_true, decide_eq_true_eq]
    exact ⟨⟨by decide, ⟨h1, h2⟩, by decide, ⟨h3, h4⟩, by decide, ⟨h5, h6⟩, h7, h8⟩, .of_eq (by rw [h9]), trivial⟩
  · simp [Tree.get] at h)

/-! ### quorum.List -/
noncomputable def spec17 : List AV → List Blk → Tree Res := fun args Hin => match args, Hin with
  | [.v (.int .u32 s)], [] => .chk (inU32 s) (.leaf { val := .hs 0 0 (pc s), new := [.arr 1 (pc s) (ints (nth s))] })
  | _, _ => .fail
theorem run17 (a : Int) : bodyE (P := Tryd.prog) (Γ := Γq) [] L17 false 16 [.tmp 2] (bodyOf Tryd.f17) [.v (.int .u32 a)] [] =
    .chk (inU32 a && decide (0 + pc a ≤ 1000000)) (.chk (isInts fun _ => [.v (.int .i64 0)])
      (.leaf { val := .hs 0 0 (0 + pc a), H := [some (.arr 1 (0 + pc a) (ints fun j => bif decide (j < 0) then 0 else nth a (j - 0)))] })) := by kernel_rfl
theorem pc_le (s : Int) : pc s ≤ 32 := by
  unfold pc bitsL
  exact Nat.le_trans (List.length_filter_le _ _) (by simp)
noncomputable def c17 : CT Tryd.prog Γq := CT.summed 17 Tryd.f17 (bodyOf Tryd.f17) [] L17 false 16 [.tmp 2] spec17 Tryd.func17 (by kernel_rfl) (by kernel_rfl) (by kernel_rfl) (by kernel_rfl)
  (fun args Hin r h => by
    unfold spec17 at h
    split at h
    · exact oneLoop (b := loop17) (by kernel_rfl) loop17_ok
    · simp [Tree.get] at h) (by
  intro args Hin r h
  unfold spec17 at h
  split at h
  · rename_i s
    obtain ⟨hc, h⟩ := Tree.chk_get h
    obtain rfl := Tree.leaf_get h
    refine ⟨by simp, ?_⟩
    rw [run17]
    have := pc_le s
    simp only [Tree.sat_chk, Tree.sat_leaf, Bool.and_eq_true, decide_eq_true_eq]
    refine ⟨⟨hc, by omega⟩, isInts_ints fun _ => 0, by rw [Nat.zero_add]; exact .refl _, ?_⟩
    show LeH _ [some (Blk.arr 1 (pc s) (ints (nth s)))]
    refine ⟨OLe.arr (by rw [Nat.zero_add]) (fun e he => ints_congr (by simp)) (fun e => rfl), trivial⟩
  · simp [Tree.get] at h)
/-! ### the counts -/
def timesF (k f : Int) : Int := if f < 1 ∨ 3 < f then 0 else k * f + 1
def fullF (f : Int) : Int := if f < 1 ∨ 3 < f then 0 else if f = 1 then 15 else if f = 2 then 127 else 1023
def leadF (f r : Int) : Int := if f < 1 ∨ 3 < f then 0 else r % (3 * f + 1)
theorem few {f : Int} (h : ¬ (f < 1 ∨ 3 < f)) : f = 1 ∨ f = 2 ∨ f = 3 := by omega
theorem wrap64 {x : Int} (h : -9223372036854775808 ≤ x) (h' : x ≤ 9223372036854775807) : IntKind.i64.wrap x = x := by
  simp only [IntKind.wrap, IntKind.signed, IntKind.bits]; simp; omega
theorem bad_iff {f : Int} : (bif decide (f < 1) then true else decide (3 < f)) = true ↔ (f < 1 ∨ 3 < f) := by
  by_cases h : f < 1 <;> simp [h]
theorem bad_iff' {f : Int} : (bif decide (f < 1) then true else decide (3 < f)) = false ↔ ¬ (f < 1 ∨ 3 < f) := by
  by_cases h : f < 1 <;> simp [h]
theorem run25 (k f : Int) : bodyE (P := Tryd.prog) (Γ := Γq) [] L0 false 15 [.tmp 4] (bodyOf Tryd.f25) [.v (.int .i64 k), .v (.int .i64 f)] [] =
    .br (bif decide (f < 1) then true else decide (3 < f)) (.leaf { val := .v (.int .i64 0), H := [] }) (.leaf { val := .v (.int .i64 (IntKind.i64.wrap (IntKind.i64.wrap (k * f) + 1))), H := [] }) := by kernel_rfl
noncomputable def c25 : CT Tryd.prog Γq := CT.fun2 25 Tryd.f25 (bodyOf Tryd.f25) [] L0 false 15 [.tmp 4] .i64 .i64 (fun k f => decide (0 ≤ k) && decide (k ≤ 3)) (fun k f => .v (.int .i64 (timesF k f))) Tryd.func25 (by kernel_rfl) (by kernel_rfl) (by kernel_rfl) (by kernel_rfl) (by decide) (noLoops (by kernel_rfl)) (by
  intro k f hp
  simp only [Bool.and_eq_true, decide_eq_true_eq] at hp
  rw [run25]
  simp only [Tree.sat_br, Tree.sat_leaf, bad_iff, bad_iff', timesF]
  refine ⟨fun h => ⟨.int (by rw [if_pos h]), trivial⟩, fun h => ⟨.int ?_, trivial⟩⟩
  rw [if_neg h]
  rcases few h with rfl | rfl | rfl
  · rw [wrap64 (x := k * 1) (by omega) (by omega), wrap64 (by omega) (by omega)]
  · rw [wrap64 (x := k * 2) (by omega) (by omega), wrap64 (by omega) (by omega)]
  · rw [wrap64 (x := k * 3) (by omega) (by omega), wrap64 (by omega) (by omega)])
theorem run13 (f : Int) : bodyE (P := Tryd.prog) (Γ := Γq) [] L0 false 15 [.tmp 2] (bodyOf Tryd.f13) [.v (.int .i64 f)] [] =
    .br (bif decide (f < 1) then true else decide (3 < f)) (.leaf { val := .v (.int .i64 0), H := [] }) (.leaf { val := .v (.int .i64 (IntKind.i64.wrap (IntKind.i64.wrap (IntKind.i64.wrap (f + f) + f) + 1))), H := [] }) := by kernel_rfl
noncomputable def c13 : CT Tryd.prog Γq := CT.fun1 13 Tryd.f13 (bodyOf Tryd.f13) [] L0 false 15 [.tmp 2] .i64 (fun _ => true) (fun f => .v (.int .i64 (timesF 3 f))) Tryd.func13 (by kernel_rfl) (by kernel_rfl) (by kernel_rfl) (by kernel_rfl) (by decide) (noLoops (by kernel_rfl)) (by
  intro f _
  rw [run13]
  simp only [Tree.sat_br, Tree.sat_leaf, bad_iff, bad_iff', timesF]
  refine ⟨fun h => ⟨.int (by rw [if_pos h]), trivial⟩, fun h => ⟨.int ?_, trivial⟩⟩
  rw [if_neg h]
  rcases few h with rfl | rfl | rfl <;> decide)
theorem times_zero {f : Int} : timesF 3 f = 0 ↔ (f < 1 ∨ 3 < f) := by
  unfold timesF; split <;> omega
theorem run14 (f : Int) : bodyE (P := Tryd.prog) (Γ := Γq) [c13] L0 false 10 [.tmp 2] (bodyOf Tryd.f14) [.v (.int .i64 f)] [] =
    .chk true (.br (decide (timesF 3 f = 0)) (.leaf { val := .v (.int .i64 0), H := [] }) (.leaf { val := .v (.int .i64 (IntKind.i64.wrap (IntKind.i64.wrap (f + f) + 1))), H := [] })) := by kernel_rfl
noncomputable def c14 : CT Tryd.prog Γq := CT.fun1 14 Tryd.f14 (bodyOf Tryd.f14) [c13] L0 false 10 [.tmp 2] .i64 (fun _ => true) (fun f => .v (.int .i64 (timesF 2 f))) Tryd.func14 (by kernel_rfl) (by kernel_rfl) (by kernel_rfl) (by kernel_rfl) (by decide) (noLoops (by kernel_rfl)) (by
  intro f _
  rw [run14]
  simp only [Tree.sat_br, Tree.sat_leaf, Tree.sat_chk, decide_eq_true_eq, decide_eq_false_iff_not, times_zero]
  refine ⟨trivial, fun h => ⟨.int (by rw [timesF, if_pos h]), trivial⟩, fun h => ⟨.int ?_, trivial⟩⟩
  rw [timesF, if_neg h]
  rcases few h with rfl | rfl | rfl <;> decide)
theorem run8 (f : Int) : bodyE (P := Tryd.prog) (Γ := Γq) [c25] L0 false 5 [.tmp 2] (bodyOf Tryd.f8) [.v (.int .i64 f)] [] = .chk true (.leaf { val := .v (.int .i64 (timesF 3 f)), H := [] }) := by kernel_rfl
noncomputable def c8 : CT Tryd.prog Γq := CT.fun1 8 Tryd.f8 (bodyOf Tryd.f8) [c25] L0 false 5 [.tmp 2] .i64 (fun _ => true) (fun f => .v (.int .i64 (timesF 3 f))) Tryd.func8 (by kernel_rfl) (by kernel_rfl) (by kernel_rfl) (by kernel_rfl) (by decide) (noLoops (by kernel_rfl)) (fun f _ => by
  rw [run8]; exact ⟨rfl, .refl _, trivial⟩)
theorem run11 (f : Int) : bodyE (P := Tryd.prog) (Γ := Γq) [c25] L0 false 5 [.tmp 2] (bodyOf Tryd.f11) [.v (.int .i64 f)] [] = .chk true (.leaf { val := .v (.int .i64 (timesF 2 f)), H := [] }) := by kernel_rfl
noncomputable def c11 : CT Tryd.prog Γq := CT.fun1 11 Tryd.f11 (bodyOf Tryd.f11) [c25] L0 false 5 [.tmp 2] .i64 (fun _ => true) (fun f => .v (.int .i64 (timesF 2 f))) Tryd.func11 (by kernel_rfl) (by kernel_rfl) (by kernel_rfl) (by kernel_rfl) (by decide) (noLoops (by kernel_rfl)) (fun f _ => by
  rw [run11]; exact ⟨rfl, .refl _, trivial⟩)
theorem run12 (f : Int) : bodyE (P := Tryd.prog) (Γ := Γq) [c25] L0 false 5 [.tmp 2] (bodyOf Tryd.f12) [.v (.int .i64 f)] [] = .chk true (.leaf { val := .v (.int .i64 (timesF 1 f)), H := [] }) := by kernel_rfl
noncomputable def c12 : CT Tryd.prog Γq := CT.fun1 12 Tryd.f12 (bodyOf Tryd.f12) [c25] L0 false 5 [.tmp 2] .i64 (fun _ => true) (fun f => .v (.int .i64 (timesF 1 f))) Tryd.func12 (by kernel_rfl) (by kernel_rfl) (by kernel_rfl) (by kernel_rfl) (by decide) (noLoops (by kernel_rfl)) (fun f _ => by
  rw [run12]; exact ⟨rfl, .refl _, trivial⟩)
theorem run9 (f : Int) : bodyE (P := Tryd.prog) (Γ := Γq) [c8] L0 false 7 [.tmp 2] (bodyOf Tryd.f9) [.v (.int .i64 f)] [] =
    .chk (decide (0 ≤ timesF 3 f)) (.leaf { val := .v (.int .u32 (IntKind.u32.wrap (IntKind.u32.wrap (1 * 2 ^ min (timesF 3 f).toNat IntKind.u32.bits) - 1))), H := [] }) := by kernel_rfl
noncomputable def c9 : CT Tryd.prog Γq := CT.fun1 9 Tryd.f9 (bodyOf Tryd.f9) [c8] L0 false 7 [.tmp 2] .i64 (fun _ => true) (fun f => .v (.int .u32 (fullF f))) Tryd.func9 (by kernel_rfl) (by kernel_rfl) (by kernel_rfl) (by kernel_rfl) (by decide) (noLoops (by kernel_rfl)) (fun f _ => by
  rw [run9]
  simp only [Tree.sat_leaf, Tree.sat_chk, decide_eq_true_eq]
  by_cases h : f < 1 ∨ 3 < f
  · refine ⟨by rw [timesF, if_pos h]; decide, .int ?_, trivial⟩
    rw [timesF, if_pos h, fullF, if_pos h]; decide
  · rcases few h with rfl | rfl | rfl <;> exact ⟨by decide, .int (by decide), trivial⟩)
theorem tmod_emod (r : Int) {n : Int} (hn : n = 4 ∨ n = 7 ∨ n = 10) : -n < r.tmod n ∧ r.tmod n < n ∧ (r.tmod n < 0 → r.tmod n + n = r % n) ∧ (0 ≤ r.tmod n → r.tmod n = r % n) := by
  by_cases h : 0 ≤ r
  · rw [Int.tmod_eq_emod_of_nonneg h]
    rcases hn with rfl | rfl | rfl <;> omega
  · obtain ⟨m, rfl⟩ : ∃ m : Nat, r = -(m : Int) := ⟨r.natAbs, by omega⟩
    rw [Int.neg_tmod, Int.tmod_eq_emod_of_nonneg (by omega)]
    rcases hn with rfl | rfl | rfl <;> omega
theorem times3 {f : Int} (h : ¬ (f < 1 ∨ 3 < f)) : timesF 3 f = 3 * f + 1 ∧ (3 * f + 1 = 4 ∨ 3 * f + 1 = 7 ∨ 3 * f + 1 = 10) := by
  rw [timesF, if_neg h]; exact ⟨rfl, by omega⟩
theorem run15 (f r : Int) : bodyE (P := Tryd.prog) (Γ := Γq) [c8] L0 false 17 [.tmp 4] (bodyOf Tryd.f15) [.v (.int .i64 f), .v (.int .i64 r)] [] =
    .chk true (.br (decide (timesF 3 f = 0)) (.leaf { val := .v (.int .i64 0), H := [] }) (.chk (!decide (timesF 3 f = 0) && !decide (timesF 3 f = 0))
      (.leaf { val := .v (.int .i64 ((IntKind.i64.wrap (r.tmod (timesF 3 f) + timesF 3 f)).tmod (timesF 3 f))), H := [] }))) := by kernel_rfl
noncomputable def c15 : CT Tryd.prog Γq := CT.fun2 15 Tryd.f15 (bodyOf Tryd.f15) [c8] L0 false 17 [.tmp 4] .i64 .i64 (fun _ _ => true) (fun f r => .v (.int .i64 (leadF f r))) Tryd.func15 (by kernel_rfl) (by kernel_rfl) (by kernel_rfl) (by kernel_rfl) (by decide) (noLoops (by kernel_rfl)) (fun f r _ => by
  rw [run15]
  simp only [Tree.sat_br, Tree.sat_leaf, Tree.sat_chk, decide_eq_true_eq, decide_eq_false_iff_not, times_zero]
  refine ⟨trivial, fun h => ⟨.int (by rw [leadF, if_pos h]), trivial⟩, fun h => ⟨by simp [times_zero, h], .int ?_, trivial⟩⟩
  obtain ⟨h1, h2⟩ := times3 h
  rw [leadF, if_neg h, h1]
  generalize 3 * f + 1 = n at h2
  obtain ⟨k1, k2, k3, k4⟩ := tmod_emod r h2
  rw [wrap64 (by omega) (by omega), Int.tmod_eq_emod_of_nonneg (by omega)]
  rcases h2 with rfl | rfl | rfl <;> omega)
theorem run16 (f r : Int) : bodyE (P := Tryd.prog) (Γ := Γq) [c13] L0 false 20 [.tmp 4] (bodyOf Tryd.f16) [.v (.int .i64 f), .v (.int .i64 r)] [] =
    .chk true (.br (decide (timesF 3 f = 0)) (.leaf { val := .v (.int .i64 0), H := [] }) (.chk (!decide (timesF 3 f = 0))
      (.br (decide (r.tmod (timesF 3 f) < 0)) (.leaf { val := .v (.int .i64 (IntKind.i64.wrap (r.tmod (timesF 3 f) + timesF 3 f))), H := [] }) (.leaf { val := .v (.int .i64 (r.tmod (timesF 3 f))), H := [] })))) := by kernel_rfl
noncomputable def c16 : CT Tryd.prog Γq := CT.fun2 16 Tryd.f16 (bodyOf Tryd.f16) [c13] L0 false 20 [.tmp 4] .i64 .i64 (fun _ _ => true) (fun f r => .v (.int .i64 (leadF f r))) Tryd.func16 (by kernel_rfl) (by kernel_rfl) (by kernel_rfl) (by kernel_rfl) (by decide) (noLoops (by kernel_rfl)) (fun f r _ => by
  rw [run16]
  simp only [Tree.sat_br, Tree.sat_leaf, Tree.sat_chk, decide_eq_true_eq, decide_eq_false_iff_not, times_zero]
  refine ⟨trivial, fun h => ⟨.int (by rw [leadF, if_pos h]), trivial⟩, fun h => ⟨by simp [times_zero, h], ?_⟩⟩
  obtain ⟨h1, h2⟩ := times3 h
  rw [leadF, if_neg h, h1]
  generalize 3 * f + 1 = n at h2
  obtain ⟨k1, k2, k3, k4⟩ := tmod_emod r h2
  refine ⟨fun h3 => ⟨.int ?_, trivial⟩, fun h3 => ⟨.int (k4 (by omega)), trivial⟩⟩
  rw [wrap64 (by omega) (by omega)]
  exact k3 h3)
theorem run10 (s : Int) : bodyE (P := Tryd.prog) (Γ := Γq) [c26] L0 false 5 [.tmp 2] (bodyOf Tryd.f10) [.v (.int .u32 s)] [] = .chk (inU32 s) (.leaf { val := .v (.int .i64 (pc s)), H := [] }) := by kernel_rfl
noncomputable def c10 : CT Tryd.prog Γq := CT.fun1 10 Tryd.f10 (bodyOf Tryd.f10) [c26] L0 false 5 [.tmp 2] .u32 inU32 (fun s => .v (.int .i64 (pc s))) Tryd.func10 (by kernel_rfl) (by kernel_rfl) (by kernel_rfl) (by kernel_rfl) (by decide) (noLoops (by kernel_rfl)) (fun s h => by
  rw [run10]; exact ⟨h, .refl _, trivial⟩)
end Go.Eng.Q
