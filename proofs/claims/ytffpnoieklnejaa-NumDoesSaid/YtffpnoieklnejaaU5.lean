/- num: sums of lists: contracts, and the law. -/
import Derived.Test.YtffpnoieklnejaaU4
import Derived.Test.YtffpnoieklnejaaEngAD
namespace Go.Eng.U
open Go Go.Eng Go.Proofs Go.Eng.M
set_option linter.unusedSimpArgs false
set_option linter.unusedVariables false
theorem run13 (m : Nat) (g : Nat → Int) : bodyE (P := Try.prog) (Γ := Γu) [c15'] L13 false 25 [.tmp 2, .tmp 3] (bodyOf Try.f13) [.sl 1 m (ints g)] [] =
  Tree.chk
  (true && decide ((↑m : Int) = (↑m : Int)) && true && decide ((0 : Int) ≤ (↑m : Int)) && decide (m ≤ (2000 : Nat)))
  (Tree.chk (isInts (ints g))
    (Tree.br
      (decide
        ((sumT (fun j => getI [AV.v (Value.int IntKind.i64 (g j))]) (m - Int.toNat (0 : Int)) (Int.toNat (0 : Int))
              (0 : Int)).snd =
          (0 : Int)))
      (Tree.leaf
        {
          val :=
            AV.tup
              [AV.v
                  (Value.int IntKind.i64
                    (sumT (fun j => getI [AV.v (Value.int IntKind.i64 (g j))]) (m - Int.toNat (0 : Int))
                        (Int.toNat (0 : Int)) (0 : Int)).fst),
                AV.v (Value.int IntKind.i64 (0 : Int))],
          H := [] })
      (Tree.leaf
        {
          val :=
            AV.tup
              [AV.v (Value.int IntKind.i64 (0 : Int)),
                AV.v
                  (Value.int IntKind.i64
                    (sumT (fun j => getI [AV.v (Value.int IntKind.i64 (g j))]) (m - Int.toNat (0 : Int))
                        (Int.toNat (0 : Int)) (0 : Int)).snd)],
          H := [] }))) := by kernel_rfl
theorem run14 (m : Nat) (g : Nat → Int) : bodyE (P := Try.prog) (Γ := Γu) [c16'] L14 false 28 [.tmp 2, .tmp 3] (bodyOf Try.f14) [.sl 1 m (ints g)] [] =
  Tree.chk (true && decide ((0 : Int) ≤ (↑m : Int)) && decide (m ≤ (2000 : Nat)))
  (Tree.chk (isInts (ints g))
    (Tree.br
      (decide
        ((sumT (fun j => getI [AV.v (Value.int IntKind.i64 (g j))]) (m - Int.toNat (0 : Int)) (Int.toNat (0 : Int))
              (0 : Int)).snd =
          (0 : Int)))
      (Tree.leaf
        {
          val :=
            AV.tup
              [AV.v
                  (Value.int IntKind.i64
                    (sumT (fun j => getI [AV.v (Value.int IntKind.i64 (g j))]) (m - Int.toNat (0 : Int))
                        (Int.toNat (0 : Int)) (0 : Int)).fst),
                AV.v (Value.int IntKind.i64 (0 : Int))],
          H := [] })
      (Tree.leaf
        {
          val :=
            AV.tup
              [AV.v (Value.int IntKind.i64 (0 : Int)),
                AV.v
                  (Value.int IntKind.i64
                    (sumT (fun j => getI [AV.v (Value.int IntKind.i64 (g j))]) (m - Int.toNat (0 : Int))
                        (Int.toNat (0 : Int)) (0 : Int)).snd)],
          H := [] }))) := by kernel_rfl

theorem sum_shape (g : Nat → Int) : ∀ (k i : Nat) (n : Int), (sumT g k i n).2 ≠ 0 → (sumT g k i n).1 = 0
  | 0, i, n, h => absurd rfl h
  | k + 1, i, n, h => by
    rw [sumT] at h ⊢
    cases hb : decide (addE n (g i) = 0) with
    | true => rw [hb] at h; exact sum_shape g k (i + 1) _ h
    | false => rfl
noncomputable def specS (args : List AV) (Hin : List Blk) : Tree Res := match args, Hin with
  | [.sl sz m f], [] => .chk (Nat.beq sz 1 && decide (m ≤ 2000)) (.chk (isInts f)
      (.leaf { val := .tup [.v (.int .i64 (sumT (fun j => getI (f j)) m 0 0).1), .v (.int .i64 (sumT (fun j => getI (f j)) m 0 0).2)] }))
  | _, _ => .fail
theorem specS_elim {args : List AV} {Hin : List Blk} {r : Res} (h : (specS args Hin).get = some r) (C : List AV → List Blk → Res → Prop) (hC : ∀ (m : Nat) (g : Nat → Int), m ≤ 2000 → C [.sl 1 m (ints g)] [] { val := .tup [.v (.int .i64 (sumT g m 0 0).1), .v (.int .i64 (sumT g m 0 0).2)] }) : C args Hin r := by
  unfold specS at h
  split at h
  · rename_i sz m f
    have hc := (Tree.chk_get h).1
    replace h := (Tree.chk_get h).2
    have hf := (Tree.chk_get h).1
    replace h := Tree.leaf_get (Tree.chk_get h).2
    simp only [Bool.and_eq_true, decide_eq_true_eq] at hc
    obtain rfl := Nat.eq_of_beq_eq_true hc.1
    have hfe := isInts_eq hf
    generalize hg : (fun i => getI (f i)) = g at hfe h
    subst hfe
    subst h
    exact hC m g hc.2
  · simp [Tree.get] at h
theorem gives13 (m : Nat) (g : Nat → Int) (hm : m ≤ 2000) : Gives (bodyE (P := Try.prog) (Γ := Γu) [c15'] L13 false 25 [.tmp 2, .tmp 3] (bodyOf Try.f13) [.sl 1 m (ints g)] []) (.tup [.v (.int .i64 (sumT g m 0 0).1), .v (.int .i64 (sumT g m 0 0).2)]) := ⟨by
  rw [run13]
  show (Tree.chk _ (Tree.chk _ (Tree.br (decide ((sumT g m 0 0).2 = 0)) (.leaf (Ans.mk (.tup [.v (.int .i64 (sumT g m 0 0).1), .v (.int .i64 0)]) [])) (.leaf (Ans.mk (.tup [.v (.int .i64 0), .v (.int .i64 (sumT g m 0 0).2)]) []))))).sat _
  simp only [Tree.sat_br, Tree.sat_chk, Tree.sat_leaf, isInts_ints, decide_eq_true_eq, decide_eq_false_iff_not, Bool.true_and, Bool.and_eq_true, true_and]
  refine ⟨⟨by omega, hm⟩, fun h => ⟨by rw [h]; exact .refl _, trivial⟩, fun h => ⟨by rw [sum_shape g m 0 0 h]; exact .refl _, trivial⟩⟩⟩
theorem gives14 (m : Nat) (g : Nat → Int) (hm : m ≤ 2000) : Gives (bodyE (P := Try.prog) (Γ := Γu) [c16'] L14 false 28 [.tmp 2, .tmp 3] (bodyOf Try.f14) [.sl 1 m (ints g)] []) (.tup [.v (.int .i64 (sumT g m 0 0).1), .v (.int .i64 (sumT g m 0 0).2)]) := ⟨by
  rw [run14]
  show (Tree.chk _ (Tree.chk _ (Tree.br (decide ((sumT g m 0 0).2 = 0)) (.leaf (Ans.mk (.tup [.v (.int .i64 (sumT g m 0 0).1), .v (.int .i64 0)]) [])) (.leaf (Ans.mk (.tup [.v (.int .i64 0), .v (.int .i64 (sumT g m 0 0).2)]) []))))).sat _
  simp only [Tree.sat_br, Tree.sat_chk, Tree.sat_leaf, isInts_ints, decide_eq_true_eq, decide_eq_false_iff_not, Bool.true_and, Bool.and_eq_true, true_and]
  refine ⟨⟨by omega, hm⟩, fun h => ⟨by rw [h]; exact .refl _, trivial⟩, fun h => ⟨by rw [sum_shape g m 0 0 h]; exact .refl _, trivial⟩⟩⟩
noncomputable def c13' : CT Try.prog Γu := CT.told 13 Try.f13 (bodyOf Try.f13) [c15'] L13 false 25 [.tmp 2, .tmp 3] specS Try.func13 (by kernel_rfl) (by kernel_rfl) (by kernel_rfl) (by kernel_rfl)
  (fun args Hin r h => specS_elim h (fun _ Hin _ => ∀ (j : Nat) (b : Code), (loopBodies (bodyOf Try.f13))[j]? = some b → LoopOK Try.prog Γu Hin.length 25 b (L13 j)) fun _ _ _ => oneLoop (b := loop13) (by kernel_rfl) loop13_ok)
  (fun args Hin r h => specS_elim h (fun args Hin r => args.length ≤ 25 ∧ Meets (bodyE (P := Try.prog) (Γ := Γu) [c15'] L13 false 25 [.tmp 2, .tmp 3] (bodyOf Try.f13) args Hin) r.val (r.heap Hin)) fun m g hm => by
    refine ⟨by simp, ?_⟩
    exact (gives13 m g hm).meets)
noncomputable def c14' : CT Try.prog Γu := CT.told 14 Try.f14 (bodyOf Try.f14) [c16'] L14 false 28 [.tmp 2, .tmp 3] specS Try.func14 (by kernel_rfl) (by kernel_rfl) (by kernel_rfl) (by kernel_rfl)
  (fun args Hin r h => specS_elim h (fun _ Hin _ => ∀ (j : Nat) (b : Code), (loopBodies (bodyOf Try.f14))[j]? = some b → LoopOK Try.prog Γu Hin.length 28 b (L14 j)) fun _ _ _ => oneLoop (b := loop14) (by kernel_rfl) loop14_ok)
  (fun args Hin r h => specS_elim h (fun args Hin r => args.length ≤ 28 ∧ Meets (bodyE (P := Try.prog) (Γ := Γu) [c16'] L14 false 28 [.tmp 2, .tmp 3] (bodyOf Try.f14) args Hin) r.val (r.heap Hin)) fun m g hm => by
    refine ⟨by simp, ?_⟩
    exact (gives14 m g hm).meets)
end Go.Eng.U
