/- num: sums of lists: the loops. -/
import Derived.Test.YtffpnoieklnejaaU3
namespace Go.Eng.U
open Go Go.Eng Go.Proofs Go.Eng.M
set_option linter.unusedSimpArgs false
set_option linter.unusedVariables false
theorem round13 (n i : Int) (m : Nat) (e : Nat → Int) : roundE (P := Try.prog) (Γ := Γu) [c15'] Lno false 0 0 loop13 [2, 3, 4, 8, 9, 10] [] 25 [.v (.int .i64 0), .v (.int .i64 0), .v (.int .i64 n), .sl 1 m (ints e), .v (.int .i64 (m : Int)), .v (.int .i64 i)] [] =
  Tree.br (decide (i < (↑m : Int)))
  (Tree.chk (decide ((0 : Int) ≤ i) && decide (i < (↑m : Int)))
    (Tree.chk (true && true)
      (Tree.br (!decide (addE n (e i.toNat) = (0 : Int)))
        (Tree.leaf
          { ex := AEx.ret,
            fr :=
              [AV.v (Value.int IntKind.i64 (0 : Int)), AV.v (Value.int IntKind.i64 (addE n (e i.toNat))),
                AV.v (Value.int IntKind.i64 (addF n (e i.toNat))),
                AV.sl (1 : Nat) m fun i => [AV.v (Value.int IntKind.i64 (e i))],
                AV.v (Value.int IntKind.i64 (↑m : Int)), AV.v (Value.int IntKind.i64 i)],
            H := [] })
        (Tree.leaf
          { ex := AEx.normal,
            fr :=
              [AV.v (Value.int IntKind.i64 (0 : Int)), AV.v (Value.int IntKind.i64 (0 : Int)),
                AV.v (Value.int IntKind.i64 (addF n (e i.toNat))),
                AV.sl (1 : Nat) m fun i => [AV.v (Value.int IntKind.i64 (e i))],
                AV.v (Value.int IntKind.i64 (↑m : Int)),
                AV.v (Value.int IntKind.i64 (IntKind.i64.wrap (i + (1 : Int))))],
            H := [] }))))
  (Tree.leaf
    { ex := AEx.exit (0 : Nat),
      fr :=
        [AV.v (Value.int IntKind.i64 (0 : Int)), AV.v (Value.int IntKind.i64 (0 : Int)), AV.v (Value.int IntKind.i64 n),
          AV.sl (1 : Nat) m fun i => [AV.v (Value.int IntKind.i64 (e i))], AV.v (Value.int IntKind.i64 (↑m : Int)),
          AV.v (Value.int IntKind.i64 i)],
      H := [] }) := by kernel_rfl
theorem round14 (n i : Int) (m : Nat) (e : Nat → Int) : roundE (P := Try.prog) (Γ := Γu) [c16'] Lno false 0 0 loop14 [2, 3, 0, 4, 5] [] 28 [.v (.int .i64 0), .v (.int .i64 0), .sl 1 m (ints e), .v (.int .i64 n), .v (.int .i64 i)] [] =
  Tree.br (decide (i < (↑m : Int)))
  (Tree.chk (decide ((0 : Int) ≤ i) && decide (i < (↑m : Int)) && (true && true))
    (Tree.br (!decide (addE n (e i.toNat) = (0 : Int)))
      (Tree.leaf
        { ex := AEx.ret,
          fr :=
            [AV.v (Value.int IntKind.i64 (0 : Int)), AV.v (Value.int IntKind.i64 (addE n (e i.toNat))),
              AV.sl (1 : Nat) m fun i => [AV.v (Value.int IntKind.i64 (e i))], AV.v (Value.int IntKind.i64 n),
              AV.v (Value.int IntKind.i64 i)],
          H := [] })
      (Tree.leaf
        { ex := AEx.normal,
          fr :=
            [AV.v (Value.int IntKind.i64 (0 : Int)), AV.v (Value.int IntKind.i64 (0 : Int)),
              AV.sl (1 : Nat) m fun i => [AV.v (Value.int IntKind.i64 (e i))],
              AV.v (Value.int IntKind.i64 (addF n (e i.toNat))),
              AV.v (Value.int IntKind.i64 (IntKind.i64.wrap (i + (1 : Int))))],
          H := [] })))
  (Tree.leaf
    { ex := AEx.exit (0 : Nat),
      fr :=
        [AV.v (Value.int IntKind.i64 (0 : Int)), AV.v (Value.int IntKind.i64 (0 : Int)),
          AV.sl (1 : Nat) m fun i => [AV.v (Value.int IntKind.i64 (e i))], AV.v (Value.int IntKind.i64 n),
          AV.v (Value.int IntKind.i64 i)],
      H := [] }) := by kernel_rfl

/-- the sum of k numbers from the i-th on, and the error -/
def sumT (g : Nat → Int) : Nat → Nat → Int → Int × Int
  | 0, _, n => (n, 0)
  | k + 1, i, n => bif decide (addE n (g i) = 0) then sumT g k (i + 1) (addF n (g i)) else (0, addE n (g i))
noncomputable def list13 (vals : List AV) (H : Heap) : Tree Out := match vals, H with
  | [.v (.int .i64 0), .v (.int .i64 0), .v (.int .i64 n), .sl sz m f, .v (.int .i64 l), .v (.int .i64 i)], [] =>
    .chk (Nat.beq sz 1 && decide (l = (m : Int)) && decide (0 ≤ i) && decide (i ≤ m) && decide (m ≤ 2000)) (.chk (isInts f)
      (.br (decide ((sumT (fun j => getI (f j)) (m - i.toNat) i.toNat n).2 = 0)) (.leaf ⟨.exit 0, [.v (.int .i64 0), .v (.int .i64 0), .v (.int .i64 (sumT (fun j => getI (f j)) (m - i.toNat) i.toNat n).1), .any, .any, .any], []⟩)
        (.leaf ⟨.ret, [.v (.int .i64 0), .v (.int .i64 (sumT (fun j => getI (f j)) (m - i.toNat) i.toNat n).2), .any, .any, .any, .any], []⟩)))
  | _, _ => .fail
noncomputable def list14 (vals : List AV) (H : Heap) : Tree Out := match vals, H with
  | [.v (.int .i64 0), .v (.int .i64 0), .sl sz m f, .v (.int .i64 n), .v (.int .i64 i)], [] =>
    .chk (Nat.beq sz 1 && decide (0 ≤ i) && decide (i ≤ m) && decide (m ≤ 2000)) (.chk (isInts f)
      (.br (decide ((sumT (fun j => getI (f j)) (m - i.toNat) i.toNat n).2 = 0)) (.leaf ⟨.exit 0, [.v (.int .i64 0), .v (.int .i64 0), .any, .v (.int .i64 (sumT (fun j => getI (f j)) (m - i.toNat) i.toNat n).1), .any], []⟩)
        (.leaf ⟨.ret, [.v (.int .i64 0), .v (.int .i64 (sumT (fun j => getI (f j)) (m - i.toNat) i.toNat n).2), .any, .any, .any], []⟩)))
  | _, _ => .fail
theorem br_get {α : Type} {c : Bool} {a b r : α} (h : (Tree.br c (.leaf a) (.leaf b)).get = some r) : r = bif c then a else b := by
  cases c <;> (simp only [Tree.get, Option.some.injEq] at h; exact h.symm)
theorem list13_elim {vals : List AV} {H : Heap} {o : Out} (h : (list13 vals H).get = some o) (C : List AV → Heap → Out → Prop) (hC : ∀ (n : Int) (m i : Nat) (g : Nat → Int), i ≤ m → m ≤ 2000 →
    C [.v (.int .i64 0), .v (.int .i64 0), .v (.int .i64 n), .sl 1 m (ints g), .v (.int .i64 (m : Int)), .v (.int .i64 (i : Int))] []
      (bif decide ((sumT g (m - i) i n).2 = 0) then ⟨.exit 0, [.v (.int .i64 0), .v (.int .i64 0), .v (.int .i64 (sumT g (m - i) i n).1), .any, .any, .any], []⟩ else ⟨.ret, [.v (.int .i64 0), .v (.int .i64 (sumT g (m - i) i n).2), .any, .any, .any, .any], []⟩)) : C vals H o := by
  unfold list13 at h
  split at h
  · rename_i n sz m f l i
    have hc := (Tree.chk_get h).1
    replace h := (Tree.chk_get h).2
    have hf := (Tree.chk_get h).1
    replace h := br_get (Tree.chk_get h).2
    simp only [Bool.and_eq_true, decide_eq_true_eq] at hc
    have hm := hc.2
    have hi1 := hc.1.2
    have hi0 := hc.1.1.2
    have hl := hc.1.1.1.2
    have hs := hc.1.1.1.1
    clear hc
    obtain rfl := Nat.eq_of_beq_eq_true hs
    obtain ⟨k, hk⟩ := Int.eq_ofNat_of_zero_le hi0
    subst hk
    subst hl
    have hfe := isInts_eq hf
    generalize hg : (fun i => getI (f i)) = g at hfe h
    subst hfe
    rw [Int.toNat_natCast] at h
    subst h
    exact hC n m k g (by omega) hm
  · simp [Tree.get] at h
theorem list14_elim {vals : List AV} {H : Heap} {o : Out} (h : (list14 vals H).get = some o) (C : List AV → Heap → Out → Prop) (hC : ∀ (n : Int) (m i : Nat) (g : Nat → Int), i ≤ m → m ≤ 2000 →
    C [.v (.int .i64 0), .v (.int .i64 0), .sl 1 m (ints g), .v (.int .i64 n), .v (.int .i64 (i : Int))] []
      (bif decide ((sumT g (m - i) i n).2 = 0) then ⟨.exit 0, [.v (.int .i64 0), .v (.int .i64 0), .any, .v (.int .i64 (sumT g (m - i) i n).1), .any], []⟩ else ⟨.ret, [.v (.int .i64 0), .v (.int .i64 (sumT g (m - i) i n).2), .any, .any, .any], []⟩)) : C vals H o := by
  unfold list14 at h
  split at h
  · rename_i sz m f n i
    have hc := (Tree.chk_get h).1
    replace h := (Tree.chk_get h).2
    have hf := (Tree.chk_get h).1
    replace h := br_get (Tree.chk_get h).2
    simp only [Bool.and_eq_true, decide_eq_true_eq] at hc
    have hm := hc.2
    have hi1 := hc.1.2
    have hi0 := hc.1.1.2
    have hs := hc.1.1.1
    clear hc
    obtain rfl := Nat.eq_of_beq_eq_true hs
    obtain ⟨k, hk⟩ := Int.eq_ofNat_of_zero_le hi0
    subst hk
    have hfe := isInts_eq hf
    generalize hg : (fun i => getI (f i)) = g at hfe h
    subst hfe
    rw [Int.toNat_natCast] at h
    subst h
    exact hC n m k g (by omega) hm
  · simp [Tree.get] at h
theorem list13_at (n : Int) (m i : Nat) (g : Nat → Int) (h : i ≤ m) (hm : m ≤ 2000) : (list13 [.v (.int .i64 0), .v (.int .i64 0), .v (.int .i64 n), .sl 1 m (ints g), .v (.int .i64 (m : Int)), .v (.int .i64 (i : Int))] []).get =
    some (bif decide ((sumT g (m - i) i n).2 = 0) then ⟨.exit 0, [.v (.int .i64 0), .v (.int .i64 0), .v (.int .i64 (sumT g (m - i) i n).1), .any, .any, .any], []⟩ else ⟨.ret, [.v (.int .i64 0), .v (.int .i64 (sumT g (m - i) i n).2), .any, .any, .any, .any], []⟩) := by
  simp only [list13, isInts_ints, Nat.beq_refl, Bool.true_and, Int.toNat_natCast, decide_true]
  rw [decide_eq_true (show (0 : Int) ≤ (i : Int) by omega), decide_eq_true (show (i : Int) ≤ (m : Int) by omega), decide_eq_true hm]
  show (Tree.br (decide ((sumT g (m - i) i n).2 = 0)) _ _).get = _
  cases decide ((sumT g (m - i) i n).2 = 0) <;> rfl
theorem list14_at (n : Int) (m i : Nat) (g : Nat → Int) (h : i ≤ m) (hm : m ≤ 2000) : (list14 [.v (.int .i64 0), .v (.int .i64 0), .sl 1 m (ints g), .v (.int .i64 n), .v (.int .i64 (i : Int))] []).get =
    some (bif decide ((sumT g (m - i) i n).2 = 0) then ⟨.exit 0, [.v (.int .i64 0), .v (.int .i64 0), .any, .v (.int .i64 (sumT g (m - i) i n).1), .any], []⟩ else ⟨.ret, [.v (.int .i64 0), .v (.int .i64 (sumT g (m - i) i n).2), .any, .any, .any], []⟩) := by
  simp only [list14, isInts_ints, Nat.beq_refl, Bool.true_and, Int.toNat_natCast]
  rw [decide_eq_true (show (0 : Int) ≤ (i : Int) by omega), decide_eq_true (show (i : Int) ≤ (m : Int) by omega), decide_eq_true hm]
  show (Tree.br (decide ((sumT g (m - i) i n).2 = 0)) _ _).get = _
  cases decide ((sumT g (m - i) i n).2 = 0) <;> rfl
def mu13 (vals : List AV) (_ : Heap) : Nat := match vals with
  | [_, _, _, _, .v (.int _ l), .v (.int _ i)] => (l - i).toNat
  | _ => 0
def mu14 (vals : List AV) (_ : Heap) : Nat := match vals with
  | [_, _, .sl _ m _, _, .v (.int _ i)] => ((m : Int) - i).toNat
  | _ => 0
theorem sum_end (g : Nat → Int) (i : Nat) (n : Int) {k : Nat} (h : k = 0) : sumT g k i n = (n, 0) := by subst h; rfl
theorem sum_go (g : Nat → Int) (i : Nat) (n : Int) {m : Nat} (h : i < m) (he : addE n (g i) = 0) : sumT g (m - i) i n = sumT g (m - (i + 1)) (i + 1) (addF n (g i)) := by
  rw [show m - i = (m - (i + 1)) + 1 by omega, sumT, decide_eq_true he, cond_true]
theorem sum_bad (g : Nat → Int) (i : Nat) (n : Int) {m : Nat} (h : i < m) (he : ¬ addE n (g i) = 0) : sumT g (m - i) i n = (0, addE n (g i)) := by
  rw [show m - i = (m - (i + 1)) + 1 by omega, sumT, decide_eq_false he, cond_false]
theorem w1 {m i : Nat} (h : i < m) (hm : m ≤ 2000) : IntKind.i64.wrap ((i : Int) + 1) = ((i + 1 : Nat) : Int) := by rw [wrapE]; omega
noncomputable def L13 : Nat → LSpec := fun _ => ⟨[2, 3, 4, 8, 9, 10], [], list13⟩
noncomputable def L14 : Nat → LSpec := fun _ => ⟨[2, 3, 0, 4, 5], [], list14⟩
theorem loop13_ok : LoopOK Try.prog Γu 0 25 loop13 (L13 0) := by
  refine loop_ok (T := [c15']) (L := Lno) (ip := false) (k := 0) mu13 (noLoops (by kernel_rfl)) fun vals H o h => ?_
  refine list13_elim h (fun vals H o => (roundE (P := Try.prog) (Γ := Γu) [c15'] Lno false 0 0 loop13 [2, 3, 4, 8, 9, 10] [] 25 vals H).sat (Owes list13 mu13 (mu13 vals H) o)) ?_
  clear h
  intro n m i g hi hm
  show (roundE (P := Try.prog) (Γ := Γu) [c15'] Lno false 0 0 loop13 [2, 3, 4, 8, 9, 10] [] 25 [.v (.int .i64 0), .v (.int .i64 0), .v (.int .i64 n), .sl 1 m (ints g), .v (.int .i64 (m : Int)), .v (.int .i64 (i : Int))] []).sat _
  rw [round13]
  simp only [Tree.sat_br, Tree.sat_chk, Tree.sat_leaf, decide_eq_true_eq, decide_eq_false_iff_not, Bool.and_self, Int.toNat_natCast, Bool.not_eq_true', Bool.not_eq_false']
  refine ⟨fun hlt => ⟨by simp only [Bool.and_eq_true, decide_eq_true_eq]; exact ⟨by omega, hlt⟩, trivial, fun he => ?_, fun he => ?_⟩, fun hge => ?_⟩
  · rw [sum_bad g i n (by omega) he, decide_eq_false he, cond_false]
    exact ⟨rfl, by simp, trivial⟩
  · refine ⟨_, _, LeL.refl _, LeH.refl _, ?_, ?_⟩
    · rw [w1 (by omega) hm, sum_go g i n (by omega) he]
      exact list13_at (addF n (g i)) m (i + 1) g (by omega) hm
    · show ((m : Int) - IntKind.i64.wrap ((i : Int) + 1)).toNat < ((m : Int) - (i : Int)).toNat
      rw [w1 (by omega) hm]; omega
  · rw [sum_end g i n (by omega)]
    exact ⟨rfl, by simp, trivial⟩
theorem loop14_ok : LoopOK Try.prog Γu 0 28 loop14 (L14 0) := by
  refine loop_ok (T := [c16']) (L := Lno) (ip := false) (k := 0) mu14 (noLoops (by kernel_rfl)) fun vals H o h => ?_
  refine list14_elim h (fun vals H o => (roundE (P := Try.prog) (Γ := Γu) [c16'] Lno false 0 0 loop14 [2, 3, 0, 4, 5] [] 28 vals H).sat (Owes list14 mu14 (mu14 vals H) o)) ?_
  clear h
  intro n m i g hi hm
  show (roundE (P := Try.prog) (Γ := Γu) [c16'] Lno false 0 0 loop14 [2, 3, 0, 4, 5] [] 28 [.v (.int .i64 0), .v (.int .i64 0), .sl 1 m (ints g), .v (.int .i64 n), .v (.int .i64 (i : Int))] []).sat _
  rw [round14]
  simp only [Tree.sat_br, Tree.sat_chk, Tree.sat_leaf, decide_eq_true_eq, decide_eq_false_iff_not, Bool.and_self, Bool.and_true, Int.toNat_natCast, Bool.not_eq_true', Bool.not_eq_false']
  refine ⟨fun hlt => ⟨by simp only [Bool.and_eq_true, decide_eq_true_eq]; exact ⟨by omega, hlt⟩, fun he => ?_, fun he => ?_⟩, fun hge => ?_⟩
  · rw [sum_bad g i n (by omega) he, decide_eq_false he, cond_false]
    exact ⟨rfl, by simp, trivial⟩
  · refine ⟨_, _, LeL.refl _, LeH.refl _, ?_, ?_⟩
    · rw [w1 (by omega) hm, sum_go g i n (by omega) he]
      exact list14_at (addF n (g i)) m (i + 1) g (by omega) hm
    · show ((m : Int) - IntKind.i64.wrap ((i : Int) + 1)).toNat < ((m : Int) - (i : Int)).toNat
      rw [w1 (by omega) hm]; omega
  · rw [sum_end g i n (by omega)]
    exact ⟨rfl, by simp, trivial⟩
end Go.Eng.U
