/- The document's Of, and the loop over two equal lists. -/
import Derived.Test.YthnbpcmajdinpaaDoorTestQ22
namespace Go.Eng.Q
open Go Go.Eng Go.Eng.M Go.Proofs
set_option linter.unusedSimpArgs false
set_option linter.unusedVariables false
noncomputable def L24 : Nat → LSpec := fun j => match j with | 0 => ⟨[0, 3, 4], [], list24⟩ | _ + 1 => ⟨[0, 3, 4, 5], [], list24b⟩
noncomputable def loop6 : Code := loopOf (bodyOf Tryd.f6) 0
theorem run24 (n : Nat) (e : Nat → Int) : bodyE (P := Tryd.prog) (Γ := Γq) [] L24 false 32 [.tmp 2] (bodyOf Tryd.f24) [.hs 0 0 n] [.arr 1 n (ints e)] =
  Tree.chk (true && true && true && n.beq n && true && true && decide (n ≤ (1000000 : Nat)) && true && true)
  (Tree.chk (isInts (ints e))
    (Tree.leaf
      {
        val :=
          AV.v
            (Value.int IntKind.u32
              (↑(ofN (inL n (ints e)) ((31 : Int) + (1 : Int)).toNat (Int.toNat (0 : Int))) : Int)),
        H := [some (Blk.arr (1 : Nat) n fun i => [AV.v (Value.int IntKind.i64 (e i))])] })) := by kernel_rfl
theorem round6 (s k i : Int) (n : Nat) (e : Nat → Int) : roundE (P := Tryd.prog) (Γ := Γq) [] L0 false 0 0 loop6 [1, 2, 6, 7, 8, 9] [] 92 [.v (.int .u32 s), .v (.int .i64 k), .v (.bool false), .hs 0 0 n, .hs 1 0 n, .v (.int .i64 i)] [some (.arr 1 n (ints e)), some (.arr 1 n (ints e))] =
  Tree.br (decide (i < (↑n : Int)))
  (Tree.chk (decide ((0 : Int) ≤ i) && decide (i < (↑n : Int)) && (decide ((0 : Int) ≤ i) && decide (i < (↑n : Int))))
    (Tree.br (!decide (e ((0 : Nat) + i.toNat) = e ((0 : Nat) + i.toNat)))
      (Tree.leaf
        { ex := AEx.ret,
          fr :=
            [AV.v (Value.int IntKind.u32 s), AV.v (Value.int IntKind.i64 k), AV.v (Value.bool false),
              AV.hs (0 : Nat) (0 : Nat) n, AV.hs (1 : Nat) (0 : Nat) n, AV.v (Value.int IntKind.i64 i)],
          H :=
            [some (Blk.arr (1 : Nat) n fun i => [AV.v (Value.int IntKind.i64 (e i))]),
              some (Blk.arr (1 : Nat) n fun i => [AV.v (Value.int IntKind.i64 (e i))])] })
      (Tree.leaf
        { ex := AEx.normal,
          fr :=
            [AV.v (Value.int IntKind.u32 s), AV.v (Value.int IntKind.i64 k), AV.v (Value.bool false),
              AV.hs (0 : Nat) (0 : Nat) n, AV.hs (1 : Nat) (0 : Nat) n,
              AV.v (Value.int IntKind.i64 (IntKind.i64.wrap (i + (1 : Int))))],
          H :=
            [some (Blk.arr (1 : Nat) n fun i => [AV.v (Value.int IntKind.i64 (e i))]),
              some (Blk.arr (1 : Nat) n fun i => [AV.v (Value.int IntKind.i64 (e i))])] })))
  (Tree.leaf
    { ex := AEx.exit (0 : Nat),
      fr :=
        [AV.v (Value.int IntKind.u32 s), AV.v (Value.int IntKind.i64 k), AV.v (Value.bool false),
          AV.hs (0 : Nat) (0 : Nat) n, AV.hs (1 : Nat) (0 : Nat) n, AV.v (Value.int IntKind.i64 i)],
      H :=
        [some (Blk.arr (1 : Nat) n fun i => [AV.v (Value.int IntKind.i64 (e i))]),
          some (Blk.arr (1 : Nat) n fun i => [AV.v (Value.int IntKind.i64 (e i))])] }) := by kernel_rfl


theorem L24_ok : ∀ (j : Nat) (b : Code), (loopBodies (bodyOf Tryd.f24))[j]? = some b → LoopOK Tryd.prog Γq 1 32 b (L24 j) := by
  have h2 : loopBodies (bodyOf Tryd.f24) = [loop24, loop24b] := by kernel_rfl
  intro j b hj
  rw [h2] at hj
  match j, hj with
  | 0, hj => obtain rfl := Option.some.inj hj; exact loop24_ok
  | 1, hj => obtain rfl := Option.some.inj hj; exact loop24b_ok
noncomputable def spec24 : List AV → List Blk → Tree Res := fun args Hin => match args, Hin with
  | [.hs a e n], [.arr sz q f] => .chk (Nat.beq a 0 && Nat.beq e 0 && Nat.beq sz 1 && Nat.beq q n && decide (n ≤ 1000000)) (.chk (isInts f)
      (.leaf { val := .v (.int .u32 (ofN (inL n f) 32 0 : Nat)) }))
  | _, _ => .fail
noncomputable def c24 : CT Tryd.prog Γq := CT.summed 24 Tryd.f24 (bodyOf Tryd.f24) [] L24 false 32 [.tmp 2] spec24 Tryd.func24 (by kernel_rfl) (by kernel_rfl) (by kernel_rfl) (by kernel_rfl)
  (fun args Hin r h => by
    unfold spec24 at h
    split at h
    · exact L24_ok
    · simp [Tree.get] at h) (by
  intro args Hin r h
  unfold spec24 at h
  split at h
  · rename_i a e n sz q f
    have hc := (Tree.chk_get h).1
    replace h := (Tree.chk_get h).2
    have hf := (Tree.chk_get h).1
    replace h := Tree.leaf_get (Tree.chk_get h).2
    simp only [Bool.and_eq_true, decide_eq_true_eq] at hc
    have hn := hc.2
    have hq := hc.1.2
    have hsz := hc.1.1.2
    have he := hc.1.1.1.2
    have ha := hc.1.1.1.1
    clear hc
    obtain rfl := Nat.eq_of_beq_eq_true ha
    obtain rfl := Nat.eq_of_beq_eq_true he
    obtain rfl := Nat.eq_of_beq_eq_true hsz
    obtain rfl := Nat.eq_of_beq_eq_true hq
    have hfe := isInts_eq hf
    generalize (fun i => getI (f i)) = y at hfe
    subst hfe
    clear hf
    subst h
    refine ⟨by simp, ?_⟩
    rw [run24]
    simp only [Tree.sat_chk, Tree.sat_leaf, isInts_ints, Bool.and_eq_true, decide_eq_true_eq, true_and, and_true, Nat.beq_refl]
    exact ⟨hn, .refl _, LeH.refl _⟩
  · simp [Tree.get] at h)

noncomputable def list6 (vals : List AV) (H : Heap) : Tree Out := match vals, H with
  | [.v (.int .u32 s), .v (.int .i64 k), .v (.bool false), .hs a e n, .hs a2 e2 n2, .v (.int .i64 i)], [some (.arr sz q f), some (.arr sz2 q2 f2)] =>
    .chk (Nat.beq a 0 && Nat.beq e 0 && Nat.beq sz 1 && Nat.beq q n && Nat.beq a2 1 && Nat.beq e2 0 && Nat.beq sz2 1 && Nat.beq q2 n && Nat.beq n2 n && decide (0 ≤ i) && decide (i ≤ n) && decide (n ≤ 1000000)) (.chk (isInts f) (.chk (sameF f2 (fun i => getI (f i)))
      (.leaf ⟨.exit 0, [.v (.int .u32 s), .v (.int .i64 k), .v (.bool false), .hs 0 0 n, .hs 1 0 n, .any], [some (.arr 1 n f), some (.arr 1 n f)]⟩)))
  | _, _ => .fail
noncomputable def L6 : Nat → LSpec := fun _ => ⟨[1, 2, 6, 7, 8, 9], [], list6⟩
def mu6 (vals : List AV) (_ : Heap) : Nat := match vals with
  | [_, _, _, _, .hs _ _ n, .v (.int _ i)] => ((n : Int) - i).toNat
  | _ => 0
theorem list6_elim {vals : List AV} {H : Heap} {o : Out} (h : (list6 vals H).get = some o) (C : List AV → Heap → Out → Prop) (hC : ∀ (s k : Int) (q m : Nat) (y : Nat → Int), m ≤ q → q ≤ 1000000 → C [.v (.int .u32 s), .v (.int .i64 k), .v (.bool false), .hs 0 0 q, .hs 1 0 q, .v (.int .i64 m)] [some (.arr 1 q (ints y)), some (.arr 1 q (ints y))]
    ⟨.exit 0, [.v (.int .u32 s), .v (.int .i64 k), .v (.bool false), .hs 0 0 q, .hs 1 0 q, .any], [some (.arr 1 q (ints y)), some (.arr 1 q (ints y))]⟩) : C vals H o := by
  unfold list6 at h
  split at h
  · rename_i s k a e n a2 e2 n2 i sz q f sz2 q2 f2
    have hc := (Tree.chk_get h).1
    replace h := (Tree.chk_get h).2
    have hf := (Tree.chk_get h).1
    replace h := (Tree.chk_get h).2
    have hf2 := sameF_iff.1 (Tree.chk_get h).1
    replace h := Tree.leaf_get (Tree.chk_get h).2
    simp only [Bool.and_eq_true, decide_eq_true_eq] at hc
    have hn := hc.2
    have hi1 := hc.1.2
    have hi0 := hc.1.1.2
    have hnn := hc.1.1.1.2
    have hq2 := hc.1.1.1.1.2
    have hsz2 := hc.1.1.1.1.1.2
    have he2 := hc.1.1.1.1.1.1.2
    have ha2 := hc.1.1.1.1.1.1.1.2
    have hq := hc.1.1.1.1.1.1.1.1.2
    have hsz := hc.1.1.1.1.1.1.1.1.1.2
    have he := hc.1.1.1.1.1.1.1.1.1.1.2
    have ha := hc.1.1.1.1.1.1.1.1.1.1.1
    clear hc
    obtain rfl := Nat.eq_of_beq_eq_true ha
    obtain rfl := Nat.eq_of_beq_eq_true he
    obtain rfl := Nat.eq_of_beq_eq_true hsz
    obtain rfl := Nat.eq_of_beq_eq_true ha2
    obtain rfl := Nat.eq_of_beq_eq_true he2
    obtain rfl := Nat.eq_of_beq_eq_true hsz2
    obtain rfl := Nat.eq_of_beq_eq_true hnn
    obtain rfl := Nat.eq_of_beq_eq_true hq2
    obtain rfl := Nat.eq_of_beq_eq_true hq
    have hfe := isInts_eq hf
    generalize (fun i => getI (f i)) = y at hfe hf2
    subst hfe
    subst hf2
    clear hf
    obtain ⟨m, hm⟩ := Int.eq_ofNat_of_zero_le hi0
    subst hm
    subst h
    exact hC s k q m y (by omega) hn
  · simp [Tree.get] at h
theorem loop6_ok : LoopOK Tryd.prog Γq 0 92 loop6 (L6 0) := by
  refine loop_ok (T := []) (L := L0) (ip := false) (k := 0) mu6 (noLoops (by kernel_rfl)) fun vals H o h => ?_
  refine list6_elim h (fun vals H o => (roundE (P := Tryd.prog) (Γ := Γq) [] L0 false 0 0 loop6 [1, 2, 6, 7, 8, 9] [] 92 vals H).sat (Owes list6 mu6 (mu6 vals H) o)) ?_
  clear h
  intro s k q m y hi1 hn
  show (roundE (P := Tryd.prog) (Γ := Γq) [] L0 false 0 0 loop6 [1, 2, 6, 7, 8, 9] [] 92 [.v (.int .u32 s), .v (.int .i64 k), .v (.bool false), .hs 0 0 q, .hs 1 0 q, .v (.int .i64 m)] [some (.arr 1 q (ints y)), some (.arr 1 q (ints y))]).sat _
  rw [round6]
  simp only [Tree.sat_br, Tree.sat_chk, Tree.sat_leaf, decide_eq_true_eq, decide_eq_false_iff_not]
  refine ⟨fun hlt => ⟨by simp only [Bool.and_eq_true, decide_eq_true_eq]; exact ⟨⟨by omega, hlt⟩, by omega, hlt⟩, fun hk => ?_, fun _ => ?_⟩, fun hge => ?_⟩
  · simp at hk
  · have w1 : IntKind.i64.wrap ((m : Int) + 1) = ((m + 1 : Nat) : Int) := by rw [wrap64 (by omega) (by omega)]; omega
    refine ⟨_, _, LeL.refl _, LeH.refl _, ?_, by show ((q : Int) - IntKind.i64.wrap ((m : Int) + 1)).toNat < ((q : Int) - (m : Int)).toNat; rw [w1]; omega⟩
    rw [w1]
    show (list6 [.v (.int .u32 s), .v (.int .i64 k), .v (.bool false), .hs 0 0 q, .hs 1 0 q, .v (.int .i64 ((m + 1 : Nat) : Int))] [some (.arr 1 q (ints y)), some (.arr 1 q (ints y))]).get = _
    simp only [list6, isInts_ints, Nat.beq_refl, Bool.true_and]
    rw [show sameF (ints y) (fun i => getI (ints y i)) = true from sameF_iff.2 (by funext j; rfl)]
    rw [decide_eq_true (show (0 : Int) ≤ ((m + 1 : Nat) : Int) by omega), decide_eq_true (show ((m + 1 : Nat) : Int) ≤ (q : Int) by omega), decide_eq_true hn]
    simp only [Bool.and_true, Tree.get]
  · exact ⟨rfl, by simp, by simp only [LeH_cons, LeH_nil, and_true]; exact ⟨.refl _, .refl _⟩⟩
end Go.Eng.Q
