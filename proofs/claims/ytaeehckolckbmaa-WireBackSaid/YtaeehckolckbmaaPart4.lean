/- wire: copies of bytes, and the bytes of a number: what the program answers and what follows it. -/
import Derived.Test.YtaeehckolckbmaaPart3
/- wire: copies of bytes, and the bytes of a number: what the program answers. -/
namespace Go.Eng.W
open Go Go.Eng Go.Proofs
set_option linter.unusedSimpArgs false
set_option linter.unusedVariables false
noncomputable def loopOf (c : Code) (j : Nat) : Code := match (loopBodies c)[j]? with | some b => b | none => .skip
/-- bytes as an argument: nil, of the caller's own, or only read -/
inductive BA where
  | nil
  | sl (t : ByteArray)
  | hs (t : ByteArray)
def BA.t : BA → ByteArray
  | .nil => ⟨#[]⟩
  | .sl t => t
  | .hs t => t
def BA.av : BA → AV
  | .nil => .v (.slice none 0 0)
  | .sl t => .sl 1 t.size (bsF t)
  | .hs t => .hs 0 0 t.size
def BA.bl : BA → List Blk
  | .hs t => [.arr 1 t.size (bsF t)]
  | _ => []
def BA.n : BA → Nat
  | .hs _ => 1
  | _ => 0
def small (t : ByteArray) : Prop := t.size ≤ 1000000000
theorem runCn  : bodyE (P := Try.prog) (Γ := Γw) [] Lno false 8 [.tmp 2] (bodyOf Try.f19) [.v (.slice none 0 0)] [] =
  Tree.leaf (Ans.mk (AV.v (Value.slice none (0 : Nat) (0 : Nat))) []) := by kernel_rfl
theorem runCs (t : ByteArray) : bodyE (P := Try.prog) (Γ := Γw) [] Lno false 8 [.tmp 2] (bodyOf Try.f19) [.sl 1 t.size (bsF t)] [] =
  Tree.chk (roomOk (1 : Nat) ((0 : Nat) + t.size))
  (Tree.leaf
    (Ans.mk (AV.hs (0 : Nat) (0 : Nat) ((0 : Nat) + t.size))
      [some
          (Blk.arr (1 : Nat) ((0 : Nat) + t.size) fun j =>
            [AV.v (Value.int IntKind.u8 (bif decide (j < (0 : Nat)) then (0 : Int) else sbyte t (j - (0 : Nat))))])])) := by kernel_rfl
theorem runCh (t : ByteArray) : bodyE (P := Try.prog) (Γ := Γw) [] Lno false 8 [.tmp 2] (bodyOf Try.f19) [.hs 0 0 t.size] [.arr 1 t.size (bsF t)] =
  Tree.chk (Nat.blt (0 : Nat) t.size)
  (Tree.chk (roomOk (1 : Nat) ((0 : Nat) + t.size))
    (Tree.leaf
      (Ans.mk (AV.hs (1 : Nat) (0 : Nat) ((0 : Nat) + t.size))
        [some (Blk.arr (1 : Nat) t.size fun j => [AV.v (Value.int IntKind.u8 (sbyte t j))]),
          some
            (Blk.arr (1 : Nat) ((0 : Nat) + t.size) fun j =>
              [AV.v
                  (Value.int IntKind.u8
                    (bif decide (j < (0 : Nat)) then (0 : Int) else sbyte t ((0 : Nat) + (j - (0 : Nat)))))])]))) := by kernel_rfl
def BA.ok : BA → Prop
  | .nil => True
  | .sl t => small t
  | .hs t => small t ∧ 0 < t.size
theorem room {n : Nat} (h : n ≤ 2000000000) : roomOk 1 (0 + n) = true := by
  unfold roomOk
  exact decide_eq_true (by omega)
theorem room' {n : Nat} (h : n ≤ 2000000000) : roomOk 1 n = true := by
  unfold roomOk
  exact decide_eq_true (by omega)
theorem cut0 (t : ByteArray) (j : Nat) : (bif decide (j < (0 : Nat)) then (0 : Int) else sbyte t (j - (0 : Nat))) = sbyte t j := by
  rw [decide_eq_false (Nat.not_lt_zero _)]; rfl
theorem cut1 (t : ByteArray) (j : Nat) : (bif decide (j < (0 : Nat)) then (0 : Int) else sbyte t ((0 : Nat) + (j - (0 : Nat)))) = sbyte t j := by
  rw [decide_eq_false (Nat.not_lt_zero _), Nat.zero_add]; rfl
def cloneV : BA → AV
  | .nil => nilSlice
  | .sl t => .hs 0 0 t.size
  | .hs t => .hs 1 0 t.size
def cloneN : BA → List Blk
  | .nil => []
  | .sl t => [.arr 1 t.size (bsF t)]
  | .hs t => [.arr 1 t.size (bsF t)]
theorem ansClone : ∀ (x : BA), x.ok → Answers Try.prog Γw 19 [x.av] x.bl (cloneV x) (x.bl.map some) (cloneN x)
  | .nil, _ => answers (fn := Try.f19) (c := bodyOf Try.f19) (ntmps := 8) (results := [.tmp 2]) [] Lno false Try.func19 (by kernel_rfl) (by kernel_rfl) (by kernel_rfl) (by kernel_rfl) (by simp) rfl (noLoops (by kernel_rfl))
    (Meets.of runCn ⟨.refl _, trivial⟩)
  | .sl t, hp => answers (fn := Try.f19) (c := bodyOf Try.f19) (ntmps := 8) (results := [.tmp 2]) [] Lno false Try.func19 (by kernel_rfl) (by kernel_rfl) (by kernel_rfl) (by kernel_rfl) (by simp) rfl (noLoops (by kernel_rfl))
    (Meets.of (runCs t) ⟨room (by have : t.size ≤ 1000000000 := hp; omega), by
      simp only [Nat.zero_add, cut0]
      exact ⟨.refl _, .refl _, trivial⟩⟩)
  | .hs t, hp => answers (fn := Try.f19) (c := bodyOf Try.f19) (ntmps := 8) (results := [.tmp 2]) [] Lno false Try.func19 (by kernel_rfl) (by kernel_rfl) (by kernel_rfl) (by kernel_rfl) (by simp) rfl (noLoops (by kernel_rfl))
    (Meets.of (runCh t) ⟨by rw [Nat.blt_eq]; exact hp.2, room (by have : t.size ≤ 1000000000 := hp.1; omega), by
      simp only [Nat.zero_add, cut1]
      exact ⟨.refl _, .refl _, .refl _, trivial⟩⟩)
/-! ### a number's bytes: the loop -/
noncomputable def loopN : Code := loopOf (bodyOf Try.f7) 0
theorem roundN0 (n : Nat) (t : ByteArray) : roundE (P := Try.prog) (Γ := Γw) [] Lno false 0 0 loopN [1, 6] [(1, 5)] 30 [.v (.int .i64 (n : Int)), .hs 0 0 t.size] [some (.arr 1 t.size (bsF t))] =
  Tree.br (decide ((128 : Int) ≤ (↑n : Int)))
  (Tree.chk (roomOk (1 : Nat) (t.size + (1 : Nat)))
    (Tree.chk true
      (Tree.leaf
        (Out.mk AEx.normal
          [AV.v (Value.int IntKind.i64 ((↑n : Int).fdiv ((2 : Int) ^ min (Int.toNat (7 : Int)) (64 : Nat)))),
            AV.hs (0 : Nat) (0 : Nat) (t.size + (1 : Nat))]
          [some
              (Blk.arr (1 : Nat) (t.size + (1 : Nat)) fun j =>
                [AV.v
                    (Value.int IntKind.u8
                      (bif decide (j < t.size) then sbyte t ((0 : Nat) + j)
                      else
                        bif ((0 : Nat) + (j - t.size)).beq (0 : Nat) then
                          bitI BinOp.or IntKind.u8 (IntKind.u8.wrap (↑n : Int)) (128 : Int)
                        else (0 : Int)))])]))))
  (Tree.leaf
    (Out.mk (AEx.exit (0 : Nat)) [AV.v (Value.int IntKind.i64 (↑n : Int)), AV.hs (0 : Nat) (0 : Nat) t.size]
      [some (Blk.arr (1 : Nat) t.size fun j => [AV.v (Value.int IntKind.u8 (sbyte t j))])])) := by kernel_rfl
theorem roundN1 (n : Nat) (t b : ByteArray) : roundE (P := Try.prog) (Γ := Γw) [] Lno false 1 0 loopN [1, 6] [(1, 5)] 30 [.v (.int .i64 (n : Int)), .hs 1 0 t.size] [some (.arr 1 b.size (bsF b)), some (.arr 1 t.size (bsF t))] =
  Tree.br (decide ((128 : Int) ≤ (↑n : Int)))
  (Tree.chk (roomOk (1 : Nat) (t.size + (1 : Nat)))
    (Tree.chk true
      (Tree.leaf
        (Out.mk AEx.normal
          [AV.v (Value.int IntKind.i64 ((↑n : Int).fdiv ((2 : Int) ^ min (Int.toNat (7 : Int)) (64 : Nat)))),
            AV.hs (1 : Nat) (0 : Nat) (t.size + (1 : Nat))]
          [some (Blk.arr (1 : Nat) b.size fun j => [AV.v (Value.int IntKind.u8 (sbyte b j))]),
            some
              (Blk.arr (1 : Nat) (t.size + (1 : Nat)) fun j =>
                [AV.v
                    (Value.int IntKind.u8
                      (bif decide (j < t.size) then sbyte t ((0 : Nat) + j)
                      else
                        bif ((0 : Nat) + (j - t.size)).beq (0 : Nat) then
                          bitI BinOp.or IntKind.u8 (IntKind.u8.wrap (↑n : Int)) (128 : Int)
                        else (0 : Int)))])]))))
  (Tree.leaf
    (Out.mk (AEx.exit (0 : Nat)) [AV.v (Value.int IntKind.i64 (↑n : Int)), AV.hs (1 : Nat) (0 : Nat) t.size]
      [some (Blk.arr (1 : Nat) b.size fun j => [AV.v (Value.int IntKind.u8 (sbyte b j))]),
        some (Blk.arr (1 : Nat) t.size fun j => [AV.v (Value.int IntKind.u8 (sbyte t j))])])) := by kernel_rfl
def SN (a : BA) (n : Nat) (t : ByteArray) : List AV × Heap := ([.v (.int .i64 (n : Int)), .hs a.n 0 t.size], a.bl.map some ++ [some (.arr 1 t.size (bsF t))])
def preN (x : Nat × ByteArray) : Prop := x.1 ≤ 4611686018427387904 ∧ x.2.size + (hiB x.1).size ≤ 1000000100
def ON (a : BA) (n : Nat) (t : ByteArray) : Out := ⟨.exit 0, [.v (.int .i64 (loN n : Int)), .hs a.n 0 (t ++ hiB n).size], a.bl.map some ++ [some (.arr 1 (t ++ hiB n).size (bsF (t ++ hiB n)))]⟩
theorem stepN {n : Nat} {t : ByteArray} (hp : preN (n, t)) (h : 128 ≤ n) : ((n : Int).fdiv ((2 : Int) ^ min (Int.toNat (7 : Int)) (64 : Nat))) = ((n / 128 : Nat) : Int) ∧ (t ++ oneB (n % 128 + 128)).size = t.size + 1 ∧ t.size + 1 ≤ 1000000100 ∧
    preN (n / 128, t ++ oneB (n % 128 + 128)) ∧ (t ++ oneB (n % 128 + 128)) ++ hiB (n / 128) = t ++ hiB n ∧
    ∀ j, j < t.size + 1 → (bif decide (j < t.size) then sbyte t ((0 : Nat) + j) else bif ((0 : Nat) + (j - t.size)).beq (0 : Nat) then bitI BinOp.or IntKind.u8 (IntKind.u8.wrap (n : Int)) (128 : Int) else (0 : Int)) = sbyte (t ++ oneB (n % 128 + 128)) j := by
  have hge : ¬ n < 128 := by omega
  have e1 := hiB_ge hge
  have hp1 := hp.1
  have hp2 := hp.2
  simp only [e1, ByteArray.size_append, oneB_size] at hp2
  refine ⟨?_, by simp, by omega, ⟨?_, ?_⟩, ?_, fun j hj => ?_⟩
  · show (n : Int).fdiv 128 = _
    rw [Int.fdiv_eq_ediv_of_nonneg _ (by decide)]
    omega
  · show n / 128 ≤ _
    have : n / 128 ≤ n := Nat.div_le_self _ _
    simp only at hp1
    omega
  · simp only [ByteArray.size_append, oneB_size]; omega
  · rw [e1, ByteArray.append_assoc]
  · have hv : bitI BinOp.or IntKind.u8 (IntKind.u8.wrap (n : Int)) (128 : Int) = ((n % 128 + 128 : Nat) : Int) := by
      rw [wrapU8, or128 _ (by omega) (by omega)]
      omega
    rw [hv, push_eq (by omega) (by omega) hj, Int.toNat_natCast]
theorem loopN_ok (a : BA) : ∀ x : Nat × ByteArray, preN x → LoopOK Try.prog Γw a.bl.length 30 loopN (LSpec.at [1, 6] [(1, 5)] (SN a x.1 x.2) (ON a x.1 x.2)) := by
  refine loop_at (S := fun x : Nat × ByteArray => SN a x.1 x.2) (O := fun x => ON a x.1 x.2) (k := 0) (fun x => x.1) fun x hp => ⟨[], Lno, false, noLoops (by kernel_rfl), ?_⟩
  obtain ⟨n, t⟩ := x
  have fin : ¬ 128 ≤ n → hiB n = ⟨#[]⟩ ∧ loN n = n := fun h => ⟨hiB_lt (by omega), loN_lt (by omega)⟩
  have hd : (128 : Int) ≤ (n : Int) ↔ 128 ≤ n := by omega
  cases a with
  | hs b =>
    show (roundE (P := Try.prog) (Γ := Γw) [] Lno false 1 0 loopN [1, 6] [(1, 5)] 30 [.v (.int .i64 (n : Int)), .hs 1 0 t.size] [some (.arr 1 b.size (bsF b)), some (.arr 1 t.size (bsF t))]).sat _
    rw [roundN1]
    refine ⟨fun hc => ?_, fun hc => ?_⟩
    · have h := hd.1 (of_decide_eq_true hc)
      obtain ⟨s1, s2, s3, s4, s5, s6⟩ := stepN hp h
      refine ⟨room' (by omega), rfl, (n / 128, t ++ oneB (n % 128 + 128)), ?_, ?_, s4, ?_, ?_⟩
      · rw [s1]; exact ⟨.refl _, .of_eq (by rw [s2]; rfl), trivial⟩
      · exact ⟨.refl _, .arr s2.symm (fun j hj => by rw [s6 j hj]; rfl) (fun _ => rfl), trivial⟩
      · simp only [ON]; rw [show loN (n / 128) = loN n from (loN_ge (by omega)).symm, s5]
      · show n / 128 < n; omega
    · have h := mt hd.2 (of_decide_eq_false hc)
      obtain ⟨f1, f2⟩ := fin h
      refine ⟨rfl, ?_, ?_⟩
      · simp only [ON, f1, f2, append_empty]; exact LeL.refl _
      · simp only [ON, f1, append_empty]; exact LeH.refl _
  | nil =>
    show (roundE (P := Try.prog) (Γ := Γw) [] Lno false 0 0 loopN [1, 6] [(1, 5)] 30 [.v (.int .i64 (n : Int)), .hs 0 0 t.size] [some (.arr 1 t.size (bsF t))]).sat _
    rw [roundN0]
    refine ⟨fun hc => ?_, fun hc => ?_⟩
    · have h := hd.1 (of_decide_eq_true hc)
      obtain ⟨s1, s2, s3, s4, s5, s6⟩ := stepN hp h
      refine ⟨room' (by omega), rfl, (n / 128, t ++ oneB (n % 128 + 128)), ?_, ?_, s4, ?_, ?_⟩
      · rw [s1]; exact ⟨.refl _, .of_eq (by rw [s2]; rfl), trivial⟩
      · exact ⟨.arr s2.symm (fun j hj => by rw [s6 j hj]; rfl) (fun _ => rfl), trivial⟩
      · simp only [ON]; rw [show loN (n / 128) = loN n from (loN_ge (by omega)).symm, s5]
      · show n / 128 < n; omega
    · have h := mt hd.2 (of_decide_eq_false hc)
      obtain ⟨f1, f2⟩ := fin h
      refine ⟨rfl, ?_, ?_⟩
      · simp only [ON, f1, f2, append_empty]; exact LeL.refl _
      · simp only [ON, f1, append_empty]; exact LeH.refl _
  | sl b =>
    show (roundE (P := Try.prog) (Γ := Γw) [] Lno false 0 0 loopN [1, 6] [(1, 5)] 30 [.v (.int .i64 (n : Int)), .hs 0 0 t.size] [some (.arr 1 t.size (bsF t))]).sat _
    rw [roundN0]
    refine ⟨fun hc => ?_, fun hc => ?_⟩
    · have h := hd.1 (of_decide_eq_true hc)
      obtain ⟨s1, s2, s3, s4, s5, s6⟩ := stepN hp h
      refine ⟨room' (by omega), rfl, (n / 128, t ++ oneB (n % 128 + 128)), ?_, ?_, s4, ?_, ?_⟩
      · rw [s1]; exact ⟨.refl _, .of_eq (by rw [s2]; rfl), trivial⟩
      · exact ⟨.arr s2.symm (fun j hj => by rw [s6 j hj]; rfl) (fun _ => rfl), trivial⟩
      · simp only [ON]; rw [show loN (n / 128) = loN n from (loN_ge (by omega)).symm, s5]
      · show n / 128 < n; omega
    · have h := mt hd.2 (of_decide_eq_false hc)
      obtain ⟨f1, f2⟩ := fin h
      refine ⟨rfl, ?_, ?_⟩
      · simp only [ON, f1, f2, append_empty]; exact LeL.refl _
      · simp only [ON, f1, append_empty]; exact LeH.refl _
noncomputable def LN (a : BA) (n : Nat) (t : ByteArray) : Nat → LSpec := fun _ => LSpec.at [1, 6] [(1, 5)] (SN a n t) (ON a n t)
theorem runNn (n : Nat) (h : BA.nil.ok) : bodyE (P := Try.prog) (Γ := Γw) [CT.at 19 (ansClone .nil h)] (LN .nil n ⟨#[]⟩) false 30 [.tmp 4, .tmp 5] (bodyOf Try.f7) [.v (.slice none 0 0), .v (.int .i64 (n : Int))] [] =
  Tree.br (bif decide ((↑n : Int) < (0 : Int)) then true else decide ((4611686018427387904 : Int) < (↑n : Int)))
  (Tree.leaf
    (Ans.mk (AV.tup [AV.v (Value.slice none (0 : Nat) (0 : Nat)), AV.v (Value.int IntKind.i64 (10 : Int))]) []))
  (Tree.chk
    (cl (LeL [AV.v (Value.slice none (0 : Nat) (0 : Nat))] [AV.v (Value.slice none (0 : Nat) (0 : Nat))] ∧ LeH [] []))
    (Tree.chk
      (cl
        (LeL [AV.v (Value.int IntKind.i64 (↑n : Int)), AV.hs (0 : Nat) (0 : Nat) (0 : Nat)]
            [AV.v (Value.int IntKind.i64 (↑n : Int)), AV.hs (0 : Nat) (0 : Nat) (0 : Nat)] ∧
          LeH [some (Blk.arr (1 : Nat) (0 : Nat) fun x => [AV.v (Value.int IntKind.u8 (0 : Int))])]
            [some (Blk.arr (1 : Nat) (0 : Nat) fun j => [AV.v (Value.int IntKind.u8 (sbyte (ByteArray.mk #[]) j))])]))
      (Tree.chk (roomOk (1 : Nat) ((ByteArray.mk #[] ++ hiB n).size + (1 : Nat)))
        (Tree.leaf
          (Ans.mk
            (AV.tup
              [AV.hs (0 : Nat) (0 : Nat) ((ByteArray.mk #[] ++ hiB n).size + (1 : Nat)),
                AV.v (Value.int IntKind.i64 (0 : Int))])
            [some
                (Blk.arr (1 : Nat) ((ByteArray.mk #[] ++ hiB n).size + (1 : Nat)) fun j =>
                  [AV.v
                      (Value.int IntKind.u8
                        (bif decide (j < (ByteArray.mk #[] ++ hiB n).size) then
                          sbyte (ByteArray.mk #[] ++ hiB n) ((0 : Nat) + j)
                        else
                          bif ((0 : Nat) + (j - (ByteArray.mk #[] ++ hiB n).size)).beq (0 : Nat) then
                            IntKind.u8.wrap (↑(loN n) : Int)
                          else (0 : Int)))])]))))) := by kernel_rfl
theorem runNs (t : ByteArray) (n : Nat) (h : (BA.sl t).ok) : bodyE (P := Try.prog) (Γ := Γw) [CT.at 19 (ansClone (.sl t) h)] (LN (.sl t) n t) false 30 [.tmp 4, .tmp 5] (bodyOf Try.f7) [.sl 1 t.size (bsF t), .v (.int .i64 (n : Int))] [] =
  Tree.br (bif decide ((↑n : Int) < (0 : Int)) then true else decide ((4611686018427387904 : Int) < (↑n : Int)))
  (Tree.leaf
    (Ans.mk (AV.tup [AV.v (Value.slice none (0 : Nat) (0 : Nat)), AV.v (Value.int IntKind.i64 (10 : Int))]) []))
  (Tree.chk
    (cl
      (LeL [AV.sl (1 : Nat) t.size fun j => [AV.v (Value.int IntKind.u8 (sbyte t j))]]
          [AV.sl (1 : Nat) t.size fun j => [AV.v (Value.int IntKind.u8 (sbyte t j))]] ∧
        LeH [] []))
    (Tree.chk
      (cl
        (LeL [AV.v (Value.int IntKind.i64 (↑n : Int)), AV.hs (0 : Nat) (0 : Nat) t.size]
            [AV.v (Value.int IntKind.i64 (↑n : Int)), AV.hs (0 : Nat) (0 : Nat) t.size] ∧
          LeH [some (Blk.arr (1 : Nat) t.size fun j => [AV.v (Value.int IntKind.u8 (sbyte t j))])]
            [some (Blk.arr (1 : Nat) t.size fun j => [AV.v (Value.int IntKind.u8 (sbyte t j))])]))
      (Tree.chk (roomOk (1 : Nat) ((t ++ hiB n).size + (1 : Nat)))
        (Tree.leaf
          (Ans.mk
            (AV.tup [AV.hs (0 : Nat) (0 : Nat) ((t ++ hiB n).size + (1 : Nat)), AV.v (Value.int IntKind.i64 (0 : Int))])
            [some
                (Blk.arr (1 : Nat) ((t ++ hiB n).size + (1 : Nat)) fun j =>
                  [AV.v
                      (Value.int IntKind.u8
                        (bif decide (j < (t ++ hiB n).size) then sbyte (t ++ hiB n) ((0 : Nat) + j)
                        else
                          bif ((0 : Nat) + (j - (t ++ hiB n).size)).beq (0 : Nat) then IntKind.u8.wrap (↑(loN n) : Int)
                          else (0 : Int)))])]))))) := by kernel_rfl
theorem runNh (t : ByteArray) (n : Nat) (h : (BA.hs t).ok) : bodyE (P := Try.prog) (Γ := Γw) [CT.at 19 (ansClone (.hs t) h)] (LN (.hs t) n t) false 30 [.tmp 4, .tmp 5] (bodyOf Try.f7) [.hs 0 0 t.size, .v (.int .i64 (n : Int))] [.arr 1 t.size (bsF t)] =
  Tree.br (bif decide ((↑n : Int) < (0 : Int)) then true else decide ((4611686018427387904 : Int) < (↑n : Int)))
  (Tree.leaf
    (Ans.mk (AV.tup [AV.v (Value.slice none (0 : Nat) (0 : Nat)), AV.v (Value.int IntKind.i64 (10 : Int))])
      [some (Blk.arr (1 : Nat) t.size fun j => [AV.v (Value.int IntKind.u8 (sbyte t j))])]))
  (Tree.chk
    (cl
      (LeL [AV.hs (0 : Nat) (0 : Nat) t.size] [AV.hs (0 : Nat) (0 : Nat) t.size] ∧
        LeH [some (Blk.arr (1 : Nat) t.size fun j => [AV.v (Value.int IntKind.u8 (sbyte t j))])]
          [some (Blk.arr (1 : Nat) t.size fun j => [AV.v (Value.int IntKind.u8 (sbyte t j))])]))
    (Tree.chk
      (cl
        (LeL [AV.v (Value.int IntKind.i64 (↑n : Int)), AV.hs (1 : Nat) (0 : Nat) t.size]
            [AV.v (Value.int IntKind.i64 (↑n : Int)), AV.hs (1 : Nat) (0 : Nat) t.size] ∧
          LeH
            [some (Blk.arr (1 : Nat) t.size fun j => [AV.v (Value.int IntKind.u8 (sbyte t j))]),
              some (Blk.arr (1 : Nat) t.size fun j => [AV.v (Value.int IntKind.u8 (sbyte t j))])]
            [some (Blk.arr (1 : Nat) t.size fun j => [AV.v (Value.int IntKind.u8 (sbyte t j))]),
              some (Blk.arr (1 : Nat) t.size fun j => [AV.v (Value.int IntKind.u8 (sbyte t j))])]))
      (Tree.chk (roomOk (1 : Nat) ((t ++ hiB n).size + (1 : Nat)))
        (Tree.leaf
          (Ans.mk
            (AV.tup [AV.hs (1 : Nat) (0 : Nat) ((t ++ hiB n).size + (1 : Nat)), AV.v (Value.int IntKind.i64 (0 : Int))])
            [some (Blk.arr (1 : Nat) t.size fun j => [AV.v (Value.int IntKind.u8 (sbyte t j))]),
              some
                (Blk.arr (1 : Nat) ((t ++ hiB n).size + (1 : Nat)) fun j =>
                  [AV.v
                      (Value.int IntKind.u8
                        (bif decide (j < (t ++ hiB n).size) then sbyte (t ++ hiB n) ((0 : Nat) + j)
                        else
                          bif ((0 : Nat) + (j - (t ++ hiB n).size)).beq (0 : Nat) then IntKind.u8.wrap (↑(loN n) : Int)
                          else (0 : Int)))])]))))) := by kernel_rfl
theorem runXn (n : Int) (h : BA.nil.ok) : bodyE (P := Try.prog) (Γ := Γw) [CT.at 19 (ansClone .nil h)] Lno false 30 [.tmp 4, .tmp 5] (bodyOf Try.f7) [.v (.slice none 0 0), .v (.int .i64 n)] [] =
  Tree.br (bif decide (n < (0 : Int)) then true else decide ((4611686018427387904 : Int) < n))
  (Tree.leaf
    (Ans.mk (AV.tup [AV.v (Value.slice none (0 : Nat) (0 : Nat)), AV.v (Value.int IntKind.i64 (10 : Int))]) []))
  (Tree.chk
    (cl (LeL [AV.v (Value.slice none (0 : Nat) (0 : Nat))] [AV.v (Value.slice none (0 : Nat) (0 : Nat))] ∧ LeH [] []))
    Tree.fail) := by kernel_rfl
theorem runXs (t : ByteArray) (n : Int) (h : (BA.sl t).ok) : bodyE (P := Try.prog) (Γ := Γw) [CT.at 19 (ansClone (.sl t) h)] Lno false 30 [.tmp 4, .tmp 5] (bodyOf Try.f7) [.sl 1 t.size (bsF t), .v (.int .i64 n)] [] =
  Tree.br (bif decide (n < (0 : Int)) then true else decide ((4611686018427387904 : Int) < n))
  (Tree.leaf
    (Ans.mk (AV.tup [AV.v (Value.slice none (0 : Nat) (0 : Nat)), AV.v (Value.int IntKind.i64 (10 : Int))]) []))
  (Tree.chk
    (cl
      (LeL [AV.sl (1 : Nat) t.size fun j => [AV.v (Value.int IntKind.u8 (sbyte t j))]]
          [AV.sl (1 : Nat) t.size fun j => [AV.v (Value.int IntKind.u8 (sbyte t j))]] ∧
        LeH [] []))
    Tree.fail) := by kernel_rfl
theorem runXh (t : ByteArray) (n : Int) (h : (BA.hs t).ok) : bodyE (P := Try.prog) (Γ := Γw) [CT.at 19 (ansClone (.hs t) h)] Lno false 30 [.tmp 4, .tmp 5] (bodyOf Try.f7) [.hs 0 0 t.size, .v (.int .i64 n)] [.arr 1 t.size (bsF t)] =
  Tree.br (bif decide (n < (0 : Int)) then true else decide ((4611686018427387904 : Int) < n))
  (Tree.leaf
    (Ans.mk (AV.tup [AV.v (Value.slice none (0 : Nat) (0 : Nat)), AV.v (Value.int IntKind.i64 (10 : Int))])
      [some (Blk.arr (1 : Nat) t.size fun j => [AV.v (Value.int IntKind.u8 (sbyte t j))])]))
  (Tree.chk
    (cl
      (LeL [AV.hs (0 : Nat) (0 : Nat) t.size] [AV.hs (0 : Nat) (0 : Nat) t.size] ∧
        LeH [some (Blk.arr (1 : Nat) t.size fun j => [AV.v (Value.int IntKind.u8 (sbyte t j))])]
          [some (Blk.arr (1 : Nat) t.size fun j => [AV.v (Value.int IntKind.u8 (sbyte t j))])]))
    Tree.fail) := by kernel_rfl
theorem BA.ok_small : ∀ {a : BA}, a.ok → small a.t
  | .nil, _ => by unfold small BA.t; decide
  | .sl _, h => h
  | .hs _, h => h.1
theorem numTail (t : ByteArray) (n : Nat) : (t ++ hiB n).size + 1 = (t ++ numB n).size ∧ ∀ j, j < (t ++ hiB n).size + 1 →
    (bif decide (j < (t ++ hiB n).size) then sbyte (t ++ hiB n) ((0 : Nat) + j) else bif ((0 : Nat) + (j - (t ++ hiB n).size)).beq (0 : Nat) then IntKind.u8.wrap (loN n : Int) else (0 : Int)) = sbyte (t ++ numB n) j := by
  have hl := loN_small n
  refine ⟨by simp [numB]; omega, fun j hj => ?_⟩
  have e : IntKind.u8.wrap (loN n : Int) = ((loN n : Nat) : Int) := by rw [wrapU8]; omega
  rw [e, push_eq (by omega) (by omega) hj, Int.toNat_natCast, numB, ByteArray.append_assoc]
theorem pre_of {t : ByteArray} {n : Nat} (h : small t) (hn : n ≤ 4611686018427387904) : preN (n, t) := by
  have := numB_size hn
  unfold numB at this
  simp only [ByteArray.size_append, oneB_size] at this
  unfold small at h
  refine ⟨hn, ?_⟩
  show t.size + (hiB n).size ≤ _
  omega
theorem notBad {n : Nat} (hn : n ≤ 4611686018427387904) : (bif decide ((n : Int) < (0 : Int)) then true else decide ((4611686018427387904 : Int) < (n : Int))) = false := by
  rw [decide_eq_false (by omega), decide_eq_false (by omega)]; rfl
theorem isBad {n : Int} (hn : n < 0 ∨ 4611686018427387904 < n) : (bif decide (n < (0 : Int)) then true else decide ((4611686018427387904 : Int) < n)) = true := by
  by_cases h : n < 0
  · rw [decide_eq_true h]; rfl
  · rw [decide_eq_false h, decide_eq_true (by omega)]; rfl
theorem roomN {t : ByteArray} {n : Nat} (h : small t) (hn : n ≤ 4611686018427387904) : roomOk 1 ((t ++ hiB n).size + 1) = true := by
  have := (pre_of h hn).2
  simp only at this
  exact room' (by simp only [ByteArray.size_append]; omega)
theorem ansNum : ∀ (a : BA) (n : Nat), a.ok → n ≤ 4611686018427387904 → Answers Try.prog Γw 7 [a.av, .v (.int .i64 (n : Int))] a.bl (.tup [.hs a.n 0 (a.t ++ numB n).size, .v (.int .i64 0)]) (a.bl.map some) [.arr 1 (a.t ++ numB n).size (bsF (a.t ++ numB n))]
  | .nil, n, h, hn => answers (fn := Try.f7) (c := bodyOf Try.f7) (ntmps := 30) (results := [.tmp 4, .tmp 5]) [CT.at 19 (ansClone .nil h)] (LN .nil n ⟨#[]⟩) false Try.func7 (by kernel_rfl) (by kernel_rfl) (by kernel_rfl) (by kernel_rfl) (by simp) rfl
    (oneLoop (b := loopN) (by kernel_rfl) (loopN_ok .nil (n, ⟨#[]⟩) (pre_of (BA.ok_small h) hn)))
    (Meets.of (runNn n h) ⟨fun hc => by rw [notBad hn] at hc; simp at hc, fun _ => ⟨cl_iff.2 ⟨LeL.refl _, trivial⟩, cl_iff.2 ⟨LeL.refl _, .arr rfl (fun j hj => absurd hj (Nat.not_lt_zero _)) (fun _ => rfl), trivial⟩, roomN (BA.ok_small h) hn, by
      obtain ⟨e1, e2⟩ := numTail ⟨#[]⟩ n
      exact ⟨.of_eq (by rw [e1]; rfl), .arr e1 (fun j hj => by rw [e2 j hj]; rfl) (fun _ => rfl), trivial⟩⟩⟩)
  | .sl t, n, h, hn => answers (fn := Try.f7) (c := bodyOf Try.f7) (ntmps := 30) (results := [.tmp 4, .tmp 5]) [CT.at 19 (ansClone (.sl t) h)] (LN (.sl t) n t) false Try.func7 (by kernel_rfl) (by kernel_rfl) (by kernel_rfl) (by kernel_rfl) (by simp) rfl
    (oneLoop (b := loopN) (by kernel_rfl) (loopN_ok (.sl t) (n, t) (pre_of (BA.ok_small h) hn)))
    (Meets.of (runNs t n h) ⟨fun hc => by rw [notBad hn] at hc; simp at hc, fun _ => ⟨cl_iff.2 ⟨LeL.refl _, LeH.refl _⟩, cl_iff.2 ⟨LeL.refl _, LeH.refl _⟩, roomN (BA.ok_small h) hn, by
      obtain ⟨e1, e2⟩ := numTail t n
      exact ⟨.of_eq (by rw [e1]; rfl), .arr e1 (fun j hj => by rw [e2 j hj]; rfl) (fun _ => rfl), trivial⟩⟩⟩)
  | .hs t, n, h, hn => answers (fn := Try.f7) (c := bodyOf Try.f7) (ntmps := 30) (results := [.tmp 4, .tmp 5]) [CT.at 19 (ansClone (.hs t) h)] (LN (.hs t) n t) false Try.func7 (by kernel_rfl) (by kernel_rfl) (by kernel_rfl) (by kernel_rfl) (by simp) rfl
    (oneLoop (b := loopN) (by kernel_rfl) (loopN_ok (.hs t) (n, t) (pre_of (BA.ok_small h) hn)))
    (Meets.of (runNh t n h) ⟨fun hc => by rw [notBad hn] at hc; simp at hc, fun _ => ⟨cl_iff.2 ⟨LeL.refl _, LeH.refl _⟩, cl_iff.2 ⟨LeL.refl _, LeH.refl _⟩, roomN (BA.ok_small h) hn, by
      obtain ⟨e1, e2⟩ := numTail t n
      exact ⟨.of_eq (by rw [e1]; rfl), .refl _, .arr e1 (fun j hj => by rw [e2 j hj]; rfl) (fun _ => rfl), trivial⟩⟩⟩)
theorem ansBad : ∀ (a : BA) (n : Int), a.ok → n < 0 ∨ 4611686018427387904 < n → Answers Try.prog Γw 7 [a.av, .v (.int .i64 n)] a.bl (.tup [.v (.slice none 0 0), .v (.int .i64 10)]) (a.bl.map some) []
  | .nil, n, h, hn => answers (fn := Try.f7) (c := bodyOf Try.f7) (ntmps := 30) (results := [.tmp 4, .tmp 5]) [CT.at 19 (ansClone .nil h)] Lno false Try.func7 (by kernel_rfl) (by kernel_rfl) (by kernel_rfl) (by kernel_rfl) (by simp) rfl
    (fun _ _ _ => fail_ok) (Meets.of (runXn n h) ⟨fun _ => ⟨.refl _, trivial⟩, fun hc => by rw [isBad hn] at hc; simp at hc⟩)
  | .sl t, n, h, hn => answers (fn := Try.f7) (c := bodyOf Try.f7) (ntmps := 30) (results := [.tmp 4, .tmp 5]) [CT.at 19 (ansClone (.sl t) h)] Lno false Try.func7 (by kernel_rfl) (by kernel_rfl) (by kernel_rfl) (by kernel_rfl) (by simp) rfl
    (fun _ _ _ => fail_ok) (Meets.of (runXs t n h) ⟨fun _ => ⟨.refl _, trivial⟩, fun hc => by rw [isBad hn] at hc; simp at hc⟩)
  | .hs t, n, h, hn => answers (fn := Try.f7) (c := bodyOf Try.f7) (ntmps := 30) (results := [.tmp 4, .tmp 5]) [CT.at 19 (ansClone (.hs t) h)] Lno false Try.func7 (by kernel_rfl) (by kernel_rfl) (by kernel_rfl) (by kernel_rfl) (by simp) rfl
    (fun _ _ _ => fail_ok) (Meets.of (runXh t n h) ⟨fun _ => ⟨.refl _, .refl _, trivial⟩, fun hc => by rw [isBad hn] at hc; simp at hc⟩)
end Go.Eng.W

/- wire: the bytes of a number: what the document answers. -/
namespace Go.Eng.W
open Go Go.Eng Go.Proofs
set_option linter.unusedSimpArgs false
set_option linter.unusedVariables false
noncomputable def loopR : Code := loopOf (bodyOf Try.f8) 0
theorem roundR (n : Nat) (t : ByteArray) : roundE (P := Try.prog) (Γ := Γw) [] Lno false 0 0 loopR [0, 4] [] 29 [.v (.int .i64 (n : Int)), .v (.string t)] [] =
  Tree.br (decide ((127 : Int) < (↑n : Int)))
  (Tree.chk true
    (Tree.chk
      (allBytes (1 : Nat) fun j =>
        [AV.v
            (Value.int IntKind.u8
              (bif ((0 : Nat) + j).beq (0 : Nat) then
                IntKind.u8.wrap (IntKind.i64.wrap ((↑n : Int).tmod (128 : Int) + (128 : Int)))
              else (0 : Int)))])
      (Tree.chk (decide (t.size + (1 : Nat) ≤ (9223372036854775807 : Nat)))
        (Tree.chk true
          (Tree.leaf
            (Out.mk AEx.normal
              [AV.v (Value.int IntKind.i64 (IntKind.i64.wrap ((↑n : Int).tdiv (128 : Int)))),
                AV.v
                  (Value.string
                    (t ++
                      textOf (1 : Nat) fun j =>
                        [AV.v
                            (Value.int IntKind.u8
                              (bif ((0 : Nat) + j).beq (0 : Nat) then
                                IntKind.u8.wrap (IntKind.i64.wrap ((↑n : Int).tmod (128 : Int) + (128 : Int)))
                              else (0 : Int)))]))]
              []))))))
  (Tree.leaf (Out.mk (AEx.exit (0 : Nat)) [AV.v (Value.int IntKind.i64 (↑n : Int)), AV.v (Value.string t)] [])) := by kernel_rfl
def SR (n : Nat) (t : ByteArray) : List AV × Heap := ([.v (.int .i64 (n : Int)), .v (.string t)], [])
def OR (n : Nat) (t : ByteArray) : Out := ⟨.exit 0, [.v (.int .i64 (loN n : Int)), .v (.string (t ++ hiB n))], []⟩
theorem digitR (n : Nat) : IntKind.u8.wrap (IntKind.i64.wrap ((n : Int).tmod (128 : Int) + (128 : Int))) = ((n % 128 + 128 : Nat) : Int) := by
  rw [show (128 : Int) = ((128 : Nat) : Int) from rfl, tmod_nat, wrap64E, wrapU8]
  omega
theorem loopR_ok : ∀ x : Nat × ByteArray, preN x → LoopOK Try.prog Γw 0 29 loopR (LSpec.at [0, 4] [] (SR x.1 x.2) (OR x.1 x.2)) := by
  refine loop_at (S := fun x : Nat × ByteArray => SR x.1 x.2) (O := fun x => OR x.1 x.2) (k := 0) (fun x => x.1) fun x hp => ⟨[], Lno, false, noLoops (by kernel_rfl), ?_⟩
  obtain ⟨n, t⟩ := x
  show (roundE (P := Try.prog) (Γ := Γw) [] Lno false 0 0 loopR [0, 4] [] 29 [.v (.int .i64 (n : Int)), .v (.string t)] []).sat _
  rw [roundR]
  have hp1 : n ≤ 4611686018427387904 := hp.1
  have hp2 : t.size + (hiB n).size ≤ 1000000100 := hp.2
  refine ⟨fun hc => ?_, fun hc => ?_⟩
  · have h : (127 : Int) < (n : Int) := of_decide_eq_true hc
    have hge : ¬ n < 128 := by omega
    have e1 := hiB_ge hge
    rw [e1] at hp2
    simp only [ByteArray.size_append, oneB_size] at hp2
    have e2 : IntKind.i64.wrap ((n : Int).tdiv (128 : Int)) = ((n / 128 : Nat) : Int) := by
      rw [show (128 : Int) = ((128 : Nat) : Int) from rfl, tdiv_nat, wrap64E]
      omega
    refine ⟨rfl, rfl, decide_eq_true (by omega), rfl, (n / 128, t ++ oneB (n % 128 + 128)), ?_, trivial, ⟨?_, ?_⟩, ?_, ?_⟩
    · simp only [textOf_one, digitR, Int.toNat_natCast, e2]
      exact ⟨.refl _, .refl _, trivial⟩
    · show n / 128 ≤ _; omega
    · show (t ++ oneB (n % 128 + 128)).size + (hiB (n / 128)).size ≤ _
      simp only [ByteArray.size_append, oneB_size]; omega
    · simp only [OR]; rw [show loN (n / 128) = loN n from (loN_ge hge).symm, e1, ByteArray.append_assoc]
    · show n / 128 < n; omega
  · have h : ¬ (127 : Int) < (n : Int) := of_decide_eq_false hc
    refine ⟨rfl, ?_, trivial⟩
    simp only [OR, hiB_lt (show n < 128 by omega), loN_lt (show n < 128 by omega), append_empty]
    exact LeL.refl _
/-- may a number be written? -/
def okN (n : Int) : Bool := decide (0 ≤ n) && decide (n ≤ 4611686018427387904)
def capN (n : Int) : Nat := min n.toNat 4611686018427387904
theorem capN_nat {k : Nat} (h : k ≤ 4611686018427387904) : capN (k : Int) = k := by
  unfold capN
  rw [Int.toNat_natCast]
  exact Nat.min_eq_left h
noncomputable def LR : List KC → Nat → LSpec
  | [.i n] => fun _ => LSpec.at [0, 4] [] (SR (capN n) ⟨#[]⟩) (OR (capN n) ⟨#[]⟩)
  | _ => Lno
noncomputable def gR : List KC → AV
  | [.i n] => .tup [.v (.string (bif okN n then numB n.toNat else ⟨#[]⟩)), .sb (okN n)]
  | _ => .any
theorem runR (n : Int) : bodyE (P := Try.prog) (Γ := Γw) [] (LR [.i n]) false 29 [.tmp 2, .tmp 3] (bodyOf Try.f8) [.v (.int .i64 n)] [] =
  Tree.br (bif decide (n < (0 : Int)) then true else decide ((4611686018427387904 : Int) < n))
  (Tree.leaf (Ans.mk (AV.tup [AV.v (Value.string (ByteArray.mk #[])), AV.v (Value.bool false)]) []))
  (Tree.chk
    (cl
      (LeL [AV.v (Value.int IntKind.i64 n), AV.v (Value.string (ByteArray.mk #[]))]
          [AV.v (Value.int IntKind.i64 (↑(capN n) : Int)), AV.v (Value.string (ByteArray.mk #[]))] ∧
        LeH [] []))
    (Tree.chk
      (allBytes (1 : Nat) fun j =>
        [AV.v
            (Value.int IntKind.u8
              (bif ((0 : Nat) + j).beq (0 : Nat) then IntKind.u8.wrap (↑(loN (capN n)) : Int) else (0 : Int)))])
      (Tree.chk (decide ((ByteArray.mk #[] ++ hiB (capN n)).size + (1 : Nat) ≤ (9223372036854775807 : Nat)))
        (Tree.leaf
          (Ans.mk
            (AV.tup
              [AV.v
                  (Value.string
                    (ByteArray.mk #[] ++ hiB (capN n) ++
                      textOf (1 : Nat) fun j =>
                        [AV.v
                            (Value.int IntKind.u8
                              (bif ((0 : Nat) + j).beq (0 : Nat) then IntKind.u8.wrap (↑(loN (capN n)) : Int)
                              else (0 : Int)))])),
                AV.v (Value.bool true)])
            []))))) := by kernel_rfl
theorem badN (n : Int) : (bif decide (n < (0 : Int)) then true else decide ((4611686018427387904 : Int) < n)) = !okN n := by
  unfold okN
  by_cases h : n < 0
  · rw [decide_eq_true h, decide_eq_false (show ¬ 0 ≤ n by omega)]; rfl
  · rw [decide_eq_false h, decide_eq_true (show 0 ≤ n by omega)]
    by_cases h2 : 4611686018427387904 < n
    · rw [decide_eq_true h2, decide_eq_false (show ¬ n ≤ 4611686018427387904 by omega)]; rfl
    · rw [decide_eq_false h2, decide_eq_true (show n ≤ 4611686018427387904 by omega)]; rfl
theorem okN_nat {n : Int} (h : okN n = true) : ∃ k : Nat, n = k ∧ k ≤ 4611686018427387904 := by
  unfold okN at h
  simp only [Bool.and_eq_true, decide_eq_true_eq] at h
  exact ⟨n.toNat, by omega, by omega⟩
theorem small_nil : small ⟨#[]⟩ := by unfold small; decide
theorem givesR (n : Int) : Gives (bodyE (P := Try.prog) (Γ := Γw) [] (LR [.i n]) false 29 [.tmp 2, .tmp 3] (bodyOf Try.f8) [.v (.int .i64 n)] []) (.tup [.v (.string (bif okN n then numB n.toNat else ⟨#[]⟩)), .sb (okN n)]) := by
  refine Gives.of (runR n) ?_
  rw [badN]
  cases hok : okN n with
  | false => exact ⟨fun _ => ⟨le_tup ⟨.refl _, .bs _, trivial⟩, trivial⟩, fun hc => by simp at hc⟩
  | true =>
    obtain ⟨k, rfl, hk⟩ := okN_nat hok
    have hl := loN_small k
    have hp : ((⟨#[]⟩ : ByteArray).size) + (hiB k).size ≤ 1000000100 := (pre_of small_nil hk).2
    have e : IntKind.u8.wrap (loN k : Int) = ((loN k : Nat) : Int) := by rw [wrapU8]; omega
    refine ⟨fun hc => by simp at hc, fun _ => ⟨cl_iff.2 ⟨by rw [capN_nat hk]; exact LeL.refl _, trivial⟩, rfl, decide_eq_true (by rw [capN_nat hk]; simp only [ByteArray.size_append] at *; omega), ?_, trivial⟩⟩
    simp only [capN_nat hk, Int.toNat_natCast, textOf_one, e, empty_append]
    exact le_tup ⟨.refl _, .bs _, trivial⟩
theorem fit1c {c : Cel} {l : List KC} (h : kFit [c] l = true) : ∃ x, l = [x] ∧ kcFit c x = true := by
  match l, h with
  | [x], h => simp only [kFit, Bool.and_true] at h; exact ⟨x, rfl, h⟩
  | [], h => simp [kFit] at h
  | _ :: _ :: _, h => simp [kFit] at h
noncomputable def Z.c8 : CT Try.prog Γw := CT.funL 8 Try.f8 (bodyOf Try.f8) [] LR false 29 [.tmp 2, .tmp 3] [.c (.int .i64)] (fun l => match l with | [.i n] => true | _ => false) gR Try.func8 (by kernel_rfl) (by kernel_rfl) (by kernel_rfl) (by kernel_rfl) (by decide)
  (fun l h _ => by
    obtain ⟨x, rfl, hx⟩ := fit1c h
    cases x <;> simp [kcFit] at hx
    rename_i n _
    exact oneLoop (b := loopR) (by kernel_rfl) (loopR_ok (capN n, ⟨#[]⟩) (pre_of small_nil (Nat.min_le_right _ _))))
  (fun l h _ => by
    obtain ⟨x, rfl, hx⟩ := fit1c h
    cases x <;> simp [kcFit] at hx
    exact givesR _)
end Go.Eng.W

/- wire: a text's bytes, the bytes of many numbers. -/
namespace Go.Eng.W
open Go Go.Eng Go.Proofs
set_option linter.unusedSimpArgs false
set_option linter.unusedVariables false
/-- numbers as an argument -/
inductive NA where
  | nil
  | sl (m : Nat) (g : Nat → Int)
  | hs (m : Nat) (g : Nat → Int)
def NA.m : NA → Nat
  | .nil => 0
  | .sl m _ => m
  | .hs m _ => m
def NA.g : NA → Nat → Int
  | .nil => fun _ => 0
  | .sl _ g => g
  | .hs _ g => g
def i64F (g : Nat → Int) : Nat → List AV := fun j => [.v (.int .i64 (g j))]
def NA.av : NA → AV
  | .nil => .v (.slice none 0 0)
  | .sl m g => .sl 1 m (i64F g)
  | .hs m _ => .hs 0 0 m
def NA.bl : NA → List Blk
  | .hs m g => [.arr 1 m (i64F g)]
  | _ => []
def NA.k : NA → Nat
  | .hs _ _ => 1
  | _ => 0
/-- the bytes of the first numbers -/
def catN (g : Nat → Int) : Nat → ByteArray
  | 0 => ⟨#[]⟩
  | i + 1 => catN g i ++ numB (g i).toNat
def outV (k : Nat) (g : Nat → Int) : Nat → AV
  | 0 => .v (.slice none 0 0)
  | i + 1 => .hs k 0 (catN g (i + 1)).size
def outB (g : Nat → Int) : Nat → Heap
  | 0 => []
  | i + 1 => [some (.arr 1 (catN g (i + 1)).size (bsF (catN g (i + 1))))]
noncomputable def loopM : Code := loopOf (bodyOf Try.f11) 0
def SM (a : NA) (i : Nat) : List AV × Heap := ([.any, .any, outV a.k a.g i, a.av, .v (.int .i64 (a.m : Int)), .v (.int .i64 (i : Int))], a.bl.map some ++ outB a.g i)
def OMg (a : NA) : Out := ⟨.exit 0, [.any, .any, outV a.k a.g a.m, .any, .any, .any], a.bl.map some ++ outB a.g a.m⟩
def OMb (a : NA) : Out := ⟨.ret, [.v (.slice none 0 0), .v (.int .i64 10), .any, .any, .any, .any], a.bl.map some⟩
theorem catN_small {g : Nat → Int} : ∀ {i : Nat}, (∀ j, j < i → okN (g j) = true) → (catN g i).size ≤ 9 * i ∧ (0 < i → 0 < (catN g i).size)
  | 0, _ => ⟨Nat.zero_le _, fun h => by omega⟩
  | i + 1, h => by
    obtain ⟨h1, _⟩ := catN_small (g := g) (i := i) fun j hj => h j (by omega)
    obtain ⟨k, hk, hk2⟩ := okN_nat (h i (by omega))
    have := numB_size hk2
    simp only [catN, ByteArray.size_append, hk, Int.toNat_natCast]
    omega
theorem small_cat {g : Nat → Int} {i : Nat} (h : ∀ j, j < i → okN (g j) = true) (hi : i ≤ 100000) : small (catN g i) := by
  have := (catN_small h).1
  unfold small; omega
theorem roundMn  : roundE (P := Try.prog) (Γ := Γw) [] Lno false 0 0 loopM [2, 3, 4, 8, 9, 10] [] 25 [.any, .any, .v (.slice none 0 0), .v (.slice none 0 0), .v (.int .i64 (0 : Nat)), .v (.int .i64 (0 : Nat))] [] =
  Tree.br false Tree.fail
  (Tree.leaf
    (Out.mk (AEx.exit (0 : Nat))
      [AV.any, AV.any, AV.v (Value.slice none (0 : Nat) (0 : Nat)), AV.v (Value.slice none (0 : Nat) (0 : Nat)),
        AV.v (Value.int IntKind.i64 (↑(0 : Nat) : Int)), AV.v (Value.int IntKind.i64 (↑(0 : Nat) : Int))]
      [])) := by kernel_rfl
theorem roundMs0 (m : Nat) (g : Nat → Int) (n : Nat) (h : n ≤ 4611686018427387904) : roundE (P := Try.prog) (Γ := Γw) [CT.at 7 (ansNum .nil n trivial h)] Lno false 0 0 loopM [2, 3, 4, 8, 9, 10] [] 25 [.any, .any, .v (.slice none 0 0), .sl 1 m (i64F g), .v (.int .i64 (m : Int)), .v (.int .i64 (0 : Nat))] [] =
  Tree.br (decide ((↑(0 : Nat) : Int) < (↑m : Int)))
  (Tree.chk (true && decide ((↑(0 : Nat) : Int) < (↑m : Int)))
    (Tree.chk
      (cl
        (LeL [AV.v (Value.slice none (0 : Nat) (0 : Nat)), AV.v (Value.int IntKind.i64 (g (↑(0 : Nat) : Int).toNat))]
            [AV.v (Value.slice none (0 : Nat) (0 : Nat)), AV.v (Value.int IntKind.i64 (↑n : Int))] ∧
          LeH [] []))
      (Tree.br false
        (Tree.leaf
          (Out.mk AEx.ret
            [AV.v (Value.slice none (0 : Nat) (0 : Nat)), AV.v (Value.int IntKind.i64 (0 : Int)),
              AV.hs (0 : Nat) (0 : Nat) (BA.nil.t ++ numB n).size,
              AV.sl (1 : Nat) m fun j => [AV.v (Value.int IntKind.i64 (g j))], AV.v (Value.int IntKind.i64 (↑m : Int)),
              AV.v (Value.int IntKind.i64 (↑(0 : Nat) : Int))]
            [some
                (Blk.arr (1 : Nat) (BA.nil.t ++ numB n).size fun j =>
                  [AV.v (Value.int IntKind.u8 (sbyte (BA.nil.t ++ numB n) j))])]))
        (Tree.leaf
          (Out.mk AEx.normal
            [AV.any, AV.any, AV.hs (0 : Nat) (0 : Nat) (BA.nil.t ++ numB n).size,
              AV.sl (1 : Nat) m fun j => [AV.v (Value.int IntKind.i64 (g j))], AV.v (Value.int IntKind.i64 (↑m : Int)),
              AV.v (Value.int IntKind.i64 (IntKind.i64.wrap ((↑(0 : Nat) : Int) + (1 : Int))))]
            [some
                (Blk.arr (1 : Nat) (BA.nil.t ++ numB n).size fun j =>
                  [AV.v (Value.int IntKind.u8 (sbyte (BA.nil.t ++ numB n) j))])])))))
  (Tree.leaf
    (Out.mk (AEx.exit (0 : Nat))
      [AV.any, AV.any, AV.v (Value.slice none (0 : Nat) (0 : Nat)),
        AV.sl (1 : Nat) m fun j => [AV.v (Value.int IntKind.i64 (g j))], AV.v (Value.int IntKind.i64 (↑m : Int)),
        AV.v (Value.int IntKind.i64 (↑(0 : Nat) : Int))]
      [])) := by kernel_rfl
theorem roundMs1 (m : Nat) (g : Nat → Int) (n i : Nat) (t : ByteArray) (ht : (BA.hs t).ok) (h : n ≤ 4611686018427387904) : roundE (P := Try.prog) (Γ := Γw) [CT.at 7 (ansNum (.hs t) n ht h)] Lno false 0 0 loopM [2, 3, 4, 8, 9, 10] [] 25 [.any, .any, .hs 0 0 t.size, .sl 1 m (i64F g), .v (.int .i64 (m : Int)), .v (.int .i64 (i : Int))] [some (.arr 1 t.size (bsF t))] =
  Tree.br (decide ((↑i : Int) < (↑m : Int)))
  (Tree.chk (decide ((0 : Int) ≤ (↑i : Int)) && decide ((↑i : Int) < (↑m : Int)))
    (Tree.chk
      (cl
        (LeL [AV.hs (0 : Nat) (0 : Nat) t.size, AV.v (Value.int IntKind.i64 (g (↑i : Int).toNat))]
            [AV.hs (0 : Nat) (0 : Nat) t.size, AV.v (Value.int IntKind.i64 (↑n : Int))] ∧
          LeH [some (Blk.arr (1 : Nat) t.size fun j => [AV.v (Value.int IntKind.u8 (sbyte t j))])]
            [some (Blk.arr (1 : Nat) t.size fun j => [AV.v (Value.int IntKind.u8 (sbyte t j))])]))
      (Tree.br false
        (Tree.leaf
          (Out.mk AEx.ret
            [AV.v (Value.slice none (0 : Nat) (0 : Nat)), AV.v (Value.int IntKind.i64 (0 : Int)),
              AV.hs (0 : Nat) (0 : Nat) ((BA.hs t).t ++ numB n).size,
              AV.sl (1 : Nat) m fun j => [AV.v (Value.int IntKind.i64 (g j))], AV.v (Value.int IntKind.i64 (↑m : Int)),
              AV.v (Value.int IntKind.i64 (↑i : Int))]
            [some
                (Blk.arr (1 : Nat) ((BA.hs t).t ++ numB n).size fun j =>
                  [AV.v (Value.int IntKind.u8 (sbyte ((BA.hs t).t ++ numB n) j))])]))
        (Tree.leaf
          (Out.mk AEx.normal
            [AV.any, AV.any, AV.hs (0 : Nat) (0 : Nat) ((BA.hs t).t ++ numB n).size,
              AV.sl (1 : Nat) m fun j => [AV.v (Value.int IntKind.i64 (g j))], AV.v (Value.int IntKind.i64 (↑m : Int)),
              AV.v (Value.int IntKind.i64 (IntKind.i64.wrap ((↑i : Int) + (1 : Int))))]
            [some
                (Blk.arr (1 : Nat) ((BA.hs t).t ++ numB n).size fun j =>
                  [AV.v (Value.int IntKind.u8 (sbyte ((BA.hs t).t ++ numB n) j))])])))))
  (Tree.leaf
    (Out.mk (AEx.exit (0 : Nat))
      [AV.any, AV.any, AV.hs (0 : Nat) (0 : Nat) t.size,
        AV.sl (1 : Nat) m fun j => [AV.v (Value.int IntKind.i64 (g j))], AV.v (Value.int IntKind.i64 (↑m : Int)),
        AV.v (Value.int IntKind.i64 (↑i : Int))]
      [some (Blk.arr (1 : Nat) t.size fun j => [AV.v (Value.int IntKind.u8 (sbyte t j))])])) := by kernel_rfl
theorem roundMh0 (m : Nat) (g : Nat → Int) (n : Nat) (h : n ≤ 4611686018427387904) : roundE (P := Try.prog) (Γ := Γw) [CT.at 7 (ansNum .nil n trivial h)] Lno false 1 0 loopM [2, 3, 4, 8, 9, 10] [] 25 [.any, .any, .v (.slice none 0 0), .hs 0 0 m, .v (.int .i64 (m : Int)), .v (.int .i64 (0 : Nat))] [some (.arr 1 m (i64F g))] =
  Tree.br (decide ((↑(0 : Nat) : Int) < (↑m : Int)))
  (Tree.chk (true && decide ((↑(0 : Nat) : Int) < (↑m : Int)))
    (Tree.chk
      (cl
        (LeL
            [AV.v (Value.slice none (0 : Nat) (0 : Nat)),
              AV.v (Value.int IntKind.i64 (g ((0 : Nat) + (↑(0 : Nat) : Int).toNat)))]
            [AV.v (Value.slice none (0 : Nat) (0 : Nat)), AV.v (Value.int IntKind.i64 (↑n : Int))] ∧
          LeH [] []))
      (Tree.br false
        (Tree.leaf
          (Out.mk AEx.ret
            [AV.v (Value.slice none (0 : Nat) (0 : Nat)), AV.v (Value.int IntKind.i64 (0 : Int)),
              AV.hs (1 : Nat) (0 : Nat) (BA.nil.t ++ numB n).size, AV.hs (0 : Nat) (0 : Nat) m,
              AV.v (Value.int IntKind.i64 (↑m : Int)), AV.v (Value.int IntKind.i64 (↑(0 : Nat) : Int))]
            [some (Blk.arr (1 : Nat) m fun j => [AV.v (Value.int IntKind.i64 (g j))]),
              some
                (Blk.arr (1 : Nat) (BA.nil.t ++ numB n).size fun j =>
                  [AV.v (Value.int IntKind.u8 (sbyte (BA.nil.t ++ numB n) j))])]))
        (Tree.leaf
          (Out.mk AEx.normal
            [AV.any, AV.any, AV.hs (1 : Nat) (0 : Nat) (BA.nil.t ++ numB n).size, AV.hs (0 : Nat) (0 : Nat) m,
              AV.v (Value.int IntKind.i64 (↑m : Int)),
              AV.v (Value.int IntKind.i64 (IntKind.i64.wrap ((↑(0 : Nat) : Int) + (1 : Int))))]
            [some (Blk.arr (1 : Nat) m fun j => [AV.v (Value.int IntKind.i64 (g j))]),
              some
                (Blk.arr (1 : Nat) (BA.nil.t ++ numB n).size fun j =>
                  [AV.v (Value.int IntKind.u8 (sbyte (BA.nil.t ++ numB n) j))])])))))
  (Tree.leaf
    (Out.mk (AEx.exit (0 : Nat))
      [AV.any, AV.any, AV.v (Value.slice none (0 : Nat) (0 : Nat)), AV.hs (0 : Nat) (0 : Nat) m,
        AV.v (Value.int IntKind.i64 (↑m : Int)), AV.v (Value.int IntKind.i64 (↑(0 : Nat) : Int))]
      [some (Blk.arr (1 : Nat) m fun j => [AV.v (Value.int IntKind.i64 (g j))])])) := by kernel_rfl
theorem roundMh1 (m : Nat) (g : Nat → Int) (n i : Nat) (t : ByteArray) (ht : (BA.hs t).ok) (h : n ≤ 4611686018427387904) : roundE (P := Try.prog) (Γ := Γw) [CT.at 7 (ansNum (.hs t) n ht h)] Lno false 1 0 loopM [2, 3, 4, 8, 9, 10] [] 25 [.any, .any, .hs 1 0 t.size, .hs 0 0 m, .v (.int .i64 (m : Int)), .v (.int .i64 (i : Int))] [some (.arr 1 m (i64F g)), some (.arr 1 t.size (bsF t))] =
  Tree.br (decide ((↑i : Int) < (↑m : Int)))
  (Tree.chk (decide ((0 : Int) ≤ (↑i : Int)) && decide ((↑i : Int) < (↑m : Int)))
    (Tree.chk
      (cl
        (LeL [AV.hs (0 : Nat) (0 : Nat) t.size, AV.v (Value.int IntKind.i64 (g ((0 : Nat) + (↑i : Int).toNat)))]
            [AV.hs (0 : Nat) (0 : Nat) t.size, AV.v (Value.int IntKind.i64 (↑n : Int))] ∧
          LeH [some (Blk.arr (1 : Nat) t.size fun j => [AV.v (Value.int IntKind.u8 (sbyte t j))])]
            [some (Blk.arr (1 : Nat) t.size fun j => [AV.v (Value.int IntKind.u8 (sbyte t j))])]))
      (Tree.br false
        (Tree.leaf
          (Out.mk AEx.ret
            [AV.v (Value.slice none (0 : Nat) (0 : Nat)), AV.v (Value.int IntKind.i64 (0 : Int)),
              AV.hs (1 : Nat) (0 : Nat) ((BA.hs t).t ++ numB n).size, AV.hs (0 : Nat) (0 : Nat) m,
              AV.v (Value.int IntKind.i64 (↑m : Int)), AV.v (Value.int IntKind.i64 (↑i : Int))]
            [some (Blk.arr (1 : Nat) m fun j => [AV.v (Value.int IntKind.i64 (g j))]),
              some
                (Blk.arr (1 : Nat) ((BA.hs t).t ++ numB n).size fun j =>
                  [AV.v (Value.int IntKind.u8 (sbyte ((BA.hs t).t ++ numB n) j))])]))
        (Tree.leaf
          (Out.mk AEx.normal
            [AV.any, AV.any, AV.hs (1 : Nat) (0 : Nat) ((BA.hs t).t ++ numB n).size, AV.hs (0 : Nat) (0 : Nat) m,
              AV.v (Value.int IntKind.i64 (↑m : Int)),
              AV.v (Value.int IntKind.i64 (IntKind.i64.wrap ((↑i : Int) + (1 : Int))))]
            [some (Blk.arr (1 : Nat) m fun j => [AV.v (Value.int IntKind.i64 (g j))]),
              some
                (Blk.arr (1 : Nat) ((BA.hs t).t ++ numB n).size fun j =>
                  [AV.v (Value.int IntKind.u8 (sbyte ((BA.hs t).t ++ numB n) j))])])))))
  (Tree.leaf
    (Out.mk (AEx.exit (0 : Nat))
      [AV.any, AV.any, AV.hs (1 : Nat) (0 : Nat) t.size, AV.hs (0 : Nat) (0 : Nat) m,
        AV.v (Value.int IntKind.i64 (↑m : Int)), AV.v (Value.int IntKind.i64 (↑i : Int))]
      [some (Blk.arr (1 : Nat) m fun j => [AV.v (Value.int IntKind.i64 (g j))]),
        some (Blk.arr (1 : Nat) t.size fun j => [AV.v (Value.int IntKind.u8 (sbyte t j))])])) := by kernel_rfl
theorem roundMb0 (m : Nat) (g : Nat → Int) (n : Int) (h : n < 0 ∨ 4611686018427387904 < n) : roundE (P := Try.prog) (Γ := Γw) [CT.at 7 (ansBad .nil n trivial h)] Lno false 0 0 loopM [2, 3, 4, 8, 9, 10] [] 25 [.any, .any, .v (.slice none 0 0), .sl 1 m (i64F g), .v (.int .i64 (m : Int)), .v (.int .i64 (0 : Nat))] [] =
  Tree.br (decide ((↑(0 : Nat) : Int) < (↑m : Int)))
  (Tree.chk (true && decide ((↑(0 : Nat) : Int) < (↑m : Int)))
    (Tree.chk
      (cl
        (LeL [AV.v (Value.slice none (0 : Nat) (0 : Nat)), AV.v (Value.int IntKind.i64 (g (↑(0 : Nat) : Int).toNat))]
            [AV.v (Value.slice none (0 : Nat) (0 : Nat)), AV.v (Value.int IntKind.i64 n)] ∧
          LeH [] []))
      (Tree.br true
        (Tree.leaf
          (Out.mk AEx.ret
            [AV.v (Value.slice none (0 : Nat) (0 : Nat)), AV.v (Value.int IntKind.i64 (10 : Int)),
              AV.v (Value.slice none (0 : Nat) (0 : Nat)),
              AV.sl (1 : Nat) m fun j => [AV.v (Value.int IntKind.i64 (g j))], AV.v (Value.int IntKind.i64 (↑m : Int)),
              AV.v (Value.int IntKind.i64 (↑(0 : Nat) : Int))]
            []))
        (Tree.leaf
          (Out.mk AEx.normal
            [AV.any, AV.any, AV.v (Value.slice none (0 : Nat) (0 : Nat)),
              AV.sl (1 : Nat) m fun j => [AV.v (Value.int IntKind.i64 (g j))], AV.v (Value.int IntKind.i64 (↑m : Int)),
              AV.v (Value.int IntKind.i64 (IntKind.i64.wrap ((↑(0 : Nat) : Int) + (1 : Int))))]
            [])))))
  (Tree.leaf
    (Out.mk (AEx.exit (0 : Nat))
      [AV.any, AV.any, AV.v (Value.slice none (0 : Nat) (0 : Nat)),
        AV.sl (1 : Nat) m fun j => [AV.v (Value.int IntKind.i64 (g j))], AV.v (Value.int IntKind.i64 (↑m : Int)),
        AV.v (Value.int IntKind.i64 (↑(0 : Nat) : Int))]
      [])) := by kernel_rfl
theorem roundMb1 (m : Nat) (g : Nat → Int) (n : Int) (i : Nat) (t : ByteArray) (ht : (BA.hs t).ok) (h : n < 0 ∨ 4611686018427387904 < n) : roundE (P := Try.prog) (Γ := Γw) [CT.at 7 (ansBad (.hs t) n ht h)] Lno false 0 0 loopM [2, 3, 4, 8, 9, 10] [] 25 [.any, .any, .hs 0 0 t.size, .sl 1 m (i64F g), .v (.int .i64 (m : Int)), .v (.int .i64 (i : Int))] [some (.arr 1 t.size (bsF t))] =
  Tree.br (decide ((↑i : Int) < (↑m : Int)))
  (Tree.chk (decide ((0 : Int) ≤ (↑i : Int)) && decide ((↑i : Int) < (↑m : Int)))
    (Tree.chk
      (cl
        (LeL [AV.hs (0 : Nat) (0 : Nat) t.size, AV.v (Value.int IntKind.i64 (g (↑i : Int).toNat))]
            [AV.hs (0 : Nat) (0 : Nat) t.size, AV.v (Value.int IntKind.i64 n)] ∧
          LeH [some (Blk.arr (1 : Nat) t.size fun j => [AV.v (Value.int IntKind.u8 (sbyte t j))])]
            [some (Blk.arr (1 : Nat) t.size fun j => [AV.v (Value.int IntKind.u8 (sbyte t j))])]))
      (Tree.br true
        (Tree.leaf
          (Out.mk AEx.ret
            [AV.v (Value.slice none (0 : Nat) (0 : Nat)), AV.v (Value.int IntKind.i64 (10 : Int)),
              AV.v (Value.slice none (0 : Nat) (0 : Nat)),
              AV.sl (1 : Nat) m fun j => [AV.v (Value.int IntKind.i64 (g j))], AV.v (Value.int IntKind.i64 (↑m : Int)),
              AV.v (Value.int IntKind.i64 (↑i : Int))]
            []))
        (Tree.leaf
          (Out.mk AEx.normal
            [AV.any, AV.any, AV.v (Value.slice none (0 : Nat) (0 : Nat)),
              AV.sl (1 : Nat) m fun j => [AV.v (Value.int IntKind.i64 (g j))], AV.v (Value.int IntKind.i64 (↑m : Int)),
              AV.v (Value.int IntKind.i64 (IntKind.i64.wrap ((↑i : Int) + (1 : Int))))]
            [])))))
  (Tree.leaf
    (Out.mk (AEx.exit (0 : Nat))
      [AV.any, AV.any, AV.hs (0 : Nat) (0 : Nat) t.size,
        AV.sl (1 : Nat) m fun j => [AV.v (Value.int IntKind.i64 (g j))], AV.v (Value.int IntKind.i64 (↑m : Int)),
        AV.v (Value.int IntKind.i64 (↑i : Int))]
      [some (Blk.arr (1 : Nat) t.size fun j => [AV.v (Value.int IntKind.u8 (sbyte t j))])])) := by kernel_rfl
theorem pick {g : Nat → Int} {m i : Nat} (hok : ∀ j, j < m → okN (g j) = true) : ∃ k : Nat, k ≤ 4611686018427387904 ∧ (i < m → g i = k) := by
  by_cases h : i < m
  · obtain ⟨k, h1, h2⟩ := okN_nat (hok i h)
    exact ⟨k, h2, fun _ => h1⟩
  · exact ⟨0, by decide, fun h' => absurd h' h⟩
theorem hs_ok {g : Nat → Int} {i : Nat} (h : ∀ j, j < i + 1 → okN (g j) = true) (hi : i + 1 ≤ 100000) : (BA.hs (catN g (i + 1))).ok := ⟨small_cat h hi, (catN_small h).2 (by omega)⟩
theorem loopMg_ok (a : NA) (hok : ∀ j, j < a.m → okN (a.g j) = true) (hm : a.m ≤ 100000) : ∀ i, i ≤ a.m → LoopOK Try.prog Γw a.bl.length 25 loopM (LSpec.at [2, 3, 4, 8, 9, 10] [] (SM a i) (OMg a)) := by
  refine loop_at (S := SM a) (pre := fun i => i ≤ a.m) (O := fun _ => OMg a) (k := 0) (fun i => a.m - i) fun i hi => ?_
  cases a with
  | nil =>
    obtain rfl : i = 0 := Nat.le_zero.1 hi
    refine ⟨[], Lno, false, noLoops (by kernel_rfl), ?_⟩
    show (roundE (P := Try.prog) (Γ := Γw) [] Lno false 0 0 loopM [2, 3, 4, 8, 9, 10] [] 25 [.any, .any, .v (.slice none 0 0), .v (.slice none 0 0), .v (.int .i64 (0 : Nat)), .v (.int .i64 (0 : Nat))] []).sat _
    rw [roundMn]
    exact ⟨fun h => by simp at h, fun _ => ⟨rfl, ⟨.any _, .any _, .refl _, .any _, .any _, .any _, trivial⟩, trivial⟩⟩
  | sl m g =>
    have hok : ∀ j, j < m → okN (g j) = true := hok
    have hm : m ≤ 100000 := hm
    obtain ⟨n, hn, hg⟩ := pick (i := i) hok
    cases i with
    | zero =>
      refine ⟨[CT.at 7 (ansNum .nil n trivial hn)], Lno, false, noLoops (by kernel_rfl), ?_⟩
      show (roundE (P := Try.prog) (Γ := Γw) [CT.at 7 (ansNum .nil n trivial hn)] Lno false 0 0 loopM [2, 3, 4, 8, 9, 10] [] 25 [.any, .any, .v (.slice none 0 0), .sl 1 m (i64F g), .v (.int .i64 (m : Int)), .v (.int .i64 (0 : Nat))] []).sat _
      rw [roundMs0 m g n hn]
      refine ⟨fun hc => ?_, fun hc => ?_⟩
      · have hlt : 0 < m := by have := of_decide_eq_true hc; omega
        have h := hg hlt
        have e : BA.nil.t ++ numB n = catN g (0 + 1) := by
          show catN g (0) ++ numB n = catN g (0) ++ numB (g (0)).toNat
          rw [h, Int.toNat_natCast]
        have e3 : IntKind.i64.wrap (((0 : Nat) : Int) + (1 : Int)) = ((0 + 1 : Nat) : Int) := by rw [wrap64E]; omega
        rw [e, e3]
        refine ⟨by rw [Bool.true_and]; exact hc, cl_iff.2 ⟨⟨.refl _, .of_eq (by simp only [Int.toNat_natCast]; rw [h]), trivial⟩, trivial⟩, fun h => by simp at h, fun _ => ⟨0 + 1, LeL.refl _, LeH.refl _, hlt, rfl, ?_⟩⟩
        show m - (0 + 1) < m - (0); omega
      · have h := of_decide_eq_false hc
        obtain rfl : m = 0 := by have h2 : 0 ≤ m := hi; omega
        exact ⟨rfl, ⟨.any _, .any _, .refl _, .any _, .any _, .any _, trivial⟩, LeH.refl _⟩
    | succ i =>
      have hb : (BA.hs (catN g (i + 1))).ok := hs_ok (fun j hj => hok j (Nat.lt_of_lt_of_le hj hi)) (Nat.le_trans hi hm)
      refine ⟨[CT.at 7 (ansNum (.hs (catN g (i + 1))) n hb hn)], Lno, false, noLoops (by kernel_rfl), ?_⟩
      show (roundE (P := Try.prog) (Γ := Γw) [CT.at 7 (ansNum (.hs (catN g (i + 1))) n hb hn)] Lno false 0 0 loopM [2, 3, 4, 8, 9, 10] [] 25 [.any, .any, .hs 0 0 (catN g (i + 1)).size, .sl 1 m (i64F g), .v (.int .i64 (m : Int)), .v (.int .i64 ((i + 1 : Nat) : Int))] [some (.arr 1 (catN g (i + 1)).size (bsF (catN g (i + 1))))]).sat _
      rw [roundMs1 m g n (i + 1) (catN g (i + 1)) hb hn]
      refine ⟨fun hc => ?_, fun hc => ?_⟩
      · have hlt : i + 1 < m := by have := of_decide_eq_true hc; omega
        have h := hg hlt
        have e : (BA.hs (catN g (i + 1))).t ++ numB n = catN g (i + 1 + 1) := by
          show catN g (i + 1) ++ numB n = catN g (i + 1) ++ numB (g (i + 1)).toNat
          rw [h, Int.toNat_natCast]
        have e3 : IntKind.i64.wrap (((i + 1 : Nat) : Int) + (1 : Int)) = ((i + 1 + 1 : Nat) : Int) := by rw [wrap64E]; omega
        rw [e, e3]
        refine ⟨by rw [hc]; simp; omega, cl_iff.2 ⟨⟨.refl _, .of_eq (by simp only [Int.toNat_natCast]; rw [h]), trivial⟩, LeH.refl _⟩, fun h => by simp at h, fun _ => ⟨i + 1 + 1, LeL.refl _, LeH.refl _, hlt, rfl, ?_⟩⟩
        show m - (i + 1 + 1) < m - (i + 1); omega
      · have h := of_decide_eq_false hc
        obtain rfl : m = i + 1 := by have h2 : i + 1 ≤ m := hi; omega
        exact ⟨rfl, ⟨.any _, .any _, .refl _, .any _, .any _, .any _, trivial⟩, LeH.refl _⟩
  | hs m g =>
    have hok : ∀ j, j < m → okN (g j) = true := hok
    have hm : m ≤ 100000 := hm
    obtain ⟨n, hn, hg⟩ := pick (i := i) hok
    cases i with
    | zero =>
      refine ⟨[CT.at 7 (ansNum .nil n trivial hn)], Lno, false, noLoops (by kernel_rfl), ?_⟩
      show (roundE (P := Try.prog) (Γ := Γw) [CT.at 7 (ansNum .nil n trivial hn)] Lno false 1 0 loopM [2, 3, 4, 8, 9, 10] [] 25 [.any, .any, .v (.slice none 0 0), .hs 0 0 m, .v (.int .i64 (m : Int)), .v (.int .i64 (0 : Nat))] [some (.arr 1 m (i64F g))]).sat _
      rw [roundMh0 m g n hn]
      refine ⟨fun hc => ?_, fun hc => ?_⟩
      · have hlt : 0 < m := by have := of_decide_eq_true hc; omega
        have h := hg hlt
        have e : BA.nil.t ++ numB n = catN g (0 + 1) := by
          show catN g (0) ++ numB n = catN g (0) ++ numB (g (0)).toNat
          rw [h, Int.toNat_natCast]
        have e3 : IntKind.i64.wrap (((0 : Nat) : Int) + (1 : Int)) = ((0 + 1 : Nat) : Int) := by rw [wrap64E]; omega
        rw [e, e3]
        refine ⟨by rw [Bool.true_and]; exact hc, cl_iff.2 ⟨⟨.refl _, .of_eq (by simp only [Int.toNat_natCast, Nat.zero_add]; rw [h]), trivial⟩, trivial⟩, fun h => by simp at h, fun _ => ⟨0 + 1, LeL.refl _, LeH.refl _, hlt, rfl, ?_⟩⟩
        show m - (0 + 1) < m - (0); omega
      · have h := of_decide_eq_false hc
        obtain rfl : m = 0 := by have h2 : 0 ≤ m := hi; omega
        exact ⟨rfl, ⟨.any _, .any _, .refl _, .any _, .any _, .any _, trivial⟩, LeH.refl _⟩
    | succ i =>
      have hb : (BA.hs (catN g (i + 1))).ok := hs_ok (fun j hj => hok j (Nat.lt_of_lt_of_le hj hi)) (Nat.le_trans hi hm)
      refine ⟨[CT.at 7 (ansNum (.hs (catN g (i + 1))) n hb hn)], Lno, false, noLoops (by kernel_rfl), ?_⟩
      show (roundE (P := Try.prog) (Γ := Γw) [CT.at 7 (ansNum (.hs (catN g (i + 1))) n hb hn)] Lno false 1 0 loopM [2, 3, 4, 8, 9, 10] [] 25 [.any, .any, .hs 1 0 (catN g (i + 1)).size, .hs 0 0 m, .v (.int .i64 (m : Int)), .v (.int .i64 ((i + 1 : Nat) : Int))] [some (.arr 1 m (i64F g)), some (.arr 1 (catN g (i + 1)).size (bsF (catN g (i + 1))))]).sat _
      rw [roundMh1 m g n (i + 1) (catN g (i + 1)) hb hn]
      refine ⟨fun hc => ?_, fun hc => ?_⟩
      · have hlt : i + 1 < m := by have := of_decide_eq_true hc; omega
        have h := hg hlt
        have e : (BA.hs (catN g (i + 1))).t ++ numB n = catN g (i + 1 + 1) := by
          show catN g (i + 1) ++ numB n = catN g (i + 1) ++ numB (g (i + 1)).toNat
          rw [h, Int.toNat_natCast]
        have e3 : IntKind.i64.wrap (((i + 1 : Nat) : Int) + (1 : Int)) = ((i + 1 + 1 : Nat) : Int) := by rw [wrap64E]; omega
        rw [e, e3]
        refine ⟨by rw [hc]; simp; omega, cl_iff.2 ⟨⟨.refl _, .of_eq (by simp only [Int.toNat_natCast, Nat.zero_add]; rw [h]), trivial⟩, LeH.refl _⟩, fun h => by simp at h, fun _ => ⟨i + 1 + 1, LeL.refl _, LeH.refl _, hlt, rfl, ?_⟩⟩
        show m - (i + 1 + 1) < m - (i + 1); omega
      · have h := of_decide_eq_false hc
        obtain rfl : m = i + 1 := by have h2 : i + 1 ≤ m := hi; omega
        exact ⟨rfl, ⟨.any _, .any _, .refl _, .any _, .any _, .any _, trivial⟩, LeH.refl _⟩
theorem okN_bad {n : Int} (h : okN n = false) : n < 0 ∨ 4611686018427387904 < n := by
  unfold okN at h
  by_cases h1 : n < 0
  · exact .inl h1
  · rw [decide_eq_true (show 0 ≤ n by omega), Bool.true_and, decide_eq_false_iff_not] at h
    exact .inr (by omega)
theorem loopMb_ok (m : Nat) (g : Nat → Int) (b : Nat) (hb : b < m) (hok : ∀ j, j < b → okN (g j) = true) (hbad : okN (g b) = false) (hm : m ≤ 100000) : ∀ i, i ≤ b → LoopOK Try.prog Γw 0 25 loopM (LSpec.at [2, 3, 4, 8, 9, 10] [] (SM (.sl m g) i) (OMb (.sl m g))) := by
  refine loop_at (S := SM (.sl m g)) (pre := fun i => i ≤ b) (O := fun _ => OMb (.sl m g)) (k := 0) (fun i => b - i) fun i hi => ?_
  rcases Nat.lt_or_ge i b with hib | hib
  · obtain ⟨n, hg, hn⟩ := okN_nat (hok i hib)
    cases i with
    | zero =>
      refine ⟨[CT.at 7 (ansNum .nil n trivial hn)], Lno, false, noLoops (by kernel_rfl), ?_⟩
      show (roundE (P := Try.prog) (Γ := Γw) [CT.at 7 (ansNum .nil n trivial hn)] Lno false 0 0 loopM [2, 3, 4, 8, 9, 10] [] 25 [.any, .any, .v (.slice none 0 0), .sl 1 m (i64F g), .v (.int .i64 (m : Int)), .v (.int .i64 (0 : Nat))] []).sat _
      rw [roundMs0 m g n hn]
      refine ⟨fun hc => ?_, fun hc => ?_⟩
      · have hlt : 0 < m := by have := of_decide_eq_true hc; omega
        have h := hg
        have e : BA.nil.t ++ numB n = catN g (0 + 1) := by
          show catN g (0) ++ numB n = catN g (0) ++ numB (g (0)).toNat
          rw [h, Int.toNat_natCast]
        have e3 : IntKind.i64.wrap (((0 : Nat) : Int) + (1 : Int)) = ((0 + 1 : Nat) : Int) := by rw [wrap64E]; omega
        rw [e, e3]
        refine ⟨by rw [Bool.true_and]; exact hc, cl_iff.2 ⟨⟨.refl _, .of_eq (by simp only [Int.toNat_natCast]; rw [h]), trivial⟩, trivial⟩, fun h => by simp at h, fun _ => ⟨0 + 1, LeL.refl _, LeH.refl _, Nat.succ_le_of_lt hib, rfl, ?_⟩⟩
        show b - (0 + 1) < b - (0); omega
      · have h := of_decide_eq_false hc
        omega
    | succ i =>
      have hb' : (BA.hs (catN g (i + 1))).ok := hs_ok (fun j hj => hok j (Nat.lt_of_lt_of_le hj hi)) (by omega)
      refine ⟨[CT.at 7 (ansNum (.hs (catN g (i + 1))) n hb' hn)], Lno, false, noLoops (by kernel_rfl), ?_⟩
      show (roundE (P := Try.prog) (Γ := Γw) [CT.at 7 (ansNum (.hs (catN g (i + 1))) n hb' hn)] Lno false 0 0 loopM [2, 3, 4, 8, 9, 10] [] 25 [.any, .any, .hs 0 0 (catN g (i + 1)).size, .sl 1 m (i64F g), .v (.int .i64 (m : Int)), .v (.int .i64 ((i + 1 : Nat) : Int))] [some (.arr 1 (catN g (i + 1)).size (bsF (catN g (i + 1))))]).sat _
      rw [roundMs1 m g n (i + 1) (catN g (i + 1)) hb' hn]
      refine ⟨fun hc => ?_, fun hc => ?_⟩
      · have hlt : i + 1 < m := by have := of_decide_eq_true hc; omega
        have h := hg
        have e : (BA.hs (catN g (i + 1))).t ++ numB n = catN g (i + 1 + 1) := by
          show catN g (i + 1) ++ numB n = catN g (i + 1) ++ numB (g (i + 1)).toNat
          rw [h, Int.toNat_natCast]
        have e3 : IntKind.i64.wrap (((i + 1 : Nat) : Int) + (1 : Int)) = ((i + 1 + 1 : Nat) : Int) := by rw [wrap64E]; omega
        rw [e, e3]
        refine ⟨by rw [hc]; simp; omega, cl_iff.2 ⟨⟨.refl _, .of_eq (by simp only [Int.toNat_natCast]; rw [h]), trivial⟩, LeH.refl _⟩, fun h => by simp at h, fun _ => ⟨i + 1 + 1, LeL.refl _, LeH.refl _, Nat.succ_le_of_lt hib, rfl, ?_⟩⟩
        show b - (i + 1 + 1) < b - (i + 1); omega
      · have h := of_decide_eq_false hc
        omega
  · obtain rfl : i = b := Nat.le_antisymm hi hib
    have hn := okN_bad hbad
    cases i with
    | zero =>
      refine ⟨[CT.at 7 (ansBad .nil (g 0) trivial hn)], Lno, false, noLoops (by kernel_rfl), ?_⟩
      show (roundE (P := Try.prog) (Γ := Γw) [CT.at 7 (ansBad .nil (g 0) trivial hn)] Lno false 0 0 loopM [2, 3, 4, 8, 9, 10] [] 25 [.any, .any, .v (.slice none 0 0), .sl 1 m (i64F g), .v (.int .i64 (m : Int)), .v (.int .i64 (0 : Nat))] []).sat _
      rw [roundMb0 m g (g 0) hn]
      have hc : decide (((0 : Nat) : Int) < (m : Int)) = true := decide_eq_true (by omega)
      rw [hc]
      exact ⟨fun _ => ⟨rfl, cl_iff.2 ⟨LeL.refl _, trivial⟩, fun _ => ⟨rfl, ⟨.refl _, .refl _, .any _, .any _, .any _, .any _, trivial⟩, trivial⟩, fun h => by simp at h⟩, fun h => by simp at h⟩
    | succ i =>
      have hb' : (BA.hs (catN g (i + 1))).ok := hs_ok (fun j hj => hok j hj) (by omega)
      refine ⟨[CT.at 7 (ansBad (.hs (catN g (i + 1))) (g (i + 1)) hb' hn)], Lno, false, noLoops (by kernel_rfl), ?_⟩
      show (roundE (P := Try.prog) (Γ := Γw) [CT.at 7 (ansBad (.hs (catN g (i + 1))) (g (i + 1)) hb' hn)] Lno false 0 0 loopM [2, 3, 4, 8, 9, 10] [] 25 [.any, .any, .hs 0 0 (catN g (i + 1)).size, .sl 1 m (i64F g), .v (.int .i64 (m : Int)), .v (.int .i64 ((i + 1 : Nat) : Int))] [some (.arr 1 (catN g (i + 1)).size (bsF (catN g (i + 1))))]).sat _
      rw [roundMb1 m g (g (i + 1)) (i + 1) (catN g (i + 1)) hb' hn]
      have hc : decide (((i + 1 : Nat) : Int) < (m : Int)) = true := decide_eq_true (by omega)
      rw [hc]
      exact ⟨fun _ => ⟨by rw [decide_eq_true (show (0 : Int) ≤ ((i + 1 : Nat) : Int) by omega)]; rfl, cl_iff.2 ⟨LeL.refl _, LeH.refl _⟩, fun _ => ⟨rfl, ⟨.refl _, .refl _, .any _, .any _, .any _, .any _, trivial⟩, trivial⟩, fun h => by simp at h⟩, fun h => by simp at h⟩
theorem runMg (a : NA) (m : Nat) (g : Nat → Int) : bodyE (P := Try.prog) (Γ := Γw) [] (fun _ => LSpec.at [2, 3, 4, 8, 9, 10] [] (SM (.sl (m + 1) g) 0) (OMg (.sl (m + 1) g))) false 25 [.tmp 2, .tmp 3] (bodyOf Try.f11) [.sl 1 (m + 1) (i64F g)] [] =
  Tree.chk
  (cl
    (LeL
        [AV.v (Value.slice none (0 : Nat) (0 : Nat)), AV.v (Value.int IntKind.i64 (0 : Int)),
          AV.v (Value.slice none (0 : Nat) (0 : Nat)),
          AV.sl (1 : Nat) (m + (1 : Nat)) fun j => [AV.v (Value.int IntKind.i64 (g j))],
          AV.v (Value.int IntKind.i64 (↑(m + (1 : Nat)) : Int)), AV.v (Value.int IntKind.i64 (0 : Int))]
        [AV.any, AV.any, AV.v (Value.slice none (0 : Nat) (0 : Nat)),
          AV.sl (1 : Nat) (m + (1 : Nat)) fun j => [AV.v (Value.int IntKind.i64 (g j))],
          AV.v (Value.int IntKind.i64 (↑(NA.sl (m + (1 : Nat)) g).m : Int)),
          AV.v (Value.int IntKind.i64 (↑(0 : Nat) : Int))] ∧
      LeH [] []))
  (Tree.leaf
    (Ans.mk
      (AV.tup
        [AV.hs (0 : Nat) (0 : Nat)
            (catN (NA.sl (m + (1 : Nat)) g).g (Nat.add._f Nat.zero PUnit.unit m + (1 : Nat))).size,
          AV.v (Value.int IntKind.i64 (0 : Int))])
      [some
          (Blk.arr (1 : Nat) (catN (NA.sl (m + (1 : Nat)) g).g (Nat.add._f Nat.zero PUnit.unit m + (1 : Nat))).size
            fun j =>
            [AV.v
                (Value.int IntKind.u8
                  (sbyte (catN (NA.sl (m + (1 : Nat)) g).g (Nat.add._f Nat.zero PUnit.unit m + (1 : Nat))) j))])])) := by kernel_rfl
theorem runM0 (g : Nat → Int) : bodyE (P := Try.prog) (Γ := Γw) [] (fun _ => LSpec.at [2, 3, 4, 8, 9, 10] [] (SM (.sl 0 g) 0) (OMg (.sl 0 g))) false 25 [.tmp 2, .tmp 3] (bodyOf Try.f11) [.sl 1 0 (i64F g)] [] =
  Tree.chk
  (cl
    (LeL
        [AV.v (Value.slice none (0 : Nat) (0 : Nat)), AV.v (Value.int IntKind.i64 (0 : Int)),
          AV.v (Value.slice none (0 : Nat) (0 : Nat)),
          AV.sl (1 : Nat) (0 : Nat) fun j => [AV.v (Value.int IntKind.i64 (g j))],
          AV.v (Value.int IntKind.i64 (↑(0 : Nat) : Int)), AV.v (Value.int IntKind.i64 (0 : Int))]
        [AV.any, AV.any, AV.v (Value.slice none (0 : Nat) (0 : Nat)),
          AV.sl (1 : Nat) (0 : Nat) fun j => [AV.v (Value.int IntKind.i64 (g j))],
          AV.v (Value.int IntKind.i64 (↑(0 : Nat) : Int)), AV.v (Value.int IntKind.i64 (↑(0 : Nat) : Int))] ∧
      LeH [] []))
  (Tree.leaf (Ans.mk (AV.tup [AV.v (Value.slice none (0 : Nat) (0 : Nat)), AV.v (Value.int IntKind.i64 (0 : Int))]) [])) := by kernel_rfl
theorem runMn  : bodyE (P := Try.prog) (Γ := Γw) [] (fun _ => LSpec.at [2, 3, 4, 8, 9, 10] [] (SM .nil 0) (OMg .nil)) false 25 [.tmp 2, .tmp 3] (bodyOf Try.f11) [.v (.slice none 0 0)] [] =
  Tree.chk
  (cl
    (LeL
        [AV.v (Value.slice none (0 : Nat) (0 : Nat)), AV.v (Value.int IntKind.i64 (0 : Int)),
          AV.v (Value.slice none (0 : Nat) (0 : Nat)), AV.v (Value.slice none (0 : Nat) (0 : Nat)),
          AV.v (Value.int IntKind.i64 (0 : Int)), AV.v (Value.int IntKind.i64 (0 : Int))]
        [AV.any, AV.any, AV.v (Value.slice none (0 : Nat) (0 : Nat)), AV.v (Value.slice none (0 : Nat) (0 : Nat)),
          AV.v (Value.int IntKind.i64 (↑(0 : Nat) : Int)), AV.v (Value.int IntKind.i64 (↑(0 : Nat) : Int))] ∧
      LeH [] []))
  (Tree.leaf (Ans.mk (AV.tup [AV.v (Value.slice none (0 : Nat) (0 : Nat)), AV.v (Value.int IntKind.i64 (0 : Int))]) [])) := by kernel_rfl
theorem runMh (m : Nat) (g : Nat → Int) : bodyE (P := Try.prog) (Γ := Γw) [] (fun _ => LSpec.at [2, 3, 4, 8, 9, 10] [] (SM (.hs (m + 1) g) 0) (OMg (.hs (m + 1) g))) false 25 [.tmp 2, .tmp 3] (bodyOf Try.f11) [.hs 0 0 (m + 1)] [.arr 1 (m + 1) (i64F g)] =
  Tree.chk
  (cl
    (LeL
        [AV.v (Value.slice none (0 : Nat) (0 : Nat)), AV.v (Value.int IntKind.i64 (0 : Int)),
          AV.v (Value.slice none (0 : Nat) (0 : Nat)), AV.hs (0 : Nat) (0 : Nat) (m + (1 : Nat)),
          AV.v (Value.int IntKind.i64 (↑(m + (1 : Nat)) : Int)), AV.v (Value.int IntKind.i64 (0 : Int))]
        [AV.any, AV.any, AV.v (Value.slice none (0 : Nat) (0 : Nat)), AV.hs (0 : Nat) (0 : Nat) (m + (1 : Nat)),
          AV.v (Value.int IntKind.i64 (↑(NA.hs (m + (1 : Nat)) g).m : Int)),
          AV.v (Value.int IntKind.i64 (↑(0 : Nat) : Int))] ∧
      LeH [some (Blk.arr (1 : Nat) (m + (1 : Nat)) fun j => [AV.v (Value.int IntKind.i64 (g j))])]
        [some (Blk.arr (1 : Nat) (m + (1 : Nat)) fun j => [AV.v (Value.int IntKind.i64 (g j))])]))
  (Tree.leaf
    (Ans.mk
      (AV.tup
        [AV.hs (1 : Nat) (0 : Nat)
            (catN (NA.hs (m + (1 : Nat)) g).g (Nat.add._f Nat.zero PUnit.unit m + (1 : Nat))).size,
          AV.v (Value.int IntKind.i64 (0 : Int))])
      [some (Blk.arr (1 : Nat) (m + (1 : Nat)) fun j => [AV.v (Value.int IntKind.i64 (g j))]),
        some
          (Blk.arr (1 : Nat) (catN (NA.hs (m + (1 : Nat)) g).g (Nat.add._f Nat.zero PUnit.unit m + (1 : Nat))).size
            fun j =>
            [AV.v
                (Value.int IntKind.u8
                  (sbyte (catN (NA.hs (m + (1 : Nat)) g).g (Nat.add._f Nat.zero PUnit.unit m + (1 : Nat))) j))])])) := by kernel_rfl
theorem runMb (m : Nat) (g : Nat → Int) : bodyE (P := Try.prog) (Γ := Γw) [] (fun _ => LSpec.at [2, 3, 4, 8, 9, 10] [] (SM (.sl m g) 0) (OMb (.sl m g))) false 25 [.tmp 2, .tmp 3] (bodyOf Try.f11) [.sl 1 m (i64F g)] [] =
  Tree.chk
  (cl
    (LeL
        [AV.v (Value.slice none (0 : Nat) (0 : Nat)), AV.v (Value.int IntKind.i64 (0 : Int)),
          AV.v (Value.slice none (0 : Nat) (0 : Nat)), AV.sl (1 : Nat) m fun j => [AV.v (Value.int IntKind.i64 (g j))],
          AV.v (Value.int IntKind.i64 (↑m : Int)), AV.v (Value.int IntKind.i64 (0 : Int))]
        [AV.any, AV.any, AV.v (Value.slice none (0 : Nat) (0 : Nat)),
          AV.sl (1 : Nat) m fun j => [AV.v (Value.int IntKind.i64 (g j))],
          AV.v (Value.int IntKind.i64 (↑(NA.sl m g).m : Int)), AV.v (Value.int IntKind.i64 (↑(0 : Nat) : Int))] ∧
      LeH [] []))
  (Tree.leaf
    (Ans.mk (AV.tup [AV.v (Value.slice none (0 : Nat) (0 : Nat)), AV.v (Value.int IntKind.i64 (10 : Int))]) [])) := by kernel_rfl
def outBl (g : Nat → Int) : Nat → List Blk
  | 0 => []
  | i + 1 => [.arr 1 (catN g (i + 1)).size (bsF (catN g (i + 1)))]
def NA.ok (a : NA) : Prop := (∀ j, j < a.m → okN (a.g j) = true) ∧ a.m ≤ 100000 ∧ (a.k = 1 → 0 < a.m)
theorem ansNums : ∀ (a : NA), a.ok → Answers Try.prog Γw 11 [a.av] a.bl (.tup [outV a.k a.g a.m, .v (.int .i64 0)]) (a.bl.map some) (outBl a.g a.m)
  | .nil, h => answers (fn := Try.f11) (c := bodyOf Try.f11) (ntmps := 25) (results := [.tmp 2, .tmp 3]) [] (fun _ => LSpec.at [2, 3, 4, 8, 9, 10] [] (SM .nil 0) (OMg .nil)) false Try.func11 (by kernel_rfl) (by kernel_rfl) (by kernel_rfl) (by kernel_rfl) (by simp) rfl
    (oneLoop (b := loopM) (by kernel_rfl) (loopMg_ok .nil h.1 h.2.1 0 (Nat.zero_le _))) (Meets.of runMn ⟨cl_iff.2 ⟨⟨.any _, .any _, .refl _, .refl _, .refl _, .refl _, trivial⟩, trivial⟩, .refl _, trivial⟩)
  | .sl 0 g, h => answers (fn := Try.f11) (c := bodyOf Try.f11) (ntmps := 25) (results := [.tmp 2, .tmp 3]) [] (fun _ => LSpec.at [2, 3, 4, 8, 9, 10] [] (SM (.sl 0 g) 0) (OMg (.sl 0 g))) false Try.func11 (by kernel_rfl) (by kernel_rfl) (by kernel_rfl) (by kernel_rfl) (by simp) rfl
    (oneLoop (b := loopM) (by kernel_rfl) (loopMg_ok (.sl 0 g) h.1 h.2.1 0 (Nat.zero_le _))) (Meets.of (runM0 g) ⟨cl_iff.2 ⟨⟨.any _, .any _, .refl _, .refl _, .refl _, .refl _, trivial⟩, trivial⟩, .refl _, trivial⟩)
  | .sl (m + 1) g, h => answers (fn := Try.f11) (c := bodyOf Try.f11) (ntmps := 25) (results := [.tmp 2, .tmp 3]) [] (fun _ => LSpec.at [2, 3, 4, 8, 9, 10] [] (SM (.sl (m + 1) g) 0) (OMg (.sl (m + 1) g))) false Try.func11 (by kernel_rfl) (by kernel_rfl) (by kernel_rfl) (by kernel_rfl) (by simp) rfl
    (oneLoop (b := loopM) (by kernel_rfl) (loopMg_ok (.sl (m + 1) g) h.1 h.2.1 0 (Nat.zero_le _))) (Meets.of (runMg .nil m g) ⟨cl_iff.2 ⟨⟨.any _, .any _, .refl _, .refl _, .refl _, .refl _, trivial⟩, trivial⟩, .refl _, .refl _, trivial⟩)
  | .hs (m + 1) g, h => answers (fn := Try.f11) (c := bodyOf Try.f11) (ntmps := 25) (results := [.tmp 2, .tmp 3]) [] (fun _ => LSpec.at [2, 3, 4, 8, 9, 10] [] (SM (.hs (m + 1) g) 0) (OMg (.hs (m + 1) g))) false Try.func11 (by kernel_rfl) (by kernel_rfl) (by kernel_rfl) (by kernel_rfl) (by simp) rfl
    (oneLoop (b := loopM) (by kernel_rfl) (loopMg_ok (.hs (m + 1) g) h.1 h.2.1 0 (Nat.zero_le _))) (Meets.of (runMh m g) ⟨cl_iff.2 ⟨⟨.any _, .any _, .refl _, .refl _, .refl _, .refl _, trivial⟩, LeH.refl _⟩, .refl _, .refl _, .refl _, trivial⟩)
  | .hs 0 g, h => absurd (h.2.2 rfl) (Nat.lt_irrefl _)
theorem ansNumsBad (m : Nat) (g : Nat → Int) (b : Nat) (hb : b < m) (hok : ∀ j, j < b → okN (g j) = true) (hbad : okN (g b) = false) (hm : m ≤ 100000) : Answers Try.prog Γw 11 [.sl 1 m (i64F g)] [] (.tup [.v (.slice none 0 0), .v (.int .i64 10)]) [] [] :=
  answers (fn := Try.f11) (c := bodyOf Try.f11) (ntmps := 25) (results := [.tmp 2, .tmp 3]) [] (fun _ => LSpec.at [2, 3, 4, 8, 9, 10] [] (SM (.sl m g) 0) (OMb (.sl m g))) false Try.func11 (by kernel_rfl) (by kernel_rfl) (by kernel_rfl) (by kernel_rfl) (by simp) rfl
    (oneLoop (b := loopM) (by kernel_rfl) (loopMb_ok m g b hb hok hbad hm 0 (Nat.zero_le _))) (Meets.of (runMb m g) ⟨cl_iff.2 ⟨⟨.any _, .any _, .refl _, .refl _, .refl _, .refl _, trivial⟩, trivial⟩, .refl _, trivial⟩)
theorem ansNumsS (m : Nat) (g : Nat → Int) (h : (NA.sl (m + 1) g).ok) : Answers Try.prog Γw 11 [.sl 1 (m + 1) (i64F g)] [] (.tup [.hs 0 0 (catN g (m + 1)).size, .v (.int .i64 0)]) [] [.arr 1 (catN g (m + 1)).size (bsF (catN g (m + 1)))] := ansNums (.sl (m + 1) g) h
theorem ansNums0 (g : Nat → Int) (h : (NA.sl 0 g).ok) : Answers Try.prog Γw 11 [.sl 1 0 (i64F g)] [] (.tup [.v (.slice none 0 0), .v (.int .i64 0)]) [] [] := ansNums (.sl 0 g) h
theorem ansNumsN (h : NA.nil.ok) : Answers Try.prog Γw 11 [.v (.slice none 0 0)] [] (.tup [.v (.slice none 0 0), .v (.int .i64 0)]) [] [] := ansNums .nil h
theorem allBytes0 (n : Nat) (t : ByteArray) : (allBytes n fun j => [AV.v (Value.int IntKind.u8 (sbyte t ((0 : Nat) + j)))]) = true := by
  simp only [Nat.zero_add]; exact allBytes_bsF n t
theorem textOf0 (t : ByteArray) : (textOf t.size fun j => [AV.v (Value.int IntKind.u8 (sbyte t ((0 : Nat) + j)))]) = t := by
  simp only [Nat.zero_add]; exact textOf_bsF t
theorem okN_of {n : Nat} (h : n ≤ 4611686018427387904) : okN (n : Int) = true := by
  unfold okN
  rw [decide_eq_true (show (0 : Int) ≤ (n : Int) by omega), decide_eq_true (show (n : Int) ≤ 4611686018427387904 by omega)]; rfl
theorem okN_not {n : Int} (h : n < 0 ∨ 4611686018427387904 < n) : okN n = false := by
  cases hh : okN n with
  | false => rfl
  | true => obtain ⟨k, rfl, hk⟩ := okN_nat hh; omega
theorem guard3 {a b c : Bool} (h : (bif a then true else bif b then true else c) = false) : a = false ∧ b = false ∧ c = false := by
  cases a <;> cases b <;> cases c <;> simp at h ⊢
theorem LeL_self (xs : List AV) : LeL xs xs = True := eq_true (LeL.refl xs)
theorem LeH_self (xs : Heap) : LeH xs xs = True := eq_true (LeH.refl xs)
theorem cl_true : cl True = true := cl_iff.2 trivial
theorem allBytesF (n : Nat) (t : ByteArray) : (allBytes n fun j => [AV.v (Value.int IntKind.u8 (sbyte t j))]) = true := allBytes_bsF n t
theorem textOfF (t : ByteArray) : (textOf t.size fun j => [AV.v (Value.int IntKind.u8 (sbyte t j))]) = t := textOf_bsF t
theorem textOfF2 (a b : ByteArray) : (textOf (a.size + b.size) fun j => [AV.v (Value.int IntKind.u8 (sbyte (a ++ b) j))]) = a ++ b := by
  have := textOfF (a ++ b)
  rwa [ByteArray.size_append] at this
theorem textOfF3 (a b c : ByteArray) : (textOf (a.size + (b.size + c.size)) fun j => [AV.v (Value.int IntKind.u8 (sbyte (a ++ (b ++ c)) j))]) = a ++ (b ++ c) := by
  have := textOfF (a ++ (b ++ c))
  rwa [ByteArray.size_append, ByteArray.size_append] at this
end Go.Eng.W

/- wire: a text's bytes. -/
namespace Go.Eng.W
open Go Go.Eng Go.Proofs
set_option linter.unusedSimpArgs false
set_option linter.unusedVariables false
/-! ### a text's bytes -/
theorem runTn (s : ByteArray) (h : s.size ≤ 4611686018427387904) : bodyE (P := Try.prog) (Γ := Γw) [CT.at 7 (ansNum .nil s.size trivial h)] Lno false 22 [.tmp 4, .tmp 5] (bodyOf Try.f9) [.v (.slice none 0 0), .v (.string s)] [] =
  Tree.br (decide ((65536 : Int) < (↑s.size : Int)))
  (Tree.leaf (Ans.mk (AV.tup [AV.v (Value.slice none (0 : Nat) (0 : Nat)), AV.v (Value.int IntKind.i64 (2 : Int))]) []))
  (Tree.chk
    (cl
      (LeL [AV.v (Value.slice none (0 : Nat) (0 : Nat)), AV.v (Value.int IntKind.i64 (↑s.size : Int))]
          [AV.v (Value.slice none (0 : Nat) (0 : Nat)), AV.v (Value.int IntKind.i64 (↑s.size : Int))] ∧
        LeH [] []))
    (Tree.chk (roomOk (1 : Nat) ((BA.nil.t ++ numB s.size).size + s.size))
      (Tree.leaf
        (Ans.mk
          (AV.tup
            [AV.hs (0 : Nat) (0 : Nat) ((BA.nil.t ++ numB s.size).size + s.size),
              AV.v (Value.int IntKind.i64 (0 : Int))])
          [some
              (Blk.arr (1 : Nat) ((BA.nil.t ++ numB s.size).size + s.size) fun j =>
                [AV.v
                    (Value.int IntKind.u8
                      (bif decide (j < (BA.nil.t ++ numB s.size).size) then
                        sbyte (BA.nil.t ++ numB s.size) ((0 : Nat) + j)
                      else sbyte s (j - (BA.nil.t ++ numB s.size).size)))])])))) := by kernel_rfl
theorem runTs (t : ByteArray) (s : ByteArray) (ht : (BA.sl t).ok) (h : s.size ≤ 4611686018427387904) : bodyE (P := Try.prog) (Γ := Γw) [CT.at 7 (ansNum (.sl t) s.size ht h)] Lno false 22 [.tmp 4, .tmp 5] (bodyOf Try.f9) [.sl 1 t.size (bsF t), .v (.string s)] [] =
  Tree.br (decide ((65536 : Int) < (↑s.size : Int)))
  (Tree.leaf (Ans.mk (AV.tup [AV.v (Value.slice none (0 : Nat) (0 : Nat)), AV.v (Value.int IntKind.i64 (2 : Int))]) []))
  (Tree.chk
    (cl
      (LeL
          [AV.sl (1 : Nat) t.size fun j => [AV.v (Value.int IntKind.u8 (sbyte t j))],
            AV.v (Value.int IntKind.i64 (↑s.size : Int))]
          [AV.sl (1 : Nat) t.size fun j => [AV.v (Value.int IntKind.u8 (sbyte t j))],
            AV.v (Value.int IntKind.i64 (↑s.size : Int))] ∧
        LeH [] []))
    (Tree.chk (roomOk (1 : Nat) (((BA.sl t).t ++ numB s.size).size + s.size))
      (Tree.leaf
        (Ans.mk
          (AV.tup
            [AV.hs (0 : Nat) (0 : Nat) (((BA.sl t).t ++ numB s.size).size + s.size),
              AV.v (Value.int IntKind.i64 (0 : Int))])
          [some
              (Blk.arr (1 : Nat) (((BA.sl t).t ++ numB s.size).size + s.size) fun j =>
                [AV.v
                    (Value.int IntKind.u8
                      (bif decide (j < ((BA.sl t).t ++ numB s.size).size) then
                        sbyte ((BA.sl t).t ++ numB s.size) ((0 : Nat) + j)
                      else sbyte s (j - ((BA.sl t).t ++ numB s.size).size)))])])))) := by kernel_rfl
theorem runTh (t : ByteArray) (s : ByteArray) (ht : (BA.hs t).ok) (h : s.size ≤ 4611686018427387904) : bodyE (P := Try.prog) (Γ := Γw) [CT.at 7 (ansNum (.hs t) s.size ht h)] Lno false 22 [.tmp 4, .tmp 5] (bodyOf Try.f9) [.hs 0 0 t.size, .v (.string s)] [.arr 1 t.size (bsF t)] =
  Tree.br (decide ((65536 : Int) < (↑s.size : Int)))
  (Tree.leaf
    (Ans.mk (AV.tup [AV.v (Value.slice none (0 : Nat) (0 : Nat)), AV.v (Value.int IntKind.i64 (2 : Int))])
      [some (Blk.arr (1 : Nat) t.size fun j => [AV.v (Value.int IntKind.u8 (sbyte t j))])]))
  (Tree.chk
    (cl
      (LeL [AV.hs (0 : Nat) (0 : Nat) t.size, AV.v (Value.int IntKind.i64 (↑s.size : Int))]
          [AV.hs (0 : Nat) (0 : Nat) t.size, AV.v (Value.int IntKind.i64 (↑s.size : Int))] ∧
        LeH [some (Blk.arr (1 : Nat) t.size fun j => [AV.v (Value.int IntKind.u8 (sbyte t j))])]
          [some (Blk.arr (1 : Nat) t.size fun j => [AV.v (Value.int IntKind.u8 (sbyte t j))])]))
    (Tree.chk (roomOk (1 : Nat) (((BA.hs t).t ++ numB s.size).size + s.size))
      (Tree.leaf
        (Ans.mk
          (AV.tup
            [AV.hs (1 : Nat) (0 : Nat) (((BA.hs t).t ++ numB s.size).size + s.size),
              AV.v (Value.int IntKind.i64 (0 : Int))])
          [some (Blk.arr (1 : Nat) t.size fun j => [AV.v (Value.int IntKind.u8 (sbyte t j))]),
            some
              (Blk.arr (1 : Nat) (((BA.hs t).t ++ numB s.size).size + s.size) fun j =>
                [AV.v
                    (Value.int IntKind.u8
                      (bif decide (j < ((BA.hs t).t ++ numB s.size).size) then
                        sbyte ((BA.hs t).t ++ numB s.size) ((0 : Nat) + j)
                      else sbyte s (j - ((BA.hs t).t ++ numB s.size).size)))])])))) := by kernel_rfl
theorem joinF (a b : ByteArray) (j : Nat) : (bif decide (j < a.size) then sbyte a ((0 : Nat) + j) else sbyte b (j - a.size)) = sbyte (a ++ b) j := by
  rw [sbyte_append]
  by_cases h : j < a.size
  · rw [decide_eq_true h, if_pos h, Nat.zero_add]; rfl
  · rw [decide_eq_false h, if_neg h]; rfl
theorem join_size (a b : ByteArray) : a.size + b.size = (a ++ b).size := by simp
def textB (t s : ByteArray) : ByteArray := t ++ numB s.size ++ s
theorem ansText : ∀ (a : BA) (s : ByteArray), a.ok → a.n = 0 → s.size ≤ 65536 → Answers Try.prog Γw 9 [a.av, .v (.string s)] a.bl (.tup [.hs 0 0 (textB a.t s).size, .v (.int .i64 0)]) (a.bl.map some) [.arr 1 (textB a.t s).size (bsF (textB a.t s))]
  | .nil, s, ht, _, hs => by
    have h : s.size ≤ 4611686018427387904 := by omega
    exact answers (fn := Try.f9) (c := bodyOf Try.f9) (ntmps := 22) (results := [.tmp 4, .tmp 5]) [CT.at 7 (ansNum .nil s.size ht h)] Lno false Try.func9 (by kernel_rfl) (by kernel_rfl) (by kernel_rfl) (by kernel_rfl) (by simp) rfl (noLoops (by kernel_rfl))
      (Meets.of (runTn s h) ⟨fun hc => by have := of_decide_eq_true hc; omega, fun _ => ⟨cl_iff.2 ⟨LeL.refl _, trivial⟩, room' (by
      have h1 : (⟨#[]⟩ : ByteArray).size ≤ 1000000000 := BA.ok_small ht
      have := (numB_size h).1
      simp only [ByteArray.size_append]
      show (⟨#[]⟩ : ByteArray).size + (numB s.size).size + s.size ≤ _
      omega), by
      simp only [joinF, join_size]
      exact ⟨.refl _, .refl _, trivial⟩⟩⟩)
  | .sl t, s, ht, _, hs => by
    have h : s.size ≤ 4611686018427387904 := by omega
    exact answers (fn := Try.f9) (c := bodyOf Try.f9) (ntmps := 22) (results := [.tmp 4, .tmp 5]) [CT.at 7 (ansNum (.sl t) s.size ht h)] Lno false Try.func9 (by kernel_rfl) (by kernel_rfl) (by kernel_rfl) (by kernel_rfl) (by simp) rfl (noLoops (by kernel_rfl))
      (Meets.of (runTs t s ht h) ⟨fun hc => by have := of_decide_eq_true hc; omega, fun _ => ⟨cl_iff.2 ⟨LeL.refl _, trivial⟩, room' (by
      have h1 : (t).size ≤ 1000000000 := BA.ok_small ht
      have := (numB_size h).1
      simp only [ByteArray.size_append]
      show (t).size + (numB s.size).size + s.size ≤ _
      omega), by
      simp only [joinF, join_size]
      exact ⟨.refl _, .refl _, trivial⟩⟩⟩)
  | .hs t, s, _, h0, _ => absurd h0 (by simp [BA.n])
theorem ansTextH (t s : ByteArray) (ht : (BA.hs t).ok) (hs : s.size ≤ 65536) : Answers Try.prog Γw 9 [.hs 0 0 t.size, .v (.string s)] [.arr 1 t.size (bsF t)] (.tup [.hs 1 0 (textB t s).size, .v (.int .i64 0)]) [some (.arr 1 t.size (bsF t))] [.arr 1 (textB t s).size (bsF (textB t s))] := by
    have h : s.size ≤ 4611686018427387904 := by omega
    exact answers (fn := Try.f9) (c := bodyOf Try.f9) (ntmps := 22) (results := [.tmp 4, .tmp 5]) [CT.at 7 (ansNum (.hs t) s.size ht h)] Lno false Try.func9 (by kernel_rfl) (by kernel_rfl) (by kernel_rfl) (by kernel_rfl) (by simp) rfl (noLoops (by kernel_rfl))
      (Meets.of (runTh t s ht h) ⟨fun hc => by have := of_decide_eq_true hc; omega, fun _ => ⟨cl_iff.2 ⟨LeL.refl _, LeH.refl _⟩, room' (by
      have h1 : (t).size ≤ 1000000000 := BA.ok_small ht
      have := (numB_size h).1
      simp only [ByteArray.size_append]
      show (t).size + (numB s.size).size + s.size ≤ _
      omega), by
      simp only [joinF, join_size]
      exact ⟨.refl _, .refl _, .refl _, trivial⟩⟩⟩)
theorem ansTextHBad (t s : ByteArray) (ht : (BA.hs t).ok) (hs : 65536 < s.size) (h : s.size ≤ 4611686018427387904) : Answers Try.prog Γw 9 [.hs 0 0 t.size, .v (.string s)] [.arr 1 t.size (bsF t)] (.tup [.v (.slice none 0 0), .v (.int .i64 2)]) [some (.arr 1 t.size (bsF t))] [] :=
  answers (fn := Try.f9) (c := bodyOf Try.f9) (ntmps := 22) (results := [.tmp 4, .tmp 5]) [CT.at 7 (ansNum (.hs t) s.size ht h)] Lno false Try.func9 (by kernel_rfl) (by kernel_rfl) (by kernel_rfl) (by kernel_rfl) (by simp) rfl (noLoops (by kernel_rfl))
      (Meets.of (runTh t s ht h) ⟨fun _ => ⟨.refl _, .refl _, trivial⟩, fun hc => by have := of_decide_eq_false hc; omega⟩)
theorem ansTextBad : ∀ (a : BA) (s : ByteArray), a.ok → a.n = 0 → 65536 < s.size → s.size ≤ 4611686018427387904 → Answers Try.prog Γw 9 [a.av, .v (.string s)] a.bl (.tup [.v (.slice none 0 0), .v (.int .i64 2)]) (a.bl.map some) []
  | .nil, s, ht, _, hs, h => answers (fn := Try.f9) (c := bodyOf Try.f9) (ntmps := 22) (results := [.tmp 4, .tmp 5]) [CT.at 7 (ansNum .nil s.size ht h)] Lno false Try.func9 (by kernel_rfl) (by kernel_rfl) (by kernel_rfl) (by kernel_rfl) (by simp) rfl (noLoops (by kernel_rfl))
      (Meets.of (runTn s h) ⟨fun _ => ⟨.refl _, trivial⟩, fun hc => by have := of_decide_eq_false hc; omega⟩)
  | .sl t, s, ht, _, hs, h => answers (fn := Try.f9) (c := bodyOf Try.f9) (ntmps := 22) (results := [.tmp 4, .tmp 5]) [CT.at 7 (ansNum (.sl t) s.size ht h)] Lno false Try.func9 (by kernel_rfl) (by kernel_rfl) (by kernel_rfl) (by kernel_rfl) (by simp) rfl (noLoops (by kernel_rfl))
      (Meets.of (runTs t s ht h) ⟨fun _ => ⟨.refl _, trivial⟩, fun hc => by have := of_decide_eq_false hc; omega⟩)
  | .hs t, s, _, h0, _, _ => absurd h0 (by simp [BA.n])
end Go.Eng.W

/- Plain facts on reading numbers out of bytes. -/
namespace Go.Eng
open Go
set_option linter.unusedSimpArgs false
set_option linter.unusedVariables false
theorem and127 (a : Int) (h : 0 ≤ a) (h' : a < 256) : bitI .and .u8 a 127 = a % 128 := by
  obtain ⟨n, rfl⟩ := Int.eq_ofNat_of_zero_le h
  have : ∀ k : Fin 256, bitI .and .u8 ((k.val : Nat) : Int) 127 = ((k.val : Nat) : Int) % 128 := by decide +kernel
  exact this ⟨n, by omega⟩
theorem pow128 (i : Nat) : (128 : Nat) ^ i = 2 ^ (7 * i) := by rw [show (128 : Nat) = 2 ^ 7 from rfl, ← Nat.pow_mul]
theorem pow128_le {i : Nat} (h : i ≤ 8) : (128 : Nat) ^ i ≤ 72057594037927936 := by
  have : (128 : Nat) ^ i ≤ 128 ^ 8 := Nat.pow_le_pow_right (by decide) h
  exact Nat.le_trans this (by decide)
theorem or_u64 (a b : Nat) (ha : a < 2 ^ 64) (hb : b < 2 ^ 64) : bitI .or .u64 (a : Int) (b : Int) = ((a ||| b : Nat) : Int) := by
  show IntKind.u64.wrap (((BitVec.ofInt 64 (a : Int) ||| BitVec.ofInt 64 (b : Int)).toNat : Nat) : Int) = _
  have e1 : ∀ x : Nat, x < 2 ^ 64 → (BitVec.ofInt 64 (x : Int)).toNat = x := fun x hx => by rw [BitVec.toNat_ofInt]; omega
  rw [BitVec.toNat_or, e1 a ha, e1 b hb, wrapU64]
  have := Nat.or_lt_two_pow ha hb
  omega
/-- the next digit -/
theorem dig {n i : Nat} {c : Int} (hn : n < 128 ^ i) (hi : i ≤ 8) (h : 0 ≤ c) (h' : c < 256) :
    bitI .or .u64 (n : Int) (IntKind.u64.wrap (IntKind.u64.wrap (bitI .and .u8 c 127) * (2 : Int) ^ min (IntKind.i64.wrap ((7 : Int) * (i : Int))).toNat 64)) = ((n + c.toNat % 128 * 128 ^ i : Nat) : Int) := by
  obtain ⟨k, rfl⟩ := Int.eq_ofNat_of_zero_le h
  have e1 : IntKind.i64.wrap ((7 : Int) * (i : Int)) = ((7 * i : Nat) : Int) := by rw [wrap64E]; omega
  have e2 : IntKind.u64.wrap (bitI .and .u8 (k : Int) 127) = ((k % 128 : Nat) : Int) := by rw [and127 _ h h', wrapU64]; omega
  have e3 : min (7 * i) 64 = 7 * i := Nat.min_eq_left (by omega)
  have hp := pow128_le hi
  have hk : k % 128 < 128 := Nat.mod_lt _ (by decide)
  have hm : k % 128 * 128 ^ i ≤ 127 * 72057594037927936 := Nat.mul_le_mul (by omega) hp
  rw [e1, e2, Int.toNat_natCast, e3]
  have e4 : ((k % 128 : Nat) : Int) * (2 : Int) ^ (7 * i) = ((k % 128 * 128 ^ i : Nat) : Int) := by
    rw [pow128]; simp
  rw [e4]
  have e5 : IntKind.u64.wrap ((k % 128 * 128 ^ i : Nat) : Int) = ((k % 128 * 128 ^ i : Nat) : Int) := by rw [wrapU64]; omega
  rw [e5, or_u64 _ _ (by omega) (by omega), Int.toNat_natCast]
  congr 1
  rw [Nat.or_comm, Nat.mul_comm, pow128]
  rw [pow128] at hn
  rw [← Nat.two_pow_add_eq_or_of_lt hn]
  omega
/-- a byte as a number -/
def byt (t : ByteArray) (j : Nat) : Nat := (sbyte t j).toNat
theorem byt_lt (t : ByteArray) (j : Nat) : byt t j < 256 := by
  have := sbyte_range t j
  unfold byt; omega
theorem sbyte_byt (t : ByteArray) (j : Nat) : sbyte t j = (byt t j : Int) := by
  have := sbyte_range t j
  unfold byt; omega
/-- what the first digits are worth -/
def vAt (t : ByteArray) (off : Nat) : Nat → Nat
  | 0 => 0
  | i + 1 => vAt t off i + byt t (off + i) % 128 * 128 ^ i
theorem vAt_lt (t : ByteArray) (off : Nat) : ∀ i, vAt t off i < 128 ^ i
  | 0 => by simp [vAt]
  | i + 1 => by
    have h := vAt_lt t off i
    have hk : byt t (off + i) % 128 ≤ 127 := by omega
    have : byt t (off + i) % 128 * 128 ^ i ≤ 127 * 128 ^ i := Nat.mul_le_mul_right _ hk
    simp only [vAt, Nat.pow_succ]
    omega
/-- worth from the first digit on: the first one, and 128 times the rest -/
theorem vAt_front (t : ByteArray) (off : Nat) : ∀ i, vAt t off (i + 1) = byt t off % 128 + 128 * vAt t (off + 1) i
  | 0 => by simp [vAt]
  | i + 1 => by
    rw [vAt, vAt_front t off i, vAt, show off + (i + 1) = off + 1 + i by omega, Nat.pow_succ, Nat.mul_add]
    have : byt t (off + 1 + i) % 128 * (128 ^ i * 128) = 128 * (byt t (off + 1 + i) % 128 * 128 ^ i) := by
      rw [Nat.mul_comm (128 ^ i) 128, ← Nat.mul_assoc, Nat.mul_comm _ 128, Nat.mul_assoc]
    omega
/-- a number that is written well stands there: its digits but for the last one bear the mark -/
structure GoodAt (t : ByteArray) (off i : Nat) : Prop where
  hi : ∀ j, j < i → 128 ≤ byt t (off + j)
  lo : byt t (off + i) < 128
  nz : 0 < i → byt t (off + i) ≠ 0
theorem GoodAt.tail {t : ByteArray} {off i : Nat} (h : GoodAt t off (i + 1)) : GoodAt t (off + 1) i where
  hi := fun j hj => by have := h.hi (j + 1) (by omega); rwa [show off + (j + 1) = off + 1 + j by omega] at this
  lo := by have := h.lo; rwa [show off + (i + 1) = off + 1 + i by omega] at this
  nz := fun _ => by have := h.nz (by omega); rwa [show off + (i + 1) = off + 1 + i by omega] at this
theorem vAt_pos {t : ByteArray} : ∀ {i off : Nat}, GoodAt t off i → 0 < i → 0 < vAt t off (i + 1)
  | 0, _, _, h => absurd h (Nat.lt_irrefl _)
  | i + 1, off, h, _ => by
    have h1 := h.nz (by omega)
    have h2 := h.lo
    have : 0 < byt t (off + (i + 1)) % 128 := by omega
    have h3 : 0 < byt t (off + (i + 1)) % 128 * 128 ^ (i + 1) := Nat.mul_pos this (Nat.pow_pos (by decide))
    rw [vAt]; omega
/-- its value's bytes are the ones that stand there -/
theorem GoodAt.bytes {t : ByteArray} : ∀ {i off : Nat}, GoodAt t off i → (numB (vAt t off (i + 1))).size = i + 1 ∧ ∀ j, j ≤ i → sbyte (numB (vAt t off (i + 1))) j = sbyte t (off + j)
  | 0, off, h => by
    have hl := h.lo
    rw [Nat.add_zero] at hl
    have e : vAt t off 1 = byt t off := by simp [vAt]; omega
    have e2 : numB (byt t off) = oneB (byt t off) := by
      unfold numB
      rw [hiB_lt hl, loN_lt hl, empty_append]
    rw [e, e2]
    refine ⟨rfl, fun j hj => ?_⟩
    obtain rfl : j = 0 := Nat.le_zero.1 hj
    rw [sbyte_oneB (byt_lt t off), Nat.add_zero, sbyte_byt]
  | i + 1, off, h => by
    have ht := h.tail
    obtain ⟨h1, h2⟩ := GoodAt.bytes ht
    have h0 := h.hi 0 (by omega)
    rw [Nat.add_zero] at h0
    have hb := byt_lt t off
    have e := vAt_front t off (i + 1)
    have hpos : 0 < vAt t (off + 1) (i + 1) := by
      rcases Nat.eq_zero_or_pos i with rfl | hi
      · have h3 := h.nz (by omega)
        have h4 := h.lo
        simp only [Nat.zero_add] at h3 h4
        have : vAt t (off + 1) (0 + 1) = byt t (off + 1) % 128 := by simp [vAt]
        omega
      · exact vAt_pos ht hi
    have hge : ¬ vAt t off (i + 1 + 1) < 128 := by omega
    have hd : vAt t off (i + 1 + 1) / 128 = vAt t (off + 1) (i + 1) := by omega
    have hm : vAt t off (i + 1 + 1) % 128 + 128 = byt t off := by omega
    have en : numB (vAt t off (i + 1 + 1)) = oneB (byt t off) ++ numB (vAt t (off + 1) (i + 1)) := by
      show hiB _ ++ oneB (loN _) = _
      rw [hiB_ge hge, loN_ge hge, hd, hm, ByteArray.append_assoc]
      rfl
    rw [en]
    refine ⟨by simp [h1]; omega, fun j hj => ?_⟩
    rw [sbyte_append]
    cases j with
    | zero => rw [if_pos (by simp), sbyte_oneB hb, Nat.add_zero, sbyte_byt]
    | succ j =>
      rw [if_neg (by simp), show j + 1 - (oneB (byt t off)).size = j by simp, h2 j (by omega), show off + (j + 1) = off + 1 + j by omega]
/-- and a number's bytes are written well -/
theorem numB_good (n : Nat) : ∀ (t : ByteArray) (off : Nat), (∀ j, j < (numB n).size → sbyte t (off + j) = sbyte (numB n) j) → ∃ i, (numB n).size = i + 1 ∧ GoodAt t off i ∧ vAt t off (i + 1) = n := by
  induction n using Nat.strongRecOn with
  | _ n ih =>
    intro t off h
    by_cases hl : n < 128
    · have e2 : numB n = oneB n := by
        unfold numB
        rw [hiB_lt hl, loN_lt hl, empty_append]
      rw [e2] at h ⊢
      have h0 := h 0 (by simp)
      rw [sbyte_oneB (by omega), Nat.add_zero, sbyte_byt] at h0
      have h0 : byt t off = n := by omega
      refine ⟨0, rfl, ⟨fun j hj => absurd hj (Nat.not_lt_zero _), by rw [Nat.add_zero, h0]; exact hl, fun h => absurd h (Nat.lt_irrefl _)⟩, ?_⟩
      simp [vAt, h0]; omega
    · have en : numB n = oneB (n % 128 + 128) ++ numB (n / 128) := by
        show hiB _ ++ oneB (loN _) = _
        rw [hiB_ge hl, loN_ge hl, ByteArray.append_assoc]
        rfl
      have h0 := h 0 (by rw [en]; simp; omega)
      rw [en, sbyte_append, if_pos (by simp), sbyte_oneB (by omega), Nat.add_zero, sbyte_byt] at h0
      have h0 : byt t off = n % 128 + 128 := by omega
      obtain ⟨i, h1, h2, h3⟩ := ih (n / 128) (by omega) t (off + 1) fun j hj => by
        have := h (j + 1) (by rw [en]; simp; omega)
        rw [en, sbyte_append, if_neg (by simp), show j + 1 - (oneB (n % 128 + 128)).size = j by simp, show off + (j + 1) = off + 1 + j by omega] at this
        exact this
      refine ⟨i + 1, by rw [en]; simp [h1]; omega, ⟨fun j hj => ?_, ?_, fun _ => ?_⟩, ?_⟩
      · cases j with
        | zero => rw [Nat.add_zero, h0]; omega
        | succ j => have := h2.hi j (by omega); rwa [show off + (j + 1) = off + 1 + j by omega]
      · have := h2.lo; rwa [show off + (i + 1) = off + 1 + i by omega]
      · rw [show off + (i + 1) = off + 1 + i by omega]
        rcases Nat.eq_zero_or_pos i with rfl | hi
        · intro hz
          simp only [Nat.add_zero] at hz
          simp [vAt, hz] at h3
          omega
        · exact h2.nz hi
      · rw [vAt_front, h3, h0]; omega
end Go.Eng

/- wire: reading a number: the loop. -/
namespace Go.Eng.W
open Go Go.Eng Go.Proofs
set_option linter.unusedSimpArgs false
set_option linter.unusedVariables false
noncomputable def loopP : Code := loopOf (bodyOf Try.f13) 0
theorem roundP (off len N i : Nat) (n : Nat) (t : ByteArray) : roundE (P := Try.prog) (Γ := Γw) [S.c12] Lno false 2 0 loopP [0, 19, 20, 21, 3, 2] [] 75 [.ptr 0 0, .hs 1 off len, .v (.int .i64 (len : Int)), .v (.int .i64 (i : Int)), .v (.int .u64 (n : Int)), .any] [some (.row [.hs 1 off len, .v (.int .i64 0)]), some (.arr 1 N (bsF t))] =
  Tree.br (decide ((↑i : Int) < (↑len : Int)))
  (Tree.chk (decide ((0 : Int) ≤ (↑i : Int)) && decide ((↑i : Int) < (↑len : Int)))
    (Tree.chk (decide ((0 : Int) ≤ IntKind.i64.wrap ((7 : Int) * (↑i : Int))))
      (Tree.br
        (bif decide (sbyte t (off + (↑i : Int).toNat) < (128 : Int)) then
          bif decide (sbyte t (off + (↑i : Int).toNat) = (0 : Int)) then decide ((0 : Int) < (↑i : Int)) else false
        else false)
        (Tree.br
          (bif decide (sbyte t (off + (↑i : Int).toNat) < (128 : Int)) then
            bif decide (sbyte t (off + (↑i : Int).toNat) = (0 : Int)) then decide ((0 : Int) < (↑i : Int)) else false
          else false)
          (Tree.br true
            (Tree.leaf
              (Out.mk AEx.ret
                [AV.ptr (0 : Nat) (0 : Nat), AV.hs (1 : Nat) off len, AV.v (Value.int IntKind.i64 (↑len : Int)),
                  AV.v (Value.int IntKind.i64 (↑i : Int)),
                  AV.v
                    (Value.int IntKind.u64
                      (bitI BinOp.or IntKind.u64 (↑n : Int)
                        (IntKind.u64.wrap
                          (IntKind.u64.wrap (bitI BinOp.and IntKind.u8 (sbyte t (off + (↑i : Int).toNat)) (127 : Int)) *
                            (2 : Int) ^ min (IntKind.i64.wrap ((7 : Int) * (↑i : Int))).toNat (64 : Nat))))),
                  AV.v (Value.int IntKind.i64 (0 : Int))]
                [some (Blk.row [AV.v (Value.slice none (0 : Nat) (0 : Nat)), AV.v (Value.int IntKind.i64 (31 : Int))]),
                  some (Blk.arr (1 : Nat) N fun j => [AV.v (Value.int IntKind.u8 (sbyte t j))])]))
            (Tree.leaf
              (Out.mk AEx.ret
                [AV.ptr (0 : Nat) (0 : Nat), AV.hs (1 : Nat) off len, AV.v (Value.int IntKind.i64 (↑len : Int)),
                  AV.v (Value.int IntKind.i64 (↑i : Int)),
                  AV.v
                    (Value.int IntKind.u64
                      (bitI BinOp.or IntKind.u64 (↑n : Int)
                        (IntKind.u64.wrap
                          (IntKind.u64.wrap (bitI BinOp.and IntKind.u8 (sbyte t (off + (↑i : Int).toNat)) (127 : Int)) *
                            (2 : Int) ^ min (IntKind.i64.wrap ((7 : Int) * (↑i : Int))).toNat (64 : Nat))))),
                  AV.v (Value.int IntKind.i64 (0 : Int))]
                [some (Blk.row [AV.hs (1 : Nat) off len, AV.v (Value.int IntKind.i64 (0 : Int))]),
                  some (Blk.arr (1 : Nat) N fun j => [AV.v (Value.int IntKind.u8 (sbyte t j))])])))
          (Tree.br (decide (sbyte t (off + (↑i : Int).toNat) < (128 : Int)))
            (Tree.chk
              (decide ((0 : Int) ≤ IntKind.i64.wrap ((↑i : Int) + (1 : Int))) &&
                  decide (IntKind.i64.wrap ((↑i : Int) + (1 : Int)) ≤ (↑len : Int)) &&
                bif false then decide (off + (↑len : Int).toNat ≤ N) else decide ((↑len : Int) ≤ (↑len : Int)))
              (Tree.leaf
                (Out.mk AEx.ret
                  [AV.ptr (0 : Nat) (0 : Nat), AV.hs (1 : Nat) off len, AV.v (Value.int IntKind.i64 (↑len : Int)),
                    AV.v (Value.int IntKind.i64 (↑i : Int)),
                    AV.v
                      (Value.int IntKind.u64
                        (bitI BinOp.or IntKind.u64 (↑n : Int)
                          (IntKind.u64.wrap
                            (IntKind.u64.wrap
                                (bitI BinOp.and IntKind.u8 (sbyte t (off + (↑i : Int).toNat)) (127 : Int)) *
                              (2 : Int) ^ min (IntKind.i64.wrap ((7 : Int) * (↑i : Int))).toNat (64 : Nat))))),
                    AV.v
                      (Value.int IntKind.i64
                        (IntKind.i64.wrap
                          (bitI BinOp.or IntKind.u64 (↑n : Int)
                            (IntKind.u64.wrap
                              (IntKind.u64.wrap
                                  (bitI BinOp.and IntKind.u8 (sbyte t (off + (↑i : Int).toNat)) (127 : Int)) *
                                (2 : Int) ^ min (IntKind.i64.wrap ((7 : Int) * (↑i : Int))).toNat (64 : Nat))))))]
                  [some
                      (Blk.row
                        [AV.hs (1 : Nat) (off + (IntKind.i64.wrap ((↑i : Int) + (1 : Int))).toNat)
                            ((↑len : Int).toNat - (IntKind.i64.wrap ((↑i : Int) + (1 : Int))).toNat),
                          AV.v (Value.int IntKind.i64 (0 : Int))]),
                    some (Blk.arr (1 : Nat) N fun j => [AV.v (Value.int IntKind.u8 (sbyte t j))])])))
            (Tree.leaf
              (Out.mk AEx.normal
                [AV.ptr (0 : Nat) (0 : Nat), AV.hs (1 : Nat) off len, AV.v (Value.int IntKind.i64 (↑len : Int)),
                  AV.v (Value.int IntKind.i64 (IntKind.i64.wrap ((↑i : Int) + (1 : Int)))),
                  AV.v
                    (Value.int IntKind.u64
                      (bitI BinOp.or IntKind.u64 (↑n : Int)
                        (IntKind.u64.wrap
                          (IntKind.u64.wrap (bitI BinOp.and IntKind.u8 (sbyte t (off + (↑i : Int).toNat)) (127 : Int)) *
                            (2 : Int) ^ min (IntKind.i64.wrap ((7 : Int) * (↑i : Int))).toNat (64 : Nat))))),
                  AV.any]
                [some (Blk.row [AV.hs (1 : Nat) off len, AV.v (Value.int IntKind.i64 (0 : Int))]),
                  some (Blk.arr (1 : Nat) N fun j => [AV.v (Value.int IntKind.u8 (sbyte t j))])]))))
        (Tree.br
          (bif decide ((↑i : Int) = (8 : Int)) then
            bif !decide (sbyte t (off + (↑i : Int).toNat) < (128 : Int)) then true
            else
              decide
                ((4611686018427387904 : Int) <
                  bitI BinOp.or IntKind.u64 (↑n : Int)
                    (IntKind.u64.wrap
                      (IntKind.u64.wrap (bitI BinOp.and IntKind.u8 (sbyte t (off + (↑i : Int).toNat)) (127 : Int)) *
                        (2 : Int) ^ min (IntKind.i64.wrap ((7 : Int) * (↑i : Int))).toNat (64 : Nat))))
          else false)
          (Tree.br true
            (Tree.leaf
              (Out.mk AEx.ret
                [AV.ptr (0 : Nat) (0 : Nat), AV.hs (1 : Nat) off len, AV.v (Value.int IntKind.i64 (↑len : Int)),
                  AV.v (Value.int IntKind.i64 (↑i : Int)),
                  AV.v
                    (Value.int IntKind.u64
                      (bitI BinOp.or IntKind.u64 (↑n : Int)
                        (IntKind.u64.wrap
                          (IntKind.u64.wrap (bitI BinOp.and IntKind.u8 (sbyte t (off + (↑i : Int).toNat)) (127 : Int)) *
                            (2 : Int) ^ min (IntKind.i64.wrap ((7 : Int) * (↑i : Int))).toNat (64 : Nat))))),
                  AV.v (Value.int IntKind.i64 (0 : Int))]
                [some (Blk.row [AV.v (Value.slice none (0 : Nat) (0 : Nat)), AV.v (Value.int IntKind.i64 (31 : Int))]),
                  some (Blk.arr (1 : Nat) N fun j => [AV.v (Value.int IntKind.u8 (sbyte t j))])]))
            (Tree.leaf
              (Out.mk AEx.ret
                [AV.ptr (0 : Nat) (0 : Nat), AV.hs (1 : Nat) off len, AV.v (Value.int IntKind.i64 (↑len : Int)),
                  AV.v (Value.int IntKind.i64 (↑i : Int)),
                  AV.v
                    (Value.int IntKind.u64
                      (bitI BinOp.or IntKind.u64 (↑n : Int)
                        (IntKind.u64.wrap
                          (IntKind.u64.wrap (bitI BinOp.and IntKind.u8 (sbyte t (off + (↑i : Int).toNat)) (127 : Int)) *
                            (2 : Int) ^ min (IntKind.i64.wrap ((7 : Int) * (↑i : Int))).toNat (64 : Nat))))),
                  AV.v (Value.int IntKind.i64 (0 : Int))]
                [some (Blk.row [AV.hs (1 : Nat) off len, AV.v (Value.int IntKind.i64 (0 : Int))]),
                  some (Blk.arr (1 : Nat) N fun j => [AV.v (Value.int IntKind.u8 (sbyte t j))])])))
          (Tree.br (decide (sbyte t (off + (↑i : Int).toNat) < (128 : Int)))
            (Tree.chk
              (decide ((0 : Int) ≤ IntKind.i64.wrap ((↑i : Int) + (1 : Int))) &&
                  decide (IntKind.i64.wrap ((↑i : Int) + (1 : Int)) ≤ (↑len : Int)) &&
                bif false then decide (off + (↑len : Int).toNat ≤ N) else decide ((↑len : Int) ≤ (↑len : Int)))
              (Tree.leaf
                (Out.mk AEx.ret
                  [AV.ptr (0 : Nat) (0 : Nat), AV.hs (1 : Nat) off len, AV.v (Value.int IntKind.i64 (↑len : Int)),
                    AV.v (Value.int IntKind.i64 (↑i : Int)),
                    AV.v
                      (Value.int IntKind.u64
                        (bitI BinOp.or IntKind.u64 (↑n : Int)
                          (IntKind.u64.wrap
                            (IntKind.u64.wrap
                                (bitI BinOp.and IntKind.u8 (sbyte t (off + (↑i : Int).toNat)) (127 : Int)) *
                              (2 : Int) ^ min (IntKind.i64.wrap ((7 : Int) * (↑i : Int))).toNat (64 : Nat))))),
                    AV.v
                      (Value.int IntKind.i64
                        (IntKind.i64.wrap
                          (bitI BinOp.or IntKind.u64 (↑n : Int)
                            (IntKind.u64.wrap
                              (IntKind.u64.wrap
                                  (bitI BinOp.and IntKind.u8 (sbyte t (off + (↑i : Int).toNat)) (127 : Int)) *
                                (2 : Int) ^ min (IntKind.i64.wrap ((7 : Int) * (↑i : Int))).toNat (64 : Nat))))))]
                  [some
                      (Blk.row
                        [AV.hs (1 : Nat) (off + (IntKind.i64.wrap ((↑i : Int) + (1 : Int))).toNat)
                            ((↑len : Int).toNat - (IntKind.i64.wrap ((↑i : Int) + (1 : Int))).toNat),
                          AV.v (Value.int IntKind.i64 (0 : Int))]),
                    some (Blk.arr (1 : Nat) N fun j => [AV.v (Value.int IntKind.u8 (sbyte t j))])])))
            (Tree.leaf
              (Out.mk AEx.normal
                [AV.ptr (0 : Nat) (0 : Nat), AV.hs (1 : Nat) off len, AV.v (Value.int IntKind.i64 (↑len : Int)),
                  AV.v (Value.int IntKind.i64 (IntKind.i64.wrap ((↑i : Int) + (1 : Int)))),
                  AV.v
                    (Value.int IntKind.u64
                      (bitI BinOp.or IntKind.u64 (↑n : Int)
                        (IntKind.u64.wrap
                          (IntKind.u64.wrap (bitI BinOp.and IntKind.u8 (sbyte t (off + (↑i : Int).toNat)) (127 : Int)) *
                            (2 : Int) ^ min (IntKind.i64.wrap ((7 : Int) * (↑i : Int))).toNat (64 : Nat))))),
                  AV.any]
                [some (Blk.row [AV.hs (1 : Nat) off len, AV.v (Value.int IntKind.i64 (0 : Int))]),
                  some (Blk.arr (1 : Nat) N fun j => [AV.v (Value.int IntKind.u8 (sbyte t j))])])))))))
  (Tree.leaf
    (Out.mk (AEx.exit (0 : Nat))
      [AV.ptr (0 : Nat) (0 : Nat), AV.hs (1 : Nat) off len, AV.v (Value.int IntKind.i64 (↑len : Int)),
        AV.v (Value.int IntKind.i64 (↑i : Int)), AV.v (Value.int IntKind.u64 (↑n : Int)), AV.any]
      [some (Blk.row [AV.hs (1 : Nat) off len, AV.v (Value.int IntKind.i64 (0 : Int))]),
        some (Blk.arr (1 : Nat) N fun j => [AV.v (Value.int IntKind.u8 (sbyte t j))])])) := by kernel_rfl
/-- a reader: its bytes from 'off' on, so many -/
def rdB (off len N : Nat) (t : ByteArray) : List Blk := [.row [.hs 1 off len, .v (.int .i64 0)], .arr 1 N (bsF t)]
def badB (e : Int) (N : Nat) (t : ByteArray) : List (Option Blk) := [some (.row [.v (.slice none 0 0), .v (.int .i64 e)]), some (.arr 1 N (bsF t))]
def SP (off len N : Nat) (t : ByteArray) (i : Nat) : List AV × Heap := ([.ptr 0 0, .hs 1 off len, .v (.int .i64 (len : Int)), .v (.int .i64 (i : Int)), .v (.int .u64 (vAt t off i : Int)), .any], (rdB off len N t).map some)
def OPg (off len N : Nat) (t : ByteArray) (k : Nat) : Out := ⟨.ret, [.any, .any, .any, .any, .any, .v (.int .i64 (vAt t off (k + 1) : Int))], (rdB (off + (k + 1)) (len - (k + 1)) N t).map some⟩
def OPb (N : Nat) (t : ByteArray) : Out := ⟨.ret, [.any, .any, .any, .any, .any, .v (.int .i64 0)], badB 31 N t⟩
def OPc (off len N : Nat) (t : ByteArray) : Out := ⟨.exit 0, [.ptr 0 0, .any, .any, .any, .any, .any], (rdB off len N t).map some⟩
theorem stepP {t : ByteArray} {off len N i : Nat} {Q : Out → Prop} (hi : i ≤ 8) (hlt : i < len) (hlen : len ≤ 1000000000000) :
    (∀ (c : Nat), c = byt t (off + i) →
      ((c < 128 ∧ c = 0 ∧ 0 < i) ∨ (i = 8 ∧ (128 ≤ c ∨ 4611686018427387904 < vAt t off (i + 1))) → Q ⟨.ret, [.ptr 0 0, .hs 1 off len, .v (.int .i64 (len : Int)), .v (.int .i64 (i : Int)), .v (.int .u64 (vAt t off (i + 1) : Int)), .v (.int .i64 0)], badB 31 N t⟩) ∧
      (c < 128 → (0 < i → c ≠ 0) → (i = 8 → vAt t off (i + 1) ≤ 4611686018427387904) → Q ⟨.ret, [.ptr 0 0, .hs 1 off len, .v (.int .i64 (len : Int)), .v (.int .i64 (i : Int)), .v (.int .u64 (vAt t off (i + 1) : Int)), .v (.int .i64 (vAt t off (i + 1) : Int))], (rdB (off + (i + 1)) (len - (i + 1)) N t).map some⟩) ∧
      (128 ≤ c → i < 8 → Q ⟨.normal, [.ptr 0 0, .hs 1 off len, .v (.int .i64 (len : Int)), .v (.int .i64 ((i + 1 : Nat) : Int)), .v (.int .u64 (vAt t off (i + 1) : Int)), .any], (rdB off len N t).map some⟩)) →
    (roundE (P := Try.prog) (Γ := Γw) [S.c12] Lno false 2 0 loopP [0, 19, 20, 21, 3, 2] [] 75 [.ptr 0 0, .hs 1 off len, .v (.int .i64 (len : Int)), .v (.int .i64 (i : Int)), .v (.int .u64 (vAt t off i : Int)), .any] [some (.row [.hs 1 off len, .v (.int .i64 0)]), some (.arr 1 N (bsF t))]).sat Q := by
  intro h
  obtain ⟨h1, h2, h3⟩ := h _ rfl
  have hr := sbyte_range t (off + i)
  have hd := dig (c := sbyte t (off + i)) (vAt_lt t off i) hi hr.1 hr.2
  have hb : sbyte t (off + i) = (byt t (off + i) : Int) := sbyte_byt t _
  have hv : vAt t off i + byt t (off + i) % 128 * 128 ^ i = vAt t off (i + 1) := rfl
  have hbt := byt_lt t (off + i)
  have hvl : vAt t off (i + 1) < 9223372036854775808 := by
    have h1 := vAt_lt t off (i + 1)
    have h2 : (128 : Nat) ^ (i + 1) ≤ 128 ^ 9 := Nat.pow_le_pow_right (by decide) (by omega)
    have h3 : (128 : Nat) ^ 9 = 9223372036854775808 := by decide
    omega
  rw [hb, Int.toNat_natCast, hv] at hd
  rw [roundP]
  have e1 : IntKind.i64.wrap ((i : Int) + 1) = ((i + 1 : Nat) : Int) := by rw [wrap64E]; omega
  have e2 : IntKind.i64.wrap ((vAt t off (i + 1) : Nat) : Int) = ((vAt t off (i + 1) : Nat) : Int) := by rw [wrap64E]; omega
  have e3 : IntKind.i64.wrap ((7 : Int) * (i : Int)) = ((7 * i : Nat) : Int) := by rw [wrap64E]; omega
  have c1 : decide ((i : Int) < (len : Int)) = true := decide_eq_true (by omega)
  have c2 : decide ((0 : Int) ≤ (i : Int)) = true := decide_eq_true (by omega)
  have c3 : decide ((0 : Int) ≤ ((7 * i : Nat) : Int)) = true := decide_eq_true (by omega)
  have c4 : decide ((0 : Int) ≤ ((i + 1 : Nat) : Int)) = true := decide_eq_true (by omega)
  have c5 : decide (((i + 1 : Nat) : Int) ≤ (len : Int)) = true := decide_eq_true (by omega)
  simp only [Int.toNat_natCast, hb]
  simp only [hd]
  simp only [e1, e2, e3, c1, c2, c3, c4, c5, Int.toNat_natCast]
  refine ⟨fun _ => ⟨rfl, rfl, ?_⟩, fun h => by simp at h⟩
  by_cases hc : byt t (off + i) < 128
  · rw [decide_eq_true (show ((byt t (off + i) : Nat) : Int) < 128 by omega)]
    by_cases hz : byt t (off + i) = 0 ∧ 0 < i
    · rw [decide_eq_true (show ((byt t (off + i) : Nat) : Int) = 0 by omega), decide_eq_true (show (0 : Int) < (i : Int) by omega)]
      exact ⟨fun _ => ⟨fun _ => ⟨fun _ => h1 (.inl ⟨hc, hz.1, hz.2⟩), fun h => by simp at h⟩, fun h => by simp at h⟩, fun h => by simp at h⟩
    · have g : (bif true then bif decide (((byt t (off + i) : Nat) : Int) = 0) then decide ((0 : Int) < (i : Int)) else false else false) = false := by
        by_cases h0 : byt t (off + i) = 0
        · rw [decide_eq_true (show ((byt t (off + i) : Nat) : Int) = 0 by omega), decide_eq_false (show ¬ (0 : Int) < (i : Int) by omega)]; rfl
        · rw [decide_eq_false (show ¬ ((byt t (off + i) : Nat) : Int) = 0 by omega)]; rfl
      rw [g]
      by_cases h8 : i = 8 ∧ 4611686018427387904 < vAt t off (i + 1)
      · rw [decide_eq_true (show (i : Int) = 8 by omega), decide_eq_true (show (4611686018427387904 : Int) < ((vAt t off (i + 1) : Nat) : Int) by omega)]
        exact ⟨fun h => by simp at h, fun _ => ⟨fun _ => ⟨fun _ => h1 (.inr ⟨h8.1, .inr h8.2⟩), fun h => by simp at h⟩, fun h => by simp at h⟩⟩
      · have g2 : (bif decide ((i : Int) = 8) then bif !true then true else decide ((4611686018427387904 : Int) < ((vAt t off (i + 1) : Nat) : Int)) else false) = false := by
          by_cases h0 : i = 8
          · rw [decide_eq_true (show (i : Int) = 8 by omega), decide_eq_false (show ¬ (4611686018427387904 : Int) < ((vAt t off (i + 1) : Nat) : Int) by omega)]; rfl
          · rw [decide_eq_false (show ¬ (i : Int) = 8 by omega)]; rfl
        rw [g2]
        refine ⟨fun h => by simp at h, fun _ => ⟨fun h => by simp at h, fun _ => ⟨fun _ => ⟨by simp, h2 hc (fun hp h0 => hz ⟨h0, hp⟩) (fun h0 => by omega)⟩, fun h => by simp at h⟩⟩⟩
  · rw [decide_eq_false (show ¬ ((byt t (off + i) : Nat) : Int) < 128 by omega)]
    by_cases h8 : i = 8
    · rw [decide_eq_true (show (i : Int) = 8 by omega)]
      exact ⟨fun h => by simp at h, fun _ => ⟨fun _ => ⟨fun _ => h1 (.inr ⟨h8, .inl (by omega)⟩), fun h => by simp at h⟩, fun h => by simp at h⟩⟩
    · rw [decide_eq_false (show ¬ (i : Int) = 8 by omega)]
      exact ⟨fun h => by simp at h, fun _ => ⟨fun h => by simp at h, fun _ => ⟨fun h => by simp at h, fun _ => h3 (by omega) (by omega)⟩⟩⟩
end Go.Eng.W

/- wire: reading a number: what it answers. -/
namespace Go.Eng.W
open Go Go.Eng Go.Proofs
set_option linter.unusedSimpArgs false
set_option linter.unusedVariables false
def BadC (t : ByteArray) (off k : Nat) : Prop := (byt t (off + k) < 128 ∧ byt t (off + k) = 0 ∧ 0 < k) ∨ (k = 8 ∧ (128 ≤ byt t (off + k) ∨ 4611686018427387904 < vAt t off (k + 1)))
def IsGood (t : ByteArray) (off len k : Nat) : Prop := k < len ∧ k ≤ 8 ∧ GoodAt t off k ∧ vAt t off (k + 1) ≤ 4611686018427387904
def IsCut (t : ByteArray) (off len : Nat) : Prop := len ≤ 8 ∧ ∀ j, j < len → 128 ≤ byt t (off + j)
def IsBad (t : ByteArray) (off len k : Nat) : Prop := k < len ∧ k ≤ 8 ∧ (∀ j, j < k → 128 ≤ byt t (off + j)) ∧ BadC t off k
theorem firstLow (t : ByteArray) (off : Nat) : ∀ m, (∀ j, j < m → 128 ≤ byt t (off + j)) ∨ ∃ k, k < m ∧ (∀ j, j < k → 128 ≤ byt t (off + j)) ∧ byt t (off + k) < 128
  | 0 => .inl fun j hj => absurd hj (Nat.not_lt_zero _)
  | m + 1 => by
    rcases firstLow t off m with h | ⟨k, h1, h2, h3⟩
    · by_cases hb : byt t (off + m) < 128
      · exact .inr ⟨m, Nat.lt_succ_self m, h, hb⟩
      · refine .inl fun j hj => ?_
        rcases Nat.lt_succ_iff_lt_or_eq.1 hj with h' | rfl
        · exact h j h'
        · omega
    · exact .inr ⟨k, Nat.lt_succ_of_lt h1, h2, h3⟩
theorem classify (t : ByteArray) (off len : Nat) : (∃ k, IsGood t off len k) ∨ IsCut t off len ∨ ∃ k, IsBad t off len k := by
  rcases firstLow t off (min len 9) with h | ⟨k, h1, h2, h3⟩
  · by_cases hl : len ≤ 8
    · exact .inr (.inl ⟨hl, fun j hj => h j (by omega)⟩)
    · exact .inr (.inr ⟨8, by omega, by omega, fun j hj => h j (by omega), .inr ⟨rfl, .inl (h 8 (by omega))⟩⟩)
  · by_cases hz : 0 < k ∧ byt t (off + k) = 0
    · exact .inr (.inr ⟨k, by omega, by omega, h2, .inl ⟨h3, hz.2, hz.1⟩⟩)
    · by_cases hv : k = 8 ∧ 4611686018427387904 < vAt t off (k + 1)
      · exact .inr (.inr ⟨k, by omega, by omega, h2, .inr ⟨hv.1, .inr hv.2⟩⟩)
      · refine .inl ⟨k, by omega, by omega, ⟨h2, h3, fun hp h0 => hz ⟨hp, h0⟩⟩, ?_⟩
        by_cases h8 : k = 8
        · omega
        · have h4 := vAt_lt t off (k + 1)
          have h5 : (128 : Nat) ^ (k + 1) ≤ 128 ^ 8 := Nat.pow_le_pow_right (by decide) (by omega)
          have h6 : (128 : Nat) ^ 8 = 72057594037927936 := by decide
          omega
theorem good_unique {t : ByteArray} {off len k k' : Nat} (h : IsGood t off len k) (h' : IsGood t off len k') : k = k' := by
  rcases Nat.lt_trichotomy k k' with hl | rfl | hl
  · have := h'.2.2.1.hi k hl; have := h.2.2.1.lo; omega
  · rfl
  · have := h.2.2.1.hi k' hl; have := h'.2.2.1.lo; omega
theorem loopPg_ok {off len N k : Nat} {t : ByteArray} (h : IsGood t off len k) (hlen : len ≤ 1000000000000) : ∀ i, i ≤ k → LoopOK Try.prog Γw 2 75 loopP (LSpec.at [0, 19, 20, 21, 3, 2] [] (SP off len N t i) (OPg off len N t k)) := by
  obtain ⟨h1, h2, h3, h4⟩ := h
  refine loop_at (S := SP off len N t) (pre := fun i => i ≤ k) (O := fun _ => OPg off len N t k) (k := 0) (fun i => k - i) fun i hi => ⟨[S.c12], Lno, false, noLoops (by kernel_rfl), ?_⟩
  refine stepP (by omega) (by omega) hlen fun c hc => ?_
  subst hc
  refine ⟨fun hb => ?_, fun hl _ _ => ?_, fun hl h8 => ?_⟩
  · exfalso
    rcases Nat.lt_or_ge i k with hik | hik
    · have := h3.hi i hik; omega
    · obtain rfl : i = k := Nat.le_antisymm hi hik
      rcases hb with ⟨_, b2, b3⟩ | ⟨b1, b2⟩
      · exact h3.nz b3 b2
      · have := h3.lo; omega
  · rcases Nat.lt_or_ge i k with hik | hik
    · have := h3.hi i hik; omega
    · obtain rfl : i = k := Nat.le_antisymm hi hik
      exact ⟨rfl, ⟨.any _, .any _, .any _, .any _, .any _, .refl _, trivial⟩, LeH.refl _⟩
  · rcases Nat.lt_or_ge i k with hik | hik
    · exact ⟨i + 1, LeL.refl _, LeH.refl _, hik, rfl, by show k - (i + 1) < k - i; omega⟩
    · obtain rfl : i = k := Nat.le_antisymm hi hik
      have := h3.lo; omega
theorem loopPb_ok {off len N k : Nat} {t : ByteArray} (h : IsBad t off len k) (hlen : len ≤ 1000000000000) : ∀ i, i ≤ k → LoopOK Try.prog Γw 2 75 loopP (LSpec.at [0, 19, 20, 21, 3, 2] [] (SP off len N t i) (OPb N t)) := by
  obtain ⟨h1, h2, h3, h4⟩ := h
  refine loop_at (S := SP off len N t) (pre := fun i => i ≤ k) (O := fun _ => OPb N t) (k := 0) (fun i => k - i) fun i hi => ⟨[S.c12], Lno, false, noLoops (by kernel_rfl), ?_⟩
  refine stepP (by omega) (by omega) hlen fun c hc => ?_
  subst hc
  refine ⟨fun hb => ?_, fun hl hz hv => ?_, fun hl h8 => ?_⟩
  · exact ⟨rfl, ⟨.any _, .any _, .any _, .any _, .any _, .refl _, trivial⟩, LeH.refl _⟩
  · exfalso
    rcases Nat.lt_or_ge i k with hik | hik
    · have := h3 i hik; omega
    · obtain rfl : i = k := Nat.le_antisymm hi hik
      rcases h4 with ⟨_, b2, b3⟩ | ⟨b1, b2⟩
      · exact hz b3 b2
      · have := hv b1; omega
  · rcases Nat.lt_or_ge i k with hik | hik
    · exact ⟨i + 1, LeL.refl _, LeH.refl _, hik, rfl, by show k - (i + 1) < k - i; omega⟩
    · obtain rfl : i = k := Nat.le_antisymm hi hik
      exfalso
      rcases h4 with ⟨b1, _, _⟩ | ⟨b1, b2⟩
      · omega
      · omega
theorem loopPc_ok {off len N : Nat} {t : ByteArray} (h : IsCut t off len) : ∀ i, i ≤ len → LoopOK Try.prog Γw 2 75 loopP (LSpec.at [0, 19, 20, 21, 3, 2] [] (SP off len N t i) (OPc off len N t)) := by
  obtain ⟨h1, h2⟩ := h
  refine loop_at (S := SP off len N t) (pre := fun i => i ≤ len) (O := fun _ => OPc off len N t) (k := 0) (fun i => len - i) fun i hi => ⟨[S.c12], Lno, false, noLoops (by kernel_rfl), ?_⟩
  rcases Nat.lt_or_ge i len with hil | hil
  · refine stepP (by omega) hil (by omega) fun c hc => ?_
    subst hc
    have hb := h2 i hil
    refine ⟨fun hb' => ?_, fun hl _ _ => ?_, fun hl h8 => ?_⟩
    · exfalso; rcases hb' with ⟨b1, _, _⟩ | ⟨b1, _⟩ <;> omega
    · exfalso; omega
    · exact ⟨i + 1, LeL.refl _, LeH.refl _, hil, rfl, by show len - (i + 1) < len - i; omega⟩
  · obtain rfl : i = len := Nat.le_antisymm hi hil
    show (roundE (P := Try.prog) (Γ := Γw) [S.c12] Lno false 2 0 loopP [0, 19, 20, 21, 3, 2] [] 75 [.ptr 0 0, .hs 1 off i, .v (.int .i64 (i : Int)), .v (.int .i64 (i : Int)), .v (.int .u64 (vAt t off i : Int)), .any] [some (.row [.hs 1 off i, .v (.int .i64 0)]), some (.arr 1 N (bsF t))]).sat _
    rw [roundP, decide_eq_false (show ¬ (i : Int) < (i : Int) by omega)]
    exact ⟨fun h => by simp at h, fun _ => ⟨rfl, ⟨.refl _, .any _, .any _, .any _, .any _, .any _, trivial⟩, LeH.refl _⟩⟩
theorem runPg (off len N k : Nat) (t : ByteArray) : bodyE (P := Try.prog) (Γ := Γw) [S.c12] (fun _ => LSpec.at [0, 19, 20, 21, 3, 2] [] (SP off len N t 0) (OPg off len N t k)) false 75 [.tmp 2] (bodyOf Try.f13) [.ptr 0 0] (rdB off len N t) =
  Tree.br false
  (Tree.leaf
    (Ans.mk (AV.v (Value.int IntKind.i64 (0 : Int)))
      [some (Blk.row [AV.hs (1 : Nat) off len, AV.v (Value.int IntKind.i64 (0 : Int))]),
        some (Blk.arr (1 : Nat) N fun j => [AV.v (Value.int IntKind.u8 (sbyte t j))])]))
  (Tree.chk
    (cl
      (LeL
          [AV.ptr (0 : Nat) (0 : Nat), AV.hs (1 : Nat) off len, AV.v (Value.int IntKind.i64 (↑len : Int)),
            AV.v (Value.int IntKind.i64 (0 : Int)), AV.v (Value.int IntKind.u64 (0 : Int)),
            AV.v (Value.int IntKind.i64 (0 : Int))]
          [AV.ptr (0 : Nat) (0 : Nat), AV.hs (1 : Nat) off len, AV.v (Value.int IntKind.i64 (↑len : Int)),
            AV.v (Value.int IntKind.i64 (↑(0 : Nat) : Int)), AV.v (Value.int IntKind.u64 (↑(0 : Nat) : Int)), AV.any] ∧
        LeH
          [some (Blk.row [AV.hs (1 : Nat) off len, AV.v (Value.int IntKind.i64 (0 : Int))]),
            some (Blk.arr (1 : Nat) N fun j => [AV.v (Value.int IntKind.u8 (sbyte t j))])]
          [some (Blk.row [AV.hs (1 : Nat) off len, AV.v (Value.int IntKind.i64 (0 : Int))]),
            some (Blk.arr (1 : Nat) N fun j => [AV.v (Value.int IntKind.u8 (sbyte t j))])]))
    (Tree.leaf
      (Ans.mk (AV.v (Value.int IntKind.i64 (↑(vAt t off (k + (1 : Nat))) : Int)))
        [some
            (Blk.row
              [AV.hs (1 : Nat) (off + (k + (1 : Nat))) (len - (k + (1 : Nat))),
                AV.v (Value.int IntKind.i64 (0 : Int))]),
          some (Blk.arr (1 : Nat) N fun j => [AV.v (Value.int IntKind.u8 (sbyte t j))])]))) := by kernel_rfl
theorem runPb (off len N : Nat) (t : ByteArray) : bodyE (P := Try.prog) (Γ := Γw) [S.c12] (fun _ => LSpec.at [0, 19, 20, 21, 3, 2] [] (SP off len N t 0) (OPb N t)) false 75 [.tmp 2] (bodyOf Try.f13) [.ptr 0 0] (rdB off len N t) =
  Tree.br false
  (Tree.leaf
    (Ans.mk (AV.v (Value.int IntKind.i64 (0 : Int)))
      [some (Blk.row [AV.hs (1 : Nat) off len, AV.v (Value.int IntKind.i64 (0 : Int))]),
        some (Blk.arr (1 : Nat) N fun j => [AV.v (Value.int IntKind.u8 (sbyte t j))])]))
  (Tree.chk
    (cl
      (LeL
          [AV.ptr (0 : Nat) (0 : Nat), AV.hs (1 : Nat) off len, AV.v (Value.int IntKind.i64 (↑len : Int)),
            AV.v (Value.int IntKind.i64 (0 : Int)), AV.v (Value.int IntKind.u64 (0 : Int)),
            AV.v (Value.int IntKind.i64 (0 : Int))]
          [AV.ptr (0 : Nat) (0 : Nat), AV.hs (1 : Nat) off len, AV.v (Value.int IntKind.i64 (↑len : Int)),
            AV.v (Value.int IntKind.i64 (↑(0 : Nat) : Int)), AV.v (Value.int IntKind.u64 (↑(0 : Nat) : Int)), AV.any] ∧
        LeH
          [some (Blk.row [AV.hs (1 : Nat) off len, AV.v (Value.int IntKind.i64 (0 : Int))]),
            some (Blk.arr (1 : Nat) N fun j => [AV.v (Value.int IntKind.u8 (sbyte t j))])]
          [some (Blk.row [AV.hs (1 : Nat) off len, AV.v (Value.int IntKind.i64 (0 : Int))]),
            some (Blk.arr (1 : Nat) N fun j => [AV.v (Value.int IntKind.u8 (sbyte t j))])]))
    (Tree.leaf
      (Ans.mk (AV.v (Value.int IntKind.i64 (0 : Int)))
        [some (Blk.row [AV.v (Value.slice none (0 : Nat) (0 : Nat)), AV.v (Value.int IntKind.i64 (31 : Int))]),
          some (Blk.arr (1 : Nat) N fun j => [AV.v (Value.int IntKind.u8 (sbyte t j))])]))) := by kernel_rfl
theorem runPc (off len N : Nat) (t : ByteArray) : bodyE (P := Try.prog) (Γ := Γw) [S.c12] (fun _ => LSpec.at [0, 19, 20, 21, 3, 2] [] (SP off len N t 0) (OPc off len N t)) false 75 [.tmp 2] (bodyOf Try.f13) [.ptr 0 0] (rdB off len N t) =
  Tree.br false
  (Tree.leaf
    (Ans.mk (AV.v (Value.int IntKind.i64 (0 : Int)))
      [some (Blk.row [AV.hs (1 : Nat) off len, AV.v (Value.int IntKind.i64 (0 : Int))]),
        some (Blk.arr (1 : Nat) N fun j => [AV.v (Value.int IntKind.u8 (sbyte t j))])]))
  (Tree.chk
    (cl
      (LeL
          [AV.ptr (0 : Nat) (0 : Nat), AV.hs (1 : Nat) off len, AV.v (Value.int IntKind.i64 (↑len : Int)),
            AV.v (Value.int IntKind.i64 (0 : Int)), AV.v (Value.int IntKind.u64 (0 : Int)),
            AV.v (Value.int IntKind.i64 (0 : Int))]
          [AV.ptr (0 : Nat) (0 : Nat), AV.hs (1 : Nat) off len, AV.v (Value.int IntKind.i64 (↑len : Int)),
            AV.v (Value.int IntKind.i64 (↑(0 : Nat) : Int)), AV.v (Value.int IntKind.u64 (↑(0 : Nat) : Int)), AV.any] ∧
        LeH
          [some (Blk.row [AV.hs (1 : Nat) off len, AV.v (Value.int IntKind.i64 (0 : Int))]),
            some (Blk.arr (1 : Nat) N fun j => [AV.v (Value.int IntKind.u8 (sbyte t j))])]
          [some (Blk.row [AV.hs (1 : Nat) off len, AV.v (Value.int IntKind.i64 (0 : Int))]),
            some (Blk.arr (1 : Nat) N fun j => [AV.v (Value.int IntKind.u8 (sbyte t j))])]))
    (Tree.br true
      (Tree.leaf
        (Ans.mk (AV.v (Value.int IntKind.i64 (0 : Int)))
          [some (Blk.row [AV.v (Value.slice none (0 : Nat) (0 : Nat)), AV.v (Value.int IntKind.i64 (30 : Int))]),
            some (Blk.arr (1 : Nat) N fun j => [AV.v (Value.int IntKind.u8 (sbyte t j))])]))
      (Tree.leaf
        (Ans.mk (AV.v (Value.int IntKind.i64 (0 : Int)))
          [some (Blk.row [AV.hs (1 : Nat) off len, AV.v (Value.int IntKind.i64 (0 : Int))]),
            some (Blk.arr (1 : Nat) N fun j => [AV.v (Value.int IntKind.u8 (sbyte t j))])])))) := by kernel_rfl
theorem ansReadG {off len N k : Nat} {t : ByteArray} (h : IsGood t off len k) (hlen : len ≤ 1000000000000) : Answers Try.prog Γw 13 [.ptr 0 0] (rdB off len N t) (.v (.int .i64 (vAt t off (k + 1) : Int))) ((rdB (off + (k + 1)) (len - (k + 1)) N t).map some) [] :=
  answers (fn := Try.f13) (c := bodyOf Try.f13) (ntmps := 75) (results := [.tmp 2]) [S.c12] (fun _ => LSpec.at [0, 19, 20, 21, 3, 2] [] (SP off len N t 0) (OPg off len N t k)) false Try.func13 (by kernel_rfl) (by kernel_rfl) (by kernel_rfl) (by kernel_rfl) (by simp) rfl (oneLoop (b := loopP) (by kernel_rfl) (loopPg_ok h hlen 0 (Nat.zero_le _)))
    (Meets.of (runPg off len N k t) ⟨fun h => by simp at h, fun _ => ⟨cl_iff.2 ⟨⟨.refl _, .refl _, .refl _, .refl _, .refl _, .any _, trivial⟩, LeH.refl _⟩, .refl _, LeH.refl _⟩⟩)
theorem ansReadB {off len N k : Nat} {t : ByteArray} (h : IsBad t off len k) (hlen : len ≤ 1000000000000) : Answers Try.prog Γw 13 [.ptr 0 0] (rdB off len N t) (.v (.int .i64 0)) (badB 31 N t) [] :=
  answers (fn := Try.f13) (c := bodyOf Try.f13) (ntmps := 75) (results := [.tmp 2]) [S.c12] (fun _ => LSpec.at [0, 19, 20, 21, 3, 2] [] (SP off len N t 0) (OPb N t)) false Try.func13 (by kernel_rfl) (by kernel_rfl) (by kernel_rfl) (by kernel_rfl) (by simp) rfl (oneLoop (b := loopP) (by kernel_rfl) (loopPb_ok h hlen 0 (Nat.zero_le _)))
    (Meets.of (runPb off len N t) ⟨fun h => by simp at h, fun _ => ⟨cl_iff.2 ⟨⟨.refl _, .refl _, .refl _, .refl _, .refl _, .any _, trivial⟩, LeH.refl _⟩, .refl _, LeH.refl _⟩⟩)
theorem ansReadC {off len N : Nat} {t : ByteArray} (h : IsCut t off len) : Answers Try.prog Γw 13 [.ptr 0 0] (rdB off len N t) (.v (.int .i64 0)) (badB 30 N t) [] :=
  answers (fn := Try.f13) (c := bodyOf Try.f13) (ntmps := 75) (results := [.tmp 2]) [S.c12] (fun _ => LSpec.at [0, 19, 20, 21, 3, 2] [] (SP off len N t 0) (OPc off len N t)) false Try.func13 (by kernel_rfl) (by kernel_rfl) (by kernel_rfl) (by kernel_rfl) (by simp) rfl (oneLoop (b := loopP) (by kernel_rfl) (loopPc_ok h 0 (Nat.zero_le _)))
    (Meets.of (runPc off len N t) ⟨fun h => by simp at h, fun _ => ⟨cl_iff.2 ⟨⟨.refl _, .refl _, .refl _, .refl _, .refl _, .any _, trivial⟩, LeH.refl _⟩, fun _ => ⟨.refl _, LeH.refl _⟩, fun h => by simp at h⟩⟩)
theorem runPe (e : Int) : bodyE (P := Try.prog) (Γ := Γw) [S.c12] Lno false 75 [.tmp 2] (bodyOf Try.f13) [.ptr 0 0] [.row [.v (.slice none 0 0), .v (.int .i64 e)]] =
  Tree.br (!decide (e = (0 : Int)))
  (Tree.leaf
    (Ans.mk (AV.v (Value.int IntKind.i64 (0 : Int)))
      [some (Blk.row [AV.v (Value.slice none (0 : Nat) (0 : Nat)), AV.v (Value.int IntKind.i64 e)])]))
  Tree.fail := by kernel_rfl
theorem ansReadE {e : Int} (h : e ≠ 0) : Answers Try.prog Γw 13 [.ptr 0 0] [.row [.v (.slice none 0 0), .v (.int .i64 e)]] (.v (.int .i64 0)) [some (.row [.v (.slice none 0 0), .v (.int .i64 e)])] [] :=
  answers (fn := Try.f13) (c := bodyOf Try.f13) (ntmps := 75) (results := [.tmp 2]) [S.c12] Lno false Try.func13 (by kernel_rfl) (by kernel_rfl) (by kernel_rfl) (by kernel_rfl) (by simp) rfl (fun _ _ _ => fail_ok)
    (Meets.of (runPe e) (by rw [decide_eq_false h]; exact ⟨fun _ => ⟨.refl _, LeH.refl _⟩, fun h => by simp at h⟩))
open Classical in
noncomputable def kG (t : ByteArray) (off len : Nat) : Nat := if h : ∃ k, IsGood t off len k then h.choose else 0
theorem kG_of {t : ByteArray} {off len k : Nat} (h : IsGood t off len k) : kG t off len = k := by
  have h' : ∃ k, IsGood t off len k := ⟨k, h⟩
  unfold kG
  rw [dif_pos h']
  exact good_unique h'.choose_spec h
/-- reading a number, whatever stands there -/
noncomputable def readSpec (args : List AV) (Hin : List Blk) : Tree Res := match args, Hin with
  | [.ptr 0 0], [.row [.hs 1 off len, .v (.int .i64 0)], .arr 1 N g] => .chk (cl (g = bsF (textOf N g) ∧ len ≤ 1000000000000))
      (.br (cl (∃ k, IsGood (textOf N g) off len k)) (.leaf { val := .v (.int .i64 (vAt (textOf N g) off (kG (textOf N g) off len + 1) : Int)), upd := [some (some (.row [.hs 1 (off + (kG (textOf N g) off len + 1)) (len - (kG (textOf N g) off len + 1)), .v (.int .i64 0)])), none] })
        (.br (cl (IsCut (textOf N g) off len)) (.leaf { val := .v (.int .i64 0), upd := [some (some (.row [.v (.slice none 0 0), .v (.int .i64 30)])), none] })
          (.leaf { val := .v (.int .i64 0), upd := [some (some (.row [.v (.slice none 0 0), .v (.int .i64 31)])), none] })))
  | [.ptr 0 0], [.row [.v (.slice none 0 0), .v (.int .i64 e)]] => .chk (!decide (e = 0)) (.leaf { val := .v (.int .i64 0) })
  | _, _ => .fail
theorem Tree.br_get {α : Type} {c : Bool} {a b : Tree α} {r : α} (h : (Tree.br c a b).get = some r) : (c = true ∧ a.get = some r) ∨ (c = false ∧ b.get = some r) := by
  cases c with
  | true => exact .inl ⟨rfl, h⟩
  | false => exact .inr ⟨rfl, h⟩
theorem cl_not {p : Prop} (h : cl p = false) : ¬ p := fun hp => by rw [cl_iff.2 hp] at h; simp at h
noncomputable def Z.c13 : CT Try.prog Γw where
  f := 13
  spec := readSpec
  enters := callFunc_enters Try.func13 (by kernel_rfl) (by kernel_rfl)
  ok := fun args Hin r h => by
    unfold readSpec at h
    split at h
    · rename_i off len N g
      have h1 := (Tree.chk_get h).1
      replace h := (Tree.chk_get h).2
      obtain ⟨hg, hlen⟩ := cl_iff.1 h1
      clear h1
      generalize textOf N g = t at hg h
      subst hg
      rcases Tree.br_get h with ⟨hc, hq⟩ | ⟨hc, hq⟩
      · obtain ⟨k, hk⟩ := cl_iff.1 hc
        obtain rfl := Tree.leaf_get hq
        rw [kG_of hk]
        exact (ansReadG (N := N) hk hlen).ok.more (LeL.refl _) (LeH.refl _) rfl rfl
      · rcases Tree.br_get hq with ⟨hc2, hq2⟩ | ⟨hc2, hq2⟩
        · obtain rfl := Tree.leaf_get hq2
          exact (ansReadC (N := N) (cl_iff.1 hc2)).ok.more (LeL.refl _) (LeH.refl _) rfl rfl
        · obtain rfl := Tree.leaf_get hq2
          rcases classify t off len with h1 | h1 | ⟨k, hk⟩
          · exact absurd h1 (cl_not hc)
          · exact absurd h1 (cl_not hc2)
          · exact (ansReadB (N := N) hk hlen).ok.more (LeL.refl _) (LeH.refl _) rfl rfl
    · rename_i e
      have h1 := (Tree.chk_get h).1
      obtain rfl := Tree.leaf_get (Tree.chk_get h).2
      exact (ansReadE (e := e) (by simpa using h1)).ok.more (LeL.refl _) (LeH.refl _) rfl rfl
    · simp [Tree.get] at h
end Go.Eng.W

/- A slice of bytes as an argument. -/
namespace Go.Eng
open Go Go.ChangeShapes
set_option linter.unusedSimpArgs false
set_option linter.unusedVariables false
theorem textOf_size (n : Nat) (f : Nat → List AV) : (textOf n f).size = n := by
  unfold textOf
  show ((List.range n).map _).toArray.size = n
  simp
theorem sbyte_textOf {n j : Nat} {f : Nat → List AV} {v : Int} (hj : j < n) (hf : f j = [.v (.int .u8 v)]) (h : 0 ≤ v) (h' : v < 256) : sbyte (textOf n f) j = v := by
  unfold textOf sbyte
  simp only [List.getElem?_toArray, List.getElem?_map, List.getElem?_range hj, Option.map_some, Option.getD_some, hf, byteIn]
  simp
  omega
/-- a law's proof at one input, with the summaries that it uses -/
structure LawOK (P : Program) (Γ : Nat → AV) (ntmps : Nat) (results : List ResultVar) (c : Code) (args : List AV) : Prop where
  ok : ∃ (T : List (CT P Γ)) (L : Nat → LSpec) (ip : Bool), (∀ (j : Nat) (b : Code), (loopBodies c)[j]? = some b → LoopOK P Γ 0 ntmps b (L j)) ∧ Right (bodyE T L ip ntmps results c args [])
theorem LawOK.mk' {P : Program} {Γ : Nat → AV} {ntmps : Nat} {results : List ResultVar} {c : Code} {args : List AV} {T : List (CT P Γ)} {L : Nat → LSpec} {ip : Bool} (hL : ∀ (j : Nat) (b : Code), (loopBodies c)[j]? = some b → LoopOK P Γ 0 ntmps b (L j))
    (h : Right (bodyE T L ip ntmps results c args [])) : LawOK P Γ ntmps results c args := ⟨T, L, ip, hL, h⟩
noncomputable def CT.lawE {P : Program} {Γ : Nat → AV} {X : Type} (A : X → List AV) (pre : X → Prop) (f : FuncId) (fn : Func) (c : Code) (ntmps : Nat) (results : List ResultVar) (hf : P.funcs[f]? = some fn) (hb : fn.body = some c) (hr : fn.results.toList = results)
    (hnt : fn.ntmps = ntmps) (hn : (fn.name == "runtime.NumGoroutine") = false) (hsz : ∀ x, pre x → (A x).length ≤ ntmps) (hs : ∀ x, pre x → LawOK P Γ ntmps results c (A x)) : CT P Γ where
  f := f
  spec := lawSpec A pre
  enters := callFunc_enters hf (by rw [hb]; rfl) hn
  ok := fun args Hin r h => by
    obtain ⟨rfl, rfl, x, hp, rfl⟩ := lawSpec_get h
    obtain ⟨T, L, ip, hL, h⟩ := (hs x hp).ok
    subst hr; subst hnt
    exact contract_of (T := T) (ip := ip) hf hb L hL (hsz x hp) h.ok
/-- bytes as an argument: nil, or a slice -/
def bArg : Option ByteArray → AV
  | none => .v (.slice none 0 0)
  | some t => .sl 1 t.size (bsF t)
section
variable {H : Type} {enc : TypeId × Value → H} {P : Program} {w : World} {base : Nat} {sp : Nat → Bool} {held : Bool}
theorem V0.bytes {σ : Store} {m : Nat} {g : Nat → Int} {v : Value} (h : V0 σ (.sl 1 m fun i => [.v (.int .u8 (g i))]) v) (hw : ∀ i, i < m → 0 ≤ g i ∧ g i < 256) :
    V0 σ (bArg (some (textOf m fun i => [.v (.int .u8 (g i))]))) v := by
  have hs := textOf_size m fun i => [AV.v (.int .u8 (g i))]
  show V0 σ (.sl 1 _ _) v
  rw [hs]
  cases h with
  | sl _ _ _ ad cap ys hsp hn hl hm ho hv =>
    refine .sl 1 m _ ad cap ys hsp hn (fun _ => rfl) (fun e j c he hc => ?_) (fun e j c he hc => ?_) (fun e j c he hc => ?_)
    · cases j with
      | zero => exact hm e 0 (.v (.int .u8 (g e))) he rfl
      | succ j => simp [bsF] at hc
    · cases j with
      | zero => exact ho e 0 (.v (.int .u8 (g e))) he rfl
      | succ j => simp [bsF] at hc
    · cases j with
      | zero =>
        have h1 := hv e 0 (.v (.int .u8 (g e))) he rfl
        simp only [bsF, List.getElem?_cons_zero, Option.some.injEq] at hc
        subst hc
        rw [sbyte_textOf he rfl (hw e he).1 (hw e he).2]
        exact h1
      | succ j => simp [bsF] at hc
  | slnil _ _ _ A cap hl hn ha => exact .slnil 1 m _ A cap (fun _ => rfl) hn ha
theorem open_bytes {t e : TypeId} {v : Value} {r : Reach} {b0 : Nat} {d : DataW H} {ps : List MemPlace} (ht : P.underlying t = some (.slice e)) (he : P.underlying e = some (.int .u8)) (hc : P.cellsOf e = 1)
    (hval : Value.okWide P w r b0 t v) (h : DataW.Trod enc P w base sp held t v d ps) : ∃ x : Option ByteArray, V0 (σof w) (bArg x) v := by
  rcases open_sl ht he hc hval h with rfl | ⟨m, g, h1, h2⟩
  · exact ⟨none, .v _⟩
  · refine ⟨_, h1.bytes fun i hi => ?_⟩
    have := h2 i hi
    simp [Lit.wf, IntKind.min, IntKind.max, IntKind.signed, IntKind.bits] at this
    omega
end
end Go.Eng

/- wire: what is written is read: the functions. -/
namespace Go.Eng.W
open Go Go.Eng Go.Proofs
set_option linter.unusedSimpArgs false
set_option linter.unusedVariables false
/-- a number's bytes behind nothing, as the program writes them -/
noncomputable def numSpec (args : List AV) (Hin : List Blk) : Tree Res := match args, Hin with
  | [.v (.slice none 0 0), .v (.int .i64 n)], [] => .br (okN n) (.leaf { val := .tup [.hs 0 0 (numB n.toNat).size, .v (.int .i64 0)], new := [.arr 1 (numB n.toNat).size (bsF (numB n.toNat))] }) (.leaf { val := .tup [.v (.slice none 0 0), .v (.int .i64 10)] })
  | _, _ => .fail
noncomputable def Z.c7 : CT Try.prog Γw where
  f := 7
  spec := numSpec
  enters := callFunc_enters Try.func7 (by kernel_rfl) (by kernel_rfl)
  ok := fun args Hin r h => by
    unfold numSpec at h
    split at h
    · rename_i n
      rcases Tree.br_get h with ⟨hc, hq⟩ | ⟨hc, hq⟩
      · obtain ⟨k, rfl, hk⟩ := okN_nat hc
        obtain rfl := Tree.leaf_get hq
        have := (ansNum .nil k trivial hk).ok
        simp only [BA.t, empty_append] at this
        rw [Int.toNat_natCast]
        exact this.more (LeL.refl _) (LeH.refl _) rfl rfl
      · obtain rfl := Tree.leaf_get hq
        exact (ansBad .nil n trivial (okN_bad hc)).ok.more (LeL.refl _) (LeH.refl _) rfl rfl
    · simp [Tree.get] at h
/-- a copy of bytes -/
noncomputable def cloneSpec (args : List AV) (Hin : List Blk) : Tree Res := match args, Hin with
  | [.hs 0 0 k], [.arr 1 N g] => .chk (cl (N = k ∧ g = bsF (textOf k g) ∧ 0 < k ∧ k ≤ 1000000000)) (.leaf { val := .hs 1 0 k, upd := [none], new := [.arr 1 k g] })
  | [.sl 1 0 g], [] => .chk (cl (g = bsF ⟨#[]⟩)) (.leaf { val := .hs 0 0 0, new := [.arr 1 0 g] })
  | [.v (.slice none 0 0)], [] => .leaf { val := .v (.slice none 0 0) }
  | _, _ => .fail
noncomputable def Z.c19 : CT Try.prog Γw where
  f := 19
  spec := cloneSpec
  enters := callFunc_enters Try.func19 (by kernel_rfl) (by kernel_rfl)
  ok := fun args Hin r h => by
    unfold cloneSpec at h
    split at h
    · rename_i k N g
      have h1 := (Tree.chk_get h).1
      obtain rfl := Tree.leaf_get (Tree.chk_get h).2
      obtain ⟨rfl, hg, h2, h3⟩ := cl_iff.1 h1
      have hsz := textOf_size N g
      generalize textOf N g = t at hg hsz
      subst hg
      subst hsz
      exact (ansClone (.hs t) ⟨h3, h2⟩).ok.more (LeL.refl _) (LeH.refl _) rfl rfl
    · rename_i g
      have h1 := (Tree.chk_get h).1
      obtain rfl := Tree.leaf_get (Tree.chk_get h).2
      obtain rfl := cl_iff.1 h1
      exact (ansClone (.sl ⟨#[]⟩) (by unfold BA.ok small; decide)).ok.more (LeL.refl _) (LeH.refl _) rfl rfl
    · obtain rfl := Tree.leaf_get h
      exact (ansClone .nil trivial).ok.more (LeL.refl _) (LeH.refl _) rfl rfl
    · simp [Tree.get] at h
/-- a new reader -/
noncomputable def Z.c18 : CT Try.prog Γw := CT.auto false 1 1 [Z.c19] 18 Try.f18 (bodyOf Try.f18) false 7 [.tmp 2] Try.func18 (by kernel_rfl) (by kernel_rfl) (by kernel_rfl) (by kernel_rfl)
end Go.Eng.W

/- wire: a text is read. -/
namespace Go.Eng.W
open Go Go.Eng Go.Proofs
set_option linter.unusedSimpArgs false
set_option linter.unusedVariables false
theorem runMost (off len N k : Nat) (t : ByteArray) (h : IsGood t off len k) (hlen : len ≤ 1000000000000) : bodyE (P := Try.prog) (Γ := Γw) [CT.at 13 (ansReadG (N := N) h hlen), S.c12] Lno false 14 [.tmp 4] (bodyOf Try.f14) [.ptr 0 0, .v (.int .i64 65536)] (rdB off len N t) =
  Tree.chk
  (cl
    (LeL [AV.ptr (0 : Nat) (0 : Nat)] [AV.ptr (0 : Nat) (0 : Nat)] ∧
      LeH
        [some (Blk.row [AV.hs (1 : Nat) off len, AV.v (Value.int IntKind.i64 (0 : Int))]),
          some (Blk.arr (1 : Nat) N fun j => [AV.v (Value.int IntKind.u8 (sbyte t j))])]
        [some (Blk.row [AV.hs (1 : Nat) off len, AV.v (Value.int IntKind.i64 (0 : Int))]),
          some (Blk.arr (1 : Nat) N fun j => [AV.v (Value.int IntKind.u8 (sbyte t j))])]))
  (Tree.br (decide ((65536 : Int) < (↑(vAt t off (k + (1 : Nat))) : Int)))
    (Tree.br true
      (Tree.leaf
        (Ans.mk (AV.v (Value.int IntKind.i64 (0 : Int)))
          [some (Blk.row [AV.v (Value.slice none (0 : Nat) (0 : Nat)), AV.v (Value.int IntKind.i64 (33 : Int))]),
            some (Blk.arr (1 : Nat) N fun j => [AV.v (Value.int IntKind.u8 (sbyte t j))])]))
      (Tree.leaf
        (Ans.mk (AV.v (Value.int IntKind.i64 (0 : Int)))
          [some
              (Blk.row
                [AV.hs (1 : Nat) (off + (k + (1 : Nat))) (len - (k + (1 : Nat))),
                  AV.v (Value.int IntKind.i64 (0 : Int))]),
            some (Blk.arr (1 : Nat) N fun j => [AV.v (Value.int IntKind.u8 (sbyte t j))])])))
    (Tree.leaf
      (Ans.mk (AV.v (Value.int IntKind.i64 (↑(vAt t off (k + (1 : Nat))) : Int)))
        [some
            (Blk.row
              [AV.hs (1 : Nat) (off + (k + (1 : Nat))) (len - (k + (1 : Nat))),
                AV.v (Value.int IntKind.i64 (0 : Int))]),
          some (Blk.arr (1 : Nat) N fun j => [AV.v (Value.int IntKind.u8 (sbyte t j))])]))) := by kernel_rfl
theorem ansMost {off len N k : Nat} {t : ByteArray} (h : IsGood t off len k) (hlen : len ≤ 1000000000000) (hv : vAt t off (k + 1) ≤ 65536) : Answers Try.prog Γw 14 [.ptr 0 0, .v (.int .i64 65536)] (rdB off len N t) (.v (.int .i64 (vAt t off (k + 1) : Int))) ((rdB (off + (k + 1)) (len - (k + 1)) N t).map some) [] :=
  answers (fn := Try.f14) (c := bodyOf Try.f14) (ntmps := 14) (results := [.tmp 4]) [CT.at 13 (ansReadG (N := N) h hlen), S.c12] Lno false Try.func14 (by kernel_rfl) (by kernel_rfl) (by kernel_rfl) (by kernel_rfl) (by simp) rfl (noLoops (by kernel_rfl))
    (Meets.of (runMost off len N k t h hlen) ⟨cl_iff.2 ⟨LeL.refl _, LeH.refl _⟩, fun hc => absurd (of_decide_eq_true hc) (by omega), fun _ => ⟨.refl _, LeH.refl _⟩⟩)
theorem runText (off len N k : Nat) (t : ByteArray) (h : IsGood t off len k) (hlen : len ≤ 1000000000000) (hv : vAt t off (k + 1) ≤ 65536) : bodyE (P := Try.prog) (Γ := Γw) [CT.at 14 (ansMost (N := N) h hlen hv), S.c16, S.c12] Lno false 32 [.tmp 2] (bodyOf Try.f15) [.ptr 0 0] (rdB off len N t) =
  Tree.chk
  (cl
    (LeL [AV.ptr (0 : Nat) (0 : Nat), AV.v (Value.int IntKind.i64 (65536 : Int))]
        [AV.ptr (0 : Nat) (0 : Nat), AV.v (Value.int IntKind.i64 (65536 : Int))] ∧
      LeH
        [some (Blk.row [AV.hs (1 : Nat) off len, AV.v (Value.int IntKind.i64 (0 : Int))]),
          some (Blk.arr (1 : Nat) N fun j => [AV.v (Value.int IntKind.u8 (sbyte t j))])]
        [some (Blk.row [AV.hs (1 : Nat) off len, AV.v (Value.int IntKind.i64 (0 : Int))]),
          some (Blk.arr (1 : Nat) N fun j => [AV.v (Value.int IntKind.u8 (sbyte t j))])]))
  (Tree.br (decide ((↑(len - (k + (1 : Nat))) : Int) < (↑(vAt t off (k + (1 : Nat))) : Int)))
    (Tree.br true
      (Tree.leaf
        (Ans.mk (AV.v (Value.string (ByteArray.mk #[])))
          [some (Blk.row [AV.v (Value.slice none (0 : Nat) (0 : Nat)), AV.v (Value.int IntKind.i64 (30 : Int))]),
            some (Blk.arr (1 : Nat) N fun j => [AV.v (Value.int IntKind.u8 (sbyte t j))])]))
      (Tree.leaf
        (Ans.mk (AV.v (Value.string (ByteArray.mk #[])))
          [some
              (Blk.row
                [AV.hs (1 : Nat) (off + (k + (1 : Nat))) (len - (k + (1 : Nat))),
                  AV.v (Value.int IntKind.i64 (0 : Int))]),
            some (Blk.arr (1 : Nat) N fun j => [AV.v (Value.int IntKind.u8 (sbyte t j))])])))
    (Tree.br (decide ((↑(vAt t off (k + (1 : Nat))) : Int) = (0 : Int)))
      (Tree.leaf
        (Ans.mk (AV.v (Value.string (ByteArray.mk #[])))
          [some
              (Blk.row
                [AV.hs (1 : Nat) (off + (k + (1 : Nat))) (len - (k + (1 : Nat))),
                  AV.v (Value.int IntKind.i64 (0 : Int))]),
            some (Blk.arr (1 : Nat) N fun j => [AV.v (Value.int IntKind.u8 (sbyte t j))])]))
      (Tree.chk
        ((true && decide ((↑(0 : Nat) : Int) ≤ (↑(vAt t off (k + (1 : Nat))) : Int)) &&
            bif false then decide (off + (k + (1 : Nat)) + (↑(vAt t off (k + (1 : Nat))) : Int).toNat ≤ N)
            else decide ((↑(vAt t off (k + (1 : Nat))) : Int) ≤ (↑(len - (k + (1 : Nat))) : Int))) &&
          allBytes ((↑(vAt t off (k + (1 : Nat))) : Int).toNat - (↑(0 : Nat) : Int).toNat) fun j =>
            [AV.v (Value.int IntKind.u8 (sbyte t (off + (k + (1 : Nat)) + (↑(0 : Nat) : Int).toNat + j)))])
        (Tree.chk
          (decide ((0 : Int) ≤ (↑(vAt t off (k + (1 : Nat))) : Int)) &&
              decide ((↑(vAt t off (k + (1 : Nat))) : Int) ≤ (↑(len - (k + (1 : Nat))) : Int)) &&
            bif false then decide (off + (k + (1 : Nat)) + (↑(len - (k + (1 : Nat))) : Int).toNat ≤ N)
            else decide ((↑(len - (k + (1 : Nat))) : Int) ≤ (↑(len - (k + (1 : Nat))) : Int)))
          (Tree.leaf
            (Ans.mk
              (AV.v
                (Value.string
                  (textOf ((↑(vAt t off (k + (1 : Nat))) : Int).toNat - (↑(0 : Nat) : Int).toNat) fun j =>
                    [AV.v (Value.int IntKind.u8 (sbyte t (off + (k + (1 : Nat)) + (↑(0 : Nat) : Int).toNat + j)))])))
              [some
                  (Blk.row
                    [AV.hs (1 : Nat) (off + (k + (1 : Nat)) + (↑(vAt t off (k + (1 : Nat))) : Int).toNat)
                        ((↑(len - (k + (1 : Nat))) : Int).toNat - (↑(vAt t off (k + (1 : Nat))) : Int).toNat),
                      AV.v (Value.int IntKind.i64 (0 : Int))]),
                some (Blk.arr (1 : Nat) N fun j => [AV.v (Value.int IntKind.u8 (sbyte t j))])])))))) := by kernel_rfl
theorem textOf_congr {n : Nat} {f g : Nat → List AV} (h : ∀ j, j < n → f j = g j) : textOf n f = textOf n g := by
  unfold textOf
  congr 2
  refine List.map_congr_left fun j hj => ?_
  rw [h j (by simpa using hj)]
theorem empty_of_size {s : ByteArray} (h : s.size = 0) : s = ⟨#[]⟩ := by
  obtain ⟨d⟩ := s
  have : d = #[] := Array.eq_empty_of_size_eq_zero h
  rw [this]
theorem allB (n : Nat) (f : Nat → Int) : (allBytes n fun j => [AV.v (Value.int IntKind.u8 (f j))]) = true := by
  unfold allBytes
  rw [List.all_eq_true]
  intro j _
  rfl
theorem ansTextR {off len N k : Nat} {t s : ByteArray} (h : IsGood t off len k) (hlen : len ≤ 1000000000000) (hs : s.size ≤ 65536) (hv : vAt t off (k + 1) = s.size) (hr : s.size ≤ len - (k + 1)) (hb : ∀ j, j < s.size → sbyte t (off + (k + 1) + j) = sbyte s j) :
    Answers Try.prog Γw 15 [.ptr 0 0] (rdB off len N t) (.v (.string s)) ((rdB (off + (k + 1) + s.size) (len - (k + 1) - s.size) N t).map some) [] :=
  answers (fn := Try.f15) (c := bodyOf Try.f15) (ntmps := 32) (results := [.tmp 2]) [CT.at 14 (ansMost (N := N) h hlen (hv ▸ hs)), S.c16, S.c12] Lno false Try.func15 (by kernel_rfl) (by kernel_rfl) (by kernel_rfl) (by kernel_rfl) (by simp) rfl (noLoops (by kernel_rfl))
    (Meets.of (runText off len N k t h hlen (hv ▸ hs)) (by
      rw [hv]
      simp only [Int.toNat_natCast, Nat.add_zero, Nat.sub_zero, show (((0 : Nat) : Int)).toNat = 0 from rfl]
      refine ⟨cl_iff.2 ⟨LeL.refl _, LeH.refl _⟩, fun hc => absurd (of_decide_eq_true hc) (by omega), fun _ => ⟨fun h0 => ?_, fun h0 => ⟨?_, ?_, ?_⟩⟩⟩
      · have h0 : s.size = 0 := by have := of_decide_eq_true h0; omega
        obtain rfl := empty_of_size h0
        exact ⟨.refl _, LeH.refl _⟩
      · rw [allB]
        simp
        omega
      · simp
        omega
      · rw [textOf_congr (g := bsF s) (fun j hj => by rw [hb j hj]; rfl), textOf_bsF]
        exact ⟨.refl _, LeH.refl _⟩))
end Go.Eng.W
