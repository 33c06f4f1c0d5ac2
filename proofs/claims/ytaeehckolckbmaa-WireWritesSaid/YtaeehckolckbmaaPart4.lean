/- wire: copies of bytes, and the bytes of a number: what the program answers and what follows it. -/
import Derived.Test.YtaeehckolckbmaaPart3
/- wire: copies of bytes, and the bytes of a number: what the program answers. -/
namespace Go.Eng.W
open Go Go.Eng Go.Proofs
set_option linter.unusedSimpArgs false
set_option linter.unusedVariables false
noncomputable def loopOf (c : Code) (j : Nat) : Code := match (loopBodies c)[j]? with | some b => b | none => .skip
/-- bytes as an argument: nil, of the caller's own, or only read -/
inductive BA where
  | nil
  | sl (t : ByteArray)
  | hs (t : ByteArray)
def BA.t : BA → ByteArray
  | .nil => ⟨#[]⟩
  | .sl t => t
  | .hs t => t
def BA.av : BA → AV
  | .nil => .v (.slice none 0 0)
  | .sl t => .sl 1 t.size (bsF t)
  | .hs t => .hs 0 0 t.size
def BA.bl : BA → List Blk
  | .hs t => [.arr 1 t.size (bsF t)]
  | _ => []
def BA.n : BA → Nat
  | .hs _ => 1
  | _ => 0
def small (t : ByteArray) : Prop := t.size ≤ 1000000000
theorem runCn  : bodyE (P := Try.prog) (Γ := Γw) [] Lno false 8 [.tmp 2] (bodyOf Try.f19) [.v (.slice none 0 0)] [] =
  Tree.leaf (Ans.mk (AV.v (Value.slice none (0 : Nat) (0 : Nat))) []) := by kernel_rfl
theorem runCs (t : ByteArray) : bodyE (P := Try.prog) (Γ := Γw) [] Lno false 8 [.tmp 2] (bodyOf Try.f19) [.sl 1 t.size (bsF t)] [] =
  Tree.chk (roomOk (1 : Nat) ((0 : Nat) + t.size))
  (Tree.leaf
    (Ans.mk (AV.hs (0 : Nat) (0 : Nat) ((0 : Nat) + t.size))
      [some
          (Blk.arr (1 : Nat) ((0 : Nat) + t.size) fun j =>
            [AV.v (Value.int IntKind.u8 (bif decide (j < (0 : Nat)) then (0 : Int) else sbyte t (j - (0 : Nat))))])])) := by kernel_rfl
theorem runCh (t : ByteArray) : bodyE (P := Try.prog) (Γ := Γw) [] Lno false 8 [.tmp 2] (bodyOf Try.f19) [.hs 0 0 t.size] [.arr 1 t.size (bsF t)] =
  Tree.chk (Nat.blt (0 : Nat) t.size)
  (Tree.chk (roomOk (1 : Nat) ((0 : Nat) + t.size))
    (Tree.leaf
      (Ans.mk (AV.hs (1 : Nat) (0 : Nat) ((0 : Nat) + t.size))
        [some (Blk.arr (1 : Nat) t.size fun j => [AV.v (Value.int IntKind.u8 (sbyte t j))]),
          some
            (Blk.arr (1 : Nat) ((0 : Nat) + t.size) fun j =>
              [AV.v
                  (Value.int IntKind.u8
                    (bif decide (j < (0 : Nat)) then (0 : Int) else sbyte t ((0 : Nat) + (j - (0 : Nat)))))])]))) := by kernel_rfl
def BA.ok : BA → Prop
  | .nil => True
  | .sl t => small t
  | .hs t => small t ∧ 0 < t.size
theorem room {n : Nat} (h : n ≤ 2000000000) : roomOk 1 (0 + n) = true := by
  unfold roomOk
  exact decide_eq_true (by omega)
theorem room' {n : Nat} (h : n ≤ 2000000000) : roomOk 1 n = true := by
  unfold roomOk
  exact decide_eq_true (by omega)
theorem cut0 (t : ByteArray) (j : Nat) : (bif decide (j < (0 : Nat)) then (0 : Int) else sbyte t (j - (0 : Nat))) = sbyte t j := by
  rw [decide_eq_false (Nat.not_lt_zero _)]; rfl
theorem cut1 (t : ByteArray) (j : Nat) : (bif decide (j < (0 : Nat)) then (0 : Int) else sbyte t ((0 : Nat) + (j - (0 : Nat)))) = sbyte t j := by
  rw [decide_eq_false (Nat.not_lt_zero _), Nat.zero_add]; rfl
def cloneV : BA → AV
  | .nil => nilSlice
  | .sl t => .hs 0 0 t.size
  | .hs t => .hs 1 0 t.size
def cloneN : BA → List Blk
  | .nil => []
  | .sl t => [.arr 1 t.size (bsF t)]
  | .hs t => [.arr 1 t.size (bsF t)]
theorem ansClone : ∀ (x : BA), x.ok → Answers Try.prog Γw 19 [x.av] x.bl (cloneV x) (x.bl.map some) (cloneN x)
  | .nil, _ => answers (fn := Try.f19) (c := bodyOf Try.f19) (ntmps := 8) (results := [.tmp 2]) [] Lno false Try.func19 (by kernel_rfl) (by kernel_rfl) (by kernel_rfl) (by kernel_rfl) (by simp) rfl (noLoops (by kernel_rfl))
    (Meets.of runCn ⟨.refl _, trivial⟩)
  | .sl t, hp => answers (fn := Try.f19) (c := bodyOf Try.f19) (ntmps := 8) (results := [.tmp 2]) [] Lno false Try.func19 (by kernel_rfl) (by kernel_rfl) (by kernel_rfl) (by kernel_rfl) (by simp) rfl (noLoops (by kernel_rfl))
    (Meets.of (runCs t) ⟨room (by have : t.size ≤ 1000000000 := hp; omega), by
      simp only [Nat.zero_add, cut0]
      exact ⟨.refl _, .refl _, trivial⟩⟩)
  | .hs t, hp => answers (fn := Try.f19) (c := bodyOf Try.f19) (ntmps := 8) (results := [.tmp 2]) [] Lno false Try.func19 (by kernel_rfl) (by kernel_rfl) (by kernel_rfl) (by kernel_rfl) (by simp) rfl (noLoops (by kernel_rfl))
    (Meets.of (runCh t) ⟨by rw [Nat.blt_eq]; exact hp.2, room (by have : t.size ≤ 1000000000 := hp.1; omega), by
      simp only [Nat.zero_add, cut1]
      exact ⟨.refl _, .refl _, .refl _, trivial⟩⟩)
/-! ### a number's bytes: the loop -/
noncomputable def loopN : Code := loopOf (bodyOf Try.f7) 0
theorem roundN0 (n : Nat) (t : ByteArray) : roundE (P := Try.prog) (Γ := Γw) [] Lno false 0 0 loopN [1, 6] [(1, 5)] 30 [.v (.int .i64 (n : Int)), .hs 0 0 t.size] [some (.arr 1 t.size (bsF t))] =
  Tree.br (decide ((128 : Int) ≤ (↑n : Int)))
  (Tree.chk (roomOk (1 : Nat) (t.size + (1 : Nat)))
    (Tree.chk true
      (Tree.leaf
        (Out.mk AEx.normal
          [AV.v (Value.int IntKind.i64 ((↑n : Int).fdiv ((2 : Int) ^ min (Int.toNat (7 : Int)) (64 : Nat)))),
            AV.hs (0 : Nat) (0 : Nat) (t.size + (1 : Nat))]
          [some
              (Blk.arr (1 : Nat) (t.size + (1 : Nat)) fun j =>
                [AV.v
                    (Value.int IntKind.u8
                      (bif decide (j < t.size) then sbyte t ((0 : Nat) + j)
                      else
                        bif ((0 : Nat) + (j - t.size)).beq (0 : Nat) then
                          bitI BinOp.or IntKind.u8 (IntKind.u8.wrap (↑n : Int)) (128 : Int)
                        else (0 : Int)))])]))))
  (Tree.leaf
    (Out.mk (AEx.exit (0 : Nat)) [AV.v (Value.int IntKind.i64 (↑n : Int)), AV.hs (0 : Nat) (0 : Nat) t.size]
      [some (Blk.arr (1 : Nat) t.size fun j => [AV.v (Value.int IntKind.u8 (sbyte t j))])])) := by kernel_rfl
theorem roundN1 (n : Nat) (t b : ByteArray) : roundE (P := Try.prog) (Γ := Γw) [] Lno false 1 0 loopN [1, 6] [(1, 5)] 30 [.v (.int .i64 (n : Int)), .hs 1 0 t.size] [some (.arr 1 b.size (bsF b)), some (.arr 1 t.size (bsF t))] =
  Tree.br (decide ((128 : Int) ≤ (↑n : Int)))
  (Tree.chk (roomOk (1 : Nat) (t.size + (1 : Nat)))
    (Tree.chk true
      (Tree.leaf
        (Out.mk AEx.normal
          [AV.v (Value.int IntKind.i64 ((↑n : Int).fdiv ((2 : Int) ^ min (Int.toNat (7 : Int)) (64 : Nat)))),
            AV.hs (1 : Nat) (0 : Nat) (t.size + (1 : Nat))]
          [some (Blk.arr (1 : Nat) b.size fun j => [AV.v (Value.int IntKind.u8 (sbyte b j))]),
            some
              (Blk.arr (1 : Nat) (t.size + (1 : Nat)) fun j =>
                [AV.v
                    (Value.int IntKind.u8
                      (bif decide (j < t.size) then sbyte t ((0 : Nat) + j)
                      else
                        bif ((0 : Nat) + (j - t.size)).beq (0 : Nat) then
                          bitI BinOp.or IntKind.u8 (IntKind.u8.wrap (↑n : Int)) (128 : Int)
                        else (0 : Int)))])]))))
  (Tree.leaf
    (Out.mk (AEx.exit (0 : Nat)) [AV.v (Value.int IntKind.i64 (↑n : Int)), AV.hs (1 : Nat) (0 : Nat) t.size]
      [some (Blk.arr (1 : Nat) b.size fun j => [AV.v (Value.int IntKind.u8 (sbyte b j))]),
        some (Blk.arr (1 : Nat) t.size fun j => [AV.v (Value.int IntKind.u8 (sbyte t j))])])) := by kernel_rfl
def SN (a : BA) (n : Nat) (t : ByteArray) : List AV × Heap := ([.v (.int .i64 (n : Int)), .hs a.n 0 t.size], a.bl.map some ++ [some (.arr 1 t.size (bsF t))])
def preN (x : Nat × ByteArray) : Prop := x.1 ≤ 4611686018427387904 ∧ x.2.size + (hiB x.1).size ≤ 1000000100
def ON (a : BA) (n : Nat) (t : ByteArray) : Out := ⟨.exit 0, [.v (.int .i64 (loN n : Int)), .hs a.n 0 (t ++ hiB n).size], a.bl.map some ++ [some (.arr 1 (t ++ hiB n).size (bsF (t ++ hiB n)))]⟩
theorem stepN {n : Nat} {t : ByteArray} (hp : preN (n, t)) (h : 128 ≤ n) : ((n : Int).fdiv ((2 : Int) ^ min (Int.toNat (7 : Int)) (64 : Nat))) = ((n / 128 : Nat) : Int) ∧ (t ++ oneB (n % 128 + 128)).size = t.size + 1 ∧ t.size + 1 ≤ 1000000100 ∧
    preN (n / 128, t ++ oneB (n % 128 + 128)) ∧ (t ++ oneB (n % 128 + 128)) ++ hiB (n / 128) = t ++ hiB n ∧
    ∀ j, j < t.size + 1 → (bif decide (j < t.size) then sbyte t ((0 : Nat) + j) else bif ((0 : Nat) + (j - t.size)).beq (0 : Nat) then bitI BinOp.or IntKind.u8 (IntKind.u8.wrap (n : Int)) (128 : Int) else (0 : Int)) = sbyte (t ++ oneB (n % 128 + 128)) j := by
  have hge : ¬ n < 128 := by omega
  have e1 := hiB_ge hge
  have hp1 := hp.1
  have hp2 := hp.2
  simp only [e1, ByteArray.size_append, oneB_size] at hp2
  refine ⟨?_, by simp, by omega, ⟨?_, ?_⟩, ?_, fun j hj => ?_⟩
  · show (n : Int).fdiv 128 = _
    rw [Int.fdiv_eq_ediv_of_nonneg _ (by decide)]
    omega
  · show n / 128 ≤ _
    have : n / 128 ≤ n := Nat.div_le_self _ _
    simp only at hp1
    omega
  · simp only [ByteArray.size_append, oneB_size]; omega
  · rw [e1, ByteArray.append_assoc]
  · have hv : bitI BinOp.or IntKind.u8 (IntKind.u8.wrap (n : Int)) (128 : Int) = ((n % 128 + 128 : Nat) : Int) := by
      rw [wrapU8, or128 _ (by omega) (by omega)]
      omega
    rw [hv, push_eq (by omega) (by omega) hj, Int.toNat_natCast]
theorem loopN_ok (a : BA) : ∀ x : Nat × ByteArray, preN x → LoopOK Try.prog Γw a.bl.length 30 loopN (LSpec.at [1, 6] [(1, 5)] (SN a x.1 x.2) (ON a x.1 x.2)) := by
  refine loop_at (S := fun x : Nat × ByteArray => SN a x.1 x.2) (O := fun x => ON a x.1 x.2) (k := 0) (fun x => x.1) fun x hp => ⟨[], Lno, false, noLoops (by kernel_rfl), ?_⟩
  obtain ⟨n, t⟩ := x
  have fin : ¬ 128 ≤ n → hiB n = ⟨#[]⟩ ∧ loN n = n := fun h => ⟨hiB_lt (by omega), loN_lt (by omega)⟩
  have hd : (128 : Int) ≤ (n : Int) ↔ 128 ≤ n := by omega
  cases a with
  | hs b =>
    show (roundE (P := Try.prog) (Γ := Γw) [] Lno false 1 0 loopN [1, 6] [(1, 5)] 30 [.v (.int .i64 (n : Int)), .hs 1 0 t.size] [some (.arr 1 b.size (bsF b)), some (.arr 1 t.size (bsF t))]).sat _
    rw [roundN1]
    refine ⟨fun hc => ?_, fun hc => ?_⟩
    · have h := hd.1 (of_decide_eq_true hc)
      obtain ⟨s1, s2, s3, s4, s5, s6⟩ := stepN hp h
      refine ⟨room' (by omega), rfl, (n / 128, t ++ oneB (n % 128 + 128)), ?_, ?_, s4, ?_, ?_⟩
      · rw [s1]; exact ⟨.refl _, .of_eq (by rw [s2]; rfl), trivial⟩
      · exact ⟨.refl _, .arr s2.symm (fun j hj => by rw [s6 j hj]; rfl) (fun _ => rfl), trivial⟩
      · simp only [ON]; rw [show loN (n / 128) = loN n from (loN_ge (by omega)).symm, s5]
      · show n / 128 < n; omega
    · have h := mt hd.2 (of_decide_eq_false hc)
      obtain ⟨f1, f2⟩ := fin h
      refine ⟨rfl, ?_, ?_⟩
      · simp only [ON, f1, f2, append_empty]; exact LeL.refl _
      · simp only [ON, f1, append_empty]; exact LeH.refl _
  | nil =>
    show (roundE (P := Try.prog) (Γ := Γw) [] Lno false 0 0 loopN [1, 6] [(1, 5)] 30 [.v (.int .i64 (n : Int)), .hs 0 0 t.size] [some (.arr 1 t.size (bsF t))]).sat _
    rw [roundN0]
    refine ⟨fun hc => ?_, fun hc => ?_⟩
    · have h := hd.1 (of_decide_eq_true hc)
      obtain ⟨s1, s2, s3, s4, s5, s6⟩ := stepN hp h
      refine ⟨room' (by omega), rfl, (n / 128, t ++ oneB (n % 128 + 128)), ?_, ?_, s4, ?_, ?_⟩
      · rw [s1]; exact ⟨.refl _, .of_eq (by rw [s2]; rfl), trivial⟩
      · exact ⟨.arr s2.symm (fun j hj => by rw [s6 j hj]; rfl) (fun _ => rfl), trivial⟩
      · simp only [ON]; rw [show loN (n / 128) = loN n from (loN_ge (by omega)).symm, s5]
      · show n / 128 < n; omega
    · have h := mt hd.2 (of_decide_eq_false hc)
      obtain ⟨f1, f2⟩ := fin h
      refine ⟨rfl, ?_, ?_⟩
      · simp only [ON, f1, f2, append_empty]; exact LeL.refl _
      · simp only [ON, f1, append_empty]; exact LeH.refl _
  | sl b =>
    show (roundE (P := Try.prog) (Γ := Γw) [] Lno false 0 0 loopN [1, 6] [(1, 5)] 30 [.v (.int .i64 (n : Int)), .hs 0 0 t.size] [some (.arr 1 t.size (bsF t))]).sat _
    rw [roundN0]
    refine ⟨fun hc => ?_, fun hc => ?_⟩
    · have h := hd.1 (of_decide_eq_true hc)
      obtain ⟨s1, s2, s3, s4, s5, s6⟩ := stepN hp h
      refine ⟨room' (by omega), rfl, (n / 128, t ++ oneB (n % 128 + 128)), ?_, ?_, s4, ?_, ?_⟩
      · rw [s1]; exact ⟨.refl _, .of_eq (by rw [s2]; rfl), trivial⟩
      · exact ⟨.arr s2.symm (fun j hj => by rw [s6 j hj]; rfl) (fun _ => rfl), trivial⟩
      · simp only [ON]; rw [show loN (n / 128) = loN n from (loN_ge (by omega)).symm, s5]
      · show n / 128 < n; omega
    · have h := mt hd.2 (of_decide_eq_false hc)
      obtain ⟨f1, f2⟩ := fin h
      refine ⟨rfl, ?_, ?_⟩
      · simp only [ON, f1, f2, append_empty]; exact LeL.refl _
      · simp only [ON, f1, append_empty]; exact LeH.refl _
noncomputable def LN (a : BA) (n : Nat) (t : ByteArray) : Nat → LSpec := fun _ => LSpec.at [1, 6] [(1, 5)] (SN a n t) (ON a n t)
theorem runNn (n : Nat) (h : BA.nil.ok) : bodyE (P := Try.prog) (Γ := Γw) [CT.at 19 (ansClone .nil h)] (LN .nil n ⟨#[]⟩) false 30 [.tmp 4, .tmp 5] (bodyOf Try.f7) [.v (.slice none 0 0), .v (.int .i64 (n : Int))] [] =
  Tree.br (bif decide ((↑n : Int) < (0 : Int)) then true else decide ((4611686018427387904 : Int) < (↑n : Int)))
  (Tree.leaf
    (Ans.mk (AV.tup [AV.v (Value.slice none (0 : Nat) (0 : Nat)), AV.v (Value.int IntKind.i64 (10 : Int))]) []))
  (Tree.chk
    (cl (LeL [AV.v (Value.slice none (0 : Nat) (0 : Nat))] [AV.v (Value.slice none (0 : Nat) (0 : Nat))] ∧ LeH [] []))
    (Tree.chk
      (cl
        (LeL [AV.v (Value.int IntKind.i64 (↑n : Int)), AV.hs (0 : Nat) (0 : Nat) (0 : Nat)]
            [AV.v (Value.int IntKind.i64 (↑n : Int)), AV.hs (0 : Nat) (0 : Nat) (0 : Nat)] ∧
          LeH [some (Blk.arr (1 : Nat) (0 : Nat) fun x => [AV.v (Value.int IntKind.u8 (0 : Int))])]
            [some (Blk.arr (1 : Nat) (0 : Nat) fun j => [AV.v (Value.int IntKind.u8 (sbyte (ByteArray.mk #[]) j))])]))
      (Tree.chk (roomOk (1 : Nat) ((ByteArray.mk #[] ++ hiB n).size + (1 : Nat)))
        (Tree.leaf
          (Ans.mk
            (AV.tup
              [AV.hs (0 : Nat) (0 : Nat) ((ByteArray.mk #[] ++ hiB n).size + (1 : Nat)),
                AV.v (Value.int IntKind.i64 (0 : Int))])
            [some
                (Blk.arr (1 : Nat) ((ByteArray.mk #[] ++ hiB n).size + (1 : Nat)) fun j =>
                  [AV.v
                      (Value.int IntKind.u8
                        (bif decide (j < (ByteArray.mk #[] ++ hiB n).size) then
                          sbyte (ByteArray.mk #[] ++ hiB n) ((0 : Nat) + j)
                        else
                          bif ((0 : Nat) + (j - (ByteArray.mk #[] ++ hiB n).size)).beq (0 : Nat) then
                            IntKind.u8.wrap (↑(loN n) : Int)
                          else (0 : Int)))])]))))) := by kernel_rfl
theorem runNs (t : ByteArray) (n : Nat) (h : (BA.sl t).ok) : bodyE (P := Try.prog) (Γ := Γw) [CT.at 19 (ansClone (.sl t) h)] (LN (.sl t) n t) false 30 [.tmp 4, .tmp 5] (bodyOf Try.f7) [.sl 1 t.size (bsF t), .v (.int .i64 (n : Int))] [] =
  Tree.br (bif decide ((↑n : Int) < (0 : Int)) then true else decide ((4611686018427387904 : Int) < (↑n : Int)))
  (Tree.leaf
    (Ans.mk (AV.tup [AV.v (Value.slice none (0 : Nat) (0 : Nat)), AV.v (Value.int IntKind.i64 (10 : Int))]) []))
  (Tree.chk
    (cl
      (LeL [AV.sl (1 : Nat) t.size fun j => [AV.v (Value.int IntKind.u8 (sbyte t j))]]
          [AV.sl (1 : Nat) t.size fun j => [AV.v (Value.int IntKind.u8 (sbyte t j))]] ∧
        LeH [] []))
    (Tree.chk
      (cl
        (LeL [AV.v (Value.int IntKind.i64 (↑n : Int)), AV.hs (0 : Nat) (0 : Nat) t.size]
            [AV.v (Value.int IntKind.i64 (↑n : Int)), AV.hs (0 : Nat) (0 : Nat) t.size] ∧
          LeH [some (Blk.arr (1 : Nat) t.size fun j => [AV.v (Value.int IntKind.u8 (sbyte t j))])]
            [some (Blk.arr (1 : Nat) t.size fun j => [AV.v (Value.int IntKind.u8 (sbyte t j))])]))
      (Tree.chk (roomOk (1 : Nat) ((t ++ hiB n).size + (1 : Nat)))
        (Tree.leaf
          (Ans.mk
            (AV.tup [AV.hs (0 : Nat) (0 : Nat) ((t ++ hiB n).size + (1 : Nat)), AV.v (Value.int IntKind.i64 (0 : Int))])
            [some
                (Blk.arr (1 : Nat) ((t ++ hiB n).size + (1 : Nat)) fun j =>
                  [AV.v
                      (Value.int IntKind.u8
                        (bif decide (j < (t ++ hiB n).size) then sbyte (t ++ hiB n) ((0 : Nat) + j)
                        else
                          bif ((0 : Nat) + (j - (t ++ hiB n).size)).beq (0 : Nat) then IntKind.u8.wrap (↑(loN n) : Int)
                          else (0 : Int)))])]))))) := by kernel_rfl
theorem runNh (t : ByteArray) (n : Nat) (h : (BA.hs t).ok) : bodyE (P := Try.prog) (Γ := Γw) [CT.at 19 (ansClone (.hs t) h)] (LN (.hs t) n t) false 30 [.tmp 4, .tmp 5] (bodyOf Try.f7) [.hs 0 0 t.size, .v (.int .i64 (n : Int))] [.arr 1 t.size (bsF t)] =
  Tree.br (bif decide ((↑n : Int) < (0 : Int)) then true else decide ((4611686018427387904 : Int) < (↑n : Int)))
  (Tree.leaf
    (Ans.mk (AV.tup [AV.v (Value.slice none (0 : Nat) (0 : Nat)), AV.v (Value.int IntKind.i64 (10 : Int))])
      [some (Blk.arr (1 : Nat) t.size fun j => [AV.v (Value.int IntKind.u8 (sbyte t j))])]))
  (Tree.chk
    (cl
      (LeL [AV.hs (0 : Nat) (0 : Nat) t.size] [AV.hs (0 : Nat) (0 : Nat) t.size] ∧
        LeH [some (Blk.arr (1 : Nat) t.size fun j => [AV.v (Value.int IntKind.u8 (sbyte t j))])]
          [some (Blk.arr (1 : Nat) t.size fun j => [AV.v (Value.int IntKind.u8 (sbyte t j))])]))
    (Tree.chk
      (cl
        (LeL [AV.v (Value.int IntKind.i64 (↑n : Int)), AV.hs (1 : Nat) (0 : Nat) t.size]
            [AV.v (Value.int IntKind.i64 (↑n : Int)), AV.hs (1 : Nat) (0 : Nat) t.size] ∧
          LeH
            [some (Blk.arr (1 : Nat) t.size fun j => [AV.v (Value.int IntKind.u8 (sbyte t j))]),
              some (Blk.arr (1 : Nat) t.size fun j => [AV.v (Value.int IntKind.u8 (sbyte t j))])]
            [some (Blk.arr (1 : Nat) t.size fun j => [AV.v (Value.int IntKind.u8 (sbyte t j))]),
              some (Blk.arr (1 : Nat) t.size fun j => [AV.v (Value.int IntKind.u8 (sbyte t j))])]))
      (Tree.chk (roomOk (1 : Nat) ((t ++ hiB n).size + (1 : Nat)))
        (Tree.leaf
          (Ans.mk
            (AV.tup [AV.hs (1 : Nat) (0 : Nat) ((t ++ hiB n).size + (1 : Nat)), AV.v (Value.int IntKind.i64 (0 : Int))])
            [some (Blk.arr (1 : Nat) t.size fun j => [AV.v (Value.int IntKind.u8 (sbyte t j))]),
              some
                (Blk.arr (1 : Nat) ((t ++ hiB n).size + (1 : Nat)) fun j =>
                  [AV.v
                      (Value.int IntKind.u8
                        (bif decide (j < (t ++ hiB n).size) then sbyte (t ++ hiB n) ((0 : Nat) + j)
                        else
                          bif ((0 : Nat) + (j - (t ++ hiB n).size)).beq (0 : Nat) then IntKind.u8.wrap (↑(loN n) : Int)
                          else (0 : Int)))])]))))) := by kernel_rfl
theorem runXn (n : Int) (h : BA.nil.ok) : bodyE (P := Try.prog) (Γ := Γw) [CT.at 19 (ansClone .nil h)] Lno false 30 [.tmp 4, .tmp 5] (bodyOf Try.f7) [.v (.slice none 0 0), .v (.int .i64 n)] [] =
  Tree.br (bif decide (n < (0 : Int)) then true else decide ((4611686018427387904 : Int) < n))
  (Tree.leaf
    (Ans.mk (AV.tup [AV.v (Value.slice none (0 : Nat) (0 : Nat)), AV.v (Value.int IntKind.i64 (10 : Int))]) []))
  (Tree.chk
    (cl (LeL [AV.v (Value.slice none (0 : Nat) (0 : Nat))] [AV.v (Value.slice none (0 : Nat) (0 : Nat))] ∧ LeH [] []))
    Tree.fail) := by kernel_rfl
theorem runXs (t : ByteArray) (n : Int) (h : (BA.sl t).ok) : bodyE (P := Try.prog) (Γ := Γw) [CT.at 19 (ansClone (.sl t) h)] Lno false 30 [.tmp 4, .tmp 5] (bodyOf Try.f7) [.sl 1 t.size (bsF t), .v (.int .i64 n)] [] =
  Tree.br (bif decide (n < (0 : Int)) then true else decide ((4611686018427387904 : Int) < n))
  (Tree.leaf
    (Ans.mk (AV.tup [AV.v (Value.slice none (0 : Nat) (0 : Nat)), AV.v (Value.int IntKind.i64 (10 : Int))]) []))
  (Tree.chk
    (cl
      (LeL [AV.sl (1 : Nat) t.size fun j => [AV.v (Value.int IntKind.u8 (sbyte t j))]]
          [AV.sl (1 : Nat) t.size fun j => [AV.v (Value.int IntKind.u8 (sbyte t j))]] ∧
        LeH [] []))
    Tree.fail) := by kernel_rfl
theorem runXh (t : ByteArray) (n : Int) (h : (BA.hs t).ok) : bodyE (P := Try.prog) (Γ := Γw) [CT.at 19 (ansClone (.hs t) h)] Lno false 30 [.tmp 4, .tmp 5] (bodyOf Try.f7) [.hs 0 0 t.size, .v (.int .i64 n)] [.arr 1 t.size (bsF t)] =
  Tree.br (bif decide (n < (0 : Int)) then true else decide ((4611686018427387904 : Int) < n))
  (Tree.leaf
    (Ans.mk (AV.tup [AV.v (Value.slice none (0 : Nat) (0 : Nat)), AV.v (Value.int IntKind.i64 (10 : Int))])
      [some (Blk.arr (1 : Nat) t.size fun j => [AV.v (Value.int IntKind.u8 (sbyte t j))])]))
  (Tree.chk
    (cl
      (LeL [AV.hs (0 : Nat) (0 : Nat) t.size] [AV.hs (0 : Nat) (0 : Nat) t.size] ∧
        LeH [some (Blk.arr (1 : Nat) t.size fun j => [AV.v (Value.int IntKind.u8 (sbyte t j))])]
          [some (Blk.arr (1 : Nat) t.size fun j => [AV.v (Value.int IntKind.u8 (sbyte t j))])]))
    Tree.fail) := by kernel_rfl
theorem BA.ok_small : ∀ {a : BA}, a.ok → small a.t
  | .nil, _ => by unfold small BA.t; decide
  | .sl _, h => h
  | .hs _, h => h.1
theorem numTail (t : ByteArray) (n : Nat) : (t ++ hiB n).size + 1 = (t ++ numB n).size ∧ ∀ j, j < (t ++ hiB n).size + 1 →
    (bif decide (j < (t ++ hiB n).size) then sbyte (t ++ hiB n) ((0 : Nat) + j) else bif ((0 : Nat) + (j - (t ++ hiB n).size)).beq (0 : Nat) then IntKind.u8.wrap (loN n : Int) else (0 : Int)) = sbyte (t ++ numB n) j := by
  have hl := loN_small n
  refine ⟨by simp [numB]; omega, fun j hj => ?_⟩
  have e : IntKind.u8.wrap (loN n : Int) = ((loN n : Nat) : Int) := by rw [wrapU8]; omega
  rw [e, push_eq (by omega) (by omega) hj, Int.toNat_natCast, numB, ByteArray.append_assoc]
theorem pre_of {t : ByteArray} {n : Nat} (h : small t) (hn : n ≤ 4611686018427387904) : preN (n, t) := by
  have := numB_size hn
  unfold numB at this
  simp only [ByteArray.size_append, oneB_size] at this
  unfold small at h
  refine ⟨hn, ?_⟩
  show t.size + (hiB n).size ≤ _
  omega
theorem notBad {n : Nat} (hn : n ≤ 4611686018427387904) : (bif decide ((n : Int) < (0 : Int)) then true else decide ((4611686018427387904 : Int) < (n : Int))) = false := by
  rw [decide_eq_false (by omega), decide_eq_false (by omega)]; rfl
theorem isBad {n : Int} (hn : n < 0 ∨ 4611686018427387904 < n) : (bif decide (n < (0 : Int)) then true else decide ((4611686018427387904 : Int) < n)) = true := by
  by_cases h : n < 0
  · rw [decide_eq_true h]; rfl
  · rw [decide_eq_false h, decide_eq_true (by omega)]; rfl
theorem roomN {t : ByteArray} {n : Nat} (h : small t) (hn : n ≤ 4611686018427387904) : roomOk 1 ((t ++ hiB n).size + 1) = true := by
  have := (pre_of h hn).2
  simp only at this
  exact room' (by simp only [ByteArray.size_append]; omega)
theorem ansNum : ∀ (a : BA) (n : Nat), a.ok → n ≤ 4611686018427387904 → Answers Try.prog Γw 7 [a.av, .v (.int .i64 (n : Int))] a.bl (.tup [.hs a.n 0 (a.t ++ numB n).size, .v (.int .i64 0)]) (a.bl.map some) [.arr 1 (a.t ++ numB n).size (bsF (a.t ++ numB n))]
  | .nil, n, h, hn => answers (fn := Try.f7) (c := bodyOf Try.f7) (ntmps := 30) (results := [.tmp 4, .tmp 5]) [CT.at 19 (ansClone .nil h)] (LN .nil n ⟨#[]⟩) false Try.func7 (by kernel_rfl) (by kernel_rfl) (by kernel_rfl) (by kernel_rfl) (by simp) rfl
    (oneLoop (b := loopN) (by kernel_rfl) (loopN_ok .nil (n, ⟨#[]⟩) (pre_of (BA.ok_small h) hn)))
    (Meets.of (runNn n h) ⟨fun hc => by rw [notBad hn] at hc; simp at hc, fun _ => ⟨cl_iff.2 ⟨LeL.refl _, trivial⟩, cl_iff.2 ⟨LeL.refl _, .arr rfl (fun j hj => absurd hj (Nat.not_lt_zero _)) (fun _ => rfl), trivial⟩, roomN (BA.ok_small h) hn, by
      obtain ⟨e1, e2⟩ := numTail ⟨#[]⟩ n
      exact ⟨.of_eq (by rw [e1]; rfl), .arr e1 (fun j hj => by rw [e2 j hj]; rfl) (fun _ => rfl), trivial⟩⟩⟩)
  | .sl t, n, h, hn => answers (fn := Try.f7) (c := bodyOf Try.f7) (ntmps := 30) (results := [.tmp 4, .tmp 5]) [CT.at 19 (ansClone (.sl t) h)] (LN (.sl t) n t) false Try.func7 (by kernel_rfl) (by kernel_rfl) (by kernel_rfl) (by kernel_rfl) (by simp) rfl
    (oneLoop (b := loopN) (by kernel_rfl) (loopN_ok (.sl t) (n, t) (pre_of (BA.ok_small h) hn)))
    (Meets.of (runNs t n h) ⟨fun hc => by rw [notBad hn] at hc; simp at hc, fun _ => ⟨cl_iff.2 ⟨LeL.refl _, LeH.refl _⟩, cl_iff.2 ⟨LeL.refl _, LeH.refl _⟩, roomN (BA.ok_small h) hn, by
      obtain ⟨e1, e2⟩ := numTail t n
      exact ⟨.of_eq (by rw [e1]; rfl), .arr e1 (fun j hj => by rw [e2 j hj]; rfl) (fun _ => rfl), trivial⟩⟩⟩)
  | .hs t, n, h, hn => answers (fn := Try.f7) (c := bodyOf Try.f7) (ntmps := 30) (results := [.tmp 4, .tmp 5]) [CT.at 19 (ansClone (.hs t) h)] (LN (.hs t) n t) false Try.func7 (by kernel_rfl) (by kernel_rfl) (by kernel_rfl) (by kernel_rfl) (by simp) rfl
    (oneLoop (b := loopN) (by kernel_rfl) (loopN_ok (.hs t) (n, t) (pre_of (BA.ok_small h) hn)))
    (Meets.of (runNh t n h) ⟨fun hc => by rw [notBad hn] at hc; simp at hc, fun _ => ⟨cl_iff.2 ⟨LeL.refl _, LeH.refl _⟩, cl_iff.2 ⟨LeL.refl _, LeH.refl _⟩, roomN (BA.ok_small h) hn, by
      obtain ⟨e1, e2⟩ := numTail t n
      exact ⟨.of_eq (by rw [e1]; rfl), .refl _, .arr e1 (fun j hj => by rw [e2 j hj]; rfl) (fun _ => rfl), trivial⟩⟩⟩)
theorem ansBad : ∀ (a : BA) (n : Int), a.ok → n < 0 ∨ 4611686018427387904 < n → Answers Try.prog Γw 7 [a.av, .v (.int .i64 n)] a.bl (.tup [.v (.slice none 0 0), .v (.int .i64 10)]) (a.bl.map some) []
  | .nil, n, h, hn => answers (fn := Try.f7) (c := bodyOf Try.f7) (ntmps := 30) (results := [.tmp 4, .tmp 5]) [CT.at 19 (ansClone .nil h)] Lno false Try.func7 (by kernel_rfl) (by kernel_rfl) (by kernel_rfl) (by kernel_rfl) (by simp) rfl
    (fun _ _ _ => fail_ok) (Meets.of (runXn n h) ⟨fun _ => ⟨.refl _, trivial⟩, fun hc => by rw [isBad hn] at hc; simp at hc⟩)
  | .sl t, n, h, hn => answers (fn := Try.f7) (c := bodyOf Try.f7) (ntmps := 30) (results := [.tmp 4, .tmp 5]) [CT.at 19 (ansClone (.sl t) h)] Lno false Try.func7 (by kernel_rfl) (by kernel_rfl) (by kernel_rfl) (by kernel_rfl) (by simp) rfl
    (fun _ _ _ => fail_ok) (Meets.of (runXs t n h) ⟨fun _ => ⟨.refl _, trivial⟩, fun hc => by rw [isBad hn] at hc; simp at hc⟩)
  | .hs t, n, h, hn => answers (fn := Try.f7) (c := bodyOf Try.f7) (ntmps := 30) (results := [.tmp 4, .tmp 5]) [CT.at 19 (ansClone (.hs t) h)] Lno false Try.func7 (by kernel_rfl) (by kernel_rfl) (by kernel_rfl) (by kernel_rfl) (by simp) rfl
    (fun _ _ _ => fail_ok) (Meets.of (runXh t n h) ⟨fun _ => ⟨.refl _, .refl _, trivial⟩, fun hc => by rw [isBad hn] at hc; simp at hc⟩)
end Go.Eng.W

/- wire: the bytes of a number: what the document answers. -/
namespace Go.Eng.W
open Go Go.Eng Go.Proofs
set_option linter.unusedSimpArgs false
set_option linter.unusedVariables false
noncomputable def loopR : Code := loopOf (bodyOf Try.f8) 0
theorem roundR (n : Nat) (t : ByteArray) : roundE (P := Try.prog) (Γ := Γw) [] Lno false 0 0 loopR [0, 4] [] 29 [.v (.int .i64 (n : Int)), .v (.string t)] [] =
  Tree.br (decide ((127 : Int) < (↑n : Int)))
  (Tree.chk true
    (Tree.chk
      (allBytes (1 : Nat) fun j =>
        [AV.v
            (Value.int IntKind.u8
              (bif ((0 : Nat) + j).beq (0 : Nat) then
                IntKind.u8.wrap (IntKind.i64.wrap ((↑n : Int).tmod (128 : Int) + (128 : Int)))
              else (0 : Int)))])
      (Tree.chk (decide (t.size + (1 : Nat) ≤ (9223372036854775807 : Nat)))
        (Tree.chk true
          (Tree.leaf
            (Out.mk AEx.normal
              [AV.v (Value.int IntKind.i64 (IntKind.i64.wrap ((↑n : Int).tdiv (128 : Int)))),
                AV.v
                  (Value.string
                    (t ++
                      textOf (1 : Nat) fun j =>
                        [AV.v
                            (Value.int IntKind.u8
                              (bif ((0 : Nat) + j).beq (0 : Nat) then
                                IntKind.u8.wrap (IntKind.i64.wrap ((↑n : Int).tmod (128 : Int) + (128 : Int)))
                              else (0 : Int)))]))]
              []))))))
  (Tree.leaf (Out.mk (AEx.exit (0 : Nat)) [AV.v (Value.int IntKind.i64 (↑n : Int)), AV.v (Value.string t)] [])) := by kernel_rfl
def SR (n : Nat) (t : ByteArray) : List AV × Heap := ([.v (.int .i64 (n : Int)), .v (.string t)], [])
def OR (n : Nat) (t : ByteArray) : Out := ⟨.exit 0, [.v (.int .i64 (loN n : Int)), .v (.string (t ++ hiB n))], []⟩
theorem digitR (n : Nat) : IntKind.u8.wrap (IntKind.i64.wrap ((n : Int).tmod (128 : Int) + (128 : Int))) = ((n % 128 + 128 : Nat) : Int) := by
  rw [show (128 : Int) = ((128 : Nat) : Int) from rfl, tmod_nat, wrap64E, wrapU8]
  omega
theorem loopR_ok : ∀ x : Nat × ByteArray, preN x → LoopOK Try.prog Γw 0 29 loopR (LSpec.at [0, 4] [] (SR x.1 x.2) (OR x.1 x.2)) := by
  refine loop_at (S := fun x : Nat × ByteArray => SR x.1 x.2) (O := fun x => OR x.1 x.2) (k := 0) (fun x => x.1) fun x hp => ⟨[], Lno, false, noLoops (by kernel_rfl), ?_⟩
  obtain ⟨n, t⟩ := x
  show (roundE (P := Try.prog) (Γ := Γw) [] Lno false 0 0 loopR [0, 4] [] 29 [.v (.int .i64 (n : Int)), .v (.string t)] []).sat _
  rw [roundR]
  have hp1 : n ≤ 4611686018427387904 := hp.1
  have hp2 : t.size + (hiB n).size ≤ 1000000100 := hp.2
  refine ⟨fun hc => ?_, fun hc => ?_⟩
  · have h : (127 : Int) < (n : Int) := of_decide_eq_true hc
    have hge : ¬ n < 128 := by omega
    have e1 := hiB_ge hge
    rw [e1] at hp2
    simp only [ByteArray.size_append, oneB_size] at hp2
    have e2 : IntKind.i64.wrap ((n : Int).tdiv (128 : Int)) = ((n / 128 : Nat) : Int) := by
      rw [show (128 : Int) = ((128 : Nat) : Int) from rfl, tdiv_nat, wrap64E]
      omega
    refine ⟨rfl, rfl, decide_eq_true (by omega), rfl, (n / 128, t ++ oneB (n % 128 + 128)), ?_, trivial, ⟨?_, ?_⟩, ?_, ?_⟩
    · simp only [textOf_one, digitR, Int.toNat_natCast, e2]
      exact ⟨.refl _, .refl _, trivial⟩
    · show n / 128 ≤ _; omega
    · show (t ++ oneB (n % 128 + 128)).size + (hiB (n / 128)).size ≤ _
      simp only [ByteArray.size_append, oneB_size]; omega
    · simp only [OR]; rw [show loN (n / 128) = loN n from (loN_ge hge).symm, e1, ByteArray.append_assoc]
    · show n / 128 < n; omega
  · have h : ¬ (127 : Int) < (n : Int) := of_decide_eq_false hc
    refine ⟨rfl, ?_, trivial⟩
    simp only [OR, hiB_lt (show n < 128 by omega), loN_lt (show n < 128 by omega), append_empty]
    exact LeL.refl _
/-- may a number be written? -/
def okN (n : Int) : Bool := decide (0 ≤ n) && decide (n ≤ 4611686018427387904)
def capN (n : Int) : Nat := min n.toNat 4611686018427387904
theorem capN_nat {k : Nat} (h : k ≤ 4611686018427387904) : capN (k : Int) = k := by
  unfold capN
  rw [Int.toNat_natCast]
  exact Nat.min_eq_left h
noncomputable def LR : List KC → Nat → LSpec
  | [.i n] => fun _ => LSpec.at [0, 4] [] (SR (capN n) ⟨#[]⟩) (OR (capN n) ⟨#[]⟩)
  | _ => Lno
noncomputable def gR : List KC → AV
  | [.i n] => .tup [.v (.string (bif okN n then numB n.toNat else ⟨#[]⟩)), .sb (okN n)]
  | _ => .any
theorem runR (n : Int) : bodyE (P := Try.prog) (Γ := Γw) [] (LR [.i n]) false 29 [.tmp 2, .tmp 3] (bodyOf Try.f8) [.v (.int .i64 n)] [] =
  Tree.br (bif decide (n < (0 : Int)) then true else decide ((4611686018427387904 : Int) < n))
  (Tree.leaf (Ans.mk (AV.tup [AV.v (Value.string (ByteArray.mk #[])), AV.v (Value.bool false)]) []))
  (Tree.chk
    (cl
      (LeL [AV.v (Value.int IntKind.i64 n), AV.v (Value.string (ByteArray.mk #[]))]
          [AV.v (Value.int IntKind.i64 (↑(capN n) : Int)), AV.v (Value.string (ByteArray.mk #[]))] ∧
        LeH [] []))
    (Tree.chk
      (allBytes (1 : Nat) fun j =>
        [AV.v
            (Value.int IntKind.u8
              (bif ((0 : Nat) + j).beq (0 : Nat) then IntKind.u8.wrap (↑(loN (capN n)) : Int) else (0 : Int)))])
      (Tree.chk (decide ((ByteArray.mk #[] ++ hiB (capN n)).size + (1 : Nat) ≤ (9223372036854775807 : Nat)))
        (Tree.leaf
          (Ans.mk
            (AV.tup
              [AV.v
                  (Value.string
                    (ByteArray.mk #[] ++ hiB (capN n) ++
                      textOf (1 : Nat) fun j =>
                        [AV.v
                            (Value.int IntKind.u8
                              (bif ((0 : Nat) + j).beq (0 : Nat) then IntKind.u8.wrap (↑(loN (capN n)) : Int)
                              else (0 : Int)))])),
                AV.v (Value.bool true)])
            []))))) := by kernel_rfl
theorem badN (n : Int) : (bif decide (n < (0 : Int)) then true else decide ((4611686018427387904 : Int) < n)) = !okN n := by
  unfold okN
  by_cases h : n < 0
  · rw [decide_eq_true h, decide_eq_false (show ¬ 0 ≤ n by omega)]; rfl
  · rw [decide_eq_false h, decide_eq_true (show 0 ≤ n by omega)]
    by_cases h2 : 4611686018427387904 < n
    · rw [decide_eq_true h2, decide_eq_false (show ¬ n ≤ 4611686018427387904 by omega)]; rfl
    · rw [decide_eq_false h2, decide_eq_true (show n ≤ 4611686018427387904 by omega)]; rfl
theorem okN_nat {n : Int} (h : okN n = true) : ∃ k : Nat, n = k ∧ k ≤ 4611686018427387904 := by
  unfold okN at h
  simp only [Bool.and_eq_true, decide_eq_true_eq] at h
  exact ⟨n.toNat, by omega, by omega⟩
theorem small_nil : small ⟨#[]⟩ := by unfold small; decide
theorem givesR (n : Int) : Gives (bodyE (P := Try.prog) (Γ := Γw) [] (LR [.i n]) false 29 [.tmp 2, .tmp 3] (bodyOf Try.f8) [.v (.int .i64 n)] []) (.tup [.v (.string (bif okN n then numB n.toNat else ⟨#[]⟩)), .sb (okN n)]) := by
  refine Gives.of (runR n) ?_
  rw [badN]
  cases hok : okN n with
  | false => exact ⟨fun _ => ⟨le_tup ⟨.refl _, .bs _, trivial⟩, trivial⟩, fun hc => by simp at hc⟩
  | true =>
    obtain ⟨k, rfl, hk⟩ := okN_nat hok
    have hl := loN_small k
    have hp : ((⟨#[]⟩ : ByteArray).size) + (hiB k).size ≤ 1000000100 := (pre_of small_nil hk).2
    have e : IntKind.u8.wrap (loN k : Int) = ((loN k : Nat) : Int) := by rw [wrapU8]; omega
    refine ⟨fun hc => by simp at hc, fun _ => ⟨cl_iff.2 ⟨by rw [capN_nat hk]; exact LeL.refl _, trivial⟩, rfl, decide_eq_true (by rw [capN_nat hk]; simp only [ByteArray.size_append] at *; omega), ?_, trivial⟩⟩
    simp only [capN_nat hk, Int.toNat_natCast, textOf_one, e, empty_append]
    exact le_tup ⟨.refl _, .bs _, trivial⟩
theorem fit1c {c : Cel} {l : List KC} (h : kFit [c] l = true) : ∃ x, l = [x] ∧ kcFit c x = true := by
  match l, h with
  | [x], h => simp only [kFit, Bool.and_true] at h; exact ⟨x, rfl, h⟩
  | [], h => simp [kFit] at h
  | _ :: _ :: _, h => simp [kFit] at h
noncomputable def Z.c8 : CT Try.prog Γw := CT.funL 8 Try.f8 (bodyOf Try.f8) [] LR false 29 [.tmp 2, .tmp 3] [.c (.int .i64)] (fun l => match l with | [.i n] => true | _ => false) gR Try.func8 (by kernel_rfl) (by kernel_rfl) (by kernel_rfl) (by kernel_rfl) (by decide)
  (fun l h _ => by
    obtain ⟨x, rfl, hx⟩ := fit1c h
    cases x <;> simp [kcFit] at hx
    rename_i n _
    exact oneLoop (b := loopR) (by kernel_rfl) (loopR_ok (capN n, ⟨#[]⟩) (pre_of small_nil (Nat.min_le_right _ _))))
  (fun l h _ => by
    obtain ⟨x, rfl, hx⟩ := fit1c h
    cases x <;> simp [kcFit] at hx
    exact givesR _)
end Go.Eng.W

/- wire: a text's bytes, the bytes of many numbers. -/
namespace Go.Eng.W
open Go Go.Eng Go.Proofs
set_option linter.unusedSimpArgs false
set_option linter.unusedVariables false
/-- numbers as an argument -/
inductive NA where
  | nil
  | sl (m : Nat) (g : Nat → Int)
  | hs (m : Nat) (g : Nat → Int)
def NA.m : NA → Nat
  | .nil => 0
  | .sl m _ => m
  | .hs m _ => m
def NA.g : NA → Nat → Int
  | .nil => fun _ => 0
  | .sl _ g => g
  | .hs _ g => g
def i64F (g : Nat → Int) : Nat → List AV := fun j => [.v (.int .i64 (g j))]
def NA.av : NA → AV
  | .nil => .v (.slice none 0 0)
  | .sl m g => .sl 1 m (i64F g)
  | .hs m _ => .hs 0 0 m
def NA.bl : NA → List Blk
  | .hs m g => [.arr 1 m (i64F g)]
  | _ => []
def NA.k : NA → Nat
  | .hs _ _ => 1
  | _ => 0
/-- the bytes of the first numbers -/
def catN (g : Nat → Int) : Nat → ByteArray
  | 0 => ⟨#[]⟩
  | i + 1 => catN g i ++ numB (g i).toNat
def outV (k : Nat) (g : Nat → Int) : Nat → AV
  | 0 => .v (.slice none 0 0)
  | i + 1 => .hs k 0 (catN g (i + 1)).size
def outB (g : Nat → Int) : Nat → Heap
  | 0 => []
  | i + 1 => [some (.arr 1 (catN g (i + 1)).size (bsF (catN g (i + 1))))]
noncomputable def loopM : Code := loopOf (bodyOf Try.f11) 0
def SM (a : NA) (i : Nat) : List AV × Heap := ([.any, .any, outV a.k a.g i, a.av, .v (.int .i64 (a.m : Int)), .v (.int .i64 (i : Int))], a.bl.map some ++ outB a.g i)
def OMg (a : NA) : Out := ⟨.exit 0, [.any, .any, outV a.k a.g a.m, .any, .any, .any], a.bl.map some ++ outB a.g a.m⟩
def OMb (a : NA) : Out := ⟨.ret, [.v (.slice none 0 0), .v (.int .i64 10), .any, .any, .any, .any], a.bl.map some⟩
theorem catN_small {g : Nat → Int} : ∀ {i : Nat}, (∀ j, j < i → okN (g j) = true) → (catN g i).size ≤ 9 * i ∧ (0 < i → 0 < (catN g i).size)
  | 0, _ => ⟨Nat.zero_le _, fun h => by omega⟩
  | i + 1, h => by
    obtain ⟨h1, _⟩ := catN_small (g := g) (i := i) fun j hj => h j (by omega)
    obtain ⟨k, hk, hk2⟩ := okN_nat (h i (by omega))
    have := numB_size hk2
    simp only [catN, ByteArray.size_append, hk, Int.toNat_natCast]
    omega
theorem small_cat {g : Nat → Int} {i : Nat} (h : ∀ j, j < i → okN (g j) = true) (hi : i ≤ 100000) : small (catN g i) := by
  have := (catN_small h).1
  unfold small; omega
theorem roundMn  : roundE (P := Try.prog) (Γ := Γw) [] Lno false 0 0 loopM [2, 3, 4, 8, 9, 10] [] 25 [.any, .any, .v (.slice none 0 0), .v (.slice none 0 0), .v (.int .i64 (0 : Nat)), .v (.int .i64 (0 : Nat))] [] =
  Tree.br false Tree.fail
  (Tree.leaf
    (Out.mk (AEx.exit (0 : Nat))
      [AV.any, AV.any, AV.v (Value.slice none (0 : Nat) (0 : Nat)), AV.v (Value.slice none (0 : Nat) (0 : Nat)),
        AV.v (Value.int IntKind.i64 (↑(0 : Nat) : Int)), AV.v (Value.int IntKind.i64 (↑(0 : Nat) : Int))]
      [])) := by kernel_rfl
theorem roundMs0 (m : Nat) (g : Nat → Int) (n : Nat) (h : n ≤ 4611686018427387904) : roundE (P := Try.prog) (Γ := Γw) [CT.at 7 (ansNum .nil n trivial h)] Lno false 0 0 loopM [2, 3, 4, 8, 9, 10] [] 25 [.any, .any, .v (.slice none 0 0), .sl 1 m (i64F g), .v (.int .i64 (m : Int)), .v (.int .i64 (0 : Nat))] [] =
  Tree.br (decide ((↑(0 : Nat) : Int) < (↑m : Int)))
  (Tree.chk (true && decide ((↑(0 : Nat) : Int) < (↑m : Int)))
    (Tree.chk
      (cl
        (LeL [AV.v (Value.slice none (0 : Nat) (0 : Nat)), AV.v (Value.int IntKind.i64 (g (↑(0 : Nat) : Int).toNat))]
            [AV.v (Value.slice none (0 : Nat) (0 : Nat)), AV.v (Value.int IntKind.i64 (↑n : Int))] ∧
          LeH [] []))
      (Tree.br false
        (Tree.leaf
          (Out.mk AEx.ret
            [AV.v (Value.slice none (0 : Nat) (0 : Nat)), AV.v (Value.int IntKind.i64 (0 : Int)),
              AV.hs (0 : Nat) (0 : Nat) (BA.nil.t ++ numB n).size,
              AV.sl (1 : Nat) m fun j => [AV.v (Value.int IntKind.i64 (g j))], AV.v (Value.int IntKind.i64 (↑m : Int)),
              AV.v (Value.int IntKind.i64 (↑(0 : Nat) : Int))]
            [some
                (Blk.arr (1 : Nat) (BA.nil.t ++ numB n).size fun j =>
                  [AV.v (Value.int IntKind.u8 (sbyte (BA.nil.t ++ numB n) j))])]))
        (Tree.leaf
          (Out.mk AEx.normal
            [AV.any, AV.any, AV.hs (0 : Nat) (0 : Nat) (BA.nil.t ++ numB n).size,
              AV.sl (1 : Nat) m fun j => [AV.v (Value.int IntKind.i64 (g j))], AV.v (Value.int IntKind.i64 (↑m : Int)),
              AV.v (Value.int IntKind.i64 (IntKind.i64.wrap ((↑(0 : Nat) : Int) + (1 : Int))))]
            [some
                (Blk.arr (1 : Nat) (BA.nil.t ++ numB n).size fun j =>
                  [AV.v (Value.int IntKind.u8 (sbyte (BA.nil.t ++ numB n) j))])])))))
  (Tree.leaf
    (Out.mk (AEx.exit (0 : Nat))
      [AV.any, AV.any, AV.v (Value.slice none (0 : Nat) (0 : Nat)),
        AV.sl (1 : Nat) m fun j => [AV.v (Value.int IntKind.i64 (g j))], AV.v (Value.int IntKind.i64 (↑m : Int)),
        AV.v (Value.int IntKind.i64 (↑(0 : Nat) : Int))]
      [])) := by kernel_rfl
theorem roundMs1 (m : Nat) (g : Nat → Int) (n i : Nat) (t : ByteArray) (ht : (BA.hs t).ok) (h : n ≤ 4611686018427387904) : roundE (P := Try.prog) (Γ := Γw) [CT.at 7 (ansNum (.hs t) n ht h)] Lno false 0 0 loopM [2, 3, 4, 8, 9, 10] [] 25 [.any, .any, .hs 0 0 t.size, .sl 1 m (i64F g), .v (.int .i64 (m : Int)), .v (.int .i64 (i : Int))] [some (.arr 1 t.size (bsF t))] =
  Tree.br (decide ((↑i : Int) < (↑m : Int)))
  (Tree.chk (decide ((0 : Int) ≤ (↑i : Int)) && decide ((↑i : Int) < (↑m : Int)))
    (Tree.chk
      (cl
        (LeL [AV.hs (0 : Nat) (0 : Nat) t.size, AV.v (Value.int IntKind.i64 (g (↑i : Int).toNat))]
            [AV.hs (0 : Nat) (0 : Nat) t.size, AV.v (Value.int IntKind.i64 (↑n : Int))] ∧
          LeH [some (Blk.arr (1 : Nat) t.size fun j => [AV.v (Value.int IntKind.u8 (sbyte t j))])]
            [some (Blk.arr (1 : Nat) t.size fun j => [AV.v (Value.int IntKind.u8 (sbyte t j))])]))
      (Tree.br false
        (Tree.leaf
          (Out.mk AEx.ret
            [AV.v (Value.slice none (0 : Nat) (0 : Nat)), AV.v (Value.int IntKind.i64 (0 : Int)),
              AV.hs (0 : Nat) (0 : Nat) ((BA.hs t).t ++ numB n).size,
              AV.sl (1 : Nat) m fun j => [AV.v (Value.int IntKind.i64 (g j))], AV.v (Value.int IntKind.i64 (↑m : Int)),
              AV.v (Value.int IntKind.i64 (↑i : Int))]
            [some
                (Blk.arr (1 : Nat) ((BA.hs t).t ++ numB n).size fun j =>
                  [AV.v (Value.int IntKind.u8 (sbyte ((BA.hs t).t ++ numB n) j))])]))
        (Tree.leaf
          (Out.mk AEx.normal
            [AV.any, AV.any, AV.hs (0 : Nat) (0 : Nat) ((BA.hs t).t ++ numB n).size,
              AV.sl (1 : Nat) m fun j => [AV.v (Value.int IntKind.i64 (g j))], AV.v (Value.int IntKind.i64 (↑m : Int)),
              AV.v (Value.int IntKind.i64 (IntKind.i64.wrap ((↑i : Int) + (1 : Int))))]
            [some
                (Blk.arr (1 : Nat) ((BA.hs t).t ++ numB n).size fun j =>
                  [AV.v (Value.int IntKind.u8 (sbyte ((BA.hs t).t ++ numB n) j))])])))))
  (Tree.leaf
    (Out.mk (AEx.exit (0 : Nat))
      [AV.any, AV.any, AV.hs (0 : Nat) (0 : Nat) t.size,
        AV.sl (1 : Nat) m fun j => [AV.v (Value.int IntKind.i64 (g j))], AV.v (Value.int IntKind.i64 (↑m : Int)),
        AV.v (Value.int IntKind.i64 (↑i : Int))]
      [some (Blk.arr (1 : Nat) t.size fun j => [AV.v (Value.int IntKind.u8 (sbyte t j))])])) := by kernel_rfl
theorem roundMh0 (m : Nat) (g : Nat → Int) (n : Nat) (h : n ≤ 4611686018427387904) : roundE (P := Try.prog) (Γ := Γw) [CT.at 7 (ansNum .nil n trivial h)] Lno false 1 0 loopM [2, 3, 4, 8, 9, 10] [] 25 [.any, .any, .v (.slice none 0 0), .hs 0 0 m, .v (.int .i64 (m : Int)), .v (.int .i64 (0 : Nat))] [some (.arr 1 m (i64F g))] =
  Tree.br (decide ((↑(0 : Nat) : Int) < (↑m : Int)))
  (Tree.chk (true && decide ((↑(0 : Nat) : Int) < (↑m : Int)))
    (Tree.chk
      (cl
        (LeL
            [AV.v (Value.slice none (0 : Nat) (0 : Nat)),
              AV.v (Value.int IntKind.i64 (g ((0 : Nat) + (↑(0 : Nat) : Int).toNat)))]
            [AV.v (Value.slice none (0 : Nat) (0 : Nat)), AV.v (Value.int IntKind.i64 (↑n : Int))] ∧
          LeH [] []))
      (Tree.br false
        (Tree.leaf
          (Out.mk AEx.ret
            [AV.v (Value.slice none (0 : Nat) (0 : Nat)), AV.v (Value.int IntKind.i64 (0 : Int)),
              AV.hs (1 : Nat) (0 : Nat) (BA.nil.t ++ numB n).size, AV.hs (0 : Nat) (0 : Nat) m,
              AV.v (Value.int IntKind.i64 (↑m : Int)), AV.v (Value.int IntKind.i64 (↑(0 : Nat) : Int))]
            [some (Blk.arr (1 : Nat) m fun j => [AV.v (Value.int IntKind.i64 (g j))]),
              some
                (Blk.arr (1 : Nat) (BA.nil.t ++ numB n).size fun j =>
                  [AV.v (Value.int IntKind.u8 (sbyte (BA.nil.t ++ numB n) j))])]))
        (Tree.leaf
          (Out.mk AEx.normal
            [AV.any, AV.any, AV.hs (1 : Nat) (0 : Nat) (BA.nil.t ++ numB n).size, AV.hs (0 : Nat) (0 : Nat) m,
              AV.v (Value.int IntKind.i64 (↑m : Int)),
              AV.v (Value.int IntKind.i64 (IntKind.i64.wrap ((↑(0 : Nat) : Int) + (1 : Int))))]
            [some (Blk.arr (1 : Nat) m fun j => [AV.v (Value.int IntKind.i64 (g j))]),
              some
                (Blk.arr (1 : Nat) (BA.nil.t ++ numB n).size fun j =>
                  [AV.v (Value.int IntKind.u8 (sbyte (BA.nil.t ++ numB n) j))])])))))
  (Tree.leaf
    (Out.mk (AEx.exit (0 : Nat))
      [AV.any, AV.any, AV.v (Value.slice none (0 : Nat) (0 : Nat)), AV.hs (0 : Nat) (0 : Nat) m,
        AV.v (Value.int IntKind.i64 (↑m : Int)), AV.v (Value.int IntKind.i64 (↑(0 : Nat) : Int))]
      [some (Blk.arr (1 : Nat) m fun j => [AV.v (Value.int IntKind.i64 (g j))])])) := by kernel_rfl
theorem roundMh1 (m : Nat) (g : Nat → Int) (n i : Nat) (t : ByteArray) (ht : (BA.hs t).ok) (h : n ≤ 4611686018427387904) : roundE (P := Try.prog) (Γ := Γw) [CT.at 7 (ansNum (.hs t) n ht h)] Lno false 1 0 loopM [2, 3, 4, 8, 9, 10] [] 25 [.any, .any, .hs 1 0 t.size, .hs 0 0 m, .v (.int .i64 (m : Int)), .v (.int .i64 (i : Int))] [some (.arr 1 m (i64F g)), some (.arr 1 t.size (bsF t))] =
  Tree.br (decide ((↑i : Int) < (↑m : Int)))
  (Tree.chk (decide ((0 : Int) ≤ (↑i : Int)) && decide ((↑i : Int) < (↑m : Int)))
    (Tree.chk
      (cl
        (LeL [AV.hs (0 : Nat) (0 : Nat) t.size, AV.v (Value.int IntKind.i64 (g ((0 : Nat) + (↑i : Int).toNat)))]
            [AV.hs (0 : Nat) (0 : Nat) t.size, AV.v (Value.int IntKind.i64 (↑n : Int))] ∧
          LeH [some (Blk.arr (1 : Nat) t.size fun j => [AV.v (Value.int IntKind.u8 (sbyte t j))])]
            [some (Blk.arr (1 : Nat) t.size fun j => [AV.v (Value.int IntKind.u8 (sbyte t j))])]))
      (Tree.br false
        (Tree.leaf
          (Out.mk AEx.ret
            [AV.v (Value.slice none (0 : Nat) (0 : Nat)), AV.v (Value.int IntKind.i64 (0 : Int)),
              AV.hs (1 : Nat) (0 : Nat) ((BA.hs t).t ++ numB n).size, AV.hs (0 : Nat) (0 : Nat) m,
              AV.v (Value.int IntKind.i64 (↑m : Int)), AV.v (Value.int IntKind.i64 (↑i : Int))]
            [some (Blk.arr (1 : Nat) m fun j => [AV.v (Value.int IntKind.i64 (g j))]),
              some
                (Blk.arr (1 : Nat) ((BA.hs t).t ++ numB n).size fun j =>
                  [AV.v (Value.int IntKind.u8 (sbyte ((BA.hs t).t ++ numB n) j))])]))
        (Tree.leaf
          (Out.mk AEx.normal
            [AV.any, AV.any, AV.hs (1 : Nat) (0 : Nat) ((BA.hs t).t ++ numB n).size, AV.hs (0 : Nat) (0 : Nat) m,
              AV.v (Value.int IntKind.i64 (↑m : Int)),
              AV.v (Value.int IntKind.i64 (IntKind.i64.wrap ((↑i : Int) + (1 : Int))))]
            [some (Blk.arr (1 : Nat) m fun j => [AV.v (Value.int IntKind.i64 (g j))]),
              some
                (Blk.arr (1 : Nat) ((BA.hs t).t ++ numB n).size fun j =>
                  [AV.v (Value.int IntKind.u8 (sbyte ((BA.hs t).t ++ numB n) j))])])))))
  (Tree.leaf
    (Out.mk (AEx.exit (0 : Nat))
      [AV.any, AV.any, AV.hs (1 : Nat) (0 : Nat) t.size, AV.hs (0 : Nat) (0 : Nat) m,
        AV.v (Value.int IntKind.i64 (↑m : Int)), AV.v (Value.int IntKind.i64 (↑i : Int))]
      [some (Blk.arr (1 : Nat) m fun j => [AV.v (Value.int IntKind.i64 (g j))]),
        some (Blk.arr (1 : Nat) t.size fun j => [AV.v (Value.int IntKind.u8 (sbyte t j))])])) := by kernel_rfl
theorem roundMb0 (m : Nat) (g : Nat → Int) (n : Int) (h : n < 0 ∨ 4611686018427387904 < n) : roundE (P := Try.prog) (Γ := Γw) [CT.at 7 (ansBad .nil n trivial h)] Lno false 0 0 loopM [2, 3, 4, 8, 9, 10] [] 25 [.any, .any, .v (.slice none 0 0), .sl 1 m (i64F g), .v (.int .i64 (m : Int)), .v (.int .i64 (0 : Nat))] [] =
  Tree.br (decide ((↑(0 : Nat) : Int) < (↑m : Int)))
  (Tree.chk (true && decide ((↑(0 : Nat) : Int) < (↑m : Int)))
    (Tree.chk
      (cl
        (LeL [AV.v (Value.slice none (0 : Nat) (0 : Nat)), AV.v (Value.int IntKind.i64 (g (↑(0 : Nat) : Int).toNat))]
            [AV.v (Value.slice none (0 : Nat) (0 : Nat)), AV.v (Value.int IntKind.i64 n)] ∧
          LeH [] []))
      (Tree.br true
        (Tree.leaf
          (Out.mk AEx.ret
            [AV.v (Value.slice none (0 : Nat) (0 : Nat)), AV.v (Value.int IntKind.i64 (10 : Int)),
              AV.v (Value.slice none (0 : Nat) (0 : Nat)),
              AV.sl (1 : Nat) m fun j => [AV.v (Value.int IntKind.i64 (g j))], AV.v (Value.int IntKind.i64 (↑m : Int)),
              AV.v (Value.int IntKind.i64 (↑(0 : Nat) : Int))]
            []))
        (Tree.leaf
          (Out.mk AEx.normal
            [AV.any, AV.any, AV.v (Value.slice none (0 : Nat) (0 : Nat)),
              AV.sl (1 : Nat) m fun j => [AV.v (Value.int IntKind.i64 (g j))], AV.v (Value.int IntKind.i64 (↑m : Int)),
              AV.v (Value.int IntKind.i64 (IntKind.i64.wrap ((↑(0 : Nat) : Int) + (1 : Int))))]
            [])))))
  (Tree.leaf
    (Out.mk (AEx.exit (0 : Nat))
      [AV.any, AV.any, AV.v (Value.slice none (0 : Nat) (0 : Nat)),
        AV.sl (1 : Nat) m fun j => [AV.v (Value.int IntKind.i64 (g j))], AV.v (Value.int IntKind.i64 (↑m : Int)),
        AV.v (Value.int IntKind.i64 (↑(0 : Nat) : Int))]
      [])) := by kernel_rfl
theorem roundMb1 (m : Nat) (g : Nat → Int) (n : Int) (i : Nat) (t : ByteArray) (ht : (BA.hs t).ok) (h : n < 0 ∨ 4611686018427387904 < n) : roundE (P := Try.prog) (Γ := Γw) [CT.at 7 (ansBad (.hs t) n ht h)] Lno false 0 0 loopM [2, 3, 4, 8, 9, 10] [] 25 [.any, .any, .hs 0 0 t.size, .sl 1 m (i64F g), .v (.int .i64 (m : Int)), .v (.int .i64 (i : Int))] [some (.arr 1 t.size (bsF t))] =
  Tree.br (decide ((↑i : Int) < (↑m : Int)))
  (Tree.chk (decide ((0 : Int) ≤ (↑i : Int)) && decide ((↑i : Int) < (↑m : Int)))
    (Tree.chk
      (cl
        (LeL [AV.hs (0 : Nat) (0 : Nat) t.size, AV.v (Value.int IntKind.i64 (g (↑i : Int).toNat))]
            [AV.hs (0 : Nat) (0 : Nat) t.size, AV.v (Value.int IntKind.i64 n)] ∧
          LeH [some (Blk.arr (1 : Nat) t.size fun j => [AV.v (Value.int IntKind.u8 (sbyte t j))])]
            [some (Blk.arr (1 : Nat) t.size fun j => [AV.v (Value.int IntKind.u8 (sbyte t j))])]))
      (Tree.br true
        (Tree.leaf
          (Out.mk AEx.ret
            [AV.v (Value.slice none (0 : Nat) (0 : Nat)), AV.v (Value.int IntKind.i64 (10 : Int)),
              AV.v (Value.slice none (0 : Nat) (0 : Nat)),
              AV.sl (1 : Nat) m fun j => [AV.v (Value.int IntKind.i64 (g j))], AV.v (Value.int IntKind.i64 (↑m : Int)),
              AV.v (Value.int IntKind.i64 (↑i : Int))]
            []))
        (Tree.leaf
          (Out.mk AEx.normal
            [AV.any, AV.any, AV.v (Value.slice none (0 : Nat) (0 : Nat)),
              AV.sl (1 : Nat) m fun j => [AV.v (Value.int IntKind.i64 (g j))], AV.v (Value.int IntKind.i64 (↑m : Int)),
              AV.v (Value.int IntKind.i64 (IntKind.i64.wrap ((↑i : Int) + (1 : Int))))]
            [])))))
  (Tree.leaf
    (Out.mk (AEx.exit (0 : Nat))
      [AV.any, AV.any, AV.hs (0 : Nat) (0 : Nat) t.size,
        AV.sl (1 : Nat) m fun j => [AV.v (Value.int IntKind.i64 (g j))], AV.v (Value.int IntKind.i64 (↑m : Int)),
        AV.v (Value.int IntKind.i64 (↑i : Int))]
      [some (Blk.arr (1 : Nat) t.size fun j => [AV.v (Value.int IntKind.u8 (sbyte t j))])])) := by kernel_rfl
theorem pick {g : Nat → Int} {m i : Nat} (hok : ∀ j, j < m → okN (g j) = true) : ∃ k : Nat, k ≤ 4611686018427387904 ∧ (i < m → g i = k) := by
  by_cases h : i < m
  · obtain ⟨k, h1, h2⟩ := okN_nat (hok i h)
    exact ⟨k, h2, fun _ => h1⟩
  · exact ⟨0, by decide, fun h' => absurd h' h⟩
theorem hs_ok {g : Nat → Int} {i : Nat} (h : ∀ j, j < i + 1 → okN (g j) = true) (hi : i + 1 ≤ 100000) : (BA.hs (catN g (i + 1))).ok := ⟨small_cat h hi, (catN_small h).2 (by omega)⟩
theorem loopMg_ok (a : NA) (hok : ∀ j, j < a.m → okN (a.g j) = true) (hm : a.m ≤ 100000) : ∀ i, i ≤ a.m → LoopOK Try.prog Γw a.bl.length 25 loopM (LSpec.at [2, 3, 4, 8, 9, 10] [] (SM a i) (OMg a)) := by
  refine loop_at (S := SM a) (pre := fun i => i ≤ a.m) (O := fun _ => OMg a) (k := 0) (fun i => a.m - i) fun i hi => ?_
  cases a with
  | nil =>
    obtain rfl : i = 0 := Nat.le_zero.1 hi
    refine ⟨[], Lno, false, noLoops (by kernel_rfl), ?_⟩
    show (roundE (P := Try.prog) (Γ := Γw) [] Lno false 0 0 loopM [2, 3, 4, 8, 9, 10] [] 25 [.any, .any, .v (.slice none 0 0), .v (.slice none 0 0), .v (.int .i64 (0 : Nat)), .v (.int .i64 (0 : Nat))] []).sat _
    rw [roundMn]
    exact ⟨fun h => by simp at h, fun _ => ⟨rfl, ⟨.any _, .any _, .refl _, .any _, .any _, .any _, trivial⟩, trivial⟩⟩
  | sl m g =>
    have hok : ∀ j, j < m → okN (g j) = true := hok
    have hm : m ≤ 100000 := hm
    obtain ⟨n, hn, hg⟩ := pick (i := i) hok
    cases i with
    | zero =>
      refine ⟨[CT.at 7 (ansNum .nil n trivial hn)], Lno, false, noLoops (by kernel_rfl), ?_⟩
      show (roundE (P := Try.prog) (Γ := Γw) [CT.at 7 (ansNum .nil n trivial hn)] Lno false 0 0 loopM [2, 3, 4, 8, 9, 10] [] 25 [.any, .any, .v (.slice none 0 0), .sl 1 m (i64F g), .v (.int .i64 (m : Int)), .v (.int .i64 (0 : Nat))] []).sat _
      rw [roundMs0 m g n hn]
      refine ⟨fun hc => ?_, fun hc => ?_⟩
      · have hlt : 0 < m := by have := of_decide_eq_true hc; omega
        have h := hg hlt
        have e : BA.nil.t ++ numB n = catN g (0 + 1) := by
          show catN g (0) ++ numB n = catN g (0) ++ numB (g (0)).toNat
          rw [h, Int.toNat_natCast]
        have e3 : IntKind.i64.wrap (((0 : Nat) : Int) + (1 : Int)) = ((0 + 1 : Nat) : Int) := by rw [wrap64E]; omega
        rw [e, e3]
        refine ⟨by rw [Bool.true_and]; exact hc, cl_iff.2 ⟨⟨.refl _, .of_eq (by simp only [Int.toNat_natCast]; rw [h]), trivial⟩, trivial⟩, fun h => by simp at h, fun _ => ⟨0 + 1, LeL.refl _, LeH.refl _, hlt, rfl, ?_⟩⟩
        show m - (0 + 1) < m - (0); omega
      · have h := of_decide_eq_false hc
        obtain rfl : m = 0 := by have h2 : 0 ≤ m := hi; omega
        exact ⟨rfl, ⟨.any _, .any _, .refl _, .any _, .any _, .any _, trivial⟩, LeH.refl _⟩
    | succ i =>
      have hb : (BA.hs (catN g (i + 1))).ok := hs_ok (fun j hj => hok j (Nat.lt_of_lt_of_le hj hi)) (Nat.le_trans hi hm)
      refine ⟨[CT.at 7 (ansNum (.hs (catN g (i + 1))) n hb hn)], Lno, false, noLoops (by kernel_rfl), ?_⟩
      show (roundE (P := Try.prog) (Γ := Γw) [CT.at 7 (ansNum (.hs (catN g (i + 1))) n hb hn)] Lno false 0 0 loopM [2, 3, 4, 8, 9, 10] [] 25 [.any, .any, .hs 0 0 (catN g (i + 1)).size, .sl 1 m (i64F g), .v (.int .i64 (m : Int)), .v (.int .i64 ((i + 1 : Nat) : Int))] [some (.arr 1 (catN g (i + 1)).size (bsF (catN g (i + 1))))]).sat _
      rw [roundMs1 m g n (i + 1) (catN g (i + 1)) hb hn]
      refine ⟨fun hc => ?_, fun hc => ?_⟩
      · have hlt : i + 1 < m := by have := of_decide_eq_true hc; omega
        have h := hg hlt
        have e : (BA.hs (catN g (i + 1))).t ++ numB n = catN g (i + 1 + 1) := by
          show catN g (i + 1) ++ numB n = catN g (i + 1) ++ numB (g (i + 1)).toNat
          rw [h, Int.toNat_natCast]
        have e3 : IntKind.i64.wrap (((i + 1 : Nat) : Int) + (1 : Int)) = ((i + 1 + 1 : Nat) : Int) := by rw [wrap64E]; omega
        rw [e, e3]
        refine ⟨by rw [hc]; simp; omega, cl_iff.2 ⟨⟨.refl _, .of_eq (by simp only [Int.toNat_natCast]; rw [h]), trivial⟩, LeH.refl _⟩, fun h => by simp at h, fun _ => ⟨i + 1 + 1, LeL.refl _, LeH.refl _, hlt, rfl, ?_⟩⟩
        show m - (i + 1 + 1) < m - (i + 1); omega
      · have h := of_decide_eq_false hc
        obtain rfl : m = i + 1 := by have h2 : i + 1 ≤ m := hi; omega
        exact ⟨rfl, ⟨.any _, .any _, .refl _, .any _, .any _, .any _, trivial⟩, LeH.refl _⟩
  | hs m g =>
    have hok : ∀ j, j < m → okN (g j) = true := hok
    have hm : m ≤ 100000 := hm
    obtain ⟨n, hn, hg⟩ := pick (i := i) hok
    cases i with
    | zero =>
      refine ⟨[CT.at 7 (ansNum .nil n trivial hn)], Lno, false, noLoops (by kernel_rfl), ?_⟩
      show (roundE (P := Try.prog) (Γ := Γw) [CT.at 7 (ansNum .nil n trivial hn)] Lno false 1 0 loopM [2, 3, 4, 8, 9, 10] [] 25 [.any, .any, .v (.slice none 0 0), .hs 0 0 m, .v (.int .i64 (m : Int)), .v (.int .i64 (0 : Nat))] [some (.arr 1 m (i64F g))]).sat _
      rw [roundMh0 m g n hn]
      refine ⟨fun hc => ?_, fun hc => ?_⟩
      · have hlt : 0 < m := by have := of_decide_eq_true hc; omega
        have h := hg hlt
        have e : BA.nil.t ++ numB n = catN g (0 + 1) := by
          show catN g (0) ++ numB n = catN g (0) ++ numB (g (0)).toNat
          rw [h, Int.toNat_natCast]
        have e3 : IntKind.i64.wrap (((0 : Nat) : Int) + (1 : Int)) = ((0 + 1 : Nat) : Int) := by rw [wrap64E]; omega
        rw [e, e3]
        refine ⟨by rw [Bool.true_and]; exact hc, cl_iff.2 ⟨⟨.refl _, .of_eq (by simp only [Int.toNat_natCast, Nat.zero_add]; rw [h]), trivial⟩, trivial⟩, fun h => by simp at h, fun _ => ⟨0 + 1, LeL.refl _, LeH.refl _, hlt, rfl, ?_⟩⟩
        show m - (0 + 1) < m - (0); omega
      · have h := of_decide_eq_false hc
        obtain rfl : m = 0 := by have h2 : 0 ≤ m := hi; omega
        exact ⟨rfl, ⟨.any _, .any _, .refl _, .any _, .any _, .any _, trivial⟩, LeH.refl _⟩
    | succ i =>
      have hb : (BA.hs (catN g (i + 1))).ok := hs_ok (fun j hj => hok j (Nat.lt_of_lt_of_le hj hi)) (Nat.le_trans hi hm)
      refine ⟨[CT.at 7 (ansNum (.hs (catN g (i + 1))) n hb hn)], Lno, false, noLoops (by kernel_rfl), ?_⟩
      show (roundE (P := Try.prog) (Γ := Γw) [CT.at 7 (ansNum (.hs (catN g (i + 1))) n hb hn)] Lno false 1 0 loopM [2, 3, 4, 8, 9, 10] [] 25 [.any, .any, .hs 1 0 (catN g (i + 1)).size, .hs 0 0 m, .v (.int .i64 (m : Int)), .v (.int .i64 ((i + 1 : Nat) : Int))] [some (.arr 1 m (i64F g)), some (.arr 1 (catN g (i + 1)).size (bsF (catN g (i + 1))))]).sat _
      rw [roundMh1 m g n (i + 1) (catN g (i + 1)) hb hn]
      refine ⟨fun hc => ?_, fun hc => ?_⟩
      · have hlt : i + 1 < m := by have := of_decide_eq_true hc; omega
        have h := hg hlt
        have e : (BA.hs (catN g (i + 1))).t ++ numB n = catN g (i + 1 + 1) := by
          show catN g (i + 1) ++ numB n = catN g (i + 1) ++ numB (g (i + 1)).toNat
          rw [h, Int.toNat_natCast]
        have e3 : IntKind.i64.wrap (((i + 1 : Nat) : Int) + (1 : Int)) = ((i + 1 + 1 : Nat) : Int) := by rw [wrap64E]; omega
        rw [e, e3]
        refine ⟨by rw [hc]; simp; omega, cl_iff.2 ⟨⟨.refl _, .of_eq (by simp only [Int.toNat_natCast, Nat.zero_add]; rw [h]), trivial⟩, LeH.refl _⟩, fun h => by simp at h, fun _ => ⟨i + 1 + 1, LeL.refl _, LeH.refl _, hlt, rfl, ?_⟩⟩
        show m - (i + 1 + 1) < m - (i + 1); omega
      · have h := of_decide_eq_false hc
        obtain rfl : m = i + 1 := by have h2 : i + 1 ≤ m := hi; omega
        exact ⟨rfl, ⟨.any _, .any _, .refl _, .any _, .any _, .any _, trivial⟩, LeH.refl _⟩
theorem okN_bad {n : Int} (h : okN n = false) : n < 0 ∨ 4611686018427387904 < n := by
  unfold okN at h
  by_cases h1 : n < 0
  · exact .inl h1
  · rw [decide_eq_true (show 0 ≤ n by omega), Bool.true_and, decide_eq_false_iff_not] at h
    exact .inr (by omega)
theorem loopMb_ok (m : Nat) (g : Nat → Int) (b : Nat) (hb : b < m) (hok : ∀ j, j < b → okN (g j) = true) (hbad : okN (g b) = false) (hm : m ≤ 100000) : ∀ i, i ≤ b → LoopOK Try.prog Γw 0 25 loopM (LSpec.at [2, 3, 4, 8, 9, 10] [] (SM (.sl m g) i) (OMb (.sl m g))) := by
  refine loop_at (S := SM (.sl m g)) (pre := fun i => i ≤ b) (O := fun _ => OMb (.sl m g)) (k := 0) (fun i => b - i) fun i hi => ?_
  rcases Nat.lt_or_ge i b with hib | hib
  · obtain ⟨n, hg, hn⟩ := okN_nat (hok i hib)
    cases i with
    | zero =>
      refine ⟨[CT.at 7 (ansNum .nil n trivial hn)], Lno, false, noLoops (by kernel_rfl), ?_⟩
      show (roundE (P := Try.prog) (Γ := Γw) [CT.at 7 (ansNum .nil n trivial hn)] Lno false 0 0 loopM [2, 3, 4, 8, 9, 10] [] 25 [.any, .any, .v (.slice none 0 0), .sl 1 m (i64F g), .v (.int .i64 (m : Int)), .v (.int .i64 (0 : Nat))] []).sat _
      rw [roundMs0 m g n hn]
      refine ⟨fun hc => ?_, fun hc => ?_⟩
      · have hlt : 0 < m := by have := of_decide_eq_true hc; omega
        have h := hg
        have e : BA.nil.t ++ numB n = catN g (0 + 1) := by
          show catN g (0) ++ numB n = catN g (0) ++ numB (g (0)).toNat
          rw [h, Int.toNat_natCast]
        have e3 : IntKind.i64.wrap (((0 : Nat) : Int) + (1 : Int)) = ((0 + 1 : Nat) : Int) := by rw [wrap64E]; omega
        rw [e, e3]
        refine ⟨by rw [Bool.true_and]; exact hc, cl_iff.2 ⟨⟨.refl _, .of_eq (by simp only [Int.toNat_natCast]; rw [h]), trivial⟩, trivial⟩, fun h => by simp at h, fun _ => ⟨0 + 1, LeL.refl _, LeH.refl _, Nat.succ_le_of_lt hib, rfl, ?_⟩⟩
        show b - (0 + 1) < b - (0); omega
      · have h := of_decide_eq_false hc
        omega
    | succ i =>
      have hb' : (BA.hs (catN g (i + 1))).ok := hs_ok (fun j hj => hok j (Nat.lt_of_lt_of_le hj hi)) (by omega)
      refine ⟨[CT.at 7 (ansNum (.hs (catN g (i + 1))) n hb' hn)], Lno, false, noLoops (by kernel_rfl), ?_⟩
      show (roundE (P := Try.prog) (Γ := Γw) [CT.at 7 (ansNum (.hs (catN g (i + 1))) n hb' hn)] Lno false 0 0 loopM [2, 3, 4, 8, 9, 10] [] 25 [.any, .any, .hs 0 0 (catN g (i + 1)).size, .sl 1 m (i64F g), .v (.int .i64 (m : Int)), .v (.int .i64 ((i + 1 : Nat) : Int))] [some (.arr 1 (catN g (i + 1)).size (bsF (catN g (i + 1))))]).sat _
      rw [roundMs1 m g n (i + 1) (catN g (i + 1)) hb' hn]
      refine ⟨fun hc => ?_, fun hc => ?_⟩
      · have hlt : i + 1 < m := by have := of_decide_eq_true hc; omega
        have h := hg
        have e : (BA.hs (catN g (i + 1))).t ++ numB n = catN g (i + 1 + 1) := by
          show catN g (i + 1) ++ numB n = catN g (i + 1) ++ numB (g (i + 1)).toNat
          rw [h, Int.toNat_natCast]
        have e3 : IntKind.i64.wrap (((i + 1 : Nat) : Int) + (1 : Int)) = ((i + 1 + 1 : Nat) : Int) := by rw [wrap64E]; omega
        rw [e, e3]
        refine ⟨by rw [hc]; simp; omega, cl_iff.2 ⟨⟨.refl _, .of_eq (by simp only [Int.toNat_natCast]; rw [h]), trivial⟩, LeH.refl _⟩, fun h => by simp at h, fun _ => ⟨i + 1 + 1, LeL.refl _, LeH.refl _, Nat.succ_le_of_lt hib, rfl, ?_⟩⟩
        show b - (i + 1 + 1) < b - (i + 1); omega
      · have h := of_decide_eq_false hc
        omega
  · obtain rfl : i = b := Nat.le_antisymm hi hib
    have hn := okN_bad hbad
    cases i with
    | zero =>
      refine ⟨[CT.at 7 (ansBad .nil (g 0) trivial hn)], Lno, false, noLoops (by kernel_rfl), ?_⟩
      show (roundE (P := Try.prog) (Γ := Γw) [CT.at 7 (ansBad .nil (g 0) trivial hn)] Lno false 0 0 loopM [2, 3, 4, 8, 9, 10] [] 25 [.any, .any, .v (.slice none 0 0), .sl 1 m (i64F g), .v (.int .i64 (m : Int)), .v (.int .i64 (0 : Nat))] []).sat _
      rw [roundMb0 m g (g 0) hn]
      have hc : decide (((0 : Nat) : Int) < (m : Int)) = true := decide_eq_true (by omega)
      rw [hc]
      exact ⟨fun _ => ⟨rfl, cl_iff.2 ⟨LeL.refl _, trivial⟩, fun _ => ⟨rfl, ⟨.refl _, .refl _, .any _, .any _, .any _, .any _, trivial⟩, trivial⟩, fun h => by simp at h⟩, fun h => by simp at h⟩
    | succ i =>
      have hb' : (BA.hs (catN g (i + 1))).ok := hs_ok (fun j hj => hok j hj) (by omega)
      refine ⟨[CT.at 7 (ansBad (.hs (catN g (i + 1))) (g (i + 1)) hb' hn)], Lno, false, noLoops (by kernel_rfl), ?_⟩
      show (roundE (P := Try.prog) (Γ := Γw) [CT.at 7 (ansBad (.hs (catN g (i + 1))) (g (i + 1)) hb' hn)] Lno false 0 0 loopM [2, 3, 4, 8, 9, 10] [] 25 [.any, .any, .hs 0 0 (catN g (i + 1)).size, .sl 1 m (i64F g), .v (.int .i64 (m : Int)), .v (.int .i64 ((i + 1 : Nat) : Int))] [some (.arr 1 (catN g (i + 1)).size (bsF (catN g (i + 1))))]).sat _
      rw [roundMb1 m g (g (i + 1)) (i + 1) (catN g (i + 1)) hb' hn]
      have hc : decide (((i + 1 : Nat) : Int) < (m : Int)) = true := decide_eq_true (by omega)
      rw [hc]
      exact ⟨fun _ => ⟨by rw [decide_eq_true (show (0 : Int) ≤ ((i + 1 : Nat) : Int) by omega)]; rfl, cl_iff.2 ⟨LeL.refl _, LeH.refl _⟩, fun _ => ⟨rfl, ⟨.refl _, .refl _, .any _, .any _, .any _, .any _, trivial⟩, trivial⟩, fun h => by simp at h⟩, fun h => by simp at h⟩
theorem runMg (a : NA) (m : Nat) (g : Nat → Int) : bodyE (P := Try.prog) (Γ := Γw) [] (fun _ => LSpec.at [2, 3, 4, 8, 9, 10] [] (SM (.sl (m + 1) g) 0) (OMg (.sl (m + 1) g))) false 25 [.tmp 2, .tmp 3] (bodyOf Try.f11) [.sl 1 (m + 1) (i64F g)] [] =
  Tree.chk
  (cl
    (LeL
        [AV.v (Value.slice none (0 : Nat) (0 : Nat)), AV.v (Value.int IntKind.i64 (0 : Int)),
          AV.v (Value.slice none (0 : Nat) (0 : Nat)),
          AV.sl (1 : Nat) (m + (1 : Nat)) fun j => [AV.v (Value.int IntKind.i64 (g j))],
          AV.v (Value.int IntKind.i64 (↑(m + (1 : Nat)) : Int)), AV.v (Value.int IntKind.i64 (0 : Int))]
        [AV.any, AV.any, AV.v (Value.slice none (0 : Nat) (0 : Nat)),
          AV.sl (1 : Nat) (m + (1 : Nat)) fun j => [AV.v (Value.int IntKind.i64 (g j))],
          AV.v (Value.int IntKind.i64 (↑(NA.sl (m + (1 : Nat)) g).m : Int)),
          AV.v (Value.int IntKind.i64 (↑(0 : Nat) : Int))] ∧
      LeH [] []))
  (Tree.leaf
    (Ans.mk
      (AV.tup
        [AV.hs (0 : Nat) (0 : Nat)
            (catN (NA.sl (m + (1 : Nat)) g).g (Nat.add._f Nat.zero PUnit.unit m + (1 : Nat))).size,
          AV.v (Value.int IntKind.i64 (0 : Int))])
      [some
          (Blk.arr (1 : Nat) (catN (NA.sl (m + (1 : Nat)) g).g (Nat.add._f Nat.zero PUnit.unit m + (1 : Nat))).size
            fun j =>
            [AV.v
                (Value.int IntKind.u8
                  (sbyte (catN (NA.sl (m + (1 : Nat)) g).g (Nat.add._f Nat.zero PUnit.unit m + (1 : Nat))) j))])])) := by kernel_rfl
theorem runM0 (g : Nat → Int) : bodyE (P := Try.prog) (Γ := Γw) [] (fun _ => LSpec.at [2, 3, 4, 8, 9, 10] [] (SM (.sl 0 g) 0) (OMg (.sl 0 g))) false 25 [.tmp 2, .tmp 3] (bodyOf Try.f11) [.sl 1 0 (i64F g)] [] =
  Tree.chk
  (cl
    (LeL
        [AV.v (Value.slice none (0 : Nat) (0 : Nat)), AV.v (Value.int IntKind.i64 (0 : Int)),
          AV.v (Value.slice none (0 : Nat) (0 : Nat)),
          AV.sl (1 : Nat) (0 : Nat) fun j => [AV.v (Value.int IntKind.i64 (g j))],
          AV.v (Value.int IntKind.i64 (↑(0 : Nat) : Int)), AV.v (Value.int IntKind.i64 (0 : Int))]
        [AV.any, AV.any, AV.v (Value.slice none (0 : Nat) (0 : Nat)),
          AV.sl (1 : Nat) (0 : Nat) fun j => [AV.v (Value.int IntKind.i64 (g j))],
          AV.v (Value.int IntKind.i64 (↑(0 : Nat) : Int)), AV.v (Value.int IntKind.i64 (↑(0 : Nat) : Int))] ∧
      LeH [] []))
  (Tree.leaf (Ans.mk (AV.tup [AV.v (Value.slice none (0 : Nat) (0 : Nat)), AV.v (Value.int IntKind.i64 (0 : Int))]) [])) := by kernel_rfl
theorem runMn  : bodyE (P := Try.prog) (Γ := Γw) [] (fun _ => LSpec.at [2, 3, 4, 8, 9, 10] [] (SM .nil 0) (OMg .nil)) false 25 [.tmp 2, .tmp 3] (bodyOf Try.f11) [.v (.slice none 0 0)] [] =
  Tree.chk
  (cl
    (LeL
        [AV.v (Value.slice none (0 : Nat) (0 : Nat)), AV.v (Value.int IntKind.i64 (0 : Int)),
          AV.v (Value.slice none (0 : Nat) (0 : Nat)), AV.v (Value.slice none (0 : Nat) (0 : Nat)),
          AV.v (Value.int IntKind.i64 (0 : Int)), AV.v (Value.int IntKind.i64 (0 : Int))]
        [AV.any, AV.any, AV.v (Value.slice none (0 : Nat) (0 : Nat)), AV.v (Value.slice none (0 : Nat) (0 : Nat)),
          AV.v (Value.int IntKind.i64 (↑(0 : Nat) : Int)), AV.v (Value.int IntKind.i64 (↑(0 : Nat) : Int))] ∧
      LeH [] []))
  (Tree.leaf (Ans.mk (AV.tup [AV.v (Value.slice none (0 : Nat) (0 : Nat)), AV.v (Value.int IntKind.i64 (0 : Int))]) [])) := by kernel_rfl
theorem runMh (m : Nat) (g : Nat → Int) : bodyE (P := Try.prog) (Γ := Γw) [] (fun _ => LSpec.at [2, 3, 4, 8, 9, 10] [] (SM (.hs (m + 1) g) 0) (OMg (.hs (m + 1) g))) false 25 [.tmp 2, .tmp 3] (bodyOf Try.f11) [.hs 0 0 (m + 1)] [.arr 1 (m + 1) (i64F g)] =
  Tree.chk
  (cl
    (LeL
        [AV.v (Value.slice none (0 : Nat) (0 : Nat)), AV.v (Value.int IntKind.i64 (0 : Int)),
          AV.v (Value.slice none (0 : Nat) (0 : Nat)), AV.hs (0 : Nat) (0 : Nat) (m + (1 : Nat)),
          AV.v (Value.int IntKind.i64 (↑(m + (1 : Nat)) : Int)), AV.v (Value.int IntKind.i64 (0 : Int))]
        [AV.any, AV.any, AV.v (Value.slice none (0 : Nat) (0 : Nat)), AV.hs (0 : Nat) (0 : Nat) (m + (1 : Nat)),
          AV.v (Value.int IntKind.i64 (↑(NA.hs (m + (1 : Nat)) g).m : Int)),
          AV.v (Value.int IntKind.i64 (↑(0 : Nat) : Int))] ∧
      LeH [some (Blk.arr (1 : Nat) (m + (1 : Nat)) fun j => [AV.v (Value.int IntKind.i64 (g j))])]
        [some (Blk.arr (1 : Nat) (m + (1 : Nat)) fun j => [AV.v (Value.int IntKind.i64 (g j))])]))
  (Tree.leaf
    (Ans.mk
      (AV.tup
        [AV.hs (1 : Nat) (0 : Nat)
            (catN (NA.hs (m + (1 : Nat)) g).g (Nat.add._f Nat.zero PUnit.unit m + (1 : Nat))).size,
          AV.v (Value.int IntKind.i64 (0 : Int))])
      [some (Blk.arr (1 : Nat) (m + (1 : Nat)) fun j => [AV.v (Value.int IntKind.i64 (g j))]),
        some
          (Blk.arr (1 : Nat) (catN (NA.hs (m + (1 : Nat)) g).g (Nat.add._f Nat.zero PUnit.unit m + (1 : Nat))).size
            fun j =>
            [AV.v
                (Value.int IntKind.u8
                  (sbyte (catN (NA.hs (m + (1 : Nat)) g).g (Nat.add._f Nat.zero PUnit.unit m + (1 : Nat))) j))])])) := by kernel_rfl
theorem runMb (m : Nat) (g : Nat → Int) : bodyE (P := Try.prog) (Γ := Γw) [] (fun _ => LSpec.at [2, 3, 4, 8, 9, 10] [] (SM (.sl m g) 0) (OMb (.sl m g))) false 25 [.tmp 2, .tmp 3] (bodyOf Try.f11) [.sl 1 m (i64F g)] [] =
  Tree.chk
  (cl
    (LeL
        [AV.v (Value.slice none (0 : Nat) (0 : Nat)), AV.v (Value.int IntKind.i64 (0 : Int)),
          AV.v (Value.slice none (0 : Nat) (0 : Nat)), AV.sl (1 : Nat) m fun j => [AV.v (Value.int IntKind.i64 (g j))],
          AV.v (Value.int IntKind.i64 (↑m : Int)), AV.v (Value.int IntKind.i64 (0 : Int))]
        [AV.any, AV.any, AV.v (Value.slice none (0 : Nat) (0 : Nat)),
          AV.sl (1 : Nat) m fun j => [AV.v (Value.int IntKind.i64 (g j))],
          AV.v (Value.int IntKind.i64 (↑(NA.sl m g).m : Int)), AV.v (Value.int IntKind.i64 (↑(0 : Nat) : Int))] ∧
      LeH [] []))
  (Tree.leaf
    (Ans.mk (AV.tup [AV.v (Value.slice none (0 : Nat) (0 : Nat)), AV.v (Value.int IntKind.i64 (10 : Int))]) [])) := by kernel_rfl
def outBl (g : Nat → Int) : Nat → List Blk
  | 0 => []
  | i + 1 => [.arr 1 (catN g (i + 1)).size (bsF (catN g (i + 1)))]
def NA.ok (a : NA) : Prop := (∀ j, j < a.m → okN (a.g j) = true) ∧ a.m ≤ 100000 ∧ (a.k = 1 → 0 < a.m)
theorem ansNums : ∀ (a : NA), a.ok → Answers Try.prog Γw 11 [a.av] a.bl (.tup [outV a.k a.g a.m, .v (.int .i64 0)]) (a.bl.map some) (outBl a.g a.m)
  | .nil, h => answers (fn := Try.f11) (c := bodyOf Try.f11) (ntmps := 25) (results := [.tmp 2, .tmp 3]) [] (fun _ => LSpec.at [2, 3, 4, 8, 9, 10] [] (SM .nil 0) (OMg .nil)) false Try.func11 (by kernel_rfl) (by kernel_rfl) (by kernel_rfl) (by kernel_rfl) (by simp) rfl
    (oneLoop (b := loopM) (by kernel_rfl) (loopMg_ok .nil h.1 h.2.1 0 (Nat.zero_le _))) (Meets.of runMn ⟨cl_iff.2 ⟨⟨.any _, .any _, .refl _, .refl _, .refl _, .refl _, trivial⟩, trivial⟩, .refl _, trivial⟩)
  | .sl 0 g, h => answers (fn := Try.f11) (c := bodyOf Try.f11) (ntmps := 25) (results := [.tmp 2, .tmp 3]) [] (fun _ => LSpec.at [2, 3, 4, 8, 9, 10] [] (SM (.sl 0 g) 0) (OMg (.sl 0 g))) false Try.func11 (by kernel_rfl) (by kernel_rfl) (by kernel_rfl) (by kernel_rfl) (by simp) rfl
    (oneLoop (b := loopM) (by kernel_rfl) (loopMg_ok (.sl 0 g) h.1 h.2.1 0 (Nat.zero_le _))) (Meets.of (runM0 g) ⟨cl_iff.2 ⟨⟨.any _, .any _, .refl _, .refl _, .refl _, .refl _, trivial⟩, trivial⟩, .refl _, trivial⟩)
  | .sl (m + 1) g, h => answers (fn := Try.f11) (c := bodyOf Try.f11) (ntmps := 25) (results := [.tmp 2, .tmp 3]) [] (fun _ => LSpec.at [2, 3, 4, 8, 9, 10] [] (SM (.sl (m + 1) g) 0) (OMg (.sl (m + 1) g))) false Try.func11 (by kernel_rfl) (by kernel_rfl) (by kernel_rfl) (by kernel_rfl) (by simp) rfl
    (oneLoop (b := loopM) (by kernel_rfl) (loopMg_ok (.sl (m + 1) g) h.1 h.2.1 0 (Nat.zero_le _))) (Meets.of (runMg .nil m g) ⟨cl_iff.2 ⟨⟨.any _, .any _, .refl _, .refl _, .refl _, .refl _, trivial⟩, trivial⟩, .refl _, .refl _, trivial⟩)
  | .hs (m + 1) g, h => answers (fn := Try.f11) (c := bodyOf Try.f11) (ntmps := 25) (results := [.tmp 2, .tmp 3]) [] (fun _ => LSpec.at [2, 3, 4, 8, 9, 10] [] (SM (.hs (m + 1) g) 0) (OMg (.hs (m + 1) g))) false Try.func11 (by kernel_rfl) (by kernel_rfl) (by kernel_rfl) (by kernel_rfl) (by simp) rfl
    (oneLoop (b := loopM) (by kernel_rfl) (loopMg_ok (.hs (m + 1) g) h.1 h.2.1 0 (Nat.zero_le _))) (Meets.of (runMh m g) ⟨cl_iff.2 ⟨⟨.any _, .any _, .refl _, .refl _, .refl _, .refl _, trivial⟩, LeH.refl _⟩, .refl _, .refl _, .refl _, trivial⟩)
  | .hs 0 g, h => absurd (h.2.2 rfl) (Nat.lt_irrefl _)
theorem ansNumsBad (m : Nat) (g : Nat → Int) (b : Nat) (hb : b < m) (hok : ∀ j, j < b → okN (g j) = true) (hbad : okN (g b) = false) (hm : m ≤ 100000) : Answers Try.prog Γw 11 [.sl 1 m (i64F g)] [] (.tup [.v (.slice none 0 0), .v (.int .i64 10)]) [] [] :=
  answers (fn := Try.f11) (c := bodyOf Try.f11) (ntmps := 25) (results := [.tmp 2, .tmp 3]) [] (fun _ => LSpec.at [2, 3, 4, 8, 9, 10] [] (SM (.sl m g) 0) (OMb (.sl m g))) false Try.func11 (by kernel_rfl) (by kernel_rfl) (by kernel_rfl) (by kernel_rfl) (by simp) rfl
    (oneLoop (b := loopM) (by kernel_rfl) (loopMb_ok m g b hb hok hbad hm 0 (Nat.zero_le _))) (Meets.of (runMb m g) ⟨cl_iff.2 ⟨⟨.any _, .any _, .refl _, .refl _, .refl _, .refl _, trivial⟩, trivial⟩, .refl _, trivial⟩)
/-! ### a text's bytes -/
theorem runTn (s : ByteArray) (h : s.size ≤ 4611686018427387904) : bodyE (P := Try.prog) (Γ := Γw) [CT.at 7 (ansNum .nil s.size trivial h)] Lno false 22 [.tmp 4, .tmp 5] (bodyOf Try.f9) [.v (.slice none 0 0), .v (.string s)] [] =
  Tree.br (decide ((65536 : Int) < (↑s.size : Int)))
  (Tree.leaf (Ans.mk (AV.tup [AV.v (Value.slice none (0 : Nat) (0 : Nat)), AV.v (Value.int IntKind.i64 (2 : Int))]) []))
  (Tree.chk
    (cl
      (LeL [AV.v (Value.slice none (0 : Nat) (0 : Nat)), AV.v (Value.int IntKind.i64 (↑s.size : Int))]
          [AV.v (Value.slice none (0 : Nat) (0 : Nat)), AV.v (Value.int IntKind.i64 (↑s.size : Int))] ∧
        LeH [] []))
    (Tree.chk (roomOk (1 : Nat) ((BA.nil.t ++ numB s.size).size + s.size))
      (Tree.leaf
        (Ans.mk
          (AV.tup
            [AV.hs (0 : Nat) (0 : Nat) ((BA.nil.t ++ numB s.size).size + s.size),
              AV.v (Value.int IntKind.i64 (0 : Int))])
          [some
              (Blk.arr (1 : Nat) ((BA.nil.t ++ numB s.size).size + s.size) fun j =>
                [AV.v
                    (Value.int IntKind.u8
                      (bif decide (j < (BA.nil.t ++ numB s.size).size) then
                        sbyte (BA.nil.t ++ numB s.size) ((0 : Nat) + j)
                      else sbyte s (j - (BA.nil.t ++ numB s.size).size)))])])))) := by kernel_rfl
theorem runTs (t : ByteArray) (s : ByteArray) (ht : (BA.sl t).ok) (h : s.size ≤ 4611686018427387904) : bodyE (P := Try.prog) (Γ := Γw) [CT.at 7 (ansNum (.sl t) s.size ht h)] Lno false 22 [.tmp 4, .tmp 5] (bodyOf Try.f9) [.sl 1 t.size (bsF t), .v (.string s)] [] =
  Tree.br (decide ((65536 : Int) < (↑s.size : Int)))
  (Tree.leaf (Ans.mk (AV.tup [AV.v (Value.slice none (0 : Nat) (0 : Nat)), AV.v (Value.int IntKind.i64 (2 : Int))]) []))
  (Tree.chk
    (cl
      (LeL
          [AV.sl (1 : Nat) t.size fun j => [AV.v (Value.int IntKind.u8 (sbyte t j))],
            AV.v (Value.int IntKind.i64 (↑s.size : Int))]
          [AV.sl (1 : Nat) t.size fun j => [AV.v (Value.int IntKind.u8 (sbyte t j))],
            AV.v (Value.int IntKind.i64 (↑s.size : Int))] ∧
        LeH [] []))
    (Tree.chk (roomOk (1 : Nat) (((BA.sl t).t ++ numB s.size).size + s.size))
      (Tree.leaf
        (Ans.mk
          (AV.tup
            [AV.hs (0 : Nat) (0 : Nat) (((BA.sl t).t ++ numB s.size).size + s.size),
              AV.v (Value.int IntKind.i64 (0 : Int))])
          [some
              (Blk.arr (1 : Nat) (((BA.sl t).t ++ numB s.size).size + s.size) fun j =>
                [AV.v
                    (Value.int IntKind.u8
                      (bif decide (j < ((BA.sl t).t ++ numB s.size).size) then
                        sbyte ((BA.sl t).t ++ numB s.size) ((0 : Nat) + j)
                      else sbyte s (j - ((BA.sl t).t ++ numB s.size).size)))])])))) := by kernel_rfl
theorem joinF (a b : ByteArray) (j : Nat) : (bif decide (j < a.size) then sbyte a ((0 : Nat) + j) else sbyte b (j - a.size)) = sbyte (a ++ b) j := by
  rw [sbyte_append]
  by_cases h : j < a.size
  · rw [decide_eq_true h, if_pos h, Nat.zero_add]; rfl
  · rw [decide_eq_false h, if_neg h]; rfl
theorem join_size (a b : ByteArray) : a.size + b.size = (a ++ b).size := by simp
def textB (t s : ByteArray) : ByteArray := t ++ numB s.size ++ s
theorem ansText : ∀ (a : BA) (s : ByteArray), a.ok → a.n = 0 → s.size ≤ 65536 → Answers Try.prog Γw 9 [a.av, .v (.string s)] a.bl (.tup [.hs 0 0 (textB a.t s).size, .v (.int .i64 0)]) (a.bl.map some) [.arr 1 (textB a.t s).size (bsF (textB a.t s))]
  | .nil, s, ht, _, hs => by
    have h : s.size ≤ 4611686018427387904 := by omega
    exact answers (fn := Try.f9) (c := bodyOf Try.f9) (ntmps := 22) (results := [.tmp 4, .tmp 5]) [CT.at 7 (ansNum .nil s.size ht h)] Lno false Try.func9 (by kernel_rfl) (by kernel_rfl) (by kernel_rfl) (by kernel_rfl) (by simp) rfl (noLoops (by kernel_rfl))
      (Meets.of (runTn s h) ⟨fun hc => by have := of_decide_eq_true hc; omega, fun _ => ⟨cl_iff.2 ⟨LeL.refl _, trivial⟩, room' (by
      have h1 : (⟨#[]⟩ : ByteArray).size ≤ 1000000000 := BA.ok_small ht
      have := (numB_size h).1
      simp only [ByteArray.size_append]
      show (⟨#[]⟩ : ByteArray).size + (numB s.size).size + s.size ≤ _
      omega), by
      simp only [joinF, join_size]
      exact ⟨.refl _, .refl _, trivial⟩⟩⟩)
  | .sl t, s, ht, _, hs => by
    have h : s.size ≤ 4611686018427387904 := by omega
    exact answers (fn := Try.f9) (c := bodyOf Try.f9) (ntmps := 22) (results := [.tmp 4, .tmp 5]) [CT.at 7 (ansNum (.sl t) s.size ht h)] Lno false Try.func9 (by kernel_rfl) (by kernel_rfl) (by kernel_rfl) (by kernel_rfl) (by simp) rfl (noLoops (by kernel_rfl))
      (Meets.of (runTs t s ht h) ⟨fun hc => by have := of_decide_eq_true hc; omega, fun _ => ⟨cl_iff.2 ⟨LeL.refl _, trivial⟩, room' (by
      have h1 : (t).size ≤ 1000000000 := BA.ok_small ht
      have := (numB_size h).1
      simp only [ByteArray.size_append]
      show (t).size + (numB s.size).size + s.size ≤ _
      omega), by
      simp only [joinF, join_size]
      exact ⟨.refl _, .refl _, trivial⟩⟩⟩)
  | .hs t, s, _, h0, _ => absurd h0 (by simp [BA.n])
theorem ansTextBad : ∀ (a : BA) (s : ByteArray), a.ok → a.n = 0 → 65536 < s.size → s.size ≤ 4611686018427387904 → Answers Try.prog Γw 9 [a.av, .v (.string s)] a.bl (.tup [.v (.slice none 0 0), .v (.int .i64 2)]) (a.bl.map some) []
  | .nil, s, ht, _, hs, h => answers (fn := Try.f9) (c := bodyOf Try.f9) (ntmps := 22) (results := [.tmp 4, .tmp 5]) [CT.at 7 (ansNum .nil s.size ht h)] Lno false Try.func9 (by kernel_rfl) (by kernel_rfl) (by kernel_rfl) (by kernel_rfl) (by simp) rfl (noLoops (by kernel_rfl))
      (Meets.of (runTn s h) ⟨fun _ => ⟨.refl _, trivial⟩, fun hc => by have := of_decide_eq_false hc; omega⟩)
  | .sl t, s, ht, _, hs, h => answers (fn := Try.f9) (c := bodyOf Try.f9) (ntmps := 22) (results := [.tmp 4, .tmp 5]) [CT.at 7 (ansNum (.sl t) s.size ht h)] Lno false Try.func9 (by kernel_rfl) (by kernel_rfl) (by kernel_rfl) (by kernel_rfl) (by simp) rfl (noLoops (by kernel_rfl))
      (Meets.of (runTs t s ht h) ⟨fun _ => ⟨.refl _, trivial⟩, fun hc => by have := of_decide_eq_false hc; omega⟩)
  | .hs t, s, _, h0, _, _ => absurd h0 (by simp [BA.n])
theorem ansNumsS (m : Nat) (g : Nat → Int) (h : (NA.sl (m + 1) g).ok) : Answers Try.prog Γw 11 [.sl 1 (m + 1) (i64F g)] [] (.tup [.hs 0 0 (catN g (m + 1)).size, .v (.int .i64 0)]) [] [.arr 1 (catN g (m + 1)).size (bsF (catN g (m + 1)))] := ansNums (.sl (m + 1) g) h
theorem ansNums0 (g : Nat → Int) (h : (NA.sl 0 g).ok) : Answers Try.prog Γw 11 [.sl 1 0 (i64F g)] [] (.tup [.v (.slice none 0 0), .v (.int .i64 0)]) [] [] := ansNums (.sl 0 g) h
theorem ansNumsN (h : NA.nil.ok) : Answers Try.prog Γw 11 [.v (.slice none 0 0)] [] (.tup [.v (.slice none 0 0), .v (.int .i64 0)]) [] [] := ansNums .nil h
theorem allBytes0 (n : Nat) (t : ByteArray) : (allBytes n fun j => [AV.v (Value.int IntKind.u8 (sbyte t ((0 : Nat) + j)))]) = true := by
  simp only [Nat.zero_add]; exact allBytes_bsF n t
theorem textOf0 (t : ByteArray) : (textOf t.size fun j => [AV.v (Value.int IntKind.u8 (sbyte t ((0 : Nat) + j)))]) = t := by
  simp only [Nat.zero_add]; exact textOf_bsF t
theorem okN_of {n : Nat} (h : n ≤ 4611686018427387904) : okN (n : Int) = true := by
  unfold okN
  rw [decide_eq_true (show (0 : Int) ≤ (n : Int) by omega), decide_eq_true (show (n : Int) ≤ 4611686018427387904 by omega)]; rfl
theorem okN_not {n : Int} (h : n < 0 ∨ 4611686018427387904 < n) : okN n = false := by
  cases hh : okN n with
  | false => rfl
  | true => obtain ⟨k, rfl, hk⟩ := okN_nat hh; omega
theorem guard3 {a b c : Bool} (h : (bif a then true else bif b then true else c) = false) : a = false ∧ b = false ∧ c = false := by
  cases a <;> cases b <;> cases c <;> simp at h ⊢
theorem LeL_self (xs : List AV) : LeL xs xs = True := eq_true (LeL.refl xs)
theorem LeH_self (xs : Heap) : LeH xs xs = True := eq_true (LeH.refl xs)
theorem cl_true : cl True = true := cl_iff.2 trivial
theorem allBytesF (n : Nat) (t : ByteArray) : (allBytes n fun j => [AV.v (Value.int IntKind.u8 (sbyte t j))]) = true := allBytes_bsF n t
theorem textOfF (t : ByteArray) : (textOf t.size fun j => [AV.v (Value.int IntKind.u8 (sbyte t j))]) = t := textOf_bsF t
theorem textOfF2 (a b : ByteArray) : (textOf (a.size + b.size) fun j => [AV.v (Value.int IntKind.u8 (sbyte (a ++ b) j))]) = a ++ b := by
  have := textOfF (a ++ b)
  rwa [ByteArray.size_append] at this
theorem textOfF3 (a b c : ByteArray) : (textOf (a.size + (b.size + c.size)) fun j => [AV.v (Value.int IntKind.u8 (sbyte (a ++ (b ++ c)) j))]) = a ++ (b ++ c) := by
  have := textOfF (a ++ (b ++ c))
  rwa [ByteArray.size_append, ByteArray.size_append] at this
end Go.Eng.W

/- wire: the law on what is written: its loop. -/
namespace Go.Eng.W
open Go Go.Eng Go.Proofs
set_option linter.unusedSimpArgs false
set_option linter.unusedVariables false
namespace Z
noncomputable def c20 : CT Try.prog Γw := CT.auto false 1 1 [c8] 20 Try.f20 (bodyOf Try.f20) false 11 [.tmp 2] Try.func20 (by kernel_rfl) (by kernel_rfl) (by kernel_rfl) (by kernel_rfl)
noncomputable def c10 : CT Try.prog Γw := CT.auto false 1 1 [c20] 10 Try.f10 (bodyOf Try.f10) false 8 [.tmp 2] Try.func10 (by kernel_rfl) (by kernel_rfl) (by kernel_rfl) (by kernel_rfl)
end Z
noncomputable def loopL : Code := loopOf (bodyOf Try.f3) 0
def SL (b l : AV) (w : ByteArray) (z : AV) (e : Int) (H : Heap) (a : ByteArray) (i : Nat) : List AV × Heap := ([b, l, .v (.string w), z, .v (.int .i64 e), .v (.string a), .v (.int .i64 (i : Int)), .any], H)
def OLg (b : AV) (w : ByteArray) (z : AV) (H : Heap) (a : ByteArray) : Out := ⟨.exit 0, [b, .any, .v (.string w), z, .v (.int .i64 0), .v (.string a), .any, .any], H⟩
def OLb : Out := ⟨.ret, [.any, .any, .any, .any, .any, .any, .any, .sb true], []⟩
theorem roundLnn (i m : Nat) (g : Nat → Int) (w a : ByteArray) (e : Int) : roundE (P := Try.prog) (Γ := Γw) [Z.c8] Lno false 0 0 loopL [0, 3, 9, 16, 17, 18, 19, 8] [] 154 [.v (.slice none 0 0), .sl 1 m (i64F g), .v (.string w), .v (.slice none 0 0), .v (.int .i64 e), .v (.string a), .v (.int .i64 (i : Int)), .any] [] =
  Tree.br (decide ((↑i : Int) < (↑m : Int)))
  (Tree.chk (decide ((0 : Int) ≤ (↑i : Int)) && decide ((↑i : Int) < (↑m : Int)) && true)
    (Tree.br (!okN (g (↑i : Int).toNat))
      (Tree.leaf
        (Out.mk AEx.ret
          [AV.v (Value.slice none (0 : Nat) (0 : Nat)), AV.sl (1 : Nat) m fun j => [AV.v (Value.int IntKind.i64 (g j))],
            AV.v (Value.string w), AV.v (Value.slice none (0 : Nat) (0 : Nat)), AV.v (Value.int IntKind.i64 e),
            AV.v (Value.string a), AV.v (Value.int IntKind.i64 (↑i : Int)),
            AV.sb (bif decide (e = (10 : Int)) then bif true then decide (ByteArray.mk #[] = w) else false else false)]
          []))
      (Tree.chk
        (decide
          (a.size + (bif okN (g (↑i : Int).toNat) then numB (g (↑i : Int).toNat).toNat else ByteArray.mk #[]).size ≤
            (9223372036854775807 : Nat)))
        (Tree.leaf
          (Out.mk AEx.normal
            [AV.v (Value.slice none (0 : Nat) (0 : Nat)),
              AV.sl (1 : Nat) m fun j => [AV.v (Value.int IntKind.i64 (g j))], AV.v (Value.string w),
              AV.v (Value.slice none (0 : Nat) (0 : Nat)), AV.v (Value.int IntKind.i64 e),
              AV.v
                (Value.string
                  (a ++ bif okN (g (↑i : Int).toNat) then numB (g (↑i : Int).toNat).toNat else ByteArray.mk #[])),
              AV.v (Value.int IntKind.i64 (IntKind.i64.wrap ((↑i : Int) + (1 : Int)))), AV.any]
            [])))))
  (Tree.leaf
    (Out.mk (AEx.exit (0 : Nat))
      [AV.v (Value.slice none (0 : Nat) (0 : Nat)), AV.sl (1 : Nat) m fun j => [AV.v (Value.int IntKind.i64 (g j))],
        AV.v (Value.string w), AV.v (Value.slice none (0 : Nat) (0 : Nat)), AV.v (Value.int IntKind.i64 e),
        AV.v (Value.string a), AV.v (Value.int IntKind.i64 (↑i : Int)), AV.any]
      [])) := by kernel_rfl
theorem roundLnh (z : ByteArray) (i m : Nat) (g : Nat → Int) (w a : ByteArray) (e : Int) : roundE (P := Try.prog) (Γ := Γw) [Z.c8] Lno false 0 0 loopL [0, 3, 9, 16, 17, 18, 19, 8] [] 154 [.v (.slice none 0 0), .sl 1 m (i64F g), .v (.string w), .hs 0 0 z.size, .v (.int .i64 e), .v (.string a), .v (.int .i64 (i : Int)), .any] [some (.arr 1 z.size (bsF z))] =
  Tree.br (decide ((↑i : Int) < (↑m : Int)))
  (Tree.chk (decide ((0 : Int) ≤ (↑i : Int)) && decide ((↑i : Int) < (↑m : Int)) && true)
    (Tree.br (!okN (g (↑i : Int).toNat))
      (Tree.leaf
        (Out.mk AEx.ret
          [AV.v (Value.slice none (0 : Nat) (0 : Nat)), AV.sl (1 : Nat) m fun j => [AV.v (Value.int IntKind.i64 (g j))],
            AV.v (Value.string w), AV.hs (0 : Nat) (0 : Nat) z.size, AV.v (Value.int IntKind.i64 e),
            AV.v (Value.string a), AV.v (Value.int IntKind.i64 (↑i : Int)),
            AV.sb
              (bif decide (e = (10 : Int)) then
                bif decide ((↑z.size : Int) = (0 : Int)) then decide (ByteArray.mk #[] = w) else false
              else false)]
          [some (Blk.arr (1 : Nat) z.size fun j => [AV.v (Value.int IntKind.u8 (sbyte z j))])]))
      (Tree.chk
        (decide
          (a.size + (bif okN (g (↑i : Int).toNat) then numB (g (↑i : Int).toNat).toNat else ByteArray.mk #[]).size ≤
            (9223372036854775807 : Nat)))
        (Tree.leaf
          (Out.mk AEx.normal
            [AV.v (Value.slice none (0 : Nat) (0 : Nat)),
              AV.sl (1 : Nat) m fun j => [AV.v (Value.int IntKind.i64 (g j))], AV.v (Value.string w),
              AV.hs (0 : Nat) (0 : Nat) z.size, AV.v (Value.int IntKind.i64 e),
              AV.v
                (Value.string
                  (a ++ bif okN (g (↑i : Int).toNat) then numB (g (↑i : Int).toNat).toNat else ByteArray.mk #[])),
              AV.v (Value.int IntKind.i64 (IntKind.i64.wrap ((↑i : Int) + (1 : Int)))), AV.any]
            [some (Blk.arr (1 : Nat) z.size fun j => [AV.v (Value.int IntKind.u8 (sbyte z j))])])))))
  (Tree.leaf
    (Out.mk (AEx.exit (0 : Nat))
      [AV.v (Value.slice none (0 : Nat) (0 : Nat)), AV.sl (1 : Nat) m fun j => [AV.v (Value.int IntKind.i64 (g j))],
        AV.v (Value.string w), AV.hs (0 : Nat) (0 : Nat) z.size, AV.v (Value.int IntKind.i64 e), AV.v (Value.string a),
        AV.v (Value.int IntKind.i64 (↑i : Int)), AV.any]
      [some (Blk.arr (1 : Nat) z.size fun j => [AV.v (Value.int IntKind.u8 (sbyte z j))])])) := by kernel_rfl
theorem roundLnN (w a : ByteArray) (e : Int) : roundE (P := Try.prog) (Γ := Γw) [Z.c8] Lno false 0 0 loopL [0, 3, 9, 16, 17, 18, 19, 8] [] 154 [.v (.slice none 0 0), .v (.slice none 0 0), .v (.string w), .v (.slice none 0 0), .v (.int .i64 e), .v (.string a), .v (.int .i64 (0 : Nat)), .any] [] =
  Tree.br false Tree.fail
  (Tree.leaf
    (Out.mk (AEx.exit (0 : Nat))
      [AV.v (Value.slice none (0 : Nat) (0 : Nat)), AV.v (Value.slice none (0 : Nat) (0 : Nat)), AV.v (Value.string w),
        AV.v (Value.slice none (0 : Nat) (0 : Nat)), AV.v (Value.int IntKind.i64 e), AV.v (Value.string a),
        AV.v (Value.int IntKind.i64 (↑(0 : Nat) : Int)), AV.any]
      [])) := by kernel_rfl
theorem roundLsn (b : ByteArray) (i m : Nat) (g : Nat → Int) (w a : ByteArray) (e : Int) : roundE (P := Try.prog) (Γ := Γw) [Z.c8] Lno false 0 0 loopL [0, 3, 9, 16, 17, 18, 19, 8] [] 154 [.sl 1 b.size (bsF b), .sl 1 m (i64F g), .v (.string w), .v (.slice none 0 0), .v (.int .i64 e), .v (.string a), .v (.int .i64 (i : Int)), .any] [] =
  Tree.br (decide ((↑i : Int) < (↑m : Int)))
  (Tree.chk (decide ((0 : Int) ≤ (↑i : Int)) && decide ((↑i : Int) < (↑m : Int)) && true)
    (Tree.br (!okN (g (↑i : Int).toNat))
      (Tree.chk (bif decide (e = (10 : Int)) then bif true then allBytes b.size (bsF b) else true else true)
        (Tree.leaf
          (Out.mk AEx.ret
            [AV.sl (1 : Nat) b.size fun j => [AV.v (Value.int IntKind.u8 (sbyte b j))],
              AV.sl (1 : Nat) m fun j => [AV.v (Value.int IntKind.i64 (g j))], AV.v (Value.string w),
              AV.v (Value.slice none (0 : Nat) (0 : Nat)), AV.v (Value.int IntKind.i64 e), AV.v (Value.string a),
              AV.v (Value.int IntKind.i64 (↑i : Int)),
              AV.sb
                (bif decide (e = (10 : Int)) then bif true then decide (textOf b.size (bsF b) = w) else false
                else false)]
            [])))
      (Tree.chk
        (decide
          (a.size + (bif okN (g (↑i : Int).toNat) then numB (g (↑i : Int).toNat).toNat else ByteArray.mk #[]).size ≤
            (9223372036854775807 : Nat)))
        (Tree.leaf
          (Out.mk AEx.normal
            [AV.sl (1 : Nat) b.size fun j => [AV.v (Value.int IntKind.u8 (sbyte b j))],
              AV.sl (1 : Nat) m fun j => [AV.v (Value.int IntKind.i64 (g j))], AV.v (Value.string w),
              AV.v (Value.slice none (0 : Nat) (0 : Nat)), AV.v (Value.int IntKind.i64 e),
              AV.v
                (Value.string
                  (a ++ bif okN (g (↑i : Int).toNat) then numB (g (↑i : Int).toNat).toNat else ByteArray.mk #[])),
              AV.v (Value.int IntKind.i64 (IntKind.i64.wrap ((↑i : Int) + (1 : Int)))), AV.any]
            [])))))
  (Tree.leaf
    (Out.mk (AEx.exit (0 : Nat))
      [AV.sl (1 : Nat) b.size fun j => [AV.v (Value.int IntKind.u8 (sbyte b j))],
        AV.sl (1 : Nat) m fun j => [AV.v (Value.int IntKind.i64 (g j))], AV.v (Value.string w),
        AV.v (Value.slice none (0 : Nat) (0 : Nat)), AV.v (Value.int IntKind.i64 e), AV.v (Value.string a),
        AV.v (Value.int IntKind.i64 (↑i : Int)), AV.any]
      [])) := by kernel_rfl
theorem roundLsh (b : ByteArray) (z : ByteArray) (i m : Nat) (g : Nat → Int) (w a : ByteArray) (e : Int) : roundE (P := Try.prog) (Γ := Γw) [Z.c8] Lno false 0 0 loopL [0, 3, 9, 16, 17, 18, 19, 8] [] 154 [.sl 1 b.size (bsF b), .sl 1 m (i64F g), .v (.string w), .hs 0 0 z.size, .v (.int .i64 e), .v (.string a), .v (.int .i64 (i : Int)), .any] [some (.arr 1 z.size (bsF z))] =
  Tree.br (decide ((↑i : Int) < (↑m : Int)))
  (Tree.chk (decide ((0 : Int) ≤ (↑i : Int)) && decide ((↑i : Int) < (↑m : Int)) && true)
    (Tree.br (!okN (g (↑i : Int).toNat))
      (Tree.chk
        (bif decide (e = (10 : Int)) then
          bif decide ((↑z.size : Int) = (0 : Int)) then allBytes b.size (bsF b) else true
        else true)
        (Tree.leaf
          (Out.mk AEx.ret
            [AV.sl (1 : Nat) b.size fun j => [AV.v (Value.int IntKind.u8 (sbyte b j))],
              AV.sl (1 : Nat) m fun j => [AV.v (Value.int IntKind.i64 (g j))], AV.v (Value.string w),
              AV.hs (0 : Nat) (0 : Nat) z.size, AV.v (Value.int IntKind.i64 e), AV.v (Value.string a),
              AV.v (Value.int IntKind.i64 (↑i : Int)),
              AV.sb
                (bif decide (e = (10 : Int)) then
                  bif decide ((↑z.size : Int) = (0 : Int)) then decide (textOf b.size (bsF b) = w) else false
                else false)]
            [some (Blk.arr (1 : Nat) z.size fun j => [AV.v (Value.int IntKind.u8 (sbyte z j))])])))
      (Tree.chk
        (decide
          (a.size + (bif okN (g (↑i : Int).toNat) then numB (g (↑i : Int).toNat).toNat else ByteArray.mk #[]).size ≤
            (9223372036854775807 : Nat)))
        (Tree.leaf
          (Out.mk AEx.normal
            [AV.sl (1 : Nat) b.size fun j => [AV.v (Value.int IntKind.u8 (sbyte b j))],
              AV.sl (1 : Nat) m fun j => [AV.v (Value.int IntKind.i64 (g j))], AV.v (Value.string w),
              AV.hs (0 : Nat) (0 : Nat) z.size, AV.v (Value.int IntKind.i64 e),
              AV.v
                (Value.string
                  (a ++ bif okN (g (↑i : Int).toNat) then numB (g (↑i : Int).toNat).toNat else ByteArray.mk #[])),
              AV.v (Value.int IntKind.i64 (IntKind.i64.wrap ((↑i : Int) + (1 : Int)))), AV.any]
            [some (Blk.arr (1 : Nat) z.size fun j => [AV.v (Value.int IntKind.u8 (sbyte z j))])])))))
  (Tree.leaf
    (Out.mk (AEx.exit (0 : Nat))
      [AV.sl (1 : Nat) b.size fun j => [AV.v (Value.int IntKind.u8 (sbyte b j))],
        AV.sl (1 : Nat) m fun j => [AV.v (Value.int IntKind.i64 (g j))], AV.v (Value.string w),
        AV.hs (0 : Nat) (0 : Nat) z.size, AV.v (Value.int IntKind.i64 e), AV.v (Value.string a),
        AV.v (Value.int IntKind.i64 (↑i : Int)), AV.any]
      [some (Blk.arr (1 : Nat) z.size fun j => [AV.v (Value.int IntKind.u8 (sbyte z j))])])) := by kernel_rfl
theorem roundLsN (b : ByteArray) (w a : ByteArray) (e : Int) : roundE (P := Try.prog) (Γ := Γw) [Z.c8] Lno false 0 0 loopL [0, 3, 9, 16, 17, 18, 19, 8] [] 154 [.sl 1 b.size (bsF b), .v (.slice none 0 0), .v (.string w), .v (.slice none 0 0), .v (.int .i64 e), .v (.string a), .v (.int .i64 (0 : Nat)), .any] [] =
  Tree.br false Tree.fail
  (Tree.leaf
    (Out.mk (AEx.exit (0 : Nat))
      [AV.sl (1 : Nat) b.size fun j => [AV.v (Value.int IntKind.u8 (sbyte b j))],
        AV.v (Value.slice none (0 : Nat) (0 : Nat)), AV.v (Value.string w), AV.v (Value.slice none (0 : Nat) (0 : Nat)),
        AV.v (Value.int IntKind.i64 e), AV.v (Value.string a), AV.v (Value.int IntKind.i64 (↑(0 : Nat) : Int)), AV.any]
      [])) := by kernel_rfl
theorem okStep {g : Nat → Int} {m i : Nat} (hok : ∀ j, j < m → okN (g j) = true) (hm : m ≤ 500) (hi : i ≤ m) : decide ((catN g i).size + (numB (g i).toNat).size ≤ 9223372036854775807) = true ∨ ¬ i < m := by
  by_cases h : i < m
  · obtain ⟨k, h1, h2⟩ := okN_nat (hok i h)
    have e1 := (catN_small (g := g) (i := i) fun j hj => hok j (by omega)).1
    have e2 := (numB_size h2).1
    refine .inl (decide_eq_true ?_)
    rw [h1, Int.toNat_natCast]
    omega
  · exact .inr h
theorem loopLg_ok (x : BA) (hx : x.n = 0) (l : NA) (hl : l.k = 0) (w : ByteArray) (hok : ∀ j, j < l.m → okN (l.g j) = true) (hm : l.m ≤ 500) : ∀ i, i ≤ l.m →
    LoopOK Try.prog Γw 0 154 loopL (LSpec.at [0, 3, 9, 16, 17, 18, 19, 8] [] (SL x.av l.av w (outV 0 l.g l.m) 0 (outB l.g l.m) (catN l.g i) i) (OLg x.av w (outV 0 l.g l.m) (outB l.g l.m) (catN l.g l.m))) := by
  refine loop_at (S := fun i => SL x.av l.av w (outV 0 l.g l.m) 0 (outB l.g l.m) (catN l.g i) i) (pre := fun i => i ≤ l.m) (O := fun _ => OLg x.av w (outV 0 l.g l.m) (outB l.g l.m) (catN l.g l.m)) (k := 0) (fun i => l.m - i) fun i hi => ⟨[Z.c8], Lno, false, noLoops (by kernel_rfl), ?_⟩
  cases x with
  | hs b => simp [BA.n] at hx
  | nil =>
    cases l with
    | hs m g => simp [NA.k] at hl
    | nil =>
      obtain rfl : i = 0 := Nat.le_zero.1 hi
      show (roundE (P := Try.prog) (Γ := Γw) [Z.c8] Lno false 0 0 loopL [0, 3, 9, 16, 17, 18, 19, 8] [] 154 [.v (.slice none 0 0), .v (.slice none 0 0), .v (.string w), .v (.slice none 0 0), .v (.int .i64 0), .v (.string ⟨#[]⟩), .v (.int .i64 (0 : Nat)), .any] []).sat _
      rw [roundLnN]
      exact ⟨fun h => by simp at h, fun _ => ⟨rfl, ⟨.refl _, .any _, .refl _, .refl _, .refl _, .refl _, .any _, .any _, trivial⟩, LeH.refl _⟩⟩
    | sl m g =>
      have hok : ∀ j, j < m → okN (g j) = true := hok
      have hm : m ≤ 500 := hm
      have hst := okStep hok hm hi
      cases m with
      | zero =>
        show (roundE (P := Try.prog) (Γ := Γw) [Z.c8] Lno false 0 0 loopL [0, 3, 9, 16, 17, 18, 19, 8] [] 154 [.v (.slice none 0 0), .sl 1 0 (i64F g), .v (.string w), .v (.slice none 0 0), .v (.int .i64 0), .v (.string (catN g i)), .v (.int .i64 (i : Int)), .any] []).sat _
        rw [roundLnn]
        refine ⟨fun hc => ?_, fun hc => ?_⟩
        · have hlt : i < 0 := by have := of_decide_eq_true hc; omega
          have h1 := hok i hlt
          have h2 : decide ((catN g i).size + (numB (g i).toNat).size ≤ 9223372036854775807) = true := hst.resolve_right (fun h => h hlt)
          have e3 : IntKind.i64.wrap ((i : Int) + (1 : Int)) = ((i + 1 : Nat) : Int) := by rw [wrap64E]; omega
          simp only [Int.toNat_natCast, h1, cond_true, e3]
          refine ⟨by rw [hc, decide_eq_true (show (0 : Int) ≤ (i : Int) by omega)]; rfl, fun h => by simp at h, fun _ => ⟨h2, i + 1, LeL.refl _, LeH.refl _, hlt, rfl, ?_⟩⟩
          show 0 - (i + 1) < 0 - i; omega
        · have h := of_decide_eq_false hc
          obtain rfl : i = 0 := by have h2 : i ≤ 0 := hi; omega
          exact ⟨rfl, ⟨.refl _, .any _, .refl _, .refl _, .refl _, .refl _, .any _, .any _, trivial⟩, LeH.refl _⟩
      | succ m =>
        show (roundE (P := Try.prog) (Γ := Γw) [Z.c8] Lno false 0 0 loopL [0, 3, 9, 16, 17, 18, 19, 8] [] 154 [.v (.slice none 0 0), .sl 1 (m + 1) (i64F g), .v (.string w), .hs 0 0 (catN g (m + 1)).size, .v (.int .i64 0), .v (.string (catN g i)), .v (.int .i64 (i : Int)), .any] [some (.arr 1 (catN g (m + 1)).size (bsF (catN g (m + 1))))]).sat _
        rw [roundLnh]
        refine ⟨fun hc => ?_, fun hc => ?_⟩
        · have hlt : i < m + 1 := by have := of_decide_eq_true hc; omega
          have h1 := hok i hlt
          have h2 : decide ((catN g i).size + (numB (g i).toNat).size ≤ 9223372036854775807) = true := hst.resolve_right (fun h => h hlt)
          have e3 : IntKind.i64.wrap ((i : Int) + (1 : Int)) = ((i + 1 : Nat) : Int) := by rw [wrap64E]; omega
          simp only [Int.toNat_natCast, h1, cond_true, e3]
          refine ⟨by rw [hc, decide_eq_true (show (0 : Int) ≤ (i : Int) by omega)]; rfl, fun h => by simp at h, fun _ => ⟨h2, i + 1, LeL.refl _, LeH.refl _, hlt, rfl, ?_⟩⟩
          show m + 1 - (i + 1) < m + 1 - i; omega
        · have h := of_decide_eq_false hc
          obtain rfl : i = m + 1 := by have h2 : i ≤ m + 1 := hi; omega
          exact ⟨rfl, ⟨.refl _, .any _, .refl _, .refl _, .refl _, .refl _, .any _, .any _, trivial⟩, LeH.refl _⟩
  | sl b =>
    cases l with
    | hs m g => simp [NA.k] at hl
    | nil =>
      obtain rfl : i = 0 := Nat.le_zero.1 hi
      show (roundE (P := Try.prog) (Γ := Γw) [Z.c8] Lno false 0 0 loopL [0, 3, 9, 16, 17, 18, 19, 8] [] 154 [.sl 1 b.size (bsF b), .v (.slice none 0 0), .v (.string w), .v (.slice none 0 0), .v (.int .i64 0), .v (.string ⟨#[]⟩), .v (.int .i64 (0 : Nat)), .any] []).sat _
      rw [roundLsN]
      exact ⟨fun h => by simp at h, fun _ => ⟨rfl, ⟨.refl _, .any _, .refl _, .refl _, .refl _, .refl _, .any _, .any _, trivial⟩, LeH.refl _⟩⟩
    | sl m g =>
      have hok : ∀ j, j < m → okN (g j) = true := hok
      have hm : m ≤ 500 := hm
      have hst := okStep hok hm hi
      cases m with
      | zero =>
        show (roundE (P := Try.prog) (Γ := Γw) [Z.c8] Lno false 0 0 loopL [0, 3, 9, 16, 17, 18, 19, 8] [] 154 [.sl 1 b.size (bsF b), .sl 1 0 (i64F g), .v (.string w), .v (.slice none 0 0), .v (.int .i64 0), .v (.string (catN g i)), .v (.int .i64 (i : Int)), .any] []).sat _
        rw [roundLsn]
        refine ⟨fun hc => ?_, fun hc => ?_⟩
        · have hlt : i < 0 := by have := of_decide_eq_true hc; omega
          have h1 := hok i hlt
          have h2 : decide ((catN g i).size + (numB (g i).toNat).size ≤ 9223372036854775807) = true := hst.resolve_right (fun h => h hlt)
          have e3 : IntKind.i64.wrap ((i : Int) + (1 : Int)) = ((i + 1 : Nat) : Int) := by rw [wrap64E]; omega
          simp only [Int.toNat_natCast, h1, cond_true, e3]
          refine ⟨by rw [hc, decide_eq_true (show (0 : Int) ≤ (i : Int) by omega)]; rfl, fun h => by simp at h, fun _ => ⟨h2, i + 1, LeL.refl _, LeH.refl _, hlt, rfl, ?_⟩⟩
          show 0 - (i + 1) < 0 - i; omega
        · have h := of_decide_eq_false hc
          obtain rfl : i = 0 := by have h2 : i ≤ 0 := hi; omega
          exact ⟨rfl, ⟨.refl _, .any _, .refl _, .refl _, .refl _, .refl _, .any _, .any _, trivial⟩, LeH.refl _⟩
      | succ m =>
        show (roundE (P := Try.prog) (Γ := Γw) [Z.c8] Lno false 0 0 loopL [0, 3, 9, 16, 17, 18, 19, 8] [] 154 [.sl 1 b.size (bsF b), .sl 1 (m + 1) (i64F g), .v (.string w), .hs 0 0 (catN g (m + 1)).size, .v (.int .i64 0), .v (.string (catN g i)), .v (.int .i64 (i : Int)), .any] [some (.arr 1 (catN g (m + 1)).size (bsF (catN g (m + 1))))]).sat _
        rw [roundLsh]
        refine ⟨fun hc => ?_, fun hc => ?_⟩
        · have hlt : i < m + 1 := by have := of_decide_eq_true hc; omega
          have h1 := hok i hlt
          have h2 : decide ((catN g i).size + (numB (g i).toNat).size ≤ 9223372036854775807) = true := hst.resolve_right (fun h => h hlt)
          have e3 : IntKind.i64.wrap ((i : Int) + (1 : Int)) = ((i + 1 : Nat) : Int) := by rw [wrap64E]; omega
          simp only [Int.toNat_natCast, h1, cond_true, e3]
          refine ⟨by rw [hc, decide_eq_true (show (0 : Int) ≤ (i : Int) by omega)]; rfl, fun h => by simp at h, fun _ => ⟨h2, i + 1, LeL.refl _, LeH.refl _, hlt, rfl, ?_⟩⟩
          show m + 1 - (i + 1) < m + 1 - i; omega
        · have h := of_decide_eq_false hc
          obtain rfl : i = m + 1 := by have h2 : i ≤ m + 1 := hi; omega
          exact ⟨rfl, ⟨.refl _, .any _, .refl _, .refl _, .refl _, .refl _, .any _, .any _, trivial⟩, LeH.refl _⟩
theorem loopLb_ok (x : BA) (hx : x.n = 0) (m : Nat) (g : Nat → Int) (b : Nat) (hb : b < m) (hok : ∀ j, j < b → okN (g j) = true) (hbad : okN (g b) = false) (hm : m ≤ 500) : ∀ i, i ≤ b →
    LoopOK Try.prog Γw 0 154 loopL (LSpec.at [0, 3, 9, 16, 17, 18, 19, 8] [] (SL x.av (.sl 1 m (i64F g)) x.t (.v (.slice none 0 0)) 10 [] (catN g i) i) OLb) := by
  refine loop_at (S := fun i => SL x.av (.sl 1 m (i64F g)) x.t (.v (.slice none 0 0)) 10 [] (catN g i) i) (pre := fun i => i ≤ b) (O := fun _ => OLb) (k := 0) (fun i => b - i) fun i hi => ⟨[Z.c8], Lno, false, noLoops (by kernel_rfl), ?_⟩
  have hc : decide ((i : Int) < (m : Int)) = true := decide_eq_true (by omega)
  have hc0 : decide ((0 : Int) ≤ (i : Int)) = true := decide_eq_true (by omega)
  have e3 : IntKind.i64.wrap ((i : Int) + (1 : Int)) = ((i + 1 : Nat) : Int) := by rw [wrap64E]; omega
  have main : ∀ (bv : AV) (w : ByteArray) (D : Tree Out), D.sat (OwesA (fun i => SL bv (.sl 1 m (i64F g)) w (.v (.slice none 0 0)) 10 [] (catN g i) i) (fun i => i ≤ b) (fun _ => OLb) (fun i => b - i) (b - i) OLb) → (Tree.br (decide ((i : Int) < (m : Int)))
      (Tree.chk (decide ((0 : Int) ≤ (i : Int)) && decide ((i : Int) < (m : Int)) && true)
        (Tree.br (!okN (g (i : Int).toNat)) D
          (Tree.chk (decide ((catN g i).size + (bif okN (g (i : Int).toNat) then numB (g (i : Int).toNat).toNat else ByteArray.mk #[]).size ≤ (9223372036854775807 : Nat)))
            (Tree.leaf (Out.mk AEx.normal [bv, .sl 1 m (i64F g), .v (.string w), .v (.slice none 0 0), .v (.int .i64 10), .v (.string (catN g i ++ bif okN (g (i : Int).toNat) then numB (g (i : Int).toNat).toNat else ByteArray.mk #[])), .v (.int .i64 (IntKind.i64.wrap ((i : Int) + 1))), .any] [])))))
      (Tree.leaf (Out.mk (AEx.exit 0) [bv, .sl 1 m (i64F g), .v (.string w), .v (.slice none 0 0), .v (.int .i64 10), .v (.string (catN g i)), .v (.int .i64 (i : Int)), .any] []))).sat
      (OwesA (fun i => SL bv (.sl 1 m (i64F g)) w (.v (.slice none 0 0)) 10 [] (catN g i) i) (fun i => i ≤ b) (fun _ => OLb) (fun i => b - i) (b - i) OLb) := by
    intro bv w D hD
    rw [hc, hc0, Int.toNat_natCast]
    refine ⟨fun _ => ⟨rfl, ?_⟩, fun h => by simp at h⟩
    rcases Nat.lt_or_ge i b with hib | hib
    · have h1 := hok i hib
      have h2 : decide ((catN g i).size + (numB (g i).toNat).size ≤ 9223372036854775807) = true := (okStep (m := b) hok (by omega) hi).resolve_right (fun h => h hib)
      simp only [h1, cond_true, e3]
      refine ⟨fun h => by simp at h, fun _ => ⟨h2, i + 1, LeL.refl _, LeH.refl _, hib, rfl, ?_⟩⟩
      show b - (i + 1) < b - i; omega
    · obtain rfl : i = b := Nat.le_antisymm hi hib
      rw [hbad]
      exact ⟨fun _ => hD, fun h => by simp at h⟩
  cases x with
  | hs t => simp [BA.n] at hx
  | nil =>
    show (roundE (P := Try.prog) (Γ := Γw) [Z.c8] Lno false 0 0 loopL [0, 3, 9, 16, 17, 18, 19, 8] [] 154 [.v (.slice none 0 0), .sl 1 m (i64F g), .v (.string ⟨#[]⟩), .v (.slice none 0 0), .v (.int .i64 10), .v (.string (catN g i)), .v (.int .i64 (i : Int)), .any] []).sat _
    rw [roundLnn]
    refine main _ _ _ ?_
    exact ⟨rfl, ⟨.any _, .any _, .any _, .any _, .any _, .any _, .any _, .of_eq (by simp), trivial⟩, trivial⟩
  | sl t =>
    show (roundE (P := Try.prog) (Γ := Γw) [Z.c8] Lno false 0 0 loopL [0, 3, 9, 16, 17, 18, 19, 8] [] 154 [.sl 1 t.size (bsF t), .sl 1 m (i64F g), .v (.string t), .v (.slice none 0 0), .v (.int .i64 10), .v (.string (catN g i)), .v (.int .i64 (i : Int)), .any] []).sat _
    rw [roundLsn]
    refine main _ _ _ ?_
    exact ⟨by simp [allBytes_bsF], rfl, ⟨.any _, .any _, .any _, .any _, .any _, .any _, .any _, .of_eq (by simp [textOf_bsF]), trivial⟩, trivial⟩
end Go.Eng.W

/- wire: the law on what is written. -/
namespace Go.Eng.W
open Go Go.Eng Go.Proofs
set_option linter.unusedSimpArgs false
set_option linter.unusedVariables false
theorem runWggnn (s : ByteArray) (hb : BA.nil.ok) (n : Nat) (hn : n ≤ 4611686018427387904) (hs : s.size ≤ 65536) (hl : NA.nil.ok) : bodyE (P := Try.prog) (Γ := Γw) [c6, CT.at 7 (ansNum BA.nil n hb hn), Z.c8, CT.at 9 (ansText BA.nil s hb rfl hs), Z.c10, CT.at 11 (ansNumsN hl)] (fun _ => LSpec.at [0, 3, 9, 16, 17, 18, 19, 8] [] (SL (.v (.slice none 0 0)) (.v (.slice none 0 0)) ⟨#[]⟩ (.v (.slice none 0 0)) 0 [] ⟨#[]⟩ 0) (OLg (.v (.slice none 0 0)) ⟨#[]⟩ (.v (.slice none 0 0)) [] ⟨#[]⟩)) false 154 [.tmp 8] (bodyOf Try.f3) [.v (.slice none 0 0), .v (.int .i64 (n : Int)), .v (.string s), .v (.slice none 0 0)] [] =
  Tree.br (bif false then true else bif decide ((70000 : Int) < (↑s.size : Int)) then true else false)
  (Tree.leaf (Ans.mk (AV.v (Value.bool true)) []))
  (Tree.chk
    (cl
      (LeL [AV.v (Value.slice none (0 : Nat) (0 : Nat)), AV.v (Value.int IntKind.i64 (↑n : Int))]
          [AV.v (Value.slice none (0 : Nat) (0 : Nat)), AV.v (Value.int IntKind.i64 (↑n : Int))] ∧
        LeH [] []))
    (Tree.chk true
      (Tree.chk
        (bif okN (↑n : Int) then
          bif false then true
          else
            (allBytes (BA.nil.t ++ numB n).size fun j =>
                [AV.v (Value.int IntKind.u8 (sbyte (BA.nil.t ++ numB n) ((0 : Nat) + j)))]) &&
              decide
                ((0 : Nat) + (bif okN (↑n : Int) then numB (↑n : Int).toNat else ByteArray.mk #[]).size ≤
                  (9223372036854775807 : Nat))
        else true)
        (Tree.br
          (bif okN (↑n : Int) then
            bif false then true
            else
              bif
                  !decide
                      ((textOf (BA.nil.t ++ numB n).size fun j =>
                          [AV.v (Value.int IntKind.u8 (sbyte (BA.nil.t ++ numB n) ((0 : Nat) + j)))]) =
                        ByteArray.mk #[] ++ bif okN (↑n : Int) then numB (↑n : Int).toNat else ByteArray.mk #[]) then
                true
              else
                bif !okN (↑n : Int) then bif true then true else decide ((0 : Int) < (↑(BA.nil.t ++ numB n).size : Int))
                else false
          else
            bif !okN (↑n : Int) then bif true then true else decide ((0 : Int) < (↑(BA.nil.t ++ numB n).size : Int))
            else false)
          (Tree.leaf (Ans.mk (AV.v (Value.bool false)) []))
          (Tree.chk
            (cl
              (LeL [AV.v (Value.slice none (0 : Nat) (0 : Nat)), AV.v (Value.string s)]
                  [AV.v (Value.slice none (0 : Nat) (0 : Nat)), AV.v (Value.string s)] ∧
                LeH [] []))
            (Tree.br (decide ((65536 : Int) < (↑s.size : Int)))
              (Tree.br (bif true then true else decide ((0 : Int) < (↑(textB BA.nil.t s).size : Int)))
                (Tree.leaf (Ans.mk (AV.v (Value.bool false)) []))
                (Tree.chk
                  (cl
                    (LeL [AV.v (Value.slice none (0 : Nat) (0 : Nat))] [AV.v (Value.slice none (0 : Nat) (0 : Nat))] ∧
                      LeH [] []))
                  (Tree.chk
                    (cl
                      (LeL
                          [AV.v (Value.slice none (0 : Nat) (0 : Nat)), AV.v (Value.slice none (0 : Nat) (0 : Nat)),
                            AV.v (Value.string (ByteArray.mk #[])), AV.v (Value.slice none (0 : Nat) (0 : Nat)),
                            AV.v (Value.int IntKind.i64 (0 : Int)), AV.v (Value.string (ByteArray.mk #[])),
                            AV.v (Value.int IntKind.i64 (0 : Int)), AV.v (Value.bool false)]
                          [AV.v (Value.slice none (0 : Nat) (0 : Nat)), AV.v (Value.slice none (0 : Nat) (0 : Nat)),
                            AV.v (Value.string (ByteArray.mk #[])), AV.v (Value.slice none (0 : Nat) (0 : Nat)),
                            AV.v (Value.int IntKind.i64 (0 : Int)), AV.v (Value.string (ByteArray.mk #[])),
                            AV.v (Value.int IntKind.i64 (↑(0 : Nat) : Int)), AV.any] ∧
                        LeH [] []))
                    (Tree.leaf (Ans.mk (AV.sb true) [])))))
              (Tree.chk
                (bif false then true
                else
                  (allBytes (textB BA.nil.t s).size fun j =>
                      [AV.v (Value.int IntKind.u8 (sbyte (textB BA.nil.t s) ((0 : Nat) + j)))]) &&
                    (true &&
                        decide
                          ((bif okN (↑s.size : Int) then numB (↑s.size : Int).toNat else ByteArray.mk #[]).size +
                              s.size ≤
                            (9223372036854775807 : Nat)) &&
                      decide
                        ((0 : Nat) +
                            ((bif okN (↑s.size : Int) then numB (↑s.size : Int).toNat else ByteArray.mk #[]) ++
                                s).size ≤
                          (9223372036854775807 : Nat))))
                (Tree.br
                  (bif false then true
                  else
                    !decide
                        ((textOf (textB BA.nil.t s).size fun j =>
                            [AV.v (Value.int IntKind.u8 (sbyte (textB BA.nil.t s) ((0 : Nat) + j)))]) =
                          ByteArray.mk #[] ++
                            ((bif okN (↑s.size : Int) then numB (↑s.size : Int).toNat else ByteArray.mk #[]) ++ s)))
                  (Tree.leaf (Ans.mk (AV.v (Value.bool false)) []))
                  (Tree.chk
                    (cl
                      (LeL [AV.v (Value.slice none (0 : Nat) (0 : Nat))] [AV.v (Value.slice none (0 : Nat) (0 : Nat))] ∧
                        LeH [] []))
                    (Tree.chk
                      (cl
                        (LeL
                            [AV.v (Value.slice none (0 : Nat) (0 : Nat)), AV.v (Value.slice none (0 : Nat) (0 : Nat)),
                              AV.v (Value.string (ByteArray.mk #[])), AV.v (Value.slice none (0 : Nat) (0 : Nat)),
                              AV.v (Value.int IntKind.i64 (0 : Int)), AV.v (Value.string (ByteArray.mk #[])),
                              AV.v (Value.int IntKind.i64 (0 : Int)), AV.v (Value.bool false)]
                            [AV.v (Value.slice none (0 : Nat) (0 : Nat)), AV.v (Value.slice none (0 : Nat) (0 : Nat)),
                              AV.v (Value.string (ByteArray.mk #[])), AV.v (Value.slice none (0 : Nat) (0 : Nat)),
                              AV.v (Value.int IntKind.i64 (0 : Int)), AV.v (Value.string (ByteArray.mk #[])),
                              AV.v (Value.int IntKind.i64 (↑(0 : Nat) : Int)), AV.any] ∧
                          LeH [] []))
                      (Tree.leaf (Ans.mk (AV.sb true) [])))))))))))) := by kernel_rfl
theorem lawWggnn (s : ByteArray) (hb : BA.nil.ok) (n : Nat) (hn : n ≤ 4611686018427387904) (hs : s.size ≤ 65536) (hl : NA.nil.ok) : Right (bodyE (P := Try.prog) (Γ := Γw) [c6, CT.at 7 (ansNum BA.nil n hb hn), Z.c8, CT.at 9 (ansText BA.nil s hb rfl hs), Z.c10, CT.at 11 (ansNumsN hl)] (fun _ => LSpec.at [0, 3, 9, 16, 17, 18, 19, 8] [] (SL (.v (.slice none 0 0)) (.v (.slice none 0 0)) ⟨#[]⟩ (.v (.slice none 0 0)) 0 [] ⟨#[]⟩ 0) (OLg (.v (.slice none 0 0)) ⟨#[]⟩ (.v (.slice none 0 0)) [] ⟨#[]⟩)) false 154 [.tmp 8] (bodyOf Try.f3) [.v (.slice none 0 0), .v (.int .i64 (n : Int)), .v (.string s), .v (.slice none 0 0)] []) := by
  refine Right.of (runWggnn s hb n hn hs hl) ?_
  refine ⟨fun _ => ⟨.refl _, trivial⟩, fun h0 => ?_⟩
  obtain ⟨h1, h2, h3⟩ := guard3 h0
  clear h0
  have q2 : s.size ≤ 70000 := by have := of_decide_eq_false h2; omega
  have q3 := (numB_size hn).1
  have q4 := (numB_size (show s.size ≤ 4611686018427387904 by omega)).1
  simp [okN_of hn, okN_of (show s.size ≤ 4611686018427387904 by omega), allBytes0, textOf0, allBytesF, textOfF, textOfF2, textOfF3, le_vv, allBytes_bsF, textOf_bsF, BA.t, LeL_self, LeH_self, cl_true, Tree.sat, cl_iff, textB, le_sbv, empty_append, append_empty, ByteArray.append_assoc]
  omega
theorem runWggn0 (s : ByteArray) (hb : BA.nil.ok) (n : Nat) (hn : n ≤ 4611686018427387904) (hs : s.size ≤ 65536) (g : Nat → Int) (hl : (NA.sl 0 g).ok) : bodyE (P := Try.prog) (Γ := Γw) [c6, CT.at 7 (ansNum BA.nil n hb hn), Z.c8, CT.at 9 (ansText BA.nil s hb rfl hs), Z.c10, CT.at 11 (ansNums0 g hl)] (fun _ => LSpec.at [0, 3, 9, 16, 17, 18, 19, 8] [] (SL (.v (.slice none 0 0)) (.sl 1 0 (i64F g)) ⟨#[]⟩ (.v (.slice none 0 0)) 0 [] ⟨#[]⟩ 0) (OLg (.v (.slice none 0 0)) ⟨#[]⟩ (.v (.slice none 0 0)) [] ⟨#[]⟩)) false 154 [.tmp 8] (bodyOf Try.f3) [.v (.slice none 0 0), .v (.int .i64 (n : Int)), .v (.string s), .sl 1 0 (i64F g)] [] =
  Tree.br (bif false then true else bif decide ((70000 : Int) < (↑s.size : Int)) then true else false)
  (Tree.leaf (Ans.mk (AV.v (Value.bool true)) []))
  (Tree.chk
    (cl
      (LeL [AV.v (Value.slice none (0 : Nat) (0 : Nat)), AV.v (Value.int IntKind.i64 (↑n : Int))]
          [AV.v (Value.slice none (0 : Nat) (0 : Nat)), AV.v (Value.int IntKind.i64 (↑n : Int))] ∧
        LeH [] []))
    (Tree.chk true
      (Tree.chk
        (bif okN (↑n : Int) then
          bif false then true
          else
            (allBytes (BA.nil.t ++ numB n).size fun j =>
                [AV.v (Value.int IntKind.u8 (sbyte (BA.nil.t ++ numB n) ((0 : Nat) + j)))]) &&
              decide
                ((0 : Nat) + (bif okN (↑n : Int) then numB (↑n : Int).toNat else ByteArray.mk #[]).size ≤
                  (9223372036854775807 : Nat))
        else true)
        (Tree.br
          (bif okN (↑n : Int) then
            bif false then true
            else
              bif
                  !decide
                      ((textOf (BA.nil.t ++ numB n).size fun j =>
                          [AV.v (Value.int IntKind.u8 (sbyte (BA.nil.t ++ numB n) ((0 : Nat) + j)))]) =
                        ByteArray.mk #[] ++ bif okN (↑n : Int) then numB (↑n : Int).toNat else ByteArray.mk #[]) then
                true
              else
                bif !okN (↑n : Int) then bif true then true else decide ((0 : Int) < (↑(BA.nil.t ++ numB n).size : Int))
                else false
          else
            bif !okN (↑n : Int) then bif true then true else decide ((0 : Int) < (↑(BA.nil.t ++ numB n).size : Int))
            else false)
          (Tree.leaf (Ans.mk (AV.v (Value.bool false)) []))
          (Tree.chk
            (cl
              (LeL [AV.v (Value.slice none (0 : Nat) (0 : Nat)), AV.v (Value.string s)]
                  [AV.v (Value.slice none (0 : Nat) (0 : Nat)), AV.v (Value.string s)] ∧
                LeH [] []))
            (Tree.br (decide ((65536 : Int) < (↑s.size : Int)))
              (Tree.br (bif true then true else decide ((0 : Int) < (↑(textB BA.nil.t s).size : Int)))
                (Tree.leaf (Ans.mk (AV.v (Value.bool false)) []))
                (Tree.chk
                  (cl
                    (LeL [AV.sl (1 : Nat) (0 : Nat) fun j => [AV.v (Value.int IntKind.i64 (g j))]]
                        [AV.sl (1 : Nat) (0 : Nat) fun j => [AV.v (Value.int IntKind.i64 (g j))]] ∧
                      LeH [] []))
                  (Tree.chk
                    (cl
                      (LeL
                          [AV.v (Value.slice none (0 : Nat) (0 : Nat)),
                            AV.sl (1 : Nat) (0 : Nat) fun j => [AV.v (Value.int IntKind.i64 (g j))],
                            AV.v (Value.string (ByteArray.mk #[])), AV.v (Value.slice none (0 : Nat) (0 : Nat)),
                            AV.v (Value.int IntKind.i64 (0 : Int)), AV.v (Value.string (ByteArray.mk #[])),
                            AV.v (Value.int IntKind.i64 (0 : Int)), AV.v (Value.bool false)]
                          [AV.v (Value.slice none (0 : Nat) (0 : Nat)),
                            AV.sl (1 : Nat) (0 : Nat) fun j => [AV.v (Value.int IntKind.i64 (g j))],
                            AV.v (Value.string (ByteArray.mk #[])), AV.v (Value.slice none (0 : Nat) (0 : Nat)),
                            AV.v (Value.int IntKind.i64 (0 : Int)), AV.v (Value.string (ByteArray.mk #[])),
                            AV.v (Value.int IntKind.i64 (↑(0 : Nat) : Int)), AV.any] ∧
                        LeH [] []))
                    (Tree.leaf (Ans.mk (AV.sb true) [])))))
              (Tree.chk
                (bif false then true
                else
                  (allBytes (textB BA.nil.t s).size fun j =>
                      [AV.v (Value.int IntKind.u8 (sbyte (textB BA.nil.t s) ((0 : Nat) + j)))]) &&
                    (true &&
                        decide
                          ((bif okN (↑s.size : Int) then numB (↑s.size : Int).toNat else ByteArray.mk #[]).size +
                              s.size ≤
                            (9223372036854775807 : Nat)) &&
                      decide
                        ((0 : Nat) +
                            ((bif okN (↑s.size : Int) then numB (↑s.size : Int).toNat else ByteArray.mk #[]) ++
                                s).size ≤
                          (9223372036854775807 : Nat))))
                (Tree.br
                  (bif false then true
                  else
                    !decide
                        ((textOf (textB BA.nil.t s).size fun j =>
                            [AV.v (Value.int IntKind.u8 (sbyte (textB BA.nil.t s) ((0 : Nat) + j)))]) =
                          ByteArray.mk #[] ++
                            ((bif okN (↑s.size : Int) then numB (↑s.size : Int).toNat else ByteArray.mk #[]) ++ s)))
                  (Tree.leaf (Ans.mk (AV.v (Value.bool false)) []))
                  (Tree.chk
                    (cl
                      (LeL [AV.sl (1 : Nat) (0 : Nat) fun j => [AV.v (Value.int IntKind.i64 (g j))]]
                          [AV.sl (1 : Nat) (0 : Nat) fun j => [AV.v (Value.int IntKind.i64 (g j))]] ∧
                        LeH [] []))
                    (Tree.chk
                      (cl
                        (LeL
                            [AV.v (Value.slice none (0 : Nat) (0 : Nat)),
                              AV.sl (1 : Nat) (0 : Nat) fun j => [AV.v (Value.int IntKind.i64 (g j))],
                              AV.v (Value.string (ByteArray.mk #[])), AV.v (Value.slice none (0 : Nat) (0 : Nat)),
                              AV.v (Value.int IntKind.i64 (0 : Int)), AV.v (Value.string (ByteArray.mk #[])),
                              AV.v (Value.int IntKind.i64 (0 : Int)), AV.v (Value.bool false)]
                            [AV.v (Value.slice none (0 : Nat) (0 : Nat)),
                              AV.sl (1 : Nat) (0 : Nat) fun j => [AV.v (Value.int IntKind.i64 (g j))],
                              AV.v (Value.string (ByteArray.mk #[])), AV.v (Value.slice none (0 : Nat) (0 : Nat)),
                              AV.v (Value.int IntKind.i64 (0 : Int)), AV.v (Value.string (ByteArray.mk #[])),
                              AV.v (Value.int IntKind.i64 (↑(0 : Nat) : Int)), AV.any] ∧
                          LeH [] []))
                      (Tree.leaf (Ans.mk (AV.sb true) [])))))))))))) := by kernel_rfl
theorem lawWggn0 (s : ByteArray) (hb : BA.nil.ok) (n : Nat) (hn : n ≤ 4611686018427387904) (hs : s.size ≤ 65536) (g : Nat → Int) (hl : (NA.sl 0 g).ok) : Right (bodyE (P := Try.prog) (Γ := Γw) [c6, CT.at 7 (ansNum BA.nil n hb hn), Z.c8, CT.at 9 (ansText BA.nil s hb rfl hs), Z.c10, CT.at 11 (ansNums0 g hl)] (fun _ => LSpec.at [0, 3, 9, 16, 17, 18, 19, 8] [] (SL (.v (.slice none 0 0)) (.sl 1 0 (i64F g)) ⟨#[]⟩ (.v (.slice none 0 0)) 0 [] ⟨#[]⟩ 0) (OLg (.v (.slice none 0 0)) ⟨#[]⟩ (.v (.slice none 0 0)) [] ⟨#[]⟩)) false 154 [.tmp 8] (bodyOf Try.f3) [.v (.slice none 0 0), .v (.int .i64 (n : Int)), .v (.string s), .sl 1 0 (i64F g)] []) := by
  refine Right.of (runWggn0 s hb n hn hs g hl) ?_
  refine ⟨fun _ => ⟨.refl _, trivial⟩, fun h0 => ?_⟩
  obtain ⟨h1, h2, h3⟩ := guard3 h0
  clear h0
  have q2 : s.size ≤ 70000 := by have := of_decide_eq_false h2; omega
  have q3 := (numB_size hn).1
  have q4 := (numB_size (show s.size ≤ 4611686018427387904 by omega)).1
  simp [okN_of hn, okN_of (show s.size ≤ 4611686018427387904 by omega), allBytes0, textOf0, allBytesF, textOfF, textOfF2, textOfF3, le_vv, allBytes_bsF, textOf_bsF, BA.t, LeL_self, LeH_self, cl_true, Tree.sat, cl_iff, textB, le_sbv, empty_append, append_empty, ByteArray.append_assoc]
  omega
theorem runWggnm (s : ByteArray) (hb : BA.nil.ok) (n : Nat) (hn : n ≤ 4611686018427387904) (hs : s.size ≤ 65536) (m : Nat) (g : Nat → Int) (hl : (NA.sl (m + 1) g).ok) : bodyE (P := Try.prog) (Γ := Γw) [c6, CT.at 7 (ansNum BA.nil n hb hn), Z.c8, CT.at 9 (ansText BA.nil s hb rfl hs), Z.c10, CT.at 11 (ansNumsS m g hl)] (fun _ => LSpec.at [0, 3, 9, 16, 17, 18, 19, 8] [] (SL (.v (.slice none 0 0)) (.sl 1 (m + 1) (i64F g)) ⟨#[]⟩ (.hs 0 0 (catN g (m + 1)).size) 0 [some (.arr 1 (catN g (m + 1)).size (bsF (catN g (m + 1))))] ⟨#[]⟩ 0) (OLg (.v (.slice none 0 0)) ⟨#[]⟩ (.hs 0 0 (catN g (m + 1)).size) [some (.arr 1 (catN g (m + 1)).size (bsF (catN g (m + 1))))] (catN g (m + 1)))) false 154 [.tmp 8] (bodyOf Try.f3) [.v (.slice none 0 0), .v (.int .i64 (n : Int)), .v (.string s), .sl 1 (m + 1) (i64F g)] [] =
  Tree.br
  (bif false then true
  else bif decide ((70000 : Int) < (↑s.size : Int)) then true else decide ((500 : Int) < (↑(m + (1 : Nat)) : Int)))
  (Tree.leaf (Ans.mk (AV.v (Value.bool true)) []))
  (Tree.chk
    (cl
      (LeL [AV.v (Value.slice none (0 : Nat) (0 : Nat)), AV.v (Value.int IntKind.i64 (↑n : Int))]
          [AV.v (Value.slice none (0 : Nat) (0 : Nat)), AV.v (Value.int IntKind.i64 (↑n : Int))] ∧
        LeH [] []))
    (Tree.chk true
      (Tree.chk
        (bif okN (↑n : Int) then
          bif false then true
          else
            (allBytes (BA.nil.t ++ numB n).size fun j =>
                [AV.v (Value.int IntKind.u8 (sbyte (BA.nil.t ++ numB n) ((0 : Nat) + j)))]) &&
              decide
                ((0 : Nat) + (bif okN (↑n : Int) then numB (↑n : Int).toNat else ByteArray.mk #[]).size ≤
                  (9223372036854775807 : Nat))
        else true)
        (Tree.br
          (bif okN (↑n : Int) then
            bif false then true
            else
              bif
                  !decide
                      ((textOf (BA.nil.t ++ numB n).size fun j =>
                          [AV.v (Value.int IntKind.u8 (sbyte (BA.nil.t ++ numB n) ((0 : Nat) + j)))]) =
                        ByteArray.mk #[] ++ bif okN (↑n : Int) then numB (↑n : Int).toNat else ByteArray.mk #[]) then
                true
              else
                bif !okN (↑n : Int) then bif true then true else decide ((0 : Int) < (↑(BA.nil.t ++ numB n).size : Int))
                else false
          else
            bif !okN (↑n : Int) then bif true then true else decide ((0 : Int) < (↑(BA.nil.t ++ numB n).size : Int))
            else false)
          (Tree.leaf (Ans.mk (AV.v (Value.bool false)) []))
          (Tree.chk
            (cl
              (LeL [AV.v (Value.slice none (0 : Nat) (0 : Nat)), AV.v (Value.string s)]
                  [AV.v (Value.slice none (0 : Nat) (0 : Nat)), AV.v (Value.string s)] ∧
                LeH [] []))
            (Tree.br (decide ((65536 : Int) < (↑s.size : Int)))
              (Tree.br (bif true then true else decide ((0 : Int) < (↑(textB BA.nil.t s).size : Int)))
                (Tree.leaf (Ans.mk (AV.v (Value.bool false)) []))
                (Tree.chk
                  (cl
                    (LeL [AV.sl (1 : Nat) (m + (1 : Nat)) fun j => [AV.v (Value.int IntKind.i64 (g j))]]
                        [AV.sl (1 : Nat) (m + (1 : Nat)) fun j => [AV.v (Value.int IntKind.i64 (g j))]] ∧
                      LeH [] []))
                  (Tree.chk
                    (cl
                      (LeL
                          [AV.v (Value.slice none (0 : Nat) (0 : Nat)),
                            AV.sl (1 : Nat) (m + (1 : Nat)) fun j => [AV.v (Value.int IntKind.i64 (g j))],
                            AV.v (Value.string (ByteArray.mk #[])),
                            AV.hs (0 : Nat) (0 : Nat) (catN g (m + (1 : Nat))).size,
                            AV.v (Value.int IntKind.i64 (0 : Int)), AV.v (Value.string (ByteArray.mk #[])),
                            AV.v (Value.int IntKind.i64 (0 : Int)), AV.v (Value.bool false)]
                          [AV.v (Value.slice none (0 : Nat) (0 : Nat)),
                            AV.sl (1 : Nat) (m + (1 : Nat)) fun j => [AV.v (Value.int IntKind.i64 (g j))],
                            AV.v (Value.string (ByteArray.mk #[])),
                            AV.hs (0 : Nat) (0 : Nat) (catN g (m + (1 : Nat))).size,
                            AV.v (Value.int IntKind.i64 (0 : Int)), AV.v (Value.string (ByteArray.mk #[])),
                            AV.v (Value.int IntKind.i64 (↑(0 : Nat) : Int)), AV.any] ∧
                        LeH
                          [some
                              (Blk.arr (1 : Nat) (catN g (m + (1 : Nat))).size fun j =>
                                [AV.v (Value.int IntKind.u8 (sbyte (catN g (m + (1 : Nat))) j))])]
                          [some
                              (Blk.arr (1 : Nat) (catN g (m + (1 : Nat))).size fun j =>
                                [AV.v (Value.int IntKind.u8 (sbyte (catN g (m + (1 : Nat))) j))])]))
                    (Tree.chk
                      (bif true then
                        allBytes (catN g (m + (1 : Nat))).size fun j =>
                          [AV.v (Value.int IntKind.u8 (sbyte (catN g (m + (1 : Nat))) ((0 : Nat) + j)))]
                      else true)
                      (Tree.leaf
                        (Ans.mk
                          (AV.sb
                            (bif true then
                              bif
                                  decide
                                    ((textOf (catN g (m + (1 : Nat))).size fun j =>
                                        [AV.v
                                            (Value.int IntKind.u8 (sbyte (catN g (m + (1 : Nat))) ((0 : Nat) + j)))]) =
                                      catN g (m + (1 : Nat))) then
                                true
                              else false
                            else false))
                          []))))))
              (Tree.chk
                (bif false then true
                else
                  (allBytes (textB BA.nil.t s).size fun j =>
                      [AV.v (Value.int IntKind.u8 (sbyte (textB BA.nil.t s) ((0 : Nat) + j)))]) &&
                    (true &&
                        decide
                          ((bif okN (↑s.size : Int) then numB (↑s.size : Int).toNat else ByteArray.mk #[]).size +
                              s.size ≤
                            (9223372036854775807 : Nat)) &&
                      decide
                        ((0 : Nat) +
                            ((bif okN (↑s.size : Int) then numB (↑s.size : Int).toNat else ByteArray.mk #[]) ++
                                s).size ≤
                          (9223372036854775807 : Nat))))
                (Tree.br
                  (bif false then true
                  else
                    !decide
                        ((textOf (textB BA.nil.t s).size fun j =>
                            [AV.v (Value.int IntKind.u8 (sbyte (textB BA.nil.t s) ((0 : Nat) + j)))]) =
                          ByteArray.mk #[] ++
                            ((bif okN (↑s.size : Int) then numB (↑s.size : Int).toNat else ByteArray.mk #[]) ++ s)))
                  (Tree.leaf (Ans.mk (AV.v (Value.bool false)) []))
                  (Tree.chk
                    (cl
                      (LeL [AV.sl (1 : Nat) (m + (1 : Nat)) fun j => [AV.v (Value.int IntKind.i64 (g j))]]
                          [AV.sl (1 : Nat) (m + (1 : Nat)) fun j => [AV.v (Value.int IntKind.i64 (g j))]] ∧
                        LeH [] []))
                    (Tree.chk
                      (cl
                        (LeL
                            [AV.v (Value.slice none (0 : Nat) (0 : Nat)),
                              AV.sl (1 : Nat) (m + (1 : Nat)) fun j => [AV.v (Value.int IntKind.i64 (g j))],
                              AV.v (Value.string (ByteArray.mk #[])),
                              AV.hs (0 : Nat) (0 : Nat) (catN g (m + (1 : Nat))).size,
                              AV.v (Value.int IntKind.i64 (0 : Int)), AV.v (Value.string (ByteArray.mk #[])),
                              AV.v (Value.int IntKind.i64 (0 : Int)), AV.v (Value.bool false)]
                            [AV.v (Value.slice none (0 : Nat) (0 : Nat)),
                              AV.sl (1 : Nat) (m + (1 : Nat)) fun j => [AV.v (Value.int IntKind.i64 (g j))],
                              AV.v (Value.string (ByteArray.mk #[])),
                              AV.hs (0 : Nat) (0 : Nat) (catN g (m + (1 : Nat))).size,
                              AV.v (Value.int IntKind.i64 (0 : Int)), AV.v (Value.string (ByteArray.mk #[])),
                              AV.v (Value.int IntKind.i64 (↑(0 : Nat) : Int)), AV.any] ∧
                          LeH
                            [some
                                (Blk.arr (1 : Nat) (catN g (m + (1 : Nat))).size fun j =>
                                  [AV.v (Value.int IntKind.u8 (sbyte (catN g (m + (1 : Nat))) j))])]
                            [some
                                (Blk.arr (1 : Nat) (catN g (m + (1 : Nat))).size fun j =>
                                  [AV.v (Value.int IntKind.u8 (sbyte (catN g (m + (1 : Nat))) j))])]))
                      (Tree.chk
                        (bif true then
                          allBytes (catN g (m + (1 : Nat))).size fun j =>
                            [AV.v (Value.int IntKind.u8 (sbyte (catN g (m + (1 : Nat))) ((0 : Nat) + j)))]
                        else true)
                        (Tree.leaf
                          (Ans.mk
                            (AV.sb
                              (bif true then
                                bif
                                    decide
                                      ((textOf (catN g (m + (1 : Nat))).size fun j =>
                                          [AV.v
                                              (Value.int IntKind.u8
                                                (sbyte (catN g (m + (1 : Nat))) ((0 : Nat) + j)))]) =
                                        catN g (m + (1 : Nat))) then
                                  true
                                else false
                              else false))
                            []))))))))))))) := by kernel_rfl
theorem lawWggnm (s : ByteArray) (hb : BA.nil.ok) (n : Nat) (hn : n ≤ 4611686018427387904) (hs : s.size ≤ 65536) (m : Nat) (g : Nat → Int) (hl : (NA.sl (m + 1) g).ok) : Right (bodyE (P := Try.prog) (Γ := Γw) [c6, CT.at 7 (ansNum BA.nil n hb hn), Z.c8, CT.at 9 (ansText BA.nil s hb rfl hs), Z.c10, CT.at 11 (ansNumsS m g hl)] (fun _ => LSpec.at [0, 3, 9, 16, 17, 18, 19, 8] [] (SL (.v (.slice none 0 0)) (.sl 1 (m + 1) (i64F g)) ⟨#[]⟩ (.hs 0 0 (catN g (m + 1)).size) 0 [some (.arr 1 (catN g (m + 1)).size (bsF (catN g (m + 1))))] ⟨#[]⟩ 0) (OLg (.v (.slice none 0 0)) ⟨#[]⟩ (.hs 0 0 (catN g (m + 1)).size) [some (.arr 1 (catN g (m + 1)).size (bsF (catN g (m + 1))))] (catN g (m + 1)))) false 154 [.tmp 8] (bodyOf Try.f3) [.v (.slice none 0 0), .v (.int .i64 (n : Int)), .v (.string s), .sl 1 (m + 1) (i64F g)] []) := by
  refine Right.of (runWggnm s hb n hn hs m g hl) ?_
  refine ⟨fun _ => ⟨.refl _, trivial⟩, fun h0 => ?_⟩
  obtain ⟨h1, h2, h3⟩ := guard3 h0
  clear h0
  have q2 : s.size ≤ 70000 := by have := of_decide_eq_false h2; omega
  have q3 := (numB_size hn).1
  have q4 := (numB_size (show s.size ≤ 4611686018427387904 by omega)).1
  have q5 := (catN_small (g := g) (i := m + 1) hl.1).1
  have q6 : m + 1 ≤ 500 := by have := of_decide_eq_false h3; omega
  simp [okN_of hn, okN_of (show s.size ≤ 4611686018427387904 by omega), allBytes0, textOf0, allBytesF, textOfF, textOfF2, textOfF3, le_vv, allBytes_bsF, textOf_bsF, BA.t, LeL_self, LeH_self, cl_true, Tree.sat, cl_iff, textB, le_sbv, empty_append, append_empty, ByteArray.append_assoc]
  omega
theorem runWggnb (s : ByteArray) (hb : BA.nil.ok) (n : Nat) (hn : n ≤ 4611686018427387904) (hs : s.size ≤ 65536) (m : Nat) (g : Nat → Int) (c : Nat) (hc : c < m) (hok : ∀ j, j < c → okN (g j) = true) (hbad : okN (g c) = false) (hm : m ≤ 100000) : bodyE (P := Try.prog) (Γ := Γw) [c6, CT.at 7 (ansNum BA.nil n hb hn), Z.c8, CT.at 9 (ansText BA.nil s hb rfl hs), Z.c10, CT.at 11 (ansNumsBad m g c hc hok hbad hm)] (fun _ => LSpec.at [0, 3, 9, 16, 17, 18, 19, 8] [] (SL (.v (.slice none 0 0)) (.sl 1 m (i64F g)) ⟨#[]⟩ (.v (.slice none 0 0)) 10 [] ⟨#[]⟩ 0) OLb) false 154 [.tmp 8] (bodyOf Try.f3) [.v (.slice none 0 0), .v (.int .i64 (n : Int)), .v (.string s), .sl 1 m (i64F g)] [] =
  Tree.br
  (bif false then true
  else bif decide ((70000 : Int) < (↑s.size : Int)) then true else decide ((500 : Int) < (↑m : Int)))
  (Tree.leaf (Ans.mk (AV.v (Value.bool true)) []))
  (Tree.chk
    (cl
      (LeL [AV.v (Value.slice none (0 : Nat) (0 : Nat)), AV.v (Value.int IntKind.i64 (↑n : Int))]
          [AV.v (Value.slice none (0 : Nat) (0 : Nat)), AV.v (Value.int IntKind.i64 (↑n : Int))] ∧
        LeH [] []))
    (Tree.chk true
      (Tree.chk
        (bif okN (↑n : Int) then
          bif false then true
          else
            (allBytes (BA.nil.t ++ numB n).size fun j =>
                [AV.v (Value.int IntKind.u8 (sbyte (BA.nil.t ++ numB n) ((0 : Nat) + j)))]) &&
              decide
                ((0 : Nat) + (bif okN (↑n : Int) then numB (↑n : Int).toNat else ByteArray.mk #[]).size ≤
                  (9223372036854775807 : Nat))
        else true)
        (Tree.br
          (bif okN (↑n : Int) then
            bif false then true
            else
              bif
                  !decide
                      ((textOf (BA.nil.t ++ numB n).size fun j =>
                          [AV.v (Value.int IntKind.u8 (sbyte (BA.nil.t ++ numB n) ((0 : Nat) + j)))]) =
                        ByteArray.mk #[] ++ bif okN (↑n : Int) then numB (↑n : Int).toNat else ByteArray.mk #[]) then
                true
              else
                bif !okN (↑n : Int) then bif true then true else decide ((0 : Int) < (↑(BA.nil.t ++ numB n).size : Int))
                else false
          else
            bif !okN (↑n : Int) then bif true then true else decide ((0 : Int) < (↑(BA.nil.t ++ numB n).size : Int))
            else false)
          (Tree.leaf (Ans.mk (AV.v (Value.bool false)) []))
          (Tree.chk
            (cl
              (LeL [AV.v (Value.slice none (0 : Nat) (0 : Nat)), AV.v (Value.string s)]
                  [AV.v (Value.slice none (0 : Nat) (0 : Nat)), AV.v (Value.string s)] ∧
                LeH [] []))
            (Tree.br (decide ((65536 : Int) < (↑s.size : Int)))
              (Tree.br (bif true then true else decide ((0 : Int) < (↑(textB BA.nil.t s).size : Int)))
                (Tree.leaf (Ans.mk (AV.v (Value.bool false)) []))
                (Tree.chk
                  (cl
                    (LeL [AV.sl (1 : Nat) m fun j => [AV.v (Value.int IntKind.i64 (g j))]]
                        [AV.sl (1 : Nat) m fun j => [AV.v (Value.int IntKind.i64 (g j))]] ∧
                      LeH [] []))
                  (Tree.chk
                    (cl
                      (LeL
                          [AV.v (Value.slice none (0 : Nat) (0 : Nat)),
                            AV.sl (1 : Nat) m fun j => [AV.v (Value.int IntKind.i64 (g j))],
                            AV.v (Value.string (ByteArray.mk #[])), AV.v (Value.slice none (0 : Nat) (0 : Nat)),
                            AV.v (Value.int IntKind.i64 (10 : Int)), AV.v (Value.string (ByteArray.mk #[])),
                            AV.v (Value.int IntKind.i64 (0 : Int)), AV.v (Value.bool false)]
                          [AV.v (Value.slice none (0 : Nat) (0 : Nat)),
                            AV.sl (1 : Nat) m fun j => [AV.v (Value.int IntKind.i64 (g j))],
                            AV.v (Value.string (ByteArray.mk #[])), AV.v (Value.slice none (0 : Nat) (0 : Nat)),
                            AV.v (Value.int IntKind.i64 (10 : Int)), AV.v (Value.string (ByteArray.mk #[])),
                            AV.v (Value.int IntKind.i64 (↑(0 : Nat) : Int)), AV.any] ∧
                        LeH [] []))
                    (Tree.leaf (Ans.mk (AV.sb true) [])))))
              (Tree.chk
                (bif false then true
                else
                  (allBytes (textB BA.nil.t s).size fun j =>
                      [AV.v (Value.int IntKind.u8 (sbyte (textB BA.nil.t s) ((0 : Nat) + j)))]) &&
                    (true &&
                        decide
                          ((bif okN (↑s.size : Int) then numB (↑s.size : Int).toNat else ByteArray.mk #[]).size +
                              s.size ≤
                            (9223372036854775807 : Nat)) &&
                      decide
                        ((0 : Nat) +
                            ((bif okN (↑s.size : Int) then numB (↑s.size : Int).toNat else ByteArray.mk #[]) ++
                                s).size ≤
                          (9223372036854775807 : Nat))))
                (Tree.br
                  (bif false then true
                  else
                    !decide
                        ((textOf (textB BA.nil.t s).size fun j =>
                            [AV.v (Value.int IntKind.u8 (sbyte (textB BA.nil.t s) ((0 : Nat) + j)))]) =
                          ByteArray.mk #[] ++
                            ((bif okN (↑s.size : Int) then numB (↑s.size : Int).toNat else ByteArray.mk #[]) ++ s)))
                  (Tree.leaf (Ans.mk (AV.v (Value.bool false)) []))
                  (Tree.chk
                    (cl
                      (LeL [AV.sl (1 : Nat) m fun j => [AV.v (Value.int IntKind.i64 (g j))]]
                          [AV.sl (1 : Nat) m fun j => [AV.v (Value.int IntKind.i64 (g j))]] ∧
                        LeH [] []))
                    (Tree.chk
                      (cl
                        (LeL
                            [AV.v (Value.slice none (0 : Nat) (0 : Nat)),
                              AV.sl (1 : Nat) m fun j => [AV.v (Value.int IntKind.i64 (g j))],
                              AV.v (Value.string (ByteArray.mk #[])), AV.v (Value.slice none (0 : Nat) (0 : Nat)),
                              AV.v (Value.int IntKind.i64 (10 : Int)), AV.v (Value.string (ByteArray.mk #[])),
                              AV.v (Value.int IntKind.i64 (0 : Int)), AV.v (Value.bool false)]
                            [AV.v (Value.slice none (0 : Nat) (0 : Nat)),
                              AV.sl (1 : Nat) m fun j => [AV.v (Value.int IntKind.i64 (g j))],
                              AV.v (Value.string (ByteArray.mk #[])), AV.v (Value.slice none (0 : Nat) (0 : Nat)),
                              AV.v (Value.int IntKind.i64 (10 : Int)), AV.v (Value.string (ByteArray.mk #[])),
                              AV.v (Value.int IntKind.i64 (↑(0 : Nat) : Int)), AV.any] ∧
                          LeH [] []))
                      (Tree.leaf (Ans.mk (AV.sb true) [])))))))))))) := by kernel_rfl
theorem lawWggnb (s : ByteArray) (hb : BA.nil.ok) (n : Nat) (hn : n ≤ 4611686018427387904) (hs : s.size ≤ 65536) (m : Nat) (g : Nat → Int) (c : Nat) (hc : c < m) (hok : ∀ j, j < c → okN (g j) = true) (hbad : okN (g c) = false) (hm : m ≤ 100000) : Right (bodyE (P := Try.prog) (Γ := Γw) [c6, CT.at 7 (ansNum BA.nil n hb hn), Z.c8, CT.at 9 (ansText BA.nil s hb rfl hs), Z.c10, CT.at 11 (ansNumsBad m g c hc hok hbad hm)] (fun _ => LSpec.at [0, 3, 9, 16, 17, 18, 19, 8] [] (SL (.v (.slice none 0 0)) (.sl 1 m (i64F g)) ⟨#[]⟩ (.v (.slice none 0 0)) 10 [] ⟨#[]⟩ 0) OLb) false 154 [.tmp 8] (bodyOf Try.f3) [.v (.slice none 0 0), .v (.int .i64 (n : Int)), .v (.string s), .sl 1 m (i64F g)] []) := by
  refine Right.of (runWggnb s hb n hn hs m g c hc hok hbad hm) ?_
  refine ⟨fun _ => ⟨.refl _, trivial⟩, fun h0 => ?_⟩
  obtain ⟨h1, h2, h3⟩ := guard3 h0
  clear h0
  have q2 : s.size ≤ 70000 := by have := of_decide_eq_false h2; omega
  have q3 := (numB_size hn).1
  have q4 := (numB_size (show s.size ≤ 4611686018427387904 by omega)).1
  simp [okN_of hn, okN_of (show s.size ≤ 4611686018427387904 by omega), allBytes0, textOf0, allBytesF, textOfF, textOfF2, textOfF3, le_vv, allBytes_bsF, textOf_bsF, BA.t, LeL_self, LeH_self, cl_true, Tree.sat, cl_iff, textB, le_sbv, empty_append, append_empty, ByteArray.append_assoc]
  omega
theorem runWggsn (b : ByteArray) (s : ByteArray) (hb : (BA.sl b).ok) (n : Nat) (hn : n ≤ 4611686018427387904) (hs : s.size ≤ 65536) (hl : NA.nil.ok) : bodyE (P := Try.prog) (Γ := Γw) [c6, CT.at 7 (ansNum (BA.sl b) n hb hn), Z.c8, CT.at 9 (ansText (BA.sl b) s hb rfl hs), Z.c10, CT.at 11 (ansNumsN hl)] (fun _ => LSpec.at [0, 3, 9, 16, 17, 18, 19, 8] [] (SL (.sl 1 b.size (bsF b)) (.v (.slice none 0 0)) b (.v (.slice none 0 0)) 0 [] ⟨#[]⟩ 0) (OLg (.sl 1 b.size (bsF b)) b (.v (.slice none 0 0)) [] ⟨#[]⟩)) false 154 [.tmp 8] (bodyOf Try.f3) [.sl 1 b.size (bsF b), .v (.int .i64 (n : Int)), .v (.string s), .v (.slice none 0 0)] [] =
  Tree.br
  (bif decide ((2000 : Int) < (↑b.size : Int)) then true
  else bif decide ((70000 : Int) < (↑s.size : Int)) then true else false)
  (Tree.leaf (Ans.mk (AV.v (Value.bool true)) []))
  (Tree.chk (allBytes b.size (bsF b))
    (Tree.chk
      (cl
        (LeL
            [AV.sl (1 : Nat) b.size fun j => [AV.v (Value.int IntKind.u8 (sbyte b j))],
              AV.v (Value.int IntKind.i64 (↑n : Int))]
            [AV.sl (1 : Nat) b.size fun j => [AV.v (Value.int IntKind.u8 (sbyte b j))],
              AV.v (Value.int IntKind.i64 (↑n : Int))] ∧
          LeH [] []))
      (Tree.chk true
        (Tree.chk
          (bif okN (↑n : Int) then
            bif false then true
            else
              (allBytes ((BA.sl b).t ++ numB n).size fun j =>
                  [AV.v (Value.int IntKind.u8 (sbyte ((BA.sl b).t ++ numB n) ((0 : Nat) + j)))]) &&
                decide
                  ((textOf b.size (bsF b)).size +
                      (bif okN (↑n : Int) then numB (↑n : Int).toNat else ByteArray.mk #[]).size ≤
                    (9223372036854775807 : Nat))
          else true)
          (Tree.br
            (bif okN (↑n : Int) then
              bif false then true
              else
                bif
                    !decide
                        ((textOf ((BA.sl b).t ++ numB n).size fun j =>
                            [AV.v (Value.int IntKind.u8 (sbyte ((BA.sl b).t ++ numB n) ((0 : Nat) + j)))]) =
                          textOf b.size (bsF b) ++
                            bif okN (↑n : Int) then numB (↑n : Int).toNat else ByteArray.mk #[]) then
                  true
                else
                  bif !okN (↑n : Int) then
                    bif true then true else decide ((0 : Int) < (↑((BA.sl b).t ++ numB n).size : Int))
                  else false
            else
              bif !okN (↑n : Int) then
                bif true then true else decide ((0 : Int) < (↑((BA.sl b).t ++ numB n).size : Int))
              else false)
            (Tree.leaf (Ans.mk (AV.v (Value.bool false)) []))
            (Tree.chk
              (cl
                (LeL [AV.sl (1 : Nat) b.size fun j => [AV.v (Value.int IntKind.u8 (sbyte b j))], AV.v (Value.string s)]
                    [AV.sl (1 : Nat) b.size fun j => [AV.v (Value.int IntKind.u8 (sbyte b j))], AV.v (Value.string s)] ∧
                  LeH [] []))
              (Tree.br (decide ((65536 : Int) < (↑s.size : Int)))
                (Tree.br (bif true then true else decide ((0 : Int) < (↑(textB (BA.sl b).t s).size : Int)))
                  (Tree.leaf (Ans.mk (AV.v (Value.bool false)) []))
                  (Tree.chk
                    (cl
                      (LeL [AV.v (Value.slice none (0 : Nat) (0 : Nat))] [AV.v (Value.slice none (0 : Nat) (0 : Nat))] ∧
                        LeH [] []))
                    (Tree.chk
                      (cl
                        (LeL
                            [AV.sl (1 : Nat) b.size fun j => [AV.v (Value.int IntKind.u8 (sbyte b j))],
                              AV.v (Value.slice none (0 : Nat) (0 : Nat)), AV.v (Value.string (textOf b.size (bsF b))),
                              AV.v (Value.slice none (0 : Nat) (0 : Nat)), AV.v (Value.int IntKind.i64 (0 : Int)),
                              AV.v (Value.string (ByteArray.mk #[])), AV.v (Value.int IntKind.i64 (0 : Int)),
                              AV.v (Value.bool false)]
                            [AV.sl (1 : Nat) b.size fun j => [AV.v (Value.int IntKind.u8 (sbyte b j))],
                              AV.v (Value.slice none (0 : Nat) (0 : Nat)), AV.v (Value.string b),
                              AV.v (Value.slice none (0 : Nat) (0 : Nat)), AV.v (Value.int IntKind.i64 (0 : Int)),
                              AV.v (Value.string (ByteArray.mk #[])), AV.v (Value.int IntKind.i64 (↑(0 : Nat) : Int)),
                              AV.any] ∧
                          LeH [] []))
                      (Tree.chk (bif true then bif true then allBytes b.size (bsF b) else true else true)
                        (Tree.leaf
                          (Ans.mk
                            (AV.sb
                              (bif true then bif true then decide (textOf b.size (bsF b) = b) else false else false))
                            []))))))
                (Tree.chk
                  (bif false then true
                  else
                    (allBytes (textB (BA.sl b).t s).size fun j =>
                        [AV.v (Value.int IntKind.u8 (sbyte (textB (BA.sl b).t s) ((0 : Nat) + j)))]) &&
                      (true &&
                          decide
                            ((bif okN (↑s.size : Int) then numB (↑s.size : Int).toNat else ByteArray.mk #[]).size +
                                s.size ≤
                              (9223372036854775807 : Nat)) &&
                        decide
                          ((textOf b.size (bsF b)).size +
                              ((bif okN (↑s.size : Int) then numB (↑s.size : Int).toNat else ByteArray.mk #[]) ++
                                  s).size ≤
                            (9223372036854775807 : Nat))))
                  (Tree.br
                    (bif false then true
                    else
                      !decide
                          ((textOf (textB (BA.sl b).t s).size fun j =>
                              [AV.v (Value.int IntKind.u8 (sbyte (textB (BA.sl b).t s) ((0 : Nat) + j)))]) =
                            textOf b.size (bsF b) ++
                              ((bif okN (↑s.size : Int) then numB (↑s.size : Int).toNat else ByteArray.mk #[]) ++ s)))
                    (Tree.leaf (Ans.mk (AV.v (Value.bool false)) []))
                    (Tree.chk
                      (cl
                        (LeL [AV.v (Value.slice none (0 : Nat) (0 : Nat))]
                            [AV.v (Value.slice none (0 : Nat) (0 : Nat))] ∧
                          LeH [] []))
                      (Tree.chk
                        (cl
                          (LeL
                              [AV.sl (1 : Nat) b.size fun j => [AV.v (Value.int IntKind.u8 (sbyte b j))],
                                AV.v (Value.slice none (0 : Nat) (0 : Nat)),
                                AV.v (Value.string (textOf b.size (bsF b))),
                                AV.v (Value.slice none (0 : Nat) (0 : Nat)), AV.v (Value.int IntKind.i64 (0 : Int)),
                                AV.v (Value.string (ByteArray.mk #[])), AV.v (Value.int IntKind.i64 (0 : Int)),
                                AV.v (Value.bool false)]
                              [AV.sl (1 : Nat) b.size fun j => [AV.v (Value.int IntKind.u8 (sbyte b j))],
                                AV.v (Value.slice none (0 : Nat) (0 : Nat)), AV.v (Value.string b),
                                AV.v (Value.slice none (0 : Nat) (0 : Nat)), AV.v (Value.int IntKind.i64 (0 : Int)),
                                AV.v (Value.string (ByteArray.mk #[])), AV.v (Value.int IntKind.i64 (↑(0 : Nat) : Int)),
                                AV.any] ∧
                            LeH [] []))
                        (Tree.chk (bif true then bif true then allBytes b.size (bsF b) else true else true)
                          (Tree.leaf
                            (Ans.mk
                              (AV.sb
                                (bif true then bif true then decide (textOf b.size (bsF b) = b) else false else false))
                              [])))))))))))))) := by kernel_rfl
theorem lawWggsn (b : ByteArray) (s : ByteArray) (hb : (BA.sl b).ok) (n : Nat) (hn : n ≤ 4611686018427387904) (hs : s.size ≤ 65536) (hl : NA.nil.ok) : Right (bodyE (P := Try.prog) (Γ := Γw) [c6, CT.at 7 (ansNum (BA.sl b) n hb hn), Z.c8, CT.at 9 (ansText (BA.sl b) s hb rfl hs), Z.c10, CT.at 11 (ansNumsN hl)] (fun _ => LSpec.at [0, 3, 9, 16, 17, 18, 19, 8] [] (SL (.sl 1 b.size (bsF b)) (.v (.slice none 0 0)) b (.v (.slice none 0 0)) 0 [] ⟨#[]⟩ 0) (OLg (.sl 1 b.size (bsF b)) b (.v (.slice none 0 0)) [] ⟨#[]⟩)) false 154 [.tmp 8] (bodyOf Try.f3) [.sl 1 b.size (bsF b), .v (.int .i64 (n : Int)), .v (.string s), .v (.slice none 0 0)] []) := by
  refine Right.of (runWggsn b s hb n hn hs hl) ?_
  refine ⟨fun _ => ⟨.refl _, trivial⟩, fun h0 => ?_⟩
  obtain ⟨h1, h2, h3⟩ := guard3 h0
  clear h0
  have q1 : b.size ≤ 2000 := by have := of_decide_eq_false h1; omega
  have q2 : s.size ≤ 70000 := by have := of_decide_eq_false h2; omega
  have q3 := (numB_size hn).1
  have q4 := (numB_size (show s.size ≤ 4611686018427387904 by omega)).1
  simp [okN_of hn, okN_of (show s.size ≤ 4611686018427387904 by omega), allBytes0, textOf0, allBytesF, textOfF, textOfF2, textOfF3, le_vv, allBytes_bsF, textOf_bsF, BA.t, LeL_self, LeH_self, cl_true, Tree.sat, cl_iff, textB, le_sbv, empty_append, append_empty, ByteArray.append_assoc]
  omega
theorem runWggs0 (b : ByteArray) (s : ByteArray) (hb : (BA.sl b).ok) (n : Nat) (hn : n ≤ 4611686018427387904) (hs : s.size ≤ 65536) (g : Nat → Int) (hl : (NA.sl 0 g).ok) : bodyE (P := Try.prog) (Γ := Γw) [c6, CT.at 7 (ansNum (BA.sl b) n hb hn), Z.c8, CT.at 9 (ansText (BA.sl b) s hb rfl hs), Z.c10, CT.at 11 (ansNums0 g hl)] (fun _ => LSpec.at [0, 3, 9, 16, 17, 18, 19, 8] [] (SL (.sl 1 b.size (bsF b)) (.sl 1 0 (i64F g)) b (.v (.slice none 0 0)) 0 [] ⟨#[]⟩ 0) (OLg (.sl 1 b.size (bsF b)) b (.v (.slice none 0 0)) [] ⟨#[]⟩)) false 154 [.tmp 8] (bodyOf Try.f3) [.sl 1 b.size (bsF b), .v (.int .i64 (n : Int)), .v (.string s), .sl 1 0 (i64F g)] [] =
  Tree.br
  (bif decide ((2000 : Int) < (↑b.size : Int)) then true
  else bif decide ((70000 : Int) < (↑s.size : Int)) then true else false)
  (Tree.leaf (Ans.mk (AV.v (Value.bool true)) []))
  (Tree.chk (allBytes b.size (bsF b))
    (Tree.chk
      (cl
        (LeL
            [AV.sl (1 : Nat) b.size fun j => [AV.v (Value.int IntKind.u8 (sbyte b j))],
              AV.v (Value.int IntKind.i64 (↑n : Int))]
            [AV.sl (1 : Nat) b.size fun j => [AV.v (Value.int IntKind.u8 (sbyte b j))],
              AV.v (Value.int IntKind.i64 (↑n : Int))] ∧
          LeH [] []))
      (Tree.chk true
        (Tree.chk
          (bif okN (↑n : Int) then
            bif false then true
            else
              (allBytes ((BA.sl b).t ++ numB n).size fun j =>
                  [AV.v (Value.int IntKind.u8 (sbyte ((BA.sl b).t ++ numB n) ((0 : Nat) + j)))]) &&
                decide
                  ((textOf b.size (bsF b)).size +
                      (bif okN (↑n : Int) then numB (↑n : Int).toNat else ByteArray.mk #[]).size ≤
                    (9223372036854775807 : Nat))
          else true)
          (Tree.br
            (bif okN (↑n : Int) then
              bif false then true
              else
                bif
                    !decide
                        ((textOf ((BA.sl b).t ++ numB n).size fun j =>
                            [AV.v (Value.int IntKind.u8 (sbyte ((BA.sl b).t ++ numB n) ((0 : Nat) + j)))]) =
                          textOf b.size (bsF b) ++
                            bif okN (↑n : Int) then numB (↑n : Int).toNat else ByteArray.mk #[]) then
                  true
                else
                  bif !okN (↑n : Int) then
                    bif true then true else decide ((0 : Int) < (↑((BA.sl b).t ++ numB n).size : Int))
                  else false
            else
              bif !okN (↑n : Int) then
                bif true then true else decide ((0 : Int) < (↑((BA.sl b).t ++ numB n).size : Int))
              else false)
            (Tree.leaf (Ans.mk (AV.v (Value.bool false)) []))
            (Tree.chk
              (cl
                (LeL [AV.sl (1 : Nat) b.size fun j => [AV.v (Value.int IntKind.u8 (sbyte b j))], AV.v (Value.string s)]
                    [AV.sl (1 : Nat) b.size fun j => [AV.v (Value.int IntKind.u8 (sbyte b j))], AV.v (Value.string s)] ∧
                  LeH [] []))
              (Tree.br (decide ((65536 : Int) < (↑s.size : Int)))
                (Tree.br (bif true then true else decide ((0 : Int) < (↑(textB (BA.sl b).t s).size : Int)))
                  (Tree.leaf (Ans.mk (AV.v (Value.bool false)) []))
                  (Tree.chk
                    (cl
                      (LeL [AV.sl (1 : Nat) (0 : Nat) fun j => [AV.v (Value.int IntKind.i64 (g j))]]
                          [AV.sl (1 : Nat) (0 : Nat) fun j => [AV.v (Value.int IntKind.i64 (g j))]] ∧
                        LeH [] []))
                    (Tree.chk
                      (cl
                        (LeL
                            [AV.sl (1 : Nat) b.size fun j => [AV.v (Value.int IntKind.u8 (sbyte b j))],
                              AV.sl (1 : Nat) (0 : Nat) fun j => [AV.v (Value.int IntKind.i64 (g j))],
                              AV.v (Value.string (textOf b.size (bsF b))), AV.v (Value.slice none (0 : Nat) (0 : Nat)),
                              AV.v (Value.int IntKind.i64 (0 : Int)), AV.v (Value.string (ByteArray.mk #[])),
                              AV.v (Value.int IntKind.i64 (0 : Int)), AV.v (Value.bool false)]
                            [AV.sl (1 : Nat) b.size fun j => [AV.v (Value.int IntKind.u8 (sbyte b j))],
                              AV.sl (1 : Nat) (0 : Nat) fun j => [AV.v (Value.int IntKind.i64 (g j))],
                              AV.v (Value.string b), AV.v (Value.slice none (0 : Nat) (0 : Nat)),
                              AV.v (Value.int IntKind.i64 (0 : Int)), AV.v (Value.string (ByteArray.mk #[])),
                              AV.v (Value.int IntKind.i64 (↑(0 : Nat) : Int)), AV.any] ∧
                          LeH [] []))
                      (Tree.chk (bif true then bif true then allBytes b.size (bsF b) else true else true)
                        (Tree.leaf
                          (Ans.mk
                            (AV.sb
                              (bif true then bif true then decide (textOf b.size (bsF b) = b) else false else false))
                            []))))))
                (Tree.chk
                  (bif false then true
                  else
                    (allBytes (textB (BA.sl b).t s).size fun j =>
                        [AV.v (Value.int IntKind.u8 (sbyte (textB (BA.sl b).t s) ((0 : Nat) + j)))]) &&
                      (true &&
                          decide
                            ((bif okN (↑s.size : Int) then numB (↑s.size : Int).toNat else ByteArray.mk #[]).size +
                                s.size ≤
                              (9223372036854775807 : Nat)) &&
                        decide
                          ((textOf b.size (bsF b)).size +
                              ((bif okN (↑s.size : Int) then numB (↑s.size : Int).toNat else ByteArray.mk #[]) ++
                                  s).size ≤
                            (9223372036854775807 : Nat))))
                  (Tree.br
                    (bif false then true
                    else
                      !decide
                          ((textOf (textB (BA.sl b).t s).size fun j =>
                              [AV.v (Value.int IntKind.u8 (sbyte (textB (BA.sl b).t s) ((0 : Nat) + j)))]) =
                            textOf b.size (bsF b) ++
                              ((bif okN (↑s.size : Int) then numB (↑s.size : Int).toNat else ByteArray.mk #[]) ++ s)))
                    (Tree.leaf (Ans.mk (AV.v (Value.bool false)) []))
                    (Tree.chk
                      (cl
                        (LeL [AV.sl (1 : Nat) (0 : Nat) fun j => [AV.v (Value.int IntKind.i64 (g j))]]
                            [AV.sl (1 : Nat) (0 : Nat) fun j => [AV.v (Value.int IntKind.i64 (g j))]] ∧
                          LeH [] []))
                      (Tree.chk
                        (cl
                          (LeL
                              [AV.sl (1 : Nat) b.size fun j => [AV.v (Value.int IntKind.u8 (sbyte b j))],
                                AV.sl (1 : Nat) (0 : Nat) fun j => [AV.v (Value.int IntKind.i64 (g j))],
                                AV.v (Value.string (textOf b.size (bsF b))),
                                AV.v (Value.slice none (0 : Nat) (0 : Nat)), AV.v (Value.int IntKind.i64 (0 : Int)),
                                AV.v (Value.string (ByteArray.mk #[])), AV.v (Value.int IntKind.i64 (0 : Int)),
                                AV.v (Value.bool false)]
                              [AV.sl (1 : Nat) b.size fun j => [AV.v (Value.int IntKind.u8 (sbyte b j))],
                                AV.sl (1 : Nat) (0 : Nat) fun j => [AV.v (Value.int IntKind.i64 (g j))],
                                AV.v (Value.string b), AV.v (Value.slice none (0 : Nat) (0 : Nat)),
                                AV.v (Value.int IntKind.i64 (0 : Int)), AV.v (Value.string (ByteArray.mk #[])),
                                AV.v (Value.int IntKind.i64 (↑(0 : Nat) : Int)), AV.any] ∧
                            LeH [] []))
                        (Tree.chk (bif true then bif true then allBytes b.size (bsF b) else true else true)
                          (Tree.leaf
                            (Ans.mk
                              (AV.sb
                                (bif true then bif true then decide (textOf b.size (bsF b) = b) else false else false))
                              [])))))))))))))) := by kernel_rfl
theorem lawWggs0 (b : ByteArray) (s : ByteArray) (hb : (BA.sl b).ok) (n : Nat) (hn : n ≤ 4611686018427387904) (hs : s.size ≤ 65536) (g : Nat → Int) (hl : (NA.sl 0 g).ok) : Right (bodyE (P := Try.prog) (Γ := Γw) [c6, CT.at 7 (ansNum (BA.sl b) n hb hn), Z.c8, CT.at 9 (ansText (BA.sl b) s hb rfl hs), Z.c10, CT.at 11 (ansNums0 g hl)] (fun _ => LSpec.at [0, 3, 9, 16, 17, 18, 19, 8] [] (SL (.sl 1 b.size (bsF b)) (.sl 1 0 (i64F g)) b (.v (.slice none 0 0)) 0 [] ⟨#[]⟩ 0) (OLg (.sl 1 b.size (bsF b)) b (.v (.slice none 0 0)) [] ⟨#[]⟩)) false 154 [.tmp 8] (bodyOf Try.f3) [.sl 1 b.size (bsF b), .v (.int .i64 (n : Int)), .v (.string s), .sl 1 0 (i64F g)] []) := by
  refine Right.of (runWggs0 b s hb n hn hs g hl) ?_
  refine ⟨fun _ => ⟨.refl _, trivial⟩, fun h0 => ?_⟩
  obtain ⟨h1, h2, h3⟩ := guard3 h0
  clear h0
  have q1 : b.size ≤ 2000 := by have := of_decide_eq_false h1; omega
  have q2 : s.size ≤ 70000 := by have := of_decide_eq_false h2; omega
  have q3 := (numB_size hn).1
  have q4 := (numB_size (show s.size ≤ 4611686018427387904 by omega)).1
  simp [okN_of hn, okN_of (show s.size ≤ 4611686018427387904 by omega), allBytes0, textOf0, allBytesF, textOfF, textOfF2, textOfF3, le_vv, allBytes_bsF, textOf_bsF, BA.t, LeL_self, LeH_self, cl_true, Tree.sat, cl_iff, textB, le_sbv, empty_append, append_empty, ByteArray.append_assoc]
  omega
theorem runWggsm (b : ByteArray) (s : ByteArray) (hb : (BA.sl b).ok) (n : Nat) (hn : n ≤ 4611686018427387904) (hs : s.size ≤ 65536) (m : Nat) (g : Nat → Int) (hl : (NA.sl (m + 1) g).ok) : bodyE (P := Try.prog) (Γ := Γw) [c6, CT.at 7 (ansNum (BA.sl b) n hb hn), Z.c8, CT.at 9 (ansText (BA.sl b) s hb rfl hs), Z.c10, CT.at 11 (ansNumsS m g hl)] (fun _ => LSpec.at [0, 3, 9, 16, 17, 18, 19, 8] [] (SL (.sl 1 b.size (bsF b)) (.sl 1 (m + 1) (i64F g)) b (.hs 0 0 (catN g (m + 1)).size) 0 [some (.arr 1 (catN g (m + 1)).size (bsF (catN g (m + 1))))] ⟨#[]⟩ 0) (OLg (.sl 1 b.size (bsF b)) b (.hs 0 0 (catN g (m + 1)).size) [some (.arr 1 (catN g (m + 1)).size (bsF (catN g (m + 1))))] (catN g (m + 1)))) false 154 [.tmp 8] (bodyOf Try.f3) [.sl 1 b.size (bsF b), .v (.int .i64 (n : Int)), .v (.string s), .sl 1 (m + 1) (i64F g)] [] =
  Tree.br
  (bif decide ((2000 : Int) < (↑b.size : Int)) then true
  else bif decide ((70000 : Int) < (↑s.size : Int)) then true else decide ((500 : Int) < (↑(m + (1 : Nat)) : Int)))
  (Tree.leaf (Ans.mk (AV.v (Value.bool true)) []))
  (Tree.chk (allBytes b.size (bsF b))
    (Tree.chk
      (cl
        (LeL
            [AV.sl (1 : Nat) b.size fun j => [AV.v (Value.int IntKind.u8 (sbyte b j))],
              AV.v (Value.int IntKind.i64 (↑n : Int))]
            [AV.sl (1 : Nat) b.size fun j => [AV.v (Value.int IntKind.u8 (sbyte b j))],
              AV.v (Value.int IntKind.i64 (↑n : Int))] ∧
          LeH [] []))
      (Tree.chk true
        (Tree.chk
          (bif okN (↑n : Int) then
            bif false then true
            else
              (allBytes ((BA.sl b).t ++ numB n).size fun j =>
                  [AV.v (Value.int IntKind.u8 (sbyte ((BA.sl b).t ++ numB n) ((0 : Nat) + j)))]) &&
                decide
                  ((textOf b.size (bsF b)).size +
                      (bif okN (↑n : Int) then numB (↑n : Int).toNat else ByteArray.mk #[]).size ≤
                    (9223372036854775807 : Nat))
          else true)
          (Tree.br
            (bif okN (↑n : Int) then
              bif false then true
              else
                bif
                    !decide
                        ((textOf ((BA.sl b).t ++ numB n).size fun j =>
                            [AV.v (Value.int IntKind.u8 (sbyte ((BA.sl b).t ++ numB n) ((0 : Nat) + j)))]) =
                          textOf b.size (bsF b) ++
                            bif okN (↑n : Int) then numB (↑n : Int).toNat else ByteArray.mk #[]) then
                  true
                else
                  bif !okN (↑n : Int) then
                    bif true then true else decide ((0 : Int) < (↑((BA.sl b).t ++ numB n).size : Int))
                  else false
            else
              bif !okN (↑n : Int) then
                bif true then true else decide ((0 : Int) < (↑((BA.sl b).t ++ numB n).size : Int))
              else false)
            (Tree.leaf (Ans.mk (AV.v (Value.bool false)) []))
            (Tree.chk
              (cl
                (LeL [AV.sl (1 : Nat) b.size fun j => [AV.v (Value.int IntKind.u8 (sbyte b j))], AV.v (Value.string s)]
                    [AV.sl (1 : Nat) b.size fun j => [AV.v (Value.int IntKind.u8 (sbyte b j))], AV.v (Value.string s)] ∧
                  LeH [] []))
              (Tree.br (decide ((65536 : Int) < (↑s.size : Int)))
                (Tree.br (bif true then true else decide ((0 : Int) < (↑(textB (BA.sl b).t s).size : Int)))
                  (Tree.leaf (Ans.mk (AV.v (Value.bool false)) []))
                  (Tree.chk
                    (cl
                      (LeL [AV.sl (1 : Nat) (m + (1 : Nat)) fun j => [AV.v (Value.int IntKind.i64 (g j))]]
                          [AV.sl (1 : Nat) (m + (1 : Nat)) fun j => [AV.v (Value.int IntKind.i64 (g j))]] ∧
                        LeH [] []))
                    (Tree.chk
                      (cl
                        (LeL
                            [AV.sl (1 : Nat) b.size fun j => [AV.v (Value.int IntKind.u8 (sbyte b j))],
                              AV.sl (1 : Nat) (m + (1 : Nat)) fun j => [AV.v (Value.int IntKind.i64 (g j))],
                              AV.v (Value.string (textOf b.size (bsF b))),
                              AV.hs (0 : Nat) (0 : Nat) (catN g (m + (1 : Nat))).size,
                              AV.v (Value.int IntKind.i64 (0 : Int)), AV.v (Value.string (ByteArray.mk #[])),
                              AV.v (Value.int IntKind.i64 (0 : Int)), AV.v (Value.bool false)]
                            [AV.sl (1 : Nat) b.size fun j => [AV.v (Value.int IntKind.u8 (sbyte b j))],
                              AV.sl (1 : Nat) (m + (1 : Nat)) fun j => [AV.v (Value.int IntKind.i64 (g j))],
                              AV.v (Value.string b), AV.hs (0 : Nat) (0 : Nat) (catN g (m + (1 : Nat))).size,
                              AV.v (Value.int IntKind.i64 (0 : Int)), AV.v (Value.string (ByteArray.mk #[])),
                              AV.v (Value.int IntKind.i64 (↑(0 : Nat) : Int)), AV.any] ∧
                          LeH
                            [some
                                (Blk.arr (1 : Nat) (catN g (m + (1 : Nat))).size fun j =>
                                  [AV.v (Value.int IntKind.u8 (sbyte (catN g (m + (1 : Nat))) j))])]
                            [some
                                (Blk.arr (1 : Nat) (catN g (m + (1 : Nat))).size fun j =>
                                  [AV.v (Value.int IntKind.u8 (sbyte (catN g (m + (1 : Nat))) j))])]))
                      (Tree.chk
                        (bif true then
                          (allBytes (catN g (m + (1 : Nat))).size fun j =>
                              [AV.v (Value.int IntKind.u8 (sbyte (catN g (m + (1 : Nat))) ((0 : Nat) + j)))]) &&
                            bif
                                decide
                                  ((textOf (catN g (m + (1 : Nat))).size fun j =>
                                      [AV.v (Value.int IntKind.u8 (sbyte (catN g (m + (1 : Nat))) ((0 : Nat) + j)))]) =
                                    catN g (m + (1 : Nat))) then
                              allBytes b.size (bsF b)
                            else true
                        else true)
                        (Tree.leaf
                          (Ans.mk
                            (AV.sb
                              (bif true then
                                bif
                                    decide
                                      ((textOf (catN g (m + (1 : Nat))).size fun j =>
                                          [AV.v
                                              (Value.int IntKind.u8
                                                (sbyte (catN g (m + (1 : Nat))) ((0 : Nat) + j)))]) =
                                        catN g (m + (1 : Nat))) then
                                  decide (textOf b.size (bsF b) = b)
                                else false
                              else false))
                            []))))))
                (Tree.chk
                  (bif false then true
                  else
                    (allBytes (textB (BA.sl b).t s).size fun j =>
                        [AV.v (Value.int IntKind.u8 (sbyte (textB (BA.sl b).t s) ((0 : Nat) + j)))]) &&
                      (true &&
                          decide
                            ((bif okN (↑s.size : Int) then numB (↑s.size : Int).toNat else ByteArray.mk #[]).size +
                                s.size ≤
                              (9223372036854775807 : Nat)) &&
                        decide
                          ((textOf b.size (bsF b)).size +
                              ((bif okN (↑s.size : Int) then numB (↑s.size : Int).toNat else ByteArray.mk #[]) ++
                                  s).size ≤
                            (9223372036854775807 : Nat))))
                  (Tree.br
                    (bif false then true
                    else
                      !decide
                          ((textOf (textB (BA.sl b).t s).size fun j =>
                              [AV.v (Value.int IntKind.u8 (sbyte (textB (BA.sl b).t s) ((0 : Nat) + j)))]) =
                            textOf b.size (bsF b) ++
                              ((bif okN (↑s.size : Int) then numB (↑s.size : Int).toNat else ByteArray.mk #[]) ++ s)))
                    (Tree.leaf (Ans.mk (AV.v (Value.bool false)) []))
                    (Tree.chk
                      (cl
                        (LeL [AV.sl (1 : Nat) (m + (1 : Nat)) fun j => [AV.v (Value.int IntKind.i64 (g j))]]
                            [AV.sl (1 : Nat) (m + (1 : Nat)) fun j => [AV.v (Value.int IntKind.i64 (g j))]] ∧
                          LeH [] []))
                      (Tree.chk
                        (cl
                          (LeL
                              [AV.sl (1 : Nat) b.size fun j => [AV.v (Value.int IntKind.u8 (sbyte b j))],
                                AV.sl (1 : Nat) (m + (1 : Nat)) fun j => [AV.v (Value.int IntKind.i64 (g j))],
                                AV.v (Value.string (textOf b.size (bsF b))),
                                AV.hs (0 : Nat) (0 : Nat) (catN g (m + (1 : Nat))).size,
                                AV.v (Value.int IntKind.i64 (0 : Int)), AV.v (Value.string (ByteArray.mk #[])),
                                AV.v (Value.int IntKind.i64 (0 : Int)), AV.v (Value.bool false)]
                              [AV.sl (1 : Nat) b.size fun j => [AV.v (Value.int IntKind.u8 (sbyte b j))],
                                AV.sl (1 : Nat) (m + (1 : Nat)) fun j => [AV.v (Value.int IntKind.i64 (g j))],
                                AV.v (Value.string b), AV.hs (0 : Nat) (0 : Nat) (catN g (m + (1 : Nat))).size,
                                AV.v (Value.int IntKind.i64 (0 : Int)), AV.v (Value.string (ByteArray.mk #[])),
                                AV.v (Value.int IntKind.i64 (↑(0 : Nat) : Int)), AV.any] ∧
                            LeH
                              [some
                                  (Blk.arr (1 : Nat) (catN g (m + (1 : Nat))).size fun j =>
                                    [AV.v (Value.int IntKind.u8 (sbyte (catN g (m + (1 : Nat))) j))])]
                              [some
                                  (Blk.arr (1 : Nat) (catN g (m + (1 : Nat))).size fun j =>
                                    [AV.v (Value.int IntKind.u8 (sbyte (catN g (m + (1 : Nat))) j))])]))
                        (Tree.chk
                          (bif true then
                            (allBytes (catN g (m + (1 : Nat))).size fun j =>
                                [AV.v (Value.int IntKind.u8 (sbyte (catN g (m + (1 : Nat))) ((0 : Nat) + j)))]) &&
                              bif
                                  decide
                                    ((textOf (catN g (m + (1 : Nat))).size fun j =>
                                        [AV.v
                                            (Value.int IntKind.u8 (sbyte (catN g (m + (1 : Nat))) ((0 : Nat) + j)))]) =
                                      catN g (m + (1 : Nat))) then
                                allBytes b.size (bsF b)
                              else true
                          else true)
                          (Tree.leaf
                            (Ans.mk
                              (AV.sb
                                (bif true then
                                  bif
                                      decide
                                        ((textOf (catN g (m + (1 : Nat))).size fun j =>
                                            [AV.v
                                                (Value.int IntKind.u8
                                                  (sbyte (catN g (m + (1 : Nat))) ((0 : Nat) + j)))]) =
                                          catN g (m + (1 : Nat))) then
                                    decide (textOf b.size (bsF b) = b)
                                  else false
                                else false))
                              [])))))))))))))) := by kernel_rfl
theorem lawWggsm (b : ByteArray) (s : ByteArray) (hb : (BA.sl b).ok) (n : Nat) (hn : n ≤ 4611686018427387904) (hs : s.size ≤ 65536) (m : Nat) (g : Nat → Int) (hl : (NA.sl (m + 1) g).ok) : Right (bodyE (P := Try.prog) (Γ := Γw) [c6, CT.at 7 (ansNum (BA.sl b) n hb hn), Z.c8, CT.at 9 (ansText (BA.sl b) s hb rfl hs), Z.c10, CT.at 11 (ansNumsS m g hl)] (fun _ => LSpec.at [0, 3, 9, 16, 17, 18, 19, 8] [] (SL (.sl 1 b.size (bsF b)) (.sl 1 (m + 1) (i64F g)) b (.hs 0 0 (catN g (m + 1)).size) 0 [some (.arr 1 (catN g (m + 1)).size (bsF (catN g (m + 1))))] ⟨#[]⟩ 0) (OLg (.sl 1 b.size (bsF b)) b (.hs 0 0 (catN g (m + 1)).size) [some (.arr 1 (catN g (m + 1)).size (bsF (catN g (m + 1))))] (catN g (m + 1)))) false 154 [.tmp 8] (bodyOf Try.f3) [.sl 1 b.size (bsF b), .v (.int .i64 (n : Int)), .v (.string s), .sl 1 (m + 1) (i64F g)] []) := by
  refine Right.of (runWggsm b s hb n hn hs m g hl) ?_
  refine ⟨fun _ => ⟨.refl _, trivial⟩, fun h0 => ?_⟩
  obtain ⟨h1, h2, h3⟩ := guard3 h0
  clear h0
  have q1 : b.size ≤ 2000 := by have := of_decide_eq_false h1; omega
  have q2 : s.size ≤ 70000 := by have := of_decide_eq_false h2; omega
  have q3 := (numB_size hn).1
  have q4 := (numB_size (show s.size ≤ 4611686018427387904 by omega)).1
  have q5 := (catN_small (g := g) (i := m + 1) hl.1).1
  have q6 : m + 1 ≤ 500 := by have := of_decide_eq_false h3; omega
  simp [okN_of hn, okN_of (show s.size ≤ 4611686018427387904 by omega), allBytes0, textOf0, allBytesF, textOfF, textOfF2, textOfF3, le_vv, allBytes_bsF, textOf_bsF, BA.t, LeL_self, LeH_self, cl_true, Tree.sat, cl_iff, textB, le_sbv, empty_append, append_empty, ByteArray.append_assoc]
  omega
theorem runWggsb (b : ByteArray) (s : ByteArray) (hb : (BA.sl b).ok) (n : Nat) (hn : n ≤ 4611686018427387904) (hs : s.size ≤ 65536) (m : Nat) (g : Nat → Int) (c : Nat) (hc : c < m) (hok : ∀ j, j < c → okN (g j) = true) (hbad : okN (g c) = false) (hm : m ≤ 100000) : bodyE (P := Try.prog) (Γ := Γw) [c6, CT.at 7 (ansNum (BA.sl b) n hb hn), Z.c8, CT.at 9 (ansText (BA.sl b) s hb rfl hs), Z.c10, CT.at 11 (ansNumsBad m g c hc hok hbad hm)] (fun _ => LSpec.at [0, 3, 9, 16, 17, 18, 19, 8] [] (SL (.sl 1 b.size (bsF b)) (.sl 1 m (i64F g)) b (.v (.slice none 0 0)) 10 [] ⟨#[]⟩ 0) OLb) false 154 [.tmp 8] (bodyOf Try.f3) [.sl 1 b.size (bsF b), .v (.int .i64 (n : Int)), .v (.string s), .sl 1 m (i64F g)] [] =
  Tree.br
  (bif decide ((2000 : Int) < (↑b.size : Int)) then true
  else bif decide ((70000 : Int) < (↑s.size : Int)) then true else decide ((500 : Int) < (↑m : Int)))
  (Tree.leaf (Ans.mk (AV.v (Value.bool true)) []))
  (Tree.chk (allBytes b.size (bsF b))
    (Tree.chk
      (cl
        (LeL
            [AV.sl (1 : Nat) b.size fun j => [AV.v (Value.int IntKind.u8 (sbyte b j))],
              AV.v (Value.int IntKind.i64 (↑n : Int))]
            [AV.sl (1 : Nat) b.size fun j => [AV.v (Value.int IntKind.u8 (sbyte b j))],
              AV.v (Value.int IntKind.i64 (↑n : Int))] ∧
          LeH [] []))
      (Tree.chk true
        (Tree.chk
          (bif okN (↑n : Int) then
            bif false then true
            else
              (allBytes ((BA.sl b).t ++ numB n).size fun j =>
                  [AV.v (Value.int IntKind.u8 (sbyte ((BA.sl b).t ++ numB n) ((0 : Nat) + j)))]) &&
                decide
                  ((textOf b.size (bsF b)).size +
                      (bif okN (↑n : Int) then numB (↑n : Int).toNat else ByteArray.mk #[]).size ≤
                    (9223372036854775807 : Nat))
          else true)
          (Tree.br
            (bif okN (↑n : Int) then
              bif false then true
              else
                bif
                    !decide
                        ((textOf ((BA.sl b).t ++ numB n).size fun j =>
                            [AV.v (Value.int IntKind.u8 (sbyte ((BA.sl b).t ++ numB n) ((0 : Nat) + j)))]) =
                          textOf b.size (bsF b) ++
                            bif okN (↑n : Int) then numB (↑n : Int).toNat else ByteArray.mk #[]) then
                  true
                else
                  bif !okN (↑n : Int) then
                    bif true then true else decide ((0 : Int) < (↑((BA.sl b).t ++ numB n).size : Int))
                  else false
            else
              bif !okN (↑n : Int) then
                bif true then true else decide ((0 : Int) < (↑((BA.sl b).t ++ numB n).size : Int))
              else false)
            (Tree.leaf (Ans.mk (AV.v (Value.bool false)) []))
            (Tree.chk
              (cl
                (LeL [AV.sl (1 : Nat) b.size fun j => [AV.v (Value.int IntKind.u8 (sbyte b j))], AV.v (Value.string s)]
                    [AV.sl (1 : Nat) b.size fun j => [AV.v (Value.int IntKind.u8 (sbyte b j))], AV.v (Value.string s)] ∧
                  LeH [] []))
              (Tree.br (decide ((65536 : Int) < (↑s.size : Int)))
                (Tree.br (bif true then true else decide ((0 : Int) < (↑(textB (BA.sl b).t s).size : Int)))
                  (Tree.leaf (Ans.mk (AV.v (Value.bool false)) []))
                  (Tree.chk
                    (cl
                      (LeL [AV.sl (1 : Nat) m fun j => [AV.v (Value.int IntKind.i64 (g j))]]
                          [AV.sl (1 : Nat) m fun j => [AV.v (Value.int IntKind.i64 (g j))]] ∧
                        LeH [] []))
                    (Tree.chk
                      (cl
                        (LeL
                            [AV.sl (1 : Nat) b.size fun j => [AV.v (Value.int IntKind.u8 (sbyte b j))],
                              AV.sl (1 : Nat) m fun j => [AV.v (Value.int IntKind.i64 (g j))],
                              AV.v (Value.string (textOf b.size (bsF b))), AV.v (Value.slice none (0 : Nat) (0 : Nat)),
                              AV.v (Value.int IntKind.i64 (10 : Int)), AV.v (Value.string (ByteArray.mk #[])),
                              AV.v (Value.int IntKind.i64 (0 : Int)), AV.v (Value.bool false)]
                            [AV.sl (1 : Nat) b.size fun j => [AV.v (Value.int IntKind.u8 (sbyte b j))],
                              AV.sl (1 : Nat) m fun j => [AV.v (Value.int IntKind.i64 (g j))], AV.v (Value.string b),
                              AV.v (Value.slice none (0 : Nat) (0 : Nat)), AV.v (Value.int IntKind.i64 (10 : Int)),
                              AV.v (Value.string (ByteArray.mk #[])), AV.v (Value.int IntKind.i64 (↑(0 : Nat) : Int)),
                              AV.any] ∧
                          LeH [] []))
                      (Tree.leaf (Ans.mk (AV.sb true) [])))))
                (Tree.chk
                  (bif false then true
                  else
                    (allBytes (textB (BA.sl b).t s).size fun j =>
                        [AV.v (Value.int IntKind.u8 (sbyte (textB (BA.sl b).t s) ((0 : Nat) + j)))]) &&
                      (true &&
                          decide
                            ((bif okN (↑s.size : Int) then numB (↑s.size : Int).toNat else ByteArray.mk #[]).size +
                                s.size ≤
                              (9223372036854775807 : Nat)) &&
                        decide
                          ((textOf b.size (bsF b)).size +
                              ((bif okN (↑s.size : Int) then numB (↑s.size : Int).toNat else ByteArray.mk #[]) ++
                                  s).size ≤
                            (9223372036854775807 : Nat))))
                  (Tree.br
                    (bif false then true
                    else
                      !decide
                          ((textOf (textB (BA.sl b).t s).size fun j =>
                              [AV.v (Value.int IntKind.u8 (sbyte (textB (BA.sl b).t s) ((0 : Nat) + j)))]) =
                            textOf b.size (bsF b) ++
                              ((bif okN (↑s.size : Int) then numB (↑s.size : Int).toNat else ByteArray.mk #[]) ++ s)))
                    (Tree.leaf (Ans.mk (AV.v (Value.bool false)) []))
                    (Tree.chk
                      (cl
                        (LeL [AV.sl (1 : Nat) m fun j => [AV.v (Value.int IntKind.i64 (g j))]]
                            [AV.sl (1 : Nat) m fun j => [AV.v (Value.int IntKind.i64 (g j))]] ∧
                          LeH [] []))
                      (Tree.chk
                        (cl
                          (LeL
                              [AV.sl (1 : Nat) b.size fun j => [AV.v (Value.int IntKind.u8 (sbyte b j))],
                                AV.sl (1 : Nat) m fun j => [AV.v (Value.int IntKind.i64 (g j))],
                                AV.v (Value.string (textOf b.size (bsF b))),
                                AV.v (Value.slice none (0 : Nat) (0 : Nat)), AV.v (Value.int IntKind.i64 (10 : Int)),
                                AV.v (Value.string (ByteArray.mk #[])), AV.v (Value.int IntKind.i64 (0 : Int)),
                                AV.v (Value.bool false)]
                              [AV.sl (1 : Nat) b.size fun j => [AV.v (Value.int IntKind.u8 (sbyte b j))],
                                AV.sl (1 : Nat) m fun j => [AV.v (Value.int IntKind.i64 (g j))], AV.v (Value.string b),
                                AV.v (Value.slice none (0 : Nat) (0 : Nat)), AV.v (Value.int IntKind.i64 (10 : Int)),
                                AV.v (Value.string (ByteArray.mk #[])), AV.v (Value.int IntKind.i64 (↑(0 : Nat) : Int)),
                                AV.any] ∧
                            LeH [] []))
                        (Tree.leaf (Ans.mk (AV.sb true) []))))))))))))) := by kernel_rfl
theorem lawWggsb (b : ByteArray) (s : ByteArray) (hb : (BA.sl b).ok) (n : Nat) (hn : n ≤ 4611686018427387904) (hs : s.size ≤ 65536) (m : Nat) (g : Nat → Int) (c : Nat) (hc : c < m) (hok : ∀ j, j < c → okN (g j) = true) (hbad : okN (g c) = false) (hm : m ≤ 100000) : Right (bodyE (P := Try.prog) (Γ := Γw) [c6, CT.at 7 (ansNum (BA.sl b) n hb hn), Z.c8, CT.at 9 (ansText (BA.sl b) s hb rfl hs), Z.c10, CT.at 11 (ansNumsBad m g c hc hok hbad hm)] (fun _ => LSpec.at [0, 3, 9, 16, 17, 18, 19, 8] [] (SL (.sl 1 b.size (bsF b)) (.sl 1 m (i64F g)) b (.v (.slice none 0 0)) 10 [] ⟨#[]⟩ 0) OLb) false 154 [.tmp 8] (bodyOf Try.f3) [.sl 1 b.size (bsF b), .v (.int .i64 (n : Int)), .v (.string s), .sl 1 m (i64F g)] []) := by
  refine Right.of (runWggsb b s hb n hn hs m g c hc hok hbad hm) ?_
  refine ⟨fun _ => ⟨.refl _, trivial⟩, fun h0 => ?_⟩
  obtain ⟨h1, h2, h3⟩ := guard3 h0
  clear h0
  have q1 : b.size ≤ 2000 := by have := of_decide_eq_false h1; omega
  have q2 : s.size ≤ 70000 := by have := of_decide_eq_false h2; omega
  have q3 := (numB_size hn).1
  have q4 := (numB_size (show s.size ≤ 4611686018427387904 by omega)).1
  simp [okN_of hn, okN_of (show s.size ≤ 4611686018427387904 by omega), allBytes0, textOf0, allBytesF, textOfF, textOfF2, textOfF3, le_vv, allBytes_bsF, textOf_bsF, BA.t, LeL_self, LeH_self, cl_true, Tree.sat, cl_iff, textB, le_sbv, empty_append, append_empty, ByteArray.append_assoc]
  omega
end Go.Eng.W
