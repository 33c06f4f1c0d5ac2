/- Texts that TF15r needs: SD2 and what follows it. -/
import Derived.Test.YtljejgnclkmpcaaPart4
set_option linter.unnecessarySimpa false
set_option linter.unusedSectionVars false
set_option linter.unusedSimpArgs false
set_option linter.unusedVariables false
namespace Go.Eng.SB
open Go Go.Eng Go.Eng.M Go.Eng.RD Go.Proofs
theorem loopPg_ok {off len N k : Nat} {t : ByteArray} (h : IsGood t off len k) (hlen : len ≤ 1000000000000) : ∀ i, i ≤ k → LoopOK Try.prog Γb 2 75 loopP (LSpec.at [0, 19, 20, 21, 3, 2] [] (SP off len N t i) (OPg off len N t k)) := by
  obtain ⟨h1, h2, h3, h4⟩ := h
  refine loop_at (S := SP off len N t) (pre := fun i => i ≤ k) (O := fun _ => OPg off len N t k) (k := 0) (fun i => k - i) fun i hi => ⟨[kFail], Lno, false, noLoops (by kernel_rfl), ?_⟩
  refine stepP (by omega) (by omega) hlen fun c hc => ?_
  subst hc
  refine ⟨fun hb => ?_, fun hl _ _ => ?_, fun hl h8 => ?_⟩
  · exfalso
    rcases Nat.lt_or_ge i k with hik | hik
    · have := h3.hi i hik; omega
    · obtain rfl : i = k := Nat.le_antisymm hi hik
      rcases hb with ⟨_, b2, b3⟩ | ⟨b1, b2⟩
      · exact h3.nz b3 b2
      · have := h3.lo; omega
  · rcases Nat.lt_or_ge i k with hik | hik
    · have := h3.hi i hik; omega
    · obtain rfl : i = k := Nat.le_antisymm hi hik
      exact ⟨rfl, ⟨.any _, .any _, .any _, .any _, .any _, .refl _, trivial⟩, LeH.refl _⟩
  · rcases Nat.lt_or_ge i k with hik | hik
    · exact ⟨i + 1, LeL.refl _, LeH.refl _, hik, rfl, by show k - (i + 1) < k - i; omega⟩
    · obtain rfl : i = k := Nat.le_antisymm hi hik
      have := h3.lo; omega
theorem loopPb_ok {off len N k : Nat} {t : ByteArray} (h : IsBad t off len k) (hlen : len ≤ 1000000000000) : ∀ i, i ≤ k → LoopOK Try.prog Γb 2 75 loopP (LSpec.at [0, 19, 20, 21, 3, 2] [] (SP off len N t i) (OPb N t)) := by
  obtain ⟨h1, h2, h3, h4⟩ := h
  refine loop_at (S := SP off len N t) (pre := fun i => i ≤ k) (O := fun _ => OPb N t) (k := 0) (fun i => k - i) fun i hi => ⟨[kFail], Lno, false, noLoops (by kernel_rfl), ?_⟩
  refine stepP (by omega) (by omega) hlen fun c hc => ?_
  subst hc
  refine ⟨fun hb => ?_, fun hl hz hv => ?_, fun hl h8 => ?_⟩
  · exact ⟨rfl, ⟨.any _, .any _, .any _, .any _, .any _, .refl _, trivial⟩, LeH.refl _⟩
  · exfalso
    rcases Nat.lt_or_ge i k with hik | hik
    · have := h3 i hik; omega
    · obtain rfl : i = k := Nat.le_antisymm hi hik
      rcases h4 with ⟨_, b2, b3⟩ | ⟨b1, b2⟩
      · exact hz b3 b2
      · have := hv b1; omega
  · rcases Nat.lt_or_ge i k with hik | hik
    · exact ⟨i + 1, LeL.refl _, LeH.refl _, hik, rfl, by show k - (i + 1) < k - i; omega⟩
    · obtain rfl : i = k := Nat.le_antisymm hi hik
      exfalso
      rcases h4 with ⟨b1, _, _⟩ | ⟨b1, b2⟩
      · omega
      · omega
theorem loopPc_ok {off len N : Nat} {t : ByteArray} (h : IsCut t off len) : ∀ i, i ≤ len → LoopOK Try.prog Γb 2 75 loopP (LSpec.at [0, 19, 20, 21, 3, 2] [] (SP off len N t i) (OPc off len N t)) := by
  obtain ⟨h1, h2⟩ := h
  refine loop_at (S := SP off len N t) (pre := fun i => i ≤ len) (O := fun _ => OPc off len N t) (k := 0) (fun i => len - i) fun i hi => ⟨[kFail], Lno, false, noLoops (by kernel_rfl), ?_⟩
  rcases Nat.lt_or_ge i len with hil | hil
  · refine stepP (by omega) hil (by omega) fun c hc => ?_
    subst hc
    have hb := h2 i hil
    refine ⟨fun hb' => ?_, fun hl _ _ => ?_, fun hl h8 => ?_⟩
    · exfalso; rcases hb' with ⟨b1, _, _⟩ | ⟨b1, _⟩ <;> omega
    · exfalso; omega
    · exact ⟨i + 1, LeL.refl _, LeH.refl _, hil, rfl, by show len - (i + 1) < len - i; omega⟩
  · obtain rfl : i = len := Nat.le_antisymm hi hil
    show (roundE (P := Try.prog) (Γ := Γb) [kFail] Lno false 2 0 loopP [0, 19, 20, 21, 3, 2] [] 75 [.ptr 0 0, .hs 1 off i, .v (.int .i64 (i : Int)), .v (.int .i64 (i : Int)), .v (.int .u64 (vAt t off i : Int)), .any] [some (.row [.hs 1 off i, .v (.int .i64 0)]), some (.arr 1 N (bsF t))]).sat _
    rw [roundP, decide_eq_false (show ¬ (i : Int) < (i : Int) by omega)]
    exact ⟨fun h => by simp at h, fun _ => ⟨rfl, ⟨.refl _, .any _, .any _, .any _, .any _, .any _, trivial⟩, LeH.refl _⟩⟩
theorem runPg (off len N k : Nat) (t : ByteArray) : bodyE (P := Try.prog) (Γ := Γb) [kFail] (fun _ => LSpec.at [0, 19, 20, 21, 3, 2] [] (SP off len N t 0) (OPg off len N t k)) false 75 [.tmp 2] (bodyOf Try.f87) [.ptr 0 0] (rdB off len N t) =
  Tree.br false (Tree.leaf (Ans.mk (AV.v (Value.int IntKind.i64 (0 : Int))) [some (Blk.row [AV.hs (1 : Nat) off len, AV.v (Value.int IntKind.i64 (0 : Int))]), some (Blk.arr (1 : Nat) N fun j
    => [AV.v (Value.int IntKind.u8 (sbyte t j))])])) (Tree.chk (cl (LeL [AV.ptr (0 : Nat) (0 : Nat), AV.hs (1 : Nat) off len, AV.v (Value.int IntKind.i64 (↑len : Int)), AV.v (Value.int
    IntKind.i64 (0 : Int)), AV.v (Value.int IntKind.u64 (0 : Int)), AV.v (Value.int IntKind.i64 (0 : Int))] [AV.ptr (0 : Nat) (0 : Nat), AV.hs (1 : Nat) off len, AV.v (Value.int IntKind.i64
    (↑len : Int)), AV.v (Value.int IntKind.i64 (↑(0 : Nat) : Int)), AV.v (Value.int IntKind.u64 (↑(0 : Nat) : Int)), AV.any] ∧ LeH [some (Blk.row [AV.hs (1 : Nat) off len, AV.v (Value.int
    IntKind.i64 (0 : Int))]), some (Blk.arr (1 : Nat) N fun j => [AV.v (Value.int IntKind.u8 (sbyte t j))])] [some (Blk.row [AV.hs (1 : Nat) off len, AV.v (Value.int IntKind.i64 (0 :
    Int))]), some (Blk.arr (1 : Nat) N fun j => [AV.v (Value.int IntKind.u8 (sbyte t j))])])) (Tree.leaf (Ans.mk (AV.v (Value.int IntKind.i64 (↑(vAt t off (k + (1 : Nat))) : Int))) [some
    (Blk.row [AV.hs (1 : Nat) (off + (k + (1 : Nat))) (len - (k + (1 : Nat))), AV.v (Value.int IntKind.i64 (0 : Int))]), some (Blk.arr (1 : Nat) N fun j => [AV.v (Value.int IntKind.u8 (sbyte
    t j))])]))) := by kernel_rfl
theorem runPb (off len N : Nat) (t : ByteArray) : bodyE (P := Try.prog) (Γ := Γb) [kFail] (fun _ => LSpec.at [0, 19, 20, 21, 3, 2] [] (SP off len N t 0) (OPb N t)) false 75 [.tmp 2] (bodyOf Try.f87) [.ptr 0 0] (rdB off len N t) =
  Tree.br false (Tree.leaf (Ans.mk (AV.v (Value.int IntKind.i64 (0 : Int))) [some (Blk.row [AV.hs (1 : Nat) off len, AV.v (Value.int IntKind.i64 (0 : Int))]), some (Blk.arr (1 : Nat) N fun j
    => [AV.v (Value.int IntKind.u8 (sbyte t j))])])) (Tree.chk (cl (LeL [AV.ptr (0 : Nat) (0 : Nat), AV.hs (1 : Nat) off len, AV.v (Value.int IntKind.i64 (↑len : Int)), AV.v (Value.int
    IntKind.i64 (0 : Int)), AV.v (Value.int IntKind.u64 (0 : Int)), AV.v (Value.int IntKind.i64 (0 : Int))] [AV.ptr (0 : Nat) (0 : Nat), AV.hs (1 : Nat) off len, AV.v (Value.int IntKind.i64
    (↑len : Int)), AV.v (Value.int IntKind.i64 (↑(0 : Nat) : Int)), AV.v (Value.int IntKind.u64 (↑(0 : Nat) : Int)), AV.any] ∧ LeH [some (Blk.row [AV.hs (1 : Nat) off len, AV.v (Value.int
    IntKind.i64 (0 : Int))]), some (Blk.arr (1 : Nat) N fun j => [AV.v (Value.int IntKind.u8 (sbyte t j))])] [some (Blk.row [AV.hs (1 : Nat) off len, AV.v (Value.int IntKind.i64 (0 :
    Int))]), some (Blk.arr (1 : Nat) N fun j => [AV.v (Value.int IntKind.u8 (sbyte t j))])])) (Tree.leaf (Ans.mk (AV.v (Value.int IntKind.i64 (0 : Int))) [some (Blk.row [AV.v (Value.slice
    none (0 : Nat) (0 : Nat)), AV.v (Value.int IntKind.i64 (31 : Int))]), some (Blk.arr (1 : Nat) N fun j => [AV.v (Value.int IntKind.u8 (sbyte t j))])]))) := by kernel_rfl
theorem runPc (off len N : Nat) (t : ByteArray) : bodyE (P := Try.prog) (Γ := Γb) [kFail] (fun _ => LSpec.at [0, 19, 20, 21, 3, 2] [] (SP off len N t 0) (OPc off len N t)) false 75 [.tmp 2] (bodyOf Try.f87) [.ptr 0 0] (rdB off len N t) =
  Tree.br false (Tree.leaf (Ans.mk (AV.v (Value.int IntKind.i64 (0 : Int))) [some (Blk.row [AV.hs (1 : Nat) off len, AV.v (Value.int IntKind.i64 (0 : Int))]), some (Blk.arr (1 : Nat) N fun j
    => [AV.v (Value.int IntKind.u8 (sbyte t j))])])) (Tree.chk (cl (LeL [AV.ptr (0 : Nat) (0 : Nat), AV.hs (1 : Nat) off len, AV.v (Value.int IntKind.i64 (↑len : Int)), AV.v (Value.int
    IntKind.i64 (0 : Int)), AV.v (Value.int IntKind.u64 (0 : Int)), AV.v (Value.int IntKind.i64 (0 : Int))] [AV.ptr (0 : Nat) (0 : Nat), AV.hs (1 : Nat) off len, AV.v (Value.int IntKind.i64
    (↑len : Int)), AV.v (Value.int IntKind.i64 (↑(0 : Nat) : Int)), AV.v (Value.int IntKind.u64 (↑(0 : Nat) : Int)), AV.any] ∧ LeH [some (Blk.row [AV.hs (1 : Nat) off len, AV.v (Value.int
    IntKind.i64 (0 : Int))]), some (Blk.arr (1 : Nat) N fun j => [AV.v (Value.int IntKind.u8 (sbyte t j))])] [some (Blk.row [AV.hs (1 : Nat) off len, AV.v (Value.int IntKind.i64 (0 :
    Int))]), some (Blk.arr (1 : Nat) N fun j => [AV.v (Value.int IntKind.u8 (sbyte t j))])])) (Tree.br true (Tree.leaf (Ans.mk (AV.v (Value.int IntKind.i64 (0 : Int))) [some (Blk.row [AV.v
    (Value.slice none (0 : Nat) (0 : Nat)), AV.v (Value.int IntKind.i64 (30 : Int))]), some (Blk.arr (1 : Nat) N fun j => [AV.v (Value.int IntKind.u8 (sbyte t j))])])) (Tree.leaf (Ans.mk
    (AV.v (Value.int IntKind.i64 (0 : Int))) [some (Blk.row [AV.hs (1 : Nat) off len, AV.v (Value.int IntKind.i64 (0 : Int))]), some (Blk.arr (1 : Nat) N fun j => [AV.v (Value.int IntKind.u8
    (sbyte t j))])])))) := by kernel_rfl
theorem ansReadG {off len N k : Nat} {t : ByteArray} (h : IsGood t off len k) (hlen : len ≤ 1000000000000) : Answers Try.prog Γb 87 [.ptr 0 0] (rdB off len N t) (.v (.int .i64 (vAt t off (k + 1) : Int))) ((rdB (off + (k + 1)) (len - (k + 1)) N t).map some) [] :=
  answers (fn := Try.f87) (c := bodyOf Try.f87) (ntmps := 75) (results := [.tmp 2]) [kFail] (fun _ => LSpec.at [0, 19, 20, 21, 3, 2] [] (SP off len N t 0) (OPg off len N t k)) false Try.func87 (by kernel_rfl) (by kernel_rfl) (by kernel_rfl) (by kernel_rfl) (by simp) rfl (oneLoop (b := loopP) (by kernel_rfl) (loopPg_ok h hlen 0 (Nat.zero_le _)))
    (Meets.of (runPg off len N k t) ⟨fun h => by simp at h, fun _ => ⟨cl_iff.2 ⟨⟨.refl _, .refl _, .refl _, .refl _, .refl _, .any _, trivial⟩, LeH.refl _⟩, .refl _, LeH.refl _⟩⟩)
theorem ansReadB {off len N k : Nat} {t : ByteArray} (h : IsBad t off len k) (hlen : len ≤ 1000000000000) : Answers Try.prog Γb 87 [.ptr 0 0] (rdB off len N t) (.v (.int .i64 0)) (badB 31 N t) [] :=
  answers (fn := Try.f87) (c := bodyOf Try.f87) (ntmps := 75) (results := [.tmp 2]) [kFail] (fun _ => LSpec.at [0, 19, 20, 21, 3, 2] [] (SP off len N t 0) (OPb N t)) false Try.func87 (by kernel_rfl) (by kernel_rfl) (by kernel_rfl) (by kernel_rfl) (by simp) rfl (oneLoop (b := loopP) (by kernel_rfl) (loopPb_ok h hlen 0 (Nat.zero_le _)))
    (Meets.of (runPb off len N t) ⟨fun h => by simp at h, fun _ => ⟨cl_iff.2 ⟨⟨.refl _, .refl _, .refl _, .refl _, .refl _, .any _, trivial⟩, LeH.refl _⟩, .refl _, LeH.refl _⟩⟩)
theorem ansReadC {off len N : Nat} {t : ByteArray} (h : IsCut t off len) : Answers Try.prog Γb 87 [.ptr 0 0] (rdB off len N t) (.v (.int .i64 0)) (badB 30 N t) [] :=
  answers (fn := Try.f87) (c := bodyOf Try.f87) (ntmps := 75) (results := [.tmp 2]) [kFail] (fun _ => LSpec.at [0, 19, 20, 21, 3, 2] [] (SP off len N t 0) (OPc off len N t)) false Try.func87 (by kernel_rfl) (by kernel_rfl) (by kernel_rfl) (by kernel_rfl) (by simp) rfl (oneLoop (b := loopP) (by kernel_rfl) (loopPc_ok h 0 (Nat.zero_le _)))
    (Meets.of (runPc off len N t) ⟨fun h => by simp at h, fun _ => ⟨cl_iff.2 ⟨⟨.refl _, .refl _, .refl _, .refl _, .refl _, .any _, trivial⟩, LeH.refl _⟩, fun _ => ⟨.refl _, LeH.refl _⟩, fun h => by simp at h⟩⟩)

def rdb (t : ByteArray) (off : Nat) (e : Int) : List Blk := [.row [.hs 1 off (t.size - off), .v (.int .i64 e)], .arr 1 t.size (bsF t)]
theorem runPe (t : ByteArray) (off : Nat) (e : Int) : bodyE (P := Try.prog) (Γ := Γb) [kFail] Lno false 75 [.tmp 2] (bodyOf Try.f87) [.ptr 0 0] (rdb t off e) =
  Tree.br (!decide (e = (0 : Int))) (Tree.leaf (Ans.mk (AV.v (Value.int IntKind.i64 (0 : Int))) [some (Blk.row [AV.hs (1 : Nat) off (ByteArray.size t - off), AV.v (Value.int IntKind.i64 e)]),
    some (Blk.arr (1 : Nat) (ByteArray.size t) fun j => [AV.v (Value.int IntKind.u8 (sbyte t j))])])) Tree.fail := by kernel_rfl
theorem rdb_end {t : ByteArray} {e : Int} : [some (Blk.row [.hs 1 t.size 0, .v (.int .i64 e)]), some (Blk.arr 1 t.size (bsF t))] = (rdb t t.size e).map some := by
  unfold rdb
  rw [Nat.sub_self]; rfl
theorem ansRn {t : ByteArray} {off : Nat} {e : Int} (hz : t.size ≤ 1000000000000) : Answers Try.prog Γb 87 [.ptr 0 0] (rdb t off e) (.v (.int .i64 (qN t off e))) ((rdb t (qO t off e) (qE t off e)).map some) [] := by
  by_cases he : e = 0
  · subst he
    rcases classify t off (t.size - off) with ⟨k, hk⟩ | hc | ⟨k, hk⟩
    · obtain ⟨h1, h2, h3⟩ := q_good hk
      rw [h1, h2, h3]
      have := ansReadG (N := t.size) hk (by omega)
      rw [Nat.sub_sub] at this
      exact this
    · obtain ⟨h1, h2, h3⟩ := q_cut hc
      rw [h1, h2, h3, ← rdb_end]
      exact Answers.boxOut (Hin := rdB off (t.size - off) t.size t) 0 0 0 1 0 0 off (t.size - off) rfl rfl rfl (by show 1 < 2; decide) rfl rfl rfl (ansReadC (N := t.size) hc)
    · obtain ⟨h1, h2, h3⟩ := q_no hk
      rw [h1, h2, h3, ← rdb_end]
      exact Answers.boxOut (Hin := rdB off (t.size - off) t.size t) 0 0 0 1 0 0 off (t.size - off) rfl rfl rfl (by show 1 < 2; decide) rfl rfl rfl (ansReadB (N := t.size) hk (by omega))
  · rw [qN_bad he, qO_bad he, qE_bad he]
    exact answers (fn := Try.f87) (c := bodyOf Try.f87) (ntmps := 75) (results := [.tmp 2]) [kFail] Lno false Try.func87 (by kernel_rfl) (by kernel_rfl) (by kernel_rfl) (by kernel_rfl) (by simp) rfl (fun _ _ _ => fail_ok)
      (Meets.of (runPe t off e) (by
        rw [decide_eq_false he]
        exact ⟨fun _ => ⟨.refl _, LeH.refl _⟩, fun h => by simp at h⟩))
def ofR : List AV → List Blk → Option (Nat × Int)
  | [.ptr 0 0], [.row [.hs 1 off _, .v (.int _ e)], .arr _ _ _] => some (off, e)
  | _, _ => none
def ofRI : List AV → List Blk → Option (Nat × Int × Int)
  | [.ptr 0 0, .v (.int _ n)], [.row [.hs 1 off _, .v (.int _ e)], .arr _ _ _] => some (off, e, n)
  | _, _ => none
noncomputable def kRn (t : ByteArray) (hz : t.size ≤ 1000000000000) : CT Try.prog Γb := CT.par 87 ofR (fun _ => True) (fun _ => [.ptr 0 0]) (fun | (off, e) => rdb t off e) (fun | (off, e) => .v (.int .i64 (qN t off e))) (fun | (off, e) => (rdb t (qO t off e) (qE t off e)).map some) (fun _ => [])
  (callFunc_enters Try.func87 (by kernel_rfl) (by kernel_rfl)) (fun | (off, e), _ => ansRn hz)
def fO (n off : Nat) (e x : Int) : Nat := if e = 0 ∧ ¬ x = 0 then n else off
def fE (e x : Int) : Int := if e = 0 ∧ ¬ x = 0 then x else e
theorem runFl (t : ByteArray) (off : Nat) (e x : Int) : bodyE (P := Try.prog) (Γ := Γb) [] Lno false 24 [] (bodyOf Try.f97) [.ptr 0 0, .v (.int .i64 x)] (rdb t off e) =
  Tree.br (bif decide (e = (0 : Int)) then !decide (x = (0 : Int)) else false) (Tree.leaf (Ans.mk (AV.tup []) [some (Blk.row [AV.v (Value.slice none (0 : Nat) (0 : Nat)), AV.v (Value.int
    IntKind.i64 x)]), some (Blk.arr (1 : Nat) (ByteArray.size t) fun j => [AV.v (Value.int IntKind.u8 (sbyte t j))])])) (Tree.leaf (Ans.mk (AV.tup []) [some (Blk.row [AV.hs (1 : Nat) off
    (ByteArray.size t - off), AV.v (Value.int IntKind.i64 e)]), some (Blk.arr (1 : Nat) (ByteArray.size t) fun j => [AV.v (Value.int IntKind.u8 (sbyte t j))])])) := by kernel_rfl
theorem ansFl {t : ByteArray} {off : Nat} {e x : Int} : Answers Try.prog Γb 97 [.ptr 0 0, .v (.int .i64 x)] (rdb t off e) (.tup []) ((rdb t (fO t.size off e x) (fE e x)).map some) [] := by
  by_cases h : e = 0 ∧ ¬ x = 0
  · have e1 : fO t.size off e x = t.size := if_pos h
    have e2 : fE e x = x := if_pos h
    rw [e1, e2, ← rdb_end]
    refine Answers.boxOut (Hin := rdb t off e) 0 0 0 1 0 0 off (t.size - off) rfl rfl rfl (by show 1 < 2; decide) rfl rfl rfl (v := .tup []) (H1 := badB x t.size t) (new := []) ?_
    refine answers (fn := Try.f97) (c := bodyOf Try.f97) (ntmps := 24) (results := []) [] (Lno) false Try.func97 (by kernel_rfl) (by kernel_rfl) (by kernel_rfl) (by kernel_rfl) (by simp) rfl (failOK fun _ _ _ => rfl) <| Meets.of (runFl t off e x) <| ?_
    rw [decide_eq_true h.1, decide_eq_false h.2]
    exact ⟨fun _ => ⟨.refl _, LeH.refl _⟩, fun h => by simp at h⟩
  · have e1 : fO t.size off e x = off := if_neg h
    have e2 : fE e x = e := if_neg h
    rw [e1, e2]
    refine answers (fn := Try.f97) (c := bodyOf Try.f97) (ntmps := 24) (results := []) [] (Lno) false Try.func97 (by kernel_rfl) (by kernel_rfl) (by kernel_rfl) (by kernel_rfl) (by simp) rfl (failOK fun _ _ _ => rfl) <| Meets.of (runFl t off e x) <| ?_
    have hc : (bif decide (e = (0 : Int)) then !decide (x = (0 : Int)) else false) = false := by
      by_cases h1 : e = 0
      · have h2 : x = 0 := by
          by_cases h2 : x = 0
          · exact h2
          · exact absurd ⟨h1, h2⟩ h
        rw [decide_eq_true h1, decide_eq_true h2]; rfl
      · rw [decide_eq_false h1]; rfl
    rw [hc]
    exact ⟨fun h => by simp at h, fun _ => ⟨.refl _, LeH.refl _⟩⟩
noncomputable def kFl (t : ByteArray) : CT Try.prog Γb := CT.par 97 ofRI (fun _ => True) (fun | (off, e, x) => [.ptr 0 0, .v (.int .i64 x)]) (fun | (off, e, x) => rdb t off e) (fun _ => .tup []) (fun | (off, e, x) => (rdb t (fO t.size off e x) (fE e x)).map some) (fun _ => [])
  (callFunc_enters Try.func97 (by kernel_rfl) (by kernel_rfl)) (fun | (off, e, x), _ => ansFl)
theorem runRs (t : ByteArray) (off : Nat) (e : Int) : bodyE (P := Try.prog) (Γ := Γb) [] Lno false 10 [.tmp 2] (bodyOf Try.f44) [.ptr 0 0] (rdb t off e) =
  Tree.leaf (Ans.mk (AV.v (Value.int IntKind.i64 (↑(ByteArray.size t - off) : Int))) [some (Blk.row [AV.hs (1 : Nat) off (ByteArray.size t - off), AV.v (Value.int IntKind.i64 e)]), some
    (Blk.arr (1 : Nat) (ByteArray.size t) fun j => [AV.v (Value.int IntKind.u8 (sbyte t j))])]) := by kernel_rfl
theorem ansRs {t : ByteArray} {off : Nat} {e : Int} : Answers Try.prog Γb 44 [.ptr 0 0] (rdb t off e) (.v (.int .i64 ((t.size - off : Nat) : Int))) ((rdb t off e).map some) [] := by
  refine answers (fn := Try.f44) (c := bodyOf Try.f44) (ntmps := 10) (results := [.tmp 2]) [] (Lno) false Try.func44 (by kernel_rfl) (by kernel_rfl) (by kernel_rfl) (by kernel_rfl) (by simp) rfl (failOK fun _ _ _ => rfl) <| Meets.of (runRs t off e) <| ?_
  repeat' (first | refine wC (by first | omega | (simp only [W1, cond_true, cond_false]; first | done | omega)) ?_ | refine wT (by first | omega | (simp only [W1, cond_true, cond_false]; first | done | omega)) ?_ | refine wF (by intro _h; first | omega | (simp only [W1, cond_true, cond_false] at _h; first | done | omega)) ?_ | (refine wS ?_ ?_ <;> intro _h <;> simp only [W1, cond_true, cond_false] at _h))
  all_goals simp only [W1, W2, owesN, owesX, owesR, cond_true, cond_false]
  repeat' (first | apply And.intro | intro _hc)
  all_goals first | exact AV.le_refl _ | exact AV.le_any _ | exact OLe.refl _ | exact OLe.none _ | exact LeH.refl _ | exact LeL.refl _ | exact AV.le.bs _ | exact AV.le.sb _ | omega | contradiction
noncomputable def kRs (t : ByteArray) : CT Try.prog Γb := CT.par 44 ofR (fun _ => True) (fun _ => [.ptr 0 0]) (fun | (off, e) => rdb t off e) (fun | (off, e) => .v (.int .i64 ((t.size - off : Nat) : Int))) (fun | (off, e) => (rdb t off e).map some) (fun _ => [])
  (callFunc_enters Try.func44 (by kernel_rfl) (by kernel_rfl)) (fun | (off, e), _ => ansRs)
def dE (t : ByteArray) (off : Nat) (e : Int) : Int := if e = 0 ∧ off < t.size then 32 else e
theorem runDn (t : ByteArray) (off : Nat) (e : Int) : bodyE (P := Try.prog) (Γ := Γb) [] Lno false 24 [.tmp 2] (bodyOf Try.f88) [.ptr 0 0] (rdb t off e) =
  Tree.br (bif decide (e = (0 : Int)) then decide ((0 : Int) < (↑(ByteArray.size t - off) : Int)) else false) (Tree.leaf (Ans.mk (AV.v (Value.int IntKind.i64 (32 : Int))) [some (Blk.row [AV.hs
    (1 : Nat) off (ByteArray.size t - off), AV.v (Value.int IntKind.i64 e)]), some (Blk.arr (1 : Nat) (ByteArray.size t) fun j => [AV.v (Value.int IntKind.u8 (sbyte t j))])])) (Tree.leaf
    (Ans.mk (AV.v (Value.int IntKind.i64 e)) [some (Blk.row [AV.hs (1 : Nat) off (ByteArray.size t - off), AV.v (Value.int IntKind.i64 e)]), some (Blk.arr (1 : Nat) (ByteArray.size t) fun j
    => [AV.v (Value.int IntKind.u8 (sbyte t j))])])) := by kernel_rfl
theorem ansDn {t : ByteArray} {off : Nat} {e : Int} : Answers Try.prog Γb 88 [.ptr 0 0] (rdb t off e) (.v (.int .i64 (dE t off e))) ((rdb t off e).map some) [] := by
  refine answers (fn := Try.f88) (c := bodyOf Try.f88) (ntmps := 24) (results := [.tmp 2]) [] (Lno) false Try.func88 (by kernel_rfl) (by kernel_rfl) (by kernel_rfl) (by kernel_rfl) (by simp) rfl (failOK fun _ _ _ => rfl) <| Meets.of (runDn t off e) <| ?_
  by_cases h : e = 0 ∧ off < t.size
  · have e1 : dE t off e = 32 := if_pos h
    obtain ⟨h1, h2⟩ := h
    rw [e1]
    repeat' (first | refine wC (by first | omega | (simp only [W1, cond_true, cond_false, h1]; first | done | omega)) ?_ | refine wT (by first | omega | (simp only [W1, cond_true, cond_false, h1]; first | done | omega)) ?_ | refine wF (by intro _h; first | omega | (simp only [W1, cond_true, cond_false, h1] at _h; first | done | omega)) ?_ | (refine wS ?_ ?_ <;> intro _h <;> simp only [W1, cond_true, cond_false, h1] at _h))
    all_goals simp only [W1, W2, owesN, owesX, owesR, cond_true, cond_false, h1]
    repeat' (first | apply And.intro | intro _hc)
    all_goals first | exact AV.le_refl _ | exact AV.le_any _ | exact OLe.refl _ | exact OLe.none _ | exact LeH.refl _ | exact LeL.refl _ | exact AV.le.bs _ | exact AV.le.sb _ | omega | contradiction
  · have e1 : dE t off e = e := if_neg h
    rw [e1]
    repeat' (first | refine wC (by first | omega | (simp only [W1, cond_true, cond_false]; first | done | omega)) ?_ | refine wT (by first | omega | (simp only [W1, cond_true, cond_false]; first | done | omega)) ?_ | refine wF (by intro _h; first | omega | (simp only [W1, cond_true, cond_false] at _h; first | done | omega)) ?_ | (refine wS ?_ ?_ <;> intro _h <;> simp only [W1, cond_true, cond_false] at _h))
    all_goals simp only [W1, W2, owesN, owesX, owesR, cond_true, cond_false]
    repeat' (first | apply And.intro | intro _hc)
    all_goals first | exact AV.le_refl _ | exact AV.le_any _ | exact OLe.refl _ | exact OLe.none _ | exact LeH.refl _ | exact LeL.refl _ | exact AV.le.bs _ | exact AV.le.sb _ | omega | contradiction
noncomputable def kDn (t : ByteArray) : CT Try.prog Γb := CT.par 88 ofR (fun _ => True) (fun _ => [.ptr 0 0]) (fun | (off, e) => rdb t off e) (fun | (off, e) => .v (.int .i64 (dE t off e))) (fun | (off, e) => (rdb t off e).map some) (fun _ => [])
  (callFunc_enters Try.func88 (by kernel_rfl) (by kernel_rfl)) (fun | (off, e), _ => ansDn)
end Go.Eng.SB

namespace Go.Eng.SB
open Go Go.Eng Go.Eng.M Go.Eng.RD Go.Proofs
theorem fO_ok {t : ByteArray} {off : Nat} {e x : Int} (h : okS t off e) (hx : ¬ x = 0) : okS t (fO t.size off e x) (fE e x) := by
  unfold fO fE
  by_cases he : e = 0 ∧ ¬ x = 0
  · rw [if_pos he, if_pos he]; exact ⟨Nat.le_refl _, .inr rfl⟩
  · rw [if_neg he, if_neg he]; exact h
theorem runCcap (cap : Nat) : bodyE (P := Try.prog) (Γ := Γb) [] Lno false 8 [.tmp 2] (bodyOf Try.f95) [.v (.slice none 0 cap)] [] =
  Tree.leaf (Ans.mk (AV.v (Value.slice none (0 : Nat) (0 : Nat))) []) := by kernel_rfl
theorem runCmk  : bodyE (P := Try.prog) (Γ := Γb) [] Lno false 8 [.tmp 2] (bodyOf Try.f95) [.sl 1 0 fun _ => [.v (.tuple #[])]] [] =
  Tree.chk true (Tree.chk true (Tree.leaf (Ans.mk (AV.hs (0 : Nat) (0 : Nat) (0 : Nat)) [some (Blk.arr (1 : Nat) (0 : Nat) fun j => mixL (decide (j < (0 : Nat))) (chain [AV.v (Value.int
    IntKind.u8 (0 : Int))] (0 : Nat) [] ((0 : Nat) + j)) [AV.v (Value.tuple #[])])]))) := by kernel_rfl
theorem ansClE {g : Nat → List AV} : Answers Try.prog Γb 95 [.sl 1 0 g] [] (.hs 0 0 0) [] [.arr 1 0 fun _ => [.v (.int .u8 0)]] := by
  refine Answers.nilSl (sz := 1) (z := [.v (.int .u8 0)]) rfl (M := [.v (.tuple #[])]) rfl (fun cap => ?_) ?_
  · refine answers (fn := Try.f95) (c := bodyOf Try.f95) (ntmps := 8) (results := [.tmp 2]) [] (Lno) false Try.func95 (by kernel_rfl) (by kernel_rfl) (by kernel_rfl) (by kernel_rfl) (by simp) rfl (failOK fun _ _ _ => rfl) <| Meets.of (runCcap cap) <| ?_
    repeat' (first | refine wC (by first | omega | (simp only [W1, cond_true, cond_false]; first | done | omega)) ?_ | refine wT (by first | omega | (simp only [W1, cond_true, cond_false]; first | done | omega)) ?_ | refine wF (by intro _h; first | omega | (simp only [W1, cond_true, cond_false] at _h; first | done | omega)) ?_ | (refine wS ?_ ?_ <;> intro _h <;> simp only [W1, cond_true, cond_false] at _h))
    all_goals simp only [W1, W2, owesN, owesX, owesR, cond_true, cond_false]
    repeat' (first | apply And.intro | intro _hc)
    all_goals first | exact AV.le_refl _ | exact AV.le_any _ | exact OLe.refl _ | exact OLe.none _ | exact LeH.refl _ | exact LeL.refl _ | exact AV.le.bs _ | exact AV.le.sb _ | omega | contradiction
  · refine answers (fn := Try.f95) (c := bodyOf Try.f95) (ntmps := 8) (results := [.tmp 2]) [] (Lno) false Try.func95 (by kernel_rfl) (by kernel_rfl) (by kernel_rfl) (by kernel_rfl) (by simp) rfl (failOK fun _ _ _ => rfl) <| Meets.of (runCmk) <| ?_
    refine ⟨rfl, rfl, .refl _, OLe.arr rfl (fun e he => absurd he (Nat.not_lt_zero e)) (fun _ => rfl), trivial⟩
theorem runNwE (g : Nat → List AV) : bodyE (P := Try.prog) (Γ := Γb) [CT.at 95 (ansClE (g := g))] Lno false 7 [.tmp 2] (bodyOf Try.f42) [.sl 1 0 g] [] =
  Tree.chk (cl (LeL [AV.sl (1 : Nat) (0 : Nat) g] [AV.sl (1 : Nat) (0 : Nat) g] ∧ LeH [] [])) (Tree.leaf (Ans.mk (AV.ptr (0 : Nat) (0 : Nat)) [some (Blk.row [AV.hs (1 : Nat) (0 : Nat) (0 :
    Nat), AV.v (Value.int IntKind.i64 (0 : Int))]), some (Blk.arr (1 : Nat) (0 : Nat) fun x => [AV.v (Value.int IntKind.u8 (0 : Int))])])) := by kernel_rfl
theorem runNwH (t : ByteArray) (h : (BA.hs t).ok) : bodyE (P := Try.prog) (Γ := Γb) [CT.at 95 (ansClone (.hs t) h)] Lno false 7 [.tmp 2] (bodyOf Try.f42) [.hs 0 0 t.size] [.arr 1 t.size (bsF t)] =
  Tree.chk (cl (LeL [AV.hs (0 : Nat) (0 : Nat) (ByteArray.size t)] [AV.hs (0 : Nat) (0 : Nat) (ByteArray.size t)] ∧ LeH [some (Blk.arr (1 : Nat) (ByteArray.size t) fun j => [AV.v (Value.int
    IntKind.u8 (sbyte t j))])] [some (Blk.arr (1 : Nat) (ByteArray.size t) fun j => [AV.v (Value.int IntKind.u8 (sbyte t j))])])) (Tree.leaf (Ans.mk (AV.ptr (1 : Nat) (0 : Nat)) [some
    (Blk.arr (1 : Nat) (ByteArray.size t) fun j => [AV.v (Value.int IntKind.u8 (sbyte t j))]), some (Blk.row [AV.hs (2 : Nat) (0 : Nat) (ByteArray.size t), AV.v (Value.int IntKind.i64 (0 :
    Int))]), some (Blk.arr (1 : Nat) (ByteArray.size t) fun j => [AV.v (Value.int IntKind.u8 (sbyte t j))])])) := by kernel_rfl
theorem ansNwE {g : Nat → List AV} : Answers Try.prog Γb 42 [.sl 1 0 g] [] (.ptr 0 0) [] (rdb ⟨#[]⟩ 0 0) := by
  refine answers (fn := Try.f42) (c := bodyOf Try.f42) (ntmps := 7) (results := [.tmp 2]) [CT.at 95 (ansClE (g := g))] (Lno) false Try.func42 (by kernel_rfl) (by kernel_rfl) (by kernel_rfl) (by kernel_rfl) (by simp) rfl (failOK fun _ _ _ => rfl) <| Meets.of (runNwE g) <| ?_
  repeat' (first | refine wC (by first | omega | (simp only [W1, cond_true, cond_false]; first | done | omega)) ?_ | refine wT (by first | omega | (simp only [W1, cond_true, cond_false]; first | done | omega)) ?_ | refine wF (by intro _h; first | omega | (simp only [W1, cond_true, cond_false] at _h; first | done | omega)) ?_ | (refine wS ?_ ?_ <;> intro _h <;> simp only [W1, cond_true, cond_false] at _h))
  all_goals simp only [W1, W2, owesN, owesX, owesR, cond_true, cond_false]
  repeat' (first | apply And.intro | intro _hc)
  all_goals first | exact OLe.arr rfl (fun e he => absurd he (Nat.not_lt_zero e)) (fun _ => rfl) | exact AV.le_refl _ | exact AV.le_any _ | exact OLe.refl _ | exact OLe.none _ | exact LeH.refl _ | exact LeL.refl _ | exact AV.le.bs _ | exact AV.le.sb _ | omega | contradiction
theorem ansNwH {t : ByteArray} (h : (BA.hs t).ok) : Answers Try.prog Γb 42 [.hs 0 0 t.size] [.arr 1 t.size (bsF t)] (.ptr 1 0) [some (.arr 1 t.size (bsF t))] [.row [.hs 2 0 t.size, .v (.int .i64 0)], .arr 1 t.size (bsF t)] := by
  refine answers (fn := Try.f42) (c := bodyOf Try.f42) (ntmps := 7) (results := [.tmp 2]) [CT.at 95 (ansClone (.hs t) h)] (Lno) false Try.func42 (by kernel_rfl) (by kernel_rfl) (by kernel_rfl) (by kernel_rfl) (by simp) rfl (failOK fun _ _ _ => rfl) <| Meets.of (runNwH t h) <| ?_
  repeat' (first | refine wC (by first | omega | (simp only [W1, cond_true, cond_false]; first | done | omega)) ?_ | refine wT (by first | omega | (simp only [W1, cond_true, cond_false]; first | done | omega)) ?_ | refine wF (by intro _h; first | omega | (simp only [W1, cond_true, cond_false] at _h; first | done | omega)) ?_ | (refine wS ?_ ?_ <;> intro _h <;> simp only [W1, cond_true, cond_false] at _h))
  all_goals simp only [W1, W2, owesN, owesX, owesR, cond_true, cond_false]
  repeat' (first | apply And.intro | intro _hc)
  all_goals first | exact AV.le_refl _ | exact AV.le_any _ | exact OLe.refl _ | exact OLe.none _ | exact LeH.refl _ | exact LeL.refl _ | exact AV.le.bs _ | exact AV.le.sb _ | omega | contradiction
end Go.Eng.SB

namespace Go.Eng.SB.T
open Go Go.Eng Go.Eng.SB Go.Lib Go.Proofs
def bF (g : Nat → Int) : Nat → List AV := fun j => [.v (.int .u8 (g j))]
structure Tp where
  fi : Int
  fa : Int
  o : Nat
  n : Nat
  N : Nat
  g : Nat → Int
  left : Int
@[reducible] def Tp.bl (x : Tp) (off : Bool) : List Blk := [.row [.v (.int .i64 1048576), .v (.int .i64 x.fi), .v (.int .i64 x.fa), .hs 1 x.o x.n, .v (.int .i64 x.left), .v (.bool off)], .arr 1 x.N (bF x.g)]
noncomputable def k78 : CT Try.prog Γb := CT.auto false 100 3 [] 78 Try.f78 (bodyOf Try.f78) false 11 [.tmp 2] Try.func78 (by kernel_rfl) (by kernel_rfl) (by kernel_rfl) (by kernel_rfl)
noncomputable def k118 : CT Try.prog Γb := CT.auto false 100 3 [] 118 Try.f118 (bodyOf Try.f118) false 23 [.tmp 2] Try.func118 (by kernel_rfl) (by kernel_rfl) (by kernel_rfl) (by kernel_rfl)
structure EX where
  rm : Int
  fi : Int
  fa : Int
  o : Nat
  n : Nat
  le : Int
  off : Bool
  N : Nat
  f : Nat → List AV
@[reducible] def EX.bl (x : EX) : List Blk := [.row [.v (.int .i64 x.rm), .v (.int .i64 x.fi), .v (.int .i64 x.fa), .hs 1 x.o x.n, .v (.int .i64 x.le), .v (.bool x.off)], .arr 1 x.N x.f]
def toE : List AV → List Blk → Option EX
  | [.ptr 0 0], [.row [.v (.int .i64 rm), .v (.int .i64 fi), .v (.int .i64 fa), .hs 1 o n, .v (.int .i64 le), .v (.bool off)], .arr 1 N f] => some ⟨rm, fi, fa, o, n, le, off, N, f⟩
  | _, _ => none
theorem toE_inv {args : List AV} {Hin : List Blk} {x : EX} (h : toE args Hin = some x) : args = [.ptr 0 0] ∧ Hin = x.bl := by
  unfold toE at h
  split at h
  · cases h
    exact ⟨rfl, rfl⟩
  · cases h
theorem runEnd (x : EX) : bodyE (P := Try.prog) (Γ := Γb) [] Lno false 13 [.tmp 2] (bodyOf Try.f77) [.ptr 0 0] x.bl =
  Tree.leaf (Ans.mk (AV.v (Value.int IntKind.i64 (IntKind.wrap IntKind.i64 (x.fi + (↑x.n : Int))))) [some (Blk.row [AV.v (Value.int IntKind.i64 x.rm), AV.v (Value.int IntKind.i64 x.fi), AV.v
    (Value.int IntKind.i64 x.fa), AV.hs (1 : Nat) x.o x.n, AV.v (Value.int IntKind.i64 x.le), AV.v (Value.bool x.off)]), some (Blk.arr (1 : Nat) x.N fun a => x.9 a)]) := by kernel_rfl
theorem ansEnd (x : EX) : Answers Try.prog Γb 77 [.ptr 0 0] x.bl (.v (.int .i64 (IntKind.i64.wrap (x.fi + (x.n : Int))))) (x.bl.map some) [] := answers (fn := Try.f77) (c := bodyOf Try.f77) (ntmps := 13) (results := [.tmp 2]) [] Lno false Try.func77 (by kernel_rfl) (by kernel_rfl) (by kernel_rfl) (by kernel_rfl) (by simp) rfl (noLoops (by kernel_rfl)) (by
  refine Meets.of (runEnd x) ?_
  exact ⟨.refl _, .refl _, .refl _, trivial⟩)
noncomputable def k77 : CT Try.prog Γb := CT.ex 77 toE (fun _ => True) (fun x => .v (.int .i64 (IntKind.i64.wrap (x.fi + (x.n : Int))))) (fun _ => []) (fun _ => [])
  (callFunc_enters Try.func77 (by kernel_rfl) (by kernel_rfl)) (fun args Hin x hx hp => by
    obtain ⟨rfl, rfl⟩ := toE_inv hx
    exact (ansEnd x).cU rfl)
noncomputable def k119 : CT Try.prog Γb := CT.auto false 100 3 [k118] 119 Try.f119 (bodyOf Try.f119) false 19 [.tmp 8] Try.func119 (by kernel_rfl) (by kernel_rfl) (by kernel_rfl) (by kernel_rfl)
theorem runHold (x : Tp) : bodyE (P := Try.prog) (Γ := Γb) [k78, k118, k77] Lno false 18 [.tmp 2] (bodyOf Try.f74) [.ptr 0 0] (x.bl false) =
  Tree.br true (Tree.br (decide (x.left = (0 : Int))) (Tree.br false (Tree.chk (cl True) (Tree.leaf (Ans.mk (AV.v (Value.int IntKind.i64 (170 : Int))) [some (Blk.row [AV.v (Value.int
    IntKind.i64 (1048576 : Int)), AV.v (Value.int IntKind.i64 x.fi), AV.v (Value.int IntKind.i64 (IntKind.wrap IntKind.i64 (x.fi + (↑x.n : Int)))), AV.hs (1 : Nat) x.o x.n, AV.v (Value.int
    IntKind.i64 x.left), AV.v (Value.bool true)]), some (Blk.arr (1 : Nat) x.N fun j => [AV.v (Value.int IntKind.u8 (x.g j))])]))) (Tree.leaf (Ans.mk (AV.v (Value.int IntKind.i64 (170 :
    Int))) [some (Blk.row [AV.v (Value.int IntKind.i64 (1048576 : Int)), AV.v (Value.int IntKind.i64 x.fi), AV.v (Value.int IntKind.i64 x.fa), AV.hs (1 : Nat) x.o x.n, AV.v (Value.int
    IntKind.i64 x.left), AV.v (Value.bool true)]), some (Blk.arr (1 : Nat) x.N fun j => [AV.v (Value.int IntKind.u8 (x.g j))])]))) (Tree.br (decide ((0 : Int) < x.left)) (Tree.br true
    (Tree.chk (cl True) (Tree.leaf (Ans.mk (AV.v (Value.int IntKind.i64 (0 : Int))) [some (Blk.row [AV.v (Value.int IntKind.i64 (1048576 : Int)), AV.v (Value.int IntKind.i64 x.fi), AV.v
    (Value.int IntKind.i64 (IntKind.wrap IntKind.i64 (x.fi + (↑x.n : Int)))), AV.hs (1 : Nat) x.o x.n, AV.v (Value.int IntKind.i64 (IntKind.wrap IntKind.i64 (x.left - (1 : Int)))), AV.v
    (Value.bool false)]), some (Blk.arr (1 : Nat) x.N fun j => [AV.v (Value.int IntKind.u8 (x.g j))])]))) (Tree.leaf (Ans.mk (AV.v (Value.int IntKind.i64 (0 : Int))) [some (Blk.row [AV.v
    (Value.int IntKind.i64 (1048576 : Int)), AV.v (Value.int IntKind.i64 x.fi), AV.v (Value.int IntKind.i64 x.fa), AV.hs (1 : Nat) x.o x.n, AV.v (Value.int IntKind.i64 (IntKind.wrap
    IntKind.i64 (x.left - (1 : Int)))), AV.v (Value.bool false)]), some (Blk.arr (1 : Nat) x.N fun j => [AV.v (Value.int IntKind.u8 (x.g j))])]))) (Tree.br true (Tree.chk (cl True)
    (Tree.leaf (Ans.mk (AV.v (Value.int IntKind.i64 (0 : Int))) [some (Blk.row [AV.v (Value.int IntKind.i64 (1048576 : Int)), AV.v (Value.int IntKind.i64 x.fi), AV.v (Value.int IntKind.i64
    (IntKind.wrap IntKind.i64 (x.fi + (↑x.n : Int)))), AV.hs (1 : Nat) x.o x.n, AV.v (Value.int IntKind.i64 x.left), AV.v (Value.bool false)]), some (Blk.arr (1 : Nat) x.N fun j => [AV.v
    (Value.int IntKind.u8 (x.g j))])]))) (Tree.leaf (Ans.mk (AV.v (Value.int IntKind.i64 (0 : Int))) [some (Blk.row [AV.v (Value.int IntKind.i64 (1048576 : Int)), AV.v (Value.int IntKind.i64
    x.fi), AV.v (Value.int IntKind.i64 x.fa), AV.hs (1 : Nat) x.o x.n, AV.v (Value.int IntKind.i64 x.left), AV.v (Value.bool false)]), some (Blk.arr (1 : Nat) x.N fun j => [AV.v (Value.int
    IntKind.u8 (x.g j))])]))))) (Tree.br true (Tree.chk (cl True) (Tree.leaf (Ans.mk (AV.v (Value.int IntKind.i64 (0 : Int))) [some (Blk.row [AV.v (Value.int IntKind.i64 (1048576 : Int)),
    AV.v (Value.int IntKind.i64 x.fi), AV.v (Value.int IntKind.i64 (IntKind.wrap IntKind.i64 (x.fi + (↑x.n : Int)))), AV.hs (1 : Nat) x.o x.n, AV.v (Value.int IntKind.i64 x.left), AV.v
    (Value.bool false)]), some (Blk.arr (1 : Nat) x.N fun j => [AV.v (Value.int IntKind.u8 (x.g j))])]))) (Tree.leaf (Ans.mk (AV.v (Value.int IntKind.i64 (0 : Int))) [some (Blk.row [AV.v
    (Value.int IntKind.i64 (1048576 : Int)), AV.v (Value.int IntKind.i64 x.fi), AV.v (Value.int IntKind.i64 x.fa), AV.hs (1 : Nat) x.o x.n, AV.v (Value.int IntKind.i64 x.left), AV.v
    (Value.bool false)]), some (Blk.arr (1 : Nat) x.N fun j => [AV.v (Value.int IntKind.u8 (x.g j))])]))) := by kernel_rfl
theorem runHold1 (x : Tp) : bodyE (P := Try.prog) (Γ := Γb) [k78, k118, k77] Lno false 18 [.tmp 2] (bodyOf Try.f74) [.ptr 0 0] (x.bl true) =
  Tree.br false (Tree.br (decide (x.left = (0 : Int))) (Tree.br false (Tree.chk (cl True) (Tree.leaf (Ans.mk (AV.v (Value.int IntKind.i64 (170 : Int))) [some (Blk.row [AV.v (Value.int
    IntKind.i64 (1048576 : Int)), AV.v (Value.int IntKind.i64 x.fi), AV.v (Value.int IntKind.i64 (IntKind.wrap IntKind.i64 (x.fi + (↑x.n : Int)))), AV.hs (1 : Nat) x.o x.n, AV.v (Value.int
    IntKind.i64 x.left), AV.v (Value.bool true)]), some (Blk.arr (1 : Nat) x.N fun j => [AV.v (Value.int IntKind.u8 (x.g j))])]))) (Tree.leaf (Ans.mk (AV.v (Value.int IntKind.i64 (170 :
    Int))) [some (Blk.row [AV.v (Value.int IntKind.i64 (1048576 : Int)), AV.v (Value.int IntKind.i64 x.fi), AV.v (Value.int IntKind.i64 x.fa), AV.hs (1 : Nat) x.o x.n, AV.v (Value.int
    IntKind.i64 x.left), AV.v (Value.bool true)]), some (Blk.arr (1 : Nat) x.N fun j => [AV.v (Value.int IntKind.u8 (x.g j))])]))) (Tree.br (decide ((0 : Int) < x.left)) (Tree.br true
    (Tree.chk (cl True) (Tree.leaf (Ans.mk (AV.v (Value.int IntKind.i64 (0 : Int))) [some (Blk.row [AV.v (Value.int IntKind.i64 (1048576 : Int)), AV.v (Value.int IntKind.i64 x.fi), AV.v
    (Value.int IntKind.i64 (IntKind.wrap IntKind.i64 (x.fi + (↑x.n : Int)))), AV.hs (1 : Nat) x.o x.n, AV.v (Value.int IntKind.i64 (IntKind.wrap IntKind.i64 (x.left - (1 : Int)))), AV.v
    (Value.bool true)]), some (Blk.arr (1 : Nat) x.N fun j => [AV.v (Value.int IntKind.u8 (x.g j))])]))) (Tree.leaf (Ans.mk (AV.v (Value.int IntKind.i64 (0 : Int))) [some (Blk.row [AV.v
    (Value.int IntKind.i64 (1048576 : Int)), AV.v (Value.int IntKind.i64 x.fi), AV.v (Value.int IntKind.i64 x.fa), AV.hs (1 : Nat) x.o x.n, AV.v (Value.int IntKind.i64 (IntKind.wrap
    IntKind.i64 (x.left - (1 : Int)))), AV.v (Value.bool true)]), some (Blk.arr (1 : Nat) x.N fun j => [AV.v (Value.int IntKind.u8 (x.g j))])]))) (Tree.br true (Tree.chk (cl True) (Tree.leaf
    (Ans.mk (AV.v (Value.int IntKind.i64 (0 : Int))) [some (Blk.row [AV.v (Value.int IntKind.i64 (1048576 : Int)), AV.v (Value.int IntKind.i64 x.fi), AV.v (Value.int IntKind.i64
    (IntKind.wrap IntKind.i64 (x.fi + (↑x.n : Int)))), AV.hs (1 : Nat) x.o x.n, AV.v (Value.int IntKind.i64 x.left), AV.v (Value.bool true)]), some (Blk.arr (1 : Nat) x.N fun j => [AV.v
    (Value.int IntKind.u8 (x.g j))])]))) (Tree.leaf (Ans.mk (AV.v (Value.int IntKind.i64 (0 : Int))) [some (Blk.row [AV.v (Value.int IntKind.i64 (1048576 : Int)), AV.v (Value.int IntKind.i64
    x.fi), AV.v (Value.int IntKind.i64 x.fa), AV.hs (1 : Nat) x.o x.n, AV.v (Value.int IntKind.i64 x.left), AV.v (Value.bool true)]), some (Blk.arr (1 : Nat) x.N fun j => [AV.v (Value.int
    IntKind.u8 (x.g j))])]))))) (Tree.br false (Tree.chk (cl True) (Tree.leaf (Ans.mk (AV.v (Value.int IntKind.i64 (170 : Int))) [some (Blk.row [AV.v (Value.int IntKind.i64 (1048576 : Int)),
    AV.v (Value.int IntKind.i64 x.fi), AV.v (Value.int IntKind.i64 (IntKind.wrap IntKind.i64 (x.fi + (↑x.n : Int)))), AV.hs (1 : Nat) x.o x.n, AV.v (Value.int IntKind.i64 x.left), AV.v
    (Value.bool true)]), some (Blk.arr (1 : Nat) x.N fun j => [AV.v (Value.int IntKind.u8 (x.g j))])]))) (Tree.leaf (Ans.mk (AV.v (Value.int IntKind.i64 (170 : Int))) [some (Blk.row [AV.v
    (Value.int IntKind.i64 (1048576 : Int)), AV.v (Value.int IntKind.i64 x.fi), AV.v (Value.int IntKind.i64 x.fa), AV.hs (1 : Nat) x.o x.n, AV.v (Value.int IntKind.i64 x.left), AV.v
    (Value.bool true)]), some (Blk.arr (1 : Nat) x.N fun j => [AV.v (Value.int IntKind.u8 (x.g j))])]))) := by kernel_rfl
theorem runShed (x : Tp) (p : Int) : bodyE (P := Try.prog) (Γ := Γb) [k78, k119] Lno false 44 [.tmp 4] (bodyOf Try.f75) [.ptr 0 0, .v (.int .i64 p)] (x.bl false) =
  Tree.br false (Tree.leaf (Ans.mk (AV.v (Value.int IntKind.i64 (0 : Int))) [some (Blk.row [AV.v (Value.int IntKind.i64 (1048576 : Int)), AV.v (Value.int IntKind.i64 x.fi), AV.v (Value.int
    IntKind.i64 x.fa), AV.hs (1 : Nat) x.o x.n, AV.v (Value.int IntKind.i64 x.left), AV.v (Value.bool false)]), some (Blk.arr (1 : Nat) x.N fun j => [AV.v (Value.int IntKind.u8 (x.g j))])]))
    (Tree.br (bif decide (p < x.fi) then true else decide (x.fa < p)) (Tree.br false (Tree.chk (decide ((0 : Int) ≤ IntKind.wrap IntKind.i64 (p - x.fi)) && decide (IntKind.wrap IntKind.i64
    (p - x.fi) ≤ (↑x.n : Int)) && decide ((↑x.n : Int) ≤ (↑x.n : Int))) (Tree.leaf (Ans.mk (AV.v (Value.int IntKind.i64 (240 : Int))) [some (Blk.row [AV.v (Value.int IntKind.i64 (1048576 :
    Int)), AV.v (Value.int IntKind.i64 p), AV.v (Value.int IntKind.i64 x.fa), AV.hs (1 : Nat) (x.o + Int.toNat (IntKind.wrap IntKind.i64 (p - x.fi))) (x.n - Int.toNat (IntKind.wrap
    IntKind.i64 (p - x.fi))), AV.v (Value.int IntKind.i64 x.left), AV.v (Value.bool false)]), some (Blk.arr (1 : Nat) x.N fun j => [AV.v (Value.int IntKind.u8 (x.g j))])]))) (Tree.leaf
    (Ans.mk (AV.v (Value.int IntKind.i64 (240 : Int))) [some (Blk.row [AV.v (Value.int IntKind.i64 (1048576 : Int)), AV.v (Value.int IntKind.i64 x.fi), AV.v (Value.int IntKind.i64 x.fa),
    AV.hs (1 : Nat) x.o x.n, AV.v (Value.int IntKind.i64 x.left), AV.v (Value.bool false)]), some (Blk.arr (1 : Nat) x.N fun j => [AV.v (Value.int IntKind.u8 (x.g j))])]))) (Tree.br (decide
    (x.left = (0 : Int))) (Tree.br false (Tree.chk (decide ((0 : Int) ≤ IntKind.wrap IntKind.i64 (p - x.fi)) && decide (IntKind.wrap IntKind.i64 (p - x.fi) ≤ (↑x.n : Int)) && decide ((↑x.n :
    Int) ≤ (↑x.n : Int))) (Tree.leaf (Ans.mk (AV.v (Value.int IntKind.i64 (170 : Int))) [some (Blk.row [AV.v (Value.int IntKind.i64 (1048576 : Int)), AV.v (Value.int IntKind.i64 p), AV.v
    (Value.int IntKind.i64 x.fa), AV.hs (1 : Nat) (x.o + Int.toNat (IntKind.wrap IntKind.i64 (p - x.fi))) (x.n - Int.toNat (IntKind.wrap IntKind.i64 (p - x.fi))), AV.v (Value.int IntKind.i64
    x.left), AV.v (Value.bool true)]), some (Blk.arr (1 : Nat) x.N fun j => [AV.v (Value.int IntKind.u8 (x.g j))])]))) (Tree.leaf (Ans.mk (AV.v (Value.int IntKind.i64 (170 : Int))) [some
    (Blk.row [AV.v (Value.int IntKind.i64 (1048576 : Int)), AV.v (Value.int IntKind.i64 x.fi), AV.v (Value.int IntKind.i64 x.fa), AV.hs (1 : Nat) x.o x.n, AV.v (Value.int IntKind.i64
    x.left), AV.v (Value.bool true)]), some (Blk.arr (1 : Nat) x.N fun j => [AV.v (Value.int IntKind.u8 (x.g j))])]))) (Tree.br (decide ((0 : Int) < x.left)) (Tree.br true (Tree.chk (decide
    ((0 : Int) ≤ IntKind.wrap IntKind.i64 (p - x.fi)) && decide (IntKind.wrap IntKind.i64 (p - x.fi) ≤ (↑x.n : Int)) && decide ((↑x.n : Int) ≤ (↑x.n : Int))) (Tree.leaf (Ans.mk (AV.v
    (Value.int IntKind.i64 (0 : Int))) [some (Blk.row [AV.v (Value.int IntKind.i64 (1048576 : Int)), AV.v (Value.int IntKind.i64 p), AV.v (Value.int IntKind.i64 x.fa), AV.hs (1 : Nat) (x.o +
    Int.toNat (IntKind.wrap IntKind.i64 (p - x.fi))) (x.n - Int.toNat (IntKind.wrap IntKind.i64 (p - x.fi))), AV.v (Value.int IntKind.i64 (IntKind.wrap IntKind.i64 (x.left - (1 : Int)))),
    AV.v (Value.bool false)]), some (Blk.arr (1 : Nat) x.N fun j => [AV.v (Value.int IntKind.u8 (x.g j))])]))) (Tree.leaf (Ans.mk (AV.v (Value.int IntKind.i64 (0 : Int))) [some (Blk.row
    [AV.v (Value.int IntKind.i64 (1048576 : Int)), AV.v (Value.int IntKind.i64 x.fi), AV.v (Value.int IntKind.i64 x.fa), AV.hs (1 : Nat) x.o x.n, AV.v (Value.int IntKind.i64 (IntKind.wrap
    IntKind.i64 (x.left - (1 : Int)))), AV.v (Value.bool false)]), some (Blk.arr (1 : Nat) x.N fun j => [AV.v (Value.int IntKind.u8 (x.g j))])]))) (Tree.br true (Tree.chk (decide ((0 : Int)
    ≤ IntKind.wrap IntKind.i64 (p - x.fi)) && decide (IntKind.wrap IntKind.i64 (p - x.fi) ≤ (↑x.n : Int)) && decide ((↑x.n : Int) ≤ (↑x.n : Int))) (Tree.leaf (Ans.mk (AV.v (Value.int
    IntKind.i64 (0 : Int))) [some (Blk.row [AV.v (Value.int IntKind.i64 (1048576 : Int)), AV.v (Value.int IntKind.i64 p), AV.v (Value.int IntKind.i64 x.fa), AV.hs (1 : Nat) (x.o + Int.toNat
    (IntKind.wrap IntKind.i64 (p - x.fi))) (x.n - Int.toNat (IntKind.wrap IntKind.i64 (p - x.fi))), AV.v (Value.int IntKind.i64 x.left), AV.v (Value.bool false)]), some (Blk.arr (1 : Nat)
    x.N fun j => [AV.v (Value.int IntKind.u8 (x.g j))])]))) (Tree.leaf (Ans.mk (AV.v (Value.int IntKind.i64 (0 : Int))) [some (Blk.row [AV.v (Value.int IntKind.i64 (1048576 : Int)), AV.v
    (Value.int IntKind.i64 x.fi), AV.v (Value.int IntKind.i64 x.fa), AV.hs (1 : Nat) x.o x.n, AV.v (Value.int IntKind.i64 x.left), AV.v (Value.bool false)]), some (Blk.arr (1 : Nat) x.N fun
    j => [AV.v (Value.int IntKind.u8 (x.g j))])])))))) := by kernel_rfl
theorem runShed1 (x : Tp) (p : Int) : bodyE (P := Try.prog) (Γ := Γb) [k78, k119] Lno false 44 [.tmp 4] (bodyOf Try.f75) [.ptr 0 0, .v (.int .i64 p)] (x.bl true) =
  Tree.br true (Tree.leaf (Ans.mk (AV.v (Value.int IntKind.i64 (170 : Int))) [some (Blk.row [AV.v (Value.int IntKind.i64 (1048576 : Int)), AV.v (Value.int IntKind.i64 x.fi), AV.v (Value.int
    IntKind.i64 x.fa), AV.hs (1 : Nat) x.o x.n, AV.v (Value.int IntKind.i64 x.left), AV.v (Value.bool true)]), some (Blk.arr (1 : Nat) x.N fun j => [AV.v (Value.int IntKind.u8 (x.g j))])]))
    (Tree.br (bif decide (p < x.fi) then true else decide (x.fa < p)) (Tree.br false (Tree.chk (decide ((0 : Int) ≤ IntKind.wrap IntKind.i64 (p - x.fi)) && decide (IntKind.wrap IntKind.i64
    (p - x.fi) ≤ (↑x.n : Int)) && decide ((↑x.n : Int) ≤ (↑x.n : Int))) (Tree.leaf (Ans.mk (AV.v (Value.int IntKind.i64 (240 : Int))) [some (Blk.row [AV.v (Value.int IntKind.i64 (1048576 :
    Int)), AV.v (Value.int IntKind.i64 p), AV.v (Value.int IntKind.i64 x.fa), AV.hs (1 : Nat) (x.o + Int.toNat (IntKind.wrap IntKind.i64 (p - x.fi))) (x.n - Int.toNat (IntKind.wrap
    IntKind.i64 (p - x.fi))), AV.v (Value.int IntKind.i64 x.left), AV.v (Value.bool true)]), some (Blk.arr (1 : Nat) x.N fun j => [AV.v (Value.int IntKind.u8 (x.g j))])]))) (Tree.leaf
    (Ans.mk (AV.v (Value.int IntKind.i64 (240 : Int))) [some (Blk.row [AV.v (Value.int IntKind.i64 (1048576 : Int)), AV.v (Value.int IntKind.i64 x.fi), AV.v (Value.int IntKind.i64 x.fa),
    AV.hs (1 : Nat) x.o x.n, AV.v (Value.int IntKind.i64 x.left), AV.v (Value.bool true)]), some (Blk.arr (1 : Nat) x.N fun j => [AV.v (Value.int IntKind.u8 (x.g j))])]))) (Tree.br (decide
    (x.left = (0 : Int))) (Tree.br false (Tree.chk (decide ((0 : Int) ≤ IntKind.wrap IntKind.i64 (p - x.fi)) && decide (IntKind.wrap IntKind.i64 (p - x.fi) ≤ (↑x.n : Int)) && decide ((↑x.n :
    Int) ≤ (↑x.n : Int))) (Tree.leaf (Ans.mk (AV.v (Value.int IntKind.i64 (170 : Int))) [some (Blk.row [AV.v (Value.int IntKind.i64 (1048576 : Int)), AV.v (Value.int IntKind.i64 p), AV.v
    (Value.int IntKind.i64 x.fa), AV.hs (1 : Nat) (x.o + Int.toNat (IntKind.wrap IntKind.i64 (p - x.fi))) (x.n - Int.toNat (IntKind.wrap IntKind.i64 (p - x.fi))), AV.v (Value.int IntKind.i64
    x.left), AV.v (Value.bool true)]), some (Blk.arr (1 : Nat) x.N fun j => [AV.v (Value.int IntKind.u8 (x.g j))])]))) (Tree.leaf (Ans.mk (AV.v (Value.int IntKind.i64 (170 : Int))) [some
    (Blk.row [AV.v (Value.int IntKind.i64 (1048576 : Int)), AV.v (Value.int IntKind.i64 x.fi), AV.v (Value.int IntKind.i64 x.fa), AV.hs (1 : Nat) x.o x.n, AV.v (Value.int IntKind.i64
    x.left), AV.v (Value.bool true)]), some (Blk.arr (1 : Nat) x.N fun j => [AV.v (Value.int IntKind.u8 (x.g j))])]))) (Tree.br (decide ((0 : Int) < x.left)) (Tree.br true (Tree.chk (decide
    ((0 : Int) ≤ IntKind.wrap IntKind.i64 (p - x.fi)) && decide (IntKind.wrap IntKind.i64 (p - x.fi) ≤ (↑x.n : Int)) && decide ((↑x.n : Int) ≤ (↑x.n : Int))) (Tree.leaf (Ans.mk (AV.v
    (Value.int IntKind.i64 (0 : Int))) [some (Blk.row [AV.v (Value.int IntKind.i64 (1048576 : Int)), AV.v (Value.int IntKind.i64 p), AV.v (Value.int IntKind.i64 x.fa), AV.hs (1 : Nat) (x.o +
    Int.toNat (IntKind.wrap IntKind.i64 (p - x.fi))) (x.n - Int.toNat (IntKind.wrap IntKind.i64 (p - x.fi))), AV.v (Value.int IntKind.i64 (IntKind.wrap IntKind.i64 (x.left - (1 : Int)))),
    AV.v (Value.bool true)]), some (Blk.arr (1 : Nat) x.N fun j => [AV.v (Value.int IntKind.u8 (x.g j))])]))) (Tree.leaf (Ans.mk (AV.v (Value.int IntKind.i64 (0 : Int))) [some (Blk.row [AV.v
    (Value.int IntKind.i64 (1048576 : Int)), AV.v (Value.int IntKind.i64 x.fi), AV.v (Value.int IntKind.i64 x.fa), AV.hs (1 : Nat) x.o x.n, AV.v (Value.int IntKind.i64 (IntKind.wrap
    IntKind.i64 (x.left - (1 : Int)))), AV.v (Value.bool true)]), some (Blk.arr (1 : Nat) x.N fun j => [AV.v (Value.int IntKind.u8 (x.g j))])]))) (Tree.br true (Tree.chk (decide ((0 : Int) ≤
    IntKind.wrap IntKind.i64 (p - x.fi)) && decide (IntKind.wrap IntKind.i64 (p - x.fi) ≤ (↑x.n : Int)) && decide ((↑x.n : Int) ≤ (↑x.n : Int))) (Tree.leaf (Ans.mk (AV.v (Value.int
    IntKind.i64 (0 : Int))) [some (Blk.row [AV.v (Value.int IntKind.i64 (1048576 : Int)), AV.v (Value.int IntKind.i64 p), AV.v (Value.int IntKind.i64 x.fa), AV.hs (1 : Nat) (x.o + Int.toNat
    (IntKind.wrap IntKind.i64 (p - x.fi))) (x.n - Int.toNat (IntKind.wrap IntKind.i64 (p - x.fi))), AV.v (Value.int IntKind.i64 x.left), AV.v (Value.bool true)]), some (Blk.arr (1 : Nat) x.N
    fun j => [AV.v (Value.int IntKind.u8 (x.g j))])]))) (Tree.leaf (Ans.mk (AV.v (Value.int IntKind.i64 (0 : Int))) [some (Blk.row [AV.v (Value.int IntKind.i64 (1048576 : Int)), AV.v
    (Value.int IntKind.i64 x.fi), AV.v (Value.int IntKind.i64 x.fa), AV.hs (1 : Nat) x.o x.n, AV.v (Value.int IntKind.i64 x.left), AV.v (Value.bool true)]), some (Blk.arr (1 : Nat) x.N fun j
    => [AV.v (Value.int IntKind.u8 (x.g j))])])))))) := by kernel_rfl
theorem runBack (x : Tp) (p : Int) : bodyE (P := Try.prog) (Γ := Γb) [k78, k77, k119] Lno false 47 [.tmp 4] (bodyOf Try.f76) [.ptr 0 0, .v (.int .i64 p)] (x.bl false) =
  Tree.br false (Tree.leaf (Ans.mk (AV.v (Value.int IntKind.i64 (0 : Int))) [some (Blk.row [AV.v (Value.int IntKind.i64 (1048576 : Int)), AV.v (Value.int IntKind.i64 x.fi), AV.v (Value.int
    IntKind.i64 x.fa), AV.hs (1 : Nat) x.o x.n, AV.v (Value.int IntKind.i64 x.left), AV.v (Value.bool false)]), some (Blk.arr (1 : Nat) x.N fun j => [AV.v (Value.int IntKind.u8 (x.g j))])]))
    (Tree.chk (cl True) (Tree.br (bif decide (p < x.fi) then true else decide (IntKind.wrap IntKind.i64 (x.fi + (↑x.n : Int)) < p)) (Tree.br false (Tree.chk (decide ((↑(0 : Nat) : Int) ≤
    IntKind.wrap IntKind.i64 (p - x.fi)) && decide (IntKind.wrap IntKind.i64 (p - x.fi) ≤ (↑x.n : Int))) (Tree.leaf (Ans.mk (AV.v (Value.int IntKind.i64 (240 : Int))) [some (Blk.row [AV.v
    (Value.int IntKind.i64 (1048576 : Int)), AV.v (Value.int IntKind.i64 x.fi), AV.v (Value.int IntKind.i64 (if p < x.fa then p else x.fa)), AV.hs (1 : Nat) (x.o + (0 : Nat)) (Int.toNat
    (IntKind.wrap IntKind.i64 (p - x.fi))), AV.v (Value.int IntKind.i64 x.left), AV.v (Value.bool false)]), some (Blk.arr (1 : Nat) x.N fun j => [AV.v (Value.int IntKind.u8 (x.g j))])])))
    (Tree.leaf (Ans.mk (AV.v (Value.int IntKind.i64 (240 : Int))) [some (Blk.row [AV.v (Value.int IntKind.i64 (1048576 : Int)), AV.v (Value.int IntKind.i64 x.fi), AV.v (Value.int IntKind.i64
    x.fa), AV.hs (1 : Nat) x.o x.n, AV.v (Value.int IntKind.i64 x.left), AV.v (Value.bool false)]), some (Blk.arr (1 : Nat) x.N fun j => [AV.v (Value.int IntKind.u8 (x.g j))])]))) (Tree.br
    (decide (x.left = (0 : Int))) (Tree.br false (Tree.chk (decide ((↑(0 : Nat) : Int) ≤ IntKind.wrap IntKind.i64 (p - x.fi)) && decide (IntKind.wrap IntKind.i64 (p - x.fi) ≤ (↑x.n : Int)))
    (Tree.leaf (Ans.mk (AV.v (Value.int IntKind.i64 (170 : Int))) [some (Blk.row [AV.v (Value.int IntKind.i64 (1048576 : Int)), AV.v (Value.int IntKind.i64 x.fi), AV.v (Value.int IntKind.i64
    (if p < x.fa then p else x.fa)), AV.hs (1 : Nat) (x.o + (0 : Nat)) (Int.toNat (IntKind.wrap IntKind.i64 (p - x.fi))), AV.v (Value.int IntKind.i64 x.left), AV.v (Value.bool true)]), some
    (Blk.arr (1 : Nat) x.N fun j => [AV.v (Value.int IntKind.u8 (x.g j))])]))) (Tree.leaf (Ans.mk (AV.v (Value.int IntKind.i64 (170 : Int))) [some (Blk.row [AV.v (Value.int IntKind.i64
    (1048576 : Int)), AV.v (Value.int IntKind.i64 x.fi), AV.v (Value.int IntKind.i64 x.fa), AV.hs (1 : Nat) x.o x.n, AV.v (Value.int IntKind.i64 x.left), AV.v (Value.bool true)]), some
    (Blk.arr (1 : Nat) x.N fun j => [AV.v (Value.int IntKind.u8 (x.g j))])]))) (Tree.br (decide ((0 : Int) < x.left)) (Tree.br true (Tree.chk (decide ((↑(0 : Nat) : Int) ≤ IntKind.wrap
    IntKind.i64 (p - x.fi)) && decide (IntKind.wrap IntKind.i64 (p - x.fi) ≤ (↑x.n : Int))) (Tree.leaf (Ans.mk (AV.v (Value.int IntKind.i64 (0 : Int))) [some (Blk.row [AV.v (Value.int
    IntKind.i64 (1048576 : Int)), AV.v (Value.int IntKind.i64 x.fi), AV.v (Value.int IntKind.i64 (if p < x.fa then p else x.fa)), AV.hs (1 : Nat) (x.o + (0 : Nat)) (Int.toNat (IntKind.wrap
    IntKind.i64 (p - x.fi))), AV.v (Value.int IntKind.i64 (IntKind.wrap IntKind.i64 (x.left - (1 : Int)))), AV.v (Value.bool false)]), some (Blk.arr (1 : Nat) x.N fun j => [AV.v (Value.int
    IntKind.u8 (x.g j))])]))) (Tree.leaf (Ans.mk (AV.v (Value.int IntKind.i64 (0 : Int))) [some (Blk.row [AV.v (Value.int IntKind.i64 (1048576 : Int)), AV.v (Value.int IntKind.i64 x.fi),
    AV.v (Value.int IntKind.i64 x.fa), AV.hs (1 : Nat) x.o x.n, AV.v (Value.int IntKind.i64 (IntKind.wrap IntKind.i64 (x.left - (1 : Int)))), AV.v (Value.bool false)]), some (Blk.arr (1 :
    Nat) x.N fun j => [AV.v (Value.int IntKind.u8 (x.g j))])]))) (Tree.br true (Tree.chk (decide ((↑(0 : Nat) : Int) ≤ IntKind.wrap IntKind.i64 (p - x.fi)) && decide (IntKind.wrap
    IntKind.i64 (p - x.fi) ≤ (↑x.n : Int))) (Tree.leaf (Ans.mk (AV.v (Value.int IntKind.i64 (0 : Int))) [some (Blk.row [AV.v (Value.int IntKind.i64 (1048576 : Int)), AV.v (Value.int
    IntKind.i64 x.fi), AV.v (Value.int IntKind.i64 (if p < x.fa then p else x.fa)), AV.hs (1 : Nat) (x.o + (0 : Nat)) (Int.toNat (IntKind.wrap IntKind.i64 (p - x.fi))), AV.v (Value.int
    IntKind.i64 x.left), AV.v (Value.bool false)]), some (Blk.arr (1 : Nat) x.N fun j => [AV.v (Value.int IntKind.u8 (x.g j))])]))) (Tree.leaf (Ans.mk (AV.v (Value.int IntKind.i64 (0 :
    Int))) [some (Blk.row [AV.v (Value.int IntKind.i64 (1048576 : Int)), AV.v (Value.int IntKind.i64 x.fi), AV.v (Value.int IntKind.i64 x.fa), AV.hs (1 : Nat) x.o x.n, AV.v (Value.int
    IntKind.i64 x.left), AV.v (Value.bool false)]), some (Blk.arr (1 : Nat) x.N fun j => [AV.v (Value.int IntKind.u8 (x.g j))])]))))))) := by kernel_rfl
theorem runBack1 (x : Tp) (p : Int) : bodyE (P := Try.prog) (Γ := Γb) [k78, k77, k119] Lno false 47 [.tmp 4] (bodyOf Try.f76) [.ptr 0 0, .v (.int .i64 p)] (x.bl true) =
  Tree.br true (Tree.leaf (Ans.mk (AV.v (Value.int IntKind.i64 (170 : Int))) [some (Blk.row [AV.v (Value.int IntKind.i64 (1048576 : Int)), AV.v (Value.int IntKind.i64 x.fi), AV.v (Value.int
    IntKind.i64 x.fa), AV.hs (1 : Nat) x.o x.n, AV.v (Value.int IntKind.i64 x.left), AV.v (Value.bool true)]), some (Blk.arr (1 : Nat) x.N fun j => [AV.v (Value.int IntKind.u8 (x.g j))])]))
    (Tree.chk (cl True) (Tree.br (bif decide (p < x.fi) then true else decide (IntKind.wrap IntKind.i64 (x.fi + (↑x.n : Int)) < p)) (Tree.br false (Tree.chk (decide ((↑(0 : Nat) : Int) ≤
    IntKind.wrap IntKind.i64 (p - x.fi)) && decide (IntKind.wrap IntKind.i64 (p - x.fi) ≤ (↑x.n : Int))) (Tree.leaf (Ans.mk (AV.v (Value.int IntKind.i64 (240 : Int))) [some (Blk.row [AV.v
    (Value.int IntKind.i64 (1048576 : Int)), AV.v (Value.int IntKind.i64 x.fi), AV.v (Value.int IntKind.i64 (if p < x.fa then p else x.fa)), AV.hs (1 : Nat) (x.o + (0 : Nat)) (Int.toNat
    (IntKind.wrap IntKind.i64 (p - x.fi))), AV.v (Value.int IntKind.i64 x.left), AV.v (Value.bool true)]), some (Blk.arr (1 : Nat) x.N fun j => [AV.v (Value.int IntKind.u8 (x.g j))])])))
    (Tree.leaf (Ans.mk (AV.v (Value.int IntKind.i64 (240 : Int))) [some (Blk.row [AV.v (Value.int IntKind.i64 (1048576 : Int)), AV.v (Value.int IntKind.i64 x.fi), AV.v (Value.int IntKind.i64
    x.fa), AV.hs (1 : Nat) x.o x.n, AV.v (Value.int IntKind.i64 x.left), AV.v (Value.bool true)]), some (Blk.arr (1 : Nat) x.N fun j => [AV.v (Value.int IntKind.u8 (x.g j))])]))) (Tree.br
    (decide (x.left = (0 : Int))) (Tree.br false (Tree.chk (decide ((↑(0 : Nat) : Int) ≤ IntKind.wrap IntKind.i64 (p - x.fi)) && decide (IntKind.wrap IntKind.i64 (p - x.fi) ≤ (↑x.n : Int)))
    (Tree.leaf (Ans.mk (AV.v (Value.int IntKind.i64 (170 : Int))) [some (Blk.row [AV.v (Value.int IntKind.i64 (1048576 : Int)), AV.v (Value.int IntKind.i64 x.fi), AV.v (Value.int IntKind.i64
    (if p < x.fa then p else x.fa)), AV.hs (1 : Nat) (x.o + (0 : Nat)) (Int.toNat (IntKind.wrap IntKind.i64 (p - x.fi))), AV.v (Value.int IntKind.i64 x.left), AV.v (Value.bool true)]), some
    (Blk.arr (1 : Nat) x.N fun j => [AV.v (Value.int IntKind.u8 (x.g j))])]))) (Tree.leaf (Ans.mk (AV.v (Value.int IntKind.i64 (170 : Int))) [some (Blk.row [AV.v (Value.int IntKind.i64
    (1048576 : Int)), AV.v (Value.int IntKind.i64 x.fi), AV.v (Value.int IntKind.i64 x.fa), AV.hs (1 : Nat) x.o x.n, AV.v (Value.int IntKind.i64 x.left), AV.v (Value.bool true)]), some
    (Blk.arr (1 : Nat) x.N fun j => [AV.v (Value.int IntKind.u8 (x.g j))])]))) (Tree.br (decide ((0 : Int) < x.left)) (Tree.br true (Tree.chk (decide ((↑(0 : Nat) : Int) ≤ IntKind.wrap
    IntKind.i64 (p - x.fi)) && decide (IntKind.wrap IntKind.i64 (p - x.fi) ≤ (↑x.n : Int))) (Tree.leaf (Ans.mk (AV.v (Value.int IntKind.i64 (0 : Int))) [some (Blk.row [AV.v (Value.int
    IntKind.i64 (1048576 : Int)), AV.v (Value.int IntKind.i64 x.fi), AV.v (Value.int IntKind.i64 (if p < x.fa then p else x.fa)), AV.hs (1 : Nat) (x.o + (0 : Nat)) (Int.toNat (IntKind.wrap
    IntKind.i64 (p - x.fi))), AV.v (Value.int IntKind.i64 (IntKind.wrap IntKind.i64 (x.left - (1 : Int)))), AV.v (Value.bool true)]), some (Blk.arr (1 : Nat) x.N fun j => [AV.v (Value.int
    IntKind.u8 (x.g j))])]))) (Tree.leaf (Ans.mk (AV.v (Value.int IntKind.i64 (0 : Int))) [some (Blk.row [AV.v (Value.int IntKind.i64 (1048576 : Int)), AV.v (Value.int IntKind.i64 x.fi),
    AV.v (Value.int IntKind.i64 x.fa), AV.hs (1 : Nat) x.o x.n, AV.v (Value.int IntKind.i64 (IntKind.wrap IntKind.i64 (x.left - (1 : Int)))), AV.v (Value.bool true)]), some (Blk.arr (1 :
    Nat) x.N fun j => [AV.v (Value.int IntKind.u8 (x.g j))])]))) (Tree.br true (Tree.chk (decide ((↑(0 : Nat) : Int) ≤ IntKind.wrap IntKind.i64 (p - x.fi)) && decide (IntKind.wrap
    IntKind.i64 (p - x.fi) ≤ (↑x.n : Int))) (Tree.leaf (Ans.mk (AV.v (Value.int IntKind.i64 (0 : Int))) [some (Blk.row [AV.v (Value.int IntKind.i64 (1048576 : Int)), AV.v (Value.int
    IntKind.i64 x.fi), AV.v (Value.int IntKind.i64 (if p < x.fa then p else x.fa)), AV.hs (1 : Nat) (x.o + (0 : Nat)) (Int.toNat (IntKind.wrap IntKind.i64 (p - x.fi))), AV.v (Value.int
    IntKind.i64 x.left), AV.v (Value.bool true)]), some (Blk.arr (1 : Nat) x.N fun j => [AV.v (Value.int IntKind.u8 (x.g j))])]))) (Tree.leaf (Ans.mk (AV.v (Value.int IntKind.i64 (0 : Int)))
    [some (Blk.row [AV.v (Value.int IntKind.i64 (1048576 : Int)), AV.v (Value.int IntKind.i64 x.fi), AV.v (Value.int IntKind.i64 x.fa), AV.hs (1 : Nat) x.o x.n, AV.v (Value.int IntKind.i64
    x.left), AV.v (Value.bool true)]), some (Blk.arr (1 : Nat) x.N fun j => [AV.v (Value.int IntKind.u8 (x.g j))])]))))))) := by kernel_rfl
theorem runFuse (x : Tp) (p : Int) : bodyE (P := Try.prog) (Γ := Γb) [] Lno false 15 [.tmp 4] (bodyOf Try.f38) [.ptr 0 0, .v (.int .i64 p)] (x.bl false) =
  Tree.br (decide (p < (0 : Int))) (Tree.leaf (Ans.mk (AV.v (Value.int IntKind.i64 (1 : Int))) [some (Blk.row [AV.v (Value.int IntKind.i64 (1048576 : Int)), AV.v (Value.int IntKind.i64 x.fi),
    AV.v (Value.int IntKind.i64 x.fa), AV.hs (1 : Nat) x.o x.n, AV.v (Value.int IntKind.i64 x.left), AV.v (Value.bool false)]), some (Blk.arr (1 : Nat) x.N fun j => [AV.v (Value.int
    IntKind.u8 (x.g j))])])) (Tree.leaf (Ans.mk (AV.v (Value.int IntKind.i64 (0 : Int))) [some (Blk.row [AV.v (Value.int IntKind.i64 (1048576 : Int)), AV.v (Value.int IntKind.i64 x.fi), AV.v
    (Value.int IntKind.i64 x.fa), AV.hs (1 : Nat) x.o x.n, AV.v (Value.int IntKind.i64 p), AV.v (Value.bool false)]), some (Blk.arr (1 : Nat) x.N fun j => [AV.v (Value.int IntKind.u8 (x.g
    j))])])) := by kernel_rfl
theorem runFuse1 (x : Tp) (p : Int) : bodyE (P := Try.prog) (Γ := Γb) [] Lno false 15 [.tmp 4] (bodyOf Try.f38) [.ptr 0 0, .v (.int .i64 p)] (x.bl true) =
  Tree.br (decide (p < (0 : Int))) (Tree.leaf (Ans.mk (AV.v (Value.int IntKind.i64 (1 : Int))) [some (Blk.row [AV.v (Value.int IntKind.i64 (1048576 : Int)), AV.v (Value.int IntKind.i64 x.fi),
    AV.v (Value.int IntKind.i64 x.fa), AV.hs (1 : Nat) x.o x.n, AV.v (Value.int IntKind.i64 x.left), AV.v (Value.bool true)]), some (Blk.arr (1 : Nat) x.N fun j => [AV.v (Value.int
    IntKind.u8 (x.g j))])])) (Tree.leaf (Ans.mk (AV.v (Value.int IntKind.i64 (0 : Int))) [some (Blk.row [AV.v (Value.int IntKind.i64 (1048576 : Int)), AV.v (Value.int IntKind.i64 x.fi), AV.v
    (Value.int IntKind.i64 x.fa), AV.hs (1 : Nat) x.o x.n, AV.v (Value.int IntKind.i64 p), AV.v (Value.bool true)]), some (Blk.arr (1 : Nat) x.N fun j => [AV.v (Value.int IntKind.u8 (x.g
    j))])])) := by kernel_rfl
theorem runCrash (x : Tp) (p : Int) : bodyE (P := Try.prog) (Γ := Γb) [k77] Lno false 49 [.tmp 4] (bodyOf Try.f18) [.ptr 0 0, .v (.int .i64 p)] (x.bl false) =
  Tree.chk (cl True) (Tree.chk (!decide (IntKind.wrap IntKind.u64 (IntKind.wrap IntKind.i64 (IntKind.wrap IntKind.i64 (IntKind.wrap IntKind.i64 (x.fi + (↑x.n : Int)) - x.fa) + (1 : Int))) = (0
    : Int))) (Tree.chk (decide ((↑(0 : Nat) : Int) ≤ IntKind.wrap IntKind.i64 (IntKind.wrap IntKind.i64 ((↑x.n : Int) - IntKind.wrap IntKind.i64 (IntKind.wrap IntKind.i64 (x.fi + (↑x.n :
    Int)) - x.fa)) + IntKind.wrap IntKind.i64 (Int.tmod (IntKind.wrap IntKind.u64 p) (IntKind.wrap IntKind.u64 (IntKind.wrap IntKind.i64 (IntKind.wrap IntKind.i64 (IntKind.wrap IntKind.i64
    (x.fi + (↑x.n : Int)) - x.fa) + (1 : Int))))))) && decide (IntKind.wrap IntKind.i64 (IntKind.wrap IntKind.i64 ((↑x.n : Int) - IntKind.wrap IntKind.i64 (IntKind.wrap IntKind.i64 (x.fi +
    (↑x.n : Int)) - x.fa)) + IntKind.wrap IntKind.i64 (Int.tmod (IntKind.wrap IntKind.u64 p) (IntKind.wrap IntKind.u64 (IntKind.wrap IntKind.i64 (IntKind.wrap IntKind.i64 (IntKind.wrap
    IntKind.i64 (x.fi + (↑x.n : Int)) - x.fa) + (1 : Int)))))) ≤ (↑x.n : Int))) (Tree.chk (cl True) (Tree.leaf (Ans.mk (AV.v (Value.int IntKind.i64 (0 : Int))) [some (Blk.row [AV.v
    (Value.int IntKind.i64 (1048576 : Int)), AV.v (Value.int IntKind.i64 x.fi), AV.v (Value.int IntKind.i64 (IntKind.wrap IntKind.i64 (x.fi + (↑(Int.toNat (IntKind.wrap IntKind.i64
    (IntKind.wrap IntKind.i64 ((↑x.n : Int) - IntKind.wrap IntKind.i64 (IntKind.wrap IntKind.i64 (x.fi + (↑x.n : Int)) - x.fa)) + IntKind.wrap IntKind.i64 (Int.tmod (IntKind.wrap IntKind.u64
    p) (IntKind.wrap IntKind.u64 (IntKind.wrap IntKind.i64 (IntKind.wrap IntKind.i64 (IntKind.wrap IntKind.i64 (x.fi + (↑x.n : Int)) - x.fa) + (1 : Int)))))))) : Int)))), AV.hs (1 : Nat)
    (x.o + (0 : Nat)) (Int.toNat (IntKind.wrap IntKind.i64 (IntKind.wrap IntKind.i64 ((↑x.n : Int) - IntKind.wrap IntKind.i64 (IntKind.wrap IntKind.i64 (x.fi + (↑x.n : Int)) - x.fa)) +
    IntKind.wrap IntKind.i64 (Int.tmod (IntKind.wrap IntKind.u64 p) (IntKind.wrap IntKind.u64 (IntKind.wrap IntKind.i64 (IntKind.wrap IntKind.i64 (IntKind.wrap IntKind.i64 (x.fi + (↑x.n :
    Int)) - x.fa) + (1 : Int)))))))), AV.v (Value.int IntKind.i64 (-1 : Int)), AV.v (Value.bool false)]), some (Blk.arr (1 : Nat) x.N fun j => [AV.v (Value.int IntKind.u8 (x.g j))])]))))) := by kernel_rfl
theorem runCrash1 (x : Tp) (p : Int) : bodyE (P := Try.prog) (Γ := Γb) [k77] Lno false 49 [.tmp 4] (bodyOf Try.f18) [.ptr 0 0, .v (.int .i64 p)] (x.bl true) =
  Tree.chk (cl True) (Tree.chk (!decide (IntKind.wrap IntKind.u64 (IntKind.wrap IntKind.i64 (IntKind.wrap IntKind.i64 (IntKind.wrap IntKind.i64 (x.fi + (↑x.n : Int)) - x.fa) + (1 : Int))) = (0
    : Int))) (Tree.chk (decide ((↑(0 : Nat) : Int) ≤ IntKind.wrap IntKind.i64 (IntKind.wrap IntKind.i64 ((↑x.n : Int) - IntKind.wrap IntKind.i64 (IntKind.wrap IntKind.i64 (x.fi + (↑x.n :
    Int)) - x.fa)) + IntKind.wrap IntKind.i64 (Int.tmod (IntKind.wrap IntKind.u64 p) (IntKind.wrap IntKind.u64 (IntKind.wrap IntKind.i64 (IntKind.wrap IntKind.i64 (IntKind.wrap IntKind.i64
    (x.fi + (↑x.n : Int)) - x.fa) + (1 : Int))))))) && decide (IntKind.wrap IntKind.i64 (IntKind.wrap IntKind.i64 ((↑x.n : Int) - IntKind.wrap IntKind.i64 (IntKind.wrap IntKind.i64 (x.fi +
    (↑x.n : Int)) - x.fa)) + IntKind.wrap IntKind.i64 (Int.tmod (IntKind.wrap IntKind.u64 p) (IntKind.wrap IntKind.u64 (IntKind.wrap IntKind.i64 (IntKind.wrap IntKind.i64 (IntKind.wrap
    IntKind.i64 (x.fi + (↑x.n : Int)) - x.fa) + (1 : Int)))))) ≤ (↑x.n : Int))) (Tree.chk (cl True) (Tree.leaf (Ans.mk (AV.v (Value.int IntKind.i64 (0 : Int))) [some (Blk.row [AV.v
    (Value.int IntKind.i64 (1048576 : Int)), AV.v (Value.int IntKind.i64 x.fi), AV.v (Value.int IntKind.i64 (IntKind.wrap IntKind.i64 (x.fi + (↑(Int.toNat (IntKind.wrap IntKind.i64
    (IntKind.wrap IntKind.i64 ((↑x.n : Int) - IntKind.wrap IntKind.i64 (IntKind.wrap IntKind.i64 (x.fi + (↑x.n : Int)) - x.fa)) + IntKind.wrap IntKind.i64 (Int.tmod (IntKind.wrap IntKind.u64
    p) (IntKind.wrap IntKind.u64 (IntKind.wrap IntKind.i64 (IntKind.wrap IntKind.i64 (IntKind.wrap IntKind.i64 (x.fi + (↑x.n : Int)) - x.fa) + (1 : Int)))))))) : Int)))), AV.hs (1 : Nat)
    (x.o + (0 : Nat)) (Int.toNat (IntKind.wrap IntKind.i64 (IntKind.wrap IntKind.i64 ((↑x.n : Int) - IntKind.wrap IntKind.i64 (IntKind.wrap IntKind.i64 (x.fi + (↑x.n : Int)) - x.fa)) +
    IntKind.wrap IntKind.i64 (Int.tmod (IntKind.wrap IntKind.u64 p) (IntKind.wrap IntKind.u64 (IntKind.wrap IntKind.i64 (IntKind.wrap IntKind.i64 (IntKind.wrap IntKind.i64 (x.fi + (↑x.n :
    Int)) - x.fa) + (1 : Int)))))))), AV.v (Value.int IntKind.i64 (-1 : Int)), AV.v (Value.bool false)]), some (Blk.arr (1 : Nat) x.N fun j => [AV.v (Value.int IntKind.u8 (x.g j))])]))))) := by kernel_rfl
theorem runOn (x : Tp) : bodyE (P := Try.prog) (Γ := Γb) [] Lno false 12 [.tmp 2] (bodyOf Try.f17) [.ptr 0 0] (x.bl false) =
  Tree.leaf (Ans.mk (AV.v (Value.bool true)) [some (Blk.row [AV.v (Value.int IntKind.i64 (1048576 : Int)), AV.v (Value.int IntKind.i64 x.fi), AV.v (Value.int IntKind.i64 x.fa), AV.hs (1 : Nat)
    x.o x.n, AV.v (Value.int IntKind.i64 x.left), AV.v (Value.bool false)]), some (Blk.arr (1 : Nat) x.N fun j => [AV.v (Value.int IntKind.u8 (x.g j))])]) := by kernel_rfl
theorem runOn1 (x : Tp) : bodyE (P := Try.prog) (Γ := Γb) [] Lno false 12 [.tmp 2] (bodyOf Try.f17) [.ptr 0 0] (x.bl true) =
  Tree.leaf (Ans.mk (AV.v (Value.bool false)) [some (Blk.row [AV.v (Value.int IntKind.i64 (1048576 : Int)), AV.v (Value.int IntKind.i64 x.fi), AV.v (Value.int IntKind.i64 x.fa), AV.hs (1 :
    Nat) x.o x.n, AV.v (Value.int IntKind.i64 x.left), AV.v (Value.bool true)]), some (Blk.arr (1 : Nat) x.N fun j => [AV.v (Value.int IntKind.u8 (x.g j))])]) := by kernel_rfl
theorem runPl (x : Tp) : bodyE (P := Try.prog) (Γ := Γb) [k77] Lno false 17 [.tmp 2, .tmp 3, .tmp 4] (bodyOf Try.f20) [.ptr 0 0] (x.bl false) =
  Tree.chk (cl True) (Tree.leaf (Ans.mk (AV.tup [AV.v (Value.int IntKind.i64 x.fi), AV.v (Value.int IntKind.i64 x.fa), AV.v (Value.int IntKind.i64 (IntKind.wrap IntKind.i64 (x.fi + (↑x.n :
    Int))))]) [some (Blk.row [AV.v (Value.int IntKind.i64 (1048576 : Int)), AV.v (Value.int IntKind.i64 x.fi), AV.v (Value.int IntKind.i64 x.fa), AV.hs (1 : Nat) x.o x.n, AV.v (Value.int
    IntKind.i64 x.left), AV.v (Value.bool false)]), some (Blk.arr (1 : Nat) x.N fun j => [AV.v (Value.int IntKind.u8 (x.g j))])])) := by kernel_rfl
theorem runPl1 (x : Tp) : bodyE (P := Try.prog) (Γ := Γb) [k77] Lno false 17 [.tmp 2, .tmp 3, .tmp 4] (bodyOf Try.f20) [.ptr 0 0] (x.bl true) =
  Tree.chk (cl True) (Tree.leaf (Ans.mk (AV.tup [AV.v (Value.int IntKind.i64 x.fi), AV.v (Value.int IntKind.i64 x.fa), AV.v (Value.int IntKind.i64 (IntKind.wrap IntKind.i64 (x.fi + (↑x.n :
    Int))))]) [some (Blk.row [AV.v (Value.int IntKind.i64 (1048576 : Int)), AV.v (Value.int IntKind.i64 x.fi), AV.v (Value.int IntKind.i64 x.fa), AV.hs (1 : Nat) x.o x.n, AV.v (Value.int
    IntKind.i64 x.left), AV.v (Value.bool true)]), some (Blk.arr (1 : Nat) x.N fun j => [AV.v (Value.int IntKind.u8 (x.g j))])])) := by kernel_rfl
end Go.Eng.SB.T

namespace Go.Eng.SB.T
open Go Go.Eng Go.Eng.SB Go.Lib Go.Proofs
structure Ta where
  x : Tp
  off : Bool
@[reducible] def Ta.bl (a : Ta) : List Blk := a.x.bl a.off
structure Ta.Inv (a : Ta) (m : Nat) : Prop where
  l0 : 0 ≤ a.x.fi
  l1 : a.x.fi ≤ a.x.fa
  l2 : a.x.fa ≤ a.x.fi + (a.x.n : Int)
  l3 : a.x.fi + (a.x.n : Int) ≤ (m : Int)
  l4 : a.x.o + a.x.n ≤ a.x.N
  l5 : -1 ≤ a.x.left
  l6 : a.x.left ≤ 9223372036854775807
  l7 : ∀ j, 0 ≤ a.x.g j ∧ a.x.g j < 256
  l8 : a.x.n ≤ 1048576
def dec (l : Int) : Int := if 0 < l then l - 1 else l
def Ta.hold (a : Ta) : Ta := if a.off = true then a else if a.x.left = 0 then { a with off := true } else { a with x := { a.x with left := dec a.x.left, fa := a.x.fi + (a.x.n : Int) } }
def Ta.shed (a : Ta) (p : Int) : Ta := if a.off = true then a else if p < a.x.fi ∨ a.x.fa < p then a else if a.x.left = 0 then { a with off := true } else { a with x := { a.x with left := dec a.x.left, fi := p, o := a.x.o + (p - a.x.fi).toNat, n := a.x.n - (p - a.x.fi).toNat } }
def Ta.back (a : Ta) (p : Int) : Ta := if a.off = true then a else if p < a.x.fi ∨ a.x.fi + (a.x.n : Int) < p then a else if a.x.left = 0 then { a with off := true } else { a with x := { a.x with left := dec a.x.left, n := (p - a.x.fi).toNat, fa := if p < a.x.fa then p else a.x.fa } }
def Ta.fuse (a : Ta) (p : Int) : Ta := if p < 0 then a else { a with x := { a.x with left := p } }
theorem wrapM {n : Int} (h : 0 ≤ n) (h' : n ≤ 9223372036854775807) : IntKind.i64.wrap n = n := by rw [wrap64E]; omega
theorem dec_pos {l : Int} (h : 0 < l) : dec l = l - 1 := if_pos h
theorem dec_neg {l : Int} (h : ¬ 0 < l) : dec l = l := if_neg h
theorem ansHold {a : Ta} {m : Nat} (hi : a.Inv m) (hm : m ≤ 1000000) : Answers Try.prog Γb 74 [.ptr 0 0] a.bl .any (a.hold.bl.map some) [] := answers (fn := Try.f74) (c := bodyOf Try.f74) (ntmps := 18) (results := [.tmp 2]) [k78, k118, k77] Lno false Try.func74 (by kernel_rfl) (by kernel_rfl) (by kernel_rfl) (by kernel_rfl) (by simp) rfl (noLoops (by kernel_rfl)) (by
  obtain ⟨l0, l1, l2, l3, l4, l5, l6, l7, l8⟩ := hi
  obtain ⟨⟨fi, fa, o, n, N, g, left⟩, off⟩ := a
  simp only at l0 l1 l2 l3 l4 l5 l6 l7 l8
  have w1 : IntKind.i64.wrap (fi + (n : Int)) = fi + (n : Int) := wrapM (by omega) (by omega)
  cases off with
  | true =>
    refine Meets.of (runHold1 _) ?_
    simp only [Ta.hold, if_true]
    repeat' (first | refine wC (by first | omega | (simp only [W1, cond_true, cond_false]; first | done | omega)) ?_ | refine wT (by first | omega | (simp only [W1, cond_true, cond_false]; first | done | omega)) ?_ | refine wF (by intro _h; first | omega | (simp only [W1, cond_true, cond_false] at _h; first | done | omega)) ?_ | (refine wS ?_ ?_ <;> intro _h <;> simp only [W1, cond_true, cond_false] at _h))
    all_goals simp only [or_true, true_or, false_or, or_false, and_false, false_and, cond_true, cond_false, Bool.not_true, Bool.not_false, Bool.false_eq_true, Bool.true_eq_false, not_true_eq_false, not_false_eq_true, false_implies, true_implies, implies_true, Nat.blt_eq, owesN, owesX, owesR, notT, sat_brT, sat_brF, sat_chkT, cl_iff, cl_false, AV.le_refl, AV.le_any, OLe_refl, OLe_none, sat_brN, Tree.sat_chk, Tree.sat_leaf, Tree.sat_fail, Nat.zero_add, Nat.sub_zero, Int.toNat_natCast, LeH_cons, LeH_nil, LeL_cons, LeL_nil, and_true, true_and, Bool.and_eq_true, Bool.or_eq_true, decide_eq_true_eq, decide_eq_false_iff_not, Bool.cond_true_left, Bool.cond_false_right, List.cons_append, List.nil_append, List.map_cons, List.map_nil]
    repeat' (first | apply And.intro | intro _hc)
    all_goals first | exact AV.le_refl _ | exact AV.le_any _ | exact OLe.refl _ | exact OLe.none _ | exact LeH.refl _ | exact LeL.refl _ | exact AV.le.bs _ | exact AV.le.sb _ | omega | contradiction
  | false =>
    refine Meets.of (runHold _) ?_
    simp only [Ta.hold, Bool.false_eq_true, if_false]
    by_cases h0 : left = 0
    · rw [if_pos h0]
      repeat' (first | refine wC (by first | omega | (simp only [W1, cond_true, cond_false]; first | done | omega)) ?_ | refine wT (by first | omega | (simp only [W1, cond_true, cond_false]; first | done | omega)) ?_ | refine wF (by intro _h; first | omega | (simp only [W1, cond_true, cond_false] at _h; first | done | omega)) ?_ | (refine wS ?_ ?_ <;> intro _h <;> simp only [W1, cond_true, cond_false] at _h))
      all_goals simp only [or_true, true_or, false_or, or_false, and_false, false_and, cond_true, cond_false, Bool.not_true, Bool.not_false, Bool.false_eq_true, Bool.true_eq_false, not_true_eq_false, not_false_eq_true, false_implies, true_implies, implies_true, Nat.blt_eq, owesN, owesX, owesR, notT, sat_brT, sat_brF, sat_chkT, cl_iff, cl_false, AV.le_refl, AV.le_any, OLe_refl, OLe_none, sat_brN, Tree.sat_chk, Tree.sat_leaf, Tree.sat_fail, Nat.zero_add, Nat.sub_zero, Int.toNat_natCast, LeH_cons, LeH_nil, LeL_cons, LeL_nil, and_true, true_and, Bool.and_eq_true, Bool.or_eq_true, decide_eq_true_eq, decide_eq_false_iff_not, Bool.cond_true_left, Bool.cond_false_right, List.cons_append, List.nil_append, List.map_cons, List.map_nil]
      repeat' (first | apply And.intro | intro _hc)
      all_goals first | exact AV.le_refl _ | exact AV.le_any _ | exact OLe.refl _ | exact OLe.none _ | exact LeH.refl _ | exact LeL.refl _ | exact AV.le.bs _ | exact AV.le.sb _ | omega | contradiction
    · rw [if_neg h0]
      by_cases h1 : 0 < left
      · have w2 : IntKind.i64.wrap (left - 1) = left - 1 := wrapM (by omega) (by omega)
        have d := dec_pos h1
        repeat' (first | refine wC (by first | omega | (simp only [W1, cond_true, cond_false, w1, w2, d]; first | done | omega)) ?_ | refine wT (by first | omega | (simp only [W1, cond_true, cond_false, w1, w2, d]; first | done | omega)) ?_ | refine wF (by intro _h; first | omega | (simp only [W1, cond_true, cond_false, w1, w2, d] at _h; first | done | omega)) ?_ | (refine wS ?_ ?_ <;> intro _h <;> simp only [W1, cond_true, cond_false, w1, w2, d] at _h))
        all_goals simp only [or_true, true_or, false_or, or_false, and_false, false_and, cond_true, cond_false, Bool.not_true, Bool.not_false, Bool.false_eq_true, Bool.true_eq_false, not_true_eq_false, not_false_eq_true, false_implies, true_implies, implies_true, Nat.blt_eq, owesN, owesX, owesR, notT, sat_brT, sat_brF, sat_chkT, cl_iff, cl_false, AV.le_refl, AV.le_any, OLe_refl, OLe_none, sat_brN, Tree.sat_chk, Tree.sat_leaf, Tree.sat_fail, Nat.zero_add, Nat.sub_zero, Int.toNat_natCast, LeH_cons, LeH_nil, LeL_cons, LeL_nil, and_true, true_and, Bool.and_eq_true, Bool.or_eq_true, decide_eq_true_eq, decide_eq_false_iff_not, Bool.cond_true_left, Bool.cond_false_right, List.cons_append, List.nil_append, List.map_cons, List.map_nil, w1, w2, d]
        repeat' (first | apply And.intro | intro _hc)
        all_goals first | exact AV.le_refl _ | exact AV.le_any _ | exact OLe.refl _ | exact OLe.none _ | exact LeH.refl _ | exact LeL.refl _ | exact AV.le.bs _ | exact AV.le.sb _ | omega | contradiction
      · have d := dec_neg h1
        repeat' (first | refine wC (by first | omega | (simp only [W1, cond_true, cond_false, w1, d]; first | done | omega)) ?_ | refine wT (by first | omega | (simp only [W1, cond_true, cond_false, w1, d]; first | done | omega)) ?_ | refine wF (by intro _h; first | omega | (simp only [W1, cond_true, cond_false, w1, d] at _h; first | done | omega)) ?_ | (refine wS ?_ ?_ <;> intro _h <;> simp only [W1, cond_true, cond_false, w1, d] at _h))
        all_goals simp only [or_true, true_or, false_or, or_false, and_false, false_and, cond_true, cond_false, Bool.not_true, Bool.not_false, Bool.false_eq_true, Bool.true_eq_false, not_true_eq_false, not_false_eq_true, false_implies, true_implies, implies_true, Nat.blt_eq, owesN, owesX, owesR, notT, sat_brT, sat_brF, sat_chkT, cl_iff, cl_false, AV.le_refl, AV.le_any, OLe_refl, OLe_none, sat_brN, Tree.sat_chk, Tree.sat_leaf, Tree.sat_fail, Nat.zero_add, Nat.sub_zero, Int.toNat_natCast, LeH_cons, LeH_nil, LeL_cons, LeL_nil, and_true, true_and, Bool.and_eq_true, Bool.or_eq_true, decide_eq_true_eq, decide_eq_false_iff_not, Bool.cond_true_left, Bool.cond_false_right, List.cons_append, List.nil_append, List.map_cons, List.map_nil, w1, d]
        repeat' (first | apply And.intro | intro _hc)
        all_goals first | exact AV.le_refl _ | exact AV.le_any _ | exact OLe.refl _ | exact OLe.none _ | exact LeH.refl _ | exact LeL.refl _ | exact AV.le.bs _ | exact AV.le.sb _ | omega | contradiction
  )
theorem ansShed {a : Ta} {m : Nat} (hi : a.Inv m) (hm : m ≤ 1000000) (p : Int) (hp : -9223372036854775808 ≤ p ∧ p ≤ 9223372036854775807) : Answers Try.prog Γb 75 [.ptr 0 0, .v (.int .i64 p)] a.bl .any ((a.shed p).bl.map some) [] := answers (fn := Try.f75) (c := bodyOf Try.f75) (ntmps := 44) (results := [.tmp 4]) [k78, k119] Lno false Try.func75 (by kernel_rfl) (by kernel_rfl) (by kernel_rfl) (by kernel_rfl) (by simp) rfl (noLoops (by kernel_rfl)) (by
  obtain ⟨l0, l1, l2, l3, l4, l5, l6, l7, l8⟩ := hi
  obtain ⟨⟨fi, fa, o, n, N, g, left⟩, off⟩ := a
  simp only at l0 l1 l2 l3 l4 l5 l6 l7 l8
  have w1 : IntKind.i64.wrap (fi + (n : Int)) = fi + (n : Int) := wrapM (by omega) (by omega)
  cases off with
  | true =>
    refine Meets.of (runShed1 _ p) ?_
    simp only [Ta.shed, if_true]
    repeat' (first | refine wC (by first | omega | (simp only [W1, cond_true, cond_false]; first | done | omega)) ?_ | refine wT (by first | omega | (simp only [W1, cond_true, cond_false]; first | done | omega)) ?_ | refine wF (by intro _h; first | omega | (simp only [W1, cond_true, cond_false] at _h; first | done | omega)) ?_ | (refine wS ?_ ?_ <;> intro _h <;> simp only [W1, cond_true, cond_false] at _h))
    all_goals simp only [or_true, true_or, false_or, or_false, and_false, false_and, cond_true, cond_false, Bool.not_true, Bool.not_false, Bool.false_eq_true, Bool.true_eq_false, not_true_eq_false, not_false_eq_true, false_implies, true_implies, implies_true, Nat.blt_eq, owesN, owesX, owesR, notT, sat_brT, sat_brF, sat_chkT, cl_iff, cl_false, AV.le_refl, AV.le_any, OLe_refl, OLe_none, sat_brN, Tree.sat_chk, Tree.sat_leaf, Tree.sat_fail, Nat.zero_add, Nat.sub_zero, Int.toNat_natCast, LeH_cons, LeH_nil, LeL_cons, LeL_nil, and_true, true_and, Bool.and_eq_true, Bool.or_eq_true, decide_eq_true_eq, decide_eq_false_iff_not, Bool.cond_true_left, Bool.cond_false_right, List.cons_append, List.nil_append, List.map_cons, List.map_nil]
    repeat' (first | apply And.intro | intro _hc)
    all_goals first | exact AV.le_refl _ | exact AV.le_any _ | exact OLe.refl _ | exact OLe.none _ | exact LeH.refl _ | exact LeL.refl _ | exact AV.le.bs _ | exact AV.le.sb _ | omega | contradiction
  | false =>
    refine Meets.of (runShed _ p) ?_
    simp only [Ta.shed, Bool.false_eq_true, if_false]
    by_cases hg : p < fi ∨ fa < p
    · rw [if_pos hg]
      have hgd : (bif decide (p < fi) then true else decide (fa < p)) = true := by rcases hg with h | h <;> simp [h]
      repeat' (first | refine wC (by first | omega | (simp only [W1, cond_true, cond_false, hgd, w1]; first | done | omega)) ?_ | refine wT (by first | omega | (simp only [W1, cond_true, cond_false, hgd, w1]; first | done | omega)) ?_ | refine wF (by intro _h; first | omega | (simp only [W1, cond_true, cond_false, hgd, w1] at _h; first | done | omega)) ?_ | (refine wS ?_ ?_ <;> intro _h <;> simp only [W1, cond_true, cond_false, hgd, w1] at _h))
      all_goals simp only [or_true, true_or, false_or, or_false, and_false, false_and, cond_true, cond_false, Bool.not_true, Bool.not_false, Bool.false_eq_true, Bool.true_eq_false, not_true_eq_false, not_false_eq_true, false_implies, true_implies, implies_true, Nat.blt_eq, owesN, owesX, owesR, notT, sat_brT, sat_brF, sat_chkT, cl_iff, cl_false, AV.le_refl, AV.le_any, OLe_refl, OLe_none, sat_brN, Tree.sat_chk, Tree.sat_leaf, Tree.sat_fail, Nat.zero_add, Nat.sub_zero, Int.toNat_natCast, LeH_cons, LeH_nil, LeL_cons, LeL_nil, and_true, true_and, Bool.and_eq_true, Bool.or_eq_true, decide_eq_true_eq, decide_eq_false_iff_not, Bool.cond_true_left, Bool.cond_false_right, List.cons_append, List.nil_append, List.map_cons, List.map_nil, hgd, w1]
      repeat' (first | apply And.intro | intro _hc)
      all_goals first | exact AV.le_refl _ | exact AV.le_any _ | exact OLe.refl _ | exact OLe.none _ | exact LeH.refl _ | exact LeL.refl _ | exact AV.le.bs _ | exact AV.le.sb _ | omega | contradiction
    · rw [if_neg hg]
      have hgd : (bif decide (p < fi) then true else decide (fa < p)) = false := by simp only [cond_eq_ite]; rw [decide_eq_false (fun h => hg (.inl h)), decide_eq_false (fun h => hg (.inr h))]; rfl
      have w3 : IntKind.i64.wrap (p - fi) = p - fi := wrapM (by omega) (by omega)
      by_cases h0 : left = 0
      · rw [if_pos h0]
        repeat' (first | refine wC (by first | omega | (simp only [W1, cond_true, cond_false, hgd, w1]; first | done | omega)) ?_ | refine wT (by first | omega | (simp only [W1, cond_true, cond_false, hgd, w1]; first | done | omega)) ?_ | refine wF (by intro _h; first | omega | (simp only [W1, cond_true, cond_false, hgd, w1] at _h; first | done | omega)) ?_ | (refine wS ?_ ?_ <;> intro _h <;> simp only [W1, cond_true, cond_false, hgd, w1] at _h))
        all_goals simp only [or_true, true_or, false_or, or_false, and_false, false_and, cond_true, cond_false, Bool.not_true, Bool.not_false, Bool.false_eq_true, Bool.true_eq_false, not_true_eq_false, not_false_eq_true, false_implies, true_implies, implies_true, Nat.blt_eq, owesN, owesX, owesR, notT, sat_brT, sat_brF, sat_chkT, cl_iff, cl_false, AV.le_refl, AV.le_any, OLe_refl, OLe_none, sat_brN, Tree.sat_chk, Tree.sat_leaf, Tree.sat_fail, Nat.zero_add, Nat.sub_zero, Int.toNat_natCast, LeH_cons, LeH_nil, LeL_cons, LeL_nil, and_true, true_and, Bool.and_eq_true, Bool.or_eq_true, decide_eq_true_eq, decide_eq_false_iff_not, Bool.cond_true_left, Bool.cond_false_right, List.cons_append, List.nil_append, List.map_cons, List.map_nil, hgd, w1]
        repeat' (first | apply And.intro | intro _hc)
        all_goals first | exact AV.le_refl _ | exact AV.le_any _ | exact OLe.refl _ | exact OLe.none _ | exact LeH.refl _ | exact LeL.refl _ | exact AV.le.bs _ | exact AV.le.sb _ | omega | contradiction
      · rw [if_neg h0]
        by_cases h1 : 0 < left
        · have w2 : IntKind.i64.wrap (left - 1) = left - 1 := wrapM (by omega) (by omega)
          have d := dec_pos h1
          repeat' (first | refine wC (by first | omega | (simp only [W1, cond_true, cond_false, hgd, w3, w1, w2, d]; first | done | omega)) ?_ | refine wT (by first | omega | (simp only [W1, cond_true, cond_false, hgd, w3, w1, w2, d]; first | done | omega)) ?_ | refine wF (by intro _h; first | omega | (simp only [W1, cond_true, cond_false, hgd, w3, w1, w2, d] at _h; first | done | omega)) ?_ | (refine wS ?_ ?_ <;> intro _h <;> simp only [W1, cond_true, cond_false, hgd, w3, w1, w2, d] at _h))
          all_goals simp only [or_true, true_or, false_or, or_false, and_false, false_and, cond_true, cond_false, Bool.not_true, Bool.not_false, Bool.false_eq_true, Bool.true_eq_false, not_true_eq_false, not_false_eq_true, false_implies, true_implies, implies_true, Nat.blt_eq, owesN, owesX, owesR, notT, sat_brT, sat_brF, sat_chkT, cl_iff, cl_false, AV.le_refl, AV.le_any, OLe_refl, OLe_none, sat_brN, Tree.sat_chk, Tree.sat_leaf, Tree.sat_fail, Nat.zero_add, Nat.sub_zero, Int.toNat_natCast, LeH_cons, LeH_nil, LeL_cons, LeL_nil, and_true, true_and, Bool.and_eq_true, Bool.or_eq_true, decide_eq_true_eq, decide_eq_false_iff_not, Bool.cond_true_left, Bool.cond_false_right, List.cons_append, List.nil_append, List.map_cons, List.map_nil, hgd, w3, w1, w2, d]
          repeat' (first | apply And.intro | intro _hc)
          all_goals first | exact AV.le_refl _ | exact AV.le_any _ | exact OLe.refl _ | exact OLe.none _ | exact LeH.refl _ | exact LeL.refl _ | exact AV.le.bs _ | exact AV.le.sb _ | omega | contradiction
        · have d := dec_neg h1
          repeat' (first | refine wC (by first | omega | (simp only [W1, cond_true, cond_false, hgd, w3, w1, d]; first | done | omega)) ?_ | refine wT (by first | omega | (simp only [W1, cond_true, cond_false, hgd, w3, w1, d]; first | done | omega)) ?_ | refine wF (by intro _h; first | omega | (simp only [W1, cond_true, cond_false, hgd, w3, w1, d] at _h; first | done | omega)) ?_ | (refine wS ?_ ?_ <;> intro _h <;> simp only [W1, cond_true, cond_false, hgd, w3, w1, d] at _h))
          all_goals simp only [or_true, true_or, false_or, or_false, and_false, false_and, cond_true, cond_false, Bool.not_true, Bool.not_false, Bool.false_eq_true, Bool.true_eq_false, not_true_eq_false, not_false_eq_true, false_implies, true_implies, implies_true, Nat.blt_eq, owesN, owesX, owesR, notT, sat_brT, sat_brF, sat_chkT, cl_iff, cl_false, AV.le_refl, AV.le_any, OLe_refl, OLe_none, sat_brN, Tree.sat_chk, Tree.sat_leaf, Tree.sat_fail, Nat.zero_add, Nat.sub_zero, Int.toNat_natCast, LeH_cons, LeH_nil, LeL_cons, LeL_nil, and_true, true_and, Bool.and_eq_true, Bool.or_eq_true, decide_eq_true_eq, decide_eq_false_iff_not, Bool.cond_true_left, Bool.cond_false_right, List.cons_append, List.nil_append, List.map_cons, List.map_nil, hgd, w3, w1, d]
          repeat' (first | apply And.intro | intro _hc)
          all_goals first | exact AV.le_refl _ | exact AV.le_any _ | exact OLe.refl _ | exact OLe.none _ | exact LeH.refl _ | exact LeL.refl _ | exact AV.le.bs _ | exact AV.le.sb _ | omega | contradiction
  )
theorem ansBack {a : Ta} {m : Nat} (hi : a.Inv m) (hm : m ≤ 1000000) (p : Int) (hp : -9223372036854775808 ≤ p ∧ p ≤ 9223372036854775807) : Answers Try.prog Γb 76 [.ptr 0 0, .v (.int .i64 p)] a.bl .any ((a.back p).bl.map some) [] := answers (fn := Try.f76) (c := bodyOf Try.f76) (ntmps := 47) (results := [.tmp 4]) [k78, k77, k119] Lno false Try.func76 (by kernel_rfl) (by kernel_rfl) (by kernel_rfl) (by kernel_rfl) (by simp) rfl (noLoops (by kernel_rfl)) (by
  obtain ⟨l0, l1, l2, l3, l4, l5, l6, l7, l8⟩ := hi
  obtain ⟨⟨fi, fa, o, n, N, g, left⟩, off⟩ := a
  simp only at l0 l1 l2 l3 l4 l5 l6 l7 l8
  have w1 : IntKind.i64.wrap (fi + (n : Int)) = fi + (n : Int) := wrapM (by omega) (by omega)
  cases off with
  | true =>
    refine Meets.of (runBack1 _ p) ?_
    simp only [Ta.back, if_true]
    repeat' (first | refine wC (by first | omega | (simp only [W1, cond_true, cond_false]; first | done | omega)) ?_ | refine wT (by first | omega | (simp only [W1, cond_true, cond_false]; first | done | omega)) ?_ | refine wF (by intro _h; first | omega | (simp only [W1, cond_true, cond_false] at _h; first | done | omega)) ?_ | (refine wS ?_ ?_ <;> intro _h <;> simp only [W1, cond_true, cond_false] at _h))
    all_goals simp only [or_true, true_or, false_or, or_false, and_false, false_and, cond_true, cond_false, Bool.not_true, Bool.not_false, Bool.false_eq_true, Bool.true_eq_false, not_true_eq_false, not_false_eq_true, false_implies, true_implies, implies_true, Nat.blt_eq, owesN, owesX, owesR, notT, sat_brT, sat_brF, sat_chkT, cl_iff, cl_false, AV.le_refl, AV.le_any, OLe_refl, OLe_none, sat_brN, Tree.sat_chk, Tree.sat_leaf, Tree.sat_fail, Nat.zero_add, Nat.sub_zero, Int.toNat_natCast, LeH_cons, LeH_nil, LeL_cons, LeL_nil, and_true, true_and, Bool.and_eq_true, Bool.or_eq_true, decide_eq_true_eq, decide_eq_false_iff_not, Bool.cond_true_left, Bool.cond_false_right, List.cons_append, List.nil_append, List.map_cons, List.map_nil]
    repeat' (first | apply And.intro | intro _hc)
    all_goals first | exact AV.le_refl _ | exact AV.le_any _ | exact OLe.refl _ | exact OLe.none _ | exact LeH.refl _ | exact LeL.refl _ | exact AV.le.bs _ | exact AV.le.sb _ | omega | contradiction
  | false =>
    refine Meets.of (runBack _ p) ?_
    simp only [Ta.back, Bool.false_eq_true, if_false]
    by_cases hg : p < fi ∨ fi + (n : Int) < p
    · rw [if_pos hg]
      have hgd : (bif decide (p < fi) then true else decide (fi + (n : Int) < p)) = true := by rcases hg with h | h <;> simp [h]
      repeat' (first | refine wC (by first | omega | (simp only [W1, cond_true, cond_false, hgd, w1]; first | done | omega)) ?_ | refine wT (by first | omega | (simp only [W1, cond_true, cond_false, hgd, w1]; first | done | omega)) ?_ | refine wF (by intro _h; first | omega | (simp only [W1, cond_true, cond_false, hgd, w1] at _h; first | done | omega)) ?_ | (refine wS ?_ ?_ <;> intro _h <;> simp only [W1, cond_true, cond_false, hgd, w1] at _h))
      all_goals simp only [or_true, true_or, false_or, or_false, and_false, false_and, cond_true, cond_false, Bool.not_true, Bool.not_false, Bool.false_eq_true, Bool.true_eq_false, not_true_eq_false, not_false_eq_true, false_implies, true_implies, implies_true, Nat.blt_eq, owesN, owesX, owesR, notT, sat_brT, sat_brF, sat_chkT, cl_iff, cl_false, AV.le_refl, AV.le_any, OLe_refl, OLe_none, sat_brN, Tree.sat_chk, Tree.sat_leaf, Tree.sat_fail, Nat.zero_add, Nat.sub_zero, Int.toNat_natCast, LeH_cons, LeH_nil, LeL_cons, LeL_nil, and_true, true_and, Bool.and_eq_true, Bool.or_eq_true, decide_eq_true_eq, decide_eq_false_iff_not, Bool.cond_true_left, Bool.cond_false_right, List.cons_append, List.nil_append, List.map_cons, List.map_nil, hgd, w1]
      repeat' (first | apply And.intro | intro _hc)
      all_goals first | exact AV.le_refl _ | exact AV.le_any _ | exact OLe.refl _ | exact OLe.none _ | exact LeH.refl _ | exact LeL.refl _ | exact AV.le.bs _ | exact AV.le.sb _ | omega | contradiction
    · rw [if_neg hg]
      have hgd : (bif decide (p < fi) then true else decide (fi + (n : Int) < p)) = false := by simp only [cond_eq_ite]; rw [decide_eq_false (fun h => hg (.inl h)), decide_eq_false (fun h => hg (.inr h))]; rfl
      have w3 : IntKind.i64.wrap (p - fi) = p - fi := wrapM (by omega) (by omega)
      by_cases h0 : left = 0
      · rw [if_pos h0]
        repeat' (first | refine wC (by first | omega | (simp only [W1, cond_true, cond_false, hgd, w1]; first | done | omega)) ?_ | refine wT (by first | omega | (simp only [W1, cond_true, cond_false, hgd, w1]; first | done | omega)) ?_ | refine wF (by intro _h; first | omega | (simp only [W1, cond_true, cond_false, hgd, w1] at _h; first | done | omega)) ?_ | (refine wS ?_ ?_ <;> intro _h <;> simp only [W1, cond_true, cond_false, hgd, w1] at _h))
        all_goals simp only [or_true, true_or, false_or, or_false, and_false, false_and, cond_true, cond_false, Bool.not_true, Bool.not_false, Bool.false_eq_true, Bool.true_eq_false, not_true_eq_false, not_false_eq_true, false_implies, true_implies, implies_true, Nat.blt_eq, owesN, owesX, owesR, notT, sat_brT, sat_brF, sat_chkT, cl_iff, cl_false, AV.le_refl, AV.le_any, OLe_refl, OLe_none, sat_brN, Tree.sat_chk, Tree.sat_leaf, Tree.sat_fail, Nat.zero_add, Nat.sub_zero, Int.toNat_natCast, LeH_cons, LeH_nil, LeL_cons, LeL_nil, and_true, true_and, Bool.and_eq_true, Bool.or_eq_true, decide_eq_true_eq, decide_eq_false_iff_not, Bool.cond_true_left, Bool.cond_false_right, List.cons_append, List.nil_append, List.map_cons, List.map_nil, hgd, w1]
        repeat' (first | apply And.intro | intro _hc)
        all_goals first | exact AV.le_refl _ | exact AV.le_any _ | exact OLe.refl _ | exact OLe.none _ | exact LeH.refl _ | exact LeL.refl _ | exact AV.le.bs _ | exact AV.le.sb _ | omega | contradiction
      · rw [if_neg h0]
        by_cases h1 : 0 < left
        · have w2 : IntKind.i64.wrap (left - 1) = left - 1 := wrapM (by omega) (by omega)
          have d := dec_pos h1
          repeat' (first | refine wC (by first | omega | (simp only [W1, cond_true, cond_false, hgd, w3, w1, w2, d]; first | done | omega)) ?_ | refine wT (by first | omega | (simp only [W1, cond_true, cond_false, hgd, w3, w1, w2, d]; first | done | omega)) ?_ | refine wF (by intro _h; first | omega | (simp only [W1, cond_true, cond_false, hgd, w3, w1, w2, d] at _h; first | done | omega)) ?_ | (refine wS ?_ ?_ <;> intro _h <;> simp only [W1, cond_true, cond_false, hgd, w3, w1, w2, d] at _h))
          all_goals simp only [or_true, true_or, false_or, or_false, and_false, false_and, cond_true, cond_false, Bool.not_true, Bool.not_false, Bool.false_eq_true, Bool.true_eq_false, not_true_eq_false, not_false_eq_true, false_implies, true_implies, implies_true, Nat.blt_eq, owesN, owesX, owesR, notT, sat_brT, sat_brF, sat_chkT, cl_iff, cl_false, AV.le_refl, AV.le_any, OLe_refl, OLe_none, sat_brN, Tree.sat_chk, Tree.sat_leaf, Tree.sat_fail, Nat.zero_add, Nat.sub_zero, Int.toNat_natCast, LeH_cons, LeH_nil, LeL_cons, LeL_nil, and_true, true_and, Bool.and_eq_true, Bool.or_eq_true, decide_eq_true_eq, decide_eq_false_iff_not, Bool.cond_true_left, Bool.cond_false_right, List.cons_append, List.nil_append, List.map_cons, List.map_nil, hgd, w3, w1, w2, d]
          repeat' (first | apply And.intro | intro _hc)
          all_goals first | exact AV.le_refl _ | exact AV.le_any _ | exact OLe.refl _ | exact OLe.none _ | exact LeH.refl _ | exact LeL.refl _ | exact AV.le.bs _ | exact AV.le.sb _ | omega | contradiction
        · have d := dec_neg h1
          repeat' (first | refine wC (by first | omega | (simp only [W1, cond_true, cond_false, hgd, w3, w1, d]; first | done | omega)) ?_ | refine wT (by first | omega | (simp only [W1, cond_true, cond_false, hgd, w3, w1, d]; first | done | omega)) ?_ | refine wF (by intro _h; first | omega | (simp only [W1, cond_true, cond_false, hgd, w3, w1, d] at _h; first | done | omega)) ?_ | (refine wS ?_ ?_ <;> intro _h <;> simp only [W1, cond_true, cond_false, hgd, w3, w1, d] at _h))
          all_goals simp only [or_true, true_or, false_or, or_false, and_false, false_and, cond_true, cond_false, Bool.not_true, Bool.not_false, Bool.false_eq_true, Bool.true_eq_false, not_true_eq_false, not_false_eq_true, false_implies, true_implies, implies_true, Nat.blt_eq, owesN, owesX, owesR, notT, sat_brT, sat_brF, sat_chkT, cl_iff, cl_false, AV.le_refl, AV.le_any, OLe_refl, OLe_none, sat_brN, Tree.sat_chk, Tree.sat_leaf, Tree.sat_fail, Nat.zero_add, Nat.sub_zero, Int.toNat_natCast, LeH_cons, LeH_nil, LeL_cons, LeL_nil, and_true, true_and, Bool.and_eq_true, Bool.or_eq_true, decide_eq_true_eq, decide_eq_false_iff_not, Bool.cond_true_left, Bool.cond_false_right, List.cons_append, List.nil_append, List.map_cons, List.map_nil, hgd, w3, w1, d]
          repeat' (first | apply And.intro | intro _hc)
          all_goals first | exact AV.le_refl _ | exact AV.le_any _ | exact OLe.refl _ | exact OLe.none _ | exact LeH.refl _ | exact LeL.refl _ | exact AV.le.bs _ | exact AV.le.sb _ | omega | contradiction
  )
theorem ansFuse {a : Ta} {m : Nat} (hi : a.Inv m) (p : Int) : Answers Try.prog Γb 38 [.ptr 0 0, .v (.int .i64 p)] a.bl .any ((a.fuse p).bl.map some) [] := answers (fn := Try.f38) (c := bodyOf Try.f38) (ntmps := 15) (results := [.tmp 4]) [] Lno false Try.func38 (by kernel_rfl) (by kernel_rfl) (by kernel_rfl) (by kernel_rfl) (by simp) rfl (noLoops (by kernel_rfl)) (by
  obtain ⟨⟨fi, fa, o, n, N, g, left⟩, off⟩ := a
  cases off with
  | true =>
    refine Meets.of (runFuse1 _ p) ?_
    by_cases h0 : p < 0
    · simp only [Ta.fuse, h0, if_true]
      repeat' (first | refine wC (by first | omega | (simp only [W1, cond_true, cond_false]; first | done | omega)) ?_ | refine wT (by first | omega | (simp only [W1, cond_true, cond_false]; first | done | omega)) ?_ | refine wF (by intro _h; first | omega | (simp only [W1, cond_true, cond_false] at _h; first | done | omega)) ?_ | (refine wS ?_ ?_ <;> intro _h <;> simp only [W1, cond_true, cond_false] at _h))
      all_goals simp only [or_true, true_or, false_or, or_false, and_false, false_and, cond_true, cond_false, Bool.not_true, Bool.not_false, Bool.false_eq_true, Bool.true_eq_false, not_true_eq_false, not_false_eq_true, false_implies, true_implies, implies_true, Nat.blt_eq, owesN, owesX, owesR, notT, sat_brT, sat_brF, sat_chkT, cl_iff, cl_false, AV.le_refl, AV.le_any, OLe_refl, OLe_none, sat_brN, Tree.sat_chk, Tree.sat_leaf, Tree.sat_fail, Nat.zero_add, Nat.sub_zero, Int.toNat_natCast, LeH_cons, LeH_nil, LeL_cons, LeL_nil, and_true, true_and, Bool.and_eq_true, Bool.or_eq_true, decide_eq_true_eq, decide_eq_false_iff_not, Bool.cond_true_left, Bool.cond_false_right, List.cons_append, List.nil_append, List.map_cons, List.map_nil]
      repeat' (first | apply And.intro | intro _hc)
      all_goals first | exact AV.le_refl _ | exact AV.le_any _ | exact OLe.refl _ | exact OLe.none _ | exact LeH.refl _ | exact LeL.refl _ | exact AV.le.bs _ | exact AV.le.sb _ | omega | contradiction
    · simp only [Ta.fuse, h0, if_false]
      repeat' (first | refine wC (by first | omega | (simp only [W1, cond_true, cond_false]; first | done | omega)) ?_ | refine wT (by first | omega | (simp only [W1, cond_true, cond_false]; first | done | omega)) ?_ | refine wF (by intro _h; first | omega | (simp only [W1, cond_true, cond_false] at _h; first | done | omega)) ?_ | (refine wS ?_ ?_ <;> intro _h <;> simp only [W1, cond_true, cond_false] at _h))
      all_goals simp only [or_true, true_or, false_or, or_false, and_false, false_and, cond_true, cond_false, Bool.not_true, Bool.not_false, Bool.false_eq_true, Bool.true_eq_false, not_true_eq_false, not_false_eq_true, false_implies, true_implies, implies_true, Nat.blt_eq, owesN, owesX, owesR, notT, sat_brT, sat_brF, sat_chkT, cl_iff, cl_false, AV.le_refl, AV.le_any, OLe_refl, OLe_none, sat_brN, Tree.sat_chk, Tree.sat_leaf, Tree.sat_fail, Nat.zero_add, Nat.sub_zero, Int.toNat_natCast, LeH_cons, LeH_nil, LeL_cons, LeL_nil, and_true, true_and, Bool.and_eq_true, Bool.or_eq_true, decide_eq_true_eq, decide_eq_false_iff_not, Bool.cond_true_left, Bool.cond_false_right, List.cons_append, List.nil_append, List.map_cons, List.map_nil]
      repeat' (first | apply And.intro | intro _hc)
      all_goals first | exact AV.le_refl _ | exact AV.le_any _ | exact OLe.refl _ | exact OLe.none _ | exact LeH.refl _ | exact LeL.refl _ | exact AV.le.bs _ | exact AV.le.sb _ | omega | contradiction
  | false =>
    refine Meets.of (runFuse _ p) ?_
    by_cases h0 : p < 0
    · simp only [Ta.fuse, h0, if_true]
      repeat' (first | refine wC (by first | omega | (simp only [W1, cond_true, cond_false]; first | done | omega)) ?_ | refine wT (by first | omega | (simp only [W1, cond_true, cond_false]; first | done | omega)) ?_ | refine wF (by intro _h; first | omega | (simp only [W1, cond_true, cond_false] at _h; first | done | omega)) ?_ | (refine wS ?_ ?_ <;> intro _h <;> simp only [W1, cond_true, cond_false] at _h))
      all_goals simp only [or_true, true_or, false_or, or_false, and_false, false_and, cond_true, cond_false, Bool.not_true, Bool.not_false, Bool.false_eq_true, Bool.true_eq_false, not_true_eq_false, not_false_eq_true, false_implies, true_implies, implies_true, Nat.blt_eq, owesN, owesX, owesR, notT, sat_brT, sat_brF, sat_chkT, cl_iff, cl_false, AV.le_refl, AV.le_any, OLe_refl, OLe_none, sat_brN, Tree.sat_chk, Tree.sat_leaf, Tree.sat_fail, Nat.zero_add, Nat.sub_zero, Int.toNat_natCast, LeH_cons, LeH_nil, LeL_cons, LeL_nil, and_true, true_and, Bool.and_eq_true, Bool.or_eq_true, decide_eq_true_eq, decide_eq_false_iff_not, Bool.cond_true_left, Bool.cond_false_right, List.cons_append, List.nil_append, List.map_cons, List.map_nil]
      repeat' (first | apply And.intro | intro _hc)
      all_goals first | exact AV.le_refl _ | exact AV.le_any _ | exact OLe.refl _ | exact OLe.none _ | exact LeH.refl _ | exact LeL.refl _ | exact AV.le.bs _ | exact AV.le.sb _ | omega | contradiction
    · simp only [Ta.fuse, h0, if_false]
      repeat' (first | refine wC (by first | omega | (simp only [W1, cond_true, cond_false]; first | done | omega)) ?_ | refine wT (by first | omega | (simp only [W1, cond_true, cond_false]; first | done | omega)) ?_ | refine wF (by intro _h; first | omega | (simp only [W1, cond_true, cond_false] at _h; first | done | omega)) ?_ | (refine wS ?_ ?_ <;> intro _h <;> simp only [W1, cond_true, cond_false] at _h))
      all_goals simp only [or_true, true_or, false_or, or_false, and_false, false_and, cond_true, cond_false, Bool.not_true, Bool.not_false, Bool.false_eq_true, Bool.true_eq_false, not_true_eq_false, not_false_eq_true, false_implies, true_implies, implies_true, Nat.blt_eq, owesN, owesX, owesR, notT, sat_brT, sat_brF, sat_chkT, cl_iff, cl_false, AV.le_refl, AV.le_any, OLe_refl, OLe_none, sat_brN, Tree.sat_chk, Tree.sat_leaf, Tree.sat_fail, Nat.zero_add, Nat.sub_zero, Int.toNat_natCast, LeH_cons, LeH_nil, LeL_cons, LeL_nil, and_true, true_and, Bool.and_eq_true, Bool.or_eq_true, decide_eq_true_eq, decide_eq_false_iff_not, Bool.cond_true_left, Bool.cond_false_right, List.cons_append, List.nil_append, List.map_cons, List.map_nil]
      repeat' (first | apply And.intro | intro _hc)
      all_goals first | exact AV.le_refl _ | exact AV.le_any _ | exact OLe.refl _ | exact OLe.none _ | exact LeH.refl _ | exact LeL.refl _ | exact AV.le.bs _ | exact AV.le.sb _ | omega | contradiction
  )
theorem ansOn (a : Ta) : Answers Try.prog Γb 17 [.ptr 0 0] a.bl (.v (.bool (!a.off))) (a.bl.map some) [] := answers (fn := Try.f17) (c := bodyOf Try.f17) (ntmps := 12) (results := [.tmp 2]) [] Lno false Try.func17 (by kernel_rfl) (by kernel_rfl) (by kernel_rfl) (by kernel_rfl) (by simp) rfl (noLoops (by kernel_rfl)) (by
  obtain ⟨⟨fi, fa, o, n, N, g, left⟩, off⟩ := a
  cases off with
  | true =>
    refine Meets.of (runOn1 _) ?_
    repeat' (first | refine wC (by first | omega | (simp only [W1, cond_true, cond_false]; first | done | omega)) ?_ | refine wT (by first | omega | (simp only [W1, cond_true, cond_false]; first | done | omega)) ?_ | refine wF (by intro _h; first | omega | (simp only [W1, cond_true, cond_false] at _h; first | done | omega)) ?_ | (refine wS ?_ ?_ <;> intro _h <;> simp only [W1, cond_true, cond_false] at _h))
    all_goals simp only [or_true, true_or, false_or, or_false, and_false, false_and, cond_true, cond_false, Bool.not_true, Bool.not_false, Bool.false_eq_true, Bool.true_eq_false, not_true_eq_false, not_false_eq_true, false_implies, true_implies, implies_true, Nat.blt_eq, owesN, owesX, owesR, notT, sat_brT, sat_brF, sat_chkT, cl_iff, cl_false, AV.le_refl, AV.le_any, OLe_refl, OLe_none, sat_brN, Tree.sat_chk, Tree.sat_leaf, Tree.sat_fail, Nat.zero_add, Nat.sub_zero, Int.toNat_natCast, LeH_cons, LeH_nil, LeL_cons, LeL_nil, and_true, true_and, Bool.and_eq_true, Bool.or_eq_true, decide_eq_true_eq, decide_eq_false_iff_not, Bool.cond_true_left, Bool.cond_false_right, List.cons_append, List.nil_append, List.map_cons, List.map_nil]
    repeat' (first | apply And.intro | intro _hc)
    all_goals first | exact AV.le_refl _ | exact AV.le_any _ | exact OLe.refl _ | exact OLe.none _ | exact LeH.refl _ | exact LeL.refl _ | exact AV.le.bs _ | exact AV.le.sb _ | omega | contradiction
  | false =>
    refine Meets.of (runOn _) ?_
    repeat' (first | refine wC (by first | omega | (simp only [W1, cond_true, cond_false]; first | done | omega)) ?_ | refine wT (by first | omega | (simp only [W1, cond_true, cond_false]; first | done | omega)) ?_ | refine wF (by intro _h; first | omega | (simp only [W1, cond_true, cond_false] at _h; first | done | omega)) ?_ | (refine wS ?_ ?_ <;> intro _h <;> simp only [W1, cond_true, cond_false] at _h))
    all_goals simp only [or_true, true_or, false_or, or_false, and_false, false_and, cond_true, cond_false, Bool.not_true, Bool.not_false, Bool.false_eq_true, Bool.true_eq_false, not_true_eq_false, not_false_eq_true, false_implies, true_implies, implies_true, Nat.blt_eq, owesN, owesX, owesR, notT, sat_brT, sat_brF, sat_chkT, cl_iff, cl_false, AV.le_refl, AV.le_any, OLe_refl, OLe_none, sat_brN, Tree.sat_chk, Tree.sat_leaf, Tree.sat_fail, Nat.zero_add, Nat.sub_zero, Int.toNat_natCast, LeH_cons, LeH_nil, LeL_cons, LeL_nil, and_true, true_and, Bool.and_eq_true, Bool.or_eq_true, decide_eq_true_eq, decide_eq_false_iff_not, Bool.cond_true_left, Bool.cond_false_right, List.cons_append, List.nil_append, List.map_cons, List.map_nil]
    repeat' (first | apply And.intro | intro _hc)
    all_goals first | exact AV.le_refl _ | exact AV.le_any _ | exact OLe.refl _ | exact OLe.none _ | exact LeH.refl _ | exact LeL.refl _ | exact AV.le.bs _ | exact AV.le.sb _ | omega | contradiction
  )
theorem ansPl {a : Ta} {m : Nat} (hi : a.Inv m) (hm : m ≤ 1000000) : Answers Try.prog Γb 20 [.ptr 0 0] a.bl (.tup [.v (.int .i64 a.x.fi), .v (.int .i64 a.x.fa), .v (.int .i64 (a.x.fi + (a.x.n : Int)))]) (a.bl.map some) [] := answers (fn := Try.f20) (c := bodyOf Try.f20) (ntmps := 17) (results := [.tmp 2, .tmp 3, .tmp 4]) [k77] Lno false Try.func20 (by kernel_rfl) (by kernel_rfl) (by kernel_rfl) (by kernel_rfl) (by simp) rfl (noLoops (by kernel_rfl)) (by
  obtain ⟨l0, l1, l2, l3, l4, l5, l6, l7, l8⟩ := hi
  obtain ⟨⟨fi, fa, o, n, N, g, left⟩, off⟩ := a
  simp only at l0 l1 l2 l3 l4 l5 l6 l7 l8
  have w1 : IntKind.i64.wrap (fi + (n : Int)) = fi + (n : Int) := wrapM (by omega) (by omega)
  cases off with
  | true =>
    refine Meets.of (runPl1 _) ?_
    repeat' (first | refine wC (by first | omega | (simp only [W1, cond_true, cond_false, w1]; first | done | omega)) ?_ | refine wT (by first | omega | (simp only [W1, cond_true, cond_false, w1]; first | done | omega)) ?_ | refine wF (by intro _h; first | omega | (simp only [W1, cond_true, cond_false, w1] at _h; first | done | omega)) ?_ | (refine wS ?_ ?_ <;> intro _h <;> simp only [W1, cond_true, cond_false, w1] at _h))
    all_goals simp only [or_true, true_or, false_or, or_false, and_false, false_and, cond_true, cond_false, Bool.not_true, Bool.not_false, Bool.false_eq_true, Bool.true_eq_false, not_true_eq_false, not_false_eq_true, false_implies, true_implies, implies_true, Nat.blt_eq, owesN, owesX, owesR, notT, sat_brT, sat_brF, sat_chkT, cl_iff, cl_false, AV.le_refl, AV.le_any, OLe_refl, OLe_none, sat_brN, Tree.sat_chk, Tree.sat_leaf, Tree.sat_fail, Nat.zero_add, Nat.sub_zero, Int.toNat_natCast, LeH_cons, LeH_nil, LeL_cons, LeL_nil, and_true, true_and, Bool.and_eq_true, Bool.or_eq_true, decide_eq_true_eq, decide_eq_false_iff_not, Bool.cond_true_left, Bool.cond_false_right, List.cons_append, List.nil_append, List.map_cons, List.map_nil, w1]
    repeat' (first | apply And.intro | intro _hc)
    all_goals first | exact cl_iff.2 trivial | exact AV.le_refl _ | exact AV.le_any _ | exact OLe.refl _ | exact OLe.none _ | exact LeH.refl _ | exact LeL.refl _ | exact AV.le.bs _ | exact AV.le.sb _ | omega | contradiction
  | false =>
    refine Meets.of (runPl _) ?_
    repeat' (first | refine wC (by first | omega | (simp only [W1, cond_true, cond_false, w1]; first | done | omega)) ?_ | refine wT (by first | omega | (simp only [W1, cond_true, cond_false, w1]; first | done | omega)) ?_ | refine wF (by intro _h; first | omega | (simp only [W1, cond_true, cond_false, w1] at _h; first | done | omega)) ?_ | (refine wS ?_ ?_ <;> intro _h <;> simp only [W1, cond_true, cond_false, w1] at _h))
    all_goals simp only [or_true, true_or, false_or, or_false, and_false, false_and, cond_true, cond_false, Bool.not_true, Bool.not_false, Bool.false_eq_true, Bool.true_eq_false, not_true_eq_false, not_false_eq_true, false_implies, true_implies, implies_true, Nat.blt_eq, owesN, owesX, owesR, notT, sat_brT, sat_brF, sat_chkT, cl_iff, cl_false, AV.le_refl, AV.le_any, OLe_refl, OLe_none, sat_brN, Tree.sat_chk, Tree.sat_leaf, Tree.sat_fail, Nat.zero_add, Nat.sub_zero, Int.toNat_natCast, LeH_cons, LeH_nil, LeL_cons, LeL_nil, and_true, true_and, Bool.and_eq_true, Bool.or_eq_true, decide_eq_true_eq, decide_eq_false_iff_not, Bool.cond_true_left, Bool.cond_false_right, List.cons_append, List.nil_append, List.map_cons, List.map_nil, w1]
    repeat' (first | apply And.intro | intro _hc)
    all_goals first | exact cl_iff.2 trivial | exact AV.le_refl _ | exact AV.le_any _ | exact OLe.refl _ | exact OLe.none _ | exact LeH.refl _ | exact LeL.refl _ | exact AV.le.bs _ | exact AV.le.sb _ | omega | contradiction
  )
def Ta.loose (a : Ta) : Int := a.x.fi + (a.x.n : Int) - a.x.fa
def Ta.kept (a : Ta) (p : Int) : Int := (p % 18446744073709551616) % (a.loose + 1)
def Ta.crash (a : Ta) (p : Int) : Ta := ⟨{ a.x with n := ((a.x.n : Int) - a.loose + a.kept p).toNat, fa := a.x.fi + (((a.x.n : Int) - a.loose + a.kept p).toNat : Int), left := -1 }, false⟩
theorem ansCrash {a : Ta} {m : Nat} (hi : a.Inv m) (hm : m ≤ 1000000) (p : Int) : Answers Try.prog Γb 18 [.ptr 0 0, .v (.int .i64 p)] a.bl (.v (.int .i64 0)) ((a.crash p).bl.map some) [] := answers (fn := Try.f18) (c := bodyOf Try.f18) (ntmps := 49) (results := [.tmp 4]) [k77] Lno false Try.func18 (by kernel_rfl) (by kernel_rfl) (by kernel_rfl) (by kernel_rfl) (by simp) rfl (noLoops (by kernel_rfl)) (by
  obtain ⟨l0, l1, l2, l3, l4, l5, l6, l7, l8⟩ := hi
  obtain ⟨⟨fi, fa, o, n, N, g, left⟩, off⟩ := a
  simp only at l0 l1 l2 l3 l4 l5 l6 l7 l8
  have w1 : IntKind.i64.wrap (fi + (n : Int)) = fi + (n : Int) := wrapM (by omega) (by omega)
  have w2 : IntKind.i64.wrap (fi + (n : Int) - fa) = fi + (n : Int) - fa := wrapM (by omega) (by omega)
  have e1 : Ta.loose ⟨⟨fi, fa, o, n, N, g, left⟩, off⟩ = fi + (n : Int) - fa := rfl
  have e2 : Ta.kept ⟨⟨fi, fa, o, n, N, g, left⟩, off⟩ p = (p % 18446744073709551616) % (fi + (n : Int) - fa + 1) := rfl
  have q0 : 0 ≤ p % 18446744073709551616 := Int.emod_nonneg _ (by decide)
  have q1 : 0 ≤ (p % 18446744073709551616) % (fi + (n : Int) - fa + 1) := Int.emod_nonneg _ (by omega)
  have q2 : (p % 18446744073709551616) % (fi + (n : Int) - fa + 1) < fi + (n : Int) - fa + 1 := Int.emod_lt_of_pos _ (by omega)
  have w3 : IntKind.i64.wrap (fi + (n : Int) - fa + 1) = fi + (n : Int) - fa + 1 := wrapM (by omega) (by omega)
  have w4 : IntKind.u64.wrap (fi + (n : Int) - fa + 1) = fi + (n : Int) - fa + 1 := by
    show (fi + (n : Int) - fa + 1) % 18446744073709551616 = _
    omega
  have w5 : IntKind.u64.wrap p = p % 18446744073709551616 := rfl
  have w6 : Int.tmod (p % 18446744073709551616) (fi + (n : Int) - fa + 1) = (p % 18446744073709551616) % (fi + (n : Int) - fa + 1) := Int.tmod_eq_emod_of_nonneg q0
  simp only [Ta.crash, e1, e2]
  generalize hl : fi + (n : Int) - fa = l at *
  generalize hq : (p % 18446744073709551616) % (l + 1) = q at *
  have w7 : IntKind.i64.wrap q = q := wrapM (by omega) (by omega)
  have w8 : IntKind.i64.wrap ((n : Int) - l) = (n : Int) - l := wrapM (by omega) (by omega)
  have w9 : IntKind.i64.wrap ((n : Int) - l + q) = (n : Int) - l + q := wrapM (by omega) (by omega)
  have w10 : IntKind.i64.wrap (fi + (((n : Int) - l + q).toNat : Int)) = fi + (((n : Int) - l + q).toNat : Int) := wrapM (by omega) (by omega)
  have w11 : decide (l + 1 = 0) = false := decide_eq_false (by omega)
  have w12 : decide (0 ≤ (n : Int) - l + q) = true := decide_eq_true (by omega)
  have w13 : decide ((n : Int) - l + q ≤ (n : Int)) = true := decide_eq_true (by omega)
  cases off with
  | true =>
    refine Meets.of (runCrash1 _ p) ?_
    simp only [w1, hl, w2, w3, w4, w5, w6, hq, w7, w8, w9, w10, w11]
    repeat' (first | refine wC (by first | omega | (simp only [W1, cond_true, cond_false, w12, w13]; first | done | omega)) ?_ | refine wT (by first | omega | (simp only [W1, cond_true, cond_false, w12, w13]; first | done | omega)) ?_ | refine wF (by intro _h; first | omega | (simp only [W1, cond_true, cond_false, w12, w13] at _h; first | done | omega)) ?_ | (refine wS ?_ ?_ <;> intro _h <;> simp only [W1, cond_true, cond_false, w12, w13] at _h))
    all_goals simp only [or_true, true_or, false_or, or_false, and_false, false_and, cond_true, cond_false, Bool.not_true, Bool.not_false, Bool.false_eq_true, Bool.true_eq_false, not_true_eq_false, not_false_eq_true, false_implies, true_implies, implies_true, Nat.blt_eq, owesN, owesX, owesR, notT, sat_brT, sat_brF, sat_chkT, cl_iff, cl_false, AV.le_refl, AV.le_any, OLe_refl, OLe_none, sat_brN, Tree.sat_chk, Tree.sat_leaf, Tree.sat_fail, Nat.zero_add, Nat.sub_zero, Int.toNat_natCast, LeH_cons, LeH_nil, LeL_cons, LeL_nil, and_true, true_and, Bool.and_eq_true, Bool.or_eq_true, decide_eq_true_eq, decide_eq_false_iff_not, Bool.cond_true_left, Bool.cond_false_right, List.cons_append, List.nil_append, List.map_cons, List.map_nil, w12, w13]
    repeat' (first | apply And.intro | intro _hc)
    all_goals first | exact cl_iff.2 trivial | exact AV.le_refl _ | exact AV.le_any _ | exact OLe.refl _ | exact OLe.none _ | exact LeH.refl _ | exact LeL.refl _ | exact AV.le.bs _ | exact AV.le.sb _ | omega | contradiction
  | false =>
    refine Meets.of (runCrash _ p) ?_
    simp only [w1, hl, w2, w3, w4, w5, w6, hq, w7, w8, w9, w10, w11]
    repeat' (first | refine wC (by first | omega | (simp only [W1, cond_true, cond_false, w12, w13]; first | done | omega)) ?_ | refine wT (by first | omega | (simp only [W1, cond_true, cond_false, w12, w13]; first | done | omega)) ?_ | refine wF (by intro _h; first | omega | (simp only [W1, cond_true, cond_false, w12, w13] at _h; first | done | omega)) ?_ | (refine wS ?_ ?_ <;> intro _h <;> simp only [W1, cond_true, cond_false, w12, w13] at _h))
    all_goals simp only [or_true, true_or, false_or, or_false, and_false, false_and, cond_true, cond_false, Bool.not_true, Bool.not_false, Bool.false_eq_true, Bool.true_eq_false, not_true_eq_false, not_false_eq_true, false_implies, true_implies, implies_true, Nat.blt_eq, owesN, owesX, owesR, notT, sat_brT, sat_brF, sat_chkT, cl_iff, cl_false, AV.le_refl, AV.le_any, OLe_refl, OLe_none, sat_brN, Tree.sat_chk, Tree.sat_leaf, Tree.sat_fail, Nat.zero_add, Nat.sub_zero, Int.toNat_natCast, LeH_cons, LeH_nil, LeL_cons, LeL_nil, and_true, true_and, Bool.and_eq_true, Bool.or_eq_true, decide_eq_true_eq, decide_eq_false_iff_not, Bool.cond_true_left, Bool.cond_false_right, List.cons_append, List.nil_append, List.map_cons, List.map_nil, w12, w13]
    repeat' (first | apply And.intro | intro _hc)
    all_goals first | exact cl_iff.2 trivial | exact AV.le_refl _ | exact AV.le_any _ | exact OLe.refl _ | exact OLe.none _ | exact LeH.refl _ | exact LeL.refl _ | exact AV.le.bs _ | exact AV.le.sb _ | omega | contradiction
  )
end Go.Eng.SB.T

namespace Go.Eng
open Go
section
variable {P : Program} {Γ : Nat → AV}
theorem Contract.nilOrE {f : FuncId} {b : Blk} {e0 : Nat} {sz : Nat} {z : List AV} (hz : z.length = sz) {M : List AV} (hM : M.length = sz) (h1 : Contract P Γ f [.v (.slice none 0 0)] [b] { val := .v (.slice none 0 0), upd := [some (some b)] })
    (h2 : Contract P Γ f [.sl sz 0 fun _ => M] [b] { val := .hs 1 0 0, upd := [some (some b)], new := [.arr sz 0 fun _ => z] }) :
    Contract P Γ f [.hs 0 e0 0] [b] { val := .hs 1 0 0, upd := [some (some b)], new := [.arr sz 0 fun _ => z] } := by
  intro σ φ w vals hG hV hn hR
  obtain ⟨y, hy, hv⟩ := hV.one_inv
  have hsl : ∀ (A : Option Addr) (cap : Nat), A ≠ none → y = .slice A 0 cap → VL σ φ [.sl sz 0 fun _ => M] vals.toList := fun A cap hA e => by
    rw [hy, e]
    exact .one (.base (.slnil sz 0 _ A cap (fun _ => hM) rfl (fun h => absurd h hA))) .none
  cases hv with
  | base h => cases h
  | hs h hr _ he hx hc => exact h2 σ φ w vals hG (hsl _ _ (by simp) rfl) hn hR
  | hsnil A h he _ =>
    by_cases hA : A = none
    · subst hA
      refine (h1 σ φ w vals hG (by rw [hy]; exact .one (V_v _) .none) hn hR).mono fun e w' ⟨σ', φ', v, e1, e2, e3, e4, e5⟩ => ?_
      have hnb : φ' 1 = none := e5 1 (Nat.le_refl 1)
      have hv := e2.v_eq
      subst hv
      have hg : getH (Res.heap [b] { val := .hs 1 0 0, upd := [some (some b)], new := [.arr sz 0 fun _ => z] }) = updG (getH (Res.heap [b] { val := .v (.slice none 0 0), upd := [some (some b)] })) 1 (some (.arr sz 0 fun _ => z)) := by
        funext k
        have := getH_append (H := [some b]) (bs := [Blk.arr sz 0 fun _ => z]) (k := k)
        exact this
      refine ⟨σ', fresh φ' 1 ⟨0, 0, sz, 0, 0, true⟩, _, e1, .hsnil none fresh_at (Nat.le_refl 0) rfl, ?_, fun k hk => ?_, fun k hk => ?_⟩
      · rw [hg]
        exact e3.virtual (L := ⟨0, 0, sz, 0, 0, true⟩) hnb rfl (some (.arr sz 0 fun _ => z)) (fun b' hb' => by simp at hb'; subst hb'; exact fun _ => hz) (fun _ _ _ h' => by cases h'; rfl)
      · have hk' : k < 1 := hk
        have : k ≠ 1 := by omega
        simp only [fresh, this, if_false]
        exact e4 k hk
      · have hk' : 2 ≤ k := hk
        have : k ≠ 1 := by omega
        simp only [fresh, this, if_false]
        exact e5 k (by show 1 ≤ k; omega)
    · exact h2 σ φ w vals hG (hsl _ _ hA rfl) hn hR
theorem Answers.nilOrE {f : FuncId} {b : Blk} {e0 : Nat} {sz : Nat} {z : List AV} (hz : z.length = sz) {M : List AV} (hM : M.length = sz) (h1 : Answers P Γ f [.v (.slice none 0 0)] [b] (.v (.slice none 0 0)) [some b] [])
    (h2 : Answers P Γ f [.sl sz 0 fun _ => M] [b] (.hs 1 0 0) [some b] [.arr sz 0 fun _ => z]) : Answers P Γ f [.hs 0 e0 0] [b] (.hs 1 0 0) [some b] [.arr sz 0 fun _ => z] where
  len := rfl
  enters := h1.enters
  ok := h1.ok.nilOrE hz hM h2.ok
end
end Go.Eng
namespace Go.Eng.SB.T
open Go Go.Eng Go.Eng.SB Go.Lib Go.Proofs
theorem runClP (N o n : Nat) (g : Nat → Int) (h : 0 < n) : bodyE (P := Try.prog) (Γ := Γb) [] Lno false 8 [.tmp 2] (bodyOf Try.f79) [.hs 0 o n] [.arr 1 N (bF g)] =
  Tree.chk (Nat.blt (0 : Nat) n || Nat.blt o N) (Tree.chk (roomOk (1 : Nat) ((0 : Nat) + n)) (Tree.leaf (Ans.mk (AV.hs (1 : Nat) (0 : Nat) ((0 : Nat) + n)) [some (Blk.arr (1 : Nat) N fun j =>
    [AV.v (Value.int IntKind.u8 (g j))]), some (Blk.arr (1 : Nat) ((0 : Nat) + n) fun j => mixL (decide (j < (0 : Nat))) (chain [AV.v (Value.int IntKind.u8 (0 : Int))] (0 : Nat) [] ((0 :
    Nat) + j)) [AV.v (Value.int IntKind.u8 (g (o + (j - (0 : Nat)))))])]))) := by kernel_rfl
theorem runClM (N : Nat) (g : Nat → Int) : bodyE (P := Try.prog) (Γ := Γb) [] Lno false 8 [.tmp 2] (bodyOf Try.f79) [.sl 1 0 fun _ => [.v (.tuple #[])]] [.arr 1 N (bF g)] =
  Tree.chk true (Tree.chk true (Tree.leaf (Ans.mk (AV.hs (1 : Nat) (0 : Nat) (0 : Nat)) [some (Blk.arr (1 : Nat) N fun j => [AV.v (Value.int IntKind.u8 (g j))]), some (Blk.arr (1 : Nat) (0 :
    Nat) fun j => mixL (decide (j < (0 : Nat))) (chain [AV.v (Value.int IntKind.u8 (0 : Int))] (0 : Nat) [] ((0 : Nat) + j)) [AV.v (Value.tuple #[])])]))) := by kernel_rfl
theorem runClN (N : Nat) (g : Nat → Int) : bodyE (P := Try.prog) (Γ := Γb) [] Lno false 8 [.tmp 2] (bodyOf Try.f79) [.v (.slice none 0 0)] [.arr 1 N (bF g)] =
  Tree.leaf (Ans.mk (AV.v (Value.slice none (0 : Nat) (0 : Nat))) [some (Blk.arr (1 : Nat) N fun j => [AV.v (Value.int IntKind.u8 (g j))])]) := by kernel_rfl
theorem cl_fun (g : Nat → Int) (o j : Nat) : mixL (decide (j < 0)) (chain [AV.v (Value.int IntKind.u8 0)] 0 [] (0 + j)) [AV.v (Value.int IntKind.u8 (g (o + (j - 0))))] = bF (fun j => g (o + j)) j := by
  show mixL _ [AV.v (Value.int IntKind.u8 0)] [AV.v (Value.int IntKind.u8 (g (o + j)))] = [AV.v (Value.int IntKind.u8 (g (o + j)))]
  rw [mixU, decide_eq_false (show ¬ j < 0 by omega), cond_false]
theorem ansClP {N o n : Nat} {g : Nat → Int} (h : 0 < n) (hn : n ≤ 2000000) : Answers Try.prog Γb 79 [.hs 0 o n] [.arr 1 N (bF g)] (.hs 1 0 n) [some (.arr 1 N (bF g))] [.arr 1 n (bF fun j => g (o + j))] := answers (fn := Try.f79) (c := bodyOf Try.f79) (ntmps := 8) (results := [.tmp 2]) [] Lno false Try.func79 (by kernel_rfl) (by kernel_rfl) (by kernel_rfl) (by kernel_rfl) (by simp) rfl (noLoops (by kernel_rfl)) (by
  refine Meets.of (runClP N o n g h) ?_
  have hf : (fun j => mixL (decide (j < 0)) (chain [AV.v (Value.int IntKind.u8 0)] 0 [] (0 + j)) [AV.v (Value.int IntKind.u8 (g (o + (j - 0))))]) = bF (fun j => g (o + j)) := funext (cl_fun g o)
  have hb : Nat.blt 0 n = true := by rw [Nat.blt_eq]; exact h
  simp only [hf, hb, Bool.true_or, Nat.zero_add]
  exact ⟨rfl, room' (by omega), .refl _, .refl _, .refl _, trivial⟩)
theorem ansClZ {N o : Nat} {g : Nat → Int} : Answers Try.prog Γb 79 [.hs 0 o 0] [.arr 1 N (bF g)] (.hs 1 0 0) [some (.arr 1 N (bF g))] [.arr 1 0 fun _ => [.v (.int .u8 0)]] := by
  refine Answers.nilOrE (sz := 1) (z := [.v (.int .u8 0)]) rfl (M := [.v (.tuple #[])]) rfl ?_ ?_
  · refine answers (fn := Try.f79) (c := bodyOf Try.f79) (ntmps := 8) (results := [.tmp 2]) [] Lno false Try.func79 (by kernel_rfl) (by kernel_rfl) (by kernel_rfl) (by kernel_rfl) (by simp) rfl (noLoops (by kernel_rfl)) (Meets.of (runClN N g) ?_)
    exact ⟨.refl _, .refl _, trivial⟩
  · refine answers (fn := Try.f79) (c := bodyOf Try.f79) (ntmps := 8) (results := [.tmp 2]) [] Lno false Try.func79 (by kernel_rfl) (by kernel_rfl) (by kernel_rfl) (by kernel_rfl) (by simp) rfl (noLoops (by kernel_rfl)) (Meets.of (runClM N g) ?_)
    refine ⟨rfl, rfl, .refl _, .refl _, OLe.arr rfl (fun e he => absurd he (Nat.not_lt_zero e)) (fun _ => rfl), trivial⟩
theorem runRd1 (x : Tp) : bodyE (P := Try.prog) (Γ := Γb) [k78] Lno false 20 [.tmp 2, .tmp 3, .tmp 4] (bodyOf Try.f19) [.ptr 0 0] (x.bl true) =
  Tree.br true (Tree.leaf (Ans.mk (AV.tup [AV.v (Value.int IntKind.i64 (0 : Int)), AV.v (Value.slice none (0 : Nat) (0 : Nat)), AV.v (Value.int IntKind.i64 (170 : Int))]) [some (Blk.row [AV.v
    (Value.int IntKind.i64 (1048576 : Int)), AV.v (Value.int IntKind.i64 x.fi), AV.v (Value.int IntKind.i64 x.fa), AV.hs (1 : Nat) x.o x.n, AV.v (Value.int IntKind.i64 x.left), AV.v
    (Value.bool true)]), some (Blk.arr (1 : Nat) x.N fun j => [AV.v (Value.int IntKind.u8 (x.g j))])])) Tree.fail := by kernel_rfl
theorem runRdP (x : Tp) (h : Answers Try.prog Γb 79 [.hs 0 x.o x.n] [.arr 1 x.N (bF x.g)] (.hs 1 0 x.n) [some (.arr 1 x.N (bF x.g))] [.arr 1 x.n (bF fun j => x.g (x.o + j))]) : bodyE (P := Try.prog) (Γ := Γb) [k78, CT.at 79 h] Lno false 20 [.tmp 2, .tmp 3, .tmp 4] (bodyOf Try.f19) [.ptr 0 0] (x.bl false) =
  Tree.br false (Tree.leaf (Ans.mk (AV.tup [AV.v (Value.int IntKind.i64 (0 : Int)), AV.v (Value.slice none (0 : Nat) (0 : Nat)), AV.v (Value.int IntKind.i64 (0 : Int))]) [some (Blk.row [AV.v
    (Value.int IntKind.i64 (1048576 : Int)), AV.v (Value.int IntKind.i64 x.fi), AV.v (Value.int IntKind.i64 x.fa), AV.hs (1 : Nat) x.o x.n, AV.v (Value.int IntKind.i64 x.left), AV.v
    (Value.bool false)]), some (Blk.arr (1 : Nat) x.N fun j => [AV.v (Value.int IntKind.u8 (x.g j))])])) (Tree.chk (cl (LeL [AV.hs (0 : Nat) x.o x.n] [AV.hs (0 : Nat) x.o x.n] ∧ LeH [some
    (Blk.arr (1 : Nat) x.N fun j => [AV.v (Value.int IntKind.u8 (x.g j))])] [some (Blk.arr (1 : Nat) x.N fun j => [AV.v (Value.int IntKind.u8 (x.g j))])])) (Tree.leaf (Ans.mk (AV.tup [AV.v
    (Value.int IntKind.i64 x.fi), AV.hs (2 : Nat) (0 : Nat) x.n, AV.v (Value.int IntKind.i64 (0 : Int))]) [some (Blk.row [AV.v (Value.int IntKind.i64 (1048576 : Int)), AV.v (Value.int
    IntKind.i64 x.fi), AV.v (Value.int IntKind.i64 x.fa), AV.hs (1 : Nat) x.o x.n, AV.v (Value.int IntKind.i64 x.left), AV.v (Value.bool false)]), some (Blk.arr (1 : Nat) x.N fun j => [AV.v
    (Value.int IntKind.u8 (x.g j))]), some (Blk.arr (1 : Nat) x.n fun j => [AV.v (Value.int IntKind.u8 (x.g (x.o + j)))])]))) := by kernel_rfl
theorem runRdZ (x : Tp) (h : Answers Try.prog Γb 79 [.hs 0 x.o 0] [.arr 1 x.N (bF x.g)] (.hs 1 0 0) [some (.arr 1 x.N (bF x.g))] [.arr 1 0 fun _ => [.v (.int .u8 0)]]) : bodyE (P := Try.prog) (Γ := Γb) [k78, CT.at 79 h] Lno false 20 [.tmp 2, .tmp 3, .tmp 4] (bodyOf Try.f19) [.ptr 0 0] ({ x with n := 0 }.bl false) =
  Tree.br false (Tree.leaf (Ans.mk (AV.tup [AV.v (Value.int IntKind.i64 (0 : Int)), AV.v (Value.slice none (0 : Nat) (0 : Nat)), AV.v (Value.int IntKind.i64 (0 : Int))]) [some (Blk.row [AV.v
    (Value.int IntKind.i64 (1048576 : Int)), AV.v (Value.int IntKind.i64 x.fi), AV.v (Value.int IntKind.i64 x.fa), AV.hs (1 : Nat) x.o (0 : Nat), AV.v (Value.int IntKind.i64 x.left), AV.v
    (Value.bool false)]), some (Blk.arr (1 : Nat) x.N fun j => [AV.v (Value.int IntKind.u8 ((Tp.mk x.fi x.fa x.o (0 : Nat) x.N x.g x.left).g j))])])) (Tree.chk (cl (LeL [AV.hs (0 : Nat) x.o
    (0 : Nat)] [AV.hs (0 : Nat) x.o (0 : Nat)] ∧ LeH [some (Blk.arr (1 : Nat) x.N fun j => [AV.v (Value.int IntKind.u8 ((Tp.mk x.fi x.fa x.o (0 : Nat) x.N x.g x.left).g j))])] [some (Blk.arr
    (1 : Nat) x.N fun j => [AV.v (Value.int IntKind.u8 (x.g j))])])) (Tree.leaf (Ans.mk (AV.tup [AV.v (Value.int IntKind.i64 x.fi), AV.hs (2 : Nat) (0 : Nat) (0 : Nat), AV.v (Value.int
    IntKind.i64 (0 : Int))]) [some (Blk.row [AV.v (Value.int IntKind.i64 (1048576 : Int)), AV.v (Value.int IntKind.i64 x.fi), AV.v (Value.int IntKind.i64 x.fa), AV.hs (1 : Nat) x.o (0 :
    Nat), AV.v (Value.int IntKind.i64 x.left), AV.v (Value.bool false)]), some (Blk.arr (1 : Nat) x.N fun j => [AV.v (Value.int IntKind.u8 (x.g j))]), some (Blk.arr (1 : Nat) (0 : Nat) fun x
    => [AV.v (Value.int IntKind.u8 (0 : Int))])]))) := by kernel_rfl
theorem ansRd0 {a : Ta} (ho : a.off = true) : Answers Try.prog Γb 19 [.ptr 0 0] a.bl (.tup [.v (.int .i64 0), .v (.slice none 0 0), .v (.int .i64 170)]) (a.bl.map some) [] := answers (fn := Try.f19) (c := bodyOf Try.f19) (ntmps := 20) (results := [.tmp 2, .tmp 3, .tmp 4]) [k78] Lno false Try.func19 (by kernel_rfl) (by kernel_rfl) (by kernel_rfl) (by kernel_rfl) (by simp) rfl (noLoops (by kernel_rfl)) (by
  obtain ⟨x, off⟩ := a
  simp only at ho
  subst ho
  refine Meets.of (runRd1 x) ?_
  exact ⟨fun _ => ⟨.refl _, .refl _, .refl _, trivial⟩, fun h => by simp at h⟩)
theorem ansRd {a : Ta} {m : Nat} (hi : a.Inv m) (ho : a.off = false) : Answers Try.prog Γb 19 [.ptr 0 0] a.bl (.tup [.v (.int .i64 a.x.fi), .hs 2 0 a.x.n, .v (.int .i64 0)]) (a.bl.map some) [.arr 1 a.x.n (bF fun j => a.x.g (a.x.o + j))] := by
  have l8 := hi.l8
  obtain ⟨x, off⟩ := a
  simp only at ho l8
  subst ho
  by_cases hn : 0 < x.n
  · have h := ansClP (N := x.N) (o := x.o) (g := x.g) hn (by omega)
    refine answers (fn := Try.f19) (c := bodyOf Try.f19) (ntmps := 20) (results := [.tmp 2, .tmp 3, .tmp 4]) [k78, CT.at 79 h] Lno false Try.func19 (by kernel_rfl) (by kernel_rfl) (by kernel_rfl) (by kernel_rfl) (by simp) rfl (noLoops (by kernel_rfl)) (Meets.of (runRdP x h) ?_)
    exact ⟨fun h => by simp at h, fun _ => ⟨cl_iff.2 ⟨LeL.refl _, LeH.refl _⟩, .refl _, .refl _, .refl _, .refl _, trivial⟩⟩
  · obtain ⟨fi, fa, o, n, N, g, left⟩ := x
    simp only at hn l8
    obtain rfl : n = 0 := by omega
    have h := ansClZ (N := N) (o := o) (g := g)
    refine answers (fn := Try.f19) (c := bodyOf Try.f19) (ntmps := 20) (results := [.tmp 2, .tmp 3, .tmp 4]) [k78, CT.at 79 h] Lno false Try.func19 (by kernel_rfl) (by kernel_rfl) (by kernel_rfl) (by kernel_rfl) (by simp) rfl (noLoops (by kernel_rfl)) (Meets.of (runRdZ ⟨fi, fa, o, 0, N, g, left⟩ h) ?_)
    exact ⟨fun h => by simp at h, fun _ => ⟨cl_iff.2 ⟨LeL.refl _, LeH.refl _⟩, .refl _, .refl _, .refl _, OLe.arr rfl (fun e he => absurd he (Nat.not_lt_zero e)) (fun _ => rfl), trivial⟩⟩
end Go.Eng.SB.T

namespace Go.Eng.SB.T
open Go Go.Eng Go.Eng.SB Go.Lib Go.Proofs
noncomputable def loopW : Code := loopOf (bodyOf Try.f73) 0
def wbl (x : Tp) (off : Bool) (s : ByteArray) : List Blk := [.row [.v (.int .i64 1048576), .v (.int .i64 x.fi), .v (.int .i64 x.fa), .hs 1 x.o x.n, .v (.int .i64 x.left), .v (.bool off)], .arr 1 x.N (bF x.g), .arr 1 s.size (bsF s)]
@[reducible] def wb3 (x : Tp) (off : Bool) (s : ByteArray) : Heap := [some (.row [.v (.int .i64 1048576), .v (.int .i64 x.fi), .v (.int .i64 x.fa), .hs 3 x.o x.n, .v (.int .i64 x.left), .v (.bool off)]), none, some (.arr 1 s.size (bsF s)), some (.arr 1 x.N (bF x.g))]
theorem roundW (x : Tp) (s : ByteArray) : roundE (P := Try.prog) (Γ := Γb) [k118] Lno false 3 0 loopW [0, 4, 6, 30, 31, 32] [] 52 [.ptr 0 0, .any, .fn 118 [.ptr 0 0] [], .hs 2 0 s.size, .v (.int .i64 (s.size : Int)), .v (.int .i64 ((0 : Nat) : Int))] ((wbl x false s).map some) =
  Tree.br (decide ((↑(0 : Nat) : Int) < (↑(ByteArray.size s) : Int))) (Tree.chk (decide ((↑(0 : Nat) : Int) < (↑(ByteArray.size s) : Int))) (Tree.br (decide (x.left = (0 : Int))) (Tree.br true
    (Tree.leaf (Out.mk AEx.ret [AV.ptr (0 : Nat) (0 : Nat), AV.v (Value.int IntKind.i64 (170 : Int)), AV.fn (118 : FuncId) [AV.ptr (0 : Nat) (0 : Nat)] [], AV.hs (2 : Nat) (0 : Nat)
    (ByteArray.size s), AV.v (Value.int IntKind.i64 (↑(ByteArray.size s) : Int)), AV.v (Value.int IntKind.i64 (↑(0 : Nat) : Int))] [some (Blk.row [AV.v (Value.int IntKind.i64 (1048576 :
    Int)), AV.v (Value.int IntKind.i64 x.fi), AV.v (Value.int IntKind.i64 x.fa), AV.hs (1 : Nat) x.o x.n, AV.v (Value.int IntKind.i64 x.left), AV.v (Value.bool true)]), some (Blk.arr (1 :
    Nat) x.N fun j => [AV.v (Value.int IntKind.u8 (x.g j))]), some (Blk.arr (1 : Nat) (ByteArray.size s) (bsF s))])) (Tree.chk (roomOk (1 : Nat) (x.n + (1 : Nat))) (Tree.leaf (Out.mk
    AEx.normal [AV.ptr (0 : Nat) (0 : Nat), AV.any, AV.fn (118 : FuncId) [AV.ptr (0 : Nat) (0 : Nat)] [], AV.hs (2 : Nat) (0 : Nat) (ByteArray.size s), AV.v (Value.int IntKind.i64
    (↑(ByteArray.size s) : Int)), AV.v (Value.int IntKind.i64 (IntKind.wrap IntKind.i64 ((↑(0 : Nat) : Int) + (1 : Int))))] [some (Blk.row [AV.v (Value.int IntKind.i64 (1048576 : Int)), AV.v
    (Value.int IntKind.i64 x.fi), AV.v (Value.int IntKind.i64 x.fa), AV.hs (3 : Nat) (0 : Nat) (x.n + (1 : Nat)), AV.v (Value.int IntKind.i64 x.left), AV.v (Value.bool true)]), none, some
    (Blk.arr (1 : Nat) (ByteArray.size s) (bsF s)), some (Blk.arr (1 : Nat) (x.n + (1 : Nat)) fun j => mixL (decide (j < x.n)) [AV.v (Value.int IntKind.u8 (x.g (x.o + j)))] (chain [AV.v
    (Value.int IntKind.u8 (0 : Int))] (0 : Nat) [[AV.v (Value.int IntKind.u8 (sbyte s (0 : Nat)))]] ((0 : Nat) + (j - x.n))))])))) (Tree.br (decide ((0 : Int) < x.left)) (Tree.br false
    (Tree.leaf (Out.mk AEx.ret [AV.ptr (0 : Nat) (0 : Nat), AV.v (Value.int IntKind.i64 (0 : Int)), AV.fn (118 : FuncId) [AV.ptr (0 : Nat) (0 : Nat)] [], AV.hs (2 : Nat) (0 : Nat)
    (ByteArray.size s), AV.v (Value.int IntKind.i64 (↑(ByteArray.size s) : Int)), AV.v (Value.int IntKind.i64 (↑(0 : Nat) : Int))] [some (Blk.row [AV.v (Value.int IntKind.i64 (1048576 :
    Int)), AV.v (Value.int IntKind.i64 x.fi), AV.v (Value.int IntKind.i64 x.fa), AV.hs (1 : Nat) x.o x.n, AV.v (Value.int IntKind.i64 (IntKind.wrap IntKind.i64 (x.left - (1 : Int)))), AV.v
    (Value.bool false)]), some (Blk.arr (1 : Nat) x.N fun j => [AV.v (Value.int IntKind.u8 (x.g j))]), some (Blk.arr (1 : Nat) (ByteArray.size s) (bsF s))])) (Tree.chk (roomOk (1 : Nat) (x.n
    + (1 : Nat))) (Tree.leaf (Out.mk AEx.normal [AV.ptr (0 : Nat) (0 : Nat), AV.any, AV.fn (118 : FuncId) [AV.ptr (0 : Nat) (0 : Nat)] [], AV.hs (2 : Nat) (0 : Nat) (ByteArray.size s), AV.v
    (Value.int IntKind.i64 (↑(ByteArray.size s) : Int)), AV.v (Value.int IntKind.i64 (IntKind.wrap IntKind.i64 ((↑(0 : Nat) : Int) + (1 : Int))))] [some (Blk.row [AV.v (Value.int IntKind.i64
    (1048576 : Int)), AV.v (Value.int IntKind.i64 x.fi), AV.v (Value.int IntKind.i64 x.fa), AV.hs (3 : Nat) (0 : Nat) (x.n + (1 : Nat)), AV.v (Value.int IntKind.i64 (IntKind.wrap IntKind.i64
    (x.left - (1 : Int)))), AV.v (Value.bool false)]), none, some (Blk.arr (1 : Nat) (ByteArray.size s) (bsF s)), some (Blk.arr (1 : Nat) (x.n + (1 : Nat)) fun j => mixL (decide (j < x.n))
    [AV.v (Value.int IntKind.u8 (x.g (x.o + j)))] (chain [AV.v (Value.int IntKind.u8 (0 : Int))] (0 : Nat) [[AV.v (Value.int IntKind.u8 (sbyte s (0 : Nat)))]] ((0 : Nat) + (j - x.n))))]))))
    (Tree.br false (Tree.leaf (Out.mk AEx.ret [AV.ptr (0 : Nat) (0 : Nat), AV.v (Value.int IntKind.i64 (0 : Int)), AV.fn (118 : FuncId) [AV.ptr (0 : Nat) (0 : Nat)] [], AV.hs (2 : Nat) (0 :
    Nat) (ByteArray.size s), AV.v (Value.int IntKind.i64 (↑(ByteArray.size s) : Int)), AV.v (Value.int IntKind.i64 (↑(0 : Nat) : Int))] [some (Blk.row [AV.v (Value.int IntKind.i64 (1048576 :
    Int)), AV.v (Value.int IntKind.i64 x.fi), AV.v (Value.int IntKind.i64 x.fa), AV.hs (1 : Nat) x.o x.n, AV.v (Value.int IntKind.i64 x.left), AV.v (Value.bool false)]), some (Blk.arr (1 :
    Nat) x.N fun j => [AV.v (Value.int IntKind.u8 (x.g j))]), some (Blk.arr (1 : Nat) (ByteArray.size s) (bsF s))])) (Tree.chk (roomOk (1 : Nat) (x.n + (1 : Nat))) (Tree.leaf (Out.mk
    AEx.normal [AV.ptr (0 : Nat) (0 : Nat), AV.any, AV.fn (118 : FuncId) [AV.ptr (0 : Nat) (0 : Nat)] [], AV.hs (2 : Nat) (0 : Nat) (ByteArray.size s), AV.v (Value.int IntKind.i64
    (↑(ByteArray.size s) : Int)), AV.v (Value.int IntKind.i64 (IntKind.wrap IntKind.i64 ((↑(0 : Nat) : Int) + (1 : Int))))] [some (Blk.row [AV.v (Value.int IntKind.i64 (1048576 : Int)), AV.v
    (Value.int IntKind.i64 x.fi), AV.v (Value.int IntKind.i64 x.fa), AV.hs (3 : Nat) (0 : Nat) (x.n + (1 : Nat)), AV.v (Value.int IntKind.i64 x.left), AV.v (Value.bool false)]), none, some
    (Blk.arr (1 : Nat) (ByteArray.size s) (bsF s)), some (Blk.arr (1 : Nat) (x.n + (1 : Nat)) fun j => mixL (decide (j < x.n)) [AV.v (Value.int IntKind.u8 (x.g (x.o + j)))] (chain [AV.v
    (Value.int IntKind.u8 (0 : Int))] (0 : Nat) [[AV.v (Value.int IntKind.u8 (sbyte s (0 : Nat)))]] ((0 : Nat) + (j - x.n))))]))))))) (Tree.leaf (Out.mk (AEx.exit (0 : Nat)) [AV.ptr (0 :
    Nat) (0 : Nat), AV.any, AV.fn (118 : FuncId) [AV.ptr (0 : Nat) (0 : Nat)] [], AV.hs (2 : Nat) (0 : Nat) (ByteArray.size s), AV.v (Value.int IntKind.i64 (↑(ByteArray.size s) : Int)), AV.v
    (Value.int IntKind.i64 (↑(0 : Nat) : Int))] [some (Blk.row [AV.v (Value.int IntKind.i64 (1048576 : Int)), AV.v (Value.int IntKind.i64 x.fi), AV.v (Value.int IntKind.i64 x.fa), AV.hs (1 :
    Nat) x.o x.n, AV.v (Value.int IntKind.i64 x.left), AV.v (Value.bool false)]), some (Blk.arr (1 : Nat) x.N fun j => [AV.v (Value.int IntKind.u8 (x.g j))]), some (Blk.arr (1 : Nat)
    (ByteArray.size s) (bsF s))])) := by kernel_rfl
theorem roundW3 (x : Tp) (s : ByteArray) (i : Nat) : roundE (P := Try.prog) (Γ := Γb) [k118] Lno false 3 0 loopW [0, 4, 6, 30, 31, 32] [] 52 [.ptr 0 0, .any, .fn 118 [.ptr 0 0] [], .hs 2 0 s.size, .v (.int .i64 (s.size : Int)), .v (.int .i64 (i : Int))] (wb3 x false s) =
  Tree.br (decide ((↑i : Int) < (↑(ByteArray.size s) : Int))) (Tree.chk (decide ((0 : Int) ≤ (↑i : Int)) && decide ((↑i : Int) < (↑(ByteArray.size s) : Int))) (Tree.br (decide (x.left = (0 :
    Int))) (Tree.br true (Tree.leaf (Out.mk AEx.ret [AV.ptr (0 : Nat) (0 : Nat), AV.v (Value.int IntKind.i64 (170 : Int)), AV.fn (118 : FuncId) [AV.ptr (0 : Nat) (0 : Nat)] [], AV.hs (2 :
    Nat) (0 : Nat) (ByteArray.size s), AV.v (Value.int IntKind.i64 (↑(ByteArray.size s) : Int)), AV.v (Value.int IntKind.i64 (↑i : Int))] [some (Blk.row [AV.v (Value.int IntKind.i64 (1048576
    : Int)), AV.v (Value.int IntKind.i64 x.fi), AV.v (Value.int IntKind.i64 x.fa), AV.hs (3 : Nat) x.o x.n, AV.v (Value.int IntKind.i64 x.left), AV.v (Value.bool true)]), none, some (Blk.arr
    (1 : Nat) (ByteArray.size s) (bsF s)), some (Blk.arr (1 : Nat) x.N fun j => [AV.v (Value.int IntKind.u8 (x.g j))])])) (Tree.chk (roomOk (1 : Nat) (x.n + (1 : Nat))) (Tree.leaf (Out.mk
    AEx.normal [AV.ptr (0 : Nat) (0 : Nat), AV.any, AV.fn (118 : FuncId) [AV.ptr (0 : Nat) (0 : Nat)] [], AV.hs (2 : Nat) (0 : Nat) (ByteArray.size s), AV.v (Value.int IntKind.i64
    (↑(ByteArray.size s) : Int)), AV.v (Value.int IntKind.i64 (IntKind.wrap IntKind.i64 ((↑i : Int) + (1 : Int))))] [some (Blk.row [AV.v (Value.int IntKind.i64 (1048576 : Int)), AV.v
    (Value.int IntKind.i64 x.fi), AV.v (Value.int IntKind.i64 x.fa), AV.hs (3 : Nat) (0 : Nat) (x.n + (1 : Nat)), AV.v (Value.int IntKind.i64 x.left), AV.v (Value.bool true)]), none, some
    (Blk.arr (1 : Nat) (ByteArray.size s) (bsF s)), some (Blk.arr (1 : Nat) (x.n + (1 : Nat)) fun j => mixL (decide (j < x.n)) [AV.v (Value.int IntKind.u8 (x.g (x.o + j)))] (chain [AV.v
    (Value.int IntKind.u8 (0 : Int))] (0 : Nat) [[AV.v (Value.int IntKind.u8 (sbyte s ((0 : Nat) + i)))]] ((0 : Nat) + (j - x.n))))])))) (Tree.br (decide ((0 : Int) < x.left)) (Tree.br false
    (Tree.leaf (Out.mk AEx.ret [AV.ptr (0 : Nat) (0 : Nat), AV.v (Value.int IntKind.i64 (0 : Int)), AV.fn (118 : FuncId) [AV.ptr (0 : Nat) (0 : Nat)] [], AV.hs (2 : Nat) (0 : Nat)
    (ByteArray.size s), AV.v (Value.int IntKind.i64 (↑(ByteArray.size s) : Int)), AV.v (Value.int IntKind.i64 (↑i : Int))] [some (Blk.row [AV.v (Value.int IntKind.i64 (1048576 : Int)), AV.v
    (Value.int IntKind.i64 x.fi), AV.v (Value.int IntKind.i64 x.fa), AV.hs (3 : Nat) x.o x.n, AV.v (Value.int IntKind.i64 (IntKind.wrap IntKind.i64 (x.left - (1 : Int)))), AV.v (Value.bool
    false)]), none, some (Blk.arr (1 : Nat) (ByteArray.size s) (bsF s)), some (Blk.arr (1 : Nat) x.N fun j => [AV.v (Value.int IntKind.u8 (x.g j))])])) (Tree.chk (roomOk (1 : Nat) (x.n + (1
    : Nat))) (Tree.leaf (Out.mk AEx.normal [AV.ptr (0 : Nat) (0 : Nat), AV.any, AV.fn (118 : FuncId) [AV.ptr (0 : Nat) (0 : Nat)] [], AV.hs (2 : Nat) (0 : Nat) (ByteArray.size s), AV.v
    (Value.int IntKind.i64 (↑(ByteArray.size s) : Int)), AV.v (Value.int IntKind.i64 (IntKind.wrap IntKind.i64 ((↑i : Int) + (1 : Int))))] [some (Blk.row [AV.v (Value.int IntKind.i64
    (1048576 : Int)), AV.v (Value.int IntKind.i64 x.fi), AV.v (Value.int IntKind.i64 x.fa), AV.hs (3 : Nat) (0 : Nat) (x.n + (1 : Nat)), AV.v (Value.int IntKind.i64 (IntKind.wrap IntKind.i64
    (x.left - (1 : Int)))), AV.v (Value.bool false)]), none, some (Blk.arr (1 : Nat) (ByteArray.size s) (bsF s)), some (Blk.arr (1 : Nat) (x.n + (1 : Nat)) fun j => mixL (decide (j < x.n))
    [AV.v (Value.int IntKind.u8 (x.g (x.o + j)))] (chain [AV.v (Value.int IntKind.u8 (0 : Int))] (0 : Nat) [[AV.v (Value.int IntKind.u8 (sbyte s ((0 : Nat) + i)))]] ((0 : Nat) + (j -
    x.n))))])))) (Tree.br false (Tree.leaf (Out.mk AEx.ret [AV.ptr (0 : Nat) (0 : Nat), AV.v (Value.int IntKind.i64 (0 : Int)), AV.fn (118 : FuncId) [AV.ptr (0 : Nat) (0 : Nat)] [], AV.hs (2
    : Nat) (0 : Nat) (ByteArray.size s), AV.v (Value.int IntKind.i64 (↑(ByteArray.size s) : Int)), AV.v (Value.int IntKind.i64 (↑i : Int))] [some (Blk.row [AV.v (Value.int IntKind.i64
    (1048576 : Int)), AV.v (Value.int IntKind.i64 x.fi), AV.v (Value.int IntKind.i64 x.fa), AV.hs (3 : Nat) x.o x.n, AV.v (Value.int IntKind.i64 x.left), AV.v (Value.bool false)]), none,
    some (Blk.arr (1 : Nat) (ByteArray.size s) (bsF s)), some (Blk.arr (1 : Nat) x.N fun j => [AV.v (Value.int IntKind.u8 (x.g j))])])) (Tree.chk (roomOk (1 : Nat) (x.n + (1 : Nat)))
    (Tree.leaf (Out.mk AEx.normal [AV.ptr (0 : Nat) (0 : Nat), AV.any, AV.fn (118 : FuncId) [AV.ptr (0 : Nat) (0 : Nat)] [], AV.hs (2 : Nat) (0 : Nat) (ByteArray.size s), AV.v (Value.int
    IntKind.i64 (↑(ByteArray.size s) : Int)), AV.v (Value.int IntKind.i64 (IntKind.wrap IntKind.i64 ((↑i : Int) + (1 : Int))))] [some (Blk.row [AV.v (Value.int IntKind.i64 (1048576 : Int)),
    AV.v (Value.int IntKind.i64 x.fi), AV.v (Value.int IntKind.i64 x.fa), AV.hs (3 : Nat) (0 : Nat) (x.n + (1 : Nat)), AV.v (Value.int IntKind.i64 x.left), AV.v (Value.bool false)]), none,
    some (Blk.arr (1 : Nat) (ByteArray.size s) (bsF s)), some (Blk.arr (1 : Nat) (x.n + (1 : Nat)) fun j => mixL (decide (j < x.n)) [AV.v (Value.int IntKind.u8 (x.g (x.o + j)))] (chain [AV.v
    (Value.int IntKind.u8 (0 : Int))] (0 : Nat) [[AV.v (Value.int IntKind.u8 (sbyte s ((0 : Nat) + i)))]] ((0 : Nat) + (j - x.n))))]))))))) (Tree.leaf (Out.mk (AEx.exit (0 : Nat)) [AV.ptr (0
    : Nat) (0 : Nat), AV.any, AV.fn (118 : FuncId) [AV.ptr (0 : Nat) (0 : Nat)] [], AV.hs (2 : Nat) (0 : Nat) (ByteArray.size s), AV.v (Value.int IntKind.i64 (↑(ByteArray.size s) : Int)),
    AV.v (Value.int IntKind.i64 (↑i : Int))] [some (Blk.row [AV.v (Value.int IntKind.i64 (1048576 : Int)), AV.v (Value.int IntKind.i64 x.fi), AV.v (Value.int IntKind.i64 x.fa), AV.hs (3 :
    Nat) x.o x.n, AV.v (Value.int IntKind.i64 x.left), AV.v (Value.bool false)]), none, some (Blk.arr (1 : Nat) (ByteArray.size s) (bsF s)), some (Blk.arr (1 : Nat) x.N fun j => [AV.v
    (Value.int IntKind.u8 (x.g j))])])) := by kernel_rfl
def step1 (s : ByteArray) (x : Tp) (i : Nat) : Tp := { x with left := dec x.left, o := 0, n := x.n + 1, N := x.n + 1, g := fun j => if j < x.n then x.g (x.o + j) else if j = x.n then sbyte s i else 0 }
def wx (x : Tp) (s : ByteArray) : Nat → Tp
  | 0 => x
  | i + 1 => step1 s (wx x s i) i
def kW (x : Tp) (s : ByteArray) : Nat := if x.left < 0 then s.size else min x.left.toNat s.size
theorem wx_n (x : Tp) (s : ByteArray) : ∀ i, (wx x s i).n = x.n + i
  | 0 => rfl
  | i + 1 => by show (wx x s i).n + 1 = _; rw [wx_n x s i]; omega
theorem wx_left (x : Tp) (s : ByteArray) : ∀ i, i ≤ kW x s → (wx x s i).left = if x.left < 0 then x.left else x.left - (i : Int)
  | 0, _ => by show x.left = _; split <;> simp
  | i + 1, h => by
    show dec (wx x s i).left = _
    rw [wx_left x s i (by omega)]
    unfold kW at h
    by_cases h0 : x.left < 0
    · rw [if_pos h0, if_pos h0, dec_neg (by omega)]
    · rw [if_neg h0] at h
      rw [if_neg h0, if_neg h0, dec_pos (by omega)]; omega
def HF (x : Tp) (s : ByteArray) (off : Bool) : Nat → Heap
  | 0 => (wbl x off s).map some
  | k + 1 => wb3 (wx x s (k + 1)) off s
def SW (x : Tp) (s : ByteArray) (i : Nat) : List AV × Heap := ([.ptr 0 0, .any, .fn 118 [.ptr 0 0] [], .hs 2 0 s.size, .v (.int .i64 (s.size : Int)), .v (.int .i64 (i : Int))], HF x s false i)
def OW (x : Tp) (s : ByteArray) : Out := ⟨if kW x s = s.size then .exit 0 else .ret, [.any, .any, .any, .any, .any, .any], HF x s (decide (¬ kW x s = s.size)) (kW x s)⟩
theorem app_fun (s : ByteArray) (x : Tp) (i j : Nat) : mixL (decide (j < x.n)) [AV.v (Value.int IntKind.u8 (x.g (x.o + j)))] (chain [AV.v (Value.int IntKind.u8 0)] 0 [[AV.v (Value.int IntKind.u8 (sbyte s (0 + i)))]] (0 + (j - x.n))) = bF (step1 s x i).g j := by
  show _ = [AV.v (Value.int IntKind.u8 (if j < x.n then x.g (x.o + j) else if j = x.n then sbyte s i else 0))]
  rw [Nat.zero_add, Nat.zero_add]
  by_cases h : j < x.n
  · rw [if_pos h, decide_eq_true h, show j - x.n = 0 by omega]
    show mixL true [AV.v (Value.int IntKind.u8 (x.g (x.o + j)))] [AV.v (Value.int IntKind.u8 (sbyte s i))] = _
    rw [mixU]; rfl
  · rw [if_neg h, decide_eq_false h]
    by_cases h' : j = x.n
    · rw [if_pos h', show j - x.n = 0 by omega]
      show mixL false [AV.v (Value.int IntKind.u8 (x.g (x.o + j)))] [AV.v (Value.int IntKind.u8 (sbyte s i))] = _
      rw [mixU]; rfl
    · obtain ⟨k, hk⟩ : ∃ k, j - x.n = k + 1 := ⟨j - x.n - 1, by omega⟩
      rw [if_neg h', hk]
      show mixL false [AV.v (Value.int IntKind.u8 (x.g (x.o + j)))] [AV.v (Value.int IntKind.u8 0)] = _
      rw [mixU]; rfl
theorem wx_succ (x : Tp) (s : ByteArray) (i : Nat) : wx x s (i + 1) = step1 s (wx x s i) i := rfl
theorem wx_zero (x : Tp) (s : ByteArray) : wx x s 0 = x := rfl
attribute [irreducible] wx
theorem app_fun0 (s : ByteArray) (x : Tp) (j : Nat) : mixL (decide (j < x.n)) [AV.v (Value.int IntKind.u8 (x.g (x.o + j)))] (chain [AV.v (Value.int IntKind.u8 0)] 0 [[AV.v (Value.int IntKind.u8 (sbyte s 0))]] (0 + (j - x.n))) = bF (step1 s x 0).g j := app_fun s x 0 j
theorem loopW_ok {x : Tp} {s : ByteArray} (hs : s.size ≤ 3000) (hn : x.n ≤ 1048576) (hl : x.left ≤ 9223372036854775807) : ∀ i, i ≤ kW x s → LoopOK Try.prog Γb 3 52 loopW (LSpec.at [0, 4, 6, 30, 31, 32] [] (SW x s i) (OW x s)) := by
  have hk : kW x s ≤ s.size := by unfold kW; split <;> omega
  refine loop_at (S := SW x s) (pre := fun i => i ≤ kW x s) (O := fun _ => OW x s) (k := 0) (fun i => kW x s - i) fun i hi => ?_
  have zl := wx_left x s i hi
  have zn := wx_n x s i
  have e1 : IntKind.i64.wrap ((i : Int) + 1) = ((i + 1 : Nat) : Int) := wrapUpN (by omega)
  have hs1 := wx_succ x s i
  have hsame : OW x s = ⟨if kW x s = s.size then .exit 0 else .ret, [.any, .any, .any, .any, .any, .any], HF x s (decide (¬ kW x s = s.size)) (kW x s)⟩ := rfl
  have hend : kW x s = i → OW x s = ⟨if i = s.size then .exit 0 else .ret, [.any, .any, .any, .any, .any, .any], HF x s (decide (¬ i = s.size)) i⟩ := fun e => by rw [hsame, e]
  have hzi : (wx x s i).left = 0 → i < s.size → kW x s = i := fun h0 h => by
    rw [h0] at zl
    unfold kW
    unfold kW at hi
    by_cases hx : x.left < 0
    · rw [if_pos hx] at zl; omega
    · rw [if_neg hx] at zl
      rw [if_neg hx]; omega
  have hnz : ¬ (wx x s i).left = 0 → i < s.size → i + 1 ≤ kW x s := fun h0 h => by
    unfold kW at hi ⊢
    by_cases hx : x.left < 0
    · rw [if_pos hx]; omega
    · rw [if_neg hx] at zl hi ⊢
      omega
  have hl9 : (wx x s i).left ≤ 9223372036854775807 := by
    by_cases hx : x.left < 0
    · rw [if_pos hx] at zl; omega
    · rw [if_neg hx] at zl; omega
  clear zl
  have hm : i + 1 ≤ kW x s → kW x s - (i + 1) < kW x s - i := fun h => by omega
  cases i with
  | zero =>
    rw [wx_zero] at zn hs1 hzi hnz hl9
    refine .of (noLoops (by kernel_rfl)) (roundW x s) ?_
    have hf := funext (app_fun0 s x)
    have r1 : roomOk 1 (x.n + 1) = true := room' (by omega)
    have hstep : ∀ l', l' = dec x.left → LeH [some (Blk.row [.v (.int .i64 1048576), .v (.int .i64 x.fi), .v (.int .i64 x.fa), .hs 3 0 (x.n + 1), .v (.int .i64 l'), .v (.bool false)]), none, some (.arr 1 s.size (bsF s)), some (.arr 1 (x.n + 1) (bF (step1 s x 0).g))] (wb3 (wx x s (0 + 1)) false s) := fun l' e => by
      rw [hs1, e]; exact LeH.refl _
    rcases Nat.lt_or_ge 0 s.size with h | h
    · simp only [hf, e1, r1]
      by_cases h0 : x.left = 0
      · have hke := hzi h0 h
        rw [hend hke, if_neg (Nat.ne_of_lt h), decide_eq_true (Nat.ne_of_lt h)]
        have d1 : decide (((0 : Nat) : Int) < (s.size : Int)) = true := decide_eq_true (by omega)
        have d2 : decide (0 ≤ ((0 : Nat) : Int)) = true := decide_eq_true (by omega)
        have d3 : decide (x.left = 0) = true := decide_eq_true h0
        rw [d1, d3]
        refine ⟨fun _ => ⟨rfl, fun _ => ⟨fun _ => ⟨rfl, ⟨.any _, .any _, .any _, .any _, .any _, .any _, trivial⟩, LeH.refl _⟩, fun h => by simp at h⟩, fun h => by simp at h⟩, fun h => by simp at h⟩
      · have hik := hnz h0 h
        have hm := hm hik
        by_cases h1 : 0 < x.left
        · have w2 : IntKind.i64.wrap (x.left - 1) = x.left - 1 := wrapM (by omega) (by omega)
          simp only [w2]
          have hst := hstep _ (dec_pos h1).symm
          repeat' (first | refine wC (by first | omega | (simp only [W1, cond_true, cond_false]; first | done | omega)) ?_ | refine wT (by first | omega | (simp only [W1, cond_true, cond_false]; first | done | omega)) ?_ | refine wF (by intro _h; first | omega | (simp only [W1, cond_true, cond_false] at _h; first | done | omega)) ?_ | (refine wS ?_ ?_ <;> intro _h <;> simp only [W1, cond_true, cond_false] at _h))
          all_goals simp only [or_true, true_or, false_or, or_false, and_false, false_and, cond_true, cond_false, Bool.not_true, Bool.not_false, Bool.false_eq_true, Bool.true_eq_false, not_true_eq_false, not_false_eq_true, false_implies, true_implies, implies_true, Nat.blt_eq, owesN, owesX, owesR, notT, sat_brT, sat_brF, sat_chkT, cl_iff, cl_false, AV.le_refl, AV.le_any, OLe_refl, OLe_none, sat_brN, Tree.sat_chk, Tree.sat_leaf, Tree.sat_fail, Nat.zero_add, Nat.sub_zero, Int.toNat_natCast, LeH_cons, LeH_nil, LeL_cons, LeL_nil, and_true, true_and, Bool.and_eq_true, Bool.or_eq_true, decide_eq_true_eq, decide_eq_false_iff_not, Bool.cond_true_left, Bool.cond_false_right, List.cons_append, List.nil_append, List.map_cons, List.map_nil]
          repeat' (first | apply And.intro | intro _hc)
          all_goals first | exact ⟨0 + 1, .refl _, hst, hik, rfl, hm⟩ | exact ⟨0 + 1, .refl _, hst, hik, hm⟩ | exact AV.le_refl _ | exact AV.le_any _ | exact OLe.refl _ | exact OLe.none _ | exact LeH.refl _ | exact LeL.refl _ | exact AV.le.bs _ | exact AV.le.sb _ | omega | contradiction
        · have hst := hstep _ (dec_neg h1).symm
          repeat' (first | refine wC (by first | omega | (simp only [W1, cond_true, cond_false]; first | done | omega)) ?_ | refine wT (by first | omega | (simp only [W1, cond_true, cond_false]; first | done | omega)) ?_ | refine wF (by intro _h; first | omega | (simp only [W1, cond_true, cond_false] at _h; first | done | omega)) ?_ | (refine wS ?_ ?_ <;> intro _h <;> simp only [W1, cond_true, cond_false] at _h))
          all_goals simp only [or_true, true_or, false_or, or_false, and_false, false_and, cond_true, cond_false, Bool.not_true, Bool.not_false, Bool.false_eq_true, Bool.true_eq_false, not_true_eq_false, not_false_eq_true, false_implies, true_implies, implies_true, Nat.blt_eq, owesN, owesX, owesR, notT, sat_brT, sat_brF, sat_chkT, cl_iff, cl_false, AV.le_refl, AV.le_any, OLe_refl, OLe_none, sat_brN, Tree.sat_chk, Tree.sat_leaf, Tree.sat_fail, Nat.zero_add, Nat.sub_zero, Int.toNat_natCast, LeH_cons, LeH_nil, LeL_cons, LeL_nil, and_true, true_and, Bool.and_eq_true, Bool.or_eq_true, decide_eq_true_eq, decide_eq_false_iff_not, Bool.cond_true_left, Bool.cond_false_right, List.cons_append, List.nil_append, List.map_cons, List.map_nil]
          repeat' (first | apply And.intro | intro _hc)
          all_goals first | exact ⟨0 + 1, .refl _, hst, hik, rfl, hm⟩ | exact ⟨0 + 1, .refl _, hst, hik, hm⟩ | exact AV.le_refl _ | exact AV.le_any _ | exact OLe.refl _ | exact OLe.none _ | exact LeH.refl _ | exact LeL.refl _ | exact AV.le.bs _ | exact AV.le.sb _ | omega | contradiction
    · have hie : 0 = s.size := by omega
      have hke : kW x s = 0 := by omega
      rw [hend hke, if_pos hie, decide_eq_false (fun q => q hie)]
      have d1 : decide (((0 : Nat) : Int) < (s.size : Int)) = false := decide_eq_false (by omega)
      rw [d1]
      refine ⟨fun h => by simp at h, fun _ => ⟨rfl, ⟨.any _, .any _, .any _, .any _, .any _, .any _, trivial⟩, LeH.refl _⟩⟩
  | succ i =>
    refine .of (noLoops (by kernel_rfl)) (roundW3 (wx x s (i + 1)) s (i + 1)) ?_
    have hlast : HF x s false (i + 1) = wb3 (wx x s (i + 1)) false s := rfl
    have hend := hend
    have hHF : ∀ off, HF x s off (i + 1) = wb3 (wx x s (i + 1)) off s := fun _ => rfl
    simp only [hHF] at hend
    generalize wx x s (i + 1) = y at *
    have hf := funext (app_fun s y (i + 1))
    have r1 : roomOk 1 (y.n + 1) = true := by rw [zn]; exact room' (by omega)
    have hstep : ∀ l', l' = dec y.left → LeH [some (Blk.row [.v (.int .i64 1048576), .v (.int .i64 y.fi), .v (.int .i64 y.fa), .hs 3 0 (y.n + 1), .v (.int .i64 l'), .v (.bool false)]), none, some (.arr 1 s.size (bsF s)), some (.arr 1 (y.n + 1) (bF (step1 s y (i + 1)).g))] (wb3 (wx x s (i + 1 + 1)) false s) := fun l' e => by
      rw [hs1, e]; exact LeH.refl _
    rcases Nat.lt_or_ge (i + 1) s.size with h | h
    · simp only [hf, e1, r1]
      by_cases h0 : y.left = 0
      · have hke := hzi h0 h
        rw [hend hke, if_neg (Nat.ne_of_lt h), decide_eq_true (Nat.ne_of_lt h)]
        have d1 : decide (((i + 1 : Nat) : Int) < (s.size : Int)) = true := decide_eq_true (by omega)
        have d2 : decide (0 ≤ ((i + 1 : Nat) : Int)) = true := decide_eq_true (by omega)
        have d3 : decide (y.left = 0) = true := decide_eq_true h0
        rw [d1, d2, d3]
        refine ⟨fun _ => ⟨rfl, fun _ => ⟨fun _ => ⟨rfl, ⟨.any _, .any _, .any _, .any _, .any _, .any _, trivial⟩, LeH.refl _⟩, fun h => by simp at h⟩, fun h => by simp at h⟩, fun h => by simp at h⟩
      · have hik := hnz h0 h
        have hm := hm hik
        by_cases h1 : 0 < y.left
        · have w2 : IntKind.i64.wrap (y.left - 1) = y.left - 1 := wrapM (by omega) (by omega)
          simp only [w2]
          have hst := hstep _ (dec_pos h1).symm
          repeat' (first | refine wC (by first | omega | (simp only [W1, cond_true, cond_false]; first | done | omega)) ?_ | refine wT (by first | omega | (simp only [W1, cond_true, cond_false]; first | done | omega)) ?_ | refine wF (by intro _h; first | omega | (simp only [W1, cond_true, cond_false] at _h; first | done | omega)) ?_ | (refine wS ?_ ?_ <;> intro _h <;> simp only [W1, cond_true, cond_false] at _h))
          all_goals simp only [or_true, true_or, false_or, or_false, and_false, false_and, cond_true, cond_false, Bool.not_true, Bool.not_false, Bool.false_eq_true, Bool.true_eq_false, not_true_eq_false, not_false_eq_true, false_implies, true_implies, implies_true, Nat.blt_eq, owesN, owesX, owesR, notT, sat_brT, sat_brF, sat_chkT, cl_iff, cl_false, AV.le_refl, AV.le_any, OLe_refl, OLe_none, sat_brN, Tree.sat_chk, Tree.sat_leaf, Tree.sat_fail, Nat.zero_add, Nat.sub_zero, Int.toNat_natCast, LeH_cons, LeH_nil, LeL_cons, LeL_nil, and_true, true_and, Bool.and_eq_true, Bool.or_eq_true, decide_eq_true_eq, decide_eq_false_iff_not, Bool.cond_true_left, Bool.cond_false_right, List.cons_append, List.nil_append, List.map_cons, List.map_nil]
          repeat' (first | apply And.intro | intro _hc)
          all_goals first | exact ⟨i + 1 + 1, .refl _, hst, hik, rfl, hm⟩ | exact ⟨i + 1 + 1, .refl _, hst, hik, hm⟩ | exact AV.le_refl _ | exact AV.le_any _ | exact OLe.refl _ | exact OLe.none _ | exact LeH.refl _ | exact LeL.refl _ | exact AV.le.bs _ | exact AV.le.sb _ | omega | contradiction
        · have hst := hstep _ (dec_neg h1).symm
          repeat' (first | refine wC (by first | omega | (simp only [W1, cond_true, cond_false]; first | done | omega)) ?_ | refine wT (by first | omega | (simp only [W1, cond_true, cond_false]; first | done | omega)) ?_ | refine wF (by intro _h; first | omega | (simp only [W1, cond_true, cond_false] at _h; first | done | omega)) ?_ | (refine wS ?_ ?_ <;> intro _h <;> simp only [W1, cond_true, cond_false] at _h))
          all_goals simp only [or_true, true_or, false_or, or_false, and_false, false_and, cond_true, cond_false, Bool.not_true, Bool.not_false, Bool.false_eq_true, Bool.true_eq_false, not_true_eq_false, not_false_eq_true, false_implies, true_implies, implies_true, Nat.blt_eq, owesN, owesX, owesR, notT, sat_brT, sat_brF, sat_chkT, cl_iff, cl_false, AV.le_refl, AV.le_any, OLe_refl, OLe_none, sat_brN, Tree.sat_chk, Tree.sat_leaf, Tree.sat_fail, Nat.zero_add, Nat.sub_zero, Int.toNat_natCast, LeH_cons, LeH_nil, LeL_cons, LeL_nil, and_true, true_and, Bool.and_eq_true, Bool.or_eq_true, decide_eq_true_eq, decide_eq_false_iff_not, Bool.cond_true_left, Bool.cond_false_right, List.cons_append, List.nil_append, List.map_cons, List.map_nil]
          repeat' (first | apply And.intro | intro _hc)
          all_goals first | exact ⟨i + 1 + 1, .refl _, hst, hik, rfl, hm⟩ | exact ⟨i + 1 + 1, .refl _, hst, hik, hm⟩ | exact AV.le_refl _ | exact AV.le_any _ | exact OLe.refl _ | exact OLe.none _ | exact LeH.refl _ | exact LeL.refl _ | exact AV.le.bs _ | exact AV.le.sb _ | omega | contradiction
    · have hie : i + 1 = s.size := by omega
      have hke : kW x s = i + 1 := by omega
      rw [hend hke, if_pos hie, decide_eq_false (fun q => q hie)]
      have d1 : decide (((i + 1 : Nat) : Int) < (s.size : Int)) = false := decide_eq_false (by omega)
      rw [d1]
      refine ⟨fun h => by simp at h, fun _ => ⟨rfl, ⟨.any _, .any _, .any _, .any _, .any _, .any _, trivial⟩, LeH.refl _⟩⟩
end Go.Eng.SB.T

namespace Go.Eng.SB.T
open Go Go.Eng Go.Eng.SB Go.Lib Go.Proofs
@[reducible] def S0 (x : Tp) (s : ByteArray) : List AV × Heap := ([.ptr 0 0, .any, .fn 118 [.ptr 0 0] [], .hs 2 0 s.size, .v (.int .i64 (s.size : Int)), .v (.int .i64 0)], (wbl x false s).map some)
theorem runW1 (x : Tp) (s : ByteArray) : bodyE (P := Try.prog) (Γ := Γb) [k78] Lno false 52 [.tmp 4] (bodyOf Try.f73) [.ptr 0 0, .hs 2 0 s.size] (wbl x true s) =
  Tree.br true (Tree.leaf (Ans.mk (AV.v (Value.int IntKind.i64 (170 : Int))) [some (Blk.row [AV.v (Value.int IntKind.i64 (1048576 : Int)), AV.v (Value.int IntKind.i64 x.fi), AV.v (Value.int
    IntKind.i64 x.fa), AV.hs (1 : Nat) x.o x.n, AV.v (Value.int IntKind.i64 x.left), AV.v (Value.bool true)]), some (Blk.arr (1 : Nat) x.N fun j => [AV.v (Value.int IntKind.u8 (x.g j))]),
    some (Blk.arr (1 : Nat) (ByteArray.size s) (bsF s))])) (Tree.br (decide (IntKind.wrap IntKind.i64 ((1048576 : Int) - (↑x.n : Int)) < (↑(ByteArray.size s) : Int))) (Tree.leaf (Ans.mk
    (AV.v (Value.int IntKind.i64 (171 : Int))) [some (Blk.row [AV.v (Value.int IntKind.i64 (1048576 : Int)), AV.v (Value.int IntKind.i64 x.fi), AV.v (Value.int IntKind.i64 x.fa), AV.hs (1 :
    Nat) x.o x.n, AV.v (Value.int IntKind.i64 x.left), AV.v (Value.bool true)]), some (Blk.arr (1 : Nat) x.N fun j => [AV.v (Value.int IntKind.u8 (x.g j))]), some (Blk.arr (1 : Nat)
    (ByteArray.size s) (bsF s))])) Tree.fail) := by kernel_rfl
theorem runWn (x : Tp) (s : ByteArray) : bodyE (P := Try.prog) (Γ := Γb) [k78] Lno false 52 [.tmp 4] (bodyOf Try.f73) [.ptr 0 0, .hs 2 0 s.size] (wbl x false s) =
  Tree.br false (Tree.leaf (Ans.mk (AV.v (Value.int IntKind.i64 (0 : Int))) [some (Blk.row [AV.v (Value.int IntKind.i64 (1048576 : Int)), AV.v (Value.int IntKind.i64 x.fi), AV.v (Value.int
    IntKind.i64 x.fa), AV.hs (1 : Nat) x.o x.n, AV.v (Value.int IntKind.i64 x.left), AV.v (Value.bool false)]), some (Blk.arr (1 : Nat) x.N fun j => [AV.v (Value.int IntKind.u8 (x.g j))]),
    some (Blk.arr (1 : Nat) (ByteArray.size s) (bsF s))])) (Tree.br (decide (IntKind.wrap IntKind.i64 ((1048576 : Int) - (↑x.n : Int)) < (↑(ByteArray.size s) : Int))) (Tree.leaf (Ans.mk
    (AV.v (Value.int IntKind.i64 (171 : Int))) [some (Blk.row [AV.v (Value.int IntKind.i64 (1048576 : Int)), AV.v (Value.int IntKind.i64 x.fi), AV.v (Value.int IntKind.i64 x.fa), AV.hs (1 :
    Nat) x.o x.n, AV.v (Value.int IntKind.i64 x.left), AV.v (Value.bool false)]), some (Blk.arr (1 : Nat) x.N fun j => [AV.v (Value.int IntKind.u8 (x.g j))]), some (Blk.arr (1 : Nat)
    (ByteArray.size s) (bsF s))])) Tree.fail) := by kernel_rfl
theorem runWe0 (x : Tp) (s : ByteArray) : bodyE (P := Try.prog) (Γ := Γb) [k78] (fun _ => LSpec.at [0, 4, 6, 30, 31, 32] [] (S0 x s) ⟨.exit 0, [.any, .any, .any, .any, .any, .any], (wbl x false s).map some⟩) false 52 [.tmp 4] (bodyOf Try.f73) [.ptr 0 0, .hs 2 0 s.size] (wbl x false s) =
  Tree.br false (Tree.leaf (Ans.mk (AV.v (Value.int IntKind.i64 (0 : Int))) [some (Blk.row [AV.v (Value.int IntKind.i64 (1048576 : Int)), AV.v (Value.int IntKind.i64 x.fi), AV.v (Value.int
    IntKind.i64 x.fa), AV.hs (1 : Nat) x.o x.n, AV.v (Value.int IntKind.i64 x.left), AV.v (Value.bool false)]), some (Blk.arr (1 : Nat) x.N fun j => [AV.v (Value.int IntKind.u8 (x.g j))]),
    some (Blk.arr (1 : Nat) (ByteArray.size s) (bsF s))])) (Tree.br (decide (IntKind.wrap IntKind.i64 ((1048576 : Int) - (↑x.n : Int)) < (↑(ByteArray.size s) : Int))) (Tree.leaf (Ans.mk
    (AV.v (Value.int IntKind.i64 (171 : Int))) [some (Blk.row [AV.v (Value.int IntKind.i64 (1048576 : Int)), AV.v (Value.int IntKind.i64 x.fi), AV.v (Value.int IntKind.i64 x.fa), AV.hs (1 :
    Nat) x.o x.n, AV.v (Value.int IntKind.i64 x.left), AV.v (Value.bool false)]), some (Blk.arr (1 : Nat) x.N fun j => [AV.v (Value.int IntKind.u8 (x.g j))]), some (Blk.arr (1 : Nat)
    (ByteArray.size s) (bsF s))])) (Tree.chk (cl (LeL [AV.ptr (0 : Nat) (0 : Nat), AV.v (Value.int IntKind.i64 (0 : Int)), AV.fn (118 : Nat) [AV.ptr (0 : Nat) (0 : Nat)] [], AV.hs (2 : Nat)
    (0 : Nat) (ByteArray.size s), AV.v (Value.int IntKind.i64 (↑(ByteArray.size s) : Int)), AV.v (Value.int IntKind.i64 (0 : Int))] [AV.ptr (0 : Nat) (0 : Nat), AV.any, AV.fn (118 : FuncId)
    [AV.ptr (0 : Nat) (0 : Nat)] [], AV.hs (2 : Nat) (0 : Nat) (ByteArray.size s), AV.v (Value.int IntKind.i64 (↑(ByteArray.size s) : Int)), AV.v (Value.int IntKind.i64 (0 : Int))] ∧ LeH
    [some (Blk.row [AV.v (Value.int IntKind.i64 (1048576 : Int)), AV.v (Value.int IntKind.i64 x.fi), AV.v (Value.int IntKind.i64 x.fa), AV.hs (1 : Nat) x.o x.n, AV.v (Value.int IntKind.i64
    x.left), AV.v (Value.bool false)]), some (Blk.arr (1 : Nat) x.N fun j => [AV.v (Value.int IntKind.u8 (x.g j))]), some (Blk.arr (1 : Nat) (ByteArray.size s) (bsF s))] [some (Blk.row [AV.v
    (Value.int IntKind.i64 (1048576 : Int)), AV.v (Value.int IntKind.i64 x.fi), AV.v (Value.int IntKind.i64 x.fa), AV.hs (1 : Nat) x.o x.n, AV.v (Value.int IntKind.i64 x.left), AV.v
    (Value.bool false)]), some (Blk.arr (1 : Nat) x.N fun j => [AV.v (Value.int IntKind.u8 (x.g j))]), some (Blk.arr (1 : Nat) (ByteArray.size s) (bsF s))])) (Tree.leaf (Ans.mk (AV.v
    (Value.int IntKind.i64 (0 : Int))) [some (Blk.row [AV.v (Value.int IntKind.i64 (1048576 : Int)), AV.v (Value.int IntKind.i64 x.fi), AV.v (Value.int IntKind.i64 x.fa), AV.hs (1 : Nat) x.o
    x.n, AV.v (Value.int IntKind.i64 x.left), AV.v (Value.bool false)]), some (Blk.arr (1 : Nat) x.N fun j => [AV.v (Value.int IntKind.u8 (x.g j))]), some (Blk.arr (1 : Nat) (ByteArray.size
    s) (bsF s))])))) := by kernel_rfl
theorem runWr0 (x : Tp) (s : ByteArray) : bodyE (P := Try.prog) (Γ := Γb) [k78] (fun _ => LSpec.at [0, 4, 6, 30, 31, 32] [] (S0 x s) ⟨.ret, [.any, .any, .any, .any, .any, .any], (wbl x true s).map some⟩) false 52 [.tmp 4] (bodyOf Try.f73) [.ptr 0 0, .hs 2 0 s.size] (wbl x false s) =
  Tree.br false (Tree.leaf (Ans.mk (AV.v (Value.int IntKind.i64 (0 : Int))) [some (Blk.row [AV.v (Value.int IntKind.i64 (1048576 : Int)), AV.v (Value.int IntKind.i64 x.fi), AV.v (Value.int
    IntKind.i64 x.fa), AV.hs (1 : Nat) x.o x.n, AV.v (Value.int IntKind.i64 x.left), AV.v (Value.bool false)]), some (Blk.arr (1 : Nat) x.N fun j => [AV.v (Value.int IntKind.u8 (x.g j))]),
    some (Blk.arr (1 : Nat) (ByteArray.size s) (bsF s))])) (Tree.br (decide (IntKind.wrap IntKind.i64 ((1048576 : Int) - (↑x.n : Int)) < (↑(ByteArray.size s) : Int))) (Tree.leaf (Ans.mk
    (AV.v (Value.int IntKind.i64 (171 : Int))) [some (Blk.row [AV.v (Value.int IntKind.i64 (1048576 : Int)), AV.v (Value.int IntKind.i64 x.fi), AV.v (Value.int IntKind.i64 x.fa), AV.hs (1 :
    Nat) x.o x.n, AV.v (Value.int IntKind.i64 x.left), AV.v (Value.bool false)]), some (Blk.arr (1 : Nat) x.N fun j => [AV.v (Value.int IntKind.u8 (x.g j))]), some (Blk.arr (1 : Nat)
    (ByteArray.size s) (bsF s))])) (Tree.chk (cl (LeL [AV.ptr (0 : Nat) (0 : Nat), AV.v (Value.int IntKind.i64 (0 : Int)), AV.fn (118 : Nat) [AV.ptr (0 : Nat) (0 : Nat)] [], AV.hs (2 : Nat)
    (0 : Nat) (ByteArray.size s), AV.v (Value.int IntKind.i64 (↑(ByteArray.size s) : Int)), AV.v (Value.int IntKind.i64 (0 : Int))] [AV.ptr (0 : Nat) (0 : Nat), AV.any, AV.fn (118 : FuncId)
    [AV.ptr (0 : Nat) (0 : Nat)] [], AV.hs (2 : Nat) (0 : Nat) (ByteArray.size s), AV.v (Value.int IntKind.i64 (↑(ByteArray.size s) : Int)), AV.v (Value.int IntKind.i64 (0 : Int))] ∧ LeH
    [some (Blk.row [AV.v (Value.int IntKind.i64 (1048576 : Int)), AV.v (Value.int IntKind.i64 x.fi), AV.v (Value.int IntKind.i64 x.fa), AV.hs (1 : Nat) x.o x.n, AV.v (Value.int IntKind.i64
    x.left), AV.v (Value.bool false)]), some (Blk.arr (1 : Nat) x.N fun j => [AV.v (Value.int IntKind.u8 (x.g j))]), some (Blk.arr (1 : Nat) (ByteArray.size s) (bsF s))] [some (Blk.row [AV.v
    (Value.int IntKind.i64 (1048576 : Int)), AV.v (Value.int IntKind.i64 x.fi), AV.v (Value.int IntKind.i64 x.fa), AV.hs (1 : Nat) x.o x.n, AV.v (Value.int IntKind.i64 x.left), AV.v
    (Value.bool false)]), some (Blk.arr (1 : Nat) x.N fun j => [AV.v (Value.int IntKind.u8 (x.g j))]), some (Blk.arr (1 : Nat) (ByteArray.size s) (bsF s))])) (Tree.leaf (Ans.mk AV.any [some
    (Blk.row [AV.v (Value.int IntKind.i64 (1048576 : Int)), AV.v (Value.int IntKind.i64 x.fi), AV.v (Value.int IntKind.i64 x.fa), AV.hs (1 : Nat) x.o x.n, AV.v (Value.int IntKind.i64
    x.left), AV.v (Value.bool true)]), some (Blk.arr (1 : Nat) x.N fun j => [AV.v (Value.int IntKind.u8 (x.g j))]), some (Blk.arr (1 : Nat) (ByteArray.size s) (bsF s))])))) := by kernel_rfl
theorem runWe3 (x z : Tp) (s : ByteArray) : bodyE (P := Try.prog) (Γ := Γb) [k78] (fun _ => LSpec.at [0, 4, 6, 30, 31, 32] [] (S0 x s) ⟨.exit 0, [.any, .any, .any, .any, .any, .any], wb3 z false s⟩) false 52 [.tmp 4] (bodyOf Try.f73) [.ptr 0 0, .hs 2 0 s.size] (wbl x false s) =
  Tree.br false (Tree.leaf (Ans.mk (AV.v (Value.int IntKind.i64 (0 : Int))) [some (Blk.row [AV.v (Value.int IntKind.i64 (1048576 : Int)), AV.v (Value.int IntKind.i64 x.fi), AV.v (Value.int
    IntKind.i64 x.fa), AV.hs (1 : Nat) x.o x.n, AV.v (Value.int IntKind.i64 x.left), AV.v (Value.bool false)]), some (Blk.arr (1 : Nat) x.N fun j => [AV.v (Value.int IntKind.u8 (x.g j))]),
    some (Blk.arr (1 : Nat) (ByteArray.size s) (bsF s))])) (Tree.br (decide (IntKind.wrap IntKind.i64 ((1048576 : Int) - (↑x.n : Int)) < (↑(ByteArray.size s) : Int))) (Tree.leaf (Ans.mk
    (AV.v (Value.int IntKind.i64 (171 : Int))) [some (Blk.row [AV.v (Value.int IntKind.i64 (1048576 : Int)), AV.v (Value.int IntKind.i64 x.fi), AV.v (Value.int IntKind.i64 x.fa), AV.hs (1 :
    Nat) x.o x.n, AV.v (Value.int IntKind.i64 x.left), AV.v (Value.bool false)]), some (Blk.arr (1 : Nat) x.N fun j => [AV.v (Value.int IntKind.u8 (x.g j))]), some (Blk.arr (1 : Nat)
    (ByteArray.size s) (bsF s))])) (Tree.chk (cl (LeL [AV.ptr (0 : Nat) (0 : Nat), AV.v (Value.int IntKind.i64 (0 : Int)), AV.fn (118 : Nat) [AV.ptr (0 : Nat) (0 : Nat)] [], AV.hs (2 : Nat)
    (0 : Nat) (ByteArray.size s), AV.v (Value.int IntKind.i64 (↑(ByteArray.size s) : Int)), AV.v (Value.int IntKind.i64 (0 : Int))] [AV.ptr (0 : Nat) (0 : Nat), AV.any, AV.fn (118 : FuncId)
    [AV.ptr (0 : Nat) (0 : Nat)] [], AV.hs (2 : Nat) (0 : Nat) (ByteArray.size s), AV.v (Value.int IntKind.i64 (↑(ByteArray.size s) : Int)), AV.v (Value.int IntKind.i64 (0 : Int))] ∧ LeH
    [some (Blk.row [AV.v (Value.int IntKind.i64 (1048576 : Int)), AV.v (Value.int IntKind.i64 x.fi), AV.v (Value.int IntKind.i64 x.fa), AV.hs (1 : Nat) x.o x.n, AV.v (Value.int IntKind.i64
    x.left), AV.v (Value.bool false)]), some (Blk.arr (1 : Nat) x.N fun j => [AV.v (Value.int IntKind.u8 (x.g j))]), some (Blk.arr (1 : Nat) (ByteArray.size s) (bsF s))] [some (Blk.row [AV.v
    (Value.int IntKind.i64 (1048576 : Int)), AV.v (Value.int IntKind.i64 x.fi), AV.v (Value.int IntKind.i64 x.fa), AV.hs (1 : Nat) x.o x.n, AV.v (Value.int IntKind.i64 x.left), AV.v
    (Value.bool false)]), some (Blk.arr (1 : Nat) x.N fun j => [AV.v (Value.int IntKind.u8 (x.g j))]), some (Blk.arr (1 : Nat) (ByteArray.size s) (bsF s))])) (Tree.leaf (Ans.mk (AV.v
    (Value.int IntKind.i64 (0 : Int))) [some (Blk.row [AV.v (Value.int IntKind.i64 (1048576 : Int)), AV.v (Value.int IntKind.i64 z.fi), AV.v (Value.int IntKind.i64 z.fa), AV.hs (3 : Nat) z.o
    z.n, AV.v (Value.int IntKind.i64 z.left), AV.v (Value.bool false)]), none, some (Blk.arr (1 : Nat) (ByteArray.size s) (bsF s)), some (Blk.arr (1 : Nat) z.N fun j => [AV.v (Value.int
    IntKind.u8 (z.g j))])])))) := by kernel_rfl
theorem runWr3 (x z : Tp) (s : ByteArray) : bodyE (P := Try.prog) (Γ := Γb) [k78] (fun _ => LSpec.at [0, 4, 6, 30, 31, 32] [] (S0 x s) ⟨.ret, [.any, .any, .any, .any, .any, .any], wb3 z true s⟩) false 52 [.tmp 4] (bodyOf Try.f73) [.ptr 0 0, .hs 2 0 s.size] (wbl x false s) =
  Tree.br false (Tree.leaf (Ans.mk (AV.v (Value.int IntKind.i64 (0 : Int))) [some (Blk.row [AV.v (Value.int IntKind.i64 (1048576 : Int)), AV.v (Value.int IntKind.i64 x.fi), AV.v (Value.int
    IntKind.i64 x.fa), AV.hs (1 : Nat) x.o x.n, AV.v (Value.int IntKind.i64 x.left), AV.v (Value.bool false)]), some (Blk.arr (1 : Nat) x.N fun j => [AV.v (Value.int IntKind.u8 (x.g j))]),
    some (Blk.arr (1 : Nat) (ByteArray.size s) (bsF s))])) (Tree.br (decide (IntKind.wrap IntKind.i64 ((1048576 : Int) - (↑x.n : Int)) < (↑(ByteArray.size s) : Int))) (Tree.leaf (Ans.mk
    (AV.v (Value.int IntKind.i64 (171 : Int))) [some (Blk.row [AV.v (Value.int IntKind.i64 (1048576 : Int)), AV.v (Value.int IntKind.i64 x.fi), AV.v (Value.int IntKind.i64 x.fa), AV.hs (1 :
    Nat) x.o x.n, AV.v (Value.int IntKind.i64 x.left), AV.v (Value.bool false)]), some (Blk.arr (1 : Nat) x.N fun j => [AV.v (Value.int IntKind.u8 (x.g j))]), some (Blk.arr (1 : Nat)
    (ByteArray.size s) (bsF s))])) (Tree.chk (cl (LeL [AV.ptr (0 : Nat) (0 : Nat), AV.v (Value.int IntKind.i64 (0 : Int)), AV.fn (118 : Nat) [AV.ptr (0 : Nat) (0 : Nat)] [], AV.hs (2 : Nat)
    (0 : Nat) (ByteArray.size s), AV.v (Value.int IntKind.i64 (↑(ByteArray.size s) : Int)), AV.v (Value.int IntKind.i64 (0 : Int))] [AV.ptr (0 : Nat) (0 : Nat), AV.any, AV.fn (118 : FuncId)
    [AV.ptr (0 : Nat) (0 : Nat)] [], AV.hs (2 : Nat) (0 : Nat) (ByteArray.size s), AV.v (Value.int IntKind.i64 (↑(ByteArray.size s) : Int)), AV.v (Value.int IntKind.i64 (0 : Int))] ∧ LeH
    [some (Blk.row [AV.v (Value.int IntKind.i64 (1048576 : Int)), AV.v (Value.int IntKind.i64 x.fi), AV.v (Value.int IntKind.i64 x.fa), AV.hs (1 : Nat) x.o x.n, AV.v (Value.int IntKind.i64
    x.left), AV.v (Value.bool false)]), some (Blk.arr (1 : Nat) x.N fun j => [AV.v (Value.int IntKind.u8 (x.g j))]), some (Blk.arr (1 : Nat) (ByteArray.size s) (bsF s))] [some (Blk.row [AV.v
    (Value.int IntKind.i64 (1048576 : Int)), AV.v (Value.int IntKind.i64 x.fi), AV.v (Value.int IntKind.i64 x.fa), AV.hs (1 : Nat) x.o x.n, AV.v (Value.int IntKind.i64 x.left), AV.v
    (Value.bool false)]), some (Blk.arr (1 : Nat) x.N fun j => [AV.v (Value.int IntKind.u8 (x.g j))]), some (Blk.arr (1 : Nat) (ByteArray.size s) (bsF s))])) (Tree.leaf (Ans.mk AV.any [some
    (Blk.row [AV.v (Value.int IntKind.i64 (1048576 : Int)), AV.v (Value.int IntKind.i64 z.fi), AV.v (Value.int IntKind.i64 z.fa), AV.hs (3 : Nat) z.o z.n, AV.v (Value.int IntKind.i64
    z.left), AV.v (Value.bool true)]), none, some (Blk.arr (1 : Nat) (ByteArray.size s) (bsF s)), some (Blk.arr (1 : Nat) z.N fun j => [AV.v (Value.int IntKind.u8 (z.g j))])])))) := by kernel_rfl
def Ta.wr (a : Ta) (s : ByteArray) : Ta := if a.off = true then a else if 1048576 - (a.x.n : Int) < (s.size : Int) then a else ⟨wx a.x s (kW a.x s), decide (¬ kW a.x s = s.size)⟩
theorem S0_eq (x : Tp) (s : ByteArray) : SW x s 0 = S0 x s := rfl
def AnsW0 (a b : Ta) (s : ByteArray) : Prop := Answers Try.prog Γb 73 [.ptr 0 0, .hs 2 0 s.size] (wbl a.x a.off s) .any ((wbl b.x b.off s).map some) []
def AnsW3 (a b : Ta) (s : ByteArray) : Prop := Answers Try.prog Γb 73 [.ptr 0 0, .hs 2 0 s.size] (wbl a.x a.off s) .any [some (.row [.v (.int .i64 1048576), .v (.int .i64 b.x.fi), .v (.int .i64 b.x.fa), .hs 3 b.x.o b.x.n, .v (.int .i64 b.x.left), .v (.bool b.off)]), none, some (.arr 1 s.size (bsF s))] [.arr 1 b.x.N (bF b.x.g)]
theorem ansW {a : Ta} {m : Nat} (hi : a.Inv m) {s : ByteArray} (hs : s.size ≤ 3000) : AnsW0 a (a.wr s) s ∨ AnsW3 a (a.wr s) s := by
  obtain ⟨l0, l1, l2, l3, l4, l5, l6, l7, l8⟩ := hi
  obtain ⟨x, off⟩ := a
  simp only at l0 l1 l2 l3 l4 l5 l6 l7 l8
  have w1 : IntKind.i64.wrap (1048576 - (x.n : Int)) = 1048576 - (x.n : Int) := wrapM (by omega) (by omega)
  cases off with
  | true =>
    have e : Ta.wr ⟨x, true⟩ s = ⟨x, true⟩ := by simp [Ta.wr]
    rw [e]
    refine .inl (answers (fn := Try.f73) (c := bodyOf Try.f73) (ntmps := 52) (results := [.tmp 4]) [k78] Lno false Try.func73 (by kernel_rfl) (by kernel_rfl) (by kernel_rfl) (by kernel_rfl) (by simp) rfl (failOK fun _ _ _ => rfl) (Meets.of (runW1 x s) ?_))
    exact ⟨fun _ => ⟨.any _, LeH.refl _⟩, fun h => by simp at h⟩
  | false =>
    have hlp := loopW_ok (x := x) (s := s) hs l8 l6 0 (Nat.zero_le _)
    rw [S0_eq] at hlp
    by_cases hr : 1048576 - (x.n : Int) < (s.size : Int)
    · have e : Ta.wr ⟨x, false⟩ s = ⟨x, false⟩ := by
        unfold Ta.wr
        rw [if_neg (by simp), if_pos hr]
      rw [e]
      refine .inl (answers (fn := Try.f73) (c := bodyOf Try.f73) (ntmps := 52) (results := [.tmp 4]) [k78] Lno false Try.func73 (by kernel_rfl) (by kernel_rfl) (by kernel_rfl) (by kernel_rfl) (by simp) rfl (failOK fun _ _ _ => rfl) (Meets.of (runWn x s) ?_))
      rw [w1, decide_eq_true hr]
      exact ⟨fun h => by simp at h, fun _ => ⟨fun _ => ⟨.any _, LeH.refl _⟩, fun h => by simp at h⟩⟩
    · have e : Ta.wr ⟨x, false⟩ s = ⟨wx x s (kW x s), decide (¬ kW x s = s.size)⟩ := by
        unfold Ta.wr
        rw [if_neg (by simp), if_neg hr]
      rw [e]
      have hO : OW x s = ⟨if kW x s = s.size then .exit 0 else .ret, [.any, .any, .any, .any, .any, .any], HF x s (decide (¬ kW x s = s.size)) (kW x s)⟩ := rfl
      rw [hO] at hlp
      generalize kW x s = k at *
      by_cases hk : k = s.size
      · rw [if_pos hk, decide_eq_false (fun q => q hk)] at hlp
        rw [decide_eq_false (fun q => q hk)]
        cases k with
        | zero =>
          rw [wx_zero]
          refine .inl (answers (fn := Try.f73) (c := bodyOf Try.f73) (ntmps := 52) (results := [.tmp 4]) [k78] (fun _ => LSpec.at [0, 4, 6, 30, 31, 32] [] (S0 x s) ⟨.exit 0, [.any, .any, .any, .any, .any, .any], (wbl x false s).map some⟩) false Try.func73 (by kernel_rfl) (by kernel_rfl) (by kernel_rfl) (by kernel_rfl) (by simp) rfl (oneLoop (b := loopW) (by kernel_rfl) hlp) (Meets.of (runWe0 x s) ?_))
          rw [w1, decide_eq_false hr]
          exact ⟨fun h => by simp at h, fun _ => ⟨fun h => by simp at h, fun _ => ⟨cl_iff.2 ⟨⟨.refl _, .any _, .refl _, .refl _, .refl _, .refl _, trivial⟩, LeH.refl _⟩, .any _, LeH.refl _⟩⟩⟩
        | succ k =>
          have hlp' : LoopOK Try.prog Γb 3 52 loopW (LSpec.at [0, 4, 6, 30, 31, 32] [] (S0 x s) ⟨.exit 0, [.any, .any, .any, .any, .any, .any], wb3 (wx x s (k + 1)) false s⟩) := hlp
          generalize wx x s (k + 1) = z at *
          refine .inr (answers (fn := Try.f73) (c := bodyOf Try.f73) (ntmps := 52) (results := [.tmp 4]) [k78] (fun _ => LSpec.at [0, 4, 6, 30, 31, 32] [] (S0 x s) ⟨.exit 0, [.any, .any, .any, .any, .any, .any], wb3 z false s⟩) false Try.func73 (by kernel_rfl) (by kernel_rfl) (by kernel_rfl) (by kernel_rfl) (by simp) rfl (oneLoop (b := loopW) (by kernel_rfl) hlp') (Meets.of (runWe3 x z s) ?_))
          rw [w1, decide_eq_false hr]
          exact ⟨fun h => by simp at h, fun _ => ⟨fun h => by simp at h, fun _ => ⟨cl_iff.2 ⟨⟨.refl _, .any _, .refl _, .refl _, .refl _, .refl _, trivial⟩, LeH.refl _⟩, .any _, LeH.refl _⟩⟩⟩
      · rw [if_neg hk, decide_eq_true hk] at hlp
        rw [decide_eq_true hk]
        cases k with
        | zero =>
          rw [wx_zero]
          refine .inl (answers (fn := Try.f73) (c := bodyOf Try.f73) (ntmps := 52) (results := [.tmp 4]) [k78] (fun _ => LSpec.at [0, 4, 6, 30, 31, 32] [] (S0 x s) ⟨.ret, [.any, .any, .any, .any, .any, .any], (wbl x true s).map some⟩) false Try.func73 (by kernel_rfl) (by kernel_rfl) (by kernel_rfl) (by kernel_rfl) (by simp) rfl (oneLoop (b := loopW) (by kernel_rfl) hlp) (Meets.of (runWr0 x s) ?_))
          rw [w1, decide_eq_false hr]
          exact ⟨fun h => by simp at h, fun _ => ⟨fun h => by simp at h, fun _ => ⟨cl_iff.2 ⟨⟨.refl _, .any _, .refl _, .refl _, .refl _, .refl _, trivial⟩, LeH.refl _⟩, .any _, LeH.refl _⟩⟩⟩
        | succ k =>
          have hlp' : LoopOK Try.prog Γb 3 52 loopW (LSpec.at [0, 4, 6, 30, 31, 32] [] (S0 x s) ⟨.ret, [.any, .any, .any, .any, .any, .any], wb3 (wx x s (k + 1)) true s⟩) := hlp
          generalize wx x s (k + 1) = z at *
          refine .inr (answers (fn := Try.f73) (c := bodyOf Try.f73) (ntmps := 52) (results := [.tmp 4]) [k78] (fun _ => LSpec.at [0, 4, 6, 30, 31, 32] [] (S0 x s) ⟨.ret, [.any, .any, .any, .any, .any, .any], wb3 z true s⟩) false Try.func73 (by kernel_rfl) (by kernel_rfl) (by kernel_rfl) (by kernel_rfl) (by simp) rfl (oneLoop (b := loopW) (by kernel_rfl) hlp') (Meets.of (runWr3 x z s) ?_))
          rw [w1, decide_eq_false hr]
          exact ⟨fun h => by simp at h, fun _ => ⟨fun h => by simp at h, fun _ => ⟨cl_iff.2 ⟨⟨.refl _, .any _, .refl _, .refl _, .refl _, .refl _, trivial⟩, LeH.refl _⟩, .any _, LeH.refl _⟩⟩⟩
end Go.Eng.SB.T

namespace Go.Eng.SB.T
open Go Go.Eng Go.Eng.SB Go.Lib Go.Proofs
theorem dec_range {l : Int} (h : -1 ≤ l) (h' : l ≤ 9223372036854775807) : -1 ≤ dec l ∧ dec l ≤ 9223372036854775807 := by
  unfold dec; split <;> omega
theorem Ta.Inv.mono {a : Ta} {m k : Nat} (h : a.Inv m) (hk : m ≤ k) : a.Inv k := ⟨h.l0, h.l1, h.l2, by have := h.l3; omega, h.l4, h.l5, h.l6, h.l7, h.l8⟩
theorem inv_hold {a : Ta} {m : Nat} (h : a.Inv m) : a.hold.Inv m := by
  obtain ⟨d1, d2⟩ := dec_range h.l5 h.l6
  unfold Ta.hold
  split
  · exact h
  · split
    · exact ⟨h.l0, h.l1, h.l2, h.l3, h.l4, h.l5, h.l6, h.l7, h.l8⟩
    · exact ⟨h.l0, by have := h.l0; show a.x.fi ≤ a.x.fi + (a.x.n : Int); omega, Int.le_refl _, h.l3, h.l4, d1, d2, h.l7, h.l8⟩
theorem inv_shed {a : Ta} {m : Nat} (h : a.Inv m) (p : Int) : (a.shed p).Inv m := by
  obtain ⟨d1, d2⟩ := dec_range h.l5 h.l6
  unfold Ta.shed
  split
  · exact h
  · split
    · exact h
    · rename_i hg
      have := h.l0; have := h.l1; have := h.l2; have := h.l3; have := h.l4; have := h.l8
      split
      · exact ⟨h.l0, h.l1, h.l2, h.l3, h.l4, h.l5, h.l6, h.l7, h.l8⟩
      · refine ⟨?_, ?_, ?_, ?_, ?_, d1, d2, h.l7, ?_⟩ <;> dsimp only <;> omega
theorem inv_back {a : Ta} {m : Nat} (h : a.Inv m) (p : Int) : (a.back p).Inv m := by
  obtain ⟨d1, d2⟩ := dec_range h.l5 h.l6
  unfold Ta.back
  split
  · exact h
  · split
    · exact h
    · rename_i hg
      have := h.l0; have := h.l1; have := h.l2; have := h.l3; have := h.l4; have := h.l8
      split
      · exact ⟨h.l0, h.l1, h.l2, h.l3, h.l4, h.l5, h.l6, h.l7, h.l8⟩
      · refine ⟨?_, ?_, ?_, ?_, ?_, d1, d2, h.l7, ?_⟩ <;> dsimp only <;> (try split) <;> omega
theorem inv_fuse {a : Ta} {m : Nat} (h : a.Inv m) {p : Int} (hp : p ≤ 9223372036854775807) : (a.fuse p).Inv m := by
  unfold Ta.fuse
  split
  · exact h
  · exact ⟨h.l0, h.l1, h.l2, h.l3, h.l4, by dsimp only; omega, hp, h.l7, h.l8⟩
theorem kept_range {a : Ta} {m : Nat} (h : a.Inv m) (p : Int) : 0 ≤ a.kept p ∧ a.kept p ≤ a.loose := by
  have := h.l2
  have hl : 0 ≤ a.loose := by unfold Ta.loose; omega
  have q1 : 0 ≤ a.kept p := Int.emod_nonneg _ (by omega)
  have q2 : a.kept p < a.loose + 1 := Int.emod_lt_of_pos _ (by omega)
  omega
theorem inv_crash {a : Ta} {m : Nat} (h : a.Inv m) (p : Int) : (a.crash p).Inv m := by
  obtain ⟨k1, k2⟩ := kept_range h p
  have hl : a.loose = a.x.fi + (a.x.n : Int) - a.x.fa := rfl
  have := h.l0; have := h.l1; have := h.l2; have := h.l3; have := h.l4; have := h.l8
  unfold Ta.crash
  generalize a.kept p = q at *
  generalize a.loose = l at *
  refine ⟨h.l0, ?_, ?_, ?_, ?_, ?_, ?_, h.l7, ?_⟩ <;> dsimp only <;> omega
theorem wx_keeps (x : Tp) (s : ByteArray) (hg : ∀ j, 0 ≤ x.g j ∧ x.g j < 256) (ho : x.o + x.n ≤ x.N) : ∀ i, (wx x s i).fi = x.fi ∧ (wx x s i).fa = x.fa ∧ (wx x s i).o + (wx x s i).n ≤ (wx x s i).N ∧ ∀ j, 0 ≤ (wx x s i).g j ∧ (wx x s i).g j < 256
  | 0 => by rw [wx_zero]; exact ⟨rfl, rfl, ho, hg⟩
  | i + 1 => by
    obtain ⟨h1, h2, h3, h4⟩ := wx_keeps x s hg ho i
    rw [wx_succ]
    refine ⟨h1, h2, by show 0 + ((wx x s i).n + 1) ≤ (wx x s i).n + 1; omega, fun j => ?_⟩
    show 0 ≤ (if j < (wx x s i).n then (wx x s i).g ((wx x s i).o + j) else if j = (wx x s i).n then sbyte s i else 0) ∧ (if j < (wx x s i).n then (wx x s i).g ((wx x s i).o + j) else if j = (wx x s i).n then sbyte s i else 0) < 256
    have hr := sbyte_range s i
    split
    · exact h4 _
    · split
      · omega
      · omega
theorem inv_wr {a : Ta} {m : Nat} (h : a.Inv m) {s : ByteArray} (hs : s.size ≤ 3000) : (a.wr s).Inv (m + 3000) := by
  have hm := h.mono (k := m + 3000) (by omega)
  unfold Ta.wr
  split
  · exact hm
  · split
    · exact hm
    · rename_i hr
      have hk : kW a.x s ≤ s.size := by unfold kW; split <;> omega
      obtain ⟨f1, f2, f3, f4⟩ := wx_keeps a.x s h.l7 h.l4 (kW a.x s)
      have f5 := wx_n a.x s (kW a.x s)
      have f6 := wx_left a.x s (kW a.x s) (Nat.le_refl _)
      have := h.l0; have := h.l1; have := h.l2; have := h.l3; have := h.l4; have := h.l5; have := h.l6; have := h.l8
      have hkl : ¬ a.x.left < 0 → (kW a.x s : Int) ≤ a.x.left := fun h0 => by unfold kW; rw [if_neg h0]; omega
      generalize wx a.x s (kW a.x s) = z at *
      refine ⟨?_, ?_, ?_, ?_, ?_, ?_, ?_, ?_, ?_⟩ <;> dsimp only
      · omega
      · omega
      · omega
      · omega
      · exact f3
      · rw [f6]; split <;> omega
      · rw [f6]; split <;> omega
      · exact f4
      · omega
end Go.Eng.SB.T

namespace Go.Eng.SB.T
open Go Go.Eng Go.Eng.SB Go.Lib Go.Proofs
noncomputable def Lz : Nat → LSpec := autoL (P := Try.prog) (Γ := Γb) true 100 [k78] false 2 52 (loopBodies (bodyOf Try.f73)) 3
theorem runWz (x : Tp) (g : Nat → List AV) : bodyE (P := Try.prog) (Γ := Γb) [k78] Lz false 52 [.tmp 4] (bodyOf Try.f73) [.ptr 0 0, .sl 1 0 g] (x.bl false) =
  Tree.br false (Tree.leaf (Ans.mk (AV.v (Value.int IntKind.i64 (0 : Int))) [some (Blk.row [AV.v (Value.int IntKind.i64 (1048576 : Int)), AV.v (Value.int IntKind.i64 x.fi), AV.v (Value.int
    IntKind.i64 x.fa), AV.hs (1 : Nat) x.o x.n, AV.v (Value.int IntKind.i64 x.left), AV.v (Value.bool false)]), some (Blk.arr (1 : Nat) x.N fun j => [AV.v (Value.int IntKind.u8 (x.g j))])]))
    (Tree.br (decide (IntKind.wrap IntKind.i64 ((1048576 : Int) - (↑x.n : Int)) < (↑(0 : Nat) : Int))) (Tree.leaf (Ans.mk (AV.v (Value.int IntKind.i64 (171 : Int))) [some (Blk.row [AV.v
    (Value.int IntKind.i64 (1048576 : Int)), AV.v (Value.int IntKind.i64 x.fi), AV.v (Value.int IntKind.i64 x.fa), AV.hs (1 : Nat) x.o x.n, AV.v (Value.int IntKind.i64 x.left), AV.v
    (Value.bool false)]), some (Blk.arr (1 : Nat) x.N fun j => [AV.v (Value.int IntKind.u8 (x.g j))])])) (Tree.leaf (Ans.mk (AV.v (Value.int IntKind.i64 (0 : Int))) [some (Blk.row [AV.v
    (Value.int IntKind.i64 (1048576 : Int)), AV.v (Value.int IntKind.i64 x.fi), AV.v (Value.int IntKind.i64 x.fa), AV.hs (1 : Nat) x.o x.n, AV.v (Value.int IntKind.i64 x.left), AV.v
    (Value.bool false)]), some (Blk.arr (1 : Nat) x.N fun j => [AV.v (Value.int IntKind.u8 (x.g j))])]))) := by kernel_rfl
theorem runWz1 (x : Tp) (g : Nat → List AV) : bodyE (P := Try.prog) (Γ := Γb) [k78] Lno false 52 [.tmp 4] (bodyOf Try.f73) [.ptr 0 0, .sl 1 0 g] (x.bl true) =
  Tree.br true (Tree.leaf (Ans.mk (AV.v (Value.int IntKind.i64 (170 : Int))) [some (Blk.row [AV.v (Value.int IntKind.i64 (1048576 : Int)), AV.v (Value.int IntKind.i64 x.fi), AV.v (Value.int
    IntKind.i64 x.fa), AV.hs (1 : Nat) x.o x.n, AV.v (Value.int IntKind.i64 x.left), AV.v (Value.bool true)]), some (Blk.arr (1 : Nat) x.N fun j => [AV.v (Value.int IntKind.u8 (x.g j))])]))
    (Tree.br (decide (IntKind.wrap IntKind.i64 ((1048576 : Int) - (↑x.n : Int)) < (↑(0 : Nat) : Int))) (Tree.leaf (Ans.mk (AV.v (Value.int IntKind.i64 (171 : Int))) [some (Blk.row [AV.v
    (Value.int IntKind.i64 (1048576 : Int)), AV.v (Value.int IntKind.i64 x.fi), AV.v (Value.int IntKind.i64 x.fa), AV.hs (1 : Nat) x.o x.n, AV.v (Value.int IntKind.i64 x.left), AV.v
    (Value.bool true)]), some (Blk.arr (1 : Nat) x.N fun j => [AV.v (Value.int IntKind.u8 (x.g j))])])) Tree.fail) := by kernel_rfl
theorem Lz_ok : ∀ (j : Nat) (b' : Code), (loopBodies (bodyOf Try.f73))[j]? = some b' → LoopOK Try.prog Γb 2 52 b' (Lz j) := autoL_ok 3
theorem ansWz {a : Ta} {m : Nat} (hi : a.Inv m) (g : Nat → List AV) : Answers Try.prog Γb 73 [.ptr 0 0, .sl 1 0 g] a.bl .any (a.bl.map some) [] := by
  have l8 := hi.l8
  obtain ⟨x, off⟩ := a
  simp only at l8
  cases off with
  | true =>
    refine answers (fn := Try.f73) (c := bodyOf Try.f73) (ntmps := 52) (results := [.tmp 4]) [k78] Lno false Try.func73 (by kernel_rfl) (by kernel_rfl) (by kernel_rfl) (by kernel_rfl) (by simp) rfl (failOK fun _ _ _ => rfl) (Meets.of (runWz1 x g) ?_)
    exact ⟨fun _ => ⟨.any _, LeH.refl _⟩, fun h => by simp at h⟩
  | false =>
    have w1 : IntKind.i64.wrap (1048576 - (x.n : Int)) = 1048576 - (x.n : Int) := wrapM (by omega) (by omega)
    refine answers (fn := Try.f73) (c := bodyOf Try.f73) (ntmps := 52) (results := [.tmp 4]) [k78] Lz false Try.func73 (by kernel_rfl) (by kernel_rfl) (by kernel_rfl) (by kernel_rfl) (by simp) rfl Lz_ok (Meets.of (runWz x g) ?_)
    rw [w1, decide_eq_false (by omega)]
    exact ⟨fun h => by simp at h, fun _ => ⟨fun h => by simp at h, fun _ => ⟨.any _, LeH.refl _⟩⟩⟩
end Go.Eng.SB.T

namespace Go.Eng.SB.T
open Go Go.Eng Go.Eng.SB Go.Lib Go.Proofs
@[reducible] def actV (k p : Int) (s : ByteArray) : AV := .agg [.v (.int .i64 k), .v (.int .i64 p), .v (.string s)]
theorem runDo1 (a b : Ta) (p : Int) (s : ByteArray) (h : Answers Try.prog Γb 74 [.ptr 0 0] a.bl .any (b.bl.map some) []) : bodyE (P := Try.prog) (Γ := Γb) [CT.at 74 h] Lno false 52 [.tmp 4] (bodyOf Try.f16) [.ptr 0 0, actV 1 p s] a.bl =
  Tree.br false (Tree.br (Nat.beq (ByteArray.size s) (0 : Nat)) Tree.fail Tree.fail) (Tree.br true (Tree.chk (cl (LeL [AV.ptr (0 : Nat) (0 : Nat)] [AV.ptr (0 : Nat) (0 : Nat)] ∧ LeH [some
    (Blk.row [AV.v (Value.int IntKind.i64 (1048576 : Int)), AV.v (Value.int IntKind.i64 a.x.fi), AV.v (Value.int IntKind.i64 a.x.fa), AV.hs (1 : Nat) a.x.o a.x.n, AV.v (Value.int IntKind.i64
    a.x.left), AV.v (Value.bool a.off)]), some (Blk.arr (1 : Nat) a.x.N fun j => [AV.v (Value.int IntKind.u8 (a.x.g j))])] [some (Blk.row [AV.v (Value.int IntKind.i64 (1048576 : Int)), AV.v
    (Value.int IntKind.i64 a.x.fi), AV.v (Value.int IntKind.i64 a.x.fa), AV.hs (1 : Nat) a.x.o a.x.n, AV.v (Value.int IntKind.i64 a.x.left), AV.v (Value.bool a.off)]), some (Blk.arr (1 :
    Nat) a.x.N fun j => [AV.v (Value.int IntKind.u8 (a.x.g j))])])) (Tree.leaf (Ans.mk AV.any [some (Blk.row [AV.v (Value.int IntKind.i64 (1048576 : Int)), AV.v (Value.int IntKind.i64
    b.x.fi), AV.v (Value.int IntKind.i64 b.x.fa), AV.hs (1 : Nat) b.x.o b.x.n, AV.v (Value.int IntKind.i64 b.x.left), AV.v (Value.bool b.off)]), some (Blk.arr (1 : Nat) b.x.N fun j => [AV.v
    (Value.int IntKind.u8 (b.x.g j))])]))) (Tree.br false Tree.fail (Tree.br false Tree.fail (Tree.br false Tree.fail (Tree.br false Tree.fail Tree.fail))))) := by kernel_rfl
theorem runDo2 (a b : Ta) (p : Int) (s : ByteArray) (h : Answers Try.prog Γb 75 [.ptr 0 0, .v (.int .i64 p)] a.bl .any (b.bl.map some) []) : bodyE (P := Try.prog) (Γ := Γb) [CT.at 75 h] Lno false 52 [.tmp 4] (bodyOf Try.f16) [.ptr 0 0, actV 2 p s] a.bl =
  Tree.br false (Tree.br (Nat.beq (ByteArray.size s) (0 : Nat)) Tree.fail Tree.fail) (Tree.br false Tree.fail (Tree.br true (Tree.chk (cl (LeL [AV.ptr (0 : Nat) (0 : Nat), AV.v (Value.int
    IntKind.i64 p)] [AV.ptr (0 : Nat) (0 : Nat), AV.v (Value.int IntKind.i64 p)] ∧ LeH [some (Blk.row [AV.v (Value.int IntKind.i64 (1048576 : Int)), AV.v (Value.int IntKind.i64 a.x.fi), AV.v
    (Value.int IntKind.i64 a.x.fa), AV.hs (1 : Nat) a.x.o a.x.n, AV.v (Value.int IntKind.i64 a.x.left), AV.v (Value.bool a.off)]), some (Blk.arr (1 : Nat) a.x.N fun j => [AV.v (Value.int
    IntKind.u8 (a.x.g j))])] [some (Blk.row [AV.v (Value.int IntKind.i64 (1048576 : Int)), AV.v (Value.int IntKind.i64 a.x.fi), AV.v (Value.int IntKind.i64 a.x.fa), AV.hs (1 : Nat) a.x.o
    a.x.n, AV.v (Value.int IntKind.i64 a.x.left), AV.v (Value.bool a.off)]), some (Blk.arr (1 : Nat) a.x.N fun j => [AV.v (Value.int IntKind.u8 (a.x.g j))])])) (Tree.leaf (Ans.mk AV.any
    [some (Blk.row [AV.v (Value.int IntKind.i64 (1048576 : Int)), AV.v (Value.int IntKind.i64 b.x.fi), AV.v (Value.int IntKind.i64 b.x.fa), AV.hs (1 : Nat) b.x.o b.x.n, AV.v (Value.int
    IntKind.i64 b.x.left), AV.v (Value.bool b.off)]), some (Blk.arr (1 : Nat) b.x.N fun j => [AV.v (Value.int IntKind.u8 (b.x.g j))])]))) (Tree.br false Tree.fail (Tree.br false Tree.fail
    (Tree.br false Tree.fail Tree.fail))))) := by kernel_rfl
theorem runDo3 (a b : Ta) (p : Int) (s : ByteArray) (h : Answers Try.prog Γb 76 [.ptr 0 0, .v (.int .i64 p)] a.bl .any (b.bl.map some) []) : bodyE (P := Try.prog) (Γ := Γb) [CT.at 76 h] Lno false 52 [.tmp 4] (bodyOf Try.f16) [.ptr 0 0, actV 3 p s] a.bl =
  Tree.br false (Tree.br (Nat.beq (ByteArray.size s) (0 : Nat)) Tree.fail Tree.fail) (Tree.br false Tree.fail (Tree.br false Tree.fail (Tree.br true (Tree.chk (cl (LeL [AV.ptr (0 : Nat) (0 :
    Nat), AV.v (Value.int IntKind.i64 p)] [AV.ptr (0 : Nat) (0 : Nat), AV.v (Value.int IntKind.i64 p)] ∧ LeH [some (Blk.row [AV.v (Value.int IntKind.i64 (1048576 : Int)), AV.v (Value.int
    IntKind.i64 a.x.fi), AV.v (Value.int IntKind.i64 a.x.fa), AV.hs (1 : Nat) a.x.o a.x.n, AV.v (Value.int IntKind.i64 a.x.left), AV.v (Value.bool a.off)]), some (Blk.arr (1 : Nat) a.x.N fun
    j => [AV.v (Value.int IntKind.u8 (a.x.g j))])] [some (Blk.row [AV.v (Value.int IntKind.i64 (1048576 : Int)), AV.v (Value.int IntKind.i64 a.x.fi), AV.v (Value.int IntKind.i64 a.x.fa),
    AV.hs (1 : Nat) a.x.o a.x.n, AV.v (Value.int IntKind.i64 a.x.left), AV.v (Value.bool a.off)]), some (Blk.arr (1 : Nat) a.x.N fun j => [AV.v (Value.int IntKind.u8 (a.x.g j))])]))
    (Tree.leaf (Ans.mk AV.any [some (Blk.row [AV.v (Value.int IntKind.i64 (1048576 : Int)), AV.v (Value.int IntKind.i64 b.x.fi), AV.v (Value.int IntKind.i64 b.x.fa), AV.hs (1 : Nat) b.x.o
    b.x.n, AV.v (Value.int IntKind.i64 b.x.left), AV.v (Value.bool b.off)]), some (Blk.arr (1 : Nat) b.x.N fun j => [AV.v (Value.int IntKind.u8 (b.x.g j))])]))) (Tree.br false Tree.fail
    (Tree.br false Tree.fail Tree.fail))))) := by kernel_rfl
theorem runDo4 (a b : Ta) (p : Int) (s : ByteArray) (h : Answers Try.prog Γb 38 [.ptr 0 0, .v (.int .i64 p)] a.bl .any (b.bl.map some) []) : bodyE (P := Try.prog) (Γ := Γb) [CT.at 38 h] Lno false 52 [.tmp 4] (bodyOf Try.f16) [.ptr 0 0, actV 4 p s] a.bl =
  Tree.br false (Tree.br (Nat.beq (ByteArray.size s) (0 : Nat)) Tree.fail Tree.fail) (Tree.br false Tree.fail (Tree.br false Tree.fail (Tree.br false Tree.fail (Tree.br true (Tree.chk (cl (LeL
    [AV.ptr (0 : Nat) (0 : Nat), AV.v (Value.int IntKind.i64 p)] [AV.ptr (0 : Nat) (0 : Nat), AV.v (Value.int IntKind.i64 p)] ∧ LeH [some (Blk.row [AV.v (Value.int IntKind.i64 (1048576 :
    Int)), AV.v (Value.int IntKind.i64 a.x.fi), AV.v (Value.int IntKind.i64 a.x.fa), AV.hs (1 : Nat) a.x.o a.x.n, AV.v (Value.int IntKind.i64 a.x.left), AV.v (Value.bool a.off)]), some
    (Blk.arr (1 : Nat) a.x.N fun j => [AV.v (Value.int IntKind.u8 (a.x.g j))])] [some (Blk.row [AV.v (Value.int IntKind.i64 (1048576 : Int)), AV.v (Value.int IntKind.i64 a.x.fi), AV.v
    (Value.int IntKind.i64 a.x.fa), AV.hs (1 : Nat) a.x.o a.x.n, AV.v (Value.int IntKind.i64 a.x.left), AV.v (Value.bool a.off)]), some (Blk.arr (1 : Nat) a.x.N fun j => [AV.v (Value.int
    IntKind.u8 (a.x.g j))])])) (Tree.leaf (Ans.mk AV.any [some (Blk.row [AV.v (Value.int IntKind.i64 (1048576 : Int)), AV.v (Value.int IntKind.i64 b.x.fi), AV.v (Value.int IntKind.i64
    b.x.fa), AV.hs (1 : Nat) b.x.o b.x.n, AV.v (Value.int IntKind.i64 b.x.left), AV.v (Value.bool b.off)]), some (Blk.arr (1 : Nat) b.x.N fun j => [AV.v (Value.int IntKind.u8 (b.x.g
    j))])]))) (Tree.br false Tree.fail Tree.fail))))) := by kernel_rfl
theorem runDo5 (a b : Ta) (p : Int) (s : ByteArray) (h : Answers Try.prog Γb 18 [.ptr 0 0, .v (.int .i64 p)] a.bl (.v (.int .i64 0)) (b.bl.map some) []) : bodyE (P := Try.prog) (Γ := Γb) [CT.at 18 h] Lno false 52 [.tmp 4] (bodyOf Try.f16) [.ptr 0 0, actV 5 p s] a.bl =
  Tree.br false (Tree.br (Nat.beq (ByteArray.size s) (0 : Nat)) Tree.fail Tree.fail) (Tree.br false Tree.fail (Tree.br false Tree.fail (Tree.br false Tree.fail (Tree.br false Tree.fail
    (Tree.br true (Tree.chk (cl (LeL [AV.ptr (0 : Nat) (0 : Nat), AV.v (Value.int IntKind.i64 p)] [AV.ptr (0 : Nat) (0 : Nat), AV.v (Value.int IntKind.i64 p)] ∧ LeH [some (Blk.row [AV.v
    (Value.int IntKind.i64 (1048576 : Int)), AV.v (Value.int IntKind.i64 a.x.fi), AV.v (Value.int IntKind.i64 a.x.fa), AV.hs (1 : Nat) a.x.o a.x.n, AV.v (Value.int IntKind.i64 a.x.left),
    AV.v (Value.bool a.off)]), some (Blk.arr (1 : Nat) a.x.N fun j => [AV.v (Value.int IntKind.u8 (a.x.g j))])] [some (Blk.row [AV.v (Value.int IntKind.i64 (1048576 : Int)), AV.v (Value.int
    IntKind.i64 a.x.fi), AV.v (Value.int IntKind.i64 a.x.fa), AV.hs (1 : Nat) a.x.o a.x.n, AV.v (Value.int IntKind.i64 a.x.left), AV.v (Value.bool a.off)]), some (Blk.arr (1 : Nat) a.x.N fun
    j => [AV.v (Value.int IntKind.u8 (a.x.g j))])])) (Tree.leaf (Ans.mk (AV.v (Value.int IntKind.i64 (0 : Int))) [some (Blk.row [AV.v (Value.int IntKind.i64 (1048576 : Int)), AV.v (Value.int
    IntKind.i64 b.x.fi), AV.v (Value.int IntKind.i64 b.x.fa), AV.hs (1 : Nat) b.x.o b.x.n, AV.v (Value.int IntKind.i64 b.x.left), AV.v (Value.bool b.off)]), some (Blk.arr (1 : Nat) b.x.N fun
    j => [AV.v (Value.int IntKind.u8 (b.x.g j))])]))) Tree.fail))))) := by kernel_rfl
theorem ansDo1 {a b : Ta} {p : Int} {s : ByteArray} (h : Answers Try.prog Γb 74 [.ptr 0 0] a.bl .any (b.bl.map some) []) : Answers Try.prog Γb 16 [.ptr 0 0, actV 1 p s] a.bl .any (b.bl.map some) [] := answers (fn := Try.f16) (c := bodyOf Try.f16) (ntmps := 52) (results := [.tmp 4]) [CT.at 74 h] Lno false Try.func16 (by kernel_rfl) (by kernel_rfl) (by kernel_rfl) (by kernel_rfl) (by simp) rfl (failOK fun _ _ _ => rfl) (by
  refine Meets.of (runDo1 a b p s h) ?_
  repeat' (first | refine wC (by first | omega | (simp only [W1, cond_true, cond_false]; first | done | omega)) ?_ | refine wT (by first | omega | (simp only [W1, cond_true, cond_false]; first | done | omega)) ?_ | refine wF (by intro _h; first | omega | (simp only [W1, cond_true, cond_false] at _h; first | done | omega)) ?_ | (refine wS ?_ ?_ <;> intro _h <;> simp only [W1, cond_true, cond_false] at _h))
  all_goals simp only [or_true, true_or, false_or, or_false, and_false, false_and, cond_true, cond_false, Bool.not_true, Bool.not_false, Bool.false_eq_true, Bool.true_eq_false, not_true_eq_false, not_false_eq_true, false_implies, true_implies, implies_true, Nat.blt_eq, owesN, owesX, owesR, notT, sat_brT, sat_brF, sat_chkT, cl_iff, cl_false, AV.le_refl, AV.le_any, OLe_refl, OLe_none, sat_brN, Tree.sat_chk, Tree.sat_leaf, Tree.sat_fail, Nat.zero_add, Nat.sub_zero, Int.toNat_natCast, LeH_cons, LeH_nil, LeL_cons, LeL_nil, and_true, true_and, Bool.and_eq_true, Bool.or_eq_true, decide_eq_true_eq, decide_eq_false_iff_not, Bool.cond_true_left, Bool.cond_false_right, List.cons_append, List.nil_append, List.map_cons, List.map_nil]
  repeat' (first | apply And.intro | intro _hc)
  all_goals first | exact cl_iff.2 ⟨LeL.refl _, LeH.refl _⟩ | exact (cl_iff.2 ⟨LeL.refl _, LeH.refl _⟩ : cl _ = true) | exact AV.le_refl _ | exact AV.le_any _ | exact OLe.refl _ | exact OLe.none _ | exact LeH.refl _ | exact LeL.refl _ | exact AV.le.bs _ | exact AV.le.sb _ | omega | contradiction
  )
theorem ansDo2 {a b : Ta} {p : Int} {s : ByteArray} (h : Answers Try.prog Γb 75 [.ptr 0 0, .v (.int .i64 p)] a.bl .any (b.bl.map some) []) : Answers Try.prog Γb 16 [.ptr 0 0, actV 2 p s] a.bl .any (b.bl.map some) [] := answers (fn := Try.f16) (c := bodyOf Try.f16) (ntmps := 52) (results := [.tmp 4]) [CT.at 75 h] Lno false Try.func16 (by kernel_rfl) (by kernel_rfl) (by kernel_rfl) (by kernel_rfl) (by simp) rfl (failOK fun _ _ _ => rfl) (by
  refine Meets.of (runDo2 a b p s h) ?_
  repeat' (first | refine wC (by first | omega | (simp only [W1, cond_true, cond_false]; first | done | omega)) ?_ | refine wT (by first | omega | (simp only [W1, cond_true, cond_false]; first | done | omega)) ?_ | refine wF (by intro _h; first | omega | (simp only [W1, cond_true, cond_false] at _h; first | done | omega)) ?_ | (refine wS ?_ ?_ <;> intro _h <;> simp only [W1, cond_true, cond_false] at _h))
  all_goals simp only [or_true, true_or, false_or, or_false, and_false, false_and, cond_true, cond_false, Bool.not_true, Bool.not_false, Bool.false_eq_true, Bool.true_eq_false, not_true_eq_false, not_false_eq_true, false_implies, true_implies, implies_true, Nat.blt_eq, owesN, owesX, owesR, notT, sat_brT, sat_brF, sat_chkT, cl_iff, cl_false, AV.le_refl, AV.le_any, OLe_refl, OLe_none, sat_brN, Tree.sat_chk, Tree.sat_leaf, Tree.sat_fail, Nat.zero_add, Nat.sub_zero, Int.toNat_natCast, LeH_cons, LeH_nil, LeL_cons, LeL_nil, and_true, true_and, Bool.and_eq_true, Bool.or_eq_true, decide_eq_true_eq, decide_eq_false_iff_not, Bool.cond_true_left, Bool.cond_false_right, List.cons_append, List.nil_append, List.map_cons, List.map_nil]
  repeat' (first | apply And.intro | intro _hc)
  all_goals first | exact cl_iff.2 ⟨LeL.refl _, LeH.refl _⟩ | exact (cl_iff.2 ⟨LeL.refl _, LeH.refl _⟩ : cl _ = true) | exact AV.le_refl _ | exact AV.le_any _ | exact OLe.refl _ | exact OLe.none _ | exact LeH.refl _ | exact LeL.refl _ | exact AV.le.bs _ | exact AV.le.sb _ | omega | contradiction
  )
theorem ansDo3 {a b : Ta} {p : Int} {s : ByteArray} (h : Answers Try.prog Γb 76 [.ptr 0 0, .v (.int .i64 p)] a.bl .any (b.bl.map some) []) : Answers Try.prog Γb 16 [.ptr 0 0, actV 3 p s] a.bl .any (b.bl.map some) [] := answers (fn := Try.f16) (c := bodyOf Try.f16) (ntmps := 52) (results := [.tmp 4]) [CT.at 76 h] Lno false Try.func16 (by kernel_rfl) (by kernel_rfl) (by kernel_rfl) (by kernel_rfl) (by simp) rfl (failOK fun _ _ _ => rfl) (by
  refine Meets.of (runDo3 a b p s h) ?_
  repeat' (first | refine wC (by first | omega | (simp only [W1, cond_true, cond_false]; first | done | omega)) ?_ | refine wT (by first | omega | (simp only [W1, cond_true, cond_false]; first | done | omega)) ?_ | refine wF (by intro _h; first | omega | (simp only [W1, cond_true, cond_false] at _h; first | done | omega)) ?_ | (refine wS ?_ ?_ <;> intro _h <;> simp only [W1, cond_true, cond_false] at _h))
  all_goals simp only [or_true, true_or, false_or, or_false, and_false, false_and, cond_true, cond_false, Bool.not_true, Bool.not_false, Bool.false_eq_true, Bool.true_eq_false, not_true_eq_false, not_false_eq_true, false_implies, true_implies, implies_true, Nat.blt_eq, owesN, owesX, owesR, notT, sat_brT, sat_brF, sat_chkT, cl_iff, cl_false, AV.le_refl, AV.le_any, OLe_refl, OLe_none, sat_brN, Tree.sat_chk, Tree.sat_leaf, Tree.sat_fail, Nat.zero_add, Nat.sub_zero, Int.toNat_natCast, LeH_cons, LeH_nil, LeL_cons, LeL_nil, and_true, true_and, Bool.and_eq_true, Bool.or_eq_true, decide_eq_true_eq, decide_eq_false_iff_not, Bool.cond_true_left, Bool.cond_false_right, List.cons_append, List.nil_append, List.map_cons, List.map_nil]
  repeat' (first | apply And.intro | intro _hc)
  all_goals first | exact cl_iff.2 ⟨LeL.refl _, LeH.refl _⟩ | exact (cl_iff.2 ⟨LeL.refl _, LeH.refl _⟩ : cl _ = true) | exact AV.le_refl _ | exact AV.le_any _ | exact OLe.refl _ | exact OLe.none _ | exact LeH.refl _ | exact LeL.refl _ | exact AV.le.bs _ | exact AV.le.sb _ | omega | contradiction
  )
theorem ansDo4 {a b : Ta} {p : Int} {s : ByteArray} (h : Answers Try.prog Γb 38 [.ptr 0 0, .v (.int .i64 p)] a.bl .any (b.bl.map some) []) : Answers Try.prog Γb 16 [.ptr 0 0, actV 4 p s] a.bl .any (b.bl.map some) [] := answers (fn := Try.f16) (c := bodyOf Try.f16) (ntmps := 52) (results := [.tmp 4]) [CT.at 38 h] Lno false Try.func16 (by kernel_rfl) (by kernel_rfl) (by kernel_rfl) (by kernel_rfl) (by simp) rfl (failOK fun _ _ _ => rfl) (by
  refine Meets.of (runDo4 a b p s h) ?_
  repeat' (first | refine wC (by first | omega | (simp only [W1, cond_true, cond_false]; first | done | omega)) ?_ | refine wT (by first | omega | (simp only [W1, cond_true, cond_false]; first | done | omega)) ?_ | refine wF (by intro _h; first | omega | (simp only [W1, cond_true, cond_false] at _h; first | done | omega)) ?_ | (refine wS ?_ ?_ <;> intro _h <;> simp only [W1, cond_true, cond_false] at _h))
  all_goals simp only [or_true, true_or, false_or, or_false, and_false, false_and, cond_true, cond_false, Bool.not_true, Bool.not_false, Bool.false_eq_true, Bool.true_eq_false, not_true_eq_false, not_false_eq_true, false_implies, true_implies, implies_true, Nat.blt_eq, owesN, owesX, owesR, notT, sat_brT, sat_brF, sat_chkT, cl_iff, cl_false, AV.le_refl, AV.le_any, OLe_refl, OLe_none, sat_brN, Tree.sat_chk, Tree.sat_leaf, Tree.sat_fail, Nat.zero_add, Nat.sub_zero, Int.toNat_natCast, LeH_cons, LeH_nil, LeL_cons, LeL_nil, and_true, true_and, Bool.and_eq_true, Bool.or_eq_true, decide_eq_true_eq, decide_eq_false_iff_not, Bool.cond_true_left, Bool.cond_false_right, List.cons_append, List.nil_append, List.map_cons, List.map_nil]
  repeat' (first | apply And.intro | intro _hc)
  all_goals first | exact cl_iff.2 ⟨LeL.refl _, LeH.refl _⟩ | exact (cl_iff.2 ⟨LeL.refl _, LeH.refl _⟩ : cl _ = true) | exact AV.le_refl _ | exact AV.le_any _ | exact OLe.refl _ | exact OLe.none _ | exact LeH.refl _ | exact LeL.refl _ | exact AV.le.bs _ | exact AV.le.sb _ | omega | contradiction
  )
theorem ansDo5 {a b : Ta} {p : Int} {s : ByteArray} (h : Answers Try.prog Γb 18 [.ptr 0 0, .v (.int .i64 p)] a.bl (.v (.int .i64 0)) (b.bl.map some) []) : Answers Try.prog Γb 16 [.ptr 0 0, actV 5 p s] a.bl .any (b.bl.map some) [] := answers (fn := Try.f16) (c := bodyOf Try.f16) (ntmps := 52) (results := [.tmp 4]) [CT.at 18 h] Lno false Try.func16 (by kernel_rfl) (by kernel_rfl) (by kernel_rfl) (by kernel_rfl) (by simp) rfl (failOK fun _ _ _ => rfl) (by
  refine Meets.of (runDo5 a b p s h) ?_
  repeat' (first | refine wC (by first | omega | (simp only [W1, cond_true, cond_false]; first | done | omega)) ?_ | refine wT (by first | omega | (simp only [W1, cond_true, cond_false]; first | done | omega)) ?_ | refine wF (by intro _h; first | omega | (simp only [W1, cond_true, cond_false] at _h; first | done | omega)) ?_ | (refine wS ?_ ?_ <;> intro _h <;> simp only [W1, cond_true, cond_false] at _h))
  all_goals simp only [or_true, true_or, false_or, or_false, and_false, false_and, cond_true, cond_false, Bool.not_true, Bool.not_false, Bool.false_eq_true, Bool.true_eq_false, not_true_eq_false, not_false_eq_true, false_implies, true_implies, implies_true, Nat.blt_eq, owesN, owesX, owesR, notT, sat_brT, sat_brF, sat_chkT, cl_iff, cl_false, AV.le_refl, AV.le_any, OLe_refl, OLe_none, sat_brN, Tree.sat_chk, Tree.sat_leaf, Tree.sat_fail, Nat.zero_add, Nat.sub_zero, Int.toNat_natCast, LeH_cons, LeH_nil, LeL_cons, LeL_nil, and_true, true_and, Bool.and_eq_true, Bool.or_eq_true, decide_eq_true_eq, decide_eq_false_iff_not, Bool.cond_true_left, Bool.cond_false_right, List.cons_append, List.nil_append, List.map_cons, List.map_nil]
  repeat' (first | apply And.intro | intro _hc)
  all_goals first | exact cl_iff.2 ⟨LeL.refl _, LeH.refl _⟩ | exact (cl_iff.2 ⟨LeL.refl _, LeH.refl _⟩ : cl _ = true) | exact AV.le_refl _ | exact AV.le_any _ | exact OLe.refl _ | exact OLe.none _ | exact LeH.refl _ | exact LeL.refl _ | exact AV.le.bs _ | exact AV.le.sb _ | omega | contradiction
  )
end Go.Eng.SB.T

namespace Go.Eng.SB.T
open Go Go.Eng Go.Eng.SB Go.Lib Go.Proofs
theorem runDo0z (a b : Ta) (p : Int) (s : ByteArray) (h : Answers Try.prog Γb 73 [.ptr 0 0, .sl 1 0 (bsF s)] a.bl .any (a.bl.map some) []) : bodyE (P := Try.prog) (Γ := Γb) [CT.at 73 h] Lno false 52 [.tmp 4] (bodyOf Try.f16) [.ptr 0 0, actV 0 p s] a.bl =
  Tree.br true (Tree.br (Nat.beq (ByteArray.size s) (0 : Nat)) (Tree.chk (cl (LeL [AV.ptr (0 : Nat) (0 : Nat), AV.sl (1 : Nat) (0 : Nat) fun j => [AV.v (Value.int IntKind.u8 (sbyte s j))]]
    [AV.ptr (0 : Nat) (0 : Nat), AV.sl (1 : Nat) (0 : Nat) (bsF s)] ∧ LeH [some (Blk.row [AV.v (Value.int IntKind.i64 (1048576 : Int)), AV.v (Value.int IntKind.i64 a.x.fi), AV.v (Value.int
    IntKind.i64 a.x.fa), AV.hs (1 : Nat) a.x.o a.x.n, AV.v (Value.int IntKind.i64 a.x.left), AV.v (Value.bool a.off)]), some (Blk.arr (1 : Nat) a.x.N fun j => [AV.v (Value.int IntKind.u8
    (a.x.g j))])] [some (Blk.row [AV.v (Value.int IntKind.i64 (1048576 : Int)), AV.v (Value.int IntKind.i64 a.x.fi), AV.v (Value.int IntKind.i64 a.x.fa), AV.hs (1 : Nat) a.x.o a.x.n, AV.v
    (Value.int IntKind.i64 a.x.left), AV.v (Value.bool a.off)]), some (Blk.arr (1 : Nat) a.x.N fun j => [AV.v (Value.int IntKind.u8 (a.x.g j))])])) (Tree.leaf (Ans.mk AV.any [some (Blk.row
    [AV.v (Value.int IntKind.i64 (1048576 : Int)), AV.v (Value.int IntKind.i64 a.x.fi), AV.v (Value.int IntKind.i64 a.x.fa), AV.hs (1 : Nat) a.x.o a.x.n, AV.v (Value.int IntKind.i64
    a.x.left), AV.v (Value.bool a.off)]), some (Blk.arr (1 : Nat) a.x.N fun j => [AV.v (Value.int IntKind.u8 (a.x.g j))])]))) (Tree.chk (cl (LeL [AV.ptr (0 : Nat) (0 : Nat), AV.hs (2 : Nat)
    (0 : Nat) (ByteArray.size s)] [AV.ptr (0 : Nat) (0 : Nat), AV.sl (1 : Nat) (0 : Nat) (bsF s)] ∧ LeH [some (Blk.row [AV.v (Value.int IntKind.i64 (1048576 : Int)), AV.v (Value.int
    IntKind.i64 a.x.fi), AV.v (Value.int IntKind.i64 a.x.fa), AV.hs (1 : Nat) a.x.o a.x.n, AV.v (Value.int IntKind.i64 a.x.left), AV.v (Value.bool a.off)]), some (Blk.arr (1 : Nat) a.x.N fun
    j => [AV.v (Value.int IntKind.u8 (a.x.g j))]), some (Blk.arr (1 : Nat) (ByteArray.size s) fun j => [AV.v (Value.int IntKind.u8 (sbyte s j))])] [some (Blk.row [AV.v (Value.int IntKind.i64
    (1048576 : Int)), AV.v (Value.int IntKind.i64 a.x.fi), AV.v (Value.int IntKind.i64 a.x.fa), AV.hs (1 : Nat) a.x.o a.x.n, AV.v (Value.int IntKind.i64 a.x.left), AV.v (Value.bool a.off)]),
    some (Blk.arr (1 : Nat) a.x.N fun j => [AV.v (Value.int IntKind.u8 (a.x.g j))])])) (Tree.leaf (Ans.mk AV.any [some (Blk.row [AV.v (Value.int IntKind.i64 (1048576 : Int)), AV.v (Value.int
    IntKind.i64 a.x.fi), AV.v (Value.int IntKind.i64 a.x.fa), AV.hs (1 : Nat) a.x.o a.x.n, AV.v (Value.int IntKind.i64 a.x.left), AV.v (Value.bool a.off)]), some (Blk.arr (1 : Nat) a.x.N fun
    j => [AV.v (Value.int IntKind.u8 (a.x.g j))])])))) (Tree.br false Tree.fail (Tree.br false Tree.fail (Tree.br false Tree.fail (Tree.br false Tree.fail (Tree.br false Tree.fail
    Tree.fail))))) := by kernel_rfl
theorem runDo0 (a b : Ta) (p : Int) (s : ByteArray) (h : Answers Try.prog Γb 73 [.ptr 0 0, .hs 2 0 s.size] (wbl a.x a.off s) .any ((wbl b.x b.off s).map some) []) : bodyE (P := Try.prog) (Γ := Γb) [CT.at 73 h] Lno false 52 [.tmp 4] (bodyOf Try.f16) [.ptr 0 0, actV 0 p s] a.bl =
  Tree.br true (Tree.br (Nat.beq (ByteArray.size s) (0 : Nat)) (Tree.chk (cl (LeL [AV.ptr (0 : Nat) (0 : Nat), AV.sl (1 : Nat) (0 : Nat) fun j => [AV.v (Value.int IntKind.u8 (sbyte s j))]]
    [AV.ptr (0 : Nat) (0 : Nat), AV.hs (2 : Nat) (0 : Nat) (ByteArray.size s)] ∧ LeH [some (Blk.row [AV.v (Value.int IntKind.i64 (1048576 : Int)), AV.v (Value.int IntKind.i64 a.x.fi), AV.v
    (Value.int IntKind.i64 a.x.fa), AV.hs (1 : Nat) a.x.o a.x.n, AV.v (Value.int IntKind.i64 a.x.left), AV.v (Value.bool a.off)]), some (Blk.arr (1 : Nat) a.x.N fun j => [AV.v (Value.int
    IntKind.u8 (a.x.g j))])] [some (Blk.row [AV.v (Value.int IntKind.i64 (1048576 : Int)), AV.v (Value.int IntKind.i64 a.x.fi), AV.v (Value.int IntKind.i64 a.x.fa), AV.hs (1 : Nat) a.x.o
    a.x.n, AV.v (Value.int IntKind.i64 a.x.left), AV.v (Value.bool a.off)]), some (Blk.arr (1 : Nat) a.x.N fun j => [AV.v (Value.int IntKind.u8 (a.x.g j))]), some (Blk.arr (1 : Nat)
    (ByteArray.size s) (bsF s))])) (Tree.leaf (Ans.mk AV.any [some (Blk.row [AV.v (Value.int IntKind.i64 (1048576 : Int)), AV.v (Value.int IntKind.i64 b.x.fi), AV.v (Value.int IntKind.i64
    b.x.fa), AV.hs (1 : Nat) b.x.o b.x.n, AV.v (Value.int IntKind.i64 b.x.left), AV.v (Value.bool b.off)]), some (Blk.arr (1 : Nat) b.x.N fun j => [AV.v (Value.int IntKind.u8 (b.x.g
    j))])]))) (Tree.chk (cl (LeL [AV.ptr (0 : Nat) (0 : Nat), AV.hs (2 : Nat) (0 : Nat) (ByteArray.size s)] [AV.ptr (0 : Nat) (0 : Nat), AV.hs (2 : Nat) (0 : Nat) (ByteArray.size s)] ∧ LeH
    [some (Blk.row [AV.v (Value.int IntKind.i64 (1048576 : Int)), AV.v (Value.int IntKind.i64 a.x.fi), AV.v (Value.int IntKind.i64 a.x.fa), AV.hs (1 : Nat) a.x.o a.x.n, AV.v (Value.int
    IntKind.i64 a.x.left), AV.v (Value.bool a.off)]), some (Blk.arr (1 : Nat) a.x.N fun j => [AV.v (Value.int IntKind.u8 (a.x.g j))]), some (Blk.arr (1 : Nat) (ByteArray.size s) fun j =>
    [AV.v (Value.int IntKind.u8 (sbyte s j))])] [some (Blk.row [AV.v (Value.int IntKind.i64 (1048576 : Int)), AV.v (Value.int IntKind.i64 a.x.fi), AV.v (Value.int IntKind.i64 a.x.fa), AV.hs
    (1 : Nat) a.x.o a.x.n, AV.v (Value.int IntKind.i64 a.x.left), AV.v (Value.bool a.off)]), some (Blk.arr (1 : Nat) a.x.N fun j => [AV.v (Value.int IntKind.u8 (a.x.g j))]), some (Blk.arr (1
    : Nat) (ByteArray.size s) (bsF s))])) (Tree.leaf (Ans.mk AV.any [some (Blk.row [AV.v (Value.int IntKind.i64 (1048576 : Int)), AV.v (Value.int IntKind.i64 b.x.fi), AV.v (Value.int
    IntKind.i64 b.x.fa), AV.hs (1 : Nat) b.x.o b.x.n, AV.v (Value.int IntKind.i64 b.x.left), AV.v (Value.bool b.off)]), some (Blk.arr (1 : Nat) b.x.N fun j => [AV.v (Value.int IntKind.u8
    (b.x.g j))])])))) (Tree.br false Tree.fail (Tree.br false Tree.fail (Tree.br false Tree.fail (Tree.br false Tree.fail (Tree.br false Tree.fail Tree.fail))))) := by kernel_rfl
theorem runDo03 (a b : Ta) (p : Int) (s : ByteArray) (h : Answers Try.prog Γb 73 [.ptr 0 0, .hs 2 0 s.size] (wbl a.x a.off s) .any [some (.row [.v (.int .i64 1048576), .v (.int .i64 b.x.fi), .v (.int .i64 b.x.fa), .hs 3 b.x.o b.x.n, .v (.int .i64 b.x.left), .v (.bool b.off)]), none, some (.arr 1 s.size (bsF s))] [.arr 1 b.x.N (bF b.x.g)]) : bodyE (P := Try.prog) (Γ := Γb) [CT.at 73 h] Lno false 52 [.tmp 4] (bodyOf Try.f16) [.ptr 0 0, actV 0 p s] a.bl =
  Tree.br true (Tree.br (Nat.beq (ByteArray.size s) (0 : Nat)) (Tree.chk (cl (LeL [AV.ptr (0 : Nat) (0 : Nat), AV.sl (1 : Nat) (0 : Nat) fun j => [AV.v (Value.int IntKind.u8 (sbyte s j))]]
    [AV.ptr (0 : Nat) (0 : Nat), AV.hs (2 : Nat) (0 : Nat) (ByteArray.size s)] ∧ LeH [some (Blk.row [AV.v (Value.int IntKind.i64 (1048576 : Int)), AV.v (Value.int IntKind.i64 a.x.fi), AV.v
    (Value.int IntKind.i64 a.x.fa), AV.hs (1 : Nat) a.x.o a.x.n, AV.v (Value.int IntKind.i64 a.x.left), AV.v (Value.bool a.off)]), some (Blk.arr (1 : Nat) a.x.N fun j => [AV.v (Value.int
    IntKind.u8 (a.x.g j))])] [some (Blk.row [AV.v (Value.int IntKind.i64 (1048576 : Int)), AV.v (Value.int IntKind.i64 a.x.fi), AV.v (Value.int IntKind.i64 a.x.fa), AV.hs (1 : Nat) a.x.o
    a.x.n, AV.v (Value.int IntKind.i64 a.x.left), AV.v (Value.bool a.off)]), some (Blk.arr (1 : Nat) a.x.N fun j => [AV.v (Value.int IntKind.u8 (a.x.g j))]), some (Blk.arr (1 : Nat)
    (ByteArray.size s) (bsF s))])) Tree.fail) (Tree.chk (cl (LeL [AV.ptr (0 : Nat) (0 : Nat), AV.hs (2 : Nat) (0 : Nat) (ByteArray.size s)] [AV.ptr (0 : Nat) (0 : Nat), AV.hs (2 : Nat) (0 :
    Nat) (ByteArray.size s)] ∧ LeH [some (Blk.row [AV.v (Value.int IntKind.i64 (1048576 : Int)), AV.v (Value.int IntKind.i64 a.x.fi), AV.v (Value.int IntKind.i64 a.x.fa), AV.hs (1 : Nat)
    a.x.o a.x.n, AV.v (Value.int IntKind.i64 a.x.left), AV.v (Value.bool a.off)]), some (Blk.arr (1 : Nat) a.x.N fun j => [AV.v (Value.int IntKind.u8 (a.x.g j))]), some (Blk.arr (1 : Nat)
    (ByteArray.size s) fun j => [AV.v (Value.int IntKind.u8 (sbyte s j))])] [some (Blk.row [AV.v (Value.int IntKind.i64 (1048576 : Int)), AV.v (Value.int IntKind.i64 a.x.fi), AV.v (Value.int
    IntKind.i64 a.x.fa), AV.hs (1 : Nat) a.x.o a.x.n, AV.v (Value.int IntKind.i64 a.x.left), AV.v (Value.bool a.off)]), some (Blk.arr (1 : Nat) a.x.N fun j => [AV.v (Value.int IntKind.u8
    (a.x.g j))]), some (Blk.arr (1 : Nat) (ByteArray.size s) (bsF s))])) (Tree.leaf (Ans.mk AV.any [some (Blk.row [AV.v (Value.int IntKind.i64 (1048576 : Int)), AV.v (Value.int IntKind.i64
    b.x.fi), AV.v (Value.int IntKind.i64 b.x.fa), AV.hs (2 : Nat) b.x.o b.x.n, AV.v (Value.int IntKind.i64 b.x.left), AV.v (Value.bool b.off)]), none, some (Blk.arr (1 : Nat) b.x.N fun j =>
    [AV.v (Value.int IntKind.u8 (b.x.g j))])])))) (Tree.br false Tree.fail (Tree.br false Tree.fail (Tree.br false Tree.fail (Tree.br false Tree.fail (Tree.br false Tree.fail Tree.fail))))) := by kernel_rfl
theorem runDo6 (a : Ta) (k p : Int) (s : ByteArray) (h : Answers Try.prog Γb 19 [.ptr 0 0] a.bl (.tup [.v (.int .i64 0), .v (.slice none 0 0), .v (.int .i64 170)]) (a.bl.map some) []) : bodyE (P := Try.prog) (Γ := Γb) [CT.at 19 h] Lno false 52 [.tmp 4] (bodyOf Try.f16) [.ptr 0 0, actV k p s] a.bl =
  Tree.br (decide (k = (0 : Int))) (Tree.br (Nat.beq (ByteArray.size s) (0 : Nat)) Tree.fail Tree.fail) (Tree.br (decide (k = (1 : Int))) Tree.fail (Tree.br (decide (k = (2 : Int))) Tree.fail
    (Tree.br (decide (k = (3 : Int))) Tree.fail (Tree.br (decide (k = (4 : Int))) Tree.fail (Tree.br (decide (k = (5 : Int))) Tree.fail (Tree.chk (cl (LeL [AV.ptr (0 : Nat) (0 : Nat)]
    [AV.ptr (0 : Nat) (0 : Nat)] ∧ LeH [some (Blk.row [AV.v (Value.int IntKind.i64 (1048576 : Int)), AV.v (Value.int IntKind.i64 a.x.fi), AV.v (Value.int IntKind.i64 a.x.fa), AV.hs (1 : Nat)
    a.x.o a.x.n, AV.v (Value.int IntKind.i64 a.x.left), AV.v (Value.bool a.off)]), some (Blk.arr (1 : Nat) a.x.N fun j => [AV.v (Value.int IntKind.u8 (a.x.g j))])] [some (Blk.row [AV.v
    (Value.int IntKind.i64 (1048576 : Int)), AV.v (Value.int IntKind.i64 a.x.fi), AV.v (Value.int IntKind.i64 a.x.fa), AV.hs (1 : Nat) a.x.o a.x.n, AV.v (Value.int IntKind.i64 a.x.left),
    AV.v (Value.bool a.off)]), some (Blk.arr (1 : Nat) a.x.N fun j => [AV.v (Value.int IntKind.u8 (a.x.g j))])])) (Tree.leaf (Ans.mk (AV.v (Value.int IntKind.i64 (170 : Int))) [some (Blk.row
    [AV.v (Value.int IntKind.i64 (1048576 : Int)), AV.v (Value.int IntKind.i64 a.x.fi), AV.v (Value.int IntKind.i64 a.x.fa), AV.hs (1 : Nat) a.x.o a.x.n, AV.v (Value.int IntKind.i64
    a.x.left), AV.v (Value.bool a.off)]), some (Blk.arr (1 : Nat) a.x.N fun j => [AV.v (Value.int IntKind.u8 (a.x.g j))])])))))))) := by kernel_rfl
theorem runDo7 (a : Ta) (k p : Int) (s : ByteArray) (h : Answers Try.prog Γb 19 [.ptr 0 0] a.bl (.tup [.v (.int .i64 a.x.fi), .hs 2 0 a.x.n, .v (.int .i64 0)]) (a.bl.map some) [.arr 1 a.x.n (bF fun j => a.x.g (a.x.o + j))]) : bodyE (P := Try.prog) (Γ := Γb) [CT.at 19 h] Lno false 52 [.tmp 4] (bodyOf Try.f16) [.ptr 0 0, actV k p s] a.bl =
  Tree.br (decide (k = (0 : Int))) (Tree.br (Nat.beq (ByteArray.size s) (0 : Nat)) Tree.fail Tree.fail) (Tree.br (decide (k = (1 : Int))) Tree.fail (Tree.br (decide (k = (2 : Int))) Tree.fail
    (Tree.br (decide (k = (3 : Int))) Tree.fail (Tree.br (decide (k = (4 : Int))) Tree.fail (Tree.br (decide (k = (5 : Int))) Tree.fail (Tree.chk (cl (LeL [AV.ptr (0 : Nat) (0 : Nat)]
    [AV.ptr (0 : Nat) (0 : Nat)] ∧ LeH [some (Blk.row [AV.v (Value.int IntKind.i64 (1048576 : Int)), AV.v (Value.int IntKind.i64 a.x.fi), AV.v (Value.int IntKind.i64 a.x.fa), AV.hs (1 : Nat)
    a.x.o a.x.n, AV.v (Value.int IntKind.i64 a.x.left), AV.v (Value.bool a.off)]), some (Blk.arr (1 : Nat) a.x.N fun j => [AV.v (Value.int IntKind.u8 (a.x.g j))])] [some (Blk.row [AV.v
    (Value.int IntKind.i64 (1048576 : Int)), AV.v (Value.int IntKind.i64 a.x.fi), AV.v (Value.int IntKind.i64 a.x.fa), AV.hs (1 : Nat) a.x.o a.x.n, AV.v (Value.int IntKind.i64 a.x.left),
    AV.v (Value.bool a.off)]), some (Blk.arr (1 : Nat) a.x.N fun j => [AV.v (Value.int IntKind.u8 (a.x.g j))])])) (Tree.leaf (Ans.mk (AV.v (Value.int IntKind.i64 (0 : Int))) [some (Blk.row
    [AV.v (Value.int IntKind.i64 (1048576 : Int)), AV.v (Value.int IntKind.i64 a.x.fi), AV.v (Value.int IntKind.i64 a.x.fa), AV.hs (1 : Nat) a.x.o a.x.n, AV.v (Value.int IntKind.i64
    a.x.left), AV.v (Value.bool a.off)]), some (Blk.arr (1 : Nat) a.x.N fun j => [AV.v (Value.int IntKind.u8 (a.x.g j))])])))))))) := by kernel_rfl
end Go.Eng.SB.T

namespace Go.Eng.SB.T
open Go Go.Eng Go.Eng.SB Go.Lib Go.Proofs
theorem ansDo7 {a : Ta} {m : Nat} (hi : a.Inv m) {k p : Int} {s : ByteArray} (hk : k < 0 ∨ 5 < k) : Answers Try.prog Γb 16 [.ptr 0 0, actV k p s] a.bl .any (a.bl.map some) [] := by
  cases ho : a.off with
  | true =>
    have h := ansRd0 ho
    refine answers (fn := Try.f16) (c := bodyOf Try.f16) (ntmps := 52) (results := [.tmp 4]) [CT.at 19 h] Lno false Try.func16 (by kernel_rfl) (by kernel_rfl) (by kernel_rfl) (by kernel_rfl) (by simp) rfl (failOK fun _ _ _ => rfl) ?_
    refine Meets.of (runDo6 a k p s h) ?_
    repeat' (first | refine wC (by first | omega | (simp only [W1, cond_true, cond_false]; first | done | omega)) ?_ | refine wT (by first | omega | (simp only [W1, cond_true, cond_false]; first | done | omega)) ?_ | refine wF (by intro _h; first | omega | (simp only [W1, cond_true, cond_false] at _h; first | done | omega)) ?_ | (refine wS ?_ ?_ <;> intro _h <;> simp only [W1, cond_true, cond_false] at _h))
    all_goals simp only [or_true, true_or, false_or, or_false, and_false, false_and, cond_true, cond_false, Bool.not_true, Bool.not_false, Bool.false_eq_true, Bool.true_eq_false, not_true_eq_false, not_false_eq_true, false_implies, true_implies, implies_true, Nat.blt_eq, owesN, owesX, owesR, notT, sat_brT, sat_brF, sat_chkT, cl_iff, cl_false, AV.le_refl, AV.le_any, OLe_refl, OLe_none, sat_brN, Tree.sat_chk, Tree.sat_leaf, Tree.sat_fail, Nat.zero_add, Nat.sub_zero, Int.toNat_natCast, LeH_cons, LeH_nil, LeL_cons, LeL_nil, and_true, true_and, Bool.and_eq_true, Bool.or_eq_true, decide_eq_true_eq, decide_eq_false_iff_not, Bool.cond_true_left, Bool.cond_false_right, List.cons_append, List.nil_append, List.map_cons, List.map_nil]
    repeat' (first | apply And.intro | intro _hc)
    all_goals first | exact cl_iff.2 ⟨LeL.refl _, LeH.refl _⟩ | exact AV.le_refl _ | exact AV.le_any _ | exact OLe.refl _ | exact OLe.none _ | exact LeH.refl _ | exact LeL.refl _ | exact AV.le.bs _ | exact AV.le.sb _ | omega | contradiction
  | false =>
    have h := ansRd hi ho
    refine answers (fn := Try.f16) (c := bodyOf Try.f16) (ntmps := 52) (results := [.tmp 4]) [CT.at 19 h] Lno false Try.func16 (by kernel_rfl) (by kernel_rfl) (by kernel_rfl) (by kernel_rfl) (by simp) rfl (failOK fun _ _ _ => rfl) ?_
    refine Meets.of (runDo7 a k p s h) ?_
    repeat' (first | refine wC (by first | omega | (simp only [W1, cond_true, cond_false]; first | done | omega)) ?_ | refine wT (by first | omega | (simp only [W1, cond_true, cond_false]; first | done | omega)) ?_ | refine wF (by intro _h; first | omega | (simp only [W1, cond_true, cond_false] at _h; first | done | omega)) ?_ | (refine wS ?_ ?_ <;> intro _h <;> simp only [W1, cond_true, cond_false] at _h))
    all_goals simp only [or_true, true_or, false_or, or_false, and_false, false_and, cond_true, cond_false, Bool.not_true, Bool.not_false, Bool.false_eq_true, Bool.true_eq_false, not_true_eq_false, not_false_eq_true, false_implies, true_implies, implies_true, Nat.blt_eq, owesN, owesX, owesR, notT, sat_brT, sat_brF, sat_chkT, cl_iff, cl_false, AV.le_refl, AV.le_any, OLe_refl, OLe_none, sat_brN, Tree.sat_chk, Tree.sat_leaf, Tree.sat_fail, Nat.zero_add, Nat.sub_zero, Int.toNat_natCast, LeH_cons, LeH_nil, LeL_cons, LeL_nil, and_true, true_and, Bool.and_eq_true, Bool.or_eq_true, decide_eq_true_eq, decide_eq_false_iff_not, Bool.cond_true_left, Bool.cond_false_right, List.cons_append, List.nil_append, List.map_cons, List.map_nil]
    repeat' (first | apply And.intro | intro _hc)
    all_goals first | exact cl_iff.2 ⟨LeL.refl _, LeH.refl _⟩ | exact AV.le_refl _ | exact AV.le_any _ | exact OLe.refl _ | exact OLe.none _ | exact LeH.refl _ | exact LeL.refl _ | exact AV.le.bs _ | exact AV.le.sb _ | omega | contradiction
theorem ansDo0z {a : Ta} {m : Nat} (hi : a.Inv m) {p : Int} {s : ByteArray} (hs : s.size = 0) : Answers Try.prog Γb 16 [.ptr 0 0, actV 0 p s] a.bl .any (a.bl.map some) [] := by
  have h := ansWz hi (bsF s)
  refine answers (fn := Try.f16) (c := bodyOf Try.f16) (ntmps := 52) (results := [.tmp 4]) [CT.at 73 h] Lno false Try.func16 (by kernel_rfl) (by kernel_rfl) (by kernel_rfl) (by kernel_rfl) (by simp) rfl (failOK fun _ _ _ => rfl) ?_
  refine Meets.of (runDo0z a a p s h) ?_
  have hb : Nat.beq s.size 0 = true := by rw [hs]; rfl
  repeat' (first | refine wC (by first | omega | (simp only [W1, cond_true, cond_false, hb]; first | done | omega)) ?_ | refine wT (by first | omega | (simp only [W1, cond_true, cond_false, hb]; first | done | omega)) ?_ | refine wF (by intro _h; first | omega | (simp only [W1, cond_true, cond_false, hb] at _h; first | done | omega)) ?_ | (refine wS ?_ ?_ <;> intro _h <;> simp only [W1, cond_true, cond_false, hb] at _h))
  all_goals simp only [or_true, true_or, false_or, or_false, and_false, false_and, cond_true, cond_false, Bool.not_true, Bool.not_false, Bool.false_eq_true, Bool.true_eq_false, not_true_eq_false, not_false_eq_true, false_implies, true_implies, implies_true, Nat.blt_eq, owesN, owesX, owesR, notT, sat_brT, sat_brF, sat_chkT, cl_iff, cl_false, AV.le_refl, AV.le_any, OLe_refl, OLe_none, sat_brN, Tree.sat_chk, Tree.sat_leaf, Tree.sat_fail, Nat.zero_add, Nat.sub_zero, Int.toNat_natCast, LeH_cons, LeH_nil, LeL_cons, LeL_nil, and_true, true_and, Bool.and_eq_true, Bool.or_eq_true, decide_eq_true_eq, decide_eq_false_iff_not, Bool.cond_true_left, Bool.cond_false_right, List.cons_append, List.nil_append, List.map_cons, List.map_nil, hb]
  repeat' (first | apply And.intro | intro _hc)
  all_goals first | exact cl_iff.2 ⟨LeL.refl _, LeH.refl _⟩ | exact AV.le_refl _ | exact AV.le_any _ | exact OLe.refl _ | exact OLe.none _ | exact LeH.refl _ | exact LeL.refl _ | exact AV.le.bs _ | exact AV.le.sb _ | omega | contradiction
def AnsD0 (a b : Ta) (v : AV) : Prop := Answers Try.prog Γb 16 [.ptr 0 0, v] a.bl .any (b.bl.map some) []
def AnsD2 (a b : Ta) (v : AV) : Prop := Answers Try.prog Γb 16 [.ptr 0 0, v] a.bl .any [some (.row [.v (.int .i64 1048576), .v (.int .i64 b.x.fi), .v (.int .i64 b.x.fa), .hs 2 b.x.o b.x.n, .v (.int .i64 b.x.left), .v (.bool b.off)]), none] [.arr 1 b.x.N (bF b.x.g)]
theorem ansDo0 {a : Ta} {m : Nat} (hi : a.Inv m) {p : Int} {s : ByteArray} (h0 : ¬ s.size = 0) (hs : s.size ≤ 3000) : AnsD0 a (a.wr s) (actV 0 p s) ∨ AnsD2 a (a.wr s) (actV 0 p s) := by
  have hb : Nat.beq s.size 0 = false := by
    cases hq : Nat.beq s.size 0 with
    | false => rfl
    | true => exact absurd (Nat.eq_of_beq_eq_true hq) h0
  rcases ansW hi hs with h | h
  · refine .inl (answers (fn := Try.f16) (c := bodyOf Try.f16) (ntmps := 52) (results := [.tmp 4]) [CT.at 73 h] Lno false Try.func16 (by kernel_rfl) (by kernel_rfl) (by kernel_rfl) (by kernel_rfl) (by simp) rfl (failOK fun _ _ _ => rfl) ?_)
    refine Meets.of (runDo0 a (a.wr s) p s h) ?_
    repeat' (first | refine wC (by first | omega | (simp only [W1, cond_true, cond_false, hb]; first | done | omega)) ?_ | refine wT (by first | omega | (simp only [W1, cond_true, cond_false, hb]; first | done | omega)) ?_ | refine wF (by intro _h; first | omega | (simp only [W1, cond_true, cond_false, hb] at _h; first | done | omega)) ?_ | (refine wS ?_ ?_ <;> intro _h <;> simp only [W1, cond_true, cond_false, hb] at _h))
    all_goals simp only [or_true, true_or, false_or, or_false, and_false, false_and, cond_true, cond_false, Bool.not_true, Bool.not_false, Bool.false_eq_true, Bool.true_eq_false, not_true_eq_false, not_false_eq_true, false_implies, true_implies, implies_true, Nat.blt_eq, owesN, owesX, owesR, notT, sat_brT, sat_brF, sat_chkT, cl_iff, cl_false, AV.le_refl, AV.le_any, OLe_refl, OLe_none, sat_brN, Tree.sat_chk, Tree.sat_leaf, Tree.sat_fail, Nat.zero_add, Nat.sub_zero, Int.toNat_natCast, LeH_cons, LeH_nil, LeL_cons, LeL_nil, and_true, true_and, Bool.and_eq_true, Bool.or_eq_true, decide_eq_true_eq, decide_eq_false_iff_not, Bool.cond_true_left, Bool.cond_false_right, List.cons_append, List.nil_append, List.map_cons, List.map_nil, hb]
    repeat' (first | apply And.intro | intro _hc)
    all_goals first | exact cl_iff.2 ⟨LeL.refl _, LeH.refl _⟩ | exact AV.le_refl _ | exact AV.le_any _ | exact OLe.refl _ | exact OLe.none _ | exact LeH.refl _ | exact LeL.refl _ | exact AV.le.bs _ | exact AV.le.sb _ | omega | contradiction
  · refine .inr (answers (fn := Try.f16) (c := bodyOf Try.f16) (ntmps := 52) (results := [.tmp 4]) [CT.at 73 h] Lno false Try.func16 (by kernel_rfl) (by kernel_rfl) (by kernel_rfl) (by kernel_rfl) (by simp) rfl (failOK fun _ _ _ => rfl) ?_)
    refine Meets.of (runDo03 a (a.wr s) p s h) ?_
    repeat' (first | refine wC (by first | omega | (simp only [W1, cond_true, cond_false, hb]; first | done | omega)) ?_ | refine wT (by first | omega | (simp only [W1, cond_true, cond_false, hb]; first | done | omega)) ?_ | refine wF (by intro _h; first | omega | (simp only [W1, cond_true, cond_false, hb] at _h; first | done | omega)) ?_ | (refine wS ?_ ?_ <;> intro _h <;> simp only [W1, cond_true, cond_false, hb] at _h))
    all_goals simp only [or_true, true_or, false_or, or_false, and_false, false_and, cond_true, cond_false, Bool.not_true, Bool.not_false, Bool.false_eq_true, Bool.true_eq_false, not_true_eq_false, not_false_eq_true, false_implies, true_implies, implies_true, Nat.blt_eq, owesN, owesX, owesR, notT, sat_brT, sat_brF, sat_chkT, cl_iff, cl_false, AV.le_refl, AV.le_any, OLe_refl, OLe_none, sat_brN, Tree.sat_chk, Tree.sat_leaf, Tree.sat_fail, Nat.zero_add, Nat.sub_zero, Int.toNat_natCast, LeH_cons, LeH_nil, LeL_cons, LeL_nil, and_true, true_and, Bool.and_eq_true, Bool.or_eq_true, decide_eq_true_eq, decide_eq_false_iff_not, Bool.cond_true_left, Bool.cond_false_right, List.cons_append, List.nil_append, List.map_cons, List.map_nil, hb]
    repeat' (first | apply And.intro | intro _hc)
    all_goals first | exact cl_iff.2 ⟨LeL.refl _, LeH.refl _⟩ | exact AV.le_refl _ | exact AV.le_any _ | exact OLe.refl _ | exact OLe.none _ | exact LeH.refl _ | exact LeL.refl _ | exact AV.le.bs _ | exact AV.le.sb _ | omega | contradiction
end Go.Eng.SB.T

namespace Go.Eng.SB.T
open Go Go.Eng Go.Eng.SB Go.Lib Go.Proofs
structure Ac where
  k : Int
  n : Int
  s : ByteArray
instance : Inhabited Ac := ⟨⟨0, 0, ⟨#[]⟩⟩⟩
def Ac.c (x : Ac) : List AV := [.v (.int .i64 x.k), .v (.int .i64 x.n), .v (.string x.s)]
def Ac.cells (x : Ac) : List Value := [.int .i64 x.k, .int .i64 x.n, .string x.s]
theorem Ac.cod : Cod Ac.c 3 := ⟨fun _ => rfl, fun b x y => by cases b <;> rfl⟩
theorem Ac.dec (vs : List Value) (h0 : GoodVs [.int .i64, .int .i64, .str] vs) : ∃ a : Ac, vs = a.cells := by
  obtain ⟨_, _, rfl, ⟨a0, rfl, _⟩, h1⟩ := h0.cons
  obtain ⟨_, _, rfl, ⟨a1, rfl, _⟩, h2⟩ := h1.cons
  obtain ⟨_, _, rfl, ⟨a2, rfl, _⟩, h3⟩ := h2.cons
  obtain rfl := h3.nil
  exact ⟨⟨a0, a1, a2⟩, rfl⟩
abbrev Ac.ks : List Cel := [.int .i64, .int .i64, .str]
noncomputable abbrev lpF : Code := loopOf (bodyOf Try.f15) 0
abbrev lvF : List Nat := [0, 3, 2]
abbrev slA (l : List Ac) : AV := .sl 3 l.length (lsF Ac.c l)
def SF (l : List Ac) (i : Nat) : List AV × Heap := ([slA l, .v (.int .i64 (i : Int)), .v (.bool false)], [])
def farB (l : List Ac) : Bool := decide (100 < l.length) || l.any fun a => decide (3000 < a.s.size)
def OF (b : Bool) : Out := match b with
  | true => ⟨.ret, [.any, .any, .v (.bool true)], []⟩
  | false => ⟨.exit 0, [.any, .any, .any], []⟩
theorem rF (l : List Ac) (i : Nat) : roundE (P := Try.prog) (Γ := Γb) [] Lno false 0 0 lpF lvF [] 20 (SF l i).1 (SF l i).2 =
  Tree.br (decide ((↑i : Int) < (↑(List.length l) : Int))) (Tree.chk (decide ((0 : Int) ≤ (↑i : Int)) && decide ((↑i : Int) < (↑(List.length l) : Int))) (Tree.br (decide ((3000 : Int) <
    (↑(ByteArray.size (List.getD l i default).s) : Int))) (Tree.leaf (Out.mk AEx.ret [AV.sl (3 : Nat) (List.length l) (lsF Ac.c l), AV.v (Value.int IntKind.i64 (↑i : Int)), AV.v (Value.bool
    true)] [])) (Tree.leaf (Out.mk AEx.normal [AV.sl (3 : Nat) (List.length l) (lsF Ac.c l), AV.v (Value.int IntKind.i64 (IntKind.wrap IntKind.i64 ((↑i : Int) + (1 : Int)))), AV.v
    (Value.bool false)] [])))) (Tree.leaf (Out.mk (AEx.exit (0 : Nat)) [AV.sl (3 : Nat) (List.length l) (lsF Ac.c l), AV.v (Value.int IntKind.i64 (↑i : Int)), AV.v (Value.bool false)] [])) := by kernel_rfl
theorem runNew  : bodyE (P := Try.prog) (Γ := Γb) [] Lno false 13 [.tmp 2, .tmp 3] (bodyOf Try.f14) [.v (.int .i64 1048576)] [] =
  Tree.br false (Tree.leaf (Ans.mk (AV.tup [AV.v (Value.pointer none), AV.v (Value.int IntKind.i64 (1 : Int))]) [])) (Tree.leaf (Ans.mk (AV.tup [AV.ptr (0 : Nat) (0 : Nat), AV.v (Value.int
    IntKind.i64 (0 : Int))]) [some (Blk.row [AV.v (Value.int IntKind.i64 (1048576 : Int)), AV.v (Value.int IntKind.i64 (0 : Int)), AV.v (Value.int IntKind.i64 (0 : Int)), AV.v (Value.slice
    none (0 : Nat) (0 : Nat)), AV.v (Value.int IntKind.i64 (-1 : Int)), AV.v (Value.bool false)])])) := by kernel_rfl
end Go.Eng.SB.T
