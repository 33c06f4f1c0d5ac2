/- CertBack holds at every input: no condition beyond the row own cells. -/
import Derived.Test.YtljejgnclkmpcaaPart4
import Derived.Test.YtljejgnclkmpcaaRows
import Derived.ProofKit
import Derived.LaidMore
import Derived.OpenShut
import Derived.Stop.Joined
set_option linter.unnecessarySimpa false
set_option linter.unusedSectionVars false
set_option linter.unusedSimpArgs false
set_option linter.unusedVariables false
namespace Go.Eng.SB
open Go Go.Eng Go.Eng.M Go.Eng.RD Go.Proofs
theorem loopPg_ok {off len N k : Nat} {t : ByteArray} (h : IsGood t off len k) (hlen : len ≤ 1000000000000) : ∀ i, i ≤ k → LoopOK Try.prog Γb 2 75 loopP (LSpec.at [0, 19, 20, 21, 3, 2] [] (SP off len N t i) (OPg off len N t k)) := by
  obtain ⟨h1, h2, h3, h4⟩ := h
  refine loop_at (S := SP off len N t) (pre := fun i => i ≤ k) (O := fun _ => OPg off len N t k) (k := 0) (fun i => k - i) fun i hi => ⟨[kFail], Lno, false, noLoops (by kernel_rfl), ?_⟩
  refine stepP (by omega) (by omega) hlen fun c hc => ?_
  subst hc
  refine ⟨fun hb => ?_, fun hl _ _ => ?_, fun hl h8 => ?_⟩
  · exfalso
    rcases Nat.lt_or_ge i k with hik | hik
    · have := h3.hi i hik; omega
    · obtain rfl : i = k := Nat.le_antisymm hi hik
      rcases hb with ⟨_, b2, b3⟩ | ⟨b1, b2⟩
      · exact h3.nz b3 b2
      · have := h3.lo; omega
  · rcases Nat.lt_or_ge i k with hik | hik
    · have := h3.hi i hik; omega
    · obtain rfl : i = k := Nat.le_antisymm hi hik
      exact ⟨rfl, ⟨.any _, .any _, .any _, .any _, .any _, .refl _, trivial⟩, LeH.refl _⟩
  · rcases Nat.lt_or_ge i k with hik | hik
    · exact ⟨i + 1, LeL.refl _, LeH.refl _, hik, rfl, by show k - (i + 1) < k - i; omega⟩
    · obtain rfl : i = k := Nat.le_antisymm hi hik
      have := h3.lo; omega
theorem loopPb_ok {off len N k : Nat} {t : ByteArray} (h : IsBad t off len k) (hlen : len ≤ 1000000000000) : ∀ i, i ≤ k → LoopOK Try.prog Γb 2 75 loopP (LSpec.at [0, 19, 20, 21, 3, 2] [] (SP off len N t i) (OPb N t)) := by
  obtain ⟨h1, h2, h3, h4⟩ := h
  refine loop_at (S := SP off len N t) (pre := fun i => i ≤ k) (O := fun _ => OPb N t) (k := 0) (fun i => k - i) fun i hi => ⟨[kFail], Lno, false, noLoops (by kernel_rfl), ?_⟩
  refine stepP (by omega) (by omega) hlen fun c hc => ?_
  subst hc
  refine ⟨fun hb => ?_, fun hl hz hv => ?_, fun hl h8 => ?_⟩
  · exact ⟨rfl, ⟨.any _, .any _, .any _, .any _, .any _, .refl _, trivial⟩, LeH.refl _⟩
  · exfalso
    rcases Nat.lt_or_ge i k with hik | hik
    · have := h3 i hik; omega
    · obtain rfl : i = k := Nat.le_antisymm hi hik
      rcases h4 with ⟨_, b2, b3⟩ | ⟨b1, b2⟩
      · exact hz b3 b2
      · have := hv b1; omega
  · rcases Nat.lt_or_ge i k with hik | hik
    · exact ⟨i + 1, LeL.refl _, LeH.refl _, hik, rfl, by show k - (i + 1) < k - i; omega⟩
    · obtain rfl : i = k := Nat.le_antisymm hi hik
      exfalso
      rcases h4 with ⟨b1, _, _⟩ | ⟨b1, b2⟩
      · omega
      · omega
theorem loopPc_ok {off len N : Nat} {t : ByteArray} (h : IsCut t off len) : ∀ i, i ≤ len → LoopOK Try.prog Γb 2 75 loopP (LSpec.at [0, 19, 20, 21, 3, 2] [] (SP off len N t i) (OPc off len N t)) := by
  obtain ⟨h1, h2⟩ := h
  refine loop_at (S := SP off len N t) (pre := fun i => i ≤ len) (O := fun _ => OPc off len N t) (k := 0) (fun i => len - i) fun i hi => ⟨[kFail], Lno, false, noLoops (by kernel_rfl), ?_⟩
  rcases Nat.lt_or_ge i len with hil | hil
  · refine stepP (by omega) hil (by omega) fun c hc => ?_
    subst hc
    have hb := h2 i hil
    refine ⟨fun hb' => ?_, fun hl _ _ => ?_, fun hl h8 => ?_⟩
    · exfalso; rcases hb' with ⟨b1, _, _⟩ | ⟨b1, _⟩ <;> omega
    · exfalso; omega
    · exact ⟨i + 1, LeL.refl _, LeH.refl _, hil, rfl, by show len - (i + 1) < len - i; omega⟩
  · obtain rfl : i = len := Nat.le_antisymm hi hil
    show (roundE (P := Try.prog) (Γ := Γb) [kFail] Lno false 2 0 loopP [0, 19, 20, 21, 3, 2] [] 75 [.ptr 0 0, .hs 1 off i, .v (.int .i64 (i : Int)), .v (.int .i64 (i : Int)), .v (.int .u64 (vAt t off i : Int)), .any] [some (.row [.hs 1 off i, .v (.int .i64 0)]), some (.arr 1 N (bsF t))]).sat _
    rw [roundP, decide_eq_false (show ¬ (i : Int) < (i : Int) by omega)]
    exact ⟨fun h => by simp at h, fun _ => ⟨rfl, ⟨.refl _, .any _, .any _, .any _, .any _, .any _, trivial⟩, LeH.refl _⟩⟩
theorem runPg (off len N k : Nat) (t : ByteArray) : bodyE (P := Try.prog) (Γ := Γb) [kFail] (fun _ => LSpec.at [0, 19, 20, 21, 3, 2] [] (SP off len N t 0) (OPg off len N t k)) false 75 [.tmp 2] (bodyOf Try.f87) [.ptr 0 0] (rdB off len N t) =
  Tree.br false (Tree.leaf (Ans.mk (AV.v (Value.int IntKind.i64 (0 : Int))) [some (Blk.row [AV.hs (1 : Nat) off len, AV.v (Value.int IntKind.i64 (0 : Int))]), some (Blk.arr (1 : Nat) N fun j
    => [AV.v (Value.int IntKind.u8 (sbyte t j))])])) (Tree.chk (cl (LeL [AV.ptr (0 : Nat) (0 : Nat), AV.hs (1 : Nat) off len, AV.v (Value.int IntKind.i64 (↑len : Int)), AV.v (Value.int
    IntKind.i64 (0 : Int)), AV.v (Value.int IntKind.u64 (0 : Int)), AV.v (Value.int IntKind.i64 (0 : Int))] [AV.ptr (0 : Nat) (0 : Nat), AV.hs (1 : Nat) off len, AV.v (Value.int IntKind.i64
    (↑len : Int)), AV.v (Value.int IntKind.i64 (↑(0 : Nat) : Int)), AV.v (Value.int IntKind.u64 (↑(0 : Nat) : Int)), AV.any] ∧ LeH [some (Blk.row [AV.hs (1 : Nat) off len, AV.v (Value.int
    IntKind.i64 (0 : Int))]), some (Blk.arr (1 : Nat) N fun j => [AV.v (Value.int IntKind.u8 (sbyte t j))])] [some (Blk.row [AV.hs (1 : Nat) off len, AV.v (Value.int IntKind.i64 (0 :
    Int))]), some (Blk.arr (1 : Nat) N fun j => [AV.v (Value.int IntKind.u8 (sbyte t j))])])) (Tree.leaf (Ans.mk (AV.v (Value.int IntKind.i64 (↑(vAt t off (k + (1 : Nat))) : Int))) [some
    (Blk.row [AV.hs (1 : Nat) (off + (k + (1 : Nat))) (len - (k + (1 : Nat))), AV.v (Value.int IntKind.i64 (0 : Int))]), some (Blk.arr (1 : Nat) N fun j => [AV.v (Value.int IntKind.u8 (sbyte
    t j))])]))) := by kernel_rfl
theorem runPb (off len N : Nat) (t : ByteArray) : bodyE (P := Try.prog) (Γ := Γb) [kFail] (fun _ => LSpec.at [0, 19, 20, 21, 3, 2] [] (SP off len N t 0) (OPb N t)) false 75 [.tmp 2] (bodyOf Try.f87) [.ptr 0 0] (rdB off len N t) =
  Tree.br false (Tree.leaf (Ans.mk (AV.v (Value.int IntKind.i64 (0 : Int))) [some (Blk.row [AV.hs (1 : Nat) off len, AV.v (Value.int IntKind.i64 (0 : Int))]), some (Blk.arr (1 : Nat) N fun j
    => [AV.v (Value.int IntKind.u8 (sbyte t j))])])) (Tree.chk (cl (LeL [AV.ptr (0 : Nat) (0 : Nat), AV.hs (1 : Nat) off len, AV.v (Value.int IntKind.i64 (↑len : Int)), AV.v (Value.int
    IntKind.i64 (0 : Int)), AV.v (Value.int IntKind.u64 (0 : Int)), AV.v (Value.int IntKind.i64 (0 : Int))] [AV.ptr (0 : Nat) (0 : Nat), AV.hs (1 : Nat) off len, AV.v (Value.int IntKind.i64
    (↑len : Int)), AV.v (Value.int IntKind.i64 (↑(0 : Nat) : Int)), AV.v (Value.int IntKind.u64 (↑(0 : Nat) : Int)), AV.any] ∧ LeH [some (Blk.row [AV.hs (1 : Nat) off len, AV.v (Value.int
    IntKind.i64 (0 : Int))]), some (Blk.arr (1 : Nat) N fun j => [AV.v (Value.int IntKind.u8 (sbyte t j))])] [some (Blk.row [AV.hs (1 : Nat) off len, AV.v (Value.int IntKind.i64 (0 :
    Int))]), some (Blk.arr (1 : Nat) N fun j => [AV.v (Value.int IntKind.u8 (sbyte t j))])])) (Tree.leaf (Ans.mk (AV.v (Value.int IntKind.i64 (0 : Int))) [some (Blk.row [AV.v (Value.slice
    none (0 : Nat) (0 : Nat)), AV.v (Value.int IntKind.i64 (31 : Int))]), some (Blk.arr (1 : Nat) N fun j => [AV.v (Value.int IntKind.u8 (sbyte t j))])]))) := by kernel_rfl
theorem runPc (off len N : Nat) (t : ByteArray) : bodyE (P := Try.prog) (Γ := Γb) [kFail] (fun _ => LSpec.at [0, 19, 20, 21, 3, 2] [] (SP off len N t 0) (OPc off len N t)) false 75 [.tmp 2] (bodyOf Try.f87) [.ptr 0 0] (rdB off len N t) =
  Tree.br false (Tree.leaf (Ans.mk (AV.v (Value.int IntKind.i64 (0 : Int))) [some (Blk.row [AV.hs (1 : Nat) off len, AV.v (Value.int IntKind.i64 (0 : Int))]), some (Blk.arr (1 : Nat) N fun j
    => [AV.v (Value.int IntKind.u8 (sbyte t j))])])) (Tree.chk (cl (LeL [AV.ptr (0 : Nat) (0 : Nat), AV.hs (1 : Nat) off len, AV.v (Value.int IntKind.i64 (↑len : Int)), AV.v (Value.int
    IntKind.i64 (0 : Int)), AV.v (Value.int IntKind.u64 (0 : Int)), AV.v (Value.int IntKind.i64 (0 : Int))] [AV.ptr (0 : Nat) (0 : Nat), AV.hs (1 : Nat) off len, AV.v (Value.int IntKind.i64
    (↑len : Int)), AV.v (Value.int IntKind.i64 (↑(0 : Nat) : Int)), AV.v (Value.int IntKind.u64 (↑(0 : Nat) : Int)), AV.any] ∧ LeH [some (Blk.row [AV.hs (1 : Nat) off len, AV.v (Value.int
    IntKind.i64 (0 : Int))]), some (Blk.arr (1 : Nat) N fun j => [AV.v (Value.int IntKind.u8 (sbyte t j))])] [some (Blk.row [AV.hs (1 : Nat) off len, AV.v (Value.int IntKind.i64 (0 :
    Int))]), some (Blk.arr (1 : Nat) N fun j => [AV.v (Value.int IntKind.u8 (sbyte t j))])])) (Tree.br true (Tree.leaf (Ans.mk (AV.v (Value.int IntKind.i64 (0 : Int))) [some (Blk.row [AV.v
    (Value.slice none (0 : Nat) (0 : Nat)), AV.v (Value.int IntKind.i64 (30 : Int))]), some (Blk.arr (1 : Nat) N fun j => [AV.v (Value.int IntKind.u8 (sbyte t j))])])) (Tree.leaf (Ans.mk
    (AV.v (Value.int IntKind.i64 (0 : Int))) [some (Blk.row [AV.hs (1 : Nat) off len, AV.v (Value.int IntKind.i64 (0 : Int))]), some (Blk.arr (1 : Nat) N fun j => [AV.v (Value.int IntKind.u8
    (sbyte t j))])])))) := by kernel_rfl
theorem ansReadG {off len N k : Nat} {t : ByteArray} (h : IsGood t off len k) (hlen : len ≤ 1000000000000) : Answers Try.prog Γb 87 [.ptr 0 0] (rdB off len N t) (.v (.int .i64 (vAt t off (k + 1) : Int))) ((rdB (off + (k + 1)) (len - (k + 1)) N t).map some) [] :=
  answers (fn := Try.f87) (c := bodyOf Try.f87) (ntmps := 75) (results := [.tmp 2]) [kFail] (fun _ => LSpec.at [0, 19, 20, 21, 3, 2] [] (SP off len N t 0) (OPg off len N t k)) false Try.func87 (by kernel_rfl) (by kernel_rfl) (by kernel_rfl) (by kernel_rfl) (by simp) rfl (oneLoop (b := loopP) (by kernel_rfl) (loopPg_ok h hlen 0 (Nat.zero_le _)))
    (Meets.of (runPg off len N k t) ⟨fun h => by simp at h, fun _ => ⟨cl_iff.2 ⟨⟨.refl _, .refl _, .refl _, .refl _, .refl _, .any _, trivial⟩, LeH.refl _⟩, .refl _, LeH.refl _⟩⟩)
theorem ansReadB {off len N k : Nat} {t : ByteArray} (h : IsBad t off len k) (hlen : len ≤ 1000000000000) : Answers Try.prog Γb 87 [.ptr 0 0] (rdB off len N t) (.v (.int .i64 0)) (badB 31 N t) [] :=
  answers (fn := Try.f87) (c := bodyOf Try.f87) (ntmps := 75) (results := [.tmp 2]) [kFail] (fun _ => LSpec.at [0, 19, 20, 21, 3, 2] [] (SP off len N t 0) (OPb N t)) false Try.func87 (by kernel_rfl) (by kernel_rfl) (by kernel_rfl) (by kernel_rfl) (by simp) rfl (oneLoop (b := loopP) (by kernel_rfl) (loopPb_ok h hlen 0 (Nat.zero_le _)))
    (Meets.of (runPb off len N t) ⟨fun h => by simp at h, fun _ => ⟨cl_iff.2 ⟨⟨.refl _, .refl _, .refl _, .refl _, .refl _, .any _, trivial⟩, LeH.refl _⟩, .refl _, LeH.refl _⟩⟩)
theorem ansReadC {off len N : Nat} {t : ByteArray} (h : IsCut t off len) : Answers Try.prog Γb 87 [.ptr 0 0] (rdB off len N t) (.v (.int .i64 0)) (badB 30 N t) [] :=
  answers (fn := Try.f87) (c := bodyOf Try.f87) (ntmps := 75) (results := [.tmp 2]) [kFail] (fun _ => LSpec.at [0, 19, 20, 21, 3, 2] [] (SP off len N t 0) (OPc off len N t)) false Try.func87 (by kernel_rfl) (by kernel_rfl) (by kernel_rfl) (by kernel_rfl) (by simp) rfl (oneLoop (b := loopP) (by kernel_rfl) (loopPc_ok h 0 (Nat.zero_le _)))
    (Meets.of (runPc off len N t) ⟨fun h => by simp at h, fun _ => ⟨cl_iff.2 ⟨⟨.refl _, .refl _, .refl _, .refl _, .refl _, .any _, trivial⟩, LeH.refl _⟩, fun _ => ⟨.refl _, LeH.refl _⟩, fun h => by simp at h⟩⟩)

def rdb (t : ByteArray) (off : Nat) (e : Int) : List Blk := [.row [.hs 1 off (t.size - off), .v (.int .i64 e)], .arr 1 t.size (bsF t)]
theorem runPe (t : ByteArray) (off : Nat) (e : Int) : bodyE (P := Try.prog) (Γ := Γb) [kFail] Lno false 75 [.tmp 2] (bodyOf Try.f87) [.ptr 0 0] (rdb t off e) =
  Tree.br (!decide (e = (0 : Int))) (Tree.leaf (Ans.mk (AV.v (Value.int IntKind.i64 (0 : Int))) [some (Blk.row [AV.hs (1 : Nat) off (ByteArray.size t - off), AV.v (Value.int IntKind.i64 e)]),
    some (Blk.arr (1 : Nat) (ByteArray.size t) fun j => [AV.v (Value.int IntKind.u8 (sbyte t j))])])) Tree.fail := by kernel_rfl
theorem rdb_end {t : ByteArray} {e : Int} : [some (Blk.row [.hs 1 t.size 0, .v (.int .i64 e)]), some (Blk.arr 1 t.size (bsF t))] = (rdb t t.size e).map some := by
  unfold rdb
  rw [Nat.sub_self]; rfl
theorem ansRn {t : ByteArray} {off : Nat} {e : Int} (hz : t.size ≤ 1000000000000) : Answers Try.prog Γb 87 [.ptr 0 0] (rdb t off e) (.v (.int .i64 (qN t off e))) ((rdb t (qO t off e) (qE t off e)).map some) [] := by
  by_cases he : e = 0
  · subst he
    rcases classify t off (t.size - off) with ⟨k, hk⟩ | hc | ⟨k, hk⟩
    · obtain ⟨h1, h2, h3⟩ := q_good hk
      rw [h1, h2, h3]
      have := ansReadG (N := t.size) hk (by omega)
      rw [Nat.sub_sub] at this
      exact this
    · obtain ⟨h1, h2, h3⟩ := q_cut hc
      rw [h1, h2, h3, ← rdb_end]
      exact Answers.boxOut (Hin := rdB off (t.size - off) t.size t) 0 0 0 1 0 0 off (t.size - off) rfl rfl rfl (by show 1 < 2; decide) rfl rfl rfl (ansReadC (N := t.size) hc)
    · obtain ⟨h1, h2, h3⟩ := q_no hk
      rw [h1, h2, h3, ← rdb_end]
      exact Answers.boxOut (Hin := rdB off (t.size - off) t.size t) 0 0 0 1 0 0 off (t.size - off) rfl rfl rfl (by show 1 < 2; decide) rfl rfl rfl (ansReadB (N := t.size) hk (by omega))
  · rw [qN_bad he, qO_bad he, qE_bad he]
    exact answers (fn := Try.f87) (c := bodyOf Try.f87) (ntmps := 75) (results := [.tmp 2]) [kFail] Lno false Try.func87 (by kernel_rfl) (by kernel_rfl) (by kernel_rfl) (by kernel_rfl) (by simp) rfl (fun _ _ _ => fail_ok)
      (Meets.of (runPe t off e) (by
        rw [decide_eq_false he]
        exact ⟨fun _ => ⟨.refl _, LeH.refl _⟩, fun h => by simp at h⟩))
def ofR : List AV → List Blk → Option (Nat × Int)
  | [.ptr 0 0], [.row [.hs 1 off _, .v (.int _ e)], .arr _ _ _] => some (off, e)
  | _, _ => none
def ofRI : List AV → List Blk → Option (Nat × Int × Int)
  | [.ptr 0 0, .v (.int _ n)], [.row [.hs 1 off _, .v (.int _ e)], .arr _ _ _] => some (off, e, n)
  | _, _ => none
noncomputable def kRn (t : ByteArray) (hz : t.size ≤ 1000000000000) : CT Try.prog Γb := CT.par 87 ofR (fun _ => True) (fun _ => [.ptr 0 0]) (fun | (off, e) => rdb t off e) (fun | (off, e) => .v (.int .i64 (qN t off e))) (fun | (off, e) => (rdb t (qO t off e) (qE t off e)).map some) (fun _ => [])
  (callFunc_enters Try.func87 (by kernel_rfl) (by kernel_rfl)) (fun | (off, e), _ => ansRn hz)
def fO (n off : Nat) (e x : Int) : Nat := if e = 0 ∧ ¬ x = 0 then n else off
def fE (e x : Int) : Int := if e = 0 ∧ ¬ x = 0 then x else e
theorem runFl (t : ByteArray) (off : Nat) (e x : Int) : bodyE (P := Try.prog) (Γ := Γb) [] Lno false 24 [] (bodyOf Try.f97) [.ptr 0 0, .v (.int .i64 x)] (rdb t off e) =
  Tree.br (bif decide (e = (0 : Int)) then !decide (x = (0 : Int)) else false) (Tree.leaf (Ans.mk (AV.tup []) [some (Blk.row [AV.v (Value.slice none (0 : Nat) (0 : Nat)), AV.v (Value.int
    IntKind.i64 x)]), some (Blk.arr (1 : Nat) (ByteArray.size t) fun j => [AV.v (Value.int IntKind.u8 (sbyte t j))])])) (Tree.leaf (Ans.mk (AV.tup []) [some (Blk.row [AV.hs (1 : Nat) off
    (ByteArray.size t - off), AV.v (Value.int IntKind.i64 e)]), some (Blk.arr (1 : Nat) (ByteArray.size t) fun j => [AV.v (Value.int IntKind.u8 (sbyte t j))])])) := by kernel_rfl
theorem ansFl {t : ByteArray} {off : Nat} {e x : Int} : Answers Try.prog Γb 97 [.ptr 0 0, .v (.int .i64 x)] (rdb t off e) (.tup []) ((rdb t (fO t.size off e x) (fE e x)).map some) [] := by
  by_cases h : e = 0 ∧ ¬ x = 0
  · have e1 : fO t.size off e x = t.size := if_pos h
    have e2 : fE e x = x := if_pos h
    rw [e1, e2, ← rdb_end]
    refine Answers.boxOut (Hin := rdb t off e) 0 0 0 1 0 0 off (t.size - off) rfl rfl rfl (by show 1 < 2; decide) rfl rfl rfl (v := .tup []) (H1 := badB x t.size t) (new := []) ?_
    refine answers (fn := Try.f97) (c := bodyOf Try.f97) (ntmps := 24) (results := []) [] (Lno) false Try.func97 (by kernel_rfl) (by kernel_rfl) (by kernel_rfl) (by kernel_rfl) (by simp) rfl (failOK fun _ _ _ => rfl) <| Meets.of (runFl t off e x) <| ?_
    rw [decide_eq_true h.1, decide_eq_false h.2]
    exact ⟨fun _ => ⟨.refl _, LeH.refl _⟩, fun h => by simp at h⟩
  · have e1 : fO t.size off e x = off := if_neg h
    have e2 : fE e x = e := if_neg h
    rw [e1, e2]
    refine answers (fn := Try.f97) (c := bodyOf Try.f97) (ntmps := 24) (results := []) [] (Lno) false Try.func97 (by kernel_rfl) (by kernel_rfl) (by kernel_rfl) (by kernel_rfl) (by simp) rfl (failOK fun _ _ _ => rfl) <| Meets.of (runFl t off e x) <| ?_
    have hc : (bif decide (e = (0 : Int)) then !decide (x = (0 : Int)) else false) = false := by
      by_cases h1 : e = 0
      · have h2 : x = 0 := by
          by_cases h2 : x = 0
          · exact h2
          · exact absurd ⟨h1, h2⟩ h
        rw [decide_eq_true h1, decide_eq_true h2]; rfl
      · rw [decide_eq_false h1]; rfl
    rw [hc]
    exact ⟨fun h => by simp at h, fun _ => ⟨.refl _, LeH.refl _⟩⟩
noncomputable def kFl (t : ByteArray) : CT Try.prog Γb := CT.par 97 ofRI (fun _ => True) (fun | (off, e, x) => [.ptr 0 0, .v (.int .i64 x)]) (fun | (off, e, x) => rdb t off e) (fun _ => .tup []) (fun | (off, e, x) => (rdb t (fO t.size off e x) (fE e x)).map some) (fun _ => [])
  (callFunc_enters Try.func97 (by kernel_rfl) (by kernel_rfl)) (fun | (off, e, x), _ => ansFl)
theorem runRs (t : ByteArray) (off : Nat) (e : Int) : bodyE (P := Try.prog) (Γ := Γb) [] Lno false 10 [.tmp 2] (bodyOf Try.f44) [.ptr 0 0] (rdb t off e) =
  Tree.leaf (Ans.mk (AV.v (Value.int IntKind.i64 (↑(ByteArray.size t - off) : Int))) [some (Blk.row [AV.hs (1 : Nat) off (ByteArray.size t - off), AV.v (Value.int IntKind.i64 e)]), some
    (Blk.arr (1 : Nat) (ByteArray.size t) fun j => [AV.v (Value.int IntKind.u8 (sbyte t j))])]) := by kernel_rfl
theorem ansRs {t : ByteArray} {off : Nat} {e : Int} : Answers Try.prog Γb 44 [.ptr 0 0] (rdb t off e) (.v (.int .i64 ((t.size - off : Nat) : Int))) ((rdb t off e).map some) [] := by
  refine answers (fn := Try.f44) (c := bodyOf Try.f44) (ntmps := 10) (results := [.tmp 2]) [] (Lno) false Try.func44 (by kernel_rfl) (by kernel_rfl) (by kernel_rfl) (by kernel_rfl) (by simp) rfl (failOK fun _ _ _ => rfl) <| Meets.of (runRs t off e) <| ?_
  repeat' (first | refine wC (by first | omega | (simp only [W1, cond_true, cond_false]; first | done | omega)) ?_ | refine wT (by first | omega | (simp only [W1, cond_true, cond_false]; first | done | omega)) ?_ | refine wF (by intro _h; first | omega | (simp only [W1, cond_true, cond_false] at _h; first | done | omega)) ?_ | (refine wS ?_ ?_ <;> intro _h <;> simp only [W1, cond_true, cond_false] at _h))
  all_goals simp only [W1, W2, owesN, owesX, owesR, cond_true, cond_false]
  repeat' (first | apply And.intro | intro _hc)
  all_goals first | exact AV.le_refl _ | exact AV.le_any _ | exact OLe.refl _ | exact OLe.none _ | exact LeH.refl _ | exact LeL.refl _ | exact AV.le.bs _ | exact AV.le.sb _ | omega | contradiction
noncomputable def kRs (t : ByteArray) : CT Try.prog Γb := CT.par 44 ofR (fun _ => True) (fun _ => [.ptr 0 0]) (fun | (off, e) => rdb t off e) (fun | (off, e) => .v (.int .i64 ((t.size - off : Nat) : Int))) (fun | (off, e) => (rdb t off e).map some) (fun _ => [])
  (callFunc_enters Try.func44 (by kernel_rfl) (by kernel_rfl)) (fun | (off, e), _ => ansRs)
def dE (t : ByteArray) (off : Nat) (e : Int) : Int := if e = 0 ∧ off < t.size then 32 else e
theorem runDn (t : ByteArray) (off : Nat) (e : Int) : bodyE (P := Try.prog) (Γ := Γb) [] Lno false 24 [.tmp 2] (bodyOf Try.f88) [.ptr 0 0] (rdb t off e) =
  Tree.br (bif decide (e = (0 : Int)) then decide ((0 : Int) < (↑(ByteArray.size t - off) : Int)) else false) (Tree.leaf (Ans.mk (AV.v (Value.int IntKind.i64 (32 : Int))) [some (Blk.row [AV.hs
    (1 : Nat) off (ByteArray.size t - off), AV.v (Value.int IntKind.i64 e)]), some (Blk.arr (1 : Nat) (ByteArray.size t) fun j => [AV.v (Value.int IntKind.u8 (sbyte t j))])])) (Tree.leaf
    (Ans.mk (AV.v (Value.int IntKind.i64 e)) [some (Blk.row [AV.hs (1 : Nat) off (ByteArray.size t - off), AV.v (Value.int IntKind.i64 e)]), some (Blk.arr (1 : Nat) (ByteArray.size t) fun j
    => [AV.v (Value.int IntKind.u8 (sbyte t j))])])) := by kernel_rfl
theorem ansDn {t : ByteArray} {off : Nat} {e : Int} : Answers Try.prog Γb 88 [.ptr 0 0] (rdb t off e) (.v (.int .i64 (dE t off e))) ((rdb t off e).map some) [] := by
  refine answers (fn := Try.f88) (c := bodyOf Try.f88) (ntmps := 24) (results := [.tmp 2]) [] (Lno) false Try.func88 (by kernel_rfl) (by kernel_rfl) (by kernel_rfl) (by kernel_rfl) (by simp) rfl (failOK fun _ _ _ => rfl) <| Meets.of (runDn t off e) <| ?_
  by_cases h : e = 0 ∧ off < t.size
  · have e1 : dE t off e = 32 := if_pos h
    obtain ⟨h1, h2⟩ := h
    rw [e1]
    repeat' (first | refine wC (by first | omega | (simp only [W1, cond_true, cond_false, h1]; first | done | omega)) ?_ | refine wT (by first | omega | (simp only [W1, cond_true, cond_false, h1]; first | done | omega)) ?_ | refine wF (by intro _h; first | omega | (simp only [W1, cond_true, cond_false, h1] at _h; first | done | omega)) ?_ | (refine wS ?_ ?_ <;> intro _h <;> simp only [W1, cond_true, cond_false, h1] at _h))
    all_goals simp only [W1, W2, owesN, owesX, owesR, cond_true, cond_false, h1]
    repeat' (first | apply And.intro | intro _hc)
    all_goals first | exact AV.le_refl _ | exact AV.le_any _ | exact OLe.refl _ | exact OLe.none _ | exact LeH.refl _ | exact LeL.refl _ | exact AV.le.bs _ | exact AV.le.sb _ | omega | contradiction
  · have e1 : dE t off e = e := if_neg h
    rw [e1]
    repeat' (first | refine wC (by first | omega | (simp only [W1, cond_true, cond_false]; first | done | omega)) ?_ | refine wT (by first | omega | (simp only [W1, cond_true, cond_false]; first | done | omega)) ?_ | refine wF (by intro _h; first | omega | (simp only [W1, cond_true, cond_false] at _h; first | done | omega)) ?_ | (refine wS ?_ ?_ <;> intro _h <;> simp only [W1, cond_true, cond_false] at _h))
    all_goals simp only [W1, W2, owesN, owesX, owesR, cond_true, cond_false]
    repeat' (first | apply And.intro | intro _hc)
    all_goals first | exact AV.le_refl _ | exact AV.le_any _ | exact OLe.refl _ | exact OLe.none _ | exact LeH.refl _ | exact LeL.refl _ | exact AV.le.bs _ | exact AV.le.sb _ | omega | contradiction
noncomputable def kDn (t : ByteArray) : CT Try.prog Γb := CT.par 88 ofR (fun _ => True) (fun _ => [.ptr 0 0]) (fun | (off, e) => rdb t off e) (fun | (off, e) => .v (.int .i64 (dE t off e))) (fun | (off, e) => (rdb t off e).map some) (fun _ => [])
  (callFunc_enters Try.func88 (by kernel_rfl) (by kernel_rfl)) (fun | (off, e), _ => ansDn)
end Go.Eng.SB

namespace Go.Eng.SB
open Go Go.Eng Go.Eng.M Go.Eng.RD Go.Proofs
theorem fO_ok {t : ByteArray} {off : Nat} {e x : Int} (h : okS t off e) (hx : ¬ x = 0) : okS t (fO t.size off e x) (fE e x) := by
  unfold fO fE
  by_cases he : e = 0 ∧ ¬ x = 0
  · rw [if_pos he, if_pos he]; exact ⟨Nat.le_refl _, .inr rfl⟩
  · rw [if_neg he, if_neg he]; exact h
theorem runCcap (cap : Nat) : bodyE (P := Try.prog) (Γ := Γb) [] Lno false 8 [.tmp 2] (bodyOf Try.f95) [.v (.slice none 0 cap)] [] =
  Tree.leaf (Ans.mk (AV.v (Value.slice none (0 : Nat) (0 : Nat))) []) := by kernel_rfl
theorem runCmk  : bodyE (P := Try.prog) (Γ := Γb) [] Lno false 8 [.tmp 2] (bodyOf Try.f95) [.sl 1 0 fun _ => [.v (.tuple #[])]] [] =
  Tree.chk true (Tree.chk true (Tree.leaf (Ans.mk (AV.hs (0 : Nat) (0 : Nat) (0 : Nat)) [some (Blk.arr (1 : Nat) (0 : Nat) fun j => mixL (decide (j < (0 : Nat))) (chain [AV.v (Value.int
    IntKind.u8 (0 : Int))] (0 : Nat) [] ((0 : Nat) + j)) [AV.v (Value.tuple #[])])]))) := by kernel_rfl
theorem ansClE {g : Nat → List AV} : Answers Try.prog Γb 95 [.sl 1 0 g] [] (.hs 0 0 0) [] [.arr 1 0 fun _ => [.v (.int .u8 0)]] := by
  refine Answers.nilSl (sz := 1) (z := [.v (.int .u8 0)]) rfl (M := [.v (.tuple #[])]) rfl (fun cap => ?_) ?_
  · refine answers (fn := Try.f95) (c := bodyOf Try.f95) (ntmps := 8) (results := [.tmp 2]) [] (Lno) false Try.func95 (by kernel_rfl) (by kernel_rfl) (by kernel_rfl) (by kernel_rfl) (by simp) rfl (failOK fun _ _ _ => rfl) <| Meets.of (runCcap cap) <| ?_
    repeat' (first | refine wC (by first | omega | (simp only [W1, cond_true, cond_false]; first | done | omega)) ?_ | refine wT (by first | omega | (simp only [W1, cond_true, cond_false]; first | done | omega)) ?_ | refine wF (by intro _h; first | omega | (simp only [W1, cond_true, cond_false] at _h; first | done | omega)) ?_ | (refine wS ?_ ?_ <;> intro _h <;> simp only [W1, cond_true, cond_false] at _h))
    all_goals simp only [W1, W2, owesN, owesX, owesR, cond_true, cond_false]
    repeat' (first | apply And.intro | intro _hc)
    all_goals first | exact AV.le_refl _ | exact AV.le_any _ | exact OLe.refl _ | exact OLe.none _ | exact LeH.refl _ | exact LeL.refl _ | exact AV.le.bs _ | exact AV.le.sb _ | omega | contradiction
  · refine answers (fn := Try.f95) (c := bodyOf Try.f95) (ntmps := 8) (results := [.tmp 2]) [] (Lno) false Try.func95 (by kernel_rfl) (by kernel_rfl) (by kernel_rfl) (by kernel_rfl) (by simp) rfl (failOK fun _ _ _ => rfl) <| Meets.of (runCmk) <| ?_
    refine ⟨rfl, rfl, .refl _, OLe.arr rfl (fun e he => absurd he (Nat.not_lt_zero e)) (fun _ => rfl), trivial⟩
theorem runNwE (g : Nat → List AV) : bodyE (P := Try.prog) (Γ := Γb) [CT.at 95 (ansClE (g := g))] Lno false 7 [.tmp 2] (bodyOf Try.f42) [.sl 1 0 g] [] =
  Tree.chk (cl (LeL [AV.sl (1 : Nat) (0 : Nat) g] [AV.sl (1 : Nat) (0 : Nat) g] ∧ LeH [] [])) (Tree.leaf (Ans.mk (AV.ptr (0 : Nat) (0 : Nat)) [some (Blk.row [AV.hs (1 : Nat) (0 : Nat) (0 :
    Nat), AV.v (Value.int IntKind.i64 (0 : Int))]), some (Blk.arr (1 : Nat) (0 : Nat) fun x => [AV.v (Value.int IntKind.u8 (0 : Int))])])) := by kernel_rfl
theorem runNwH (t : ByteArray) (h : (BA.hs t).ok) : bodyE (P := Try.prog) (Γ := Γb) [CT.at 95 (ansClone (.hs t) h)] Lno false 7 [.tmp 2] (bodyOf Try.f42) [.hs 0 0 t.size] [.arr 1 t.size (bsF t)] =
  Tree.chk (cl (LeL [AV.hs (0 : Nat) (0 : Nat) (ByteArray.size t)] [AV.hs (0 : Nat) (0 : Nat) (ByteArray.size t)] ∧ LeH [some (Blk.arr (1 : Nat) (ByteArray.size t) fun j => [AV.v (Value.int
    IntKind.u8 (sbyte t j))])] [some (Blk.arr (1 : Nat) (ByteArray.size t) fun j => [AV.v (Value.int IntKind.u8 (sbyte t j))])])) (Tree.leaf (Ans.mk (AV.ptr (1 : Nat) (0 : Nat)) [some
    (Blk.arr (1 : Nat) (ByteArray.size t) fun j => [AV.v (Value.int IntKind.u8 (sbyte t j))]), some (Blk.row [AV.hs (2 : Nat) (0 : Nat) (ByteArray.size t), AV.v (Value.int IntKind.i64 (0 :
    Int))]), some (Blk.arr (1 : Nat) (ByteArray.size t) fun j => [AV.v (Value.int IntKind.u8 (sbyte t j))])])) := by kernel_rfl
theorem ansNwE {g : Nat → List AV} : Answers Try.prog Γb 42 [.sl 1 0 g] [] (.ptr 0 0) [] (rdb ⟨#[]⟩ 0 0) := by
  refine answers (fn := Try.f42) (c := bodyOf Try.f42) (ntmps := 7) (results := [.tmp 2]) [CT.at 95 (ansClE (g := g))] (Lno) false Try.func42 (by kernel_rfl) (by kernel_rfl) (by kernel_rfl) (by kernel_rfl) (by simp) rfl (failOK fun _ _ _ => rfl) <| Meets.of (runNwE g) <| ?_
  repeat' (first | refine wC (by first | omega | (simp only [W1, cond_true, cond_false]; first | done | omega)) ?_ | refine wT (by first | omega | (simp only [W1, cond_true, cond_false]; first | done | omega)) ?_ | refine wF (by intro _h; first | omega | (simp only [W1, cond_true, cond_false] at _h; first | done | omega)) ?_ | (refine wS ?_ ?_ <;> intro _h <;> simp only [W1, cond_true, cond_false] at _h))
  all_goals simp only [W1, W2, owesN, owesX, owesR, cond_true, cond_false]
  repeat' (first | apply And.intro | intro _hc)
  all_goals first | exact OLe.arr rfl (fun e he => absurd he (Nat.not_lt_zero e)) (fun _ => rfl) | exact AV.le_refl _ | exact AV.le_any _ | exact OLe.refl _ | exact OLe.none _ | exact LeH.refl _ | exact LeL.refl _ | exact AV.le.bs _ | exact AV.le.sb _ | omega | contradiction
theorem ansNwH {t : ByteArray} (h : (BA.hs t).ok) : Answers Try.prog Γb 42 [.hs 0 0 t.size] [.arr 1 t.size (bsF t)] (.ptr 1 0) [some (.arr 1 t.size (bsF t))] [.row [.hs 2 0 t.size, .v (.int .i64 0)], .arr 1 t.size (bsF t)] := by
  refine answers (fn := Try.f42) (c := bodyOf Try.f42) (ntmps := 7) (results := [.tmp 2]) [CT.at 95 (ansClone (.hs t) h)] (Lno) false Try.func42 (by kernel_rfl) (by kernel_rfl) (by kernel_rfl) (by kernel_rfl) (by simp) rfl (failOK fun _ _ _ => rfl) <| Meets.of (runNwH t h) <| ?_
  repeat' (first | refine wC (by first | omega | (simp only [W1, cond_true, cond_false]; first | done | omega)) ?_ | refine wT (by first | omega | (simp only [W1, cond_true, cond_false]; first | done | omega)) ?_ | refine wF (by intro _h; first | omega | (simp only [W1, cond_true, cond_false] at _h; first | done | omega)) ?_ | (refine wS ?_ ?_ <;> intro _h <;> simp only [W1, cond_true, cond_false] at _h))
  all_goals simp only [W1, W2, owesN, owesX, owesR, cond_true, cond_false]
  repeat' (first | apply And.intro | intro _hc)
  all_goals first | exact AV.le_refl _ | exact AV.le_any _ | exact OLe.refl _ | exact OLe.none _ | exact LeH.refl _ | exact LeL.refl _ | exact AV.le.bs _ | exact AV.le.sb _ | omega | contradiction
end Go.Eng.SB

namespace Go.Eng.SB.R
open Go Go.Eng Go.Eng.M Go.Eng.RD Go.Proofs
structure RX where
  off : Nat
  len : Nat
  e : Int
  N : Nat
  f : Nat → List AV
def RX.ok (t : ByteArray) (x : RX) : Prop := x.len = t.size - x.off ∧ x.N = t.size ∧ x.f = bsF t
def toX : List AV → List Blk → Option RX
  | [.ptr 0 0], [.row [.hs 1 off len, .v (.int .i64 e)], .arr 1 N f] => some ⟨off, len, e, N, f⟩
  | _, _ => none
def toXI : List AV → List Blk → Option (RX × Int)
  | [.ptr 0 0, .v (.int .i64 n)], [.row [.hs 1 off len, .v (.int .i64 e)], .arr 1 N f] => some (⟨off, len, e, N, f⟩, n)
  | _, _ => none
def rdu (t : ByteArray) (off : Nat) (e : Int) : List (Option (Option Blk)) := [some (some (.row [.hs 1 off (t.size - off), .v (.int .i64 e)])), none]
theorem toX_inv {args : List AV} {Hin : List Blk} {x : RX} {t : ByteArray} (h : toX args Hin = some x) (hp : x.ok t) : args = [.ptr 0 0] ∧ Hin = rdb t x.off x.e := by
  unfold toX at h
  split at h
  · cases h
    obtain ⟨h1, h2, h3⟩ := hp
    simp only at h1 h2 h3
    subst h1; subst h2; subst h3
    exact ⟨rfl, rfl⟩
  · cases h
theorem toXI_inv {args : List AV} {Hin : List Blk} {x : RX × Int} {t : ByteArray} (h : toXI args Hin = some x) (hp : x.1.ok t) : args = [.ptr 0 0, .v (.int .i64 x.2)] ∧ Hin = rdb t x.1.off x.1.e := by
  unfold toXI at h
  split at h
  · cases h
    obtain ⟨h1, h2, h3⟩ := hp
    simp only at h1 h2 h3
    subst h1; subst h2; subst h3
    exact ⟨rfl, rfl⟩
  · cases h
noncomputable def hRn (t : ByteArray) (hz : t.size ≤ 1000000000000) : CT Try.prog Γb := CT.ex 87 toX (RX.ok t) (fun x => .v (.int .i64 (qN t x.off x.e))) (fun x => rdu t (qO t x.off x.e) (qE t x.off x.e)) (fun _ => [])
  (callFunc_enters Try.func87 (by kernel_rfl) (by kernel_rfl)) (fun args Hin x hx hp => by
    obtain ⟨rfl, rfl⟩ := toX_inv hx hp
    exact (ansRn hz).cU rfl)
noncomputable def hFl (t : ByteArray) : CT Try.prog Γb := CT.ex 97 toXI (fun x => x.1.ok t) (fun _ => .tup []) (fun x => rdu t (fO t.size x.1.off x.1.e x.2) (fE x.1.e x.2)) (fun _ => [])
  (callFunc_enters Try.func97 (by kernel_rfl) (by kernel_rfl)) (fun args Hin x hx hp => by
    obtain ⟨rfl, rfl⟩ := toXI_inv hx hp
    exact ansFl.cU rfl)
noncomputable def hRs (t : ByteArray) : CT Try.prog Γb := CT.ex 44 toX (RX.ok t) (fun x => .v (.int .i64 ((t.size - x.off : Nat) : Int))) (fun _ => []) (fun _ => [])
  (callFunc_enters Try.func44 (by kernel_rfl) (by kernel_rfl)) (fun args Hin x hx hp => by
    obtain ⟨rfl, rfl⟩ := toX_inv hx hp
    exact ansRs.cU rfl)
noncomputable def hDn (t : ByteArray) : CT Try.prog Γb := CT.ex 88 toX (RX.ok t) (fun x => .v (.int .i64 (dE t x.off x.e))) (fun _ => []) (fun _ => [])
  (callFunc_enters Try.func88 (by kernel_rfl) (by kernel_rfl)) (fun args Hin x hx hp => by
    obtain ⟨rfl, rfl⟩ := toX_inv hx hp
    exact ansDn.cU rfl)
end Go.Eng.SB.R

namespace Go.Eng.SB.R
open Go Go.Eng Go.Eng.M Go.Eng.RD Go.Eng.SB Go.Proofs
structure NX where
  m : Int
  off : Nat
  len : Nat
  N : Nat
  f : Nat → List AV
def NX.ok (t : ByteArray) (x : NX) : Prop := x.len = t.size - x.off ∧ x.N = t.size ∧ x.f = bsF t ∧ qE t x.off 0 = 0 ∧ qN t x.off 0 ≤ x.m
def toN : List AV → List Blk → Option NX
  | [.v (.int .i64 m), .ptr 0 0], [.row [.ptr 1 0], .row [.hs 2 off len, .v (.int .i64 0)], .arr 1 N f] => some ⟨m, off, len, N, f⟩
  | _, _ => none
def ndb (t : ByteArray) (off : Nat) : List Blk := [.row [.ptr 1 0], .row [.hs 2 off (t.size - off), .v (.int .i64 0)], .arr 1 t.size (bsF t)]
theorem toN_inv {args : List AV} {Hin : List Blk} {x : NX} {t : ByteArray} (h : toN args Hin = some x) (hp : x.ok t) : args = [.v (.int .i64 x.m), .ptr 0 0] ∧ Hin = ndb t x.off := by
  unfold toN at h
  split at h
  · cases h
    obtain ⟨h1, h2, h3, _⟩ := hp
    simp only at h1 h2 h3
    subst h1; subst h2; subst h3
    exact ⟨rfl, rfl⟩
  · cases h
theorem runNx (t : ByteArray) (hz : t.size ≤ 1000000000000) (off : Nat) (m : Int) : bodyE (P := Try.prog) (Γ := Γb) [hRn t hz, hFl t] Lno false 13 [.tmp 3] (bodyOf Try.f96) [.v (.int .i64 m), .ptr 0 0] (ndb t off) =
  Tree.chk (cl (RX.ok t (RX.mk off (ByteArray.size t - off) (0 : Int) (ByteArray.size t) (bsF t)))) (Tree.br (decide (m < qN t off (0 : Int))) (Tree.chk (cl (RX.ok t (RX.mk (qO t off (0 :
    Int)) (ByteArray.size t - qO t off (0 : Int)) (qE t off (0 : Int)) (ByteArray.size t) (bsF t)))) (Tree.leaf (Ans.mk (AV.v (Value.int IntKind.i64 (qN t off (0 : Int)))) [some (Blk.row
    [AV.ptr (1 : Nat) (0 : Nat)]), some (Blk.row [AV.hs (2 : Nat) (fO (ByteArray.size t) (qO t off (0 : Int)) (qE t off (0 : Int)) (110 : Int)) (ByteArray.size t - fO (ByteArray.size t) (qO
    t off (0 : Int)) (qE t off (0 : Int)) (110 : Int)), AV.v (Value.int IntKind.i64 (fE (qE t off (0 : Int)) (110 : Int)))]), some (Blk.arr (1 : Nat) (ByteArray.size t) (bsF t))])))
    (Tree.leaf (Ans.mk (AV.v (Value.int IntKind.i64 (qN t off (0 : Int)))) [some (Blk.row [AV.ptr (1 : Nat) (0 : Nat)]), some (Blk.row [AV.hs (2 : Nat) (qO t off (0 : Int)) (ByteArray.size t
    - qO t off (0 : Int)), AV.v (Value.int IntKind.i64 (qE t off (0 : Int)))]), some (Blk.arr (1 : Nat) (ByteArray.size t) (bsF t))]))) := by kernel_rfl
theorem ansNx {t : ByteArray} (hz : t.size ≤ 1000000000000) {off : Nat} {m : Int} (he : qE t off 0 = 0) (hm : qN t off 0 ≤ m) : Answers Try.prog Γb 96 [.v (.int .i64 m), .ptr 0 0] (ndb t off) (.v (.int .i64 (qN t off 0))) ((ndb t (qO t off 0)).map some) [] := answers (fn := Try.f96) (c := bodyOf Try.f96) (ntmps := 13) (results := [.tmp 3]) [hRn t hz, hFl t] Lno false Try.func96 (by kernel_rfl) (by kernel_rfl) (by kernel_rfl) (by kernel_rfl) (by simp) rfl (noLoops (by kernel_rfl)) (by
  refine Meets.of (runNx t hz off m) ?_
  rw [he, decide_eq_false (show ¬ m < qN t off 0 by omega)]
  exact ⟨cl_iff.2 ⟨rfl, rfl, rfl⟩, fun h => by simp at h, fun _ => ⟨.refl _, .refl _, .refl _, .refl _, trivial⟩⟩)
noncomputable def hNx (t : ByteArray) (hz : t.size ≤ 1000000000000) : CT Try.prog Γb := CT.ex 96 toN (NX.ok t) (fun x => .v (.int .i64 (qN t x.off 0))) (fun x => [none, some (some (.row [.hs 2 (qO t x.off 0) (t.size - qO t x.off 0), .v (.int .i64 0)])), none]) (fun _ => [])
  (callFunc_enters Try.func96 (by kernel_rfl) (by kernel_rfl)) (fun args Hin x hx hp => by
    obtain ⟨rfl, rfl⟩ := toN_inv hx hp
    exact (ansNx hz hp.2.2.2.1 hp.2.2.2.2).cU rfl)
theorem runTk (t : ByteArray) (hz : t.size ≤ 1000000000000) (off : Nat) : bodyE (P := Try.prog) (Γ := Γb) [Z.c93, hNx t hz, hDn t] Lno false 53 [.cell 2 75] (bodyOf Try.f43) [.ptr 0 0] (rdb t off 0) =
  Tree.chk (cl (NX.ok t (NX.mk (2 : Int) off (ByteArray.size t - off) (ByteArray.size t) (bsF t)))) (Tree.br (!decide (qN t off (0 : Int) = (0 : Int))) (Tree.chk (cl (NX.ok t (NX.mk
    (2147483647 : Int) (qO t off (0 : Int)) (ByteArray.size t - qO t off (0 : Int)) (ByteArray.size t) (bsF t)))) (Tree.chk (cl (NX.ok t (NX.mk (1048576 : Int) (qO t (qO t off (0 : Int)) (0
    : Int)) (ByteArray.size t - qO t (qO t off (0 : Int)) (0 : Int)) (ByteArray.size t) (bsF t)))) (Tree.chk (cl (NX.ok t (NX.mk (1073741824 : Int) (qO t (qO t (qO t off (0 : Int)) (0 :
    Int)) (0 : Int)) (ByteArray.size t - qO t (qO t (qO t off (0 : Int)) (0 : Int)) (0 : Int)) (ByteArray.size t) (bsF t)))) (Tree.chk (cl (NX.ok t (NX.mk (1023 : Int) (qO t (qO t (qO t (qO
    t off (0 : Int)) (0 : Int)) (0 : Int)) (0 : Int)) (ByteArray.size t - qO t (qO t (qO t (qO t off (0 : Int)) (0 : Int)) (0 : Int)) (0 : Int)) (ByteArray.size t) (bsF t)))) (Tree.br
    (decide (qN t off (0 : Int) = (2 : Int))) (Tree.chk (cl (NX.ok t (NX.mk (3 : Int) (qO t (qO t (qO t (qO t (qO t off (0 : Int)) (0 : Int)) (0 : Int)) (0 : Int)) (0 : Int)) (ByteArray.size
    t - qO t (qO t (qO t (qO t (qO t off (0 : Int)) (0 : Int)) (0 : Int)) (0 : Int)) (0 : Int)) (ByteArray.size t) (bsF t)))) (Tree.chk (cl (NX.ok t (NX.mk (9 : Int) (qO t (qO t (qO t (qO t
    (qO t (qO t off (0 : Int)) (0 : Int)) (0 : Int)) (0 : Int)) (0 : Int)) (0 : Int)) (ByteArray.size t - qO t (qO t (qO t (qO t (qO t (qO t off (0 : Int)) (0 : Int)) (0 : Int)) (0 : Int))
    (0 : Int)) (0 : Int)) (ByteArray.size t) (bsF t)))) (Tree.chk (cl (NX.ok t (NX.mk (1023 : Int) (qO t (qO t (qO t (qO t (qO t (qO t (qO t off (0 : Int)) (0 : Int)) (0 : Int)) (0 : Int))
    (0 : Int)) (0 : Int)) (0 : Int)) (ByteArray.size t - qO t (qO t (qO t (qO t (qO t (qO t (qO t off (0 : Int)) (0 : Int)) (0 : Int)) (0 : Int)) (0 : Int)) (0 : Int)) (0 : Int))
    (ByteArray.size t) (bsF t)))) (Tree.chk true (Tree.br (!decide ((bif Ct.ok (Ct.mk (qN t off (0 : Int)) (qN t (qO t off (0 : Int)) (0 : Int)) (qN t (qO t (qO t off (0 : Int)) (0 : Int))
    (0 : Int)) (qN t (qO t (qO t (qO t off (0 : Int)) (0 : Int)) (0 : Int)) (0 : Int)) (qN t (qO t (qO t (qO t (qO t (qO t off (0 : Int)) (0 : Int)) (0 : Int)) (0 : Int)) (0 : Int)) (0 :
    Int)) (qN t (qO t (qO t (qO t (qO t (qO t (qO t off (0 : Int)) (0 : Int)) (0 : Int)) (0 : Int)) (0 : Int)) (0 : Int)) (0 : Int)) (IntKind.wrap IntKind.u32 (qN t (qO t (qO t (qO t (qO t
    off (0 : Int)) (0 : Int)) (0 : Int)) (0 : Int)) (0 : Int))) (IntKind.wrap IntKind.u32 (qN t (qO t (qO t (qO t (qO t (qO t (qO t (qO t off (0 : Int)) (0 : Int)) (0 : Int)) (0 : Int)) (0 :
    Int)) (0 : Int)) (0 : Int)) (0 : Int)))) then (0 : Int) else (110 : Int)) = (0 : Int))) Tree.fail (Tree.chk (cl (RX.ok t (RX.mk (qO t (qO t (qO t (qO t (qO t (qO t (qO t (qO t off (0 :
    Int)) (0 : Int)) (0 : Int)) (0 : Int)) (0 : Int)) (0 : Int)) (0 : Int)) (0 : Int)) (ByteArray.size t - qO t (qO t (qO t (qO t (qO t (qO t (qO t (qO t off (0 : Int)) (0 : Int)) (0 : Int))
    (0 : Int)) (0 : Int)) (0 : Int)) (0 : Int)) (0 : Int)) (0 : Int) (ByteArray.size t) (bsF t))) && bif !decide (dE t (qO t (qO t (qO t (qO t (qO t (qO t (qO t (qO t off (0 : Int)) (0 :
    Int)) (0 : Int)) (0 : Int)) (0 : Int)) (0 : Int)) (0 : Int)) (0 : Int)) (0 : Int) = (0 : Int)) then cl (RX.ok t (RX.mk (qO t (qO t (qO t (qO t (qO t (qO t (qO t (qO t off (0 : Int)) (0 :
    Int)) (0 : Int)) (0 : Int)) (0 : Int)) (0 : Int)) (0 : Int)) (0 : Int)) (ByteArray.size t - qO t (qO t (qO t (qO t (qO t (qO t (qO t (qO t off (0 : Int)) (0 : Int)) (0 : Int)) (0 : Int))
    (0 : Int)) (0 : Int)) (0 : Int)) (0 : Int)) (0 : Int) (ByteArray.size t) (bsF t))) else true) (Tree.br (bif !decide (dE t (qO t (qO t (qO t (qO t (qO t (qO t (qO t (qO t off (0 : Int))
    (0 : Int)) (0 : Int)) (0 : Int)) (0 : Int)) (0 : Int)) (0 : Int)) (0 : Int)) (0 : Int) = (0 : Int)) then !decide (dE t (qO t (qO t (qO t (qO t (qO t (qO t (qO t (qO t off (0 : Int)) (0 :
    Int)) (0 : Int)) (0 : Int)) (0 : Int)) (0 : Int)) (0 : Int)) (0 : Int)) (0 : Int) = (32 : Int)) else false) (Tree.leaf (Ans.mk (AV.agg [AV.v (Value.int IntKind.i64 (0 : Int)), AV.v
    (Value.int IntKind.i64 (0 : Int)), AV.v (Value.int IntKind.i64 (0 : Int)), AV.v (Value.int IntKind.i64 (0 : Int)), AV.v (Value.int IntKind.i64 (0 : Int)), AV.v (Value.int IntKind.i64 (0
    : Int)), AV.v (Value.int IntKind.u32 (0 : Int)), AV.v (Value.int IntKind.u32 (0 : Int))]) [some (Blk.row [AV.hs (1 : Nat) (qO t (qO t (qO t (qO t (qO t (qO t (qO t (qO t off (0 : Int))
    (0 : Int)) (0 : Int)) (0 : Int)) (0 : Int)) (0 : Int)) (0 : Int)) (0 : Int)) (ByteArray.size t - qO t (qO t (qO t (qO t (qO t (qO t (qO t (qO t off (0 : Int)) (0 : Int)) (0 : Int)) (0 :
    Int)) (0 : Int)) (0 : Int)) (0 : Int)) (0 : Int)), AV.v (Value.int IntKind.i64 (0 : Int))]), some (Blk.arr (1 : Nat) (ByteArray.size t) (bsF t))])) (Tree.leaf (Ans.mk (AV.agg [AV.v
    (Value.int IntKind.i64 (qN t off (0 : Int))), AV.v (Value.int IntKind.i64 (qN t (qO t off (0 : Int)) (0 : Int))), AV.v (Value.int IntKind.i64 (qN t (qO t (qO t off (0 : Int)) (0 : Int))
    (0 : Int))), AV.v (Value.int IntKind.i64 (qN t (qO t (qO t (qO t off (0 : Int)) (0 : Int)) (0 : Int)) (0 : Int))), AV.v (Value.int IntKind.i64 (qN t (qO t (qO t (qO t (qO t (qO t off (0
    : Int)) (0 : Int)) (0 : Int)) (0 : Int)) (0 : Int)) (0 : Int))), AV.v (Value.int IntKind.i64 (qN t (qO t (qO t (qO t (qO t (qO t (qO t off (0 : Int)) (0 : Int)) (0 : Int)) (0 : Int)) (0
    : Int)) (0 : Int)) (0 : Int))), AV.v (Value.int IntKind.u32 (IntKind.wrap IntKind.u32 (qN t (qO t (qO t (qO t (qO t off (0 : Int)) (0 : Int)) (0 : Int)) (0 : Int)) (0 : Int)))), AV.v
    (Value.int IntKind.u32 (IntKind.wrap IntKind.u32 (qN t (qO t (qO t (qO t (qO t (qO t (qO t (qO t off (0 : Int)) (0 : Int)) (0 : Int)) (0 : Int)) (0 : Int)) (0 : Int)) (0 : Int)) (0 :
    Int))))]) [some (Blk.row [AV.hs (1 : Nat) (qO t (qO t (qO t (qO t (qO t (qO t (qO t (qO t off (0 : Int)) (0 : Int)) (0 : Int)) (0 : Int)) (0 : Int)) (0 : Int)) (0 : Int)) (0 : Int))
    (ByteArray.size t - qO t (qO t (qO t (qO t (qO t (qO t (qO t (qO t off (0 : Int)) (0 : Int)) (0 : Int)) (0 : Int)) (0 : Int)) (0 : Int)) (0 : Int)) (0 : Int)), AV.v (Value.int
    IntKind.i64 (0 : Int))]), some (Blk.arr (1 : Nat) (ByteArray.size t) (bsF t))]))))))))) (Tree.chk true (Tree.br (!decide ((bif Ct.ok (Ct.mk (qN t off (0 : Int)) (qN t (qO t off (0 :
    Int)) (0 : Int)) (qN t (qO t (qO t off (0 : Int)) (0 : Int)) (0 : Int)) (qN t (qO t (qO t (qO t off (0 : Int)) (0 : Int)) (0 : Int)) (0 : Int)) (0 : Int) (0 : Int) (IntKind.wrap
    IntKind.u32 (qN t (qO t (qO t (qO t (qO t off (0 : Int)) (0 : Int)) (0 : Int)) (0 : Int)) (0 : Int))) (0 : Int)) then (0 : Int) else (110 : Int)) = (0 : Int))) Tree.fail (Tree.chk (cl
    (RX.ok t (RX.mk (qO t (qO t (qO t (qO t (qO t off (0 : Int)) (0 : Int)) (0 : Int)) (0 : Int)) (0 : Int)) (ByteArray.size t - qO t (qO t (qO t (qO t (qO t off (0 : Int)) (0 : Int)) (0 :
    Int)) (0 : Int)) (0 : Int)) (0 : Int) (ByteArray.size t) (bsF t))) && bif !decide (dE t (qO t (qO t (qO t (qO t (qO t off (0 : Int)) (0 : Int)) (0 : Int)) (0 : Int)) (0 : Int)) (0 : Int)
    = (0 : Int)) then cl (RX.ok t (RX.mk (qO t (qO t (qO t (qO t (qO t off (0 : Int)) (0 : Int)) (0 : Int)) (0 : Int)) (0 : Int)) (ByteArray.size t - qO t (qO t (qO t (qO t (qO t off (0 :
    Int)) (0 : Int)) (0 : Int)) (0 : Int)) (0 : Int)) (0 : Int) (ByteArray.size t) (bsF t))) else true) (Tree.br (bif !decide (dE t (qO t (qO t (qO t (qO t (qO t off (0 : Int)) (0 : Int)) (0
    : Int)) (0 : Int)) (0 : Int)) (0 : Int) = (0 : Int)) then !decide (dE t (qO t (qO t (qO t (qO t (qO t off (0 : Int)) (0 : Int)) (0 : Int)) (0 : Int)) (0 : Int)) (0 : Int) = (32 : Int))
    else false) (Tree.leaf (Ans.mk (AV.agg [AV.v (Value.int IntKind.i64 (0 : Int)), AV.v (Value.int IntKind.i64 (0 : Int)), AV.v (Value.int IntKind.i64 (0 : Int)), AV.v (Value.int
    IntKind.i64 (0 : Int)), AV.v (Value.int IntKind.i64 (0 : Int)), AV.v (Value.int IntKind.i64 (0 : Int)), AV.v (Value.int IntKind.u32 (0 : Int)), AV.v (Value.int IntKind.u32 (0 : Int))])
    [some (Blk.row [AV.hs (1 : Nat) (qO t (qO t (qO t (qO t (qO t off (0 : Int)) (0 : Int)) (0 : Int)) (0 : Int)) (0 : Int)) (ByteArray.size t - qO t (qO t (qO t (qO t (qO t off (0 : Int))
    (0 : Int)) (0 : Int)) (0 : Int)) (0 : Int)), AV.v (Value.int IntKind.i64 (0 : Int))]), some (Blk.arr (1 : Nat) (ByteArray.size t) (bsF t))])) (Tree.leaf (Ans.mk (AV.agg [AV.v (Value.int
    IntKind.i64 (qN t off (0 : Int))), AV.v (Value.int IntKind.i64 (qN t (qO t off (0 : Int)) (0 : Int))), AV.v (Value.int IntKind.i64 (qN t (qO t (qO t off (0 : Int)) (0 : Int)) (0 :
    Int))), AV.v (Value.int IntKind.i64 (qN t (qO t (qO t (qO t off (0 : Int)) (0 : Int)) (0 : Int)) (0 : Int))), AV.v (Value.int IntKind.i64 (0 : Int)), AV.v (Value.int IntKind.i64 (0 :
    Int)), AV.v (Value.int IntKind.u32 (IntKind.wrap IntKind.u32 (qN t (qO t (qO t (qO t (qO t off (0 : Int)) (0 : Int)) (0 : Int)) (0 : Int)) (0 : Int)))), AV.v (Value.int IntKind.u32 (0 :
    Int))]) [some (Blk.row [AV.hs (1 : Nat) (qO t (qO t (qO t (qO t (qO t off (0 : Int)) (0 : Int)) (0 : Int)) (0 : Int)) (0 : Int)) (ByteArray.size t - qO t (qO t (qO t (qO t (qO t off (0 :
    Int)) (0 : Int)) (0 : Int)) (0 : Int)) (0 : Int)), AV.v (Value.int IntKind.i64 (0 : Int))]), some (Blk.arr (1 : Nat) (ByteArray.size t) (bsF t))]))))))))))) (Tree.br (decide (qN t off (0
    : Int) = (2 : Int))) (Tree.chk (cl (NX.ok t (NX.mk (3 : Int) (qO t off (0 : Int)) (ByteArray.size t - qO t off (0 : Int)) (ByteArray.size t) (bsF t)))) (Tree.chk (cl (NX.ok t (NX.mk (9 :
    Int) (qO t (qO t off (0 : Int)) (0 : Int)) (ByteArray.size t - qO t (qO t off (0 : Int)) (0 : Int)) (ByteArray.size t) (bsF t)))) (Tree.chk (cl (NX.ok t (NX.mk (1023 : Int) (qO t (qO t
    (qO t off (0 : Int)) (0 : Int)) (0 : Int)) (ByteArray.size t - qO t (qO t (qO t off (0 : Int)) (0 : Int)) (0 : Int)) (ByteArray.size t) (bsF t)))) (Tree.chk true (Tree.br (!decide ((bif
    Ct.ok (Ct.mk (qN t off (0 : Int)) (0 : Int) (0 : Int) (0 : Int) (qN t (qO t off (0 : Int)) (0 : Int)) (qN t (qO t (qO t off (0 : Int)) (0 : Int)) (0 : Int)) (0 : Int) (IntKind.wrap
    IntKind.u32 (qN t (qO t (qO t (qO t off (0 : Int)) (0 : Int)) (0 : Int)) (0 : Int)))) then (0 : Int) else (110 : Int)) = (0 : Int))) Tree.fail (Tree.chk (cl (RX.ok t (RX.mk (qO t (qO t
    (qO t (qO t off (0 : Int)) (0 : Int)) (0 : Int)) (0 : Int)) (ByteArray.size t - qO t (qO t (qO t (qO t off (0 : Int)) (0 : Int)) (0 : Int)) (0 : Int)) (0 : Int) (ByteArray.size t) (bsF
    t))) && bif !decide (dE t (qO t (qO t (qO t (qO t off (0 : Int)) (0 : Int)) (0 : Int)) (0 : Int)) (0 : Int) = (0 : Int)) then cl (RX.ok t (RX.mk (qO t (qO t (qO t (qO t off (0 : Int)) (0
    : Int)) (0 : Int)) (0 : Int)) (ByteArray.size t - qO t (qO t (qO t (qO t off (0 : Int)) (0 : Int)) (0 : Int)) (0 : Int)) (0 : Int) (ByteArray.size t) (bsF t))) else true) (Tree.br (bif
    !decide (dE t (qO t (qO t (qO t (qO t off (0 : Int)) (0 : Int)) (0 : Int)) (0 : Int)) (0 : Int) = (0 : Int)) then !decide (dE t (qO t (qO t (qO t (qO t off (0 : Int)) (0 : Int)) (0 :
    Int)) (0 : Int)) (0 : Int) = (32 : Int)) else false) (Tree.leaf (Ans.mk (AV.agg [AV.v (Value.int IntKind.i64 (0 : Int)), AV.v (Value.int IntKind.i64 (0 : Int)), AV.v (Value.int
    IntKind.i64 (0 : Int)), AV.v (Value.int IntKind.i64 (0 : Int)), AV.v (Value.int IntKind.i64 (0 : Int)), AV.v (Value.int IntKind.i64 (0 : Int)), AV.v (Value.int IntKind.u32 (0 : Int)),
    AV.v (Value.int IntKind.u32 (0 : Int))]) [some (Blk.row [AV.hs (1 : Nat) (qO t (qO t (qO t (qO t off (0 : Int)) (0 : Int)) (0 : Int)) (0 : Int)) (ByteArray.size t - qO t (qO t (qO t (qO
    t off (0 : Int)) (0 : Int)) (0 : Int)) (0 : Int)), AV.v (Value.int IntKind.i64 (0 : Int))]), some (Blk.arr (1 : Nat) (ByteArray.size t) (bsF t))])) (Tree.leaf (Ans.mk (AV.agg [AV.v
    (Value.int IntKind.i64 (qN t off (0 : Int))), AV.v (Value.int IntKind.i64 (0 : Int)), AV.v (Value.int IntKind.i64 (0 : Int)), AV.v (Value.int IntKind.i64 (0 : Int)), AV.v (Value.int
    IntKind.i64 (qN t (qO t off (0 : Int)) (0 : Int))), AV.v (Value.int IntKind.i64 (qN t (qO t (qO t off (0 : Int)) (0 : Int)) (0 : Int))), AV.v (Value.int IntKind.u32 (0 : Int)), AV.v
    (Value.int IntKind.u32 (IntKind.wrap IntKind.u32 (qN t (qO t (qO t (qO t off (0 : Int)) (0 : Int)) (0 : Int)) (0 : Int))))]) [some (Blk.row [AV.hs (1 : Nat) (qO t (qO t (qO t (qO t off
    (0 : Int)) (0 : Int)) (0 : Int)) (0 : Int)) (ByteArray.size t - qO t (qO t (qO t (qO t off (0 : Int)) (0 : Int)) (0 : Int)) (0 : Int)), AV.v (Value.int IntKind.i64 (0 : Int))]), some
    (Blk.arr (1 : Nat) (ByteArray.size t) (bsF t))]))))))))) (Tree.chk true (Tree.br (!decide ((bif Ct.ok (Ct.mk (qN t off (0 : Int)) (0 : Int) (0 : Int) (0 : Int) (0 : Int) (0 : Int) (0 :
    Int) (0 : Int)) then (0 : Int) else (110 : Int)) = (0 : Int))) Tree.fail (Tree.chk (cl (RX.ok t (RX.mk (qO t off (0 : Int)) (ByteArray.size t - qO t off (0 : Int)) (0 : Int)
    (ByteArray.size t) (bsF t))) && bif !decide (dE t (qO t off (0 : Int)) (0 : Int) = (0 : Int)) then cl (RX.ok t (RX.mk (qO t off (0 : Int)) (ByteArray.size t - qO t off (0 : Int)) (0 :
    Int) (ByteArray.size t) (bsF t))) else true) (Tree.br (bif !decide (dE t (qO t off (0 : Int)) (0 : Int) = (0 : Int)) then !decide (dE t (qO t off (0 : Int)) (0 : Int) = (32 : Int)) else
    false) (Tree.leaf (Ans.mk (AV.agg [AV.v (Value.int IntKind.i64 (0 : Int)), AV.v (Value.int IntKind.i64 (0 : Int)), AV.v (Value.int IntKind.i64 (0 : Int)), AV.v (Value.int IntKind.i64 (0
    : Int)), AV.v (Value.int IntKind.i64 (0 : Int)), AV.v (Value.int IntKind.i64 (0 : Int)), AV.v (Value.int IntKind.u32 (0 : Int)), AV.v (Value.int IntKind.u32 (0 : Int))]) [some (Blk.row
    [AV.hs (1 : Nat) (qO t off (0 : Int)) (ByteArray.size t - qO t off (0 : Int)), AV.v (Value.int IntKind.i64 (0 : Int))]), some (Blk.arr (1 : Nat) (ByteArray.size t) (bsF t))])) (Tree.leaf
    (Ans.mk (AV.agg [AV.v (Value.int IntKind.i64 (qN t off (0 : Int))), AV.v (Value.int IntKind.i64 (0 : Int)), AV.v (Value.int IntKind.i64 (0 : Int)), AV.v (Value.int IntKind.i64 (0 :
    Int)), AV.v (Value.int IntKind.i64 (0 : Int)), AV.v (Value.int IntKind.i64 (0 : Int)), AV.v (Value.int IntKind.u32 (0 : Int)), AV.v (Value.int IntKind.u32 (0 : Int))]) [some (Blk.row
    [AV.hs (1 : Nat) (qO t off (0 : Int)) (ByteArray.size t - qO t off (0 : Int)), AV.v (Value.int IntKind.i64 (0 : Int))]), some (Blk.arr (1 : Nat) (ByteArray.size t) (bsF t))])))))))) := by kernel_rfl
end Go.Eng.SB.R

namespace Go.Eng.SB.R
open Go Go.Eng Go.Eng.M Go.Eng.RD Go.Eng.SB Go.Lib Go.Proofs
def At (t : ByteArray) (off : Nat) (w : ByteArray) : Prop := off + w.size ≤ t.size ∧ ∀ j, j < w.size → bN t (off + j) = bN w j
theorem bN_app (a b : ByteArray) (j : Nat) : bN (a ++ b) j = if j < a.size then bN a j else bN b (j - a.size) := by
  have := sbyte_append a b j
  have e : ∀ (s : ByteArray) (i : Nat), sbyte s i = ((bN s i : Nat) : Int) := fun _ _ => rfl
  simp only [e] at this
  by_cases h : j < a.size
  · rw [if_pos h] at this ⊢; omega
  · rw [if_neg h] at this ⊢; omega
theorem At.left {t a b : ByteArray} {off : Nat} (h : At t off (a ++ b)) : At t off a := by
  obtain ⟨h1, h2⟩ := h
  rw [ByteArray.size_append] at h1
  refine ⟨by omega, fun j hj => ?_⟩
  rw [h2 j (by rw [ByteArray.size_append]; omega), bN_app, if_pos hj]
theorem At.right {t a b : ByteArray} {off : Nat} (h : At t off (a ++ b)) : At t (off + a.size) b := by
  obtain ⟨h1, h2⟩ := h
  rw [ByteArray.size_append] at h1
  refine ⟨by omega, fun j hj => ?_⟩
  have := h2 (a.size + j) (by rw [ByteArray.size_append]; omega)
  rw [bN_app, if_neg (by omega), show a.size + j - a.size = j by omega] at this
  rw [← this]; congr 1; omega
theorem At.pre (b rest : ByteArray) : At (b ++ rest) 0 b := by
  refine ⟨by rw [ByteArray.size_append]; omega, fun j hj => ?_⟩
  rw [Nat.zero_add, bN_app, if_pos hj]
theorem At.ext {t w : ByteArray} {off : Nat} (h : At t off w) : t.extract off (off + w.size) = w := by
  obtain ⟨h1, h2⟩ := h
  refine bN_eq (by rw [ext_size _ _ _ h1]; omega) (fun j hj => ?_)
  rw [ext_size _ _ _ h1] at hj
  rw [bN_extract _ _ _ _ h1, if_pos (by omega), h2 j (by omega)]
theorem At.num {t : ByteArray} {off n : Nat} (h : At t off (numB n)) (hn : n ≤ 4611686018427387904) : qN t off 0 = (n : Int) ∧ qO t off 0 = off + (numB n).size ∧ qE t off 0 = 0 := by
  obtain ⟨h1, h2⟩ := h
  have hs := (numB_size hn).1
  obtain ⟨i, e1, g, e2⟩ := numB_good n t off fun j hj => by
    show ((bN t (off + j) : Nat) : Int) = ((bN (numB n) j : Nat) : Int)
    rw [h2 j hj]
  have hg : IsGood t off (t.size - off) i := ⟨by omega, by omega, g, by omega⟩
  obtain ⟨a1, a2, a3⟩ := q_good hg
  rw [a1, a2, a3, e2, e1]
  exact ⟨rfl, rfl, rfl⟩
theorem At.cat {t : ByteArray} {g : Nat → Int} {off : Nat} : ∀ {n : Nat}, At t off (catN g n) → ∀ i, i < n → At t (off + (catN g i).size) (numB (g i).toNat)
  | n + 1, h, i, hi => by
    have h' : At t off (catN g n ++ numB (g n).toNat) := h
    rcases Nat.lt_succ_iff_lt_or_eq.1 hi with hl | rfl
    · exact h'.left.cat i hl
    · exact h'.right
def Reads (t : ByteArray) (g : Nat → Int) (p : Nat → Nat) (n : Nat) : Prop := ∀ i, i < n → qN t (p i) 0 = g i ∧ qO t (p i) 0 = p (i + 1) ∧ qE t (p i) 0 = 0
theorem At.reads {t : ByteArray} {g : Nat → Int} {n : Nat} (h : At t 0 (catN g n)) (hg : ∀ i, i < n → 0 ≤ g i ∧ g i ≤ 4611686018427387904) : Reads t g (fun i => (catN g i).size) n := by
  intro i hi
  obtain ⟨h1, h2⟩ := hg i hi
  have := h.cat i hi
  rw [Nat.zero_add] at this
  obtain ⟨a1, a2, a3⟩ := this.num (by omega)
  refine ⟨by rw [a1]; omega, ?_, a3⟩
  rw [a2]
  show _ = (catN g i ++ numB (g i).toNat).size
  rw [ByteArray.size_append]
theorem dE_ok {t : ByteArray} {off : Nat} : dE t off 0 = 0 ∨ dE t off 0 = 32 := by
  unfold dE
  split
  · exact .inr rfl
  · exact .inl rfl
theorem wrapU {n : Int} (h : 0 ≤ n) (h' : n < 4294967296) : IntKind.u32.wrap n = n := by
  show n % 4294967296 = n
  omega
theorem nx_ok {t : ByteArray} {off : Nat} {m : Int} (he : qE t off 0 = 0) (hm : qN t off 0 ≤ m) : cl (NX.ok t ⟨m, off, t.size - off, t.size, bsF t⟩) = true := cl_iff.2 ⟨rfl, rfl, rfl, he, hm⟩
theorem rx_ok {t : ByteArray} {off : Nat} {e : Int} : cl (RX.ok t ⟨off, t.size - off, e, t.size, bsF t⟩) = true := cl_iff.2 ⟨rfl, rfl, rfl⟩
theorem ok_nil {x : Ct} (h : x.ok = true) (hk : x.k = 0) : x = ⟨0, 0, 0, 0, 0, 0, 0, 0⟩ := by
  obtain ⟨k, b, v, r, h', a, s, c⟩ := x
  simp only at hk
  subst hk
  simp only [Ct.ok, decide_true, cond_true, Bool.and_eq_true, decide_eq_true_eq] at h
  obtain ⟨⟨⟨⟨⟨⟨h1, h2⟩, h3⟩, h4⟩, h5⟩, h6⟩, h7⟩ := h
  subst h1; subst h2; subst h3; subst h4; subst h5; subst h6; subst h7
  rfl
def AnsT (t : ByteArray) (x : Ct) (o : Nat) : Prop := Answers Try.prog Γb 43 [.ptr 0 0] (rdb t 0 0) x.av ((rdb t o 0).map some) []
theorem setOk_range {n : Int} (h : setOk n = true) : True := trivial
theorem take0 {t : ByteArray} (hz : t.size ≤ 1000000000000) {x : Ct} (hok : x.ok = true) (hk : x.k = 0) {p : Nat → Nat} (hp : p 0 = 0) (hr : Reads t (gC x) p 1) : AnsT t x (p 1) := answers (fn := Try.f43) (c := bodyOf Try.f43) (ntmps := 53) (results := [.cell 2 75]) [Z.c93, hNx t hz, hDn t] Lno false Try.func43 (by kernel_rfl) (by kernel_rfl) (by kernel_rfl) (by kernel_rfl) (by simp) rfl (noLoops (by kernel_rfl)) (by
  refine Meets.of (runTk t hz 0) ?_
  obtain ⟨n0, o0, e0⟩ := hr 0 (by omega)
  rw [hp] at n0 o0 e0
  have g0 : gC x 0 = 0 := hk
  rw [g0] at n0
  have hx := ok_nil hok hk
  have c0 := nx_ok (m := 2) e0 (by rw [n0]; decide)
  subst hx
  simp only [o0, n0, rx_ok, hok, c0]
  generalize p 1 = o
  rcases dE_ok (t := t) (off := o) with hd | hd
  · repeat' (first | refine wC (by first | omega | (simp only [W1, cond_true, cond_false, hd]; first | done | omega)) ?_ | refine wT (by first | omega | (simp only [W1, cond_true, cond_false, hd]; first | done | omega)) ?_ | refine wF (by intro _h; first | omega | (simp only [W1, cond_true, cond_false, hd] at _h; first | done | omega)) ?_ | (refine wS ?_ ?_ <;> intro _h <;> simp only [W1, cond_true, cond_false, hd] at _h))
    all_goals simp only [or_true, true_or, false_or, or_false, and_false, false_and, cond_true, cond_false, Bool.not_true, Bool.not_false, Bool.false_eq_true, Bool.true_eq_false, not_true_eq_false, not_false_eq_true, false_implies, true_implies, implies_true, Nat.blt_eq, owesN, owesX, owesR, notT, sat_brT, sat_brF, sat_chkT, cl_iff, cl_false, AV.le_refl, AV.le_any, OLe_refl, OLe_none, sat_brN, Tree.sat_chk, Tree.sat_leaf, Tree.sat_fail, Nat.zero_add, Nat.sub_zero, Int.toNat_natCast, LeH_cons, LeH_nil, LeL_cons, LeL_nil, and_true, true_and, Bool.and_eq_true, Bool.or_eq_true, decide_eq_true_eq, decide_eq_false_iff_not, Bool.cond_true_left, Bool.cond_false_right, List.cons_append, List.nil_append, List.map_cons, List.map_nil, hd]
    repeat' (first | apply And.intro | intro _hc)
    all_goals first | exact AV.le_refl _ | exact AV.le_any _ | exact OLe.refl _ | exact OLe.none _ | exact LeH.refl _ | exact LeL.refl _ | exact AV.le.bs _ | exact AV.le.sb _ | omega | contradiction
  · repeat' (first | refine wC (by first | omega | (simp only [W1, cond_true, cond_false, hd]; first | done | omega)) ?_ | refine wT (by first | omega | (simp only [W1, cond_true, cond_false, hd]; first | done | omega)) ?_ | refine wF (by intro _h; first | omega | (simp only [W1, cond_true, cond_false, hd] at _h; first | done | omega)) ?_ | (refine wS ?_ ?_ <;> intro _h <;> simp only [W1, cond_true, cond_false, hd] at _h))
    all_goals simp only [or_true, true_or, false_or, or_false, and_false, false_and, cond_true, cond_false, Bool.not_true, Bool.not_false, Bool.false_eq_true, Bool.true_eq_false, not_true_eq_false, not_false_eq_true, false_implies, true_implies, implies_true, Nat.blt_eq, owesN, owesX, owesR, notT, sat_brT, sat_brF, sat_chkT, cl_iff, cl_false, AV.le_refl, AV.le_any, OLe_refl, OLe_none, sat_brN, Tree.sat_chk, Tree.sat_leaf, Tree.sat_fail, Nat.zero_add, Nat.sub_zero, Int.toNat_natCast, LeH_cons, LeH_nil, LeL_cons, LeL_nil, and_true, true_and, Bool.and_eq_true, Bool.or_eq_true, decide_eq_true_eq, decide_eq_false_iff_not, Bool.cond_true_left, Bool.cond_false_right, List.cons_append, List.nil_append, List.map_cons, List.map_nil, hd]
    repeat' (first | apply And.intro | intro _hc)
    all_goals first | exact AV.le_refl _ | exact AV.le_any _ | exact OLe.refl _ | exact OLe.none _ | exact LeH.refl _ | exact LeL.refl _ | exact AV.le.bs _ | exact AV.le.sb _ | omega | contradiction
  )
theorem ge_dec {a b : Int} (h : a = b) : decide (a = b) = true := decide_eq_true h
theorem take1 {t : ByteArray} (hz : t.size ≤ 1000000000000) {x : Ct} (hw : x.wide) (hok : x.ok = true) (hk : x.k = 1) (hf : x.wf = true) (hh : x.h = 0) (ha : x.a = 0) (hc : x.c = 0) (hs : x.s ≤ 1023) {p : Nat → Nat} (hp : p 0 = 0) (hr : Reads t (gC x) p 5) : AnsT t x (p 5) := answers (fn := Try.f43) (c := bodyOf Try.f43) (ntmps := 53) (results := [.cell 2 75]) [Z.c93, hNx t hz, hDn t] Lno false Try.func43 (by kernel_rfl) (by kernel_rfl) (by kernel_rfl) (by kernel_rfl) (by simp) rfl (noLoops (by kernel_rfl)) (by
  refine Meets.of (runTk t hz 0) ?_
  obtain ⟨b1, b2, v1, v2, r1, r2⟩ := wf_nums hf
  obtain ⟨s1, s2, _, _⟩ := hw
  obtain ⟨n0, o0, e0⟩ := hr 0 (by omega)
  obtain ⟨n1, o1, e1⟩ := hr 1 (by omega)
  obtain ⟨n2, o2, e2⟩ := hr 2 (by omega)
  obtain ⟨n3, o3, e3⟩ := hr 3 (by omega)
  obtain ⟨n4, o4, e4⟩ := hr 4 (by omega)
  rw [hp] at n0 o0 e0
  have g0 : gC x 0 = 1 := hk
  have g1 : gC x 1 = x.b := rfl
  have g2 : gC x 2 = x.v := rfl
  have g3 : gC x 3 = x.r := rfl
  have g4 : gC x 4 = x.s := rfl
  rw [g0] at n0; rw [g1] at n1; rw [g2] at n2; rw [g3] at n3; rw [g4] at n4
  have w4 := wrapU s1 s2
  have c0 := nx_ok (m := 2) e0 (by rw [n0]; decide)
  have c1 := nx_ok (m := 2147483647) e1 (by rw [n1]; exact b2)
  have c2 := nx_ok (m := 1048576) e2 (by rw [n2]; exact v2)
  have c3 := nx_ok (m := 1073741824) e3 (by rw [n3]; exact r2)
  have c4 := nx_ok (m := 1023) e4 (by rw [n4]; exact hs)
  obtain ⟨k, b, v, r, h, a, s, c⟩ := x
  simp only at hk hh ha hc n1 n2 n3 n4 w4
  subst hk; subst hh; subst ha; subst hc
  simp only [o0, n0, o1, n1, o2, n2, o3, n3, o4, n4, rx_ok, w4, hok, c0, c1, c2, c3, c4]
  generalize p (4 + 1) = o
  rcases dE_ok (t := t) (off := o) with hd | hd
  · repeat' (first | refine wC (by first | omega | (simp only [W1, cond_true, cond_false, hd]; first | done | omega)) ?_ | refine wT (by first | omega | (simp only [W1, cond_true, cond_false, hd]; first | done | omega)) ?_ | refine wF (by intro _h; first | omega | (simp only [W1, cond_true, cond_false, hd] at _h; first | done | omega)) ?_ | (refine wS ?_ ?_ <;> intro _h <;> simp only [W1, cond_true, cond_false, hd] at _h))
    all_goals simp only [or_true, true_or, false_or, or_false, and_false, false_and, cond_true, cond_false, Bool.not_true, Bool.not_false, Bool.false_eq_true, Bool.true_eq_false, not_true_eq_false, not_false_eq_true, false_implies, true_implies, implies_true, Nat.blt_eq, owesN, owesX, owesR, notT, sat_brT, sat_brF, sat_chkT, cl_iff, cl_false, AV.le_refl, AV.le_any, OLe_refl, OLe_none, sat_brN, Tree.sat_chk, Tree.sat_leaf, Tree.sat_fail, Nat.zero_add, Nat.sub_zero, Int.toNat_natCast, LeH_cons, LeH_nil, LeL_cons, LeL_nil, and_true, true_and, Bool.and_eq_true, Bool.or_eq_true, decide_eq_true_eq, decide_eq_false_iff_not, Bool.cond_true_left, Bool.cond_false_right, List.cons_append, List.nil_append, List.map_cons, List.map_nil, hd]
    repeat' (first | apply And.intro | intro _hc)
    all_goals first | exact AV.le_refl _ | exact AV.le_any _ | exact OLe.refl _ | exact OLe.none _ | exact LeH.refl _ | exact LeL.refl _ | exact AV.le.bs _ | exact AV.le.sb _ | omega | contradiction
  · repeat' (first | refine wC (by first | omega | (simp only [W1, cond_true, cond_false, hd]; first | done | omega)) ?_ | refine wT (by first | omega | (simp only [W1, cond_true, cond_false, hd]; first | done | omega)) ?_ | refine wF (by intro _h; first | omega | (simp only [W1, cond_true, cond_false, hd] at _h; first | done | omega)) ?_ | (refine wS ?_ ?_ <;> intro _h <;> simp only [W1, cond_true, cond_false, hd] at _h))
    all_goals simp only [or_true, true_or, false_or, or_false, and_false, false_and, cond_true, cond_false, Bool.not_true, Bool.not_false, Bool.false_eq_true, Bool.true_eq_false, not_true_eq_false, not_false_eq_true, false_implies, true_implies, implies_true, Nat.blt_eq, owesN, owesX, owesR, notT, sat_brT, sat_brF, sat_chkT, cl_iff, cl_false, AV.le_refl, AV.le_any, OLe_refl, OLe_none, sat_brN, Tree.sat_chk, Tree.sat_leaf, Tree.sat_fail, Nat.zero_add, Nat.sub_zero, Int.toNat_natCast, LeH_cons, LeH_nil, LeL_cons, LeL_nil, and_true, true_and, Bool.and_eq_true, Bool.or_eq_true, decide_eq_true_eq, decide_eq_false_iff_not, Bool.cond_true_left, Bool.cond_false_right, List.cons_append, List.nil_append, List.map_cons, List.map_nil, hd]
    repeat' (first | apply And.intro | intro _hc)
    all_goals first | exact AV.le_refl _ | exact AV.le_any _ | exact OLe.refl _ | exact OLe.none _ | exact LeH.refl _ | exact LeL.refl _ | exact AV.le.bs _ | exact AV.le.sb _ | omega | contradiction
  )
theorem take2 {t : ByteArray} (hz : t.size ≤ 1000000000000) {x : Ct} (hw : x.wide) (hok : x.ok = true) (hk : x.k = 2) (hf : x.wf = true) (h1 : 1 ≤ x.h) (h2 : x.h ≤ 3) (h3 : 0 ≤ x.a) (h4 : x.a ≤ 9) (hs : x.s ≤ 1023) (hc : x.c ≤ 1023) {p : Nat → Nat} (hp : p 0 = 0) (hr : Reads t (gC x) p 8) : AnsT t x (p 8) := answers (fn := Try.f43) (c := bodyOf Try.f43) (ntmps := 53) (results := [.cell 2 75]) [Z.c93, hNx t hz, hDn t] Lno false Try.func43 (by kernel_rfl) (by kernel_rfl) (by kernel_rfl) (by kernel_rfl) (by simp) rfl (noLoops (by kernel_rfl)) (by
  refine Meets.of (runTk t hz 0) ?_
  obtain ⟨b1, b2, v1, v2, r1, r2⟩ := wf_nums hf
  obtain ⟨s1, s2, y1, y2⟩ := hw
  obtain ⟨n0, o0, e0⟩ := hr 0 (by omega)
  obtain ⟨n1, o1, e1⟩ := hr 1 (by omega)
  obtain ⟨n2, o2, e2⟩ := hr 2 (by omega)
  obtain ⟨n3, o3, e3⟩ := hr 3 (by omega)
  obtain ⟨n4, o4, e4⟩ := hr 4 (by omega)
  obtain ⟨n5, o5, e5⟩ := hr 5 (by omega)
  obtain ⟨n6, o6, e6⟩ := hr 6 (by omega)
  obtain ⟨n7, o7, e7⟩ := hr 7 (by omega)
  rw [hp] at n0 o0 e0
  have g0 : gC x 0 = 2 := hk
  have g1 : gC x 1 = x.b := rfl
  have g2 : gC x 2 = x.v := rfl
  have g3 : gC x 3 = x.r := rfl
  have g4 : gC x 4 = x.s := rfl
  have g5 : gC x 5 = x.h := rfl
  have g6 : gC x 6 = x.a := rfl
  have g7 : gC x 7 = x.c := rfl
  rw [g0] at n0; rw [g1] at n1; rw [g2] at n2; rw [g3] at n3; rw [g4] at n4; rw [g5] at n5; rw [g6] at n6; rw [g7] at n7
  have w4 := wrapU s1 s2
  have w7 := wrapU y1 y2
  have c0 := nx_ok (m := 2) e0 (by rw [n0]; decide)
  have c1 := nx_ok (m := 2147483647) e1 (by rw [n1]; exact b2)
  have c2 := nx_ok (m := 1048576) e2 (by rw [n2]; exact v2)
  have c3 := nx_ok (m := 1073741824) e3 (by rw [n3]; exact r2)
  have c4 := nx_ok (m := 1023) e4 (by rw [n4]; exact hs)
  have c5 := nx_ok (m := 3) e5 (by rw [n5]; exact h2)
  have c6 := nx_ok (m := 9) e6 (by rw [n6]; exact h4)
  have c7 := nx_ok (m := 1023) e7 (by rw [n7]; exact hc)
  obtain ⟨k, b, v, r, h, a, s, c⟩ := x
  simp only at hk n1 n2 n3 n4 n5 n6 n7 w4 w7
  subst hk
  simp only [o0, n0, o1, n1, o2, n2, o3, n3, o4, n4, o5, n5, o6, n6, o7, n7, rx_ok, w4, w7, hok, c0, c1, c2, c3, c4, c5, c6, c7]
  generalize p (7 + 1) = o
  rcases dE_ok (t := t) (off := o) with hd | hd
  · repeat' (first | refine wC (by first | omega | (simp only [W1, cond_true, cond_false, hd]; first | done | omega)) ?_ | refine wT (by first | omega | (simp only [W1, cond_true, cond_false, hd]; first | done | omega)) ?_ | refine wF (by intro _h; first | omega | (simp only [W1, cond_true, cond_false, hd] at _h; first | done | omega)) ?_ | (refine wS ?_ ?_ <;> intro _h <;> simp only [W1, cond_true, cond_false, hd] at _h))
    all_goals simp only [or_true, true_or, false_or, or_false, and_false, false_and, cond_true, cond_false, Bool.not_true, Bool.not_false, Bool.false_eq_true, Bool.true_eq_false, not_true_eq_false, not_false_eq_true, false_implies, true_implies, implies_true, Nat.blt_eq, owesN, owesX, owesR, notT, sat_brT, sat_brF, sat_chkT, cl_iff, cl_false, AV.le_refl, AV.le_any, OLe_refl, OLe_none, sat_brN, Tree.sat_chk, Tree.sat_leaf, Tree.sat_fail, Nat.zero_add, Nat.sub_zero, Int.toNat_natCast, LeH_cons, LeH_nil, LeL_cons, LeL_nil, and_true, true_and, Bool.and_eq_true, Bool.or_eq_true, decide_eq_true_eq, decide_eq_false_iff_not, Bool.cond_true_left, Bool.cond_false_right, List.cons_append, List.nil_append, List.map_cons, List.map_nil, hd]
    repeat' (first | apply And.intro | intro _hc)
    all_goals first | exact AV.le_refl _ | exact AV.le_any _ | exact OLe.refl _ | exact OLe.none _ | exact LeH.refl _ | exact LeL.refl _ | exact AV.le.bs _ | exact AV.le.sb _ | omega | contradiction
  · repeat' (first | refine wC (by first | omega | (simp only [W1, cond_true, cond_false, hd]; first | done | omega)) ?_ | refine wT (by first | omega | (simp only [W1, cond_true, cond_false, hd]; first | done | omega)) ?_ | refine wF (by intro _h; first | omega | (simp only [W1, cond_true, cond_false, hd] at _h; first | done | omega)) ?_ | (refine wS ?_ ?_ <;> intro _h <;> simp only [W1, cond_true, cond_false, hd] at _h))
    all_goals simp only [or_true, true_or, false_or, or_false, and_false, false_and, cond_true, cond_false, Bool.not_true, Bool.not_false, Bool.false_eq_true, Bool.true_eq_false, not_true_eq_false, not_false_eq_true, false_implies, true_implies, implies_true, Nat.blt_eq, owesN, owesX, owesR, notT, sat_brT, sat_brF, sat_chkT, cl_iff, cl_false, AV.le_refl, AV.le_any, OLe_refl, OLe_none, sat_brN, Tree.sat_chk, Tree.sat_leaf, Tree.sat_fail, Nat.zero_add, Nat.sub_zero, Int.toNat_natCast, LeH_cons, LeH_nil, LeL_cons, LeL_nil, and_true, true_and, Bool.and_eq_true, Bool.or_eq_true, decide_eq_true_eq, decide_eq_false_iff_not, Bool.cond_true_left, Bool.cond_false_right, List.cons_append, List.nil_append, List.map_cons, List.map_nil, hd]
    repeat' (first | apply And.intro | intro _hc)
    all_goals first | exact AV.le_refl _ | exact AV.le_any _ | exact OLe.refl _ | exact OLe.none _ | exact LeH.refl _ | exact LeL.refl _ | exact AV.le.bs _ | exact AV.le.sb _ | omega | contradiction
  )
end Go.Eng.SB.R

namespace Go.Eng.SB.R
open Go Go.Eng Go.Eng.M Go.Eng.RD Go.Eng.SB Go.Lib Go.Proofs
noncomputable def z94x : CT Try.prog Γb := CT.auto true 100 3 [] 94 Try.f94 (bodyOf Try.f94) false 11 [.tmp 2] Try.func94 (by kernel_rfl) (by kernel_rfl) (by kernel_rfl) (by kernel_rfl)
theorem zrun40 : (bodyE (P := Try.prog) (Γ := Γb) [Z.c45, Z.c93, z94x] Lno false 37 [.tmp 0] (bodyOf Try.f40) [] []).get = some ⟨.sb true, []⟩ := by kernel_rfl
noncomputable def z40' : CT Try.prog Γb := CT.fact 40 Try.f40 (bodyOf Try.f40) [Z.c45, Z.c93, z94x] Lno false 37 [.tmp 0] Try.func40 (by kernel_rfl) (by kernel_rfl) (by kernel_rfl) (by kernel_rfl) (noLoops (by kernel_rfl)) (.sb true) (.sb true) zrun40
noncomputable def kMax : CT Try.prog Γb := CT.auto false 100 3 [Z.c45] 46 Try.f46 (bodyOf Try.f46) false 11 [.cell 4 75] Try.func46 (by kernel_rfl) (by kernel_rfl) (by kernel_rfl) (by kernel_rfl)
structure Q3 where
  x : Ct
  y : Ct
  z : Ct
  r : Option ByteArray
def AB (q : Q3) : List AV := [q.x.av, q.y.av, q.z.av, bArg q.r]
theorem lawSn (x y z : Ct) (hn : x.ok = false) : bodyE (P := Try.prog) (Γ := Γb) [z40', Z.c45, kMax, CT.at 41 (ansCx hn)] Lno false 97 [.tmp 8] (bodyOf Try.f9) [x.av, y.av, z.av, .v (.slice none 0 0)] [] =
  Tree.br false (Tree.leaf (Ans.mk (AV.v (Value.bool true)) [])) (Tree.chk (cl (LeL [AV.agg [AV.v (Value.int IntKind.i64 x.k), AV.v (Value.int IntKind.i64 x.b), AV.v (Value.int IntKind.i64
    x.v), AV.v (Value.int IntKind.i64 x.r), AV.v (Value.int IntKind.i64 x.h), AV.v (Value.int IntKind.i64 x.a), AV.v (Value.int IntKind.u32 x.s), AV.v (Value.int IntKind.u32 x.c)]] [AV.agg
    [AV.v (Value.int IntKind.i64 x.k), AV.v (Value.int IntKind.i64 x.b), AV.v (Value.int IntKind.i64 x.v), AV.v (Value.int IntKind.i64 x.r), AV.v (Value.int IntKind.i64 x.h), AV.v (Value.int
    IntKind.i64 x.a), AV.v (Value.int IntKind.u32 x.s), AV.v (Value.int IntKind.u32 x.c)]] ∧ LeH [] [])) (Tree.br false Tree.fail (Tree.chk (bif !decide (Ct.cmp (Ct.mk x.k x.b x.v x.r x.h
    x.a x.s x.c) (Ct.mk y.k y.b y.v y.r y.h y.a y.s y.c) = IntKind.wrap IntKind.i64 ((0 : Int) - Ct.cmp (Ct.mk y.k y.b y.v y.r y.h y.a y.s y.c) (Ct.mk x.k x.b x.v x.r x.h x.a x.s x.c))) then
    true else bif !decide (Ct.cmp (Ct.mk x.k x.b x.v x.r x.h x.a x.s x.c) (Ct.mk x.k x.b x.v x.r x.h x.a x.s x.c) = (0 : Int)) then true else bif decide (Ct.cmp (Ct.mk x.k x.b x.v x.r x.h
    x.a x.s x.c) (Ct.mk y.k y.b y.v y.r y.h y.a y.s y.c) ≤ (0 : Int)) then bif decide (Ct.cmp (Ct.mk y.k y.b y.v y.r y.h y.a y.s y.c) (Ct.mk z.k z.b z.v z.r z.h z.a z.s z.c) ≤ (0 : Int))
    then true else true else true) (Tree.br (bif !decide (Ct.cmp (Ct.mk x.k x.b x.v x.r x.h x.a x.s x.c) (Ct.mk y.k y.b y.v y.r y.h y.a y.s y.c) = IntKind.wrap IntKind.i64 ((0 : Int) -
    Ct.cmp (Ct.mk y.k y.b y.v y.r y.h y.a y.s y.c) (Ct.mk x.k x.b x.v x.r x.h x.a x.s x.c))) then true else bif !decide (Ct.cmp (Ct.mk x.k x.b x.v x.r x.h x.a x.s x.c) (Ct.mk x.k x.b x.v x.r
    x.h x.a x.s x.c) = (0 : Int)) then true else bif decide (Ct.cmp (Ct.mk x.k x.b x.v x.r x.h x.a x.s x.c) (Ct.mk y.k y.b y.v y.r y.h y.a y.s y.c) ≤ (0 : Int)) then bif decide (Ct.cmp
    (Ct.mk y.k y.b y.v y.r y.h y.a y.s y.c) (Ct.mk z.k z.b z.v z.r z.h z.a z.s z.c) ≤ (0 : Int)) then decide ((0 : Int) < Ct.cmp (Ct.mk x.k x.b x.v x.r x.h x.a x.s x.c) (Ct.mk z.k z.b z.v
    z.r z.h z.a z.s z.c)) else false else false) (Tree.leaf (Ans.mk (AV.v (Value.bool false)) [])) (Tree.chk true (Tree.br (decide (Ct.cmp (Ct.mk x.k x.b x.v x.r x.h x.a x.s x.c) (Ct.mk y.k
    y.b y.v y.r y.h y.a y.s y.c) < (0 : Int))) (Tree.chk (bif decide (y.k = x.k) && (decide (y.b = x.b) && (decide (y.v = x.v) && (decide (y.r = x.r) && (decide (y.h = x.h) && (decide (y.a =
    x.a) && (decide (y.s = x.s) && decide (y.c = x.c))))))) then bif decide ((0 : Int) ≤ Ct.cmp (Ct.mk y.k y.b y.v y.r y.h y.a y.s y.c) (Ct.mk x.k x.b x.v x.r x.h x.a x.s x.c)) then true
    else true else bif decide (y.k = y.k) && (decide (y.b = y.b) && (decide (y.v = y.v) && (decide (y.r = y.r) && (decide (y.h = y.h) && (decide (y.a = y.a) && (decide (y.s = y.s) && decide
    (y.c = y.c))))))) then bif decide ((0 : Int) ≤ Ct.cmp (Ct.mk y.k y.b y.v y.r y.h y.a y.s y.c) (Ct.mk x.k x.b x.v x.r x.h x.a x.s x.c)) then true else true else true) (Tree.leaf (Ans.mk
    (AV.sb (bif decide (y.k = x.k) && (decide (y.b = x.b) && (decide (y.v = x.v) && (decide (y.r = x.r) && (decide (y.h = x.h) && (decide (y.a = x.a) && (decide (y.s = x.s) && decide (y.c =
    x.c))))))) then bif decide ((0 : Int) ≤ Ct.cmp (Ct.mk y.k y.b y.v y.r y.h y.a y.s y.c) (Ct.mk x.k x.b x.v x.r x.h x.a x.s x.c)) then decide ((0 : Int) ≤ Ct.cmp (Ct.mk y.k y.b y.v y.r y.h
    y.a y.s y.c) (Ct.mk y.k y.b y.v y.r y.h y.a y.s y.c)) else false else bif decide (y.k = y.k) && (decide (y.b = y.b) && (decide (y.v = y.v) && (decide (y.r = y.r) && (decide (y.h = y.h)
    && (decide (y.a = y.a) && (decide (y.s = y.s) && decide (y.c = y.c))))))) then bif decide ((0 : Int) ≤ Ct.cmp (Ct.mk y.k y.b y.v y.r y.h y.a y.s y.c) (Ct.mk x.k x.b x.v x.r x.h x.a x.s
    x.c)) then decide ((0 : Int) ≤ Ct.cmp (Ct.mk y.k y.b y.v y.r y.h y.a y.s y.c) (Ct.mk y.k y.b y.v y.r y.h y.a y.s y.c)) else false else false)) []))) (Tree.chk (bif decide (x.k = x.k) &&
    (decide (x.b = x.b) && (decide (x.v = x.v) && (decide (x.r = x.r) && (decide (x.h = x.h) && (decide (x.a = x.a) && (decide (x.s = x.s) && decide (x.c = x.c))))))) then bif decide ((0 :
    Int) ≤ Ct.cmp (Ct.mk x.k x.b x.v x.r x.h x.a x.s x.c) (Ct.mk x.k x.b x.v x.r x.h x.a x.s x.c)) then true else true else bif decide (x.k = y.k) && (decide (x.b = y.b) && (decide (x.v =
    y.v) && (decide (x.r = y.r) && (decide (x.h = y.h) && (decide (x.a = y.a) && (decide (x.s = y.s) && decide (x.c = y.c))))))) then bif decide ((0 : Int) ≤ Ct.cmp (Ct.mk x.k x.b x.v x.r
    x.h x.a x.s x.c) (Ct.mk x.k x.b x.v x.r x.h x.a x.s x.c)) then true else true else true) (Tree.leaf (Ans.mk (AV.sb (bif decide (x.k = x.k) && (decide (x.b = x.b) && (decide (x.v = x.v)
    && (decide (x.r = x.r) && (decide (x.h = x.h) && (decide (x.a = x.a) && (decide (x.s = x.s) && decide (x.c = x.c))))))) then bif decide ((0 : Int) ≤ Ct.cmp (Ct.mk x.k x.b x.v x.r x.h x.a
    x.s x.c) (Ct.mk x.k x.b x.v x.r x.h x.a x.s x.c)) then decide ((0 : Int) ≤ Ct.cmp (Ct.mk x.k x.b x.v x.r x.h x.a x.s x.c) (Ct.mk y.k y.b y.v y.r y.h y.a y.s y.c)) else false else bif
    decide (x.k = y.k) && (decide (x.b = y.b) && (decide (x.v = y.v) && (decide (x.r = y.r) && (decide (x.h = y.h) && (decide (x.a = y.a) && (decide (x.s = y.s) && decide (x.c = y.c)))))))
    then bif decide ((0 : Int) ≤ Ct.cmp (Ct.mk x.k x.b x.v x.r x.h x.a x.s x.c) (Ct.mk x.k x.b x.v x.r x.h x.a x.s x.c)) then decide ((0 : Int) ≤ Ct.cmp (Ct.mk x.k x.b x.v x.r x.h x.a x.s
    x.c) (Ct.mk y.k y.b y.v y.r y.h y.a y.s y.c)) else false else false)) []))))))))) := by kernel_rfl
theorem lawSr (x y z : Ct) (r : ByteArray) (hn : x.ok = false) : bodyE (P := Try.prog) (Γ := Γb) [z40', Z.c45, kMax, CT.at 41 (ansCx hn)] Lno false 97 [.tmp 8] (bodyOf Try.f9) [x.av, y.av, z.av, .sl 1 r.size (bsF r)] [] =
  Tree.br (decide ((1000 : Int) < (↑(ByteArray.size r) : Int))) (Tree.leaf (Ans.mk (AV.v (Value.bool true)) [])) (Tree.chk (cl (LeL [AV.agg [AV.v (Value.int IntKind.i64 x.k), AV.v (Value.int
    IntKind.i64 x.b), AV.v (Value.int IntKind.i64 x.v), AV.v (Value.int IntKind.i64 x.r), AV.v (Value.int IntKind.i64 x.h), AV.v (Value.int IntKind.i64 x.a), AV.v (Value.int IntKind.u32
    x.s), AV.v (Value.int IntKind.u32 x.c)]] [AV.agg [AV.v (Value.int IntKind.i64 x.k), AV.v (Value.int IntKind.i64 x.b), AV.v (Value.int IntKind.i64 x.v), AV.v (Value.int IntKind.i64 x.r),
    AV.v (Value.int IntKind.i64 x.h), AV.v (Value.int IntKind.i64 x.a), AV.v (Value.int IntKind.u32 x.s), AV.v (Value.int IntKind.u32 x.c)]] ∧ LeH [] [])) (Tree.br false (Tree.chk (roomOk (1
    : Nat) ((0 : Nat) + ByteArray.size r)) Tree.fail) (Tree.chk (bif !decide (Ct.cmp (Ct.mk x.k x.b x.v x.r x.h x.a x.s x.c) (Ct.mk y.k y.b y.v y.r y.h y.a y.s y.c) = IntKind.wrap
    IntKind.i64 ((0 : Int) - Ct.cmp (Ct.mk y.k y.b y.v y.r y.h y.a y.s y.c) (Ct.mk x.k x.b x.v x.r x.h x.a x.s x.c))) then true else bif !decide (Ct.cmp (Ct.mk x.k x.b x.v x.r x.h x.a x.s
    x.c) (Ct.mk x.k x.b x.v x.r x.h x.a x.s x.c) = (0 : Int)) then true else bif decide (Ct.cmp (Ct.mk x.k x.b x.v x.r x.h x.a x.s x.c) (Ct.mk y.k y.b y.v y.r y.h y.a y.s y.c) ≤ (0 : Int))
    then bif decide (Ct.cmp (Ct.mk y.k y.b y.v y.r y.h y.a y.s y.c) (Ct.mk z.k z.b z.v z.r z.h z.a z.s z.c) ≤ (0 : Int)) then true else true else true) (Tree.br (bif !decide (Ct.cmp (Ct.mk
    x.k x.b x.v x.r x.h x.a x.s x.c) (Ct.mk y.k y.b y.v y.r y.h y.a y.s y.c) = IntKind.wrap IntKind.i64 ((0 : Int) - Ct.cmp (Ct.mk y.k y.b y.v y.r y.h y.a y.s y.c) (Ct.mk x.k x.b x.v x.r x.h
    x.a x.s x.c))) then true else bif !decide (Ct.cmp (Ct.mk x.k x.b x.v x.r x.h x.a x.s x.c) (Ct.mk x.k x.b x.v x.r x.h x.a x.s x.c) = (0 : Int)) then true else bif decide (Ct.cmp (Ct.mk
    x.k x.b x.v x.r x.h x.a x.s x.c) (Ct.mk y.k y.b y.v y.r y.h y.a y.s y.c) ≤ (0 : Int)) then bif decide (Ct.cmp (Ct.mk y.k y.b y.v y.r y.h y.a y.s y.c) (Ct.mk z.k z.b z.v z.r z.h z.a z.s
    z.c) ≤ (0 : Int)) then decide ((0 : Int) < Ct.cmp (Ct.mk x.k x.b x.v x.r x.h x.a x.s x.c) (Ct.mk z.k z.b z.v z.r z.h z.a z.s z.c)) else false else false) (Tree.leaf (Ans.mk (AV.v
    (Value.bool false)) [])) (Tree.chk true (Tree.br (decide (Ct.cmp (Ct.mk x.k x.b x.v x.r x.h x.a x.s x.c) (Ct.mk y.k y.b y.v y.r y.h y.a y.s y.c) < (0 : Int))) (Tree.chk (bif decide (y.k
    = x.k) && (decide (y.b = x.b) && (decide (y.v = x.v) && (decide (y.r = x.r) && (decide (y.h = x.h) && (decide (y.a = x.a) && (decide (y.s = x.s) && decide (y.c = x.c))))))) then bif
    decide ((0 : Int) ≤ Ct.cmp (Ct.mk y.k y.b y.v y.r y.h y.a y.s y.c) (Ct.mk x.k x.b x.v x.r x.h x.a x.s x.c)) then true else true else bif decide (y.k = y.k) && (decide (y.b = y.b) &&
    (decide (y.v = y.v) && (decide (y.r = y.r) && (decide (y.h = y.h) && (decide (y.a = y.a) && (decide (y.s = y.s) && decide (y.c = y.c))))))) then bif decide ((0 : Int) ≤ Ct.cmp (Ct.mk y.k
    y.b y.v y.r y.h y.a y.s y.c) (Ct.mk x.k x.b x.v x.r x.h x.a x.s x.c)) then true else true else true) (Tree.leaf (Ans.mk (AV.sb (bif decide (y.k = x.k) && (decide (y.b = x.b) && (decide
    (y.v = x.v) && (decide (y.r = x.r) && (decide (y.h = x.h) && (decide (y.a = x.a) && (decide (y.s = x.s) && decide (y.c = x.c))))))) then bif decide ((0 : Int) ≤ Ct.cmp (Ct.mk y.k y.b y.v
    y.r y.h y.a y.s y.c) (Ct.mk x.k x.b x.v x.r x.h x.a x.s x.c)) then decide ((0 : Int) ≤ Ct.cmp (Ct.mk y.k y.b y.v y.r y.h y.a y.s y.c) (Ct.mk y.k y.b y.v y.r y.h y.a y.s y.c)) else false
    else bif decide (y.k = y.k) && (decide (y.b = y.b) && (decide (y.v = y.v) && (decide (y.r = y.r) && (decide (y.h = y.h) && (decide (y.a = y.a) && (decide (y.s = y.s) && decide (y.c =
    y.c))))))) then bif decide ((0 : Int) ≤ Ct.cmp (Ct.mk y.k y.b y.v y.r y.h y.a y.s y.c) (Ct.mk x.k x.b x.v x.r x.h x.a x.s x.c)) then decide ((0 : Int) ≤ Ct.cmp (Ct.mk y.k y.b y.v y.r y.h
    y.a y.s y.c) (Ct.mk y.k y.b y.v y.r y.h y.a y.s y.c)) else false else false)) []))) (Tree.chk (bif decide (x.k = x.k) && (decide (x.b = x.b) && (decide (x.v = x.v) && (decide (x.r = x.r)
    && (decide (x.h = x.h) && (decide (x.a = x.a) && (decide (x.s = x.s) && decide (x.c = x.c))))))) then bif decide ((0 : Int) ≤ Ct.cmp (Ct.mk x.k x.b x.v x.r x.h x.a x.s x.c) (Ct.mk x.k
    x.b x.v x.r x.h x.a x.s x.c)) then true else true else bif decide (x.k = y.k) && (decide (x.b = y.b) && (decide (x.v = y.v) && (decide (x.r = y.r) && (decide (x.h = y.h) && (decide (x.a
    = y.a) && (decide (x.s = y.s) && decide (x.c = y.c))))))) then bif decide ((0 : Int) ≤ Ct.cmp (Ct.mk x.k x.b x.v x.r x.h x.a x.s x.c) (Ct.mk x.k x.b x.v x.r x.h x.a x.s x.c)) then true
    else true else true) (Tree.leaf (Ans.mk (AV.sb (bif decide (x.k = x.k) && (decide (x.b = x.b) && (decide (x.v = x.v) && (decide (x.r = x.r) && (decide (x.h = x.h) && (decide (x.a = x.a)
    && (decide (x.s = x.s) && decide (x.c = x.c))))))) then bif decide ((0 : Int) ≤ Ct.cmp (Ct.mk x.k x.b x.v x.r x.h x.a x.s x.c) (Ct.mk x.k x.b x.v x.r x.h x.a x.s x.c)) then decide ((0 :
    Int) ≤ Ct.cmp (Ct.mk x.k x.b x.v x.r x.h x.a x.s x.c) (Ct.mk y.k y.b y.v y.r y.h y.a y.s y.c)) else false else bif decide (x.k = y.k) && (decide (x.b = y.b) && (decide (x.v = y.v) &&
    (decide (x.r = y.r) && (decide (x.h = y.h) && (decide (x.a = y.a) && (decide (x.s = y.s) && decide (x.c = y.c))))))) then bif decide ((0 : Int) ≤ Ct.cmp (Ct.mk x.k x.b x.v x.r x.h x.a
    x.s x.c) (Ct.mk x.k x.b x.v x.r x.h x.a x.s x.c)) then decide ((0 : Int) ≤ Ct.cmp (Ct.mk x.k x.b x.v x.r x.h x.a x.s x.c) (Ct.mk y.k y.b y.v y.r y.h y.a y.s y.c)) else false else false))
    []))))))))) := by kernel_rfl
theorem lawGn (x y z : Ct) (b : ByteArray) (h1 : Answers Try.prog Γb 41 [x.av] [] (.tup [.hs 0 0 b.size, .v (.int .i64 0)]) [] [.arr 1 b.size (bsF b)]) (hN : Answers Try.prog Γb 42 [.hs 0 0 b.size] [.arr 1 b.size (bsF b)] (.ptr 1 0) [some (.arr 1 b.size (bsF b))] [.row [.hs 2 0 b.size, .v (.int .i64 0)], .arr 1 b.size (bsF b)]) (hT : Answers Try.prog Γb 43 [.ptr 0 0] (rdb b 0 0) x.av ((rdb b b.size 0).map some) []) : bodyE (P := Try.prog) (Γ := Γb) [z40', Z.c45, kMax, CT.at 41 h1, CT.at 42 hN, CT.at 43 hT, hRs b] Lno false 97 [.tmp 8] (bodyOf Try.f9) [x.av, y.av, z.av, .v (.slice none 0 0)] [] =
  Tree.br false (Tree.leaf (Ans.mk (AV.v (Value.bool true)) [])) (Tree.chk (cl (LeL [AV.agg [AV.v (Value.int IntKind.i64 x.k), AV.v (Value.int IntKind.i64 x.b), AV.v (Value.int IntKind.i64
    x.v), AV.v (Value.int IntKind.i64 x.r), AV.v (Value.int IntKind.i64 x.h), AV.v (Value.int IntKind.i64 x.a), AV.v (Value.int IntKind.u32 x.s), AV.v (Value.int IntKind.u32 x.c)]] [AV.agg
    [AV.v (Value.int IntKind.i64 x.k), AV.v (Value.int IntKind.i64 x.b), AV.v (Value.int IntKind.i64 x.v), AV.v (Value.int IntKind.i64 x.r), AV.v (Value.int IntKind.i64 x.h), AV.v (Value.int
    IntKind.i64 x.a), AV.v (Value.int IntKind.u32 x.s), AV.v (Value.int IntKind.u32 x.c)]] ∧ LeH [] [])) (Tree.br true (Tree.chk (roomOk (1 : Nat) ((0 : Nat) + ByteArray.size b)) (Tree.chk
    (cl (LeL [AV.hs (0 : Nat) (0 : Nat) ((0 : Nat) + ByteArray.size b)] [AV.hs (0 : Nat) (0 : Nat) (ByteArray.size b)] ∧ LeH [some (Blk.arr (1 : Nat) ((0 : Nat) + ByteArray.size b) fun j =>
    mixL (decide (j < (0 : Nat))) (chain [AV.v (Value.int IntKind.u8 (0 : Int))] (0 : Nat) [] ((0 : Nat) + j)) (bsF b ((0 : Nat) + j)))] [some (Blk.arr (1 : Nat) (ByteArray.size b) (bsF
    b))])) (Tree.chk (cl (LeL [AV.ptr (0 : Nat) (0 : Nat)] [AV.ptr (0 : Nat) (0 : Nat)] ∧ LeH [some (Blk.row [AV.hs (1 : Nat) (0 : Nat) (ByteArray.size b), AV.v (Value.int IntKind.i64 (0 :
    Int))]), some (Blk.arr (1 : Nat) (ByteArray.size b) (bsF b))] [some (Blk.row [AV.hs (1 : Nat) (0 : Nat) (ByteArray.size b), AV.v (Value.int IntKind.i64 (0 : Int))]), some (Blk.arr (1 :
    Nat) (ByteArray.size b) (bsF b))])) (Tree.br (!(decide (x.k = x.k) && (decide (x.b = x.b) && (decide (x.v = x.v) && (decide (x.r = x.r) && (decide (x.h = x.h) && (decide (x.a = x.a) &&
    (decide (x.s = x.s) && decide (x.c = x.c))))))))) (Tree.leaf (Ans.mk (AV.v (Value.bool false)) [])) (Tree.chk (cl (RX.ok b (RX.mk (ByteArray.size b) (ByteArray.size b - ByteArray.size b)
    (0 : Int) (ByteArray.size b) (bsF b)))) (Tree.br (!decide ((↑(ByteArray.size b - ByteArray.size b) : Int) = (0 : Int))) (Tree.leaf (Ans.mk (AV.v (Value.bool false)) [])) (Tree.chk (bif
    !decide (Ct.cmp (Ct.mk x.k x.b x.v x.r x.h x.a x.s x.c) (Ct.mk y.k y.b y.v y.r y.h y.a y.s y.c) = IntKind.wrap IntKind.i64 ((0 : Int) - Ct.cmp (Ct.mk y.k y.b y.v y.r y.h y.a y.s y.c)
    (Ct.mk x.k x.b x.v x.r x.h x.a x.s x.c))) then true else bif !decide (Ct.cmp (Ct.mk x.k x.b x.v x.r x.h x.a x.s x.c) (Ct.mk x.k x.b x.v x.r x.h x.a x.s x.c) = (0 : Int)) then true else
    bif decide (Ct.cmp (Ct.mk x.k x.b x.v x.r x.h x.a x.s x.c) (Ct.mk y.k y.b y.v y.r y.h y.a y.s y.c) ≤ (0 : Int)) then bif decide (Ct.cmp (Ct.mk y.k y.b y.v y.r y.h y.a y.s y.c) (Ct.mk z.k
    z.b z.v z.r z.h z.a z.s z.c) ≤ (0 : Int)) then true else true else true) (Tree.br (bif !decide (Ct.cmp (Ct.mk x.k x.b x.v x.r x.h x.a x.s x.c) (Ct.mk y.k y.b y.v y.r y.h y.a y.s y.c) =
    IntKind.wrap IntKind.i64 ((0 : Int) - Ct.cmp (Ct.mk y.k y.b y.v y.r y.h y.a y.s y.c) (Ct.mk x.k x.b x.v x.r x.h x.a x.s x.c))) then true else bif !decide (Ct.cmp (Ct.mk x.k x.b x.v x.r
    x.h x.a x.s x.c) (Ct.mk x.k x.b x.v x.r x.h x.a x.s x.c) = (0 : Int)) then true else bif decide (Ct.cmp (Ct.mk x.k x.b x.v x.r x.h x.a x.s x.c) (Ct.mk y.k y.b y.v y.r y.h y.a y.s y.c) ≤
    (0 : Int)) then bif decide (Ct.cmp (Ct.mk y.k y.b y.v y.r y.h y.a y.s y.c) (Ct.mk z.k z.b z.v z.r z.h z.a z.s z.c) ≤ (0 : Int)) then decide ((0 : Int) < Ct.cmp (Ct.mk x.k x.b x.v x.r x.h
    x.a x.s x.c) (Ct.mk z.k z.b z.v z.r z.h z.a z.s z.c)) else false else false) (Tree.leaf (Ans.mk (AV.v (Value.bool false)) [])) (Tree.chk true (Tree.br (decide (Ct.cmp (Ct.mk x.k x.b x.v
    x.r x.h x.a x.s x.c) (Ct.mk y.k y.b y.v y.r y.h y.a y.s y.c) < (0 : Int))) (Tree.chk (bif decide (y.k = x.k) && (decide (y.b = x.b) && (decide (y.v = x.v) && (decide (y.r = x.r) &&
    (decide (y.h = x.h) && (decide (y.a = x.a) && (decide (y.s = x.s) && decide (y.c = x.c))))))) then bif decide ((0 : Int) ≤ Ct.cmp (Ct.mk y.k y.b y.v y.r y.h y.a y.s y.c) (Ct.mk x.k x.b
    x.v x.r x.h x.a x.s x.c)) then true else true else bif decide (y.k = y.k) && (decide (y.b = y.b) && (decide (y.v = y.v) && (decide (y.r = y.r) && (decide (y.h = y.h) && (decide (y.a =
    y.a) && (decide (y.s = y.s) && decide (y.c = y.c))))))) then bif decide ((0 : Int) ≤ Ct.cmp (Ct.mk y.k y.b y.v y.r y.h y.a y.s y.c) (Ct.mk x.k x.b x.v x.r x.h x.a x.s x.c)) then true
    else true else true) (Tree.leaf (Ans.mk (AV.sb (bif decide (y.k = x.k) && (decide (y.b = x.b) && (decide (y.v = x.v) && (decide (y.r = x.r) && (decide (y.h = x.h) && (decide (y.a = x.a)
    && (decide (y.s = x.s) && decide (y.c = x.c))))))) then bif decide ((0 : Int) ≤ Ct.cmp (Ct.mk y.k y.b y.v y.r y.h y.a y.s y.c) (Ct.mk x.k x.b x.v x.r x.h x.a x.s x.c)) then decide ((0 :
    Int) ≤ Ct.cmp (Ct.mk y.k y.b y.v y.r y.h y.a y.s y.c) (Ct.mk y.k y.b y.v y.r y.h y.a y.s y.c)) else false else bif decide (y.k = y.k) && (decide (y.b = y.b) && (decide (y.v = y.v) &&
    (decide (y.r = y.r) && (decide (y.h = y.h) && (decide (y.a = y.a) && (decide (y.s = y.s) && decide (y.c = y.c))))))) then bif decide ((0 : Int) ≤ Ct.cmp (Ct.mk y.k y.b y.v y.r y.h y.a
    y.s y.c) (Ct.mk x.k x.b x.v x.r x.h x.a x.s x.c)) then decide ((0 : Int) ≤ Ct.cmp (Ct.mk y.k y.b y.v y.r y.h y.a y.s y.c) (Ct.mk y.k y.b y.v y.r y.h y.a y.s y.c)) else false else false))
    []))) (Tree.chk (bif decide (x.k = x.k) && (decide (x.b = x.b) && (decide (x.v = x.v) && (decide (x.r = x.r) && (decide (x.h = x.h) && (decide (x.a = x.a) && (decide (x.s = x.s) &&
    decide (x.c = x.c))))))) then bif decide ((0 : Int) ≤ Ct.cmp (Ct.mk x.k x.b x.v x.r x.h x.a x.s x.c) (Ct.mk x.k x.b x.v x.r x.h x.a x.s x.c)) then true else true else bif decide (x.k =
    y.k) && (decide (x.b = y.b) && (decide (x.v = y.v) && (decide (x.r = y.r) && (decide (x.h = y.h) && (decide (x.a = y.a) && (decide (x.s = y.s) && decide (x.c = y.c))))))) then bif decide
    ((0 : Int) ≤ Ct.cmp (Ct.mk x.k x.b x.v x.r x.h x.a x.s x.c) (Ct.mk x.k x.b x.v x.r x.h x.a x.s x.c)) then true else true else true) (Tree.leaf (Ans.mk (AV.sb (bif decide (x.k = x.k) &&
    (decide (x.b = x.b) && (decide (x.v = x.v) && (decide (x.r = x.r) && (decide (x.h = x.h) && (decide (x.a = x.a) && (decide (x.s = x.s) && decide (x.c = x.c))))))) then bif decide ((0 :
    Int) ≤ Ct.cmp (Ct.mk x.k x.b x.v x.r x.h x.a x.s x.c) (Ct.mk x.k x.b x.v x.r x.h x.a x.s x.c)) then decide ((0 : Int) ≤ Ct.cmp (Ct.mk x.k x.b x.v x.r x.h x.a x.s x.c) (Ct.mk y.k y.b y.v
    y.r y.h y.a y.s y.c)) else false else bif decide (x.k = y.k) && (decide (x.b = y.b) && (decide (x.v = y.v) && (decide (x.r = y.r) && (decide (x.h = y.h) && (decide (x.a = y.a) && (decide
    (x.s = y.s) && decide (x.c = y.c))))))) then bif decide ((0 : Int) ≤ Ct.cmp (Ct.mk x.k x.b x.v x.r x.h x.a x.s x.c) (Ct.mk x.k x.b x.v x.r x.h x.a x.s x.c)) then decide ((0 : Int) ≤
    Ct.cmp (Ct.mk x.k x.b x.v x.r x.h x.a x.s x.c) (Ct.mk y.k y.b y.v y.r y.h y.a y.s y.c)) else false else false)) []))))))))))))) (Tree.chk (bif !decide (Ct.cmp (Ct.mk x.k x.b x.v x.r x.h
    x.a x.s x.c) (Ct.mk y.k y.b y.v y.r y.h y.a y.s y.c) = IntKind.wrap IntKind.i64 ((0 : Int) - Ct.cmp (Ct.mk y.k y.b y.v y.r y.h y.a y.s y.c) (Ct.mk x.k x.b x.v x.r x.h x.a x.s x.c))) then
    true else bif !decide (Ct.cmp (Ct.mk x.k x.b x.v x.r x.h x.a x.s x.c) (Ct.mk x.k x.b x.v x.r x.h x.a x.s x.c) = (0 : Int)) then true else bif decide (Ct.cmp (Ct.mk x.k x.b x.v x.r x.h
    x.a x.s x.c) (Ct.mk y.k y.b y.v y.r y.h y.a y.s y.c) ≤ (0 : Int)) then bif decide (Ct.cmp (Ct.mk y.k y.b y.v y.r y.h y.a y.s y.c) (Ct.mk z.k z.b z.v z.r z.h z.a z.s z.c) ≤ (0 : Int))
    then true else true else true) (Tree.br (bif !decide (Ct.cmp (Ct.mk x.k x.b x.v x.r x.h x.a x.s x.c) (Ct.mk y.k y.b y.v y.r y.h y.a y.s y.c) = IntKind.wrap IntKind.i64 ((0 : Int) -
    Ct.cmp (Ct.mk y.k y.b y.v y.r y.h y.a y.s y.c) (Ct.mk x.k x.b x.v x.r x.h x.a x.s x.c))) then true else bif !decide (Ct.cmp (Ct.mk x.k x.b x.v x.r x.h x.a x.s x.c) (Ct.mk x.k x.b x.v x.r
    x.h x.a x.s x.c) = (0 : Int)) then true else bif decide (Ct.cmp (Ct.mk x.k x.b x.v x.r x.h x.a x.s x.c) (Ct.mk y.k y.b y.v y.r y.h y.a y.s y.c) ≤ (0 : Int)) then bif decide (Ct.cmp
    (Ct.mk y.k y.b y.v y.r y.h y.a y.s y.c) (Ct.mk z.k z.b z.v z.r z.h z.a z.s z.c) ≤ (0 : Int)) then decide ((0 : Int) < Ct.cmp (Ct.mk x.k x.b x.v x.r x.h x.a x.s x.c) (Ct.mk z.k z.b z.v
    z.r z.h z.a z.s z.c)) else false else false) (Tree.leaf (Ans.mk (AV.v (Value.bool false)) [])) (Tree.chk true (Tree.br (decide (Ct.cmp (Ct.mk x.k x.b x.v x.r x.h x.a x.s x.c) (Ct.mk y.k
    y.b y.v y.r y.h y.a y.s y.c) < (0 : Int))) (Tree.chk (bif decide (y.k = x.k) && (decide (y.b = x.b) && (decide (y.v = x.v) && (decide (y.r = x.r) && (decide (y.h = x.h) && (decide (y.a =
    x.a) && (decide (y.s = x.s) && decide (y.c = x.c))))))) then bif decide ((0 : Int) ≤ Ct.cmp (Ct.mk y.k y.b y.v y.r y.h y.a y.s y.c) (Ct.mk x.k x.b x.v x.r x.h x.a x.s x.c)) then true
    else true else bif decide (y.k = y.k) && (decide (y.b = y.b) && (decide (y.v = y.v) && (decide (y.r = y.r) && (decide (y.h = y.h) && (decide (y.a = y.a) && (decide (y.s = y.s) && decide
    (y.c = y.c))))))) then bif decide ((0 : Int) ≤ Ct.cmp (Ct.mk y.k y.b y.v y.r y.h y.a y.s y.c) (Ct.mk x.k x.b x.v x.r x.h x.a x.s x.c)) then true else true else true) (Tree.leaf (Ans.mk
    (AV.sb (bif decide (y.k = x.k) && (decide (y.b = x.b) && (decide (y.v = x.v) && (decide (y.r = x.r) && (decide (y.h = x.h) && (decide (y.a = x.a) && (decide (y.s = x.s) && decide (y.c =
    x.c))))))) then bif decide ((0 : Int) ≤ Ct.cmp (Ct.mk y.k y.b y.v y.r y.h y.a y.s y.c) (Ct.mk x.k x.b x.v x.r x.h x.a x.s x.c)) then decide ((0 : Int) ≤ Ct.cmp (Ct.mk y.k y.b y.v y.r y.h
    y.a y.s y.c) (Ct.mk y.k y.b y.v y.r y.h y.a y.s y.c)) else false else bif decide (y.k = y.k) && (decide (y.b = y.b) && (decide (y.v = y.v) && (decide (y.r = y.r) && (decide (y.h = y.h)
    && (decide (y.a = y.a) && (decide (y.s = y.s) && decide (y.c = y.c))))))) then bif decide ((0 : Int) ≤ Ct.cmp (Ct.mk y.k y.b y.v y.r y.h y.a y.s y.c) (Ct.mk x.k x.b x.v x.r x.h x.a x.s
    x.c)) then decide ((0 : Int) ≤ Ct.cmp (Ct.mk y.k y.b y.v y.r y.h y.a y.s y.c) (Ct.mk y.k y.b y.v y.r y.h y.a y.s y.c)) else false else false)) []))) (Tree.chk (bif decide (x.k = x.k) &&
    (decide (x.b = x.b) && (decide (x.v = x.v) && (decide (x.r = x.r) && (decide (x.h = x.h) && (decide (x.a = x.a) && (decide (x.s = x.s) && decide (x.c = x.c))))))) then bif decide ((0 :
    Int) ≤ Ct.cmp (Ct.mk x.k x.b x.v x.r x.h x.a x.s x.c) (Ct.mk x.k x.b x.v x.r x.h x.a x.s x.c)) then true else true else bif decide (x.k = y.k) && (decide (x.b = y.b) && (decide (x.v =
    y.v) && (decide (x.r = y.r) && (decide (x.h = y.h) && (decide (x.a = y.a) && (decide (x.s = y.s) && decide (x.c = y.c))))))) then bif decide ((0 : Int) ≤ Ct.cmp (Ct.mk x.k x.b x.v x.r
    x.h x.a x.s x.c) (Ct.mk x.k x.b x.v x.r x.h x.a x.s x.c)) then true else true else true) (Tree.leaf (Ans.mk (AV.sb (bif decide (x.k = x.k) && (decide (x.b = x.b) && (decide (x.v = x.v)
    && (decide (x.r = x.r) && (decide (x.h = x.h) && (decide (x.a = x.a) && (decide (x.s = x.s) && decide (x.c = x.c))))))) then bif decide ((0 : Int) ≤ Ct.cmp (Ct.mk x.k x.b x.v x.r x.h x.a
    x.s x.c) (Ct.mk x.k x.b x.v x.r x.h x.a x.s x.c)) then decide ((0 : Int) ≤ Ct.cmp (Ct.mk x.k x.b x.v x.r x.h x.a x.s x.c) (Ct.mk y.k y.b y.v y.r y.h y.a y.s y.c)) else false else bif
    decide (x.k = y.k) && (decide (x.b = y.b) && (decide (x.v = y.v) && (decide (x.r = y.r) && (decide (x.h = y.h) && (decide (x.a = y.a) && (decide (x.s = y.s) && decide (x.c = y.c)))))))
    then bif decide ((0 : Int) ≤ Ct.cmp (Ct.mk x.k x.b x.v x.r x.h x.a x.s x.c) (Ct.mk x.k x.b x.v x.r x.h x.a x.s x.c)) then decide ((0 : Int) ≤ Ct.cmp (Ct.mk x.k x.b x.v x.r x.h x.a x.s
    x.c) (Ct.mk y.k y.b y.v y.r y.h y.a y.s y.c)) else false else false)) []))))))))) := by kernel_rfl
theorem lawGr (x y z : Ct) (r b t : ByteArray) (o : Nat) (h1 : Answers Try.prog Γb 41 [x.av] [] (.tup [.hs 0 0 b.size, .v (.int .i64 0)]) [] [.arr 1 b.size (bsF b)]) (hN : Answers Try.prog Γb 42 [.hs 0 0 t.size] [.arr 1 t.size (bsF t)] (.ptr 1 0) [some (.arr 1 t.size (bsF t))] [.row [.hs 2 0 t.size, .v (.int .i64 0)], .arr 1 t.size (bsF t)]) (hT : Answers Try.prog Γb 43 [.ptr 0 0] (rdb t 0 0) x.av ((rdb t o 0).map some) []) : bodyE (P := Try.prog) (Γ := Γb) [z40', Z.c45, kMax, CT.at 41 h1, CT.at 42 hN, CT.at 43 hT, hRs t] Lno false 97 [.tmp 8] (bodyOf Try.f9) [x.av, y.av, z.av, .sl 1 r.size (bsF r)] [] =
  Tree.br (decide ((1000 : Int) < (↑(ByteArray.size r) : Int))) (Tree.leaf (Ans.mk (AV.v (Value.bool true)) [])) (Tree.chk (cl (LeL [AV.agg [AV.v (Value.int IntKind.i64 x.k), AV.v (Value.int
    IntKind.i64 x.b), AV.v (Value.int IntKind.i64 x.v), AV.v (Value.int IntKind.i64 x.r), AV.v (Value.int IntKind.i64 x.h), AV.v (Value.int IntKind.i64 x.a), AV.v (Value.int IntKind.u32
    x.s), AV.v (Value.int IntKind.u32 x.c)]] [AV.agg [AV.v (Value.int IntKind.i64 x.k), AV.v (Value.int IntKind.i64 x.b), AV.v (Value.int IntKind.i64 x.v), AV.v (Value.int IntKind.i64 x.r),
    AV.v (Value.int IntKind.i64 x.h), AV.v (Value.int IntKind.i64 x.a), AV.v (Value.int IntKind.u32 x.s), AV.v (Value.int IntKind.u32 x.c)]] ∧ LeH [] [])) (Tree.br true (Tree.chk (roomOk (1
    : Nat) ((0 : Nat) + ByteArray.size b)) (Tree.chk (roomOk (1 : Nat) ((0 : Nat) + ByteArray.size b + ByteArray.size r)) (Tree.chk (cl (LeL [AV.hs (0 : Nat) (0 : Nat) ((0 : Nat) +
    ByteArray.size b + ByteArray.size r)] [AV.hs (0 : Nat) (0 : Nat) (ByteArray.size t)] ∧ LeH [some (Blk.arr (1 : Nat) ((0 : Nat) + ByteArray.size b + ByteArray.size r) fun j => mixL
    (decide (j < (0 : Nat) + ByteArray.size b)) (mixL (decide ((0 : Nat) + j < (0 : Nat))) (chain [AV.v (Value.int IntKind.u8 (0 : Int))] (0 : Nat) [] ((0 : Nat) + ((0 : Nat) + j))) (bsF b
    ((0 : Nat) + ((0 : Nat) + j)))) (bsF r (j - ((0 : Nat) + ByteArray.size b))))] [some (Blk.arr (1 : Nat) (ByteArray.size t) (bsF t))])) (Tree.chk (cl (LeL [AV.ptr (0 : Nat) (0 : Nat)]
    [AV.ptr (0 : Nat) (0 : Nat)] ∧ LeH [some (Blk.row [AV.hs (1 : Nat) (0 : Nat) (ByteArray.size t), AV.v (Value.int IntKind.i64 (0 : Int))]), some (Blk.arr (1 : Nat) (ByteArray.size t) (bsF
    t))] [some (Blk.row [AV.hs (1 : Nat) (0 : Nat) (ByteArray.size t), AV.v (Value.int IntKind.i64 (0 : Int))]), some (Blk.arr (1 : Nat) (ByteArray.size t) (bsF t))])) (Tree.br (!(decide
    (x.k = x.k) && (decide (x.b = x.b) && (decide (x.v = x.v) && (decide (x.r = x.r) && (decide (x.h = x.h) && (decide (x.a = x.a) && (decide (x.s = x.s) && decide (x.c = x.c)))))))))
    (Tree.leaf (Ans.mk (AV.v (Value.bool false)) [])) (Tree.chk (cl (RX.ok t (RX.mk o (ByteArray.size t - o) (0 : Int) (ByteArray.size t) (bsF t)))) (Tree.br (!decide ((↑(ByteArray.size t -
    o) : Int) = (↑(ByteArray.size r) : Int))) (Tree.leaf (Ans.mk (AV.v (Value.bool false)) [])) (Tree.chk (bif !decide (Ct.cmp (Ct.mk x.k x.b x.v x.r x.h x.a x.s x.c) (Ct.mk y.k y.b y.v y.r
    y.h y.a y.s y.c) = IntKind.wrap IntKind.i64 ((0 : Int) - Ct.cmp (Ct.mk y.k y.b y.v y.r y.h y.a y.s y.c) (Ct.mk x.k x.b x.v x.r x.h x.a x.s x.c))) then true else bif !decide (Ct.cmp
    (Ct.mk x.k x.b x.v x.r x.h x.a x.s x.c) (Ct.mk x.k x.b x.v x.r x.h x.a x.s x.c) = (0 : Int)) then true else bif decide (Ct.cmp (Ct.mk x.k x.b x.v x.r x.h x.a x.s x.c) (Ct.mk y.k y.b y.v
    y.r y.h y.a y.s y.c) ≤ (0 : Int)) then bif decide (Ct.cmp (Ct.mk y.k y.b y.v y.r y.h y.a y.s y.c) (Ct.mk z.k z.b z.v z.r z.h z.a z.s z.c) ≤ (0 : Int)) then true else true else true)
    (Tree.br (bif !decide (Ct.cmp (Ct.mk x.k x.b x.v x.r x.h x.a x.s x.c) (Ct.mk y.k y.b y.v y.r y.h y.a y.s y.c) = IntKind.wrap IntKind.i64 ((0 : Int) - Ct.cmp (Ct.mk y.k y.b y.v y.r y.h
    y.a y.s y.c) (Ct.mk x.k x.b x.v x.r x.h x.a x.s x.c))) then true else bif !decide (Ct.cmp (Ct.mk x.k x.b x.v x.r x.h x.a x.s x.c) (Ct.mk x.k x.b x.v x.r x.h x.a x.s x.c) = (0 : Int))
    then true else bif decide (Ct.cmp (Ct.mk x.k x.b x.v x.r x.h x.a x.s x.c) (Ct.mk y.k y.b y.v y.r y.h y.a y.s y.c) ≤ (0 : Int)) then bif decide (Ct.cmp (Ct.mk y.k y.b y.v y.r y.h y.a y.s
    y.c) (Ct.mk z.k z.b z.v z.r z.h z.a z.s z.c) ≤ (0 : Int)) then decide ((0 : Int) < Ct.cmp (Ct.mk x.k x.b x.v x.r x.h x.a x.s x.c) (Ct.mk z.k z.b z.v z.r z.h z.a z.s z.c)) else false else
    false) (Tree.leaf (Ans.mk (AV.v (Value.bool false)) [])) (Tree.chk true (Tree.br (decide (Ct.cmp (Ct.mk x.k x.b x.v x.r x.h x.a x.s x.c) (Ct.mk y.k y.b y.v y.r y.h y.a y.s y.c) < (0 :
    Int))) (Tree.chk (bif decide (y.k = x.k) && (decide (y.b = x.b) && (decide (y.v = x.v) && (decide (y.r = x.r) && (decide (y.h = x.h) && (decide (y.a = x.a) && (decide (y.s = x.s) &&
    decide (y.c = x.c))))))) then bif decide ((0 : Int) ≤ Ct.cmp (Ct.mk y.k y.b y.v y.r y.h y.a y.s y.c) (Ct.mk x.k x.b x.v x.r x.h x.a x.s x.c)) then true else true else bif decide (y.k =
    y.k) && (decide (y.b = y.b) && (decide (y.v = y.v) && (decide (y.r = y.r) && (decide (y.h = y.h) && (decide (y.a = y.a) && (decide (y.s = y.s) && decide (y.c = y.c))))))) then bif decide
    ((0 : Int) ≤ Ct.cmp (Ct.mk y.k y.b y.v y.r y.h y.a y.s y.c) (Ct.mk x.k x.b x.v x.r x.h x.a x.s x.c)) then true else true else true) (Tree.leaf (Ans.mk (AV.sb (bif decide (y.k = x.k) &&
    (decide (y.b = x.b) && (decide (y.v = x.v) && (decide (y.r = x.r) && (decide (y.h = x.h) && (decide (y.a = x.a) && (decide (y.s = x.s) && decide (y.c = x.c))))))) then bif decide ((0 :
    Int) ≤ Ct.cmp (Ct.mk y.k y.b y.v y.r y.h y.a y.s y.c) (Ct.mk x.k x.b x.v x.r x.h x.a x.s x.c)) then decide ((0 : Int) ≤ Ct.cmp (Ct.mk y.k y.b y.v y.r y.h y.a y.s y.c) (Ct.mk y.k y.b y.v
    y.r y.h y.a y.s y.c)) else false else bif decide (y.k = y.k) && (decide (y.b = y.b) && (decide (y.v = y.v) && (decide (y.r = y.r) && (decide (y.h = y.h) && (decide (y.a = y.a) && (decide
    (y.s = y.s) && decide (y.c = y.c))))))) then bif decide ((0 : Int) ≤ Ct.cmp (Ct.mk y.k y.b y.v y.r y.h y.a y.s y.c) (Ct.mk x.k x.b x.v x.r x.h x.a x.s x.c)) then decide ((0 : Int) ≤
    Ct.cmp (Ct.mk y.k y.b y.v y.r y.h y.a y.s y.c) (Ct.mk y.k y.b y.v y.r y.h y.a y.s y.c)) else false else false)) []))) (Tree.chk (bif decide (x.k = x.k) && (decide (x.b = x.b) && (decide
    (x.v = x.v) && (decide (x.r = x.r) && (decide (x.h = x.h) && (decide (x.a = x.a) && (decide (x.s = x.s) && decide (x.c = x.c))))))) then bif decide ((0 : Int) ≤ Ct.cmp (Ct.mk x.k x.b x.v
    x.r x.h x.a x.s x.c) (Ct.mk x.k x.b x.v x.r x.h x.a x.s x.c)) then true else true else bif decide (x.k = y.k) && (decide (x.b = y.b) && (decide (x.v = y.v) && (decide (x.r = y.r) &&
    (decide (x.h = y.h) && (decide (x.a = y.a) && (decide (x.s = y.s) && decide (x.c = y.c))))))) then bif decide ((0 : Int) ≤ Ct.cmp (Ct.mk x.k x.b x.v x.r x.h x.a x.s x.c) (Ct.mk x.k x.b
    x.v x.r x.h x.a x.s x.c)) then true else true else true) (Tree.leaf (Ans.mk (AV.sb (bif decide (x.k = x.k) && (decide (x.b = x.b) && (decide (x.v = x.v) && (decide (x.r = x.r) && (decide
    (x.h = x.h) && (decide (x.a = x.a) && (decide (x.s = x.s) && decide (x.c = x.c))))))) then bif decide ((0 : Int) ≤ Ct.cmp (Ct.mk x.k x.b x.v x.r x.h x.a x.s x.c) (Ct.mk x.k x.b x.v x.r
    x.h x.a x.s x.c)) then decide ((0 : Int) ≤ Ct.cmp (Ct.mk x.k x.b x.v x.r x.h x.a x.s x.c) (Ct.mk y.k y.b y.v y.r y.h y.a y.s y.c)) else false else bif decide (x.k = y.k) && (decide (x.b
    = y.b) && (decide (x.v = y.v) && (decide (x.r = y.r) && (decide (x.h = y.h) && (decide (x.a = y.a) && (decide (x.s = y.s) && decide (x.c = y.c))))))) then bif decide ((0 : Int) ≤ Ct.cmp
    (Ct.mk x.k x.b x.v x.r x.h x.a x.s x.c) (Ct.mk x.k x.b x.v x.r x.h x.a x.s x.c)) then decide ((0 : Int) ≤ Ct.cmp (Ct.mk x.k x.b x.v x.r x.h x.a x.s x.c) (Ct.mk y.k y.b y.v y.r y.h y.a
    y.s y.c)) else false else false)) [])))))))))))))) (Tree.chk (bif !decide (Ct.cmp (Ct.mk x.k x.b x.v x.r x.h x.a x.s x.c) (Ct.mk y.k y.b y.v y.r y.h y.a y.s y.c) = IntKind.wrap
    IntKind.i64 ((0 : Int) - Ct.cmp (Ct.mk y.k y.b y.v y.r y.h y.a y.s y.c) (Ct.mk x.k x.b x.v x.r x.h x.a x.s x.c))) then true else bif !decide (Ct.cmp (Ct.mk x.k x.b x.v x.r x.h x.a x.s
    x.c) (Ct.mk x.k x.b x.v x.r x.h x.a x.s x.c) = (0 : Int)) then true else bif decide (Ct.cmp (Ct.mk x.k x.b x.v x.r x.h x.a x.s x.c) (Ct.mk y.k y.b y.v y.r y.h y.a y.s y.c) ≤ (0 : Int))
    then bif decide (Ct.cmp (Ct.mk y.k y.b y.v y.r y.h y.a y.s y.c) (Ct.mk z.k z.b z.v z.r z.h z.a z.s z.c) ≤ (0 : Int)) then true else true else true) (Tree.br (bif !decide (Ct.cmp (Ct.mk
    x.k x.b x.v x.r x.h x.a x.s x.c) (Ct.mk y.k y.b y.v y.r y.h y.a y.s y.c) = IntKind.wrap IntKind.i64 ((0 : Int) - Ct.cmp (Ct.mk y.k y.b y.v y.r y.h y.a y.s y.c) (Ct.mk x.k x.b x.v x.r x.h
    x.a x.s x.c))) then true else bif !decide (Ct.cmp (Ct.mk x.k x.b x.v x.r x.h x.a x.s x.c) (Ct.mk x.k x.b x.v x.r x.h x.a x.s x.c) = (0 : Int)) then true else bif decide (Ct.cmp (Ct.mk
    x.k x.b x.v x.r x.h x.a x.s x.c) (Ct.mk y.k y.b y.v y.r y.h y.a y.s y.c) ≤ (0 : Int)) then bif decide (Ct.cmp (Ct.mk y.k y.b y.v y.r y.h y.a y.s y.c) (Ct.mk z.k z.b z.v z.r z.h z.a z.s
    z.c) ≤ (0 : Int)) then decide ((0 : Int) < Ct.cmp (Ct.mk x.k x.b x.v x.r x.h x.a x.s x.c) (Ct.mk z.k z.b z.v z.r z.h z.a z.s z.c)) else false else false) (Tree.leaf (Ans.mk (AV.v
    (Value.bool false)) [])) (Tree.chk true (Tree.br (decide (Ct.cmp (Ct.mk x.k x.b x.v x.r x.h x.a x.s x.c) (Ct.mk y.k y.b y.v y.r y.h y.a y.s y.c) < (0 : Int))) (Tree.chk (bif decide (y.k
    = x.k) && (decide (y.b = x.b) && (decide (y.v = x.v) && (decide (y.r = x.r) && (decide (y.h = x.h) && (decide (y.a = x.a) && (decide (y.s = x.s) && decide (y.c = x.c))))))) then bif
    decide ((0 : Int) ≤ Ct.cmp (Ct.mk y.k y.b y.v y.r y.h y.a y.s y.c) (Ct.mk x.k x.b x.v x.r x.h x.a x.s x.c)) then true else true else bif decide (y.k = y.k) && (decide (y.b = y.b) &&
    (decide (y.v = y.v) && (decide (y.r = y.r) && (decide (y.h = y.h) && (decide (y.a = y.a) && (decide (y.s = y.s) && decide (y.c = y.c))))))) then bif decide ((0 : Int) ≤ Ct.cmp (Ct.mk y.k
    y.b y.v y.r y.h y.a y.s y.c) (Ct.mk x.k x.b x.v x.r x.h x.a x.s x.c)) then true else true else true) (Tree.leaf (Ans.mk (AV.sb (bif decide (y.k = x.k) && (decide (y.b = x.b) && (decide
    (y.v = x.v) && (decide (y.r = x.r) && (decide (y.h = x.h) && (decide (y.a = x.a) && (decide (y.s = x.s) && decide (y.c = x.c))))))) then bif decide ((0 : Int) ≤ Ct.cmp (Ct.mk y.k y.b y.v
    y.r y.h y.a y.s y.c) (Ct.mk x.k x.b x.v x.r x.h x.a x.s x.c)) then decide ((0 : Int) ≤ Ct.cmp (Ct.mk y.k y.b y.v y.r y.h y.a y.s y.c) (Ct.mk y.k y.b y.v y.r y.h y.a y.s y.c)) else false
    else bif decide (y.k = y.k) && (decide (y.b = y.b) && (decide (y.v = y.v) && (decide (y.r = y.r) && (decide (y.h = y.h) && (decide (y.a = y.a) && (decide (y.s = y.s) && decide (y.c =
    y.c))))))) then bif decide ((0 : Int) ≤ Ct.cmp (Ct.mk y.k y.b y.v y.r y.h y.a y.s y.c) (Ct.mk x.k x.b x.v x.r x.h x.a x.s x.c)) then decide ((0 : Int) ≤ Ct.cmp (Ct.mk y.k y.b y.v y.r y.h
    y.a y.s y.c) (Ct.mk y.k y.b y.v y.r y.h y.a y.s y.c)) else false else false)) []))) (Tree.chk (bif decide (x.k = x.k) && (decide (x.b = x.b) && (decide (x.v = x.v) && (decide (x.r = x.r)
    && (decide (x.h = x.h) && (decide (x.a = x.a) && (decide (x.s = x.s) && decide (x.c = x.c))))))) then bif decide ((0 : Int) ≤ Ct.cmp (Ct.mk x.k x.b x.v x.r x.h x.a x.s x.c) (Ct.mk x.k
    x.b x.v x.r x.h x.a x.s x.c)) then true else true else bif decide (x.k = y.k) && (decide (x.b = y.b) && (decide (x.v = y.v) && (decide (x.r = y.r) && (decide (x.h = y.h) && (decide (x.a
    = y.a) && (decide (x.s = y.s) && decide (x.c = y.c))))))) then bif decide ((0 : Int) ≤ Ct.cmp (Ct.mk x.k x.b x.v x.r x.h x.a x.s x.c) (Ct.mk x.k x.b x.v x.r x.h x.a x.s x.c)) then true
    else true else true) (Tree.leaf (Ans.mk (AV.sb (bif decide (x.k = x.k) && (decide (x.b = x.b) && (decide (x.v = x.v) && (decide (x.r = x.r) && (decide (x.h = x.h) && (decide (x.a = x.a)
    && (decide (x.s = x.s) && decide (x.c = x.c))))))) then bif decide ((0 : Int) ≤ Ct.cmp (Ct.mk x.k x.b x.v x.r x.h x.a x.s x.c) (Ct.mk x.k x.b x.v x.r x.h x.a x.s x.c)) then decide ((0 :
    Int) ≤ Ct.cmp (Ct.mk x.k x.b x.v x.r x.h x.a x.s x.c) (Ct.mk y.k y.b y.v y.r y.h y.a y.s y.c)) else false else bif decide (x.k = y.k) && (decide (x.b = y.b) && (decide (x.v = y.v) &&
    (decide (x.r = y.r) && (decide (x.h = y.h) && (decide (x.a = y.a) && (decide (x.s = y.s) && decide (x.c = y.c))))))) then bif decide ((0 : Int) ≤ Ct.cmp (Ct.mk x.k x.b x.v x.r x.h x.a
    x.s x.c) (Ct.mk x.k x.b x.v x.r x.h x.a x.s x.c)) then decide ((0 : Int) ≤ Ct.cmp (Ct.mk x.k x.b x.v x.r x.h x.a x.s x.c) (Ct.mk y.k y.b y.v y.r y.h y.a y.s y.c)) else false else false))
    []))))))))) := by kernel_rfl
end Go.Eng.SB.R

namespace Go.Eng.SB.R
open Go Go.Eng Go.Eng.M Go.Eng.RD Go.Eng.SB Go.Lib Go.Proofs
theorem cmpI_range (a b : Int) : (a < b ∧ cmpI a b = -1) ∨ (a = b ∧ cmpI a b = 0) ∨ (b < a ∧ cmpI a b = 1) := by
  unfold cmpI
  split
  · exact .inl ⟨by assumption, rfl⟩
  · split
    · exact .inr (.inr ⟨by assumption, rfl⟩)
    · exact .inr (.inl ⟨by omega, rfl⟩)
theorem cmp_is (x y : Ct) : (x.cmp y = -1 ∧ (x.v < y.v ∨ (x.v = y.v ∧ (x.cls < y.cls ∨ (x.cls = y.cls ∧ x.r < y.r))))) ∨ (x.cmp y = 0 ∧ x.v = y.v ∧ x.cls = y.cls ∧ x.r = y.r) ∨ (x.cmp y = 1 ∧ (y.v < x.v ∨ (x.v = y.v ∧ (y.cls < x.cls ∨ (x.cls = y.cls ∧ y.r < x.r))))) := by
  unfold Ct.cmp
  rcases cmpI_range x.v y.v with ⟨h1, h2⟩ | ⟨h1, h2⟩ | ⟨h1, h2⟩ <;> rw [h2]
  · exact .inl ⟨rfl, .inl h1⟩
  · rcases cmpI_range x.cls y.cls with ⟨g1, g2⟩ | ⟨g1, g2⟩ | ⟨g1, g2⟩ <;> rw [g2]
    · exact .inl ⟨rfl, .inr ⟨h1, .inl g1⟩⟩
    · rcases cmpI_range x.r y.r with ⟨f1, f2⟩ | ⟨f1, f2⟩ | ⟨f1, f2⟩ <;> rw [f2]
      · exact .inl ⟨rfl, .inr ⟨h1, .inr ⟨g1, f1⟩⟩⟩
      · exact .inr (.inl ⟨rfl, h1, g1, f1⟩)
      · exact .inr (.inr ⟨rfl, .inr ⟨h1, .inr ⟨g1, f1⟩⟩⟩)
    · exact .inr (.inr ⟨rfl, .inr ⟨h1, .inl g1⟩⟩)
  · exact .inr (.inr ⟨rfl, .inl h1⟩)
theorem cmp_self (x : Ct) : x.cmp x = 0 := by
  have := cmp_is x x
  omega
theorem cmp_anti (x y : Ct) : x.cmp y = - y.cmp x := by
  have h1 := cmp_is x y
  have h2 := cmp_is y x
  omega
theorem cmp_trans {x y z : Ct} (h1 : x.cmp y ≤ 0) (h2 : y.cmp z ≤ 0) : x.cmp z ≤ 0 := by
  have a := cmp_is x y
  have b := cmp_is y z
  have c := cmp_is x z
  omega
theorem cmp_wrap (x y : Ct) : x.cmp y = IntKind.i64.wrap (0 - y.cmp x) := by
  have h1 := cmp_is y x
  rw [cmp_anti x y, wrap64E]
  omega
theorem leT {a : Bool} (h : a = true) : AV.le (.sb a) (.v (.bool true)) := by rw [h]; exact .sb true
theorem tri (x y z : Ct) : (bif decide (x.cmp y ≤ 0) then bif decide (y.cmp z ≤ 0) then decide (0 < x.cmp z) else false else false) = false := by
  by_cases h1 : x.cmp y ≤ 0
  · by_cases h2 : y.cmp z ≤ 0
    · have := cmp_trans h1 h2
      rw [decide_eq_true h1, decide_eq_true h2, decide_eq_false (by omega)]; rfl
    · rw [decide_eq_false h2]; simp
  · rw [decide_eq_false h1]; rfl
theorem cat_fun (b r : ByteArray) (j : Nat) : mixL (decide (j < 0 + b.size)) (mixL (decide (0 + j < 0)) (chain [AV.v (Value.int IntKind.u8 0)] 0 [] (0 + (0 + j))) (bsF b (0 + (0 + j)))) (bsF r (j - (0 + b.size))) = bsF (b ++ r) j := by
  show mixL _ (mixL _ [AV.v (Value.int IntKind.u8 0)] [AV.v (Value.int IntKind.u8 (sbyte b (0 + (0 + j))))]) [AV.v (Value.int IntKind.u8 (sbyte r (j - (0 + b.size))))] = [AV.v (Value.int IntKind.u8 (sbyte (b ++ r) j))]
  rw [mixU, mixU, decide_eq_false (show ¬ 0 + j < 0 by omega), cond_false, sbyte_append]
  by_cases h : j < b.size
  · rw [decide_eq_true (by omega), cond_true, if_pos h, Nat.zero_add, Nat.zero_add]
  · rw [decide_eq_false (by omega), cond_false, if_neg h, Nat.zero_add]
theorem one_fun (b : ByteArray) (j : Nat) : mixL (decide (j < 0)) (chain [AV.v (Value.int IntKind.u8 0)] 0 [] (0 + j)) (bsF b (0 + j)) = bsF b j := by
  show mixL _ [AV.v (Value.int IntKind.u8 0)] [AV.v (Value.int IntKind.u8 (sbyte b (0 + j)))] = [AV.v (Value.int IntKind.u8 (sbyte b j))]
  rw [mixU, decide_eq_false (show ¬ j < 0 by omega), cond_false, Nat.zero_add]
theorem law_bad (x y z : Ct) (hn : x.ok = false) : LawOK Try.prog Γb 97 [.tmp 8] (bodyOf Try.f9) [x.av, y.av, z.av, .v (.slice none 0 0)] := by
  refine .mk' (T := [z40', Z.c45, kMax, CT.at 41 (ansCx hn)]) (ip := false) (L := Lno) (failOK fun _ _ _ => rfl) (Right.of (lawSn x y z hn) ?_)
  have hx : Ct.mk x.k x.b x.v x.r x.h x.a x.s x.c = x := rfl
  have hy : Ct.mk y.k y.b y.v y.r y.h y.a y.s y.c = y := rfl
  have hzz : Ct.mk z.k z.b z.v z.r z.h z.a z.s z.c = z := rfl
  have f1 := decide_eq_true (cmp_wrap x y)
  have f2 := cmp_self x
  have f3 := cmp_self y
  have f4 := tri x y z
  have f5 := cmp_anti x y
  simp only [hx, hy, hzz, f1, f2, f3, f4]
  by_cases hl : x.cmp y < 0
  · have f6 : decide (0 ≤ y.cmp x) = true := decide_eq_true (by omega)
    repeat' (first | refine wC (by first | omega | (simp only [W1, cond_true, cond_false, f6]; first | done | omega)) ?_ | refine wT (by first | omega | (simp only [W1, cond_true, cond_false, f6]; first | done | omega)) ?_ | refine wF (by intro _h; first | omega | (simp only [W1, cond_true, cond_false, f6] at _h; first | done | omega)) ?_ | (refine wS ?_ ?_ <;> intro _h <;> simp only [W1, cond_true, cond_false, f6] at _h))
    all_goals simp only [W1, W2, owesN, owesX, owesR, cond_true, cond_false, f6]
    repeat' (first | apply And.intro | intro _hc)
    all_goals first | exact leT rfl | exact leT (by simp) | exact AV.le_refl _ | exact AV.le_any _ | exact OLe.refl _ | exact OLe.none _ | exact LeH.refl _ | exact LeL.refl _ | exact AV.le.bs _ | exact AV.le.sb _ | omega | contradiction
  · have f6 : decide (0 ≤ x.cmp y) = true := decide_eq_true (by omega)
    repeat' (first | refine wC (by first | omega | (simp only [W1, cond_true, cond_false, f6]; first | done | omega)) ?_ | refine wT (by first | omega | (simp only [W1, cond_true, cond_false, f6]; first | done | omega)) ?_ | refine wF (by intro _h; first | omega | (simp only [W1, cond_true, cond_false, f6] at _h; first | done | omega)) ?_ | (refine wS ?_ ?_ <;> intro _h <;> simp only [W1, cond_true, cond_false, f6] at _h))
    all_goals simp only [W1, W2, owesN, owesX, owesR, cond_true, cond_false, f6]
    repeat' (first | apply And.intro | intro _hc)
    all_goals first | exact leT rfl | exact leT (by simp) | exact AV.le_refl _ | exact AV.le_any _ | exact OLe.refl _ | exact OLe.none _ | exact LeH.refl _ | exact LeL.refl _ | exact AV.le.bs _ | exact AV.le.sb _ | omega | contradiction
theorem law_badr (x y z : Ct) (r : ByteArray) (hn : x.ok = false) : LawOK Try.prog Γb 97 [.tmp 8] (bodyOf Try.f9) [x.av, y.av, z.av, .sl 1 r.size (bsF r)] := by
  refine .mk' (T := [z40', Z.c45, kMax, CT.at 41 (ansCx hn)]) (ip := false) (L := Lno) (failOK fun _ _ _ => rfl) (Right.of (lawSr x y z r hn) ?_)
  have hx : Ct.mk x.k x.b x.v x.r x.h x.a x.s x.c = x := rfl
  have hy : Ct.mk y.k y.b y.v y.r y.h y.a y.s y.c = y := rfl
  have hzz : Ct.mk z.k z.b z.v z.r z.h z.a z.s z.c = z := rfl
  have f1 := decide_eq_true (cmp_wrap x y)
  have f2 := cmp_self x
  have f3 := cmp_self y
  have f4 := tri x y z
  have f5 := cmp_anti x y
  simp only [hx, hy, hzz, f1, f2, f3, f4]
  by_cases hl : x.cmp y < 0
  · have f6 : decide (0 ≤ y.cmp x) = true := decide_eq_true (by omega)
    repeat' (first | refine wC (by first | omega | (simp only [W1, cond_true, cond_false, f6]; first | done | omega)) ?_ | refine wT (by first | omega | (simp only [W1, cond_true, cond_false, f6]; first | done | omega)) ?_ | refine wF (by intro _h; first | omega | (simp only [W1, cond_true, cond_false, f6] at _h; first | done | omega)) ?_ | (refine wS ?_ ?_ <;> intro _h <;> simp only [W1, cond_true, cond_false, f6] at _h))
    all_goals simp only [W1, W2, owesN, owesX, owesR, cond_true, cond_false, f6]
    repeat' (first | apply And.intro | intro _hc)
    all_goals first | exact leT rfl | exact leT (by simp) | exact AV.le_refl _ | exact AV.le_any _ | exact OLe.refl _ | exact OLe.none _ | exact LeH.refl _ | exact LeL.refl _ | exact AV.le.bs _ | exact AV.le.sb _ | omega | contradiction
  · have f6 : decide (0 ≤ x.cmp y) = true := decide_eq_true (by omega)
    repeat' (first | refine wC (by first | omega | (simp only [W1, cond_true, cond_false, f6]; first | done | omega)) ?_ | refine wT (by first | omega | (simp only [W1, cond_true, cond_false, f6]; first | done | omega)) ?_ | refine wF (by intro _h; first | omega | (simp only [W1, cond_true, cond_false, f6] at _h; first | done | omega)) ?_ | (refine wS ?_ ?_ <;> intro _h <;> simp only [W1, cond_true, cond_false, f6] at _h))
    all_goals simp only [W1, W2, owesN, owesX, owesR, cond_true, cond_false, f6]
    repeat' (first | apply And.intro | intro _hc)
    all_goals first | exact leT rfl | exact leT (by simp) | exact AV.le_refl _ | exact AV.le_any _ | exact OLe.refl _ | exact OLe.none _ | exact LeH.refl _ | exact LeL.refl _ | exact AV.le.bs _ | exact AV.le.sb _ | omega | contradiction
theorem law_one (x y z : Ct) (b : ByteArray) (hb : 0 < b.size ∧ b.size ≤ 10000) (h1 : Answers Try.prog Γb 41 [x.av] [] (.tup [.hs 0 0 b.size, .v (.int .i64 0)]) [] [.arr 1 b.size (bsF b)]) (hT : AnsT b x b.size) : LawOK Try.prog Γb 97 [.tmp 8] (bodyOf Try.f9) [x.av, y.av, z.av, .v (.slice none 0 0)] := by
  have hN := ansNwH (t := b) ⟨by unfold small; omega, hb.1⟩
  refine .mk' (T := [z40', Z.c45, kMax, CT.at 41 h1, CT.at 42 hN, CT.at 43 hT, hRs b]) (ip := false) (L := Lno) (failOK fun _ _ _ => rfl) (Right.of (lawGn x y z b h1 hN hT) ?_)
  have hx : Ct.mk x.k x.b x.v x.r x.h x.a x.s x.c = x := rfl
  have hy : Ct.mk y.k y.b y.v y.r y.h y.a y.s y.c = y := rfl
  have hzz : Ct.mk z.k z.b z.v z.r z.h z.a z.s z.c = z := rfl
  have f1 := decide_eq_true (cmp_wrap x y)
  have f2 := cmp_self x
  have f3 := cmp_self y
  have f4 := tri x y z
  have f5 := cmp_anti x y
  have hf : (fun j => mixL (decide (j < 0)) (chain [AV.v (Value.int IntKind.u8 0)] 0 [] (0 + j)) (bsF b (0 + j))) = bsF b := funext (one_fun b)
  have hc : decide (((b.size - b.size : Nat) : Int) = 0) = true := by rw [Nat.sub_self]; rfl
  have r1 : roomOk 1 b.size = true := room' (by omega)
  simp only [hf, rx_ok]
  simp only [hx, hy, hzz, f1, f2, f3, f4, hc, Nat.zero_add, r1]
  by_cases hl : x.cmp y < 0
  · have f6 : decide (0 ≤ y.cmp x) = true := decide_eq_true (by omega)
    repeat' (first | refine wC (by first | omega | (simp only [W1, cond_true, cond_false, f6]; first | done | omega)) ?_ | refine wT (by first | omega | (simp only [W1, cond_true, cond_false, f6]; first | done | omega)) ?_ | refine wF (by intro _h; first | omega | (simp only [W1, cond_true, cond_false, f6] at _h; first | done | omega)) ?_ | (refine wS ?_ ?_ <;> intro _h <;> simp only [W1, cond_true, cond_false, f6] at _h))
    all_goals simp only [W1, W2, owesN, owesX, owesR, cond_true, cond_false, f6]
    repeat' (first | apply And.intro | intro _hc)
    all_goals first | exact leT rfl | exact leT (by simp) | exact AV.le_refl _ | exact AV.le_any _ | exact OLe.refl _ | exact OLe.none _ | exact LeH.refl _ | exact LeL.refl _ | exact AV.le.bs _ | exact AV.le.sb _ | omega | contradiction
  · have f6 : decide (0 ≤ x.cmp y) = true := decide_eq_true (by omega)
    repeat' (first | refine wC (by first | omega | (simp only [W1, cond_true, cond_false, f6]; first | done | omega)) ?_ | refine wT (by first | omega | (simp only [W1, cond_true, cond_false, f6]; first | done | omega)) ?_ | refine wF (by intro _h; first | omega | (simp only [W1, cond_true, cond_false, f6] at _h; first | done | omega)) ?_ | (refine wS ?_ ?_ <;> intro _h <;> simp only [W1, cond_true, cond_false, f6] at _h))
    all_goals simp only [W1, W2, owesN, owesX, owesR, cond_true, cond_false, f6]
    repeat' (first | apply And.intro | intro _hc)
    all_goals first | exact leT rfl | exact leT (by simp) | exact AV.le_refl _ | exact AV.le_any _ | exact OLe.refl _ | exact OLe.none _ | exact LeH.refl _ | exact LeL.refl _ | exact AV.le.bs _ | exact AV.le.sb _ | omega | contradiction
theorem law_two (x y z : Ct) (b r : ByteArray) (hb : 0 < b.size ∧ b.size ≤ 10000) (hr : r.size ≤ 1000) (h1 : Answers Try.prog Γb 41 [x.av] [] (.tup [.hs 0 0 b.size, .v (.int .i64 0)]) [] [.arr 1 b.size (bsF b)]) (hT : AnsT (b ++ r) x b.size) : LawOK Try.prog Γb 97 [.tmp 8] (bodyOf Try.f9) [x.av, y.av, z.av, .sl 1 r.size (bsF r)] := by
  have hN := ansNwH (t := b ++ r) ⟨by unfold small; rw [ByteArray.size_append]; omega, by rw [ByteArray.size_append]; omega⟩
  refine .mk' (T := [z40', Z.c45, kMax, CT.at 41 h1, CT.at 42 hN, CT.at 43 hT, hRs (b ++ r)]) (ip := false) (L := Lno) (failOK fun _ _ _ => rfl) (Right.of (lawGr x y z r b (b ++ r) b.size h1 hN hT) ?_)
  have hx : Ct.mk x.k x.b x.v x.r x.h x.a x.s x.c = x := rfl
  have hy : Ct.mk y.k y.b y.v y.r y.h y.a y.s y.c = y := rfl
  have hzz : Ct.mk z.k z.b z.v z.r z.h z.a z.s z.c = z := rfl
  have f1 := decide_eq_true (cmp_wrap x y)
  have f2 := cmp_self x
  have f3 := cmp_self y
  have f4 := tri x y z
  have f5 := cmp_anti x y
  have hz : (b ++ r).size = b.size + r.size := ByteArray.size_append
  have hf : (fun j => mixL (decide (j < 0 + b.size)) (mixL (decide (0 + j < 0)) (chain [AV.v (Value.int IntKind.u8 0)] 0 [] (0 + (0 + j))) (bsF b (0 + (0 + j)))) (bsF r (j - (0 + b.size)))) = bsF (b ++ r) := funext (cat_fun b r)
  have hc : decide (((b.size + r.size - b.size : Nat) : Int) = (r.size : Int)) = true := decide_eq_true (by omega)
  have r1 : roomOk 1 b.size = true := room' (by omega)
  have r2 : roomOk 1 (b.size + r.size) = true := room' (by omega)
  simp only [hf, rx_ok]
  simp only [hx, hy, hzz, f1, f2, f3, f4, hz, hc, Nat.zero_add, r1, r2]
  generalize b ++ r = t at *
  by_cases hl : x.cmp y < 0
  · have f6 : decide (0 ≤ y.cmp x) = true := decide_eq_true (by omega)
    repeat' (first | refine wC (by first | omega | (simp only [W1, cond_true, cond_false, f6]; first | done | omega)) ?_ | refine wT (by first | omega | (simp only [W1, cond_true, cond_false, f6]; first | done | omega)) ?_ | refine wF (by intro _h; first | omega | (simp only [W1, cond_true, cond_false, f6] at _h; first | done | omega)) ?_ | (refine wS ?_ ?_ <;> intro _h <;> simp only [W1, cond_true, cond_false, f6] at _h))
    all_goals simp only [W1, W2, owesN, owesX, owesR, cond_true, cond_false, f6]
    repeat' (first | apply And.intro | intro _hc)
    all_goals first | exact leT rfl | exact leT (by simp) | exact AV.le_refl _ | exact AV.le_any _ | exact OLe.refl _ | exact OLe.none _ | exact LeH.refl _ | exact LeL.refl _ | exact AV.le.bs _ | exact AV.le.sb _ | omega | contradiction
  · have f6 : decide (0 ≤ x.cmp y) = true := decide_eq_true (by omega)
    repeat' (first | refine wC (by first | omega | (simp only [W1, cond_true, cond_false, f6]; first | done | omega)) ?_ | refine wT (by first | omega | (simp only [W1, cond_true, cond_false, f6]; first | done | omega)) ?_ | refine wF (by intro _h; first | omega | (simp only [W1, cond_true, cond_false, f6] at _h; first | done | omega)) ?_ | (refine wS ?_ ?_ <;> intro _h <;> simp only [W1, cond_true, cond_false, f6] at _h))
    all_goals simp only [W1, W2, owesN, owesX, owesR, cond_true, cond_false, f6]
    repeat' (first | apply And.intro | intro _hc)
    all_goals first | exact leT rfl | exact leT (by simp) | exact AV.le_refl _ | exact AV.le_any _ | exact OLe.refl _ | exact OLe.none _ | exact LeH.refl _ | exact LeL.refl _ | exact AV.le.bs _ | exact AV.le.sb _ | omega | contradiction
theorem setOk_le {s : Int} (h0 : 0 ≤ s) (h1 : s < 4294967296) (h : setOk s = true) : s ≤ 1023 := by
  unfold setOk at h
  have h := of_decide_eq_true h
  obtain ⟨n, rfl⟩ := Int.eq_ofNat_of_zero_le h0
  have hn : n < 2 ^ 32 := by have : (2 : Nat) ^ 32 = 4294967296 := by decide
                             omega
  have e : bitI .andNot .u32 (n : Int) 1023 = (((BitVec.ofInt 32 (n : Int) &&& ~~~ BitVec.ofInt 32 1023).toNat : Nat) : Int) := by
    show ((((BitVec.ofInt 32 (n : Int) &&& ~~~ BitVec.ofInt 32 1023).toNat : Nat) : Int)) % 4294967296 = _
    have := (BitVec.ofInt 32 (n : Int) &&& ~~~ BitVec.ofInt 32 1023).isLt
    omega
  rw [e] at h
  have hb : (BitVec.ofInt 32 (n : Int) &&& ~~~ BitVec.ofInt 32 1023) = 0#32 := BitVec.eq_of_toNat_eq (by
    show _ = 0
    omega)
  have : n < 2 ^ 10 := Nat.lt_pow_two_of_testBit n fun i hi => by
    by_cases h32 : i < 32
    · have := congrArg (fun b : BitVec 32 => b.getLsbD i) hb
      simp only [BitVec.getLsbD_and, BitVec.getLsbD_not, BitVec.ofInt_natCast, BitVec.getLsbD_ofNat, h32, decide_true, Bool.true_and, BitVec.getLsbD_zero] at this
      have e2 : (BitVec.ofInt 32 1023).getLsbD i = false := by
        show Nat.testBit 1023 i = false
        exact Nat.testBit_lt_two_pow (Nat.lt_of_lt_of_le (by decide : 1023 < 2 ^ 10) (Nat.pow_le_pow_right (by decide) hi))
      rw [e2] at this
      simpa using this
    · exact Nat.testBit_lt_two_pow (Nat.lt_of_lt_of_le hn (Nat.pow_le_pow_right (by decide) (by omega)))
  have e10 : (2 : Nat) ^ 10 = 1024 := by decide
  show (n : Int) ≤ 1023
  omega
end Go.Eng.SB.R

namespace Go.Eng.SB.R
open Go Go.Eng Go.Eng.M Go.Eng.RD Go.Eng.SB Go.Lib Go.Proofs
theorem lawSb (x y z : Ct) (r : ByteArray) : bodyE (P := Try.prog) (Γ := Γb) [z40'] Lno false 97 [.tmp 8] (bodyOf Try.f9) [x.av, y.av, z.av, .sl 1 r.size (bsF r)] [] =
  Tree.br (decide ((1000 : Int) < (↑(ByteArray.size r) : Int))) (Tree.leaf (Ans.mk (AV.v (Value.bool true)) [])) Tree.fail := by kernel_rfl
theorem law_big (x y z : Ct) (r : ByteArray) (hr : 1000 < r.size) : LawOK Try.prog Γb 97 [.tmp 8] (bodyOf Try.f9) [x.av, y.av, z.av, .sl 1 r.size (bsF r)] := by
  refine .mk' (T := [z40']) (ip := false) (L := Lno) (failOK fun _ _ _ => rfl) (Right.of (lawSb x y z r) ?_)
  repeat' (first | refine wC (by first | omega | (simp only [W1, cond_true, cond_false]; first | done | omega)) ?_ | refine wT (by first | omega | (simp only [W1, cond_true, cond_false]; first | done | omega)) ?_ | refine wF (by intro _h; first | omega | (simp only [W1, cond_true, cond_false] at _h; first | done | omega)) ?_ | (refine wS ?_ ?_ <;> intro _h <;> simp only [W1, cond_true, cond_false] at _h))
  all_goals simp only [or_true, true_or, false_or, or_false, and_false, false_and, cond_true, cond_false, Bool.not_true, Bool.not_false, Bool.false_eq_true, Bool.true_eq_false, not_true_eq_false, not_false_eq_true, false_implies, true_implies, implies_true, Nat.blt_eq, owesN, owesX, owesR, notT, sat_brT, sat_brF, sat_chkT, cl_iff, cl_false, AV.le_refl, AV.le_any, OLe_refl, OLe_none, sat_brN, Tree.sat_chk, Tree.sat_leaf, Tree.sat_fail, Nat.zero_add, Nat.sub_zero, Int.toNat_natCast, LeH_cons, LeH_nil, LeL_cons, LeL_nil, and_true, true_and, Bool.and_eq_true, Bool.or_eq_true, decide_eq_true_eq, decide_eq_false_iff_not, Bool.cond_true_left, Bool.cond_false_right, List.cons_append, List.nil_append, List.map_cons, List.map_nil]
  repeat' (first | apply And.intro | intro _hc)
  all_goals first | exact leT rfl | exact AV.le_refl _ | exact AV.le_any _ | exact OLe.refl _ | exact OLe.none _ | exact LeH.refl _ | exact LeL.refl _ | exact AV.le.bs _ | exact AV.le.sb _ | omega | contradiction
theorem reads_app {t : ByteArray} {g : Nat → Int} {n : Nat} {b : ByteArray} (h : At t 0 b) (hb : b = catN g n) (hg : ∀ i, i < n → okN (g i) = true) : Reads t g (fun i => (catN g i).size) n := by
  subst hb
  exact At.reads h fun i hi => by
    have := hg i hi
    unfold okN at this
    simp only [Bool.and_eq_true, decide_eq_true_eq] at this
    exact this
theorem known {x : Ct} (hx : x.wide) (hok : x.ok = true) : ∃ b : ByteArray, (0 < b.size ∧ b.size ≤ 10000) ∧ Answers Try.prog Γb 41 [x.av] [] (.tup [.hs 0 0 b.size, .v (.int .i64 0)]) [] [.arr 1 b.size (bsF b)] ∧ ∀ t : ByteArray, t.size ≤ 1000000000000 → At t 0 b → AnsT t x b.size := by
  rcases ok_kinds hok with h | ⟨h, hf, h1, h2, h3⟩ | ⟨h, hf, h1, h2, h3, h4⟩
  · have hn := na0 h
    have hz := catN_small (g := gC x) (i := 1) hn.1
    exact ⟨catN (gC x) 1, ⟨hz.2 (by omega), by omega⟩, ansC0 hok h, fun t ht ha => take0 ht hok h (p := fun i => (catN (gC x) i).size) rfl (reads_app ha rfl hn.1)⟩
  · have hn := na4 hx h hf
    have hz := catN_small (g := gC x) (i := 5) hn.1
    have hs : setOk x.s = true := by
      simp only [Ct.wf, Bool.and_eq_true] at hf
      exact hf.2
    exact ⟨catN (gC x) 5, ⟨hz.2 (by omega), by omega⟩, ansC4 hx hok h hf, fun t ht ha => take1 ht hx hok h hf h1 h2 h3 (setOk_le hx.1 hx.2.1 hs) (p := fun i => (catN (gC x) i).size) rfl (reads_app ha rfl hn.1)⟩
  · have hn := na7 hx h hf h1 h2 h3 h4
    have hz := catN_small (g := gC x) (i := 8) hn.1
    have hs : setOk x.s = true := by
      simp only [Ct.wf, Bool.and_eq_true] at hf
      exact hf.2
    have hc : setOk x.c = true := by
      unfold Ct.ok at hok
      rw [decide_eq_false (show ¬ x.k = 0 by omega), decide_eq_false (show ¬ x.k = 1 by omega), decide_eq_true h] at hok
      simp only [cond_true, cond_false, Bool.and_eq_true] at hok
      exact hok.2
    exact ⟨catN (gC x) 8, ⟨hz.2 (by omega), by omega⟩, ansC7 hx hok h hf h1 h2 h3 h4, fun t ht ha => take2 ht hx hok h hf h1 h2 h3 h4 (setOk_le hx.1 hx.2.1 hs) (setOk_le hx.2.2.1 hx.2.2.2 hc) (p := fun i => (catN (gC x) i).size) rfl (reads_app ha rfl hn.1)⟩
theorem At.all (b : ByteArray) : At b 0 b := ⟨by omega, fun j _ => by rw [Nat.zero_add]⟩
theorem lawCB (q : Q3) (h : q.x.wide) : LawOK Try.prog Γb 97 [.tmp 8] (bodyOf Try.f9) (AB q) := by
  obtain ⟨x, y, z, r⟩ := q
  cases r with
  | none =>
    cases hok : x.ok with
    | false => exact law_bad x y z hok
    | true =>
      obtain ⟨b, hb, h1, hT⟩ := known h hok
      exact law_one x y z b hb h1 (hT b (by omega) (At.all b))
  | some r =>
    by_cases hr : 1000 < r.size
    · exact law_big x y z r hr
    · cases hok : x.ok with
      | false => exact law_badr x y z r hok
      | true =>
        obtain ⟨b, hb, h1, hT⟩ := known h hok
        exact law_two x y z b r hb (by omega) h1 (hT (b ++ r) (by rw [ByteArray.size_append]; omega) (At.pre b r))
noncomputable def c9L : CT Try.prog Γb := CT.lawE AB (fun q => q.x.wide) 9 Try.f9 (bodyOf Try.f9) 97 [.tmp 8] Try.func9 (by kernel_rfl) (by kernel_rfl) (by kernel_rfl) (by kernel_rfl) (fun _ _ => by simp [AB]) (fun y h => lawCB y h)
end Go.Eng.SB.R

/- CertBack holds at every input: no condition beyond the row own cells. -/
namespace Go.Proofs.Ytljejgnclkmpcaa
open Go Go.ChangeShapes Go.WideShapes Go.ChangeAt Go.WideMaps Go.WideElems Go.RowKit Go.Eng Go.Eng.SB Go.Eng.SB.R

theorem own0 : ownKnob Try.prog.godebug = none := by kernel_rfl
set_option maxRecDepth 100000 in
theorem certBack_lifted (os : Os) (started : os.Started) (H : Type) (enc : TypeId × Value → H) :
    ReturnsInHanded {} Try.checked os 9 .any (Rows.certBackSpec.pre6 enc Try.prog Try.f9 Rows.certBackRow.domain false)
      (Rows.certBackSpec.post enc Try.prog Try.f9 false true false false) := by
  refine returnsInHanded_of_change (C := Try.checked) own0 started (by kernel_rfl) Try.func9
    (ChangeSpec.witness6 (enc := enc) (C := Try.checked) false ⟨#[], #[.agg #[.int .i64 0, .int .i64 0, .int .i64 0, .int .i64 0, .int .i64 0, .int .i64 0, .int .u32 0, .int .u32 0], .agg #[.int .i64 0, .int .i64 0, .int .i64 0, .int .i64 0, .int .i64 0, .int .i64 0, .int .u32 0, .int .u32 0], .agg #[.int .i64 0, .int .i64 0, .int .i64 0, .int .i64 0, .int .i64 0, .int .i64 0, .int .u32 0, .int .u32 0], .slice none 0 0], []⟩ 8 (by kernel_rfl) (by kernel_rfl) (by kernel_rfl) (by kernel_rfl)) ?_
  intro W base args ds gs before hval0 hW hcnd _
  have hval : ∀ (j : Nat) t v, Try.f9.params[j]? = some t → args[j]? = some v → Value.okWide Try.prog W .any base t v := hval0
  have hW' := hW
  obtain ⟨p, q, hA0, hV, rfl, hfz, hnd⟩ := hW
  have hA : DataW.TrodAll enc Try.prog W 0 (fun _ => true) true Try.f9.params.toList args.toList ds p := hA0
  rw [Try.params9] at hA hval
  obtain ⟨v0, v1, v2, v3, d0, d1, d2, d3, p0, p1, p2, p3, rfl, rfl, rfl, h0, h1, h2, h3⟩ := trodAll_four hA
  obtain ⟨rfl, rfl⟩ := trodVars_none hV
  obtain ⟨l0, rfl, g0_0⟩ := open_agg 9 (ks := [.int .i64, .int .i64, .int .i64, .int .i64, .int .i64, .int .i64, .int .u32, .int .u32]) Try.underlying75 (by kernel_rfl) (hval 0 75 v0 rfl rfl) h0
  obtain ⟨_, _, rfl, ⟨m0_0, rfl, w0_0⟩, g0_1⟩ := g0_0.cons
  obtain ⟨_, _, rfl, ⟨m0_1, rfl, w0_1⟩, g0_2⟩ := g0_1.cons
  obtain ⟨_, _, rfl, ⟨m0_2, rfl, w0_2⟩, g0_3⟩ := g0_2.cons
  obtain ⟨_, _, rfl, ⟨m0_3, rfl, w0_3⟩, g0_4⟩ := g0_3.cons
  obtain ⟨_, _, rfl, ⟨m0_4, rfl, w0_4⟩, g0_5⟩ := g0_4.cons
  obtain ⟨_, _, rfl, ⟨m0_5, rfl, w0_5⟩, g0_6⟩ := g0_5.cons
  obtain ⟨_, _, rfl, ⟨m0_6, rfl, w0_6⟩, g0_7⟩ := g0_6.cons
  obtain ⟨_, _, rfl, ⟨m0_7, rfl, w0_7⟩, g0_8⟩ := g0_7.cons
  obtain rfl := g0_8.nil
  obtain ⟨l1, rfl, g1_0⟩ := open_agg 9 (ks := [.int .i64, .int .i64, .int .i64, .int .i64, .int .i64, .int .i64, .int .u32, .int .u32]) Try.underlying75 (by kernel_rfl) (hval 1 75 v1 rfl rfl) h1
  obtain ⟨_, _, rfl, ⟨m1_0, rfl, w1_0⟩, g1_1⟩ := g1_0.cons
  obtain ⟨_, _, rfl, ⟨m1_1, rfl, w1_1⟩, g1_2⟩ := g1_1.cons
  obtain ⟨_, _, rfl, ⟨m1_2, rfl, w1_2⟩, g1_3⟩ := g1_2.cons
  obtain ⟨_, _, rfl, ⟨m1_3, rfl, w1_3⟩, g1_4⟩ := g1_3.cons
  obtain ⟨_, _, rfl, ⟨m1_4, rfl, w1_4⟩, g1_5⟩ := g1_4.cons
  obtain ⟨_, _, rfl, ⟨m1_5, rfl, w1_5⟩, g1_6⟩ := g1_5.cons
  obtain ⟨_, _, rfl, ⟨m1_6, rfl, w1_6⟩, g1_7⟩ := g1_6.cons
  obtain ⟨_, _, rfl, ⟨m1_7, rfl, w1_7⟩, g1_8⟩ := g1_7.cons
  obtain rfl := g1_8.nil
  obtain ⟨l2, rfl, g2_0⟩ := open_agg 9 (ks := [.int .i64, .int .i64, .int .i64, .int .i64, .int .i64, .int .i64, .int .u32, .int .u32]) Try.underlying75 (by kernel_rfl) (hval 2 75 v2 rfl rfl) h2
  obtain ⟨_, _, rfl, ⟨m2_0, rfl, w2_0⟩, g2_1⟩ := g2_0.cons
  obtain ⟨_, _, rfl, ⟨m2_1, rfl, w2_1⟩, g2_2⟩ := g2_1.cons
  obtain ⟨_, _, rfl, ⟨m2_2, rfl, w2_2⟩, g2_3⟩ := g2_2.cons
  obtain ⟨_, _, rfl, ⟨m2_3, rfl, w2_3⟩, g2_4⟩ := g2_3.cons
  obtain ⟨_, _, rfl, ⟨m2_4, rfl, w2_4⟩, g2_5⟩ := g2_4.cons
  obtain ⟨_, _, rfl, ⟨m2_5, rfl, w2_5⟩, g2_6⟩ := g2_5.cons
  obtain ⟨_, _, rfl, ⟨m2_6, rfl, w2_6⟩, g2_7⟩ := g2_6.cons
  obtain ⟨_, _, rfl, ⟨m2_7, rfl, w2_7⟩, g2_8⟩ := g2_7.cons
  obtain rfl := g2_8.nil
  obtain ⟨n3, s3⟩ := open_bytes Try.underlying33 Try.underlying5 (by kernel_rfl) (hval 3 33 v3 rfl rfl) h3
  refine (calls_true c9L (xs := [.agg [.v (.int .i64 m0_0), .v (.int .i64 m0_1), .v (.int .i64 m0_2), .v (.int .i64 m0_3), .v (.int .i64 m0_4), .v (.int .i64 m0_5), .v (.int .u32 m0_6), .v (.int .u32 m0_7)], .agg [.v (.int .i64 m1_0), .v (.int .i64 m1_1), .v (.int .i64 m1_2), .v (.int .i64 m1_3), .v (.int .i64 m1_4), .v (.int .i64 m1_5), .v (.int .u32 m1_6), .v (.int .u32 m1_7)], .agg [.v (.int .i64 m2_0), .v (.int .i64 m2_1), .v (.int .i64 m2_2), .v (.int .i64 m2_3), .v (.int .i64 m2_4), .v (.int .i64 m2_5), .v (.int .u32 m2_6), .v (.int .u32 m2_7)], bArg n3]) (law_in (A := AB) (pre := fun q => q.x.wide) (x := ⟨⟨m0_0, m0_1, m0_2, m0_3, m0_4, m0_5, m0_6, m0_7⟩, ⟨m1_0, m1_1, m1_2, m1_3, m1_4, m1_5, m1_6, m1_7⟩, ⟨m2_0, m2_1, m2_2, m2_3, m2_4, m2_5, m2_6, m2_7⟩, n3⟩) (by have h1 := bounds_u32 w0_6; have h2 := bounds_u32 w0_7; show Ct.wide _; unfold Ct.wide; refine ⟨h1.1, ?_, h2.1, ?_⟩ <;> (simp only; omega)) (.refl _)) (fun _ => .any _) (.one (V_agg (.one (V_v _) (.one (V_v _) (.one (V_v _) (.one (V_v _) (.one (V_v _) (.one (V_v _) (.one (V_v _) (.one (V_v _) (.none)))))))))) (.one (V_agg (.one (V_v _) (.one (V_v _) (.one (V_v _) (.one (V_v _) (.one (V_v _) (.one (V_v _) (.one (V_v _) (.one (V_v _) (.none)))))))))) (.one (V_agg (.one (V_v _) (.one (V_v _) (.one (V_v _) (.one (V_v _) (.one (V_v _) (.one (V_v _) (.one (V_v _) (.one (V_v _) (.none)))))))))) (.one (.base s3) .none))))).mono fun e W' ⟨he, ho⟩ => ?_
  subst he
  exact ⟨_, rfl, post_true (tb := 4) (by kernel_rfl) (by kernel_rfl) (by kernel_rfl) (by kernel_rfl) (by kernel_rfl) Try.underlying4 hW' rfl rfl ho⟩

theorem certBack_holds : Rows.CertBackSaid :=
  OpenClaim.holds_of_wide 9 Try.f9 rfl rfl rfl rfl rfl rfl rfl ⟨rfl, rfl, rfl, rfl, rfl⟩ rfl rfl rfl rfl rfl (by kernel_rfl) Try.func9 (by kernel_rfl)
    (of_decide_eq_true (by kernel_rfl)) (by unfold Func.isWrapper; first | (rw [if_pos (by decide +kernel)]; kernel_rfl) | (rw [if_neg (by decide +kernel)]; exact ⟨rfl, rfl⟩))
    (fun os started H enc _ => certBack_lifted os started H enc)
#print axioms certBack_holds
end Go.Proofs.Ytljejgnclkmpcaa
