/- NumReads holds at every input: no condition beyond the row own cells. -/
import Derived.Test.YtffpnoieklnejaaPart4
import Derived.Test.YtffpnoieklnejaaRows
import Derived.ProofKit
import Derived.LaidMore
import Derived.OpenShut
import Derived.Stop.Joined
import Derived.ChangeMaps5
/- numbers: the document prints. -/
namespace Go.Eng.U
open Go Go.Eng Go.Eng.M Go.Lib Go.Proofs
set_option linter.unusedSimpArgs false
set_option linter.unusedVariables false
noncomputable abbrev lpPr : Code := loopOf (bodyOf Try.f11) 0
def SPr (v : Nat) (s : ByteArray) : List AV × Heap := ([.v (.int .i64 (v : Int)), .v (.string s), .any], [])
def OPr (s : ByteArray) : Out := ⟨.ret, [.any, .any, .v (.string s)], []⟩
theorem rPr (v : Nat) (s : ByteArray) : roundE (P := Try.prog) (Γ := Γu) [] Lno false 0 0 lpPr [0, 3, 2] [] 25 (SPr v s).1 (SPr v s).2 =
  Tree.chk true (Tree.chk (allBytes (1 : Nat) fun j => chain [AV.v (Value.int IntKind.u8 (0 : Int))] (0 : Nat) [[AV.v (Value.int IntKind.u8 (IntKind.wrap IntKind.u8 (IntKind.wrap IntKind.i64
    ((48 : Int) + Int.tmod (↑v : Int) (10 : Int)))))]] ((0 : Nat) + j)) (Tree.chk (decide ((1 : Nat) + ByteArray.size s ≤ (9223372036854775807 : Nat))) (Tree.chk true (Tree.br (decide
    (IntKind.wrap IntKind.i64 (Int.tdiv (↑v : Int) (10 : Int)) = (0 : Int))) (Tree.leaf (Out.mk AEx.ret [AV.v (Value.int IntKind.i64 (IntKind.wrap IntKind.i64 (Int.tdiv (↑v : Int) (10 :
    Int)))), AV.v (Value.string ((textOf (1 : Nat) fun j => chain [AV.v (Value.int IntKind.u8 (0 : Int))] (0 : Nat) [[AV.v (Value.int IntKind.u8 (IntKind.wrap IntKind.u8 (IntKind.wrap
    IntKind.i64 ((48 : Int) + Int.tmod (↑v : Int) (10 : Int)))))]] ((0 : Nat) + j)) ++ s)), AV.v (Value.string ((textOf (1 : Nat) fun j => chain [AV.v (Value.int IntKind.u8 (0 : Int))] (0 :
    Nat) [[AV.v (Value.int IntKind.u8 (IntKind.wrap IntKind.u8 (IntKind.wrap IntKind.i64 ((48 : Int) + Int.tmod (↑v : Int) (10 : Int)))))]] ((0 : Nat) + j)) ++ s))] [])) (Tree.leaf (Out.mk
    AEx.normal [AV.v (Value.int IntKind.i64 (IntKind.wrap IntKind.i64 (Int.tdiv (↑v : Int) (10 : Int)))), AV.v (Value.string ((textOf (1 : Nat) fun j => chain [AV.v (Value.int IntKind.u8 (0
    : Int))] (0 : Nat) [[AV.v (Value.int IntKind.u8 (IntKind.wrap IntKind.u8 (IntKind.wrap IntKind.i64 ((48 : Int) + Int.tmod (↑v : Int) (10 : Int)))))]] ((0 : Nat) + j)) ++ s)), AV.any]
    [])))))) := by kernel_rfl
theorem dgT {v : Nat} : textOf (1 : Nat) (fun j => chain [AV.v (Value.int IntKind.u8 (0 : Int))] (0 : Nat) [[AV.v (Value.int IntKind.u8 (IntKind.wrap IntKind.u8 (IntKind.wrap IntKind.i64 ((48 : Int) + Int.tmod (v : Int) (10 : Int)))))]] ((0 : Nat) + j)) = ⟨⟨[b8 (48 + v % 10)]⟩⟩ := by
  rw [Int.tmod_eq_emod_of_nonneg (by omega)]
  have h1 : IntKind.wrap IntKind.i64 ((48 : Int) + (v : Int) % 10) = (48 : Int) + (v : Int) % 10 := wrap64 (by omega) (by omega)
  have h2 : IntKind.wrap IntKind.u8 ((48 : Int) + (v : Int) % 10) = ((48 + v % 10 : Nat) : Int) := by rw [wrapU8]; omega
  rw [h1, h2]
  rfl
theorem dgA {v : Nat} : allBytes (1 : Nat) (fun j => chain [AV.v (Value.int IntKind.u8 (0 : Int))] (0 : Nat) [[AV.v (Value.int IntKind.u8 (IntKind.wrap IntKind.u8 (IntKind.wrap IntKind.i64 ((48 : Int) + Int.tmod (v : Int) (10 : Int)))))]] ((0 : Nat) + j)) = true := rfl
theorem mk_app (l m : List UInt8) : (⟨⟨l⟩⟩ : ByteArray) ++ ⟨⟨m⟩⟩ = ⟨⟨l ++ m⟩⟩ := by
  apply ByteArray.ext
  rw [ByteArray.data_append]
  simp
theorem loopPr {tgt : List UInt8} (ht : tgt.length ≤ 100) : ∀ x : Nat × List UInt8, (x.1 ≤ 9223372036854775807 ∧ prL x.1 ++ x.2 = tgt) → LoopOK Try.prog Γu 0 25 lpPr (LSpec.at [0, 3, 2] [] (SPr x.1 ⟨⟨x.2⟩⟩) (OPr ⟨⟨tgt⟩⟩)) := by
  refine loop_at (S := fun x : Nat × List UInt8 => SPr x.1 ⟨⟨x.2⟩⟩) (O := fun _ => OPr ⟨⟨tgt⟩⟩) (k := 0) (fun x => x.1) fun x hp => .of (noLoops (by kernel_rfl)) (rPr x.1 ⟨⟨x.2⟩⟩) ?_
  obtain ⟨v, t⟩ := x
  obtain ⟨h1, h2⟩ := hp
  dsimp only at h1 h2
  have hl := congrArg List.length h2
  rw [List.length_append] at hl
  have hq : IntKind.wrap IntKind.i64 (Int.tdiv (v : Int) (10 : Int)) = ((v / 10 : Nat) : Int) := by
    rw [Int.tdiv_eq_ediv_of_nonneg (by omega), wrap64 (by omega) (by omega)]; omega
  have hz : ByteArray.size ⟨⟨t⟩⟩ = t.length := rfl
  simp only [dgA, dgT, hq, mk_app, hz, List.cons_append, List.nil_append]
  rcases Nat.lt_or_ge v 10 with c | c
  · rw [prL_small c] at h2
    have e : b8 (48 + v % 10) :: t = tgt := by rw [show v % 10 = v by omega]; exact h2
    rw [e]
    repeat' (first | refine wC (by first | omega | (simp only [W1, cond_true, cond_false]; first | done | omega)) ?_ | refine wT (by first | omega | (simp only [W1, cond_true, cond_false]; first | done | omega)) ?_ | refine wF (by intro _h; first | omega | (simp only [W1, cond_true, cond_false] at _h; first | done | omega)) ?_ | (refine wS ?_ ?_ <;> intro _h <;> simp only [W1, cond_true, cond_false] at _h))
    all_goals simp only [W1, W2, owesN, owesX, owesR, cond_true, cond_false]
    repeat' (first | apply And.intro | intro _hc)
    all_goals first | exact rfl | exact AV.le_refl _ | exact AV.le_any _ | exact OLe.refl _ | exact OLe.none _ | exact LeH.refl _ | exact LeL.refl _ | exact AV.le.bs _ | exact AV.le.sb _ | omega | contradiction
  · rw [prL_step c, List.append_assoc] at h2
    repeat' (first | refine wC (by first | omega | (simp only [W1, cond_true, cond_false]; first | done | omega)) ?_ | refine wT (by first | omega | (simp only [W1, cond_true, cond_false]; first | done | omega)) ?_ | refine wF (by intro _h; first | omega | (simp only [W1, cond_true, cond_false] at _h; first | done | omega)) ?_ | (refine wS ?_ ?_ <;> intro _h <;> simp only [W1, cond_true, cond_false] at _h))
    all_goals simp only [W1, W2, owesN, owesX, owesR, cond_true, cond_false]
    repeat' (first | apply And.intro | intro _hc)
    all_goals first | exact ⟨(v / 10, b8 (48 + v % 10) :: t), LeL.refl _, LeH.refl _, ⟨by dsimp only; omega, h2⟩, by dsimp only; omega⟩ | exact AV.le_refl _ | exact AV.le_any _ | exact OLe.refl _ | exact OLe.none _ | exact LeH.refl _ | exact LeL.refl _ | exact AV.le.bs _ | exact AV.le.sb _ | omega | contradiction
theorem runPo (v : Nat) (T : ByteArray) : bodyE (P := Try.prog) (Γ := Γu) [] (fun _ => LSpec.at [0, 3, 2] [] (SPr v ⟨⟨[]⟩⟩) (OPr T)) false 25 [.tmp 2] (bodyOf Try.f11) [.v (.int .i64 (v : Int))] [] =
  Tree.br (decide ((↑v : Int) = (-9223372036854775808 : Int))) (Tree.leaf (Ans.mk (AV.v (Value.string (ByteArray.mk #[(45 : UInt8), (57 : UInt8), (50 : UInt8), (50 : UInt8), (51 : UInt8), (51
    : UInt8), (55 : UInt8), (50 : UInt8), (48 : UInt8), (51 : UInt8), (54 : UInt8), (56 : UInt8), (53 : UInt8), (52 : UInt8), (55 : UInt8), (55 : UInt8), (53 : UInt8), (56 : UInt8), (48 :
    UInt8), (56 : UInt8)]))) [])) (Tree.br (decide ((↑v : Int) < (0 : Int))) Tree.fail (Tree.chk (cl (LeL [AV.v (Value.int IntKind.i64 (↑v : Int)), AV.v (Value.string (ByteArray.mk #[])),
    AV.v (Value.string (ByteArray.mk #[]))] [AV.v (Value.int IntKind.i64 (↑v : Int)), AV.v (Value.string (ByteArray.mk (Array.mk []))), AV.any] ∧ LeH [] [])) (Tree.leaf (Ans.mk (AV.v
    (Value.string T)) [])))) := by kernel_rfl
theorem ansPo {v : Nat} (h : v ≤ 9223372036854775807) : Answers Try.prog Γu 11 [.v (.int .i64 (v : Int))] [] (.v (.string (prS (v : Int)))) [] [] := by
  have hlen : (prL v).length ≤ 19 := prL_len 18 _ (by omega)
  have hl := loopPr (tgt := prL v) (by omega) (v, []) ⟨h, List.append_nil _⟩
  have he : prS (v : Int) = ⟨⟨prL v⟩⟩ := by unfold prS prU; rw [if_neg (by omega), Int.natAbs_natCast]
  rw [he]
  refine answers (fn := Try.f11) (c := bodyOf Try.f11) (ntmps := 25) (results := [.tmp 2]) [] (fun _ => LSpec.at [0, 3, 2] [] (SPr v ⟨⟨[]⟩⟩) (OPr ⟨⟨prL v⟩⟩)) false Try.func11 (by kernel_rfl) (by kernel_rfl) (by kernel_rfl) (by kernel_rfl) (by simp) rfl (oneLoop (b := lpPr) (by kernel_rfl) hl) <| Meets.of (runPo v ⟨⟨prL v⟩⟩) <| ?_
  repeat' (first | refine wC (by first | omega | (simp only [W1, cond_true, cond_false]; first | done | omega)) ?_ | refine wT (by first | omega | (simp only [W1, cond_true, cond_false]; first | done | omega)) ?_ | refine wF (by intro _h; first | omega | (simp only [W1, cond_true, cond_false] at _h; first | done | omega)) ?_ | (refine wS ?_ ?_ <;> intro _h <;> simp only [W1, cond_true, cond_false] at _h))
  all_goals simp only [W1, W2, owesN, owesX, owesR, cond_true, cond_false]
  repeat' (first | apply And.intro | intro _hc)
  all_goals first | exact AV.le_refl _ | exact AV.le_any _ | exact OLe.refl _ | exact OLe.none _ | exact LeH.refl _ | exact LeL.refl _ | exact AV.le.bs _ | exact AV.le.sb _ | omega | contradiction
theorem runPa (v : Int) (k : Nat) (h : Answers Try.prog Γu 11 [.v (.int .i64 (k : Int))] [] (.v (.string (prS (k : Int)))) [] []) : bodyE (P := Try.prog) (Γ := Γu) [CT.at 11 h] Lno false 25 [.tmp 2] (bodyOf Try.f11) [.v (.int .i64 v)] [] =
  Tree.br (decide (v = (-9223372036854775808 : Int))) (Tree.leaf (Ans.mk (AV.v (Value.string (ByteArray.mk #[(45 : UInt8), (57 : UInt8), (50 : UInt8), (50 : UInt8), (51 : UInt8), (51 : UInt8),
    (55 : UInt8), (50 : UInt8), (48 : UInt8), (51 : UInt8), (54 : UInt8), (56 : UInt8), (53 : UInt8), (52 : UInt8), (55 : UInt8), (55 : UInt8), (53 : UInt8), (56 : UInt8), (48 : UInt8), (56
    : UInt8)]))) [])) (Tree.br (decide (v < (0 : Int))) (Tree.chk (cl (LeL [AV.v (Value.int IntKind.i64 (IntKind.wrap IntKind.i64 ((0 : Int) - v)))] [AV.v (Value.int IntKind.i64 (↑k : Int))]
    ∧ LeH [] []) && decide ((1 : Nat) + ByteArray.size (prS (↑k : Int)) ≤ (9223372036854775807 : Nat))) (Tree.leaf (Ans.mk (AV.v (Value.string (ByteArray.mk #[(45 : UInt8)] ++ prS (↑k :
    Int)))) []))) Tree.fail) := by kernel_rfl
theorem ansPrR {v : Int} (h : inI64 v) : Answers Try.prog Γu 11 [.v (.int .i64 v)] [] (.v (.string (prS v))) [] [] := by
  obtain ⟨h1, h2⟩ := h
  rcases Int.lt_or_le v 0 with c | c
  · by_cases hm : v = -9223372036854775808
    · subst hm
      have h0 := ansPo (v := 0) (by omega)
      refine answers (fn := Try.f11) (c := bodyOf Try.f11) (ntmps := 25) (results := [.tmp 2]) [CT.at 11 h0] (Lno) false Try.func11 (by kernel_rfl) (by kernel_rfl) (by kernel_rfl) (by kernel_rfl) (by simp) rfl (failOK fun _ _ _ => rfl) <| Meets.of (runPa (-9223372036854775808) 0 h0) <| ?_
      have e : prS (-9223372036854775808) = ⟨#[45, 57, 50, 50, 51, 51, 55, 50, 48, 51, 54, 56, 53, 52, 55, 55, 53, 56, 48, 56]⟩ := by
        unfold prS prU
        rw [if_pos (by decide)]
        have : prL 9223372036854775808 = [57, 50, 50, 51, 51, 55, 50, 48, 51, 54, 56, 53, 52, 55, 55, 53, 56, 48, 56] := by
          simp only [prL, Nat.reduceDiv, Nat.reduceMod, Nat.reduceAdd, Nat.reduceLT, if_true, if_false, ↓reduceIte, List.cons_append, List.nil_append]
          rfl
        exact congrArg (fun l => (⟨⟨45 :: l⟩⟩ : ByteArray)) this
      rw [e]
      repeat' (first | refine wC (by first | omega | (simp only [W1, cond_true, cond_false]; first | done | omega)) ?_ | refine wT (by first | omega | (simp only [W1, cond_true, cond_false]; first | done | omega)) ?_ | refine wF (by intro _h; first | omega | (simp only [W1, cond_true, cond_false] at _h; first | done | omega)) ?_ | (refine wS ?_ ?_ <;> intro _h <;> simp only [W1, cond_true, cond_false] at _h))
      all_goals simp only [W1, W2, owesN, owesX, owesR, cond_true, cond_false]
      repeat' (first | apply And.intro | intro _hc)
      all_goals first | exact AV.le_refl _ | exact AV.le_any _ | exact OLe.refl _ | exact OLe.none _ | exact LeH.refl _ | exact LeL.refl _ | exact AV.le.bs _ | exact AV.le.sb _ | omega | contradiction
    · have h0 := ansPo (v := v.natAbs) (by omega)
      refine answers (fn := Try.f11) (c := bodyOf Try.f11) (ntmps := 25) (results := [.tmp 2]) [CT.at 11 h0] (Lno) false Try.func11 (by kernel_rfl) (by kernel_rfl) (by kernel_rfl) (by kernel_rfl) (by simp) rfl (failOK fun _ _ _ => rfl) <| Meets.of (runPa v v.natAbs h0) <| ?_
      have w : IntKind.wrap IntKind.i64 ((0 : Int) - v) = ((v.natAbs : Nat) : Int) := by rw [wrap64 (by omega) (by omega)]; omega
      have e : (⟨#[45]⟩ : ByteArray) ++ prS ((v.natAbs : Nat) : Int) = prS v := by
        unfold prS prU
        rw [if_neg (by omega), if_pos c, Int.natAbs_natCast]
        exact mk_app [45] _
      have hlen : (prL v.natAbs).length ≤ 19 := prL_len 18 _ (by omega)
      have hz : (prS ((v.natAbs : Nat) : Int)).size ≤ 19 := by
        unfold prS prU; rw [if_neg (by omega), Int.natAbs_natCast]; exact hlen
      repeat' (first | refine wC (by first | omega | (simp only [W1, cond_true, cond_false, w, e]; first | done | omega)) ?_ | refine wT (by first | omega | (simp only [W1, cond_true, cond_false, w, e]; first | done | omega)) ?_ | refine wF (by intro _h; first | omega | (simp only [W1, cond_true, cond_false, w, e] at _h; first | done | omega)) ?_ | (refine wS ?_ ?_ <;> intro _h <;> simp only [W1, cond_true, cond_false, w, e] at _h))
      all_goals simp only [W1, W2, owesN, owesX, owesR, cond_true, cond_false, w, e]
      repeat' (first | apply And.intro | intro _hc)
      all_goals first | exact AV.le_refl _ | exact AV.le_any _ | exact OLe.refl _ | exact OLe.none _ | exact LeH.refl _ | exact LeL.refl _ | exact AV.le.bs _ | exact AV.le.sb _ | omega | contradiction
  · obtain ⟨k, rfl⟩ := Int.eq_ofNat_of_zero_le c
    exact ansPo (by omega)
noncomputable def kPrR : CT Try.prog Γu := CT.oI 11 .i64 Try.func11 (by kernel_rfl) (by kernel_rfl) (fun v => inI64 v) (fun v => .v (.string (prS v))) (fun _ => []) (fun v h => ansPrR h)
end Go.Eng.U

/- NumReads: the law. -/
namespace Go.Eng.U
open Go Go.Eng Go.Eng.M Go.Lib Go.Proofs
set_option linter.unusedSimpArgs false
set_option linter.unusedVariables false
def ofSII : List AV → List Blk → Option (ByteArray × Int × Int)
  | [.v (.string s), .v (.int _ a), .v (.int _ b)], [] => some (s, a, b)
  | _, _ => none
noncomputable def kRe : CT Try.prog Γu := CT.par 8 ofSII (fun | (s, _, _) => s.size ≤ 1000000000) (fun | (s, a, b) => [.v (.string s), .v (.int .i64 a), .v (.int .i64 b)]) (fun _ => []) (fun | (s, a, b) => .tup [.v (.int .i64 (rdN s a b)), .v (.int .i64 (rdE s a b))]) (fun _ => []) (fun _ => []) (callFunc_enters Try.func8 (by kernel_rfl) (by kernel_rfl)) fun ⟨s, a, b⟩ h => ansRe h
noncomputable def kRr : CT Try.prog Γu := CT.par 9 ofSII (fun | (s, _, _) => s.size ≤ 1000000000) (fun | (s, a, b) => [.v (.string s), .v (.int .i64 a), .v (.int .i64 b)]) (fun _ => []) (fun | (s, a, b) => .tup [.v (.int .i64 (rdN s a b)), .v (.int .i64 (rdE s a b))]) (fun _ => []) (fun _ => []) (callFunc_enters Try.func9 (by kernel_rfl) (by kernel_rfl)) fun ⟨s, a, b⟩ h => ansRr h
theorem leV {a : Bool} (h : a = true) : AV.le (.sb a) (.v (.bool true)) := by rw [h]; exact .sb true
structure Y3 where
  s : ByteArray
  lo : Int
  hi : Int
  v : Int
def A3 (y : Y3) : List AV := [.v (.string y.s), .v (.int .i64 y.lo), .v (.int .i64 y.hi), .v (.int .i64 y.v)]
theorem law3 (y : Y3) : bodyE (P := Try.prog) (Γ := Γu) [c7, kRe, kRr, kPr, kPrR, kWi] Lno false 62 [.tmp 8] (bodyOf Try.f3) (A3 y) [] =
  Tree.br (decide ((300 : Int) < (↑(ByteArray.size y.s) : Int))) (Tree.leaf (Ans.mk (AV.v (Value.bool true)) [])) (Tree.chk (cl (ByteArray.size y.s ≤ (1000000000 : Nat) ∧ LeL [AV.v
    (Value.string y.s), AV.v (Value.int IntKind.i64 y.lo), AV.v (Value.int IntKind.i64 y.hi)] [AV.v (Value.string y.s), AV.v (Value.int IntKind.i64 y.lo), AV.v (Value.int IntKind.i64 y.hi)]
    ∧ LeH [] [])) (Tree.chk (cl (ByteArray.size y.s ≤ (1000000000 : Nat) ∧ LeL [AV.v (Value.string y.s), AV.v (Value.int IntKind.i64 y.lo), AV.v (Value.int IntKind.i64 y.hi)] [AV.v
    (Value.string y.s), AV.v (Value.int IntKind.i64 y.lo), AV.v (Value.int IntKind.i64 y.hi)] ∧ LeH [] [])) (Tree.chk (bif decide (rdN y.s y.lo y.hi = rdN y.s y.lo y.hi) then bif decide (rdE
    y.s y.lo y.hi = rdE y.s y.lo y.hi) then cl (inI64 y.v ∧ LeL [AV.v (Value.int IntKind.i64 y.v)] [AV.v (Value.int IntKind.i64 y.v)] ∧ LeH [] []) && cl (inI64 y.v ∧ LeL [AV.v (Value.int
    IntKind.i64 y.v)] [AV.v (Value.int IntKind.i64 y.v)] ∧ LeH [] []) else true else true) (Tree.leaf (Ans.mk (AV.sb (bif decide (rdN y.s y.lo y.hi = rdN y.s y.lo y.hi) then bif decide (rdE
    y.s y.lo y.hi = rdE y.s y.lo y.hi) then bif decide (prS y.v = prS y.v) then bif decide (y.lo ≤ y.v) then (bif decide (y.lo ≤ y.v) then decide (y.v ≤ y.hi) else false) == decide (y.v ≤
    y.hi) else (bif decide (y.lo ≤ y.v) then decide (y.v ≤ y.hi) else false) == false else false else false else false)) []))))) := by kernel_rfl
theorem lawNR (y : Y3) (hv : inI64 y.v) : LawOK Try.prog Γu 62 [.tmp 8] (bodyOf Try.f3) (A3 y) := by
  refine .mk' (T := [c7, kRe, kRr, kPr, kPrR, kWi]) (ip := false) (L := Lno) (failOK fun _ _ _ => rfl) (Right.of (law3 y) ?_)
  by_cases hs : 300 < y.s.size
  · repeat' (first | refine wC (by first | omega | (simp only [W1, cond_true, cond_false]; first | done | omega)) ?_ | refine wT (by first | omega | (simp only [W1, cond_true, cond_false]; first | done | omega)) ?_ | refine wF (by intro _h; first | omega | (simp only [W1, cond_true, cond_false] at _h; first | done | omega)) ?_ | (refine wS ?_ ?_ <;> intro _h <;> simp only [W1, cond_true, cond_false] at _h))
    all_goals simp only [W1, W2, owesN, owesX, owesR, cond_true, cond_false]
    repeat' (first | apply And.intro | intro _hc)
    all_goals first | exact AV.le_refl _ | exact AV.le_any _ | exact OLe.refl _ | exact OLe.none _ | exact LeH.refl _ | exact LeL.refl _ | exact AV.le.bs _ | exact AV.le.sb _ | omega | contradiction
  · repeat' (first | refine wC (by first | omega | (simp only [W1, cond_true, cond_false, hv]; first | done | omega)) ?_ | refine wT (by first | omega | (simp only [W1, cond_true, cond_false, hv]; first | done | omega)) ?_ | refine wF (by intro _h; first | omega | (simp only [W1, cond_true, cond_false, hv] at _h; first | done | omega)) ?_ | (refine wS ?_ ?_ <;> intro _h <;> simp only [W1, cond_true, cond_false, hv] at _h))
    all_goals simp only [W1, W2, owesN, owesX, owesR, cond_true, cond_false, hv]
    repeat' (first | apply And.intro | intro _hc)
    all_goals first | exact leV (by (cases decide (y.lo ≤ y.v) <;> cases decide (y.v ≤ y.hi) <;> simp)) | exact AV.le_refl _ | exact AV.le_any _ | exact OLe.refl _ | exact OLe.none _ | exact LeH.refl _ | exact LeL.refl _ | exact AV.le.bs _ | exact AV.le.sb _ | omega | contradiction
noncomputable def c3L : CT Try.prog Γu := CT.lawE A3 (fun y => inI64 y.v) 3 Try.f3 (bodyOf Try.f3) 62 [.tmp 8] Try.func3 (by kernel_rfl) (by kernel_rfl) (by kernel_rfl) (by kernel_rfl) (fun _ _ => by simp [A3]) (fun x h => lawNR x h)
end Go.Eng.U

/- NumReads holds at every input: no condition beyond the row own cells. -/
namespace Go.Proofs.Ytffpnoieklnejaa
open Go Go.ChangeShapes Go.WideShapes Go.ChangeAt Go.WideMaps Go.WideElems Go.RowKit Go.Eng Go.Eng.U
set_option linter.unusedSimpArgs false
set_option linter.unusedVariables false

theorem own0 : ownKnob Try.prog.godebug = none := by kernel_rfl
set_option maxRecDepth 100000 in
theorem numReads_lifted (os : Os) (started : os.Started) (H : Type) (enc : TypeId × Value → H) :
    ReturnsInHanded {} Try.checked os 3 .any (Rows.numReadsSpec.pre6 enc Try.prog Try.f3 Rows.numReadsRow.domain false)
      (Rows.numReadsSpec.post enc Try.prog Try.f3 false true false false) := by
  refine returnsInHanded_of_change (C := Try.checked) own0 started (by kernel_rfl) Try.func3
    (ChangeSpec.witness6 (enc := enc) (C := Try.checked) false ⟨#[], #[.string ⟨#[]⟩, .int .i64 0, .int .i64 0, .int .i64 0], []⟩ 8 (by kernel_rfl) (by kernel_rfl) (by kernel_rfl) (by kernel_rfl)) ?_
  intro W base args ds gs before hval0 hW hcnd _
  have hval : ∀ (j : Nat) t v, Try.f3.params[j]? = some t → args[j]? = some v → Value.okWide Try.prog W .any base t v := hval0
  have hW' := hW
  obtain ⟨p, q, hA0, hV, rfl, hfz, hnd⟩ := hW
  have hA : DataW.TrodAll enc Try.prog W 0 (fun _ => true) true Try.f3.params.toList args.toList ds p := hA0
  rw [Try.params3] at hA hval
  obtain ⟨v0, v1, v2, v3, d0, d1, d2, d3, p0, p1, p2, p3, rfl, rfl, rfl, h0, h1, h2, h3⟩ := trodAll_four hA
  obtain ⟨rfl, rfl⟩ := trodVars_none hV
  obtain ⟨n0, rfl, rfl, rfl, w0⟩ := Go.ChangeMaps.open_string Try.underlying9 (hval 0 9 v0 rfl rfl) h0
  obtain ⟨n1, rfl, rfl, rfl, w1⟩ := open_int Try.underlying2 (hval 1 2 v1 rfl rfl) h1
  obtain ⟨n2, rfl, rfl, rfl, w2⟩ := open_int Try.underlying2 (hval 2 2 v2 rfl rfl) h2
  obtain ⟨n3, rfl, rfl, rfl, w3⟩ := open_int Try.underlying2 (hval 3 2 v3 rfl rfl) h3
  refine (calls_true c3L (xs := [.v (.string n0), .v (.int .i64 n1), .v (.int .i64 n2), .v (.int .i64 n3)]) (law_in (A := A3) (pre := fun y => inI64 y.v) (x := ⟨n0, n1, n2, n3⟩) ⟨(bounds_i64 w3).1, (bounds_i64 w3).2⟩ (.refl _)) (fun _ => .any _) (.one (V_v _) (.one (V_v _) (.one (V_v _) (.one (V_v _) .none))))).mono fun e W' ⟨he, ho⟩ => ?_
  subst he
  exact ⟨_, rfl, post_true (tb := 4) (by kernel_rfl) (by kernel_rfl) (by kernel_rfl) (by kernel_rfl) (by kernel_rfl) Try.underlying4 hW' rfl rfl ho⟩

theorem numReads_holds : Rows.NumReadsSaid :=
  OpenClaim.holds_of_wide 3 Try.f3 rfl rfl rfl rfl rfl rfl rfl ⟨rfl, rfl, rfl, rfl, rfl⟩ rfl rfl rfl rfl rfl (by kernel_rfl) Try.func3 (by kernel_rfl)
    (of_decide_eq_true (by kernel_rfl)) (by unfold Func.isWrapper; first | (rw [if_pos (by decide +kernel)]; kernel_rfl) | (rw [if_neg (by decide +kernel)]; exact ⟨rfl, rfl⟩))
    (fun os started H enc _ => numReads_lifted os started H enc)
#print axioms numReads_holds
end Go.Proofs.Ytffpnoieklnejaa
