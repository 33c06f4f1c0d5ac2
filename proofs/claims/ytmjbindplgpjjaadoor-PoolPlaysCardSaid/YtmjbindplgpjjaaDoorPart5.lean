/- names: which texts are names and what follows it. -/
import Derived.Test.YtmjbindplgpjjaaDoorPart4
import Derived.Lib.DecodeNEq
/- names: which texts are names. -/
namespace Go.Eng.TA
open Go Go.Eng Go.Eng.M Go.Lib Go.Proofs
set_option linter.unusedSimpArgs false
set_option linter.unusedVariables false
abbrev letN (c : Nat) : Bool := letterB (c : Int)
def badF (c : Nat) : Bool := decide ((48 ≤ c ∧ c ≤ 57) ∨ c = 45)
def firstOk : List Nat → Bool
  | c :: _ => !badF c
  | [] => true
def fine (s : ByteArray) (p : Nat) : Bool := (rns s p).all (fun c => letterB (c : Int)) && (bif decide (p = 0) then firstOk (rns s 0) else true)
/-- is it a name? -/
def nameB (s : ByteArray) : Bool := fine s 0 && decide (1 ≤ (rns s 0).length ∧ (rns s 0).length ≤ 32)
def erN (b : Bool) : Int := bif b then 0 else 20
noncomputable abbrev lpChk : Code := loopOf (bodyOf Tryd.f20) 0
def SChk (s : ByteArray) (x : XP) : List AV × Heap := ([.v (.int .i64 (x.k : Int)), .its 0, .any], [some (.sit s x.p)])
def retChk : Out := ⟨.ret, [.any, .any, .v (.int .i64 20)], [none]⟩
def endChk (s : ByteArray) : Out := ⟨.exit 0, [.v (.int .i64 ((rns s 0).length : Int)), .any, .any], [none]⟩
def OChk (s : ByteArray) : Out := bif fine s 0 then endChk s else retChk
theorem rChk (s : ByteArray) (x : XP) : roundE (P := Tryd.prog) (Γ := Γm) [c10'] Lno false 0 0 lpChk [3, 8, 2] [] 41 (SChk s x).1 (SChk s x).2 =
  Tree.br (decide (x.p < ByteArray.size s)) (Tree.chk (bif bif decide ((↑x.p : Int) = (0 : Int)) then bif decide ((48 : Int) ≤ (↑(Utf8.decode s x.p).fst : Int)) then bif decide ((↑(Utf8.decode
    s x.p).fst : Int) ≤ (57 : Int)) then true else decide ((↑(Utf8.decode s x.p).fst : Int) = (45 : Int)) else decide ((↑(Utf8.decode s x.p).fst : Int) = (45 : Int)) else false then true
    else true) (Tree.br (bif bif decide ((↑x.p : Int) = (0 : Int)) then bif decide ((48 : Int) ≤ (↑(Utf8.decode s x.p).fst : Int)) then bif decide ((↑(Utf8.decode s x.p).fst : Int) ≤ (57 :
    Int)) then true else decide ((↑(Utf8.decode s x.p).fst : Int) = (45 : Int)) else decide ((↑(Utf8.decode s x.p).fst : Int) = (45 : Int)) else false then true else !letterB (↑(Utf8.decode
    s x.p).fst : Int)) (Tree.leaf (Out.mk AEx.ret [AV.v (Value.int IntKind.i64 (↑x.k : Int)), AV.its (0 : Nat), AV.v (Value.int IntKind.i64 (20 : Int))] [some (Blk.sit s (x.p + (Utf8.decode
    s x.p).snd))])) (Tree.leaf (Out.mk AEx.normal [AV.v (Value.int IntKind.i64 (IntKind.wrap IntKind.i64 ((↑x.k : Int) + (1 : Int)))), AV.its (0 : Nat), AV.any] [some (Blk.sit s (x.p +
    (Utf8.decode s x.p).snd))])))) (Tree.leaf (Out.mk (AEx.exit (0 : Nat)) [AV.v (Value.int IntKind.i64 (↑x.k : Int)), AV.its (0 : Nat), AV.any] [some (Blk.sit s x.p)])) := by kernel_rfl
theorem loopChk {s : ByteArray} (hs : s.size ≤ 1000000000) : ∀ x : XP, (x.p ≤ s.size ∧ x.k + (rns s x.p).length = (rns s 0).length ∧ fine s x.p = fine s 0) → LoopOK Tryd.prog Γm 0 41 lpChk (LSpec.at [3, 8, 2] [] (SChk s x) (OChk s)) := by
  refine loop_at (S := SChk s) (O := fun _ => OChk s) (k := 0) (fun x => s.size - x.p) fun x hp => .of (noLoops (by kernel_rfl)) (rChk s x) ?_
  obtain ⟨p, k⟩ := x
  obtain ⟨h1, h2, h3⟩ := hp
  have hl : (rns s 0).length ≤ s.size - 0 := rns_len
  dsimp only at h1 h2 h3
  rcases Nat.lt_or_ge p s.size with hi | hi
  · have hst := rns_step hi
    have hd := dec_pos s p
    have hle := dec_le hi
    rw [hst, List.length_cons] at h2
    have hp0 : fine s (p + (Utf8.decode s p).2) = (rns s (p + (Utf8.decode s p).2)).all fun c => letterB (c : Int) := by
      unfold fine
      rw [decide_eq_false (by omega), cond_false, Bool.and_true]
    have hf : fine s p = (letterB ((Utf8.decode s p).1 : Int) && fine s (p + (Utf8.decode s p).2) && (bif decide (p = 0) then !badF (Utf8.decode s p).1 else true)) := by
      rw [hp0]
      unfold fine
      rw [hst, List.all_cons]
      congr 1
      by_cases hz : p = 0
      · subst hz; rw [hst]; rfl
      · rw [decide_eq_false hz]; rfl
    cases hL : letterB ((Utf8.decode s p).1 : Int) with
    | false =>
      rw [hL, Bool.false_and, Bool.false_and] at hf
      rw [show OChk s = retChk by unfold OChk; rw [← h3, hf]; rfl]
      repeat' (first | refine wC (by first | omega | (simp only [W1, cond_true, cond_false, hL]; first | done | omega)) ?_ | refine wT (by first | omega | (simp only [W1, cond_true, cond_false, hL]; first | done | omega)) ?_ | refine wF (by intro _h; first | omega | (simp only [W1, cond_true, cond_false, hL] at _h; first | done | omega)) ?_ | (refine wS ?_ ?_ <;> intro _h <;> simp only [W1, cond_true, cond_false, hL] at _h))
      all_goals simp only [W1, W2, owesN, owesX, owesR, cond_true, cond_false, hL]
      repeat' (first | apply And.intro | intro _hc)
      all_goals first | exact rfl | exact AV.le_refl _ | exact AV.le_any _ | exact OLe.refl _ | exact OLe.none _ | exact LeH.refl _ | exact LeL.refl _ | exact AV.le.bs _ | exact AV.le.sb _ | omega | contradiction
    | true =>
      by_cases hb : p = 0 ∧ badF (Utf8.decode s p).1 = true
      · obtain ⟨rfl, hb⟩ := hb
        rw [hb] at hf
        have hf : fine s 0 = false := by rw [hf]; simp
        have hb := of_decide_eq_true hb
        rw [show OChk s = retChk by unfold OChk; rw [hf]; rfl]
        repeat' (first | refine wC (by first | omega | (simp only [W1, cond_true, cond_false, hL]; first | done | omega)) ?_ | refine wT (by first | omega | (simp only [W1, cond_true, cond_false, hL]; first | done | omega)) ?_ | refine wF (by intro _h; first | omega | (simp only [W1, cond_true, cond_false, hL] at _h; first | done | omega)) ?_ | (refine wS ?_ ?_ <;> intro _h <;> simp only [W1, cond_true, cond_false, hL] at _h))
        all_goals simp only [W1, W2, owesN, owesX, owesR, cond_true, cond_false, hL]
        repeat' (first | apply And.intro | intro _hc)
        all_goals first | exact rfl | exact AV.le_refl _ | exact AV.le_any _ | exact OLe.refl _ | exact OLe.none _ | exact LeH.refl _ | exact LeL.refl _ | exact AV.le.bs _ | exact AV.le.sb _ | omega | contradiction
      · have hb' : (bif decide (p = 0) then !badF (Utf8.decode s p).1 else true) = true := by
          by_cases hz : p = 0
          · cases h : badF (Utf8.decode s p).1 with
            | true => exact absurd ⟨hz, h⟩ hb
            | false => simp
          · simp [hz]
        have hb2 : ¬ (p = 0 ∧ ((48 ≤ (Utf8.decode s p).1 ∧ (Utf8.decode s p).1 ≤ 57) ∨ (Utf8.decode s p).1 = 45)) := fun ⟨e, h⟩ => hb ⟨e, decide_eq_true h⟩
        rw [hb', hL, Bool.and_true, Bool.true_and] at hf
        repeat' (first | refine wC (by first | omega | (simp only [W1, cond_true, cond_false, hL, wrapUpN (show k ≤ 10000000000 by omega)]; first | done | omega)) ?_ | refine wT (by first | omega | (simp only [W1, cond_true, cond_false, hL, wrapUpN (show k ≤ 10000000000 by omega)]; first | done | omega)) ?_ | refine wF (by intro _h; first | omega | (simp only [W1, cond_true, cond_false, hL, wrapUpN (show k ≤ 10000000000 by omega)] at _h; first | done | omega)) ?_ | (refine wS ?_ ?_ <;> intro _h <;> simp only [W1, cond_true, cond_false, hL, wrapUpN (show k ≤ 10000000000 by omega)] at _h))
        all_goals simp only [W1, W2, owesN, owesX, owesR, cond_true, cond_false, hL, wrapUpN (show k ≤ 10000000000 by omega)]
        repeat' (first | apply And.intro | intro _hc)
        all_goals first | exact ⟨⟨p + (Utf8.decode s p).2, k + 1⟩, LeL.refl _, LeH.refl _, ⟨hle, by dsimp only; omega, by dsimp only; rw [← hf, h3]⟩, by dsimp only; omega⟩ | exact AV.le_refl _ | exact AV.le_any _ | exact OLe.refl _ | exact OLe.none _ | exact LeH.refl _ | exact LeL.refl _ | exact AV.le.bs _ | exact AV.le.sb _ | omega | contradiction
  · rw [rns_end hi, List.length_nil] at h2
    have h2 : k = (rns s 0).length := by omega
    subst h2
    have hf : fine s 0 = true := by
      rw [← h3]; unfold fine; rw [rns_end hi]
      by_cases hz : p = 0
      · subst hz; rw [rns_end hi]; rfl
      · rw [decide_eq_false hz]; rfl
    rw [show OChk s = endChk s by unfold OChk; rw [hf]; rfl]
    repeat' (first | refine wC (by first | omega | (simp only [W1, cond_true, cond_false]; first | done | omega)) ?_ | refine wT (by first | omega | (simp only [W1, cond_true, cond_false]; first | done | omega)) ?_ | refine wF (by intro _h; first | omega | (simp only [W1, cond_true, cond_false] at _h; first | done | omega)) ?_ | (refine wS ?_ ?_ <;> intro _h <;> simp only [W1, cond_true, cond_false] at _h))
    all_goals simp only [W1, W2, owesN, owesX, owesR, cond_true, cond_false]
    repeat' (first | apply And.intro | intro _hc)
    all_goals first | exact rfl | exact AV.le_refl _ | exact AV.le_any _ | exact OLe.refl _ | exact OLe.none _ | exact LeH.refl _ | exact LeL.refl _ | exact AV.le.bs _ | exact AV.le.sb _ | omega | contradiction
theorem runChkE (s : ByteArray) : bodyE (P := Tryd.prog) (Γ := Γm) [] (fun _ => LSpec.at [3, 8, 2] [] (SChk s ⟨0, 0⟩) (endChk s)) false 41 [.tmp 2] (bodyOf Tryd.f20) [.v (.string s)] [] =
  Tree.chk (cl (LeL [AV.v (Value.int IntKind.i64 (0 : Int)), AV.its (0 : Nat), AV.v (Value.int IntKind.i64 (0 : Int))] [AV.v (Value.int IntKind.i64 (↑(0 : Nat) : Int)), AV.its (0 : Nat),
    AV.any] ∧ LeH [some (Blk.sit s (0 : Nat))] [some (Blk.sit s (0 : Nat))])) (Tree.br (bif decide ((↑(List.length (rns s (0 : Nat))) : Int) < (1 : Int)) then true else decide ((32 : Int) <
    (↑(List.length (rns s (0 : Nat))) : Int))) (Tree.leaf (Ans.mk (AV.v (Value.int IntKind.i64 (20 : Int))) [])) (Tree.leaf (Ans.mk (AV.v (Value.int IntKind.i64 (0 : Int))) []))) := by kernel_rfl
theorem runChkR (s : ByteArray) : bodyE (P := Tryd.prog) (Γ := Γm) [] (fun _ => LSpec.at [3, 8, 2] [] (SChk s ⟨0, 0⟩) retChk) false 41 [.tmp 2] (bodyOf Tryd.f20) [.v (.string s)] [] =
  Tree.chk (cl (LeL [AV.v (Value.int IntKind.i64 (0 : Int)), AV.its (0 : Nat), AV.v (Value.int IntKind.i64 (0 : Int))] [AV.v (Value.int IntKind.i64 (↑(0 : Nat) : Int)), AV.its (0 : Nat),
    AV.any] ∧ LeH [some (Blk.sit s (0 : Nat))] [some (Blk.sit s (0 : Nat))])) (Tree.leaf (Ans.mk (AV.v (Value.int IntKind.i64 (20 : Int))) [])) := by kernel_rfl
theorem ansChk {s : ByteArray} (hs : s.size ≤ 1000000000) : Answers Tryd.prog Γm 20 [.v (.string s)] [] (.v (.int .i64 (erN (nameB s)))) [] [] := by
  have hl := loopChk hs ⟨0, 0⟩ ⟨Nat.zero_le _, Nat.zero_add _, rfl⟩
  unfold OChk at hl
  unfold nameB
  cases hf : fine s 0 with
  | true =>
    rw [hf, cond_true] at hl
    refine answers (fn := Tryd.f20) (c := bodyOf Tryd.f20) (ntmps := 41) (results := [.tmp 2]) [] (fun _ => LSpec.at [3, 8, 2] [] (SChk s ⟨0, 0⟩) (endChk s)) false Tryd.func20 (by kernel_rfl) (by kernel_rfl) (by kernel_rfl) (by kernel_rfl) (by simp) rfl (oneLoop (b := lpChk) (by kernel_rfl) hl) <| Meets.of (runChkE s) <| ?_
    by_cases h : 1 ≤ (rns s 0).length ∧ (rns s 0).length ≤ 32
    · rw [decide_eq_true h]
      repeat' (first | refine wC (by first | omega | (simp only [W1, cond_true, cond_false]; first | done | omega)) ?_ | refine wT (by first | omega | (simp only [W1, cond_true, cond_false]; first | done | omega)) ?_ | refine wF (by intro _h; first | omega | (simp only [W1, cond_true, cond_false] at _h; first | done | omega)) ?_ | (refine wS ?_ ?_ <;> intro _h <;> simp only [W1, cond_true, cond_false] at _h))
      all_goals simp only [W1, W2, owesN, owesX, owesR, cond_true, cond_false]
      repeat' (first | apply And.intro | intro _hc)
      all_goals first | exact leI rfl | exact AV.le_refl _ | exact AV.le_any _ | exact OLe.refl _ | exact OLe.none _ | exact LeH.refl _ | exact LeL.refl _ | exact AV.le.bs _ | exact AV.le.sb _ | omega | contradiction
    · rw [decide_eq_false h]
      repeat' (first | refine wC (by first | omega | (simp only [W1, cond_true, cond_false]; first | done | omega)) ?_ | refine wT (by first | omega | (simp only [W1, cond_true, cond_false]; first | done | omega)) ?_ | refine wF (by intro _h; first | omega | (simp only [W1, cond_true, cond_false] at _h; first | done | omega)) ?_ | (refine wS ?_ ?_ <;> intro _h <;> simp only [W1, cond_true, cond_false] at _h))
      all_goals simp only [W1, W2, owesN, owesX, owesR, cond_true, cond_false]
      repeat' (first | apply And.intro | intro _hc)
      all_goals first | exact leI rfl | exact AV.le_refl _ | exact AV.le_any _ | exact OLe.refl _ | exact OLe.none _ | exact LeH.refl _ | exact LeL.refl _ | exact AV.le.bs _ | exact AV.le.sb _ | omega | contradiction
  | false =>
    rw [hf, cond_false] at hl
    refine answers (fn := Tryd.f20) (c := bodyOf Tryd.f20) (ntmps := 41) (results := [.tmp 2]) [] (fun _ => LSpec.at [3, 8, 2] [] (SChk s ⟨0, 0⟩) retChk) false Tryd.func20 (by kernel_rfl) (by kernel_rfl) (by kernel_rfl) (by kernel_rfl) (by simp) rfl (oneLoop (b := lpChk) (by kernel_rfl) hl) <| Meets.of (runChkR s) <| ?_
    repeat' (first | refine wC (by first | omega | (simp only [W1, cond_true, cond_false]; first | done | omega)) ?_ | refine wT (by first | omega | (simp only [W1, cond_true, cond_false]; first | done | omega)) ?_ | refine wF (by intro _h; first | omega | (simp only [W1, cond_true, cond_false] at _h; first | done | omega)) ?_ | (refine wS ?_ ?_ <;> intro _h <;> simp only [W1, cond_true, cond_false] at _h))
    all_goals simp only [W1, W2, owesN, owesX, owesR, cond_true, cond_false]
    repeat' (first | apply And.intro | intro _hc)
    all_goals first | exact leI rfl | exact AV.le_refl _ | exact AV.le_any _ | exact OLe.refl _ | exact OLe.none _ | exact LeH.refl _ | exact LeL.refl _ | exact AV.le.bs _ | exact AV.le.sb _ | omega | contradiction
noncomputable def kChk : CT Tryd.prog Γm := CT.oS 20 Tryd.func20 (by kernel_rfl) (by kernel_rfl) (fun s => s.size ≤ 1000000000) (fun s => .v (.int .i64 (erN (nameB s)))) (fun _ => []) (fun s h => ansChk h)
/-! ### the document's -/
theorem bad_letter {s : ByteArray} : ∀ {n p : Nat}, s.size - p ≤ n → good s p = false → ((rns s p).all fun c => letterB (c : Int)) = false := by
  intro n
  induction n with
  | zero => intro p h hg; rw [good_end (by omega)] at hg; cases hg
  | succ n ih =>
    intro p h hg
    by_cases hp : p < s.size
    · rw [good_ok hp] at hg
      rw [rns_step hp, List.all_cons]
      have := dec_pos s p
      cases ho : okAt s p with
      | false =>
        have hb : badAt s p := by
          unfold okAt at ho
          have h3 : decide (badAt s p) = true := by cases h2 : decide (badAt s p) with
            | true => rfl
            | false => rw [h2] at ho; cases ho
          exact of_decide_eq_true h3
        rw [show (Utf8.decode s p).1 = 65533 by rw [show Utf8.decode s p = (65533, 1) from hb]]
        rfl
      | true =>
        rw [ho, Bool.true_and] at hg
        rw [ih (by omega) hg, Bool.and_false]
    · rw [good_end (by omega)] at hg; cases hg
noncomputable abbrev lpChkR : Code := loopOf (bodyOf Tryd.f21) 0
def SChkR (l : List Nat) (i : Nat) : List AV × Heap := ([.hs 0 0 l.length, .v (.int .i64 (i : Int)), .any], [some (i1B l)])
def OChkR (l : List Nat) : Out := bif (l.all fun c => letterB (c : Int)) then ⟨.exit 0, [.any, .any, .any], [none]⟩ else ⟨.ret, [.any, .any, .v (.bool false)], [none]⟩
theorem rChkR (l : List Nat) (i : Nat) : roundE (P := Tryd.prog) (Γ := Γm) [c11'] Lno false 0 0 lpChkR [3, 5, 2] [] 53 (SChkR l i).1 (SChkR l i).2 =
  Tree.br (decide ((↑i : Int) < (↑(List.length l) : Int))) (Tree.chk (decide ((0 : Int) ≤ (↑i : Int)) && decide ((↑i : Int) < (↑(List.length l) : Int)) && true) (Tree.br (!letterB (↑(List.getD
    l ((0 : Nat) + i) default) : Int)) (Tree.leaf (Out.mk AEx.ret [AV.hs (0 : Nat) (0 : Nat) (List.length l), AV.v (Value.int IntKind.i64 (↑i : Int)), AV.v (Value.bool false)] [some (Blk.arr
    (1 : Nat) (List.length l) (lsF I1.c l))])) (Tree.leaf (Out.mk AEx.normal [AV.hs (0 : Nat) (0 : Nat) (List.length l), AV.v (Value.int IntKind.i64 (IntKind.wrap IntKind.i64 ((↑i : Int) +
    (1 : Int)))), AV.any] [some (Blk.arr (1 : Nat) (List.length l) (lsF I1.c l))])))) (Tree.leaf (Out.mk (AEx.exit (0 : Nat)) [AV.hs (0 : Nat) (0 : Nat) (List.length l), AV.v (Value.int
    IntKind.i64 (↑i : Int)), AV.any] [some (Blk.arr (1 : Nat) (List.length l) (lsF I1.c l))])) := by kernel_rfl
theorem all_drop {f : Nat → Bool} {l : List Nat} {i : Nat} (h : i < l.length) : (l.drop i).all f = (f (l.getD i default) && (l.drop (i + 1)).all f) := by
  rw [List.drop_eq_getElem_cons h, List.all_cons, getD_get h]
theorem loopChkR {l : List Nat} (hs : l.length ≤ 1000000000) : ∀ i : Nat, (i ≤ l.length ∧ ((l.drop i).all fun c => letterB (c : Int)) = l.all fun c => letterB (c : Int)) → LoopOK Tryd.prog Γm 0 53 lpChkR (LSpec.at [3, 5, 2] [] (SChkR l i) (OChkR l)) := by
  refine loop_at (S := SChkR l) (O := fun _ => OChkR l) (k := 0) (fun i => l.length - i) fun i hp => .of (noLoops (by kernel_rfl)) (rChkR l i) ?_
  obtain ⟨h1, h2⟩ := hp
  rcases Nat.lt_or_ge i l.length with hi | hi
  · rw [all_drop hi] at h2
    cases hL : letterB ((l.getD i default : Nat) : Int) with
    | false =>
      rw [hL, Bool.false_and] at h2
      unfold OChkR
      rw [← h2, cond_false]
      repeat' (first | refine wC (by first | omega | (simp only [W1, cond_true, cond_false, hL]; first | done | omega)) ?_ | refine wT (by first | omega | (simp only [W1, cond_true, cond_false, hL]; first | done | omega)) ?_ | refine wF (by intro _h; first | omega | (simp only [W1, cond_true, cond_false, hL] at _h; first | done | omega)) ?_ | (refine wS ?_ ?_ <;> intro _h <;> simp only [W1, cond_true, cond_false, hL] at _h))
      all_goals simp only [W1, W2, owesN, owesX, owesR, cond_true, cond_false, hL]
      repeat' (first | apply And.intro | intro _hc)
      all_goals first | exact rfl | exact AV.le_refl _ | exact AV.le_any _ | exact OLe.refl _ | exact OLe.none _ | exact LeH.refl _ | exact LeL.refl _ | exact AV.le.bs _ | exact AV.le.sb _ | omega | contradiction
    | true =>
      rw [hL, Bool.true_and] at h2
      repeat' (first | refine wC (by first | omega | (simp only [W1, cond_true, cond_false, hL, wrapUpN (show i ≤ 10000000000 by omega)]; first | done | omega)) ?_ | refine wT (by first | omega | (simp only [W1, cond_true, cond_false, hL, wrapUpN (show i ≤ 10000000000 by omega)]; first | done | omega)) ?_ | refine wF (by intro _h; first | omega | (simp only [W1, cond_true, cond_false, hL, wrapUpN (show i ≤ 10000000000 by omega)] at _h; first | done | omega)) ?_ | (refine wS ?_ ?_ <;> intro _h <;> simp only [W1, cond_true, cond_false, hL, wrapUpN (show i ≤ 10000000000 by omega)] at _h))
      all_goals simp only [W1, W2, owesN, owesX, owesR, cond_true, cond_false, hL, wrapUpN (show i ≤ 10000000000 by omega)]
      repeat' (first | apply And.intro | intro _hc)
      all_goals first | exact ⟨i + 1, LeL.refl _, LeH.refl _, ⟨hi, h2⟩, by omega⟩ | exact AV.le_refl _ | exact AV.le_any _ | exact OLe.refl _ | exact OLe.none _ | exact LeH.refl _ | exact LeL.refl _ | exact AV.le.bs _ | exact AV.le.sb _ | omega | contradiction
  · rw [List.drop_eq_nil_of_le hi] at h2
    unfold OChkR
    rw [← h2, List.all_nil, cond_true]
    repeat' (first | refine wC (by first | omega | (simp only [W1, cond_true, cond_false]; first | done | omega)) ?_ | refine wT (by first | omega | (simp only [W1, cond_true, cond_false]; first | done | omega)) ?_ | refine wF (by intro _h; first | omega | (simp only [W1, cond_true, cond_false] at _h; first | done | omega)) ?_ | (refine wS ?_ ?_ <;> intro _h <;> simp only [W1, cond_true, cond_false] at _h))
    all_goals simp only [W1, W2, owesN, owesX, owesR, cond_true, cond_false]
    repeat' (first | apply And.intro | intro _hc)
    all_goals first | exact rfl | exact AV.le_refl _ | exact AV.le_any _ | exact OLe.refl _ | exact OLe.none _ | exact LeH.refl _ | exact LeL.refl _ | exact AV.le.bs _ | exact AV.le.sb _ | omega | contradiction
theorem runChkRE (s : ByteArray) : bodyE (P := Tryd.prog) (Γ := Γm) [kRun] (fun _ => LSpec.at [3, 5, 2] [] (SChkR (rns s 0) 0) ⟨.exit 0, [.any, .any, .any], [none]⟩) false 53 [.tmp 2] (bodyOf Tryd.f21) [.v (.string s)] [] =
  Tree.chk (cl (ByteArray.size s ≤ (100000000 : Nat) ∧ LeL [AV.v (Value.string s)] [AV.v (Value.string s)] ∧ LeH [] [])) (Tree.chk (bif !good s (0 : Nat) then true else bif decide
    ((↑(List.length (rns s (0 : Nat))) : Int) < (1 : Int)) then true else bif decide ((32 : Int) < (↑(List.length (rns s (0 : Nat))) : Int)) then true else decide ((0 : Int) < (↑(List.length
    (rns s (0 : Nat))) : Int)) && bif decide ((↑(List.getD (rns s (0 : Nat)) (0 : Nat) default) : Int) = (45 : Int)) then true else decide ((0 : Int) < (↑(List.length (rns s (0 : Nat))) :
    Int)) && bif decide ((48 : Int) ≤ (↑(List.getD (rns s (0 : Nat)) (0 : Nat) default) : Int)) then decide ((0 : Int) < (↑(List.length (rns s (0 : Nat))) : Int)) else true) (Tree.br (bif
    !good s (0 : Nat) then true else bif decide ((↑(List.length (rns s (0 : Nat))) : Int) < (1 : Int)) then true else bif decide ((32 : Int) < (↑(List.length (rns s (0 : Nat))) : Int)) then
    true else bif decide ((↑(List.getD (rns s (0 : Nat)) (0 : Nat) default) : Int) = (45 : Int)) then true else bif decide ((48 : Int) ≤ (↑(List.getD (rns s (0 : Nat)) (0 : Nat) default) :
    Int)) then decide ((↑(List.getD (rns s (0 : Nat)) (0 : Nat) default) : Int) ≤ (57 : Int)) else false) (Tree.leaf (Ans.mk (AV.v (Value.bool false)) [])) (Tree.chk (cl (LeL [AV.hs (0 :
    Nat) (0 : Nat) (List.length (rns s (0 : Nat))), AV.v (Value.int IntKind.i64 (0 : Int)), AV.v (Value.bool false)] [AV.hs (0 : Nat) (0 : Nat) (List.length (rns s (0 : Nat))), AV.v
    (Value.int IntKind.i64 (↑(0 : Nat) : Int)), AV.any] ∧ LeH [some (Blk.arr (1 : Nat) (List.length (rns s (0 : Nat))) (lsF I1.c (rns s (0 : Nat))))] [some (Blk.arr (1 : Nat) (List.length
    (rns s (0 : Nat))) (lsF I1.c (rns s (0 : Nat))))])) (Tree.leaf (Ans.mk (AV.v (Value.bool true)) []))))) := by kernel_rfl
theorem runChkRR (s : ByteArray) : bodyE (P := Tryd.prog) (Γ := Γm) [kRun] (fun _ => LSpec.at [3, 5, 2] [] (SChkR (rns s 0) 0) ⟨.ret, [.any, .any, .v (.bool false)], [none]⟩) false 53 [.tmp 2] (bodyOf Tryd.f21) [.v (.string s)] [] =
  Tree.chk (cl (ByteArray.size s ≤ (100000000 : Nat) ∧ LeL [AV.v (Value.string s)] [AV.v (Value.string s)] ∧ LeH [] [])) (Tree.chk (bif !good s (0 : Nat) then true else bif decide
    ((↑(List.length (rns s (0 : Nat))) : Int) < (1 : Int)) then true else bif decide ((32 : Int) < (↑(List.length (rns s (0 : Nat))) : Int)) then true else decide ((0 : Int) < (↑(List.length
    (rns s (0 : Nat))) : Int)) && bif decide ((↑(List.getD (rns s (0 : Nat)) (0 : Nat) default) : Int) = (45 : Int)) then true else decide ((0 : Int) < (↑(List.length (rns s (0 : Nat))) :
    Int)) && bif decide ((48 : Int) ≤ (↑(List.getD (rns s (0 : Nat)) (0 : Nat) default) : Int)) then decide ((0 : Int) < (↑(List.length (rns s (0 : Nat))) : Int)) else true) (Tree.br (bif
    !good s (0 : Nat) then true else bif decide ((↑(List.length (rns s (0 : Nat))) : Int) < (1 : Int)) then true else bif decide ((32 : Int) < (↑(List.length (rns s (0 : Nat))) : Int)) then
    true else bif decide ((↑(List.getD (rns s (0 : Nat)) (0 : Nat) default) : Int) = (45 : Int)) then true else bif decide ((48 : Int) ≤ (↑(List.getD (rns s (0 : Nat)) (0 : Nat) default) :
    Int)) then decide ((↑(List.getD (rns s (0 : Nat)) (0 : Nat) default) : Int) ≤ (57 : Int)) else false) (Tree.leaf (Ans.mk (AV.v (Value.bool false)) [])) (Tree.chk (cl (LeL [AV.hs (0 :
    Nat) (0 : Nat) (List.length (rns s (0 : Nat))), AV.v (Value.int IntKind.i64 (0 : Int)), AV.v (Value.bool false)] [AV.hs (0 : Nat) (0 : Nat) (List.length (rns s (0 : Nat))), AV.v
    (Value.int IntKind.i64 (↑(0 : Nat) : Int)), AV.any] ∧ LeH [some (Blk.arr (1 : Nat) (List.length (rns s (0 : Nat))) (lsF I1.c (rns s (0 : Nat))))] [some (Blk.arr (1 : Nat) (List.length
    (rns s (0 : Nat))) (lsF I1.c (rns s (0 : Nat))))])) (Tree.leaf (Ans.mk (AV.v (Value.bool false)) []))))) := by kernel_rfl
theorem firstOk_get {l : List Nat} (h : 0 < l.length) : firstOk l = !badF (l.getD 0 default) := by
  cases l with
  | nil => cases h
  | cons c l => rfl
theorem ansChkR {s : ByteArray} (hs : s.size ≤ 100000000) : Answers Tryd.prog Γm 21 [.v (.string s)] [] (.sb (nameB s)) [] [] := by
  have hln : (rns s 0).length ≤ s.size - 0 := rns_len
  have hl := loopChkR (l := rns s 0) (by omega) 0 ⟨Nat.zero_le _, rfl⟩
  have hg := bad_letter (s := s) (n := s.size) (p := 0) (by omega)
  have hfo := firstOk_get (l := rns s 0)
  have hnm : nameB s = (((rns s 0).all (fun c => letterB (c : Int)) && firstOk (rns s 0)) && decide (1 ≤ (rns s 0).length ∧ (rns s 0).length ≤ 32)) := rfl
  have hbf : badF ((rns s 0).getD 0 default) = decide ((48 ≤ (rns s 0).getD 0 default ∧ (rns s 0).getD 0 default ≤ 57) ∨ (rns s 0).getD 0 default = 45) := rfl
  unfold OChkR at hl
  rw [hnm]
  cases hA : (rns s 0).all (fun c => letterB (c : Int)) with
  | true =>
    rw [hA, cond_true] at hl
    rw [hA] at hg
    have hg' : good s 0 = true := by
      cases h : good s 0 with
      | true => rfl
      | false => exact absurd (hg h) (by decide)
    refine answers (fn := Tryd.f21) (c := bodyOf Tryd.f21) (ntmps := 53) (results := [.tmp 2]) [kRun] (fun _ => LSpec.at [3, 5, 2] [] (SChkR (rns s 0) 0) ⟨.exit 0, [.any, .any, .any], [none]⟩) false Tryd.func21 (by kernel_rfl) (by kernel_rfl) (by kernel_rfl) (by kernel_rfl) (by simp) rfl (oneLoop (b := lpChkR) (by kernel_rfl) hl) <| Meets.of (runChkRE s) <| ?_
    by_cases h : 1 ≤ (rns s 0).length ∧ (rns s 0).length ≤ 32
    · rw [decide_eq_true h, hfo (by omega)]
      by_cases hb : ((48 ≤ (rns s 0).getD 0 default ∧ (rns s 0).getD 0 default ≤ 57) ∨ (rns s 0).getD 0 default = 45)
      · rw [hbf, decide_eq_true hb]
        repeat' (first | refine wC (by first | omega | (simp only [W1, cond_true, cond_false, hg']; first | done | omega)) ?_ | refine wT (by first | omega | (simp only [W1, cond_true, cond_false, hg']; first | done | omega)) ?_ | refine wF (by intro _h; first | omega | (simp only [W1, cond_true, cond_false, hg'] at _h; first | done | omega)) ?_ | (refine wS ?_ ?_ <;> intro _h <;> simp only [W1, cond_true, cond_false, hg'] at _h))
        all_goals simp only [W1, W2, owesN, owesX, owesR, cond_true, cond_false, hg']
        repeat' (first | apply And.intro | intro _hc)
        all_goals first | exact AV.le_refl _ | exact AV.le_any _ | exact OLe.refl _ | exact OLe.none _ | exact LeH.refl _ | exact LeL.refl _ | exact AV.le.bs _ | exact AV.le.sb _ | omega | contradiction
      · rw [hbf, decide_eq_false hb]
        repeat' (first | refine wC (by first | omega | (simp only [W1, cond_true, cond_false, hg']; first | done | omega)) ?_ | refine wT (by first | omega | (simp only [W1, cond_true, cond_false, hg']; first | done | omega)) ?_ | refine wF (by intro _h; first | omega | (simp only [W1, cond_true, cond_false, hg'] at _h; first | done | omega)) ?_ | (refine wS ?_ ?_ <;> intro _h <;> simp only [W1, cond_true, cond_false, hg'] at _h))
        all_goals simp only [W1, W2, owesN, owesX, owesR, cond_true, cond_false, hg']
        repeat' (first | apply And.intro | intro _hc)
        all_goals first | exact AV.le_refl _ | exact AV.le_any _ | exact OLe.refl _ | exact OLe.none _ | exact LeH.refl _ | exact LeL.refl _ | exact AV.le.bs _ | exact AV.le.sb _ | omega | contradiction
    · rw [decide_eq_false h, Bool.and_false]
      repeat' (first | refine wC (by first | omega | (simp only [W1, cond_true, cond_false, hg']; first | done | omega)) ?_ | refine wT (by first | omega | (simp only [W1, cond_true, cond_false, hg']; first | done | omega)) ?_ | refine wF (by intro _h; first | omega | (simp only [W1, cond_true, cond_false, hg'] at _h; first | done | omega)) ?_ | (refine wS ?_ ?_ <;> intro _h <;> simp only [W1, cond_true, cond_false, hg'] at _h))
      all_goals simp only [W1, W2, owesN, owesX, owesR, cond_true, cond_false, hg']
      repeat' (first | apply And.intro | intro _hc)
      all_goals first | exact AV.le_refl _ | exact AV.le_any _ | exact OLe.refl _ | exact OLe.none _ | exact LeH.refl _ | exact LeL.refl _ | exact AV.le.bs _ | exact AV.le.sb _ | omega | contradiction
  | false =>
    rw [hA, cond_false] at hl
    refine answers (fn := Tryd.f21) (c := bodyOf Tryd.f21) (ntmps := 53) (results := [.tmp 2]) [kRun] (fun _ => LSpec.at [3, 5, 2] [] (SChkR (rns s 0) 0) ⟨.ret, [.any, .any, .v (.bool false)], [none]⟩) false Tryd.func21 (by kernel_rfl) (by kernel_rfl) (by kernel_rfl) (by kernel_rfl) (by simp) rfl (oneLoop (b := lpChkR) (by kernel_rfl) hl) <| Meets.of (runChkRR s) <| ?_
    cases hg' : good s 0 with
    | true =>
      repeat' (first | refine wC (by first | omega | (simp only [W1, cond_true, cond_false, hg']; first | done | omega)) ?_ | refine wT (by first | omega | (simp only [W1, cond_true, cond_false, hg']; first | done | omega)) ?_ | refine wF (by intro _h; first | omega | (simp only [W1, cond_true, cond_false, hg'] at _h; first | done | omega)) ?_ | (refine wS ?_ ?_ <;> intro _h <;> simp only [W1, cond_true, cond_false, hg'] at _h))
      all_goals simp only [W1, W2, owesN, owesX, owesR, cond_true, cond_false, hg']
      repeat' (first | apply And.intro | intro _hc)
      all_goals first | exact AV.le_refl _ | exact AV.le_any _ | exact OLe.refl _ | exact OLe.none _ | exact LeH.refl _ | exact LeL.refl _ | exact AV.le.bs _ | exact AV.le.sb _ | omega | contradiction
    | false =>
      repeat' (first | refine wC (by first | omega | (simp only [W1, cond_true, cond_false, hg']; first | done | omega)) ?_ | refine wT (by first | omega | (simp only [W1, cond_true, cond_false, hg']; first | done | omega)) ?_ | refine wF (by intro _h; first | omega | (simp only [W1, cond_true, cond_false, hg'] at _h; first | done | omega)) ?_ | (refine wS ?_ ?_ <;> intro _h <;> simp only [W1, cond_true, cond_false, hg'] at _h))
      all_goals simp only [W1, W2, owesN, owesX, owesR, cond_true, cond_false, hg']
      repeat' (first | apply And.intro | intro _hc)
      all_goals first | exact AV.le_refl _ | exact AV.le_any _ | exact OLe.refl _ | exact OLe.none _ | exact LeH.refl _ | exact LeL.refl _ | exact AV.le.bs _ | exact AV.le.sb _ | omega | contradiction
noncomputable def kChkR : CT Tryd.prog Γm := CT.oS 21 Tryd.func21 (by kernel_rfl) (by kernel_rfl) (fun s => s.size ≤ 100000000) (fun s => .sb (nameB s)) (fun _ => []) (fun s h => ansChkR h)
end Go.Eng.TA

/- names: bytes that are no runes; values. -/
namespace Go.Eng.TA
open Go Go.Eng Go.Eng.M Go.Lib Go.Proofs
set_option linter.unusedSimpArgs false
set_option linter.unusedVariables false
theorem run120 (t : ByteArray) : bodyE (P := Tryd.prog) (Γ := Γm) [] Lno false 117 [.tmp 2, .tmp 3] (bodyOf Tryd.f120) [.v (.string t)] [] =
  Tree.br (decide ((↑(ByteArray.size t) : Int) < (1 : Int))) (Tree.leaf (Ans.mk (AV.tup [AV.v (Value.int IntKind.i32 (65533 : Int)), AV.v (Value.int IntKind.i64 (0 : Int))]) [])) (Tree.chk
    (decide ((0 : Int) < (↑(ByteArray.size t) : Int))) (Tree.chk (decide ((0 : Int) ≤ sbyte t (Int.toNat (0 : Int))) && decide (sbyte t (Int.toNat (0 : Int)) < (↑(256 : Nat) : Int)))
    (Tree.br (decide ((240 : Int) ≤ (↑(firstT (Int.toNat (sbyte t (Int.toNat (0 : Int))))) : Int))) (Tree.chk true (Tree.chk (decide ((0 : Int) < (↑(ByteArray.size t) : Int))) (Tree.leaf
    (Ans.mk (AV.tup [AV.v (Value.int IntKind.i32 (bitI BinOp.or IntKind.i32 (bitI BinOp.andNot IntKind.i32 (IntKind.wrap IntKind.i32 (sbyte t (Int.toNat (0 : Int)))) (Int.fdiv (IntKind.wrap
    IntKind.i32 (IntKind.wrap IntKind.i32 (↑(firstT (Int.toNat (sbyte t (Int.toNat (0 : Int))))) : Int) * (2 : Int) ^ min (Int.toNat (31 : Int)) (32 : Nat))) ((2 : Int) ^ min (Int.toNat (31
    : Int)) (32 : Nat)))) (bitI BinOp.and IntKind.i32 (65533 : Int) (Int.fdiv (IntKind.wrap IntKind.i32 (IntKind.wrap IntKind.i32 (↑(firstT (Int.toNat (sbyte t (Int.toNat (0 : Int))))) :
    Int) * (2 : Int) ^ min (Int.toNat (31 : Int)) (32 : Nat))) ((2 : Int) ^ min (Int.toNat (31 : Int)) (32 : Nat)))))), AV.v (Value.int IntKind.i64 (1 : Int))]) [])))) (Tree.chk true
    (Tree.chk (decide ((0 : Int) ≤ Int.fdiv (↑(firstT (Int.toNat (sbyte t (Int.toNat (0 : Int))))) : Int) ((2 : Int) ^ min (Int.toNat (4 : Int)) (8 : Nat))) && decide (Int.fdiv (↑(firstT
    (Int.toNat (sbyte t (Int.toNat (0 : Int))))) : Int) ((2 : Int) ^ min (Int.toNat (4 : Int)) (8 : Nat)) < (↑(16 : Nat) : Int))) (Tree.br (decide ((↑(ByteArray.size t) : Int) < IntKind.wrap
    IntKind.i64 (bitI BinOp.and IntKind.u8 (↑(firstT (Int.toNat (sbyte t (Int.toNat (0 : Int))))) : Int) (7 : Int)))) (Tree.leaf (Ans.mk (AV.tup [AV.v (Value.int IntKind.i32 (65533 : Int)),
    AV.v (Value.int IntKind.i64 (1 : Int))]) [])) (Tree.chk (decide ((1 : Int) < (↑(ByteArray.size t) : Int))) (Tree.br (bif decide (sbyte t (Int.toNat (1 : Int)) < (↑(accLo (Int.toNat
    (Int.fdiv (↑(firstT (Int.toNat (sbyte t (Int.toNat (0 : Int))))) : Int) ((2 : Int) ^ min (Int.toNat (4 : Int)) (8 : Nat))))) : Int)) then true else decide ((↑(accHi (Int.toNat (Int.fdiv
    (↑(firstT (Int.toNat (sbyte t (Int.toNat (0 : Int))))) : Int) ((2 : Int) ^ min (Int.toNat (4 : Int)) (8 : Nat))))) : Int) < sbyte t (Int.toNat (1 : Int)))) (Tree.leaf (Ans.mk (AV.tup
    [AV.v (Value.int IntKind.i32 (65533 : Int)), AV.v (Value.int IntKind.i64 (1 : Int))]) [])) (Tree.br (decide (IntKind.wrap IntKind.i64 (bitI BinOp.and IntKind.u8 (↑(firstT (Int.toNat
    (sbyte t (Int.toNat (0 : Int))))) : Int) (7 : Int)) ≤ (2 : Int))) (Tree.chk true (Tree.leaf (Ans.mk (AV.tup [AV.v (Value.int IntKind.i32 (bitI BinOp.or IntKind.i32 (IntKind.wrap
    IntKind.i32 (IntKind.wrap IntKind.i32 (bitI BinOp.and IntKind.u8 (sbyte t (Int.toNat (0 : Int))) (31 : Int)) * (2 : Int) ^ min (Int.toNat (6 : Int)) (32 : Nat))) (IntKind.wrap
    IntKind.i32 (bitI BinOp.and IntKind.u8 (sbyte t (Int.toNat (1 : Int))) (63 : Int))))), AV.v (Value.int IntKind.i64 (2 : Int))]) []))) (Tree.chk (decide ((2 : Int) < (↑(ByteArray.size t)
    : Int))) (Tree.br (bif decide (sbyte t (Int.toNat (2 : Int)) < (128 : Int)) then true else decide ((191 : Int) < sbyte t (Int.toNat (2 : Int)))) (Tree.leaf (Ans.mk (AV.tup [AV.v
    (Value.int IntKind.i32 (65533 : Int)), AV.v (Value.int IntKind.i64 (1 : Int))]) [])) (Tree.br (decide (IntKind.wrap IntKind.i64 (bitI BinOp.and IntKind.u8 (↑(firstT (Int.toNat (sbyte t
    (Int.toNat (0 : Int))))) : Int) (7 : Int)) ≤ (3 : Int))) (Tree.chk true (Tree.leaf (Ans.mk (AV.tup [AV.v (Value.int IntKind.i32 (bitI BinOp.or IntKind.i32 (bitI BinOp.or IntKind.i32
    (IntKind.wrap IntKind.i32 (IntKind.wrap IntKind.i32 (bitI BinOp.and IntKind.u8 (sbyte t (Int.toNat (0 : Int))) (15 : Int)) * (2 : Int) ^ min (Int.toNat (12 : Int)) (32 : Nat)))
    (IntKind.wrap IntKind.i32 (IntKind.wrap IntKind.i32 (bitI BinOp.and IntKind.u8 (sbyte t (Int.toNat (1 : Int))) (63 : Int)) * (2 : Int) ^ min (Int.toNat (6 : Int)) (32 : Nat))))
    (IntKind.wrap IntKind.i32 (bitI BinOp.and IntKind.u8 (sbyte t (Int.toNat (2 : Int))) (63 : Int))))), AV.v (Value.int IntKind.i64 (3 : Int))]) []))) (Tree.chk (decide ((3 : Int) <
    (↑(ByteArray.size t) : Int))) (Tree.br (bif decide (sbyte t (Int.toNat (3 : Int)) < (128 : Int)) then true else decide ((191 : Int) < sbyte t (Int.toNat (3 : Int)))) (Tree.leaf (Ans.mk
    (AV.tup [AV.v (Value.int IntKind.i32 (65533 : Int)), AV.v (Value.int IntKind.i64 (1 : Int))]) [])) (Tree.chk true (Tree.leaf (Ans.mk (AV.tup [AV.v (Value.int IntKind.i32 (bitI BinOp.or
    IntKind.i32 (bitI BinOp.or IntKind.i32 (bitI BinOp.or IntKind.i32 (IntKind.wrap IntKind.i32 (IntKind.wrap IntKind.i32 (bitI BinOp.and IntKind.u8 (sbyte t (Int.toNat (0 : Int))) (7 :
    Int)) * (2 : Int) ^ min (Int.toNat (18 : Int)) (32 : Nat))) (IntKind.wrap IntKind.i32 (IntKind.wrap IntKind.i32 (bitI BinOp.and IntKind.u8 (sbyte t (Int.toNat (1 : Int))) (63 : Int)) *
    (2 : Int) ^ min (Int.toNat (12 : Int)) (32 : Nat)))) (IntKind.wrap IntKind.i32 (IntKind.wrap IntKind.i32 (bitI BinOp.and IntKind.u8 (sbyte t (Int.toNat (2 : Int))) (63 : Int)) * (2 :
    Int) ^ min (Int.toNat (6 : Int)) (32 : Nat)))) (IntKind.wrap IntKind.i32 (bitI BinOp.and IntKind.u8 (sbyte t (Int.toNat (3 : Int))) (63 : Int))))), AV.v (Value.int IntKind.i64 (4 :
    Int))]) []))))))))))))))))) := by kernel_rfl
theorem firstT_nine (b : Nat) : firstT b = 240 ∨ firstT b = 241 ∨ firstT b = 2 ∨ firstT b = 19 ∨ firstT b = 3 ∨ firstT b = 35 ∨ firstT b = 52 ∨ firstT b = 4 ∨ firstT b = 68 := by
  unfold firstT
  repeat' split
  all_goals simp
theorem xfacts (x : Nat) (h : x = 240 ∨ x = 241 ∨ x = 2 ∨ x = 19 ∨ x = 3 ∨ x = 35 ∨ x = 52 ∨ x = 4 ∨ x = 68) :
    IntKind.wrap IntKind.i64 (bitI BinOp.and IntKind.u8 (x : Int) 7) = ((x % 8 : Nat) : Int) ∧ Int.fdiv (x : Int) ((2 : Int) ^ min (Int.toNat (4 : Int)) (8 : Nat)) = ((x / 16 : Nat) : Int) := by
  rcases h with rfl | rfl | rfl | rfl | rfl | rfl | rfl | rfl | rfl <;> exact ⟨by decide +kernel, by decide +kernel⟩
theorem slowW (n b0 b1 b2 b3 sz lo hi : Nat) : ∃ w, (slowN n b0 b1 b2 b3 sz lo hi).2 = w ∧ ((n < sz ∧ w = 1) ∨ (sz ≤ n ∧ (b1 < lo ∨ hi < b1) ∧ w = 1) ∨ (sz ≤ n ∧ lo ≤ b1 ∧ b1 ≤ hi ∧ sz ≤ 2 ∧ w = 2) ∨ (sz ≤ n ∧ lo ≤ b1 ∧ b1 ≤ hi ∧ 2 < sz ∧ (b2 < 128 ∨ 191 < b2) ∧ w = 1) ∨
    (sz ≤ n ∧ lo ≤ b1 ∧ b1 ≤ hi ∧ 2 < sz ∧ 128 ≤ b2 ∧ b2 ≤ 191 ∧ sz ≤ 3 ∧ w = 3) ∨ (sz ≤ n ∧ lo ≤ b1 ∧ b1 ≤ hi ∧ 3 < sz ∧ 128 ≤ b2 ∧ b2 ≤ 191 ∧ (b3 < 128 ∨ 191 < b3) ∧ w = 1) ∨ (sz ≤ n ∧ lo ≤ b1 ∧ b1 ≤ hi ∧ 3 < sz ∧ 128 ≤ b2 ∧ b2 ≤ 191 ∧ 128 ≤ b3 ∧ b3 ≤ 191 ∧ w = 4)) := by
  refine ⟨_, rfl, ?_⟩
  unfold slowN
  repeat' split
  all_goals simp only [and_true]
  all_goals first | omega | (simp; omega)
def decV (t : ByteArray) : AV := .tup [.any, .v (.int .i64 ((Utf8.decode t 0).2 : Int))]
set_option maxHeartbeats 4000000 in
theorem ansSlow {t : ByteArray} (h : 0 < t.size) : Answers Tryd.prog Γm 120 [.v (.string t)] [] (decV t) [] [] :=
  answers (fn := Tryd.f120) (c := bodyOf Tryd.f120) (ntmps := 117) (results := [.tmp 2, .tmp 3]) [] Lno false Tryd.func120 (by kernel_rfl) (by kernel_rfl) (by kernel_rfl) (by kernel_rfl) (by simp) rfl (noLoops (by kernel_rfl)) <| Meets.of (run120 t) <| by
    have e0 : sbyte t (Int.toNat 0) = (bN t 0 : Int) := rfl
    have e1 : sbyte t (Int.toNat 1) = (bN t 1 : Int) := rfl
    have e2 : sbyte t (Int.toNat 2) = (bN t 2 : Int) := rfl
    have e3 : sbyte t (Int.toNat 3) = (bN t 3 : Int) := rfl
    have l0 := bN_lt t 0
    have l1 := bN_lt t 1
    have l2 := bN_lt t 2
    have l3 := bN_lt t 3
    have hd := decode_bN t 0
    simp only [Nat.sub_zero, Nat.zero_add] at hd
    unfold decV
    rw [hd]
    have h9 := firstT_nine (bN t 0)
    obtain ⟨f1, f2⟩ := xfacts _ h9
    simp only [e0, e1, e2, e3, Int.toNat_natCast, f1, f2]
    rcases Nat.lt_or_ge (firstT (bN t 0)) 240 with hx | hx
    · rw [← slow_eq t.size _ _ _ _ h l1 l2 l3 hx]
      obtain ⟨w, hw, hs⟩ := slowW t.size (bN t 0) (bN t 1) (bN t 2) (bN t 3) (firstT (bN t 0) % 8) (accLo (firstT (bN t 0) / 16)) (accHi (firstT (bN t 0) / 16))
      rw [hw]
      have hz : 2 ≤ firstT (bN t 0) % 8 := by omega
      generalize accLo (firstT (bN t 0) / 16) = lo at *
      generalize accHi (firstT (bN t 0) / 16) = hi at *
      generalize firstT (bN t 0) = x at *
      generalize bN t 0 = b0 at *
      generalize bN t 1 = b1 at *
      generalize bN t 2 = b2 at *
      generalize bN t 3 = b3 at *
      clear f1 f2 hd e0 e1 e2 e3
      repeat' (first | refine wC (by first | omega | (simp only [W1, cond_true, cond_false]; first | done | omega)) ?_ | refine wT (by first | omega | (simp only [W1, cond_true, cond_false]; first | done | omega)) ?_ | refine wF (by intro _h; first | omega | (simp only [W1, cond_true, cond_false] at _h; first | done | omega)) ?_ | (refine wS ?_ ?_ <;> intro _h <;> simp only [W1, cond_true, cond_false] at _h))
      all_goals simp only [W1, W2, owesN, owesX, owesR, cond_true, cond_false]
      repeat' (first | apply And.intro | intro _hc)
      all_goals first | exact tup2 (.any _) (leI (by omega)) | exact AV.le_refl _ | exact AV.le_any _ | exact OLe.refl _ | exact OLe.none _ | exact LeH.refl _ | exact LeL.refl _ | exact AV.le.bs _ | exact AV.le.sb _ | omega | contradiction
    · have hw : (decodeN t.size (bN t 0) (bN t 1) (bN t 2) (bN t 3)).2 = 1 := by
        rcases (show firstT (bN t 0) = 240 ∨ firstT (bN t 0) = 241 by omega) with h | h
        · rw [ascii_eq _ _ _ _ _ h]
        · rw [bad_eq _ _ _ _ _ l0 h]
      rw [hw]
      repeat' (first | refine wC (by first | omega | (simp only [W1, cond_true, cond_false]; first | done | omega)) ?_ | refine wT (by first | omega | (simp only [W1, cond_true, cond_false]; first | done | omega)) ?_ | refine wF (by intro _h; first | omega | (simp only [W1, cond_true, cond_false] at _h; first | done | omega)) ?_ | (refine wS ?_ ?_ <;> intro _h <;> simp only [W1, cond_true, cond_false] at _h))
      all_goals simp only [W1, W2, owesN, owesX, owesR, cond_true, cond_false]
      repeat' (first | apply And.intro | intro _hc)
      all_goals first | exact tup2 (.any _) (leI rfl) | exact AV.le_refl _ | exact AV.le_any _ | exact OLe.refl _ | exact OLe.none _ | exact LeH.refl _ | exact LeL.refl _ | exact AV.le.bs _ | exact AV.le.sb _ | omega | contradiction
noncomputable def k120 : CT Tryd.prog Γm := CT.oS 120 Tryd.func120 (by kernel_rfl) (by kernel_rfl) (fun s => 0 < s.size) decV (fun _ => []) (fun s h => ansSlow h)
theorem run110 (t : ByteArray) : bodyE (P := Tryd.prog) (Γ := Γm) [k120] Lno false 19 [.tmp 2, .tmp 3] (bodyOf Tryd.f110) [.v (.string t)] [] =
  Tree.chk (bif !decide (t = ByteArray.mk #[]) then decide ((0 : Int) < (↑(ByteArray.size t) : Int)) else true) (Tree.br (bif !decide (t = ByteArray.mk #[]) then decide (sbyte t (Int.toNat (0
    : Int)) < (128 : Int)) else false) (Tree.chk (decide ((0 : Int) < (↑(ByteArray.size t) : Int))) (Tree.leaf (Ans.mk (AV.tup [AV.v (Value.int IntKind.i32 (IntKind.wrap IntKind.i32 (sbyte t
    (Int.toNat (0 : Int))))), AV.v (Value.int IntKind.i64 (1 : Int))]) []))) (Tree.chk (cl ((0 : Nat) < ByteArray.size t ∧ LeL [AV.v (Value.string t)] [AV.v (Value.string t)] ∧ LeH [] []))
    (Tree.leaf (Ans.mk (AV.tup [AV.any, AV.v (Value.int IntKind.i64 (↑(Utf8.decode t (0 : Nat)).snd : Int))]) [])))) := by kernel_rfl
theorem ansDec {t : ByteArray} (h : 0 < t.size) : Answers Tryd.prog Γm 110 [.v (.string t)] [] (decV t) [] [] :=
  answers (fn := Tryd.f110) (c := bodyOf Tryd.f110) (ntmps := 19) (results := [.tmp 2, .tmp 3]) [k120] Lno false Tryd.func110 (by kernel_rfl) (by kernel_rfl) (by kernel_rfl) (by kernel_rfl) (by simp) rfl (noLoops (by kernel_rfl)) <| Meets.of (run110 t) <| by
    have e0 : sbyte t (Int.toNat 0) = (bN t 0 : Int) := rfl
    have hE : ¬ t = ⟨#[]⟩ := fun e => by subst e; cases h
    have hE' : decide (t = ⟨#[]⟩) = false := decide_eq_false hE
    rcases Nat.lt_or_ge (bN t 0) 128 with hb | hb
    · have hw : (Utf8.decode t 0).2 = 1 := by
        rw [decode_bN]
        unfold decodeN
        rw [if_pos hb]
      unfold decV
      rw [hw]
      repeat' (first | refine wC (by first | omega | (simp only [W1, cond_true, cond_false, e0, hE', hE]; first | done | omega)) ?_ | refine wT (by first | omega | (simp only [W1, cond_true, cond_false, e0, hE', hE]; first | done | omega)) ?_ | refine wF (by intro _h; first | omega | (simp only [W1, cond_true, cond_false, e0, hE', hE] at _h; first | done | omega)) ?_ | (refine wS ?_ ?_ <;> intro _h <;> simp only [W1, cond_true, cond_false, e0, hE', hE] at _h))
      all_goals simp only [W1, W2, owesN, owesX, owesR, cond_true, cond_false, e0, hE', hE]
      repeat' (first | apply And.intro | intro _hc)
      all_goals first | exact tup2 (.any _) (leI rfl) | exact AV.le_refl _ | exact AV.le_any _ | exact OLe.refl _ | exact OLe.none _ | exact LeH.refl _ | exact LeL.refl _ | exact AV.le.bs _ | exact AV.le.sb _ | omega | contradiction
    · repeat' (first | refine wC (by first | omega | (simp only [W1, cond_true, cond_false, e0, hE', hE]; first | done | omega)) ?_ | refine wT (by first | omega | (simp only [W1, cond_true, cond_false, e0, hE', hE]; first | done | omega)) ?_ | refine wF (by intro _h; first | omega | (simp only [W1, cond_true, cond_false, e0, hE', hE] at _h; first | done | omega)) ?_ | (refine wS ?_ ?_ <;> intro _h <;> simp only [W1, cond_true, cond_false, e0, hE', hE] at _h))
      all_goals simp only [W1, W2, owesN, owesX, owesR, cond_true, cond_false, e0, hE', hE]
      repeat' (first | apply And.intro | intro _hc)
      all_goals first | exact tup2 (.any _) (leI rfl) | exact AV.le_refl _ | exact AV.le_any _ | exact OLe.refl _ | exact OLe.none _ | exact LeH.refl _ | exact LeL.refl _ | exact AV.le.bs _ | exact AV.le.sb _ | omega | contradiction
noncomputable def k110 : CT Tryd.prog Γm := CT.oS 110 Tryd.func110 (by kernel_rfl) (by kernel_rfl) (fun s => 0 < s.size) decV (fun _ => []) (fun s h => ansDec h)
/-! ### broken -/
def ofSPC : List AV → List Blk → Option (ByteArray × Int × Int)
  | [.v (.string s), .v (.int _ p), .v (.int _ c)], [] => some (s, p, c)
  | _, _ => none
theorem run75 (s : ByteArray) (p c : Int) : bodyE (P := Tryd.prog) (Γ := Γm) [k110] Lno false 20 [.tmp 6] (bodyOf Tryd.f75) [.v (.string s), .v (.int .i64 p), .v (.int .i32 c)] [] =
  Tree.br (!decide (c = (65533 : Int))) (Tree.leaf (Ans.mk (AV.v (Value.bool false)) [])) (Tree.chk (decide ((0 : Int) ≤ p) && decide (p ≤ (↑(ByteArray.size s) : Int)) && decide
    ((↑(ByteArray.size s) : Int) ≤ (↑(ByteArray.size s) : Int)) && cl ((0 : Nat) < ByteArray.size (ByteArray.extract s (Int.toNat p) (ByteArray.size s)) ∧ LeL [AV.v (Value.string
    (ByteArray.extract s (Int.toNat p) (ByteArray.size s)))] [AV.v (Value.string (ByteArray.extract s (Int.toNat p) (ByteArray.size s)))] ∧ LeH [] [])) (Tree.leaf (Ans.mk (AV.sb (decide
    ((↑(Utf8.decode (ByteArray.extract s (Int.toNat p) (ByteArray.size s)) (0 : Nat)).snd : Int) = (1 : Int)))) []))) := by kernel_rfl
theorem ansBrk {s : ByteArray} {p : Nat} (hp : p < s.size) : Answers Tryd.prog Γm 75 [.v (.string s), .v (.int .i64 (p : Int)), .v (.int .i32 ((Utf8.decode s p).1 : Int))] [] (.sb (!okAt s p)) [] [] :=
  answers (fn := Tryd.f75) (c := bodyOf Tryd.f75) (ntmps := 20) (results := [.tmp 6]) [k110] Lno false Tryd.func75 (by kernel_rfl) (by kernel_rfl) (by kernel_rfl) (by kernel_rfl) (by simp) rfl (noLoops (by kernel_rfl)) <| Meets.of (run75 s p ((Utf8.decode s p).1 : Int)) <| by
    have hz : (s.extract p s.size).size = s.size - p := ext_size _ _ _ (Nat.le_refl _)
    have hde := dec_ext (s := s) (p := p) (by omega)
    by_cases hc : (Utf8.decode s p).1 = 65533
    · by_cases hw : (Utf8.decode s p).2 = 1
      · rw [okAt_f (Prod.ext hc hw)]
        repeat' (first | refine wC (by first | omega | (simp only [W1, cond_true, cond_false, hz, hde, hc, hw]; first | done | omega)) ?_ | refine wT (by first | omega | (simp only [W1, cond_true, cond_false, hz, hde, hc, hw]; first | done | omega)) ?_ | refine wF (by intro _h; first | omega | (simp only [W1, cond_true, cond_false, hz, hde, hc, hw] at _h; first | done | omega)) ?_ | (refine wS ?_ ?_ <;> intro _h <;> simp only [W1, cond_true, cond_false, hz, hde, hc, hw] at _h))
        all_goals simp only [W1, W2, owesN, owesX, owesR, cond_true, cond_false, hz, hde, hc, hw]
        repeat' (first | apply And.intro | intro _hc)
        all_goals first | exact leB' (by simp [hde, hw]) | exact AV.le_refl _ | exact AV.le_any _ | exact OLe.refl _ | exact OLe.none _ | exact LeH.refl _ | exact LeL.refl _ | exact AV.le.bs _ | exact AV.le.sb _ | omega | contradiction
      · rw [okAt_t rfl (fun e => hw (congrArg Prod.snd e))]
        repeat' (first | refine wC (by first | omega | (simp only [W1, cond_true, cond_false, hz, hde, hc]; first | done | omega)) ?_ | refine wT (by first | omega | (simp only [W1, cond_true, cond_false, hz, hde, hc]; first | done | omega)) ?_ | refine wF (by intro _h; first | omega | (simp only [W1, cond_true, cond_false, hz, hde, hc] at _h; first | done | omega)) ?_ | (refine wS ?_ ?_ <;> intro _h <;> simp only [W1, cond_true, cond_false, hz, hde, hc] at _h))
        all_goals simp only [W1, W2, owesN, owesX, owesR, cond_true, cond_false, hz, hde, hc]
        repeat' (first | apply And.intro | intro _hc)
        all_goals first | exact leB' (decide_eq_false (by omega)) | exact AV.le_refl _ | exact AV.le_any _ | exact OLe.refl _ | exact OLe.none _ | exact LeH.refl _ | exact LeL.refl _ | exact AV.le.bs _ | exact AV.le.sb _ | omega | contradiction
    · rw [okAt_t rfl (fun e => hc (congrArg Prod.fst e))]
      repeat' (first | refine wC (by first | omega | (simp only [W1, cond_true, cond_false]; first | done | omega)) ?_ | refine wT (by first | omega | (simp only [W1, cond_true, cond_false]; first | done | omega)) ?_ | refine wF (by intro _h; first | omega | (simp only [W1, cond_true, cond_false] at _h; first | done | omega)) ?_ | (refine wS ?_ ?_ <;> intro _h <;> simp only [W1, cond_true, cond_false] at _h))
      all_goals simp only [W1, W2, owesN, owesX, owesR, cond_true, cond_false]
      repeat' (first | apply And.intro | intro _hc)
      all_goals first | exact AV.le_refl _ | exact AV.le_any _ | exact OLe.refl _ | exact OLe.none _ | exact LeH.refl _ | exact LeL.refl _ | exact AV.le.bs _ | exact AV.le.sb _ | omega | contradiction
noncomputable def k75 : CT Tryd.prog Γm := CT.par 75 ofSPC (fun x => 0 ≤ x.2.1 ∧ x.2.1 < (x.1.size : Int) ∧ x.2.2 = ((Utf8.decode x.1 x.2.1.toNat).1 : Int)) (fun x => [.v (.string x.1), .v (.int .i64 x.2.1), .v (.int .i32 x.2.2)]) (fun _ => []) (fun x => .sb (!okAt x.1 x.2.1.toNat)) (fun _ => []) (fun _ => [])
  (callFunc_enters Tryd.func75 (by kernel_rfl) (by kernel_rfl)) (fun x ⟨h1, h2, h3⟩ => by
    obtain ⟨s, p, c⟩ := x
    obtain ⟨q, rfl⟩ := Int.eq_ofNat_of_zero_le h1
    dsimp only at h2 h3 ⊢
    rw [h3]
    simp only [Int.toNat_natCast]
    exact ansBrk (by omega))
end Go.Eng.TA

/- names: which texts are values. -/
namespace Go.Eng.TA
open Go Go.Eng Go.Eng.M Go.Lib Go.Proofs
set_option linter.unusedSimpArgs false
set_option linter.unusedVariables false
def valN (c : Nat) : Bool := decide (32 ≤ c ∧ c ≠ 127)
def fineV (s : ByteArray) (p : Nat) : Bool := (rns s p).all valN && good s p
/-- is it a value? -/
def valueB (s : ByteArray) : Bool := fineV s 0 && decide ((rns s 0).length ≤ 32)
noncomputable abbrev lpVal : Code := loopOf (bodyOf Tryd.f22) 0
def SVal (s : ByteArray) (x : XP) : List AV × Heap := ([.v (.string s), .v (.int .i64 (x.k : Int)), .its 0, .any], [some (.sit s x.p)])
def retVal : Out := ⟨.ret, [.any, .any, .any, .v (.int .i64 20)], [none]⟩
def endVal (s : ByteArray) : Out := ⟨.exit 0, [.any, .v (.int .i64 ((rns s 0).length : Int)), .any, .any], [none]⟩
def OVal (s : ByteArray) : Out := bif fineV s 0 then endVal s else retVal
theorem rVal (s : ByteArray) (x : XP) : roundE (P := Tryd.prog) (Γ := Γm) [k75] Lno false 0 0 lpVal [0, 3, 7, 2] [] 28 (SVal s x).1 (SVal s x).2 =
  Tree.br (decide (x.p < ByteArray.size s)) (Tree.chk (bif decide ((↑(Utf8.decode s x.p).fst : Int) < (32 : Int)) then true else bif decide ((↑(Utf8.decode s x.p).fst : Int) = (127 : Int))
    then true else cl (((0 : Int) ≤ (↑x.p : Int) ∧ (↑x.p : Int) < (↑(ByteArray.size s) : Int) ∧ (↑(Utf8.decode s x.p).fst : Int) = (↑(Utf8.decode s x.p).fst : Int)) ∧ LeL [AV.v (Value.string
    s), AV.v (Value.int IntKind.i64 (↑x.p : Int)), AV.v (Value.int IntKind.i32 (↑(Utf8.decode s x.p).fst : Int))] [AV.v (Value.string s), AV.v (Value.int IntKind.i64 (↑x.p : Int)), AV.v
    (Value.int IntKind.i32 (↑(Utf8.decode s x.p).fst : Int))] ∧ LeH [] [])) (Tree.br (bif decide ((↑(Utf8.decode s x.p).fst : Int) < (32 : Int)) then true else bif decide ((↑(Utf8.decode s
    x.p).fst : Int) = (127 : Int)) then true else !okAt s x.p) (Tree.leaf (Out.mk AEx.ret [AV.v (Value.string s), AV.v (Value.int IntKind.i64 (↑x.k : Int)), AV.its (0 : Nat), AV.v (Value.int
    IntKind.i64 (20 : Int))] [some (Blk.sit s (x.p + (Utf8.decode s x.p).snd))])) (Tree.leaf (Out.mk AEx.normal [AV.v (Value.string s), AV.v (Value.int IntKind.i64 (IntKind.wrap IntKind.i64
    ((↑x.k : Int) + (1 : Int)))), AV.its (0 : Nat), AV.any] [some (Blk.sit s (x.p + (Utf8.decode s x.p).snd))])))) (Tree.leaf (Out.mk (AEx.exit (0 : Nat)) [AV.v (Value.string s), AV.v
    (Value.int IntKind.i64 (↑x.k : Int)), AV.its (0 : Nat), AV.any] [some (Blk.sit s x.p)])) := by kernel_rfl
theorem loopVal {s : ByteArray} (hs : s.size ≤ 1000000000) : ∀ x : XP, (x.p ≤ s.size ∧ x.k + (rns s x.p).length = (rns s 0).length ∧ fineV s x.p = fineV s 0) → LoopOK Tryd.prog Γm 0 28 lpVal (LSpec.at [0, 3, 7, 2] [] (SVal s x) (OVal s)) := by
  refine loop_at (S := SVal s) (O := fun _ => OVal s) (k := 0) (fun x => s.size - x.p) fun x hp => .of (noLoops (by kernel_rfl)) (rVal s x) ?_
  obtain ⟨p, k⟩ := x
  obtain ⟨h1, h2, h3⟩ := hp
  have hl : (rns s 0).length ≤ s.size - 0 := rns_len
  dsimp only at h1 h2 h3
  rcases Nat.lt_or_ge p s.size with hi | hi
  · have hst := rns_step hi
    have hd := dec_pos s p
    have hle := dec_le hi
    rw [hst, List.length_cons] at h2
    have hf : fineV s p = ((valN (Utf8.decode s p).1 && okAt s p) && fineV s (p + (Utf8.decode s p).2)) := by
      unfold fineV
      rw [hst, List.all_cons, good_ok hi]
      cases valN (Utf8.decode s p).1 <;> cases okAt s p <;> simp
    by_cases hv : 32 ≤ (Utf8.decode s p).1 ∧ (Utf8.decode s p).1 ≠ 127
    · rw [show valN (Utf8.decode s p).1 = true from decide_eq_true hv, Bool.true_and] at hf
      cases ho : okAt s p with
      | true =>
        rw [ho, Bool.true_and] at hf
        repeat' (first | refine wC (by first | omega | (simp only [W1, cond_true, cond_false, ho, wrapUpN (show k ≤ 10000000000 by omega)]; first | done | omega)) ?_ | refine wT (by first | omega | (simp only [W1, cond_true, cond_false, ho, wrapUpN (show k ≤ 10000000000 by omega)]; first | done | omega)) ?_ | refine wF (by intro _h; first | omega | (simp only [W1, cond_true, cond_false, ho, wrapUpN (show k ≤ 10000000000 by omega)] at _h; first | done | omega)) ?_ | (refine wS ?_ ?_ <;> intro _h <;> simp only [W1, cond_true, cond_false, ho, wrapUpN (show k ≤ 10000000000 by omega)] at _h))
        all_goals simp only [W1, W2, owesN, owesX, owesR, cond_true, cond_false, ho, wrapUpN (show k ≤ 10000000000 by omega)]
        repeat' (first | apply And.intro | intro _hc)
        all_goals first | exact ⟨⟨p + (Utf8.decode s p).2, k + 1⟩, LeL.refl _, LeH.refl _, ⟨hle, by dsimp only; omega, by dsimp only; rw [← hf, h3]⟩, by dsimp only; omega⟩ | exact AV.le_refl _ | exact AV.le_any _ | exact OLe.refl _ | exact OLe.none _ | exact LeH.refl _ | exact LeL.refl _ | exact AV.le.bs _ | exact AV.le.sb _ | omega | contradiction
      | false =>
        rw [ho, Bool.false_and] at hf
        rw [show OVal s = retVal by unfold OVal; rw [← h3, hf]; rfl]
        repeat' (first | refine wC (by first | omega | (simp only [W1, cond_true, cond_false, ho]; first | done | omega)) ?_ | refine wT (by first | omega | (simp only [W1, cond_true, cond_false, ho]; first | done | omega)) ?_ | refine wF (by intro _h; first | omega | (simp only [W1, cond_true, cond_false, ho] at _h; first | done | omega)) ?_ | (refine wS ?_ ?_ <;> intro _h <;> simp only [W1, cond_true, cond_false, ho] at _h))
        all_goals simp only [W1, W2, owesN, owesX, owesR, cond_true, cond_false, ho]
        repeat' (first | apply And.intro | intro _hc)
        all_goals first | exact rfl | exact AV.le_refl _ | exact AV.le_any _ | exact OLe.refl _ | exact OLe.none _ | exact LeH.refl _ | exact LeL.refl _ | exact AV.le.bs _ | exact AV.le.sb _ | omega | contradiction
    · rw [show valN (Utf8.decode s p).1 = false from decide_eq_false hv, Bool.false_and, Bool.false_and] at hf
      rw [show OVal s = retVal by unfold OVal; rw [← h3, hf]; rfl]
      repeat' (first | refine wC (by first | omega | (simp only [W1, cond_true, cond_false]; first | done | omega)) ?_ | refine wT (by first | omega | (simp only [W1, cond_true, cond_false]; first | done | omega)) ?_ | refine wF (by intro _h; first | omega | (simp only [W1, cond_true, cond_false] at _h; first | done | omega)) ?_ | (refine wS ?_ ?_ <;> intro _h <;> simp only [W1, cond_true, cond_false] at _h))
      all_goals simp only [W1, W2, owesN, owesX, owesR, cond_true, cond_false]
      repeat' (first | apply And.intro | intro _hc)
      all_goals first | exact rfl | exact AV.le_refl _ | exact AV.le_any _ | exact OLe.refl _ | exact OLe.none _ | exact LeH.refl _ | exact LeL.refl _ | exact AV.le.bs _ | exact AV.le.sb _ | omega | contradiction
  · rw [rns_end hi, List.length_nil] at h2
    have h2 : k = (rns s 0).length := by omega
    subst h2
    have hf : fineV s 0 = true := by
      rw [← h3]; unfold fineV; rw [rns_end hi, good_end hi]; rfl
    rw [show OVal s = endVal s by unfold OVal; rw [hf]; rfl]
    repeat' (first | refine wC (by first | omega | (simp only [W1, cond_true, cond_false]; first | done | omega)) ?_ | refine wT (by first | omega | (simp only [W1, cond_true, cond_false]; first | done | omega)) ?_ | refine wF (by intro _h; first | omega | (simp only [W1, cond_true, cond_false] at _h; first | done | omega)) ?_ | (refine wS ?_ ?_ <;> intro _h <;> simp only [W1, cond_true, cond_false] at _h))
    all_goals simp only [W1, W2, owesN, owesX, owesR, cond_true, cond_false]
    repeat' (first | apply And.intro | intro _hc)
    all_goals first | exact rfl | exact AV.le_refl _ | exact AV.le_any _ | exact OLe.refl _ | exact OLe.none _ | exact LeH.refl _ | exact LeL.refl _ | exact AV.le.bs _ | exact AV.le.sb _ | omega | contradiction
theorem runValE (s : ByteArray) : bodyE (P := Tryd.prog) (Γ := Γm) [] (fun _ => LSpec.at [0, 3, 7, 2] [] (SVal s ⟨0, 0⟩) (endVal s)) false 28 [.tmp 2] (bodyOf Tryd.f22) [.v (.string s)] [] =
  Tree.chk (cl (LeL [AV.v (Value.string s), AV.v (Value.int IntKind.i64 (0 : Int)), AV.its (0 : Nat), AV.v (Value.int IntKind.i64 (0 : Int))] [AV.v (Value.string s), AV.v (Value.int
    IntKind.i64 (↑(0 : Nat) : Int)), AV.its (0 : Nat), AV.any] ∧ LeH [some (Blk.sit s (0 : Nat))] [some (Blk.sit s (0 : Nat))])) (Tree.br (decide ((32 : Int) < (↑(List.length (rns s (0 :
    Nat))) : Int))) (Tree.leaf (Ans.mk (AV.v (Value.int IntKind.i64 (20 : Int))) [])) (Tree.leaf (Ans.mk (AV.v (Value.int IntKind.i64 (0 : Int))) []))) := by kernel_rfl
theorem runValR (s : ByteArray) : bodyE (P := Tryd.prog) (Γ := Γm) [] (fun _ => LSpec.at [0, 3, 7, 2] [] (SVal s ⟨0, 0⟩) retVal) false 28 [.tmp 2] (bodyOf Tryd.f22) [.v (.string s)] [] =
  Tree.chk (cl (LeL [AV.v (Value.string s), AV.v (Value.int IntKind.i64 (0 : Int)), AV.its (0 : Nat), AV.v (Value.int IntKind.i64 (0 : Int))] [AV.v (Value.string s), AV.v (Value.int
    IntKind.i64 (↑(0 : Nat) : Int)), AV.its (0 : Nat), AV.any] ∧ LeH [some (Blk.sit s (0 : Nat))] [some (Blk.sit s (0 : Nat))])) (Tree.leaf (Ans.mk (AV.v (Value.int IntKind.i64 (20 : Int)))
    [])) := by kernel_rfl
theorem ansVal {s : ByteArray} (hs : s.size ≤ 1000000000) : Answers Tryd.prog Γm 22 [.v (.string s)] [] (.v (.int .i64 (erN (valueB s)))) [] [] := by
  have hl := loopVal hs ⟨0, 0⟩ ⟨Nat.zero_le _, Nat.zero_add _, rfl⟩
  unfold OVal at hl
  unfold valueB
  cases hf : fineV s 0 with
  | true =>
    rw [hf, cond_true] at hl
    refine answers (fn := Tryd.f22) (c := bodyOf Tryd.f22) (ntmps := 28) (results := [.tmp 2]) [] (fun _ => LSpec.at [0, 3, 7, 2] [] (SVal s ⟨0, 0⟩) (endVal s)) false Tryd.func22 (by kernel_rfl) (by kernel_rfl) (by kernel_rfl) (by kernel_rfl) (by simp) rfl (oneLoop (b := lpVal) (by kernel_rfl) hl) <| Meets.of (runValE s) <| ?_
    by_cases h : (rns s 0).length ≤ 32
    · rw [decide_eq_true h]
      repeat' (first | refine wC (by first | omega | (simp only [W1, cond_true, cond_false]; first | done | omega)) ?_ | refine wT (by first | omega | (simp only [W1, cond_true, cond_false]; first | done | omega)) ?_ | refine wF (by intro _h; first | omega | (simp only [W1, cond_true, cond_false] at _h; first | done | omega)) ?_ | (refine wS ?_ ?_ <;> intro _h <;> simp only [W1, cond_true, cond_false] at _h))
      all_goals simp only [W1, W2, owesN, owesX, owesR, cond_true, cond_false]
      repeat' (first | apply And.intro | intro _hc)
      all_goals first | exact leI rfl | exact AV.le_refl _ | exact AV.le_any _ | exact OLe.refl _ | exact OLe.none _ | exact LeH.refl _ | exact LeL.refl _ | exact AV.le.bs _ | exact AV.le.sb _ | omega | contradiction
    · rw [decide_eq_false h]
      repeat' (first | refine wC (by first | omega | (simp only [W1, cond_true, cond_false]; first | done | omega)) ?_ | refine wT (by first | omega | (simp only [W1, cond_true, cond_false]; first | done | omega)) ?_ | refine wF (by intro _h; first | omega | (simp only [W1, cond_true, cond_false] at _h; first | done | omega)) ?_ | (refine wS ?_ ?_ <;> intro _h <;> simp only [W1, cond_true, cond_false] at _h))
      all_goals simp only [W1, W2, owesN, owesX, owesR, cond_true, cond_false]
      repeat' (first | apply And.intro | intro _hc)
      all_goals first | exact leI rfl | exact AV.le_refl _ | exact AV.le_any _ | exact OLe.refl _ | exact OLe.none _ | exact LeH.refl _ | exact LeL.refl _ | exact AV.le.bs _ | exact AV.le.sb _ | omega | contradiction
  | false =>
    rw [hf, cond_false] at hl
    refine answers (fn := Tryd.f22) (c := bodyOf Tryd.f22) (ntmps := 28) (results := [.tmp 2]) [] (fun _ => LSpec.at [0, 3, 7, 2] [] (SVal s ⟨0, 0⟩) retVal) false Tryd.func22 (by kernel_rfl) (by kernel_rfl) (by kernel_rfl) (by kernel_rfl) (by simp) rfl (oneLoop (b := lpVal) (by kernel_rfl) hl) <| Meets.of (runValR s) <| ?_
    repeat' (first | refine wC (by first | omega | (simp only [W1, cond_true, cond_false]; first | done | omega)) ?_ | refine wT (by first | omega | (simp only [W1, cond_true, cond_false]; first | done | omega)) ?_ | refine wF (by intro _h; first | omega | (simp only [W1, cond_true, cond_false] at _h; first | done | omega)) ?_ | (refine wS ?_ ?_ <;> intro _h <;> simp only [W1, cond_true, cond_false] at _h))
    all_goals simp only [W1, W2, owesN, owesX, owesR, cond_true, cond_false]
    repeat' (first | apply And.intro | intro _hc)
    all_goals first | exact leI rfl | exact AV.le_refl _ | exact AV.le_any _ | exact OLe.refl _ | exact OLe.none _ | exact LeH.refl _ | exact LeL.refl _ | exact AV.le.bs _ | exact AV.le.sb _ | omega | contradiction
noncomputable def kVal : CT Tryd.prog Γm := CT.oS 22 Tryd.func22 (by kernel_rfl) (by kernel_rfl) (fun s => s.size ≤ 1000000000) (fun s => .v (.int .i64 (erN (valueB s)))) (fun _ => []) (fun s h => ansVal h)
/-! ### the document's -/
noncomputable abbrev lpValR : Code := loopOf (bodyOf Tryd.f23) 0
def SValR (l : List Nat) (i : Nat) : List AV × Heap := ([.hs 0 0 l.length, .v (.int .i64 (i : Int)), .any], [some (i1B l)])
def OValR (l : List Nat) : Out := bif l.all valN then ⟨.exit 0, [.any, .any, .any], [none]⟩ else ⟨.ret, [.any, .any, .v (.bool false)], [none]⟩
theorem rValR (l : List Nat) (i : Nat) : roundE (P := Tryd.prog) (Γ := Γm) [] Lno false 0 0 lpValR [3, 5, 2] [] 36 (SValR l i).1 (SValR l i).2 =
  Tree.br (decide ((↑i : Int) < (↑(List.length l) : Int))) (Tree.chk (decide ((0 : Int) ≤ (↑i : Int)) && decide ((↑i : Int) < (↑(List.length l) : Int)) && bif decide ((↑(List.getD l ((0 : Nat)
    + i) default) : Int) < (32 : Int)) then true else decide ((0 : Int) ≤ (↑i : Int)) && decide ((↑i : Int) < (↑(List.length l) : Int))) (Tree.br (bif decide ((↑(List.getD l ((0 : Nat) + i)
    default) : Int) < (32 : Int)) then true else decide ((↑(List.getD l ((0 : Nat) + i) default) : Int) = (127 : Int))) (Tree.leaf (Out.mk AEx.ret [AV.hs (0 : Nat) (0 : Nat) (List.length l),
    AV.v (Value.int IntKind.i64 (↑i : Int)), AV.v (Value.bool false)] [some (Blk.arr (1 : Nat) (List.length l) (lsF I1.c l))])) (Tree.leaf (Out.mk AEx.normal [AV.hs (0 : Nat) (0 : Nat)
    (List.length l), AV.v (Value.int IntKind.i64 (IntKind.wrap IntKind.i64 ((↑i : Int) + (1 : Int)))), AV.any] [some (Blk.arr (1 : Nat) (List.length l) (lsF I1.c l))])))) (Tree.leaf (Out.mk
    (AEx.exit (0 : Nat)) [AV.hs (0 : Nat) (0 : Nat) (List.length l), AV.v (Value.int IntKind.i64 (↑i : Int)), AV.any] [some (Blk.arr (1 : Nat) (List.length l) (lsF I1.c l))])) := by kernel_rfl
theorem loopValR {l : List Nat} (hs : l.length ≤ 1000000000) : ∀ i : Nat, (i ≤ l.length ∧ (l.drop i).all valN = l.all valN) → LoopOK Tryd.prog Γm 0 36 lpValR (LSpec.at [3, 5, 2] [] (SValR l i) (OValR l)) := by
  refine loop_at (S := SValR l) (O := fun _ => OValR l) (k := 0) (fun i => l.length - i) fun i hp => .of (noLoops (by kernel_rfl)) (rValR l i) ?_
  obtain ⟨h1, h2⟩ := hp
  rcases Nat.lt_or_ge i l.length with hi | hi
  · rw [all_drop hi] at h2
    by_cases hv : 32 ≤ l.getD i default ∧ l.getD i default ≠ 127
    · rw [show valN (l.getD i default) = true from decide_eq_true hv, Bool.true_and] at h2
      repeat' (first | refine wC (by first | omega | (simp only [W1, cond_true, cond_false, wrapUpN (show i ≤ 10000000000 by omega)]; first | done | omega)) ?_ | refine wT (by first | omega | (simp only [W1, cond_true, cond_false, wrapUpN (show i ≤ 10000000000 by omega)]; first | done | omega)) ?_ | refine wF (by intro _h; first | omega | (simp only [W1, cond_true, cond_false, wrapUpN (show i ≤ 10000000000 by omega)] at _h; first | done | omega)) ?_ | (refine wS ?_ ?_ <;> intro _h <;> simp only [W1, cond_true, cond_false, wrapUpN (show i ≤ 10000000000 by omega)] at _h))
      all_goals simp only [W1, W2, owesN, owesX, owesR, cond_true, cond_false, wrapUpN (show i ≤ 10000000000 by omega)]
      repeat' (first | apply And.intro | intro _hc)
      all_goals first | exact ⟨i + 1, LeL.refl _, LeH.refl _, ⟨hi, h2⟩, by omega⟩ | exact AV.le_refl _ | exact AV.le_any _ | exact OLe.refl _ | exact OLe.none _ | exact LeH.refl _ | exact LeL.refl _ | exact AV.le.bs _ | exact AV.le.sb _ | omega | contradiction
    · rw [show valN (l.getD i default) = false from decide_eq_false hv, Bool.false_and] at h2
      unfold OValR
      rw [← h2, cond_false]
      repeat' (first | refine wC (by first | omega | (simp only [W1, cond_true, cond_false]; first | done | omega)) ?_ | refine wT (by first | omega | (simp only [W1, cond_true, cond_false]; first | done | omega)) ?_ | refine wF (by intro _h; first | omega | (simp only [W1, cond_true, cond_false] at _h; first | done | omega)) ?_ | (refine wS ?_ ?_ <;> intro _h <;> simp only [W1, cond_true, cond_false] at _h))
      all_goals simp only [W1, W2, owesN, owesX, owesR, cond_true, cond_false]
      repeat' (first | apply And.intro | intro _hc)
      all_goals first | exact rfl | exact AV.le_refl _ | exact AV.le_any _ | exact OLe.refl _ | exact OLe.none _ | exact LeH.refl _ | exact LeL.refl _ | exact AV.le.bs _ | exact AV.le.sb _ | omega | contradiction
  · rw [List.drop_eq_nil_of_le hi] at h2
    unfold OValR
    rw [← h2, List.all_nil, cond_true]
    repeat' (first | refine wC (by first | omega | (simp only [W1, cond_true, cond_false]; first | done | omega)) ?_ | refine wT (by first | omega | (simp only [W1, cond_true, cond_false]; first | done | omega)) ?_ | refine wF (by intro _h; first | omega | (simp only [W1, cond_true, cond_false] at _h; first | done | omega)) ?_ | (refine wS ?_ ?_ <;> intro _h <;> simp only [W1, cond_true, cond_false] at _h))
    all_goals simp only [W1, W2, owesN, owesX, owesR, cond_true, cond_false]
    repeat' (first | apply And.intro | intro _hc)
    all_goals first | exact rfl | exact AV.le_refl _ | exact AV.le_any _ | exact OLe.refl _ | exact OLe.none _ | exact LeH.refl _ | exact LeL.refl _ | exact AV.le.bs _ | exact AV.le.sb _ | omega | contradiction
theorem runValRE (s : ByteArray) : bodyE (P := Tryd.prog) (Γ := Γm) [kRun] (fun _ => LSpec.at [3, 5, 2] [] (SValR (rns s 0) 0) ⟨.exit 0, [.any, .any, .any], [none]⟩) false 36 [.tmp 2] (bodyOf Tryd.f23) [.v (.string s)] [] =
  Tree.chk (cl (ByteArray.size s ≤ (100000000 : Nat) ∧ LeL [AV.v (Value.string s)] [AV.v (Value.string s)] ∧ LeH [] [])) (Tree.br (bif !good s (0 : Nat) then true else decide ((32 : Int) <
    (↑(List.length (rns s (0 : Nat))) : Int))) (Tree.leaf (Ans.mk (AV.v (Value.bool false)) [])) (Tree.chk (cl (LeL [AV.hs (0 : Nat) (0 : Nat) (List.length (rns s (0 : Nat))), AV.v
    (Value.int IntKind.i64 (0 : Int)), AV.v (Value.bool false)] [AV.hs (0 : Nat) (0 : Nat) (List.length (rns s (0 : Nat))), AV.v (Value.int IntKind.i64 (↑(0 : Nat) : Int)), AV.any] ∧ LeH
    [some (Blk.arr (1 : Nat) (List.length (rns s (0 : Nat))) (lsF I1.c (rns s (0 : Nat))))] [some (Blk.arr (1 : Nat) (List.length (rns s (0 : Nat))) (lsF I1.c (rns s (0 : Nat))))]))
    (Tree.leaf (Ans.mk (AV.v (Value.bool true)) [])))) := by kernel_rfl
theorem runValRR (s : ByteArray) : bodyE (P := Tryd.prog) (Γ := Γm) [kRun] (fun _ => LSpec.at [3, 5, 2] [] (SValR (rns s 0) 0) ⟨.ret, [.any, .any, .v (.bool false)], [none]⟩) false 36 [.tmp 2] (bodyOf Tryd.f23) [.v (.string s)] [] =
  Tree.chk (cl (ByteArray.size s ≤ (100000000 : Nat) ∧ LeL [AV.v (Value.string s)] [AV.v (Value.string s)] ∧ LeH [] [])) (Tree.br (bif !good s (0 : Nat) then true else decide ((32 : Int) <
    (↑(List.length (rns s (0 : Nat))) : Int))) (Tree.leaf (Ans.mk (AV.v (Value.bool false)) [])) (Tree.chk (cl (LeL [AV.hs (0 : Nat) (0 : Nat) (List.length (rns s (0 : Nat))), AV.v
    (Value.int IntKind.i64 (0 : Int)), AV.v (Value.bool false)] [AV.hs (0 : Nat) (0 : Nat) (List.length (rns s (0 : Nat))), AV.v (Value.int IntKind.i64 (↑(0 : Nat) : Int)), AV.any] ∧ LeH
    [some (Blk.arr (1 : Nat) (List.length (rns s (0 : Nat))) (lsF I1.c (rns s (0 : Nat))))] [some (Blk.arr (1 : Nat) (List.length (rns s (0 : Nat))) (lsF I1.c (rns s (0 : Nat))))]))
    (Tree.leaf (Ans.mk (AV.v (Value.bool false)) [])))) := by kernel_rfl
theorem ansValR {s : ByteArray} (hs : s.size ≤ 100000000) : Answers Tryd.prog Γm 23 [.v (.string s)] [] (.sb (valueB s)) [] [] := by
  have hln : (rns s 0).length ≤ s.size - 0 := rns_len
  have hl := loopValR (l := rns s 0) (by omega) 0 ⟨Nat.zero_le _, rfl⟩
  have hnm : valueB s = (((rns s 0).all valN && good s 0) && decide ((rns s 0).length ≤ 32)) := rfl
  unfold OValR at hl
  rw [hnm]
  cases hA : (rns s 0).all valN with
  | true =>
    rw [hA, cond_true] at hl
    refine answers (fn := Tryd.f23) (c := bodyOf Tryd.f23) (ntmps := 36) (results := [.tmp 2]) [kRun] (fun _ => LSpec.at [3, 5, 2] [] (SValR (rns s 0) 0) ⟨.exit 0, [.any, .any, .any], [none]⟩) false Tryd.func23 (by kernel_rfl) (by kernel_rfl) (by kernel_rfl) (by kernel_rfl) (by simp) rfl (oneLoop (b := lpValR) (by kernel_rfl) hl) <| Meets.of (runValRE s) <| ?_
    cases hg : good s 0 with
    | true =>
      by_cases h : (rns s 0).length ≤ 32
      · rw [decide_eq_true h]
        repeat' (first | refine wC (by first | omega | (simp only [W1, cond_true, cond_false, hg]; first | done | omega)) ?_ | refine wT (by first | omega | (simp only [W1, cond_true, cond_false, hg]; first | done | omega)) ?_ | refine wF (by intro _h; first | omega | (simp only [W1, cond_true, cond_false, hg] at _h; first | done | omega)) ?_ | (refine wS ?_ ?_ <;> intro _h <;> simp only [W1, cond_true, cond_false, hg] at _h))
        all_goals simp only [W1, W2, owesN, owesX, owesR, cond_true, cond_false, hg]
        repeat' (first | apply And.intro | intro _hc)
        all_goals first | exact AV.le_refl _ | exact AV.le_any _ | exact OLe.refl _ | exact OLe.none _ | exact LeH.refl _ | exact LeL.refl _ | exact AV.le.bs _ | exact AV.le.sb _ | omega | contradiction
      · rw [decide_eq_false h]
        repeat' (first | refine wC (by first | omega | (simp only [W1, cond_true, cond_false, hg]; first | done | omega)) ?_ | refine wT (by first | omega | (simp only [W1, cond_true, cond_false, hg]; first | done | omega)) ?_ | refine wF (by intro _h; first | omega | (simp only [W1, cond_true, cond_false, hg] at _h; first | done | omega)) ?_ | (refine wS ?_ ?_ <;> intro _h <;> simp only [W1, cond_true, cond_false, hg] at _h))
        all_goals simp only [W1, W2, owesN, owesX, owesR, cond_true, cond_false, hg]
        repeat' (first | apply And.intro | intro _hc)
        all_goals first | exact AV.le_refl _ | exact AV.le_any _ | exact OLe.refl _ | exact OLe.none _ | exact LeH.refl _ | exact LeL.refl _ | exact AV.le.bs _ | exact AV.le.sb _ | omega | contradiction
    | false =>
      repeat' (first | refine wC (by first | omega | (simp only [W1, cond_true, cond_false, hg]; first | done | omega)) ?_ | refine wT (by first | omega | (simp only [W1, cond_true, cond_false, hg]; first | done | omega)) ?_ | refine wF (by intro _h; first | omega | (simp only [W1, cond_true, cond_false, hg] at _h; first | done | omega)) ?_ | (refine wS ?_ ?_ <;> intro _h <;> simp only [W1, cond_true, cond_false, hg] at _h))
      all_goals simp only [W1, W2, owesN, owesX, owesR, cond_true, cond_false, hg]
      repeat' (first | apply And.intro | intro _hc)
      all_goals first | exact AV.le_refl _ | exact AV.le_any _ | exact OLe.refl _ | exact OLe.none _ | exact LeH.refl _ | exact LeL.refl _ | exact AV.le.bs _ | exact AV.le.sb _ | omega | contradiction
  | false =>
    rw [hA, cond_false] at hl
    refine answers (fn := Tryd.f23) (c := bodyOf Tryd.f23) (ntmps := 36) (results := [.tmp 2]) [kRun] (fun _ => LSpec.at [3, 5, 2] [] (SValR (rns s 0) 0) ⟨.ret, [.any, .any, .v (.bool false)], [none]⟩) false Tryd.func23 (by kernel_rfl) (by kernel_rfl) (by kernel_rfl) (by kernel_rfl) (by simp) rfl (oneLoop (b := lpValR) (by kernel_rfl) hl) <| Meets.of (runValRR s) <| ?_
    cases hg : good s 0 with
    | true =>
      repeat' (first | refine wC (by first | omega | (simp only [W1, cond_true, cond_false, hg]; first | done | omega)) ?_ | refine wT (by first | omega | (simp only [W1, cond_true, cond_false, hg]; first | done | omega)) ?_ | refine wF (by intro _h; first | omega | (simp only [W1, cond_true, cond_false, hg] at _h; first | done | omega)) ?_ | (refine wS ?_ ?_ <;> intro _h <;> simp only [W1, cond_true, cond_false, hg] at _h))
      all_goals simp only [W1, W2, owesN, owesX, owesR, cond_true, cond_false, hg]
      repeat' (first | apply And.intro | intro _hc)
      all_goals first | exact AV.le_refl _ | exact AV.le_any _ | exact OLe.refl _ | exact OLe.none _ | exact LeH.refl _ | exact LeL.refl _ | exact AV.le.bs _ | exact AV.le.sb _ | omega | contradiction
    | false =>
      repeat' (first | refine wC (by first | omega | (simp only [W1, cond_true, cond_false, hg]; first | done | omega)) ?_ | refine wT (by first | omega | (simp only [W1, cond_true, cond_false, hg]; first | done | omega)) ?_ | refine wF (by intro _h; first | omega | (simp only [W1, cond_true, cond_false, hg] at _h; first | done | omega)) ?_ | (refine wS ?_ ?_ <;> intro _h <;> simp only [W1, cond_true, cond_false, hg] at _h))
      all_goals simp only [W1, W2, owesN, owesX, owesR, cond_true, cond_false, hg]
      repeat' (first | apply And.intro | intro _hc)
      all_goals first | exact AV.le_refl _ | exact AV.le_any _ | exact OLe.refl _ | exact OLe.none _ | exact LeH.refl _ | exact LeL.refl _ | exact AV.le.bs _ | exact AV.le.sb _ | omega | contradiction
noncomputable def kValR : CT Tryd.prog Γm := CT.oS 23 Tryd.func23 (by kernel_rfl) (by kernel_rfl) (fun s => s.size ≤ 100000000) (fun s => .sb (valueB s)) (fun _ => []) (fun s h => ansValR h)
end Go.Eng.TA

/- transactions: which are right. -/
namespace Go.Eng.TA
open Go Go.Eng Go.Eng.M Go.Lib Go.Proofs
set_option linter.unusedSimpArgs false
set_option linter.unusedVariables false
structure Tx where
  k : Int
  fr : ByteArray
  to : ByteArray
  ky : ByteArray
  vl : ByteArray
  am : Int
  nn : Int
instance : Inhabited Tx := ⟨⟨0, ⟨#[]⟩, ⟨#[]⟩, ⟨#[]⟩, ⟨#[]⟩, 0, 0⟩⟩
def Tx.c (x : Tx) : List AV := [.v (.int .i64 x.k), .v (.string x.fr), .v (.string x.to), .v (.string x.ky), .v (.string x.vl), .v (.int .i64 x.am), .v (.int .i64 x.nn)]
def Tx.cells (x : Tx) : List Value := [.int .i64 x.k, .string x.fr, .string x.to, .string x.ky, .string x.vl, .int .i64 x.am, .int .i64 x.nn]
theorem Tx.cod : Cod Tx.c 7 := ⟨fun _ => rfl, fun b x y => by cases b <;> rfl⟩
theorem Tx.dec (vs : List Value) (h0 : GoodVs [.int .i64, .str, .str, .str, .str, .int .i64, .int .i64] vs) : ∃ a : Tx, vs = a.cells := by
  obtain ⟨_, _, rfl, ⟨a0, rfl, _⟩, h1⟩ := h0.cons
  obtain ⟨_, _, rfl, ⟨a1, rfl, _⟩, h2⟩ := h1.cons
  obtain ⟨_, _, rfl, ⟨a2, rfl, _⟩, h3⟩ := h2.cons
  obtain ⟨_, _, rfl, ⟨a3, rfl, _⟩, h4⟩ := h3.cons
  obtain ⟨_, _, rfl, ⟨a4, rfl, _⟩, h5⟩ := h4.cons
  obtain ⟨_, _, rfl, ⟨a5, rfl, _⟩, h6⟩ := h5.cons
  obtain ⟨_, _, rfl, ⟨a6, rfl, _⟩, h7⟩ := h6.cons
  obtain rfl := h7.nil
  exact ⟨⟨a0, a1, a2, a3, a4, a5, a6⟩, rfl⟩
abbrev Tx.ks : List Cel := [.int .i64, .str, .str, .str, .str, .int .i64, .int .i64]
def txV (x : Tx) : AV := .agg x.c
def big : Int := 4611686018427387904
def emp (s : ByteArray) : Bool := decide (s = ⟨#[]⟩)
def okM (x : Tx) : Bool := nameB x.to && ((decide (1 ≤ x.am) && decide (x.am ≤ 4611686018427387904)) && (emp x.ky && emp x.vl))
def okP (x : Tx) : Bool := nameB x.ky && (valueB x.vl && (emp x.to && decide (x.am = 0)))
/-- is it right? -/
def txB (x : Tx) : Bool := (nameB x.fr && (decide (1 ≤ x.nn) && decide (x.nn ≤ 4611686018427387904))) && (if x.k = 1 then okM x else if x.k = 2 then okP x else false)
def smallT (x : Tx) : Prop := x.fr.size ≤ 10000000 ∧ x.to.size ≤ 10000000 ∧ x.ky.size ≤ 10000000 ∧ x.vl.size ≤ 10000000
def ofTx : List AV → List Blk → Option Tx
  | [.agg [.v (.int _ k), .v (.string f), .v (.string t), .v (.string y), .v (.string v), .v (.int _ a), .v (.int _ n)]], [] => some ⟨k, f, t, y, v, a, n⟩
  | _, _ => none
noncomputable def CT.oTx (f : FuncId) {fn : Func} (hf : Tryd.prog.funcs[f]? = some fn) (hb : fn.body.isSome = true) (hn : (fn.name == "runtime.NumGoroutine") = false) (pre : Tx → Prop) (g : Tx → AV) (h : ∀ x, pre x → Answers Tryd.prog Γm f [txV x] [] (g x) [] []) : CT Tryd.prog Γm :=
  CT.par f ofTx pre (fun x => [txV x]) (fun _ => []) g (fun _ => []) (fun _ => []) (callFunc_enters hf hb hn) h
noncomputable def kWi : CT Tryd.prog Γm := CT.auto false 3 3 [] 85 Tryd.f85 (bodyOf Tryd.f85) false 15 [.tmp 6] Tryd.func85 (by kernel_rfl) (by kernel_rfl) (by kernel_rfl) (by kernel_rfl)
theorem runTx (x : Tx) : bodyE (P := Tryd.prog) (Γ := Γm) [kChk, kVal, kWi] Lno false 66 [.tmp 2] (bodyOf Tryd.f32) [txV x] [] =
  Tree.chk (cl (ByteArray.size x.fr ≤ (1000000000 : Nat) ∧ LeL [.v (.string x.fr)] [.v (.string x.fr)] ∧ LeH [] [])) (.br (decide (x.k = (1 : Int))) (.chk (bif bif decide (erN (nameB x.fr) = 
    (0 : Int)) then bif decide ((1 : Int) ≤ x.nn) then decide (x.nn ≤ (4611686018427387904 : Int)) else false else false then cl (ByteArray.size x.to ≤ (1000000000 : Nat) ∧ LeL [.v 
    (.string x.to)] [.v (.string x.to)] ∧ LeH [] []) else true) (.br (!bif bif decide (erN (nameB x.fr) = (0 : Int)) then bif decide ((1 : Int) ≤ x.nn) then decide (x.nn ≤ 
    (4611686018427387904 : Int)) else false else false then bif decide (erN (nameB x.to) = (0 : Int)) then bif bif decide ((1 : Int) ≤ x.am) then decide (x.am ≤ (4611686018427387904 : 
    Int)) else false then bif decide (x.ky = ByteArray.mk #[]) then decide (x.vl = ByteArray.mk #[]) else false else false else false else false) (.leaf (Ans.mk (.v (.int .i64 (80 : 
    Int))) [])) (.leaf (Ans.mk (.v (.int .i64 (0 : Int))) [])))) (.br (decide (x.k = (2 : Int))) (.chk (bif bif decide (erN (nameB x.fr) = (0 : Int)) then bif decide ((1 : Int) ≤ x.nn) 
    then decide (x.nn ≤ (4611686018427387904 : Int)) else false else false then cl (ByteArray.size x.ky ≤ (1000000000 : Nat) ∧ LeL [.v (.string x.ky)] [.v (.string x.ky)] ∧ LeH [] []) 
    && bif decide (erN (nameB x.ky) = (0 : Int)) then cl (ByteArray.size x.vl ≤ (1000000000 : Nat) ∧ LeL [.v (.string x.vl)] [.v (.string x.vl)] ∧ LeH [] []) else true else true) (.br 
    (!bif bif decide (erN (nameB x.fr) = (0 : Int)) then bif decide ((1 : Int) ≤ x.nn) then decide (x.nn ≤ (4611686018427387904 : Int)) else false else false then bif decide (erN 
    (nameB x.ky) = (0 : Int)) then bif decide (erN (valueB x.vl) = (0 : Int)) then bif decide (x.to = ByteArray.mk #[]) then decide (x.am = (0 : Int)) else false else false else false 
    else false) (.leaf (Ans.mk (.v (.int .i64 (80 : Int))) [])) (.leaf (Ans.mk (.v (.int .i64 (0 : Int))) [])))) (.leaf (Ans.mk (.v (.int .i64 (80 : Int))) [])))) := by kernel_rfl
theorem runTxR (x : Tx) : bodyE (P := Tryd.prog) (Γ := Γm) [kChkR, kValR] Lno false 66 [.tmp 2] (bodyOf Tryd.f33) [txV x] [] =
  Tree.chk (bif decide (x.nn < (1 : Int)) then true else bif decide ((4611686018427387904 : Int) < x.nn) then true else cl (ByteArray.size x.fr ≤ (100000000 : Nat) ∧ LeL [.v (.string x.fr)] 
    [.v (.string x.fr)] ∧ LeH [] [])) (.br (bif decide (x.nn < (1 : Int)) then true else bif decide ((4611686018427387904 : Int) < x.nn) then true else !nameB x.fr) (.leaf (Ans.mk (.v 
    (.bool false)) [])) (.br (decide (x.k = (1 : Int))) (.chk (cl (ByteArray.size x.to ≤ (100000000 : Nat) ∧ LeL [.v (.string x.to)] [.v (.string x.to)] ∧ LeH [] [])) (.leaf (Ans.mk 
    (.sb (bif nameB x.to then bif decide ((1 : Int) ≤ x.am) then bif decide (x.am ≤ (4611686018427387904 : Int)) then bif decide (x.ky = ByteArray.mk #[]) then decide (x.vl = 
    ByteArray.mk #[]) else false else false else false else false)) []))) (.chk (bif decide (x.k = (2 : Int)) then cl (ByteArray.size x.ky ≤ (100000000 : Nat) ∧ LeL [.v (.string x.ky)] 
    [.v (.string x.ky)] ∧ LeH [] []) && bif nameB x.ky then cl (ByteArray.size x.vl ≤ (100000000 : Nat) ∧ LeL [.v (.string x.vl)] [.v (.string x.vl)] ∧ LeH [] []) else true else true) 
    (.leaf (Ans.mk (.sb (bif decide (x.k = (2 : Int)) then bif nameB x.ky then bif valueB x.vl then bif decide (x.to = ByteArray.mk #[]) then decide (x.am = (0 : Int)) else false else 
    false else false else false)) []))))) := by kernel_rfl
theorem runGr (x : Tx) : bodyE (P := Tryd.prog) (Γ := Γm) [] Lno false 25 [.tmp 2] (bodyOf Tryd.f29) [txV x] [] =
  Tree.leaf (Ans.mk (.sb (bif decide ((1000 : Int) < (↑(ByteArray.size x.fr) : Int)) then true else bif decide ((1000 : Int) < (↑(ByteArray.size x.to) : Int)) then true else bif decide ((1000 
    : Int) < (↑(ByteArray.size x.ky) : Int)) then true else decide ((1000 : Int) < (↑(ByteArray.size x.vl) : Int)))) []) := by kernel_rfl
theorem clS {s : ByteArray} {n : Nat} (h : s.size ≤ n) : cl (s.size ≤ n ∧ LeL [AV.v (.string s)] [AV.v (.string s)] ∧ LeH [] []) = true := cl_iff.2 ⟨h, LeL.refl _, trivial⟩
theorem erN0 (b : Bool) : decide (erN b = 0) = b := by cases b <;> rfl
theorem condSelf (b c : Bool) : (bif b then c else c) = c := by cases b <;> rfl
theorem condB (b c : Bool) : (bif b then c else false) = (b && c) := by cases b <;> rfl
theorem empE (s : ByteArray) : decide (s = ByteArray.mk #[]) = emp s := rfl
def erT (b : Bool) : Int := bif b then 0 else 80
theorem ansTx {x : Tx} (h : smallT x) : Answers Tryd.prog Γm 32 [txV x] [] (.v (.int .i64 (erT (txB x)))) [] [] :=
  answers (fn := Tryd.f32) (c := bodyOf Tryd.f32) (ntmps := 66) (results := [.tmp 2]) [kChk, kVal, kWi] Lno false Tryd.func32 (by kernel_rfl) (by kernel_rfl) (by kernel_rfl) (by kernel_rfl) (by simp) rfl (noLoops (by kernel_rfl)) <| Meets.of (runTx x) <| by
    obtain ⟨s1, s2, s3, s4⟩ := h
    simp (disch := omega) only [clS, erN0, condSelf, condB, empE, Bool.and_true]
    by_cases k1 : x.k = 1
    · have hB : txB x = ((nameB x.fr && (decide (1 ≤ x.nn) && decide (x.nn ≤ 4611686018427387904))) && (nameB x.to && ((decide (1 ≤ x.am) && decide (x.am ≤ 4611686018427387904)) && (emp x.ky && emp x.vl)))) := by
        unfold txB; rw [if_pos k1]; rfl
      rw [← hB]
      cases txB x with
      | true =>
        repeat' (first | refine wC (by first | omega | (simp only [W1, cond_true, cond_false, k1]; first | done | omega)) ?_ | refine wT (by first | omega | (simp only [W1, cond_true, cond_false, k1]; first | done | omega)) ?_ | refine wF (by intro _h; first | omega | (simp only [W1, cond_true, cond_false, k1] at _h; first | done | omega)) ?_ | (refine wS ?_ ?_ <;> intro _h <;> simp only [W1, cond_true, cond_false, k1] at _h))
        all_goals simp only [W1, W2, owesN, owesX, owesR, cond_true, cond_false, k1]
        repeat' (first | apply And.intro | intro _hc)
        all_goals first | exact leI rfl | exact AV.le_refl _ | exact AV.le_any _ | exact OLe.refl _ | exact OLe.none _ | exact LeH.refl _ | exact LeL.refl _ | exact AV.le.bs _ | exact AV.le.sb _ | omega | contradiction
      | false =>
        repeat' (first | refine wC (by first | omega | (simp only [W1, cond_true, cond_false, k1]; first | done | omega)) ?_ | refine wT (by first | omega | (simp only [W1, cond_true, cond_false, k1]; first | done | omega)) ?_ | refine wF (by intro _h; first | omega | (simp only [W1, cond_true, cond_false, k1] at _h; first | done | omega)) ?_ | (refine wS ?_ ?_ <;> intro _h <;> simp only [W1, cond_true, cond_false, k1] at _h))
        all_goals simp only [W1, W2, owesN, owesX, owesR, cond_true, cond_false, k1]
        repeat' (first | apply And.intro | intro _hc)
        all_goals first | exact leI rfl | exact AV.le_refl _ | exact AV.le_any _ | exact OLe.refl _ | exact OLe.none _ | exact LeH.refl _ | exact LeL.refl _ | exact AV.le.bs _ | exact AV.le.sb _ | omega | contradiction
    by_cases k2 : x.k = 2
    · have hB : txB x = ((nameB x.fr && (decide (1 ≤ x.nn) && decide (x.nn ≤ 4611686018427387904))) && (nameB x.ky && (valueB x.vl && (emp x.to && decide (x.am = 0))))) := by
        unfold txB; rw [if_neg k1, if_pos k2]; rfl
      rw [← hB]
      cases txB x with
      | true =>
        repeat' (first | refine wC (by first | omega | (simp only [W1, cond_true, cond_false, k1]; first | done | omega)) ?_ | refine wT (by first | omega | (simp only [W1, cond_true, cond_false, k1]; first | done | omega)) ?_ | refine wF (by intro _h; first | omega | (simp only [W1, cond_true, cond_false, k1] at _h; first | done | omega)) ?_ | (refine wS ?_ ?_ <;> intro _h <;> simp only [W1, cond_true, cond_false, k1] at _h))
        all_goals simp only [W1, W2, owesN, owesX, owesR, cond_true, cond_false, k1]
        repeat' (first | apply And.intro | intro _hc)
        all_goals first | exact leI rfl | exact AV.le_refl _ | exact AV.le_any _ | exact OLe.refl _ | exact OLe.none _ | exact LeH.refl _ | exact LeL.refl _ | exact AV.le.bs _ | exact AV.le.sb _ | omega | contradiction
      | false =>
        repeat' (first | refine wC (by first | omega | (simp only [W1, cond_true, cond_false, k1]; first | done | omega)) ?_ | refine wT (by first | omega | (simp only [W1, cond_true, cond_false, k1]; first | done | omega)) ?_ | refine wF (by intro _h; first | omega | (simp only [W1, cond_true, cond_false, k1] at _h; first | done | omega)) ?_ | (refine wS ?_ ?_ <;> intro _h <;> simp only [W1, cond_true, cond_false, k1] at _h))
        all_goals simp only [W1, W2, owesN, owesX, owesR, cond_true, cond_false, k1]
        repeat' (first | apply And.intro | intro _hc)
        all_goals first | exact leI rfl | exact AV.le_refl _ | exact AV.le_any _ | exact OLe.refl _ | exact OLe.none _ | exact LeH.refl _ | exact LeL.refl _ | exact AV.le.bs _ | exact AV.le.sb _ | omega | contradiction
    · have hB : txB x = false := by
        unfold txB; rw [if_neg k1, if_neg k2, Bool.and_false]
      rw [hB]
      repeat' (first | refine wC (by first | omega | (simp only [W1, cond_true, cond_false, k1]; first | done | omega)) ?_ | refine wT (by first | omega | (simp only [W1, cond_true, cond_false, k1]; first | done | omega)) ?_ | refine wF (by intro _h; first | omega | (simp only [W1, cond_true, cond_false, k1] at _h; first | done | omega)) ?_ | (refine wS ?_ ?_ <;> intro _h <;> simp only [W1, cond_true, cond_false, k1] at _h))
      all_goals simp only [W1, W2, owesN, owesX, owesR, cond_true, cond_false, k1]
      repeat' (first | apply And.intro | intro _hc)
      all_goals first | exact leI rfl | exact AV.le_refl _ | exact AV.le_any _ | exact OLe.refl _ | exact OLe.none _ | exact LeH.refl _ | exact LeL.refl _ | exact AV.le.bs _ | exact AV.le.sb _ | omega | contradiction
noncomputable def kTx : CT Tryd.prog Γm := CT.oTx 32 Tryd.func32 (by kernel_rfl) (by kernel_rfl) smallT (fun x => .v (.int .i64 (erT (txB x)))) (fun x h => ansTx h)
theorem ansTxR {x : Tx} (h : smallT x) : Answers Tryd.prog Γm 33 [txV x] [] (.sb (txB x)) [] [] :=
  answers (fn := Tryd.f33) (c := bodyOf Tryd.f33) (ntmps := 66) (results := [.tmp 2]) [kChkR, kValR] Lno false Tryd.func33 (by kernel_rfl) (by kernel_rfl) (by kernel_rfl) (by kernel_rfl) (by simp) rfl (noLoops (by kernel_rfl)) <| Meets.of (runTxR x) <| by
    obtain ⟨s1, s2, s3, s4⟩ := h
    simp (disch := omega) only [clS, condSelf, condB, empE, Bool.and_true]
    by_cases hn : (nameB x.fr && (decide (1 ≤ x.nn) && decide (x.nn ≤ 4611686018427387904))) = true
    · have hB : txB x = (if x.k = 1 then okM x else if x.k = 2 then okP x else false) := by
        unfold txB; rw [hn, Bool.true_and]
      simp only [Bool.and_eq_true, decide_eq_true_eq] at hn
      obtain ⟨n1, n2, n3⟩ := hn
      rw [hB]
      by_cases k1 : x.k = 1
      · rw [if_pos k1]
        repeat' (first | refine wC (by first | omega | (simp only [W1, cond_true, cond_false, n1, k1]; first | done | omega)) ?_ | refine wT (by first | omega | (simp only [W1, cond_true, cond_false, n1, k1]; first | done | omega)) ?_ | refine wF (by intro _h; first | omega | (simp only [W1, cond_true, cond_false, n1, k1] at _h; first | done | omega)) ?_ | (refine wS ?_ ?_ <;> intro _h <;> simp only [W1, cond_true, cond_false, n1, k1] at _h))
        all_goals simp only [W1, W2, owesN, owesX, owesR, cond_true, cond_false, n1, k1]
        repeat' (first | apply And.intro | intro _hc)
        all_goals first | exact leB' (by unfold okM; simp only [Bool.and_assoc]) | exact AV.le_refl _ | exact AV.le_any _ | exact OLe.refl _ | exact OLe.none _ | exact LeH.refl _ | exact LeL.refl _ | exact AV.le.bs _ | exact AV.le.sb _ | omega | contradiction
      · rw [if_neg k1]
        by_cases k2 : x.k = 2
        · rw [if_pos k2]
          have q : decide ((2 : Int) = 2) = true := rfl
          have q1 : ¬ ((2 : Int) = 1) := by decide
          repeat' (first | refine wC (by first | omega | (simp only [W1, cond_true, cond_false, n1, k2, q, q1, decide_true]; first | done | omega)) ?_ | refine wT (by first | omega | (simp only [W1, cond_true, cond_false, n1, k2, q, q1, decide_true]; first | done | omega)) ?_ | refine wF (by intro _h; first | omega | (simp only [W1, cond_true, cond_false, n1, k2, q, q1, decide_true] at _h; first | done | omega)) ?_ | (refine wS ?_ ?_ <;> intro _h <;> simp only [W1, cond_true, cond_false, n1, k2, q, q1, decide_true] at _h))
          all_goals simp only [W1, W2, owesN, owesX, owesR, cond_true, cond_false, n1, k2, q, q1, decide_true]
          repeat' (first | apply And.intro | intro _hc)
          all_goals first | exact leB' rfl | exact AV.le_refl _ | exact AV.le_any _ | exact OLe.refl _ | exact OLe.none _ | exact LeH.refl _ | exact LeL.refl _ | exact AV.le.bs _ | exact AV.le.sb _ | omega | contradiction
        · rw [if_neg k2]
          have q : decide (x.k = 2) = false := decide_eq_false k2
          repeat' (first | refine wC (by first | omega | (simp only [W1, cond_true, cond_false, n1, k1, q]; first | done | omega)) ?_ | refine wT (by first | omega | (simp only [W1, cond_true, cond_false, n1, k1, q]; first | done | omega)) ?_ | refine wF (by intro _h; first | omega | (simp only [W1, cond_true, cond_false, n1, k1, q] at _h; first | done | omega)) ?_ | (refine wS ?_ ?_ <;> intro _h <;> simp only [W1, cond_true, cond_false, n1, k1, q] at _h))
          all_goals simp only [W1, W2, owesN, owesX, owesR, cond_true, cond_false, n1, k1, q]
          repeat' (first | apply And.intro | intro _hc)
          all_goals first | exact leB' rfl | exact AV.le_refl _ | exact AV.le_any _ | exact OLe.refl _ | exact OLe.none _ | exact LeH.refl _ | exact LeL.refl _ | exact AV.le.bs _ | exact AV.le.sb _ | omega | contradiction
    · have hn : (nameB x.fr && (decide (1 ≤ x.nn) && decide (x.nn ≤ 4611686018427387904))) = false := by simpa using hn
      have hB : txB x = false := by unfold txB; rw [hn, Bool.false_and]
      rw [hB]
      cases h1 : nameB x.fr with
      | true =>
        rw [h1, Bool.true_and] at hn
        have hn : ¬ (1 ≤ x.nn ∧ x.nn ≤ 4611686018427387904) := fun h => by rw [decide_eq_true h.1, decide_eq_true h.2] at hn; cases hn
        repeat' (first | refine wC (by first | omega | (simp only [W1, cond_true, cond_false, h1]; first | done | omega)) ?_ | refine wT (by first | omega | (simp only [W1, cond_true, cond_false, h1]; first | done | omega)) ?_ | refine wF (by intro _h; first | omega | (simp only [W1, cond_true, cond_false, h1] at _h; first | done | omega)) ?_ | (refine wS ?_ ?_ <;> intro _h <;> simp only [W1, cond_true, cond_false, h1] at _h))
        all_goals simp only [W1, W2, owesN, owesX, owesR, cond_true, cond_false, h1]
        repeat' (first | apply And.intro | intro _hc)
        all_goals first | exact leB rfl | exact AV.le_refl _ | exact AV.le_any _ | exact OLe.refl _ | exact OLe.none _ | exact LeH.refl _ | exact LeL.refl _ | exact AV.le.bs _ | exact AV.le.sb _ | omega | contradiction
      | false =>
        repeat' (first | refine wC (by first | omega | (simp only [W1, cond_true, cond_false, h1]; first | done | omega)) ?_ | refine wT (by first | omega | (simp only [W1, cond_true, cond_false, h1]; first | done | omega)) ?_ | refine wF (by intro _h; first | omega | (simp only [W1, cond_true, cond_false, h1] at _h; first | done | omega)) ?_ | (refine wS ?_ ?_ <;> intro _h <;> simp only [W1, cond_true, cond_false, h1] at _h))
        all_goals simp only [W1, W2, owesN, owesX, owesR, cond_true, cond_false, h1]
        repeat' (first | apply And.intro | intro _hc)
        all_goals first | exact leB rfl | exact AV.le_refl _ | exact AV.le_any _ | exact OLe.refl _ | exact OLe.none _ | exact LeH.refl _ | exact LeL.refl _ | exact AV.le.bs _ | exact AV.le.sb _ | omega | contradiction
noncomputable def kTxR : CT Tryd.prog Γm := CT.oTx 33 Tryd.func33 (by kernel_rfl) (by kernel_rfl) smallT (fun x => .sb (txB x)) (fun x h => ansTxR h)
def grT (x : Tx) : Bool := decide (1000 < x.fr.size ∨ 1000 < x.to.size ∨ 1000 < x.ky.size ∨ 1000 < x.vl.size)
theorem ansGr {x : Tx} : Answers Tryd.prog Γm 29 [txV x] [] (.sb (grT x)) [] [] :=
  answers (fn := Tryd.f29) (c := bodyOf Tryd.f29) (ntmps := 25) (results := [.tmp 2]) [] Lno false Tryd.func29 (by kernel_rfl) (by kernel_rfl) (by kernel_rfl) (by kernel_rfl) (by simp) rfl (noLoops (by kernel_rfl)) <| Meets.of (runGr x) <| by
    have e : grT x = (bif decide ((1000 : Int) < (x.fr.size : Int)) then true else bif decide ((1000 : Int) < (x.to.size : Int)) then true else bif decide ((1000 : Int) < (x.ky.size : Int)) then true else decide ((1000 : Int) < (x.vl.size : Int))) := by
      unfold grT
      simp only [Bool.cond_true_left]
      rw [Bool.eq_iff_iff]
      simp only [decide_eq_true_eq, Bool.or_eq_true]
      omega
    exact ⟨leB' e.symm, trivial⟩
noncomputable def kGr : CT Tryd.prog Γm := CT.oTx 29 Tryd.func29 (by kernel_rfl) (by kernel_rfl) (fun _ => True) (fun x => .sb (grT x)) (fun x _ => ansGr)
end Go.Eng.TA

/- lists of transactions: contains, has, great, same. -/
namespace Go.Eng.TA
open Go Go.Eng Go.Eng.M Go.Lib Go.Proofs
set_option linter.unusedSimpArgs false
set_option linter.unusedVariables false
abbrev txB' (l : List Tx) : Blk := .arr 7 l.length (lsF Tx.c l)
/-- are two the same? -/
def eqT (a b : Tx) : Bool := decide (a.k = b.k) && (decide (a.fr = b.fr) && (decide (a.to = b.to) && (decide (a.ky = b.ky) && (decide (a.vl = b.vl) && (decide (a.am = b.am) && decide (a.nn = b.nn))))))
theorem eqT_iff {a b : Tx} : eqT a b = true ↔ a = b := by
  unfold eqT
  simp only [Bool.and_eq_true, decide_eq_true_eq]
  constructor
  · rintro ⟨h1, h2, h3, h4, h5, h6, h7⟩
    cases a; cases b
    simp_all
  · rintro rfl; simp
theorem eqT_symm (a b : Tx) : eqT a b = eqT b a := by
  rw [Bool.eq_iff_iff, eqT_iff, eqT_iff]; exact eq_comm
theorem Tx.c_inj {a b : Tx} (h : Tx.c a = Tx.c b) : a = b := by
  cases a; cases b
  simp only [Tx.c, List.cons.injEq, AV.v.injEq, Value.int.injEq, Value.string.injEq, true_and, and_true] at h
  obtain ⟨h1, h2, h3, h4, h5, h6, h7⟩ := h
  subst h1; subst h2; subst h3; subst h4; subst h5; subst h6; subst h7; rfl
def isTx (f : Nat → List AV) : Prop := ∀ e, ∃ u : Tx, f e = Tx.c u
theorem isTx_ls (l : List Tx) : isTx (lsF Tx.c l) := fun e => ⟨_, rfl⟩
theorem isTx_g {f : Nat → List AV} (h : isTx f) : ∃ g : Nat → Tx, f = fun e => Tx.c (g e) :=
  ⟨fun e => (h e).choose, funext fun e => (h e).choose_spec⟩
def hasT (l : List Tx) (t : Tx) : Bool := l.any fun u => eqT u t
noncomputable def hasF (n : Nat) (f : Nat → List AV) (t : Tx) : Bool := cl (∃ e, e < n ∧ f e = Tx.c t)
theorem hasF_iff {n : Nat} {g : Nat → Tx} {t : Tx} : hasF n (fun e => Tx.c (g e)) t = true ↔ ∃ e, e < n ∧ g e = t := by
  unfold hasF
  rw [cl_iff]
  exact ⟨fun ⟨e, h1, h2⟩ => ⟨e, h1, Tx.c_inj h2⟩, fun ⟨e, h1, h2⟩ => ⟨e, h1, congrArg Tx.c h2⟩⟩
theorem hasT_iff {l : List Tx} {t : Tx} : hasT l t = true ↔ t ∈ l := by
  unfold hasT
  rw [List.any_eq_true]
  exact ⟨fun ⟨u, h1, h2⟩ => by rw [eqT_iff] at h2; rw [← h2]; exact h1, fun h => ⟨t, h, eqT_iff.2 rfl⟩⟩
theorem hasF_ls {l junk : List Tx} {t : Tx} : hasF l.length (lsF Tx.c (l ++ junk)) t = hasT l t := by
  rw [Bool.eq_iff_iff, hasT_iff]
  show hasF l.length (fun e => Tx.c ((l ++ junk).getD e default)) t = true ↔ _
  rw [hasF_iff, List.mem_iff_getElem]
  constructor
  · rintro ⟨e, h1, h2⟩
    rw [getD_app h1, getD_get h1] at h2
    exact ⟨e, h1, h2⟩
  · rintro ⟨e, h1, h2⟩
    exact ⟨e, h1, by rw [getD_app h1, getD_get h1]; exact h2⟩
theorem hasF_l {l : List Tx} {t : Tx} : hasF l.length (lsF Tx.c l) t = hasT l t := by
  have := hasF_ls (l := l) (junk := []) (t := t)
  rw [List.append_nil] at this
  exact this
/-! ### Index, Contains -/
noncomputable abbrev lpIx : Code := loopOf (bodyOf Tryd.f117) 0
abbrev lvIx : List Nat := [0, 3, 7, 8, 4]
def slI (n : Nat) (g : Nat → Tx) : AV := .sl 7 n fun e => Tx.c (g e)
def SIx (n : Nat) (g : Nat → Tx) (t : Tx) (i : Nat) : List AV × Heap := ([slI n g, .ptr 0 0, .v (.int .i64 (n : Int)), .v (.int .i64 (i : Int)), .any], [some (.row t.c)])
def SIxH (N n : Nat) (g : Nat → Tx) (t : Tx) (i : Nat) : List AV × Heap := ([.hs 0 0 n, .ptr 1 0, .v (.int .i64 (n : Int)), .v (.int .i64 (i : Int)), .any], [some (.arr 7 N fun e => Tx.c (g e)), some (.row t.c)])
/-- where the first one stands, from a place on -/
def ixF (n : Nat) (g : Nat → Tx) (t : Tx) : Nat → Nat → Int
  | 0, _ => -1
  | k + 1, i => if i < n then (if eqT t (g i) then (i : Int) else ixF n g t k (i + 1)) else -1
def ix (n : Nat) (g : Nat → Tx) (t : Tx) (i : Nat) : Int := ixF n g t (n - i) i
theorem ix_step {n : Nat} {g : Nat → Tx} {t : Tx} {i : Nat} (h : i < n) : ix n g t i = if eqT t (g i) then (i : Int) else ix n g t (i + 1) := by
  unfold ix
  obtain ⟨k, hk⟩ : ∃ k, n - i = k + 1 := ⟨n - i - 1, by omega⟩
  rw [hk, ixF, if_pos h, show n - (i + 1) = k by omega]
theorem ix_end {n : Nat} {g : Nat → Tx} {t : Tx} {i : Nat} (h : n ≤ i) : ix n g t i = -1 := by
  unfold ix
  rw [show n - i = 0 by omega]; rfl
theorem ix_has {n : Nat} {g : Nat → Tx} {t : Tx} : ∀ {k i : Nat}, n - i ≤ k → (0 ≤ ix n g t i ↔ ∃ e, i ≤ e ∧ e < n ∧ g e = t) := by
  intro k
  induction k with
  | zero =>
    intro i h
    rw [ix_end (by omega)]
    exact ⟨fun h => by omega, fun ⟨e, h1, h2, _⟩ => by omega⟩
  | succ k ih =>
    intro i h
    by_cases hi : i < n
    · rw [ix_step hi]
      by_cases he : eqT t (g i) = true
      · rw [if_pos he]
        exact ⟨fun _ => ⟨i, Nat.le_refl _, hi, (eqT_iff.1 he).symm⟩, fun _ => by omega⟩
      · rw [if_neg he, ih (by omega)]
        refine ⟨fun ⟨e, h1, h2, h3⟩ => ⟨e, by omega, h2, h3⟩, fun ⟨e, h1, h2, h3⟩ => ⟨e, ?_, h2, h3⟩⟩
        rcases Nat.lt_or_ge i e with h4 | h4
        · exact h4
        · obtain rfl : i = e := by omega
          exact absurd (eqT_iff.2 h3.symm) he
    · rw [ix_end (by omega)]
      exact ⟨fun h => by omega, fun ⟨e, h1, h2, _⟩ => by omega⟩
theorem ix_hasF {n : Nat} {g : Nat → Tx} {t : Tx} : decide (0 ≤ ix n g t 0) = hasF n (fun e => Tx.c (g e)) t := by
  rw [Bool.eq_iff_iff, decide_eq_true_eq, hasF_iff, ix_has (k := n) (by omega)]
  exact ⟨fun ⟨e, _, h2, h3⟩ => ⟨e, h2, h3⟩, fun ⟨e, h2, h3⟩ => ⟨e, Nat.zero_le _, h2, h3⟩⟩
def OIx (H : Heap) (v : Int) : Out := if v = -1 then ⟨.exit 0, [.any, .any, .any, .any, .any], H⟩ else ⟨.ret, [.any, .any, .any, .any, .v (.int .i64 v)], H⟩
theorem rIx (n : Nat) (g : Nat → Tx) (t : Tx) (i : Nat) : roundE (P := Tryd.prog) (Γ := Γm) [] Lno false 0 0 lpIx lvIx [] 19 (SIx n g t i).1 (SIx n g t i).2 =
  Tree.br (decide ((↑i : Int) < (↑n : Int))) (.chk (decide ((0 : Int) ≤ (↑i : Int)) && decide ((↑i : Int) < (↑n : Int))) (.br (decide (t.k = (g (Int.toNat ↑i)).k) && (decide (t.fr = (g 
    (Int.toNat ↑i)).fr) && (decide (t.to = (g (Int.toNat ↑i)).to) && (decide (t.ky = (g (Int.toNat ↑i)).ky) && (decide (t.vl = (g (Int.toNat ↑i)).vl) && (decide (t.am = (g (Int.toNat 
    ↑i)).am) && decide (t.nn = (g (Int.toNat ↑i)).nn))))))) (.leaf (.mk .ret [.sl 7 n fun e => Tx.c (g e), .ptr 0 0, .v (.int .i64 (↑n : Int)), .v (.int .i64 (↑i : Int)), .v (.int .i64 
    (↑i : Int))] [some (.row [.v (.int .i64 t.k), .v (.string t.fr), .v (.string t.to), .v (.string t.ky), .v (.string t.vl), .v (.int .i64 t.am), .v (.int .i64 t.nn)])])) (.leaf (.mk 
    .normal [.sl 7 n fun e => Tx.c (g e), .ptr 0 0, .v (.int .i64 (↑n : Int)), .v (.int .i64 (IntKind.wrap IntKind.i64 ((↑i : Int) + (1 : Int)))), .any] [some (.row [.v (.int .i64 
    t.k), .v (.string t.fr), .v (.string t.to), .v (.string t.ky), .v (.string t.vl), .v (.int .i64 t.am), .v (.int .i64 t.nn)])])))) (.leaf (.mk (.exit 0) [.sl 7 n fun e => Tx.c (g 
    e), .ptr 0 0, .v (.int .i64 (↑n : Int)), .v (.int .i64 (↑i : Int)), .any] [some (.row [.v (.int .i64 t.k), .v (.string t.fr), .v (.string t.to), .v (.string t.ky), .v (.string 
    t.vl), .v (.int .i64 t.am), .v (.int .i64 t.nn)])])) := by kernel_rfl
theorem rIxH (N n : Nat) (g : Nat → Tx) (t : Tx) (i : Nat) : roundE (P := Tryd.prog) (Γ := Γm) [] Lno false 1 0 lpIx lvIx [] 19 (SIxH N n g t i).1 (SIxH N n g t i).2 =
  Tree.br (decide ((↑i : Int) < (↑n : Int))) (.chk (decide ((0 : Int) ≤ (↑i : Int)) && decide ((↑i : Int) < (↑n : Int))) (.br (decide (t.k = (g ((0 : Nat) + Int.toNat ↑i)).k) && (decide 
    (t.fr = (g ((0 : Nat) + Int.toNat ↑i)).fr) && (decide (t.to = (g ((0 : Nat) + Int.toNat ↑i)).to) && (decide (t.ky = (g ((0 : Nat) + Int.toNat ↑i)).ky) && (decide (t.vl = (g ((0 : 
    Nat) + Int.toNat ↑i)).vl) && (decide (t.am = (g ((0 : Nat) + Int.toNat ↑i)).am) && decide (t.nn = (g ((0 : Nat) + Int.toNat ↑i)).nn))))))) (.leaf (.mk .ret [.hs 0 0 n, .ptr 1 0, .v 
    (.int .i64 (↑n : Int)), .v (.int .i64 (↑i : Int)), .v (.int .i64 (↑i : Int))] [some (.arr 7 N fun e => Tx.c (g e)), some (.row [.v (.int .i64 t.k), .v (.string t.fr), .v (.string 
    t.to), .v (.string t.ky), .v (.string t.vl), .v (.int .i64 t.am), .v (.int .i64 t.nn)])])) (.leaf (.mk .normal [.hs 0 0 n, .ptr 1 0, .v (.int .i64 (↑n : Int)), .v (.int .i64 
    (IntKind.wrap IntKind.i64 ((↑i : Int) + (1 : Int)))), .any] [some (.arr 7 N fun e => Tx.c (g e)), some (.row [.v (.int .i64 t.k), .v (.string t.fr), .v (.string t.to), .v (.string 
    t.ky), .v (.string t.vl), .v (.int .i64 t.am), .v (.int .i64 t.nn)])])))) (.leaf (.mk (.exit 0) [.hs 0 0 n, .ptr 1 0, .v (.int .i64 (↑n : Int)), .v (.int .i64 (↑i : Int)), .any] 
    [some (.arr 7 N fun e => Tx.c (g e)), some (.row [.v (.int .i64 t.k), .v (.string t.fr), .v (.string t.to), .v (.string t.ky), .v (.string t.vl), .v (.int .i64 t.am), .v (.int .i64 
    t.nn)])])) := by kernel_rfl
theorem eqTe (a b : Tx) : (decide (a.k = b.k) && (decide (a.fr = b.fr) && (decide (a.to = b.to) && (decide (a.ky = b.ky) && (decide (a.vl = b.vl) && (decide (a.am = b.am) && decide (a.nn = b.nn))))))) = eqT a b := rfl
theorem loopIx {n : Nat} {g : Nat → Tx} {t : Tx} (hs : n ≤ 1000000000) {v : Int} : ∀ i : Nat, (i ≤ n ∧ ix n g t i = v) → LoopOK Tryd.prog Γm 0 19 lpIx (LSpec.at lvIx [] (SIx n g t i) (OIx [none] v)) := by
  refine loop_at (S := SIx n g t) (O := fun _ => OIx [none] v) (k := 0) (fun i => n - i) fun i hp => .of (noLoops (by kernel_rfl)) (rIx n g t i) ?_
  obtain ⟨h1, h2⟩ := hp
  rcases Nat.lt_or_ge i n with hi | hi
  · rw [ix_step hi] at h2
    cases he : eqT t (g i) with
    | true =>
      rw [he, if_pos rfl] at h2
      subst h2
      unfold OIx
      rw [if_neg (by omega)]
      repeat' (first | refine wC (by first | omega | (simp only [W1, cond_true, cond_false, eqTe, he]; first | done | omega)) ?_ | refine wT (by first | omega | (simp only [W1, cond_true, cond_false, eqTe, he]; first | done | omega)) ?_ | refine wF (by intro _h; first | omega | (simp only [W1, cond_true, cond_false, eqTe, he] at _h; first | done | omega)) ?_ | (refine wS ?_ ?_ <;> intro _h <;> simp only [W1, cond_true, cond_false, eqTe, he] at _h))
      all_goals simp only [W1, W2, owesN, owesX, owesR, cond_true, cond_false, eqTe, he]
      repeat' (first | apply And.intro | intro _hc)
      all_goals first | exact rfl | exact AV.le_refl _ | exact AV.le_any _ | exact OLe.refl _ | exact OLe.none _ | exact LeH.refl _ | exact LeL.refl _ | exact AV.le.bs _ | exact AV.le.sb _ | omega | contradiction
    | false =>
      rw [he, if_neg (by decide)] at h2
      repeat' (first | refine wC (by first | omega | (simp only [W1, cond_true, cond_false, eqTe, he, wrapUpN (show i ≤ 10000000000 by omega)]; first | done | omega)) ?_ | refine wT (by first | omega | (simp only [W1, cond_true, cond_false, eqTe, he, wrapUpN (show i ≤ 10000000000 by omega)]; first | done | omega)) ?_ | refine wF (by intro _h; first | omega | (simp only [W1, cond_true, cond_false, eqTe, he, wrapUpN (show i ≤ 10000000000 by omega)] at _h; first | done | omega)) ?_ | (refine wS ?_ ?_ <;> intro _h <;> simp only [W1, cond_true, cond_false, eqTe, he, wrapUpN (show i ≤ 10000000000 by omega)] at _h))
      all_goals simp only [W1, W2, owesN, owesX, owesR, cond_true, cond_false, eqTe, he, wrapUpN (show i ≤ 10000000000 by omega)]
      repeat' (first | apply And.intro | intro _hc)
      all_goals first | exact ⟨i + 1, LeL.refl _, LeH.refl _, ⟨hi, h2⟩, by omega⟩ | exact AV.le_refl _ | exact AV.le_any _ | exact OLe.refl _ | exact OLe.none _ | exact LeH.refl _ | exact LeL.refl _ | exact AV.le.bs _ | exact AV.le.sb _ | omega | contradiction
  · rw [ix_end hi] at h2
    subst h2
    unfold OIx
    rw [if_pos rfl]
    repeat' (first | refine wC (by first | omega | (simp only [W1, cond_true, cond_false]; first | done | omega)) ?_ | refine wT (by first | omega | (simp only [W1, cond_true, cond_false]; first | done | omega)) ?_ | refine wF (by intro _h; first | omega | (simp only [W1, cond_true, cond_false] at _h; first | done | omega)) ?_ | (refine wS ?_ ?_ <;> intro _h <;> simp only [W1, cond_true, cond_false] at _h))
    all_goals simp only [W1, W2, owesN, owesX, owesR, cond_true, cond_false]
    repeat' (first | apply And.intro | intro _hc)
    all_goals first | exact rfl | exact AV.le_refl _ | exact AV.le_any _ | exact OLe.refl _ | exact OLe.none _ | exact LeH.refl _ | exact LeL.refl _ | exact AV.le.bs _ | exact AV.le.sb _ | omega | contradiction
theorem loopIxH {N n : Nat} {g : Nat → Tx} {t : Tx} (hn : n ≤ N) (hs : n ≤ 1000000000) {v : Int} : ∀ i : Nat, (i ≤ n ∧ ix n g t i = v) → LoopOK Tryd.prog Γm 1 19 lpIx (LSpec.at lvIx [] (SIxH N n g t i) (OIx [some (.arr 7 N fun e => Tx.c (g e)), none] v)) := by
  refine loop_at (S := SIxH N n g t) (O := fun _ => OIx [some (.arr 7 N fun e => Tx.c (g e)), none] v) (k := 0) (fun i => n - i) fun i hp => .of (noLoops (by kernel_rfl)) (rIxH N n g t i) ?_
  obtain ⟨h1, h2⟩ := hp
  rcases Nat.lt_or_ge i n with hi | hi
  · rw [ix_step hi] at h2
    cases he : eqT t (g i) with
    | true =>
      rw [he, if_pos rfl] at h2
      subst h2
      unfold OIx
      rw [if_neg (by omega)]
      repeat' (first | refine wC (by first | omega | (simp only [W1, cond_true, cond_false, eqTe, he]; first | done | omega)) ?_ | refine wT (by first | omega | (simp only [W1, cond_true, cond_false, eqTe, he]; first | done | omega)) ?_ | refine wF (by intro _h; first | omega | (simp only [W1, cond_true, cond_false, eqTe, he] at _h; first | done | omega)) ?_ | (refine wS ?_ ?_ <;> intro _h <;> simp only [W1, cond_true, cond_false, eqTe, he] at _h))
      all_goals simp only [W1, W2, owesN, owesX, owesR, cond_true, cond_false, eqTe, he]
      repeat' (first | apply And.intro | intro _hc)
      all_goals first | exact rfl | exact AV.le_refl _ | exact AV.le_any _ | exact OLe.refl _ | exact OLe.none _ | exact LeH.refl _ | exact LeL.refl _ | exact AV.le.bs _ | exact AV.le.sb _ | omega | contradiction
    | false =>
      rw [he, if_neg (by decide)] at h2
      repeat' (first | refine wC (by first | omega | (simp only [W1, cond_true, cond_false, eqTe, he, wrapUpN (show i ≤ 10000000000 by omega)]; first | done | omega)) ?_ | refine wT (by first | omega | (simp only [W1, cond_true, cond_false, eqTe, he, wrapUpN (show i ≤ 10000000000 by omega)]; first | done | omega)) ?_ | refine wF (by intro _h; first | omega | (simp only [W1, cond_true, cond_false, eqTe, he, wrapUpN (show i ≤ 10000000000 by omega)] at _h; first | done | omega)) ?_ | (refine wS ?_ ?_ <;> intro _h <;> simp only [W1, cond_true, cond_false, eqTe, he, wrapUpN (show i ≤ 10000000000 by omega)] at _h))
      all_goals simp only [W1, W2, owesN, owesX, owesR, cond_true, cond_false, eqTe, he, wrapUpN (show i ≤ 10000000000 by omega)]
      repeat' (first | apply And.intro | intro _hc)
      all_goals first | exact ⟨i + 1, LeL.refl _, LeH.refl _, ⟨hi, h2⟩, by omega⟩ | exact AV.le_refl _ | exact AV.le_any _ | exact OLe.refl _ | exact OLe.none _ | exact LeH.refl _ | exact LeL.refl _ | exact AV.le.bs _ | exact AV.le.sb _ | omega | contradiction
  · rw [ix_end hi] at h2
    subst h2
    unfold OIx
    rw [if_pos rfl]
    repeat' (first | refine wC (by first | omega | (simp only [W1, cond_true, cond_false]; first | done | omega)) ?_ | refine wT (by first | omega | (simp only [W1, cond_true, cond_false]; first | done | omega)) ?_ | refine wF (by intro _h; first | omega | (simp only [W1, cond_true, cond_false] at _h; first | done | omega)) ?_ | (refine wS ?_ ?_ <;> intro _h <;> simp only [W1, cond_true, cond_false] at _h))
    all_goals simp only [W1, W2, owesN, owesX, owesR, cond_true, cond_false]
    repeat' (first | apply And.intro | intro _hc)
    all_goals first | exact rfl | exact AV.le_refl _ | exact AV.le_any _ | exact OLe.refl _ | exact OLe.none _ | exact LeH.refl _ | exact LeL.refl _ | exact AV.le.bs _ | exact AV.le.sb _ | omega | contradiction
end Go.Eng.TA

/- lists of transactions: contains, has: contracts. -/
namespace Go.Eng.TA
open Go Go.Eng Go.Eng.M Go.Lib Go.Proofs
set_option linter.unusedSimpArgs false
set_option linter.unusedVariables false
theorem runIx1 (n : Nat) (g : Nat → Tx) (t : Tx) : bodyE (P := Tryd.prog) (Γ := Γm) [] (fun _ => LSpec.at lvIx [] (SIx n g t 0) ⟨.exit 0, [.any, .any, .any, .any, .any], [none]⟩) false 19 [.tmp 4] (bodyOf Tryd.f117) [slI n g, txV t] [] =
  Tree.chk (cl (LeL [.sl 7 n fun e => Tx.c (g e), .ptr 0 0, .v (.int .i64 (↑n : Int)), .v (.int .i64 (0 : Int)), .v (.int .i64 (0 : Int))] [.sl 7 n fun e => Tx.c (g e), .ptr 0 0, .v (.int 
    .i64 (↑n : Int)), .v (.int .i64 (↑(0 : Nat) : Int)), .any] ∧ LeH [some (.row [.v (.int .i64 t.k), .v (.string t.fr), .v (.string t.to), .v (.string t.ky), .v (.string t.vl), .v 
    (.int .i64 t.am), .v (.int .i64 t.nn)])] [some (.row [.v (.int .i64 t.k), .v (.string t.fr), .v (.string t.to), .v (.string t.ky), .v (.string t.vl), .v (.int .i64 t.am), .v (.int 
    .i64 t.nn)])])) (.leaf (Ans.mk (.v (.int .i64 (-1 : Int))) [])) := by kernel_rfl
theorem runIx2 (n : Nat) (g : Nat → Tx) (t : Tx) (v : Int) : bodyE (P := Tryd.prog) (Γ := Γm) [] (fun _ => LSpec.at lvIx [] (SIx n g t 0) ⟨.ret, [.any, .any, .any, .any, .v (.int .i64 v)], [none]⟩) false 19 [.tmp 4] (bodyOf Tryd.f117) [slI n g, txV t] [] =
  Tree.chk (cl (LeL [.sl 7 n fun e => Tx.c (g e), .ptr 0 0, .v (.int .i64 (↑n : Int)), .v (.int .i64 (0 : Int)), .v (.int .i64 (0 : Int))] [.sl 7 n fun e => Tx.c (g e), .ptr 0 0, .v (.int 
    .i64 (↑n : Int)), .v (.int .i64 (↑(0 : Nat) : Int)), .any] ∧ LeH [some (.row [.v (.int .i64 t.k), .v (.string t.fr), .v (.string t.to), .v (.string t.ky), .v (.string t.vl), .v 
    (.int .i64 t.am), .v (.int .i64 t.nn)])] [some (.row [.v (.int .i64 t.k), .v (.string t.fr), .v (.string t.to), .v (.string t.ky), .v (.string t.vl), .v (.int .i64 t.am), .v (.int 
    .i64 t.nn)])])) (.leaf (Ans.mk (.v (.int .i64 v)) [])) := by kernel_rfl
theorem runIxH1 (N n : Nat) (g : Nat → Tx) (t : Tx) : bodyE (P := Tryd.prog) (Γ := Γm) [] (fun _ => LSpec.at lvIx [] (SIxH N n g t 0) ⟨.exit 0, [.any, .any, .any, .any, .any], [some (.arr 7 N fun e => Tx.c (g e)), none]⟩) false 19 [.tmp 4] (bodyOf Tryd.f117) [.hs 0 0 n, txV t] [.arr 7 N fun e => Tx.c (g e)] =
  Tree.chk (cl (LeL [.hs 0 0 n, .ptr 1 0, .v (.int .i64 (↑n : Int)), .v (.int .i64 (0 : Int)), .v (.int .i64 (0 : Int))] [.hs 0 0 n, .ptr 1 0, .v (.int .i64 (↑n : Int)), .v (.int .i64 (↑(0 : 
    Nat) : Int)), .any] ∧ LeH [some (.arr 7 N fun e => Tx.c (g e)), some (.row [.v (.int .i64 t.k), .v (.string t.fr), .v (.string t.to), .v (.string t.ky), .v (.string t.vl), .v (.int 
    .i64 t.am), .v (.int .i64 t.nn)])] [some (.arr 7 N fun e => Tx.c (g e)), some (.row [.v (.int .i64 t.k), .v (.string t.fr), .v (.string t.to), .v (.string t.ky), .v (.string t.vl), 
    .v (.int .i64 t.am), .v (.int .i64 t.nn)])])) (.leaf (Ans.mk (.v (.int .i64 (-1 : Int))) [some (.arr 7 N fun e => Tx.c (g e))])) := by kernel_rfl
theorem runIxH2 (N n : Nat) (g : Nat → Tx) (t : Tx) (v : Int) : bodyE (P := Tryd.prog) (Γ := Γm) [] (fun _ => LSpec.at lvIx [] (SIxH N n g t 0) ⟨.ret, [.any, .any, .any, .any, .v (.int .i64 v)], [some (.arr 7 N fun e => Tx.c (g e)), none]⟩) false 19 [.tmp 4] (bodyOf Tryd.f117) [.hs 0 0 n, txV t] [.arr 7 N fun e => Tx.c (g e)] =
  Tree.chk (cl (LeL [.hs 0 0 n, .ptr 1 0, .v (.int .i64 (↑n : Int)), .v (.int .i64 (0 : Int)), .v (.int .i64 (0 : Int))] [.hs 0 0 n, .ptr 1 0, .v (.int .i64 (↑n : Int)), .v (.int .i64 (↑(0 : 
    Nat) : Int)), .any] ∧ LeH [some (.arr 7 N fun e => Tx.c (g e)), some (.row [.v (.int .i64 t.k), .v (.string t.fr), .v (.string t.to), .v (.string t.ky), .v (.string t.vl), .v (.int 
    .i64 t.am), .v (.int .i64 t.nn)])] [some (.arr 7 N fun e => Tx.c (g e)), some (.row [.v (.int .i64 t.k), .v (.string t.fr), .v (.string t.to), .v (.string t.ky), .v (.string t.vl), 
    .v (.int .i64 t.am), .v (.int .i64 t.nn)])])) (.leaf (Ans.mk (.v (.int .i64 v)) [some (.arr 7 N fun e => Tx.c (g e))])) := by kernel_rfl
theorem ansIx {n : Nat} {g : Nat → Tx} {t : Tx} (hs : n ≤ 1000000000) : Answers Tryd.prog Γm 117 [slI n g, txV t] [] (.v (.int .i64 (ix n g t 0))) [] [] := by
  have hl := loopIx (g := g) (t := t) hs (v := ix n g t 0) 0 ⟨Nat.zero_le _, rfl⟩
  unfold OIx at hl
  by_cases h : ix n g t 0 = -1
  · rw [if_pos h] at hl
    rw [h]
    refine answers (fn := Tryd.f117) (c := bodyOf Tryd.f117) (ntmps := 19) (results := [.tmp 4]) [] (fun _ => LSpec.at lvIx [] (SIx n g t 0) ⟨.exit 0, [.any, .any, .any, .any, .any], [none]⟩) false Tryd.func117 (by kernel_rfl) (by kernel_rfl) (by kernel_rfl) (by kernel_rfl) (by simp) rfl (oneLoop (b := lpIx) (by kernel_rfl) hl) <| Meets.of (runIx1 n g t) <| ?_
    repeat' (first | refine wC (by first | omega | (simp only [W1, cond_true, cond_false]; first | done | omega)) ?_ | refine wT (by first | omega | (simp only [W1, cond_true, cond_false]; first | done | omega)) ?_ | refine wF (by intro _h; first | omega | (simp only [W1, cond_true, cond_false] at _h; first | done | omega)) ?_ | (refine wS ?_ ?_ <;> intro _h <;> simp only [W1, cond_true, cond_false] at _h))
    all_goals simp only [W1, W2, owesN, owesX, owesR, cond_true, cond_false]
    repeat' (first | apply And.intro | intro _hc)
    all_goals first | exact AV.le_refl _ | exact AV.le_any _ | exact OLe.refl _ | exact OLe.none _ | exact LeH.refl _ | exact LeL.refl _ | exact AV.le.bs _ | exact AV.le.sb _ | omega | contradiction
  · rw [if_neg h] at hl
    refine answers (fn := Tryd.f117) (c := bodyOf Tryd.f117) (ntmps := 19) (results := [.tmp 4]) [] (fun _ => LSpec.at lvIx [] (SIx n g t 0) ⟨.ret, [.any, .any, .any, .any, .v (.int .i64 (ix n g t 0))], [none]⟩) false Tryd.func117 (by kernel_rfl) (by kernel_rfl) (by kernel_rfl) (by kernel_rfl) (by simp) rfl (oneLoop (b := lpIx) (by kernel_rfl) hl) <| Meets.of (runIx2 n g t (ix n g t 0)) <| ?_
    repeat' (first | refine wC (by first | omega | (simp only [W1, cond_true, cond_false]; first | done | omega)) ?_ | refine wT (by first | omega | (simp only [W1, cond_true, cond_false]; first | done | omega)) ?_ | refine wF (by intro _h; first | omega | (simp only [W1, cond_true, cond_false] at _h; first | done | omega)) ?_ | (refine wS ?_ ?_ <;> intro _h <;> simp only [W1, cond_true, cond_false] at _h))
    all_goals simp only [W1, W2, owesN, owesX, owesR, cond_true, cond_false]
    repeat' (first | apply And.intro | intro _hc)
    all_goals first | exact AV.le_refl _ | exact AV.le_any _ | exact OLe.refl _ | exact OLe.none _ | exact LeH.refl _ | exact LeL.refl _ | exact AV.le.bs _ | exact AV.le.sb _ | omega | contradiction
theorem ansIxH {N n : Nat} {g : Nat → Tx} {t : Tx} (hn : n ≤ N) (hs : n ≤ 1000000000) : Answers Tryd.prog Γm 117 [.hs 0 0 n, txV t] [.arr 7 N fun e => Tx.c (g e)] (.v (.int .i64 (ix n g t 0))) [some (.arr 7 N fun e => Tx.c (g e))] [] := by
  have hl := loopIxH (g := g) (t := t) hn hs (v := ix n g t 0) 0 ⟨Nat.zero_le _, rfl⟩
  unfold OIx at hl
  by_cases h : ix n g t 0 = -1
  · rw [if_pos h] at hl
    rw [h]
    refine answers (fn := Tryd.f117) (c := bodyOf Tryd.f117) (ntmps := 19) (results := [.tmp 4]) [] (fun _ => LSpec.at lvIx [] (SIxH N n g t 0) ⟨.exit 0, [.any, .any, .any, .any, .any], [some (.arr 7 N fun e => Tx.c (g e)), none]⟩) false Tryd.func117 (by kernel_rfl) (by kernel_rfl) (by kernel_rfl) (by kernel_rfl) (by simp) rfl (oneLoop (b := lpIx) (by kernel_rfl) hl) <| Meets.of (runIxH1 N n g t) <| ?_
    repeat' (first | refine wC (by first | omega | (simp only [W1, cond_true, cond_false]; first | done | omega)) ?_ | refine wT (by first | omega | (simp only [W1, cond_true, cond_false]; first | done | omega)) ?_ | refine wF (by intro _h; first | omega | (simp only [W1, cond_true, cond_false] at _h; first | done | omega)) ?_ | (refine wS ?_ ?_ <;> intro _h <;> simp only [W1, cond_true, cond_false] at _h))
    all_goals simp only [W1, W2, owesN, owesX, owesR, cond_true, cond_false]
    repeat' (first | apply And.intro | intro _hc)
    all_goals first | exact AV.le_refl _ | exact AV.le_any _ | exact OLe.refl _ | exact OLe.none _ | exact LeH.refl _ | exact LeL.refl _ | exact AV.le.bs _ | exact AV.le.sb _ | omega | contradiction
  · rw [if_neg h] at hl
    refine answers (fn := Tryd.f117) (c := bodyOf Tryd.f117) (ntmps := 19) (results := [.tmp 4]) [] (fun _ => LSpec.at lvIx [] (SIxH N n g t 0) ⟨.ret, [.any, .any, .any, .any, .v (.int .i64 (ix n g t 0))], [some (.arr 7 N fun e => Tx.c (g e)), none]⟩) false Tryd.func117 (by kernel_rfl) (by kernel_rfl) (by kernel_rfl) (by kernel_rfl) (by simp) rfl (oneLoop (b := lpIx) (by kernel_rfl) hl) <| Meets.of (runIxH2 N n g t (ix n g t 0)) <| ?_
    repeat' (first | refine wC (by first | omega | (simp only [W1, cond_true, cond_false]; first | done | omega)) ?_ | refine wT (by first | omega | (simp only [W1, cond_true, cond_false]; first | done | omega)) ?_ | refine wF (by intro _h; first | omega | (simp only [W1, cond_true, cond_false] at _h; first | done | omega)) ?_ | (refine wS ?_ ?_ <;> intro _h <;> simp only [W1, cond_true, cond_false] at _h))
    all_goals simp only [W1, W2, owesN, owesX, owesR, cond_true, cond_false]
    repeat' (first | apply And.intro | intro _hc)
    all_goals first | exact AV.le_refl _ | exact AV.le_any _ | exact OLe.refl _ | exact OLe.none _ | exact LeH.refl _ | exact LeL.refl _ | exact AV.le.bs _ | exact AV.le.sb _ | omega | contradiction
theorem runCo (n : Nat) (g : Nat → Tx) (t : Tx) (hs : n ≤ 1000000000) : bodyE (P := Tryd.prog) (Γ := Γm) [CT.at 117 (ansIx (g := g) (t := t) hs)] Lno false 9 [.tmp 4] (bodyOf Tryd.f101) [slI n g, txV t] [] =
  Tree.chk (cl (LeL [.sl 7 n fun e => Tx.c (g e), .agg [.v (.int .i64 t.k), .v (.string t.fr), .v (.string t.to), .v (.string t.ky), .v (.string t.vl), .v (.int .i64 t.am), .v (.int .i64 
    t.nn)]] [.sl 7 n fun e => Tx.c (g e), .agg [.v (.int .i64 t.k), .v (.string t.fr), .v (.string t.to), .v (.string t.ky), .v (.string t.vl), .v (.int .i64 t.am), .v (.int .i64 
    t.nn)]] ∧ LeH [] [])) (.leaf (Ans.mk (.sb (decide ((0 : Int) ≤ ix n g t (0 : Nat)))) [])) := by kernel_rfl
theorem runCoH (N n : Nat) (g : Nat → Tx) (t : Tx) (hn : n ≤ N) (hs : n ≤ 1000000000) : bodyE (P := Tryd.prog) (Γ := Γm) [CT.at 117 (ansIxH (g := g) (t := t) hn hs)] Lno false 9 [.tmp 4] (bodyOf Tryd.f101) [.hs 0 0 n, txV t] [.arr 7 N fun e => Tx.c (g e)] =
  Tree.chk (cl (LeL [.hs 0 0 n, .agg [.v (.int .i64 t.k), .v (.string t.fr), .v (.string t.to), .v (.string t.ky), .v (.string t.vl), .v (.int .i64 t.am), .v (.int .i64 t.nn)]] [.hs 0 0 n, 
    .agg [.v (.int .i64 t.k), .v (.string t.fr), .v (.string t.to), .v (.string t.ky), .v (.string t.vl), .v (.int .i64 t.am), .v (.int .i64 t.nn)]] ∧ LeH [some (.arr 7 N fun e => Tx.c 
    (g e))] [some (.arr 7 N fun e => Tx.c (g e))])) (.leaf (Ans.mk (.sb (decide ((0 : Int) ≤ ix n g t (0 : Nat)))) [some (.arr 7 N fun e => Tx.c (g e))])) := by kernel_rfl
theorem ansCo {n : Nat} {g : Nat → Tx} {t : Tx} (hs : n ≤ 1000000000) : Answers Tryd.prog Γm 101 [slI n g, txV t] [] (.sb (hasF n (fun e => Tx.c (g e)) t)) [] [] := by
  rw [← ix_hasF]
  refine answers (fn := Tryd.f101) (c := bodyOf Tryd.f101) (ntmps := 9) (results := [.tmp 4]) [CT.at 117 (ansIx (g := g) (t := t) hs)] Lno false Tryd.func101 (by kernel_rfl) (by kernel_rfl) (by kernel_rfl) (by kernel_rfl) (by simp) rfl (noLoops (by kernel_rfl)) <| Meets.of (runCo n g t hs) <| ?_
  repeat' (first | refine wC (by first | omega | (simp only [W1, cond_true, cond_false]; first | done | omega)) ?_ | refine wT (by first | omega | (simp only [W1, cond_true, cond_false]; first | done | omega)) ?_ | refine wF (by intro _h; first | omega | (simp only [W1, cond_true, cond_false] at _h; first | done | omega)) ?_ | (refine wS ?_ ?_ <;> intro _h <;> simp only [W1, cond_true, cond_false] at _h))
  all_goals simp only [W1, W2, owesN, owesX, owesR, cond_true, cond_false]
  repeat' (first | apply And.intro | intro _hc)
  all_goals first | exact AV.le_refl _ | exact AV.le_any _ | exact OLe.refl _ | exact OLe.none _ | exact LeH.refl _ | exact LeL.refl _ | exact AV.le.bs _ | exact AV.le.sb _ | omega | contradiction
theorem ansCoH {N n : Nat} {g : Nat → Tx} {t : Tx} (hn : n ≤ N) (hs : n ≤ 1000000000) : Answers Tryd.prog Γm 101 [.hs 0 0 n, txV t] [.arr 7 N fun e => Tx.c (g e)] (.sb (hasF n (fun e => Tx.c (g e)) t)) [some (.arr 7 N fun e => Tx.c (g e))] [] := by
  rw [← ix_hasF]
  refine answers (fn := Tryd.f101) (c := bodyOf Tryd.f101) (ntmps := 9) (results := [.tmp 4]) [CT.at 117 (ansIxH (g := g) (t := t) hn hs)] Lno false Tryd.func101 (by kernel_rfl) (by kernel_rfl) (by kernel_rfl) (by kernel_rfl) (by simp) rfl (noLoops (by kernel_rfl)) <| Meets.of (runCoH N n g t hn hs) <| ?_
  repeat' (first | refine wC (by first | omega | (simp only [W1, cond_true, cond_false]; first | done | omega)) ?_ | refine wT (by first | omega | (simp only [W1, cond_true, cond_false]; first | done | omega)) ?_ | refine wF (by intro _h; first | omega | (simp only [W1, cond_true, cond_false] at _h; first | done | omega)) ?_ | (refine wS ?_ ?_ <;> intro _h <;> simp only [W1, cond_true, cond_false] at _h))
  all_goals simp only [W1, W2, owesN, owesX, owesR, cond_true, cond_false]
  repeat' (first | apply And.intro | intro _hc)
  all_goals first | exact AV.le_refl _ | exact AV.le_any _ | exact OLe.refl _ | exact OLe.none _ | exact LeH.refl _ | exact LeL.refl _ | exact AV.le.bs _ | exact AV.le.sb _ | omega | contradiction
def ofL1 : List AV → List Blk → Option (Nat × (Nat → List AV) × Tx)
  | [.sl _ n f, .agg [.v (.int _ k), .v (.string fr), .v (.string to), .v (.string y), .v (.string v), .v (.int _ a), .v (.int _ m)]], [] => some (n, f, ⟨k, fr, to, y, v, a, m⟩)
  | _, _ => none
def ofL2 : List AV → List Blk → Option (Nat × Nat × (Nat → List AV) × Tx)
  | [.hs _ _ n, .agg [.v (.int _ k), .v (.string fr), .v (.string to), .v (.string y), .v (.string v), .v (.int _ a), .v (.int _ m)]], [.arr _ N f] => some (N, n, f, ⟨k, fr, to, y, v, a, m⟩)
  | _, _ => none
def isSl : List AV → List Blk → Bool
  | .sl _ _ _ :: _, _ => true
  | _, _ => false
/-- a function of a list that is only read, or an own one, and a transaction -/
noncomputable def CT.li (f : FuncId) {fn : Func} (hf : Tryd.prog.funcs[f]? = some fn) (hb : fn.body.isSome = true) (hn : (fn.name == "runtime.NumGoroutine") = false) (G : Nat → (Nat → List AV) → Tx → AV)
    (h1 : ∀ {n : Nat} {g : Nat → Tx} {t : Tx}, n ≤ 1000000000 → Answers Tryd.prog Γm f [slI n g, txV t] [] (G n (fun e => Tx.c (g e)) t) [] [])
    (h2 : ∀ {N n : Nat} {g : Nat → Tx} {t : Tx}, n ≤ N → n ≤ 1000000000 → Answers Tryd.prog Γm f [.hs 0 0 n, txV t] [.arr 7 N fun e => Tx.c (g e)] (G n (fun e => Tx.c (g e)) t) [some (.arr 7 N fun e => Tx.c (g e))] []) : CT Tryd.prog Γm :=
  CT.orElse isSl (CT.par f ofL1 (fun | (n, F, _) => isTx F ∧ n ≤ 1000000000) (fun | (n, F, t) => [.sl 7 n F, txV t]) (fun _ => []) (fun | (n, F, t) => G n F t) (fun _ => []) (fun _ => []) (callFunc_enters hf hb hn) fun ⟨n, F, t⟩ ⟨k1, k2⟩ => by
      obtain ⟨g, rfl⟩ := isTx_g k1
      exact h1 k2)
    (CT.par f ofL2 (fun | (N, n, F, _) => isTx F ∧ n ≤ N ∧ n ≤ 1000000000) (fun | (_, n, _, t) => [.hs 0 0 n, txV t]) (fun | (N, _, F, _) => [.arr 7 N F]) (fun | (_, n, F, t) => G n F t) (fun | (N, _, F, _) => [some (.arr 7 N F)]) (fun _ => []) (callFunc_enters hf hb hn) fun ⟨N, n, F, t⟩ ⟨k1, k2, k3⟩ => by
      obtain ⟨g, rfl⟩ := isTx_g k1
      exact h2 k2 k3) rfl
noncomputable def kCo : CT Tryd.prog Γm := CT.li 101 Tryd.func101 (by kernel_rfl) (by kernel_rfl) (fun n f t => .sb (hasF n f t)) ansCo ansCoH
end Go.Eng.TA

/- lists of transactions: the document's has; great ones; the same. -/
namespace Go.Eng.TA
open Go Go.Eng Go.Eng.M Go.Lib Go.Proofs
set_option linter.unusedSimpArgs false
set_option linter.unusedVariables false
noncomputable abbrev lpHs : Code := loopOf (bodyOf Tryd.f52) 0
abbrev lvHs : List Nat := [0, 3, 5, 4]
def SHs (n : Nat) (g : Nat → Tx) (t : Tx) (i : Nat) : List AV × Heap := ([slI n g, .ptr 0 0, .v (.int .i64 (i : Int)), .any], [some (.row t.c)])
def SHsH (N n : Nat) (g : Nat → Tx) (t : Tx) (i : Nat) : List AV × Heap := ([.hs 0 0 n, .ptr 1 0, .v (.int .i64 (i : Int)), .any], [some (.arr 7 N fun e => Tx.c (g e)), some (.row t.c)])
def OHs (H : Heap) (v : Int) : Out := if v = -1 then ⟨.exit 0, [.any, .any, .any, .any], H⟩ else ⟨.ret, [.any, .any, .any, .v (.bool true)], H⟩
theorem rHs (n : Nat) (g : Nat → Tx) (t : Tx) (i : Nat) : roundE (P := Tryd.prog) (Γ := Γm) [] Lno false 0 0 lpHs lvHs [] 18 (SHs n g t i).1 (SHs n g t i).2 =
  Tree.br (decide ((↑i : Int) < (↑n : Int))) (.chk (decide ((0 : Int) ≤ (↑i : Int)) && decide ((↑i : Int) < (↑n : Int))) (.br (decide ((g (Int.toNat ↑i)).k = t.k) && (decide ((g (Int.toNat 
    ↑i)).fr = t.fr) && (decide ((g (Int.toNat ↑i)).to = t.to) && (decide ((g (Int.toNat ↑i)).ky = t.ky) && (decide ((g (Int.toNat ↑i)).vl = t.vl) && (decide ((g (Int.toNat ↑i)).am = 
    t.am) && decide ((g (Int.toNat ↑i)).nn = t.nn))))))) (.leaf (.mk .ret [.sl 7 n fun e => Tx.c (g e), .ptr 0 0, .v (.int .i64 (↑i : Int)), .v (.bool true)] [some (.row [.v (.int .i64 
    t.k), .v (.string t.fr), .v (.string t.to), .v (.string t.ky), .v (.string t.vl), .v (.int .i64 t.am), .v (.int .i64 t.nn)])])) (.leaf (.mk .normal [.sl 7 n fun e => Tx.c (g e), 
    .ptr 0 0, .v (.int .i64 (IntKind.wrap IntKind.i64 ((↑i : Int) + (1 : Int)))), .any] [some (.row [.v (.int .i64 t.k), .v (.string t.fr), .v (.string t.to), .v (.string t.ky), .v 
    (.string t.vl), .v (.int .i64 t.am), .v (.int .i64 t.nn)])])))) (.leaf (.mk (.exit 0) [.sl 7 n fun e => Tx.c (g e), .ptr 0 0, .v (.int .i64 (↑i : Int)), .any] [some (.row [.v (.int 
    .i64 t.k), .v (.string t.fr), .v (.string t.to), .v (.string t.ky), .v (.string t.vl), .v (.int .i64 t.am), .v (.int .i64 t.nn)])])) := by kernel_rfl
theorem rHsH (N n : Nat) (g : Nat → Tx) (t : Tx) (i : Nat) : roundE (P := Tryd.prog) (Γ := Γm) [] Lno false 1 0 lpHs lvHs [] 18 (SHsH N n g t i).1 (SHsH N n g t i).2 =
  Tree.br (decide ((↑i : Int) < (↑n : Int))) (.chk (decide ((0 : Int) ≤ (↑i : Int)) && decide ((↑i : Int) < (↑n : Int))) (.br (decide ((g ((0 : Nat) + Int.toNat ↑i)).k = t.k) && (decide ((g 
    ((0 : Nat) + Int.toNat ↑i)).fr = t.fr) && (decide ((g ((0 : Nat) + Int.toNat ↑i)).to = t.to) && (decide ((g ((0 : Nat) + Int.toNat ↑i)).ky = t.ky) && (decide ((g ((0 : Nat) + 
    Int.toNat ↑i)).vl = t.vl) && (decide ((g ((0 : Nat) + Int.toNat ↑i)).am = t.am) && decide ((g ((0 : Nat) + Int.toNat ↑i)).nn = t.nn))))))) (.leaf (.mk .ret [.hs 0 0 n, .ptr 1 0, .v 
    (.int .i64 (↑i : Int)), .v (.bool true)] [some (.arr 7 N fun e => Tx.c (g e)), some (.row [.v (.int .i64 t.k), .v (.string t.fr), .v (.string t.to), .v (.string t.ky), .v (.string 
    t.vl), .v (.int .i64 t.am), .v (.int .i64 t.nn)])])) (.leaf (.mk .normal [.hs 0 0 n, .ptr 1 0, .v (.int .i64 (IntKind.wrap IntKind.i64 ((↑i : Int) + (1 : Int)))), .any] [some (.arr 
    7 N fun e => Tx.c (g e)), some (.row [.v (.int .i64 t.k), .v (.string t.fr), .v (.string t.to), .v (.string t.ky), .v (.string t.vl), .v (.int .i64 t.am), .v (.int .i64 
    t.nn)])])))) (.leaf (.mk (.exit 0) [.hs 0 0 n, .ptr 1 0, .v (.int .i64 (↑i : Int)), .any] [some (.arr 7 N fun e => Tx.c (g e)), some (.row [.v (.int .i64 t.k), .v (.string t.fr), 
    .v (.string t.to), .v (.string t.ky), .v (.string t.vl), .v (.int .i64 t.am), .v (.int .i64 t.nn)])])) := by kernel_rfl
theorem loopHs {n : Nat} {g : Nat → Tx} {t : Tx} (hs : n ≤ 1000000000) {v : Int} : ∀ i : Nat, (i ≤ n ∧ ix n g t i = v) → LoopOK Tryd.prog Γm 0 18 lpHs (LSpec.at lvHs [] (SHs n g t i) (OHs [none] v)) := by
  refine loop_at (S := SHs n g t) (O := fun _ => OHs [none] v) (k := 0) (fun i => n - i) fun i hp => .of (noLoops (by kernel_rfl)) (rHs n g t i) ?_
  obtain ⟨h1, h2⟩ := hp
  rcases Nat.lt_or_ge i n with hi | hi
  · rw [ix_step hi, eqT_symm] at h2
    cases he : eqT (g i) t with
    | true =>
      rw [he, if_pos rfl] at h2
      subst h2
      unfold OHs
      rw [if_neg (by omega)]
      repeat' (first | refine wC (by first | omega | (simp only [W1, cond_true, cond_false, eqTe, he]; first | done | omega)) ?_ | refine wT (by first | omega | (simp only [W1, cond_true, cond_false, eqTe, he]; first | done | omega)) ?_ | refine wF (by intro _h; first | omega | (simp only [W1, cond_true, cond_false, eqTe, he] at _h; first | done | omega)) ?_ | (refine wS ?_ ?_ <;> intro _h <;> simp only [W1, cond_true, cond_false, eqTe, he] at _h))
      all_goals simp only [W1, W2, owesN, owesX, owesR, cond_true, cond_false, eqTe, he]
      repeat' (first | apply And.intro | intro _hc)
      all_goals first | exact rfl | exact AV.le_refl _ | exact AV.le_any _ | exact OLe.refl _ | exact OLe.none _ | exact LeH.refl _ | exact LeL.refl _ | exact AV.le.bs _ | exact AV.le.sb _ | omega | contradiction
    | false =>
      rw [he, if_neg (by decide)] at h2
      repeat' (first | refine wC (by first | omega | (simp only [W1, cond_true, cond_false, eqTe, he, wrapUpN (show i ≤ 10000000000 by omega)]; first | done | omega)) ?_ | refine wT (by first | omega | (simp only [W1, cond_true, cond_false, eqTe, he, wrapUpN (show i ≤ 10000000000 by omega)]; first | done | omega)) ?_ | refine wF (by intro _h; first | omega | (simp only [W1, cond_true, cond_false, eqTe, he, wrapUpN (show i ≤ 10000000000 by omega)] at _h; first | done | omega)) ?_ | (refine wS ?_ ?_ <;> intro _h <;> simp only [W1, cond_true, cond_false, eqTe, he, wrapUpN (show i ≤ 10000000000 by omega)] at _h))
      all_goals simp only [W1, W2, owesN, owesX, owesR, cond_true, cond_false, eqTe, he, wrapUpN (show i ≤ 10000000000 by omega)]
      repeat' (first | apply And.intro | intro _hc)
      all_goals first | exact ⟨i + 1, LeL.refl _, LeH.refl _, ⟨hi, h2⟩, by omega⟩ | exact AV.le_refl _ | exact AV.le_any _ | exact OLe.refl _ | exact OLe.none _ | exact LeH.refl _ | exact LeL.refl _ | exact AV.le.bs _ | exact AV.le.sb _ | omega | contradiction
  · rw [ix_end hi] at h2
    subst h2
    unfold OHs
    rw [if_pos rfl]
    repeat' (first | refine wC (by first | omega | (simp only [W1, cond_true, cond_false]; first | done | omega)) ?_ | refine wT (by first | omega | (simp only [W1, cond_true, cond_false]; first | done | omega)) ?_ | refine wF (by intro _h; first | omega | (simp only [W1, cond_true, cond_false] at _h; first | done | omega)) ?_ | (refine wS ?_ ?_ <;> intro _h <;> simp only [W1, cond_true, cond_false] at _h))
    all_goals simp only [W1, W2, owesN, owesX, owesR, cond_true, cond_false]
    repeat' (first | apply And.intro | intro _hc)
    all_goals first | exact rfl | exact AV.le_refl _ | exact AV.le_any _ | exact OLe.refl _ | exact OLe.none _ | exact LeH.refl _ | exact LeL.refl _ | exact AV.le.bs _ | exact AV.le.sb _ | omega | contradiction
theorem loopHsH {N n : Nat} {g : Nat → Tx} {t : Tx} (hn : n ≤ N) (hs : n ≤ 1000000000) {v : Int} : ∀ i : Nat, (i ≤ n ∧ ix n g t i = v) → LoopOK Tryd.prog Γm 1 18 lpHs (LSpec.at lvHs [] (SHsH N n g t i) (OHs [some (.arr 7 N fun e => Tx.c (g e)), none] v)) := by
  refine loop_at (S := SHsH N n g t) (O := fun _ => OHs [some (.arr 7 N fun e => Tx.c (g e)), none] v) (k := 0) (fun i => n - i) fun i hp => .of (noLoops (by kernel_rfl)) (rHsH N n g t i) ?_
  obtain ⟨h1, h2⟩ := hp
  rcases Nat.lt_or_ge i n with hi | hi
  · rw [ix_step hi, eqT_symm] at h2
    cases he : eqT (g i) t with
    | true =>
      rw [he, if_pos rfl] at h2
      subst h2
      unfold OHs
      rw [if_neg (by omega)]
      repeat' (first | refine wC (by first | omega | (simp only [W1, cond_true, cond_false, eqTe, he]; first | done | omega)) ?_ | refine wT (by first | omega | (simp only [W1, cond_true, cond_false, eqTe, he]; first | done | omega)) ?_ | refine wF (by intro _h; first | omega | (simp only [W1, cond_true, cond_false, eqTe, he] at _h; first | done | omega)) ?_ | (refine wS ?_ ?_ <;> intro _h <;> simp only [W1, cond_true, cond_false, eqTe, he] at _h))
      all_goals simp only [W1, W2, owesN, owesX, owesR, cond_true, cond_false, eqTe, he]
      repeat' (first | apply And.intro | intro _hc)
      all_goals first | exact rfl | exact AV.le_refl _ | exact AV.le_any _ | exact OLe.refl _ | exact OLe.none _ | exact LeH.refl _ | exact LeL.refl _ | exact AV.le.bs _ | exact AV.le.sb _ | omega | contradiction
    | false =>
      rw [he, if_neg (by decide)] at h2
      repeat' (first | refine wC (by first | omega | (simp only [W1, cond_true, cond_false, eqTe, he, wrapUpN (show i ≤ 10000000000 by omega)]; first | done | omega)) ?_ | refine wT (by first | omega | (simp only [W1, cond_true, cond_false, eqTe, he, wrapUpN (show i ≤ 10000000000 by omega)]; first | done | omega)) ?_ | refine wF (by intro _h; first | omega | (simp only [W1, cond_true, cond_false, eqTe, he, wrapUpN (show i ≤ 10000000000 by omega)] at _h; first | done | omega)) ?_ | (refine wS ?_ ?_ <;> intro _h <;> simp only [W1, cond_true, cond_false, eqTe, he, wrapUpN (show i ≤ 10000000000 by omega)] at _h))
      all_goals simp only [W1, W2, owesN, owesX, owesR, cond_true, cond_false, eqTe, he, wrapUpN (show i ≤ 10000000000 by omega)]
      repeat' (first | apply And.intro | intro _hc)
      all_goals first | exact ⟨i + 1, LeL.refl _, LeH.refl _, ⟨hi, h2⟩, by omega⟩ | exact AV.le_refl _ | exact AV.le_any _ | exact OLe.refl _ | exact OLe.none _ | exact LeH.refl _ | exact LeL.refl _ | exact AV.le.bs _ | exact AV.le.sb _ | omega | contradiction
  · rw [ix_end hi] at h2
    subst h2
    unfold OHs
    rw [if_pos rfl]
    repeat' (first | refine wC (by first | omega | (simp only [W1, cond_true, cond_false]; first | done | omega)) ?_ | refine wT (by first | omega | (simp only [W1, cond_true, cond_false]; first | done | omega)) ?_ | refine wF (by intro _h; first | omega | (simp only [W1, cond_true, cond_false] at _h; first | done | omega)) ?_ | (refine wS ?_ ?_ <;> intro _h <;> simp only [W1, cond_true, cond_false] at _h))
    all_goals simp only [W1, W2, owesN, owesX, owesR, cond_true, cond_false]
    repeat' (first | apply And.intro | intro _hc)
    all_goals first | exact rfl | exact AV.le_refl _ | exact AV.le_any _ | exact OLe.refl _ | exact OLe.none _ | exact LeH.refl _ | exact LeL.refl _ | exact AV.le.bs _ | exact AV.le.sb _ | omega | contradiction
theorem runHs1 (n : Nat) (g : Nat → Tx) (t : Tx) : bodyE (P := Tryd.prog) (Γ := Γm) [] (fun _ => LSpec.at lvHs [] (SHs n g t 0) ⟨.exit 0, [.any, .any, .any, .any], [none]⟩) false 18 [.tmp 4] (bodyOf Tryd.f52) [slI n g, txV t] [] =
  Tree.chk (cl (LeL [.sl 7 n fun e => Tx.c (g e), .ptr 0 0, .v (.int .i64 (0 : Int)), .v (.bool false)] [.sl 7 n fun e => Tx.c (g e), .ptr 0 0, .v (.int .i64 (↑(0 : Nat) : Int)), .any] ∧ LeH 
    [some (.row [.v (.int .i64 t.k), .v (.string t.fr), .v (.string t.to), .v (.string t.ky), .v (.string t.vl), .v (.int .i64 t.am), .v (.int .i64 t.nn)])] [some (.row [.v (.int .i64 
    t.k), .v (.string t.fr), .v (.string t.to), .v (.string t.ky), .v (.string t.vl), .v (.int .i64 t.am), .v (.int .i64 t.nn)])])) (.leaf (Ans.mk (.v (.bool false)) [])) := by kernel_rfl
theorem runHs2 (n : Nat) (g : Nat → Tx) (t : Tx) : bodyE (P := Tryd.prog) (Γ := Γm) [] (fun _ => LSpec.at lvHs [] (SHs n g t 0) ⟨.ret, [.any, .any, .any, .v (.bool true)], [none]⟩) false 18 [.tmp 4] (bodyOf Tryd.f52) [slI n g, txV t] [] =
  Tree.chk (cl (LeL [.sl 7 n fun e => Tx.c (g e), .ptr 0 0, .v (.int .i64 (0 : Int)), .v (.bool false)] [.sl 7 n fun e => Tx.c (g e), .ptr 0 0, .v (.int .i64 (↑(0 : Nat) : Int)), .any] ∧ LeH 
    [some (.row [.v (.int .i64 t.k), .v (.string t.fr), .v (.string t.to), .v (.string t.ky), .v (.string t.vl), .v (.int .i64 t.am), .v (.int .i64 t.nn)])] [some (.row [.v (.int .i64 
    t.k), .v (.string t.fr), .v (.string t.to), .v (.string t.ky), .v (.string t.vl), .v (.int .i64 t.am), .v (.int .i64 t.nn)])])) (.leaf (Ans.mk (.v (.bool true)) [])) := by kernel_rfl
theorem runHsH1 (N n : Nat) (g : Nat → Tx) (t : Tx) : bodyE (P := Tryd.prog) (Γ := Γm) [] (fun _ => LSpec.at lvHs [] (SHsH N n g t 0) ⟨.exit 0, [.any, .any, .any, .any], [some (.arr 7 N fun e => Tx.c (g e)), none]⟩) false 18 [.tmp 4] (bodyOf Tryd.f52) [.hs 0 0 n, txV t] [.arr 7 N fun e => Tx.c (g e)] =
  Tree.chk (cl (LeL [.hs 0 0 n, .ptr 1 0, .v (.int .i64 (0 : Int)), .v (.bool false)] [.hs 0 0 n, .ptr 1 0, .v (.int .i64 (↑(0 : Nat) : Int)), .any] ∧ LeH [some (.arr 7 N fun e => Tx.c (g 
    e)), some (.row [.v (.int .i64 t.k), .v (.string t.fr), .v (.string t.to), .v (.string t.ky), .v (.string t.vl), .v (.int .i64 t.am), .v (.int .i64 t.nn)])] [some (.arr 7 N fun e 
    => Tx.c (g e)), some (.row [.v (.int .i64 t.k), .v (.string t.fr), .v (.string t.to), .v (.string t.ky), .v (.string t.vl), .v (.int .i64 t.am), .v (.int .i64 t.nn)])])) (.leaf 
    (Ans.mk (.v (.bool false)) [some (.arr 7 N fun e => Tx.c (g e))])) := by kernel_rfl
theorem runHsH2 (N n : Nat) (g : Nat → Tx) (t : Tx) : bodyE (P := Tryd.prog) (Γ := Γm) [] (fun _ => LSpec.at lvHs [] (SHsH N n g t 0) ⟨.ret, [.any, .any, .any, .v (.bool true)], [some (.arr 7 N fun e => Tx.c (g e)), none]⟩) false 18 [.tmp 4] (bodyOf Tryd.f52) [.hs 0 0 n, txV t] [.arr 7 N fun e => Tx.c (g e)] =
  Tree.chk (cl (LeL [.hs 0 0 n, .ptr 1 0, .v (.int .i64 (0 : Int)), .v (.bool false)] [.hs 0 0 n, .ptr 1 0, .v (.int .i64 (↑(0 : Nat) : Int)), .any] ∧ LeH [some (.arr 7 N fun e => Tx.c (g 
    e)), some (.row [.v (.int .i64 t.k), .v (.string t.fr), .v (.string t.to), .v (.string t.ky), .v (.string t.vl), .v (.int .i64 t.am), .v (.int .i64 t.nn)])] [some (.arr 7 N fun e 
    => Tx.c (g e)), some (.row [.v (.int .i64 t.k), .v (.string t.fr), .v (.string t.to), .v (.string t.ky), .v (.string t.vl), .v (.int .i64 t.am), .v (.int .i64 t.nn)])])) (.leaf 
    (Ans.mk (.v (.bool true)) [some (.arr 7 N fun e => Tx.c (g e))])) := by kernel_rfl
theorem ix_low {n : Nat} {g : Nat → Tx} {t : Tx} : ∀ {k i : Nat}, n - i ≤ k → -1 ≤ ix n g t i := by
  intro k
  induction k with
  | zero => intro i h; rw [ix_end (by omega)]; omega
  | succ k ih =>
    intro i h
    by_cases hi : i < n
    · rw [ix_step hi]
      split
      · omega
      · exact ih (by omega)
    · rw [ix_end (by omega)]; omega
theorem ansHs {n : Nat} {g : Nat → Tx} {t : Tx} (hs : n ≤ 1000000000) : Answers Tryd.prog Γm 52 [slI n g, txV t] [] (.sb (hasF n (fun e => Tx.c (g e)) t)) [] [] := by
  have hl := loopHs (g := g) (t := t) hs (v := ix n g t 0) 0 ⟨Nat.zero_le _, rfl⟩
  have hlow := ix_low (n := n) (g := g) (t := t) (k := n) (i := 0) (by omega)
  rw [← ix_hasF]
  unfold OHs at hl
  by_cases h : ix n g t 0 = -1
  · rw [if_pos h] at hl
    rw [h]
    refine answers (fn := Tryd.f52) (c := bodyOf Tryd.f52) (ntmps := 18) (results := [.tmp 4]) [] (fun _ => LSpec.at lvHs [] (SHs n g t 0) ⟨.exit 0, [.any, .any, .any, .any], [none]⟩) false Tryd.func52 (by kernel_rfl) (by kernel_rfl) (by kernel_rfl) (by kernel_rfl) (by simp) rfl (oneLoop (b := lpHs) (by kernel_rfl) hl) <| Meets.of (runHs1 n g t) <| ?_
    repeat' (first | refine wC (by first | omega | (simp only [W1, cond_true, cond_false]; first | done | omega)) ?_ | refine wT (by first | omega | (simp only [W1, cond_true, cond_false]; first | done | omega)) ?_ | refine wF (by intro _h; first | omega | (simp only [W1, cond_true, cond_false] at _h; first | done | omega)) ?_ | (refine wS ?_ ?_ <;> intro _h <;> simp only [W1, cond_true, cond_false] at _h))
    all_goals simp only [W1, W2, owesN, owesX, owesR, cond_true, cond_false]
    repeat' (first | apply And.intro | intro _hc)
    all_goals first | exact leB rfl | exact AV.le_refl _ | exact AV.le_any _ | exact OLe.refl _ | exact OLe.none _ | exact LeH.refl _ | exact LeL.refl _ | exact AV.le.bs _ | exact AV.le.sb _ | omega | contradiction
  · rw [if_neg h] at hl
    rw [decide_eq_true (show 0 ≤ ix n g t 0 by omega)]
    refine answers (fn := Tryd.f52) (c := bodyOf Tryd.f52) (ntmps := 18) (results := [.tmp 4]) [] (fun _ => LSpec.at lvHs [] (SHs n g t 0) ⟨.ret, [.any, .any, .any, .v (.bool true)], [none]⟩) false Tryd.func52 (by kernel_rfl) (by kernel_rfl) (by kernel_rfl) (by kernel_rfl) (by simp) rfl (oneLoop (b := lpHs) (by kernel_rfl) hl) <| Meets.of (runHs2 n g t) <| ?_
    repeat' (first | refine wC (by first | omega | (simp only [W1, cond_true, cond_false]; first | done | omega)) ?_ | refine wT (by first | omega | (simp only [W1, cond_true, cond_false]; first | done | omega)) ?_ | refine wF (by intro _h; first | omega | (simp only [W1, cond_true, cond_false] at _h; first | done | omega)) ?_ | (refine wS ?_ ?_ <;> intro _h <;> simp only [W1, cond_true, cond_false] at _h))
    all_goals simp only [W1, W2, owesN, owesX, owesR, cond_true, cond_false]
    repeat' (first | apply And.intro | intro _hc)
    all_goals first | exact AV.le_refl _ | exact AV.le_any _ | exact OLe.refl _ | exact OLe.none _ | exact LeH.refl _ | exact LeL.refl _ | exact AV.le.bs _ | exact AV.le.sb _ | omega | contradiction
theorem ansHsH {N n : Nat} {g : Nat → Tx} {t : Tx} (hn : n ≤ N) (hs : n ≤ 1000000000) : Answers Tryd.prog Γm 52 [.hs 0 0 n, txV t] [.arr 7 N fun e => Tx.c (g e)] (.sb (hasF n (fun e => Tx.c (g e)) t)) [some (.arr 7 N fun e => Tx.c (g e))] [] := by
  have hl := loopHsH (g := g) (t := t) hn hs (v := ix n g t 0) 0 ⟨Nat.zero_le _, rfl⟩
  have hlow := ix_low (n := n) (g := g) (t := t) (k := n) (i := 0) (by omega)
  rw [← ix_hasF]
  unfold OHs at hl
  by_cases h : ix n g t 0 = -1
  · rw [if_pos h] at hl
    rw [h]
    refine answers (fn := Tryd.f52) (c := bodyOf Tryd.f52) (ntmps := 18) (results := [.tmp 4]) [] (fun _ => LSpec.at lvHs [] (SHsH N n g t 0) ⟨.exit 0, [.any, .any, .any, .any], [some (.arr 7 N fun e => Tx.c (g e)), none]⟩) false Tryd.func52 (by kernel_rfl) (by kernel_rfl) (by kernel_rfl) (by kernel_rfl) (by simp) rfl (oneLoop (b := lpHs) (by kernel_rfl) hl) <| Meets.of (runHsH1 N n g t) <| ?_
    repeat' (first | refine wC (by first | omega | (simp only [W1, cond_true, cond_false]; first | done | omega)) ?_ | refine wT (by first | omega | (simp only [W1, cond_true, cond_false]; first | done | omega)) ?_ | refine wF (by intro _h; first | omega | (simp only [W1, cond_true, cond_false] at _h; first | done | omega)) ?_ | (refine wS ?_ ?_ <;> intro _h <;> simp only [W1, cond_true, cond_false] at _h))
    all_goals simp only [W1, W2, owesN, owesX, owesR, cond_true, cond_false]
    repeat' (first | apply And.intro | intro _hc)
    all_goals first | exact leB rfl | exact AV.le_refl _ | exact AV.le_any _ | exact OLe.refl _ | exact OLe.none _ | exact LeH.refl _ | exact LeL.refl _ | exact AV.le.bs _ | exact AV.le.sb _ | omega | contradiction
  · rw [if_neg h] at hl
    rw [decide_eq_true (show 0 ≤ ix n g t 0 by omega)]
    refine answers (fn := Tryd.f52) (c := bodyOf Tryd.f52) (ntmps := 18) (results := [.tmp 4]) [] (fun _ => LSpec.at lvHs [] (SHsH N n g t 0) ⟨.ret, [.any, .any, .any, .v (.bool true)], [some (.arr 7 N fun e => Tx.c (g e)), none]⟩) false Tryd.func52 (by kernel_rfl) (by kernel_rfl) (by kernel_rfl) (by kernel_rfl) (by simp) rfl (oneLoop (b := lpHs) (by kernel_rfl) hl) <| Meets.of (runHsH2 N n g t) <| ?_
    repeat' (first | refine wC (by first | omega | (simp only [W1, cond_true, cond_false]; first | done | omega)) ?_ | refine wT (by first | omega | (simp only [W1, cond_true, cond_false]; first | done | omega)) ?_ | refine wF (by intro _h; first | omega | (simp only [W1, cond_true, cond_false] at _h; first | done | omega)) ?_ | (refine wS ?_ ?_ <;> intro _h <;> simp only [W1, cond_true, cond_false] at _h))
    all_goals simp only [W1, W2, owesN, owesX, owesR, cond_true, cond_false]
    repeat' (first | apply And.intro | intro _hc)
    all_goals first | exact AV.le_refl _ | exact AV.le_any _ | exact OLe.refl _ | exact OLe.none _ | exact LeH.refl _ | exact LeL.refl _ | exact AV.le.bs _ | exact AV.le.sb _ | omega | contradiction
noncomputable def kHs : CT Tryd.prog Γm := CT.li 52 Tryd.func52 (by kernel_rfl) (by kernel_rfl) (fun n f t => .sb (hasF n f t)) ansHs ansHsH
/-! ### great ones -/
noncomputable abbrev lpGr : Code := loopOf (bodyOf Tryd.f46) 0
def SGr (l : List Tx) (i : Nat) : List AV × Heap := ([.sl 7 l.length (lsF Tx.c l), .v (.int .i64 (i : Int)), .any], [])
def OGr (l : List Tx) : Out := bif l.any grT then ⟨.ret, [.any, .any, .v (.bool true)], []⟩ else ⟨.exit 0, [.any, .any, .any], []⟩
theorem rGr (l : List Tx) (i : Nat) : roundE (P := Tryd.prog) (Γ := Γm) [kGr] Lno false 0 0 lpGr [0, 3, 2] [] 18 (SGr l i).1 (SGr l i).2 =
  Tree.br (decide ((↑i : Int) < (↑(List.length l) : Int))) (.chk (decide ((0 : Int) ≤ (↑i : Int)) && decide ((↑i : Int) < (↑(List.length l) : Int)) && cl (True ∧ LeL [.agg [.v (.int .i64 
    (List.getD l i default).k), .v (.string (List.getD l i default).fr), .v (.string (List.getD l i default).to), .v (.string (List.getD l i default).ky), .v (.string (List.getD l i 
    default).vl), .v (.int .i64 (List.getD l i default).am), .v (.int .i64 (List.getD l i default).nn)]] [.agg [.v (.int .i64 (List.getD l i default).k), .v (.string (List.getD l i 
    default).fr), .v (.string (List.getD l i default).to), .v (.string (List.getD l i default).ky), .v (.string (List.getD l i default).vl), .v (.int .i64 (List.getD l i default).am), 
    .v (.int .i64 (List.getD l i default).nn)]] ∧ LeH [] [])) (.br (grT (Tx.mk (List.getD l i default).k (List.getD l i default).fr (List.getD l i default).to (List.getD l i 
    default).ky (List.getD l i default).vl (List.getD l i default).am (List.getD l i default).nn)) (.leaf (.mk .ret [.sl 7 (List.length l) (lsF Tx.c l), .v (.int .i64 (↑i : Int)), .v 
    (.bool true)] [])) (.leaf (.mk .normal [.sl 7 (List.length l) (lsF Tx.c l), .v (.int .i64 (IntKind.wrap IntKind.i64 ((↑i : Int) + (1 : Int)))), .any] [])))) (.leaf (.mk (.exit 0) 
    [.sl 7 (List.length l) (lsF Tx.c l), .v (.int .i64 (↑i : Int)), .any] [])) := by kernel_rfl
theorem any_drop {α : Type} [Inhabited α] {f : α → Bool} {l : List α} {i : Nat} (h : i < l.length) : (l.drop i).any f = (f (l.getD i default) || (l.drop (i + 1)).any f) := by
  rw [List.drop_eq_getElem_cons h, List.any_cons, getD_get h]
theorem loopGr {l : List Tx} (hs : l.length ≤ 1000000000) : ∀ i : Nat, (i ≤ l.length ∧ (l.drop i).any grT = l.any grT) → LoopOK Tryd.prog Γm 0 18 lpGr (LSpec.at [0, 3, 2] [] (SGr l i) (OGr l)) := by
  refine loop_at (S := SGr l) (O := fun _ => OGr l) (k := 0) (fun i => l.length - i) fun i hp => .of (noLoops (by kernel_rfl)) (rGr l i) ?_
  obtain ⟨h1, h2⟩ := hp
  rcases Nat.lt_or_ge i l.length with hi | hi
  · rw [any_drop hi] at h2
    have hx : Tx.mk (l.getD i default).k (l.getD i default).fr (l.getD i default).to (l.getD i default).ky (l.getD i default).vl (l.getD i default).am (l.getD i default).nn = l.getD i default := rfl
    cases hL : grT (l.getD i default) with
    | true =>
      rw [hL, Bool.true_or] at h2
      unfold OGr
      rw [← h2, cond_true]
      repeat' (first | refine wC (by first | omega | (simp only [W1, cond_true, cond_false, hx, hL]; first | done | omega)) ?_ | refine wT (by first | omega | (simp only [W1, cond_true, cond_false, hx, hL]; first | done | omega)) ?_ | refine wF (by intro _h; first | omega | (simp only [W1, cond_true, cond_false, hx, hL] at _h; first | done | omega)) ?_ | (refine wS ?_ ?_ <;> intro _h <;> simp only [W1, cond_true, cond_false, hx, hL] at _h))
      all_goals simp only [W1, W2, owesN, owesX, owesR, cond_true, cond_false, hx, hL]
      repeat' (first | apply And.intro | intro _hc)
      all_goals first | exact rfl | exact AV.le_refl _ | exact AV.le_any _ | exact OLe.refl _ | exact OLe.none _ | exact LeH.refl _ | exact LeL.refl _ | exact AV.le.bs _ | exact AV.le.sb _ | omega | contradiction
    | false =>
      rw [hL, Bool.false_or] at h2
      repeat' (first | refine wC (by first | omega | (simp only [W1, cond_true, cond_false, hx, hL, wrapUpN (show i ≤ 10000000000 by omega)]; first | done | omega)) ?_ | refine wT (by first | omega | (simp only [W1, cond_true, cond_false, hx, hL, wrapUpN (show i ≤ 10000000000 by omega)]; first | done | omega)) ?_ | refine wF (by intro _h; first | omega | (simp only [W1, cond_true, cond_false, hx, hL, wrapUpN (show i ≤ 10000000000 by omega)] at _h; first | done | omega)) ?_ | (refine wS ?_ ?_ <;> intro _h <;> simp only [W1, cond_true, cond_false, hx, hL, wrapUpN (show i ≤ 10000000000 by omega)] at _h))
      all_goals simp only [W1, W2, owesN, owesX, owesR, cond_true, cond_false, hx, hL, wrapUpN (show i ≤ 10000000000 by omega)]
      repeat' (first | apply And.intro | intro _hc)
      all_goals first | exact ⟨i + 1, LeL.refl _, LeH.refl _, ⟨hi, h2⟩, by omega⟩ | exact AV.le_refl _ | exact AV.le_any _ | exact OLe.refl _ | exact OLe.none _ | exact LeH.refl _ | exact LeL.refl _ | exact AV.le.bs _ | exact AV.le.sb _ | omega | contradiction
  · rw [List.drop_eq_nil_of_le hi] at h2
    unfold OGr
    rw [← h2, List.any_nil, cond_false]
    repeat' (first | refine wC (by first | omega | (simp only [W1, cond_true, cond_false]; first | done | omega)) ?_ | refine wT (by first | omega | (simp only [W1, cond_true, cond_false]; first | done | omega)) ?_ | refine wF (by intro _h; first | omega | (simp only [W1, cond_true, cond_false] at _h; first | done | omega)) ?_ | (refine wS ?_ ?_ <;> intro _h <;> simp only [W1, cond_true, cond_false] at _h))
    all_goals simp only [W1, W2, owesN, owesX, owesR, cond_true, cond_false]
    repeat' (first | apply And.intro | intro _hc)
    all_goals first | exact rfl | exact AV.le_refl _ | exact AV.le_any _ | exact OLe.refl _ | exact OLe.none _ | exact LeH.refl _ | exact LeL.refl _ | exact AV.le.bs _ | exact AV.le.sb _ | omega | contradiction
theorem runGr0 (l : List Tx) : bodyE (P := Tryd.prog) (Γ := Γm) [] Lno false 18 [.tmp 2] (bodyOf Tryd.f46) [.sl 7 l.length (lsF Tx.c l)] [] =
  Tree.br (decide ((60 : Int) < (↑(List.length l) : Int))) (.leaf (Ans.mk (.v (.bool true)) [])) .fail := by kernel_rfl
theorem runGr1 (l : List Tx) : bodyE (P := Tryd.prog) (Γ := Γm) [] (fun _ => LSpec.at [0, 3, 2] [] (SGr l 0) ⟨.ret, [.any, .any, .v (.bool true)], []⟩) false 18 [.tmp 2] (bodyOf Tryd.f46) [.sl 7 l.length (lsF Tx.c l)] [] =
  Tree.br (decide ((60 : Int) < (↑(List.length l) : Int))) (.leaf (Ans.mk (.v (.bool true)) [])) (.chk (cl (LeL [.sl 7 (List.length l) (lsF Tx.c l), .v (.int .i64 (0 : Int)), .v (.bool 
    false)] [.sl 7 (List.length l) (lsF Tx.c l), .v (.int .i64 (↑(0 : Nat) : Int)), .any] ∧ LeH [] [])) (.leaf (Ans.mk (.v (.bool true)) []))) := by kernel_rfl
theorem runGr2 (l : List Tx) : bodyE (P := Tryd.prog) (Γ := Γm) [] (fun _ => LSpec.at [0, 3, 2] [] (SGr l 0) ⟨.exit 0, [.any, .any, .any], []⟩) false 18 [.tmp 2] (bodyOf Tryd.f46) [.sl 7 l.length (lsF Tx.c l)] [] =
  Tree.br (decide ((60 : Int) < (↑(List.length l) : Int))) (.leaf (Ans.mk (.v (.bool true)) [])) (.chk (cl (LeL [.sl 7 (List.length l) (lsF Tx.c l), .v (.int .i64 (0 : Int)), .v (.bool 
    false)] [.sl 7 (List.length l) (lsF Tx.c l), .v (.int .i64 (↑(0 : Nat) : Int)), .any] ∧ LeH [] [])) (.leaf (Ans.mk (.v (.bool false)) []))) := by kernel_rfl
def grL (l : List Tx) : Bool := decide (60 < l.length) || l.any grT
theorem ansGrL {l : List Tx} : Answers Tryd.prog Γm 46 [.sl 7 l.length (lsF Tx.c l)] [] (.sb (grL l)) [] [] := by
  unfold grL
  by_cases h : 60 < l.length
  · rw [decide_eq_true h, Bool.true_or]
    refine answers (fn := Tryd.f46) (c := bodyOf Tryd.f46) (ntmps := 18) (results := [.tmp 2]) [] (Lno) false Tryd.func46 (by kernel_rfl) (by kernel_rfl) (by kernel_rfl) (by kernel_rfl) (by simp) rfl (failOK fun _ _ _ => rfl) <| Meets.of (runGr0 l) <| ?_
    repeat' (first | refine wC (by first | omega | (simp only [W1, cond_true, cond_false]; first | done | omega)) ?_ | refine wT (by first | omega | (simp only [W1, cond_true, cond_false]; first | done | omega)) ?_ | refine wF (by intro _h; first | omega | (simp only [W1, cond_true, cond_false] at _h; first | done | omega)) ?_ | (refine wS ?_ ?_ <;> intro _h <;> simp only [W1, cond_true, cond_false] at _h))
    all_goals simp only [W1, W2, owesN, owesX, owesR, cond_true, cond_false]
    repeat' (first | apply And.intro | intro _hc)
    all_goals first | exact AV.le_refl _ | exact AV.le_any _ | exact OLe.refl _ | exact OLe.none _ | exact LeH.refl _ | exact LeL.refl _ | exact AV.le.bs _ | exact AV.le.sb _ | omega | contradiction
  · rw [decide_eq_false h, Bool.false_or]
    have hl := loopGr (l := l) (by omega) 0 ⟨Nat.zero_le _, rfl⟩
    unfold OGr at hl
    cases hg : l.any grT with
    | true =>
      rw [hg, cond_true] at hl
      refine answers (fn := Tryd.f46) (c := bodyOf Tryd.f46) (ntmps := 18) (results := [.tmp 2]) [] (fun _ => LSpec.at [0, 3, 2] [] (SGr l 0) ⟨.ret, [.any, .any, .v (.bool true)], []⟩) false Tryd.func46 (by kernel_rfl) (by kernel_rfl) (by kernel_rfl) (by kernel_rfl) (by simp) rfl (oneLoop (b := lpGr) (by kernel_rfl) hl) <| Meets.of (runGr1 l) <| ?_
      repeat' (first | refine wC (by first | omega | (simp only [W1, cond_true, cond_false]; first | done | omega)) ?_ | refine wT (by first | omega | (simp only [W1, cond_true, cond_false]; first | done | omega)) ?_ | refine wF (by intro _h; first | omega | (simp only [W1, cond_true, cond_false] at _h; first | done | omega)) ?_ | (refine wS ?_ ?_ <;> intro _h <;> simp only [W1, cond_true, cond_false] at _h))
      all_goals simp only [W1, W2, owesN, owesX, owesR, cond_true, cond_false]
      repeat' (first | apply And.intro | intro _hc)
      all_goals first | exact AV.le_refl _ | exact AV.le_any _ | exact OLe.refl _ | exact OLe.none _ | exact LeH.refl _ | exact LeL.refl _ | exact AV.le.bs _ | exact AV.le.sb _ | omega | contradiction
    | false =>
      rw [hg, cond_false] at hl
      refine answers (fn := Tryd.f46) (c := bodyOf Tryd.f46) (ntmps := 18) (results := [.tmp 2]) [] (fun _ => LSpec.at [0, 3, 2] [] (SGr l 0) ⟨.exit 0, [.any, .any, .any], []⟩) false Tryd.func46 (by kernel_rfl) (by kernel_rfl) (by kernel_rfl) (by kernel_rfl) (by simp) rfl (oneLoop (b := lpGr) (by kernel_rfl) hl) <| Meets.of (runGr2 l) <| ?_
      repeat' (first | refine wC (by first | omega | (simp only [W1, cond_true, cond_false]; first | done | omega)) ?_ | refine wT (by first | omega | (simp only [W1, cond_true, cond_false]; first | done | omega)) ?_ | refine wF (by intro _h; first | omega | (simp only [W1, cond_true, cond_false] at _h; first | done | omega)) ?_ | (refine wS ?_ ?_ <;> intro _h <;> simp only [W1, cond_true, cond_false] at _h))
      all_goals simp only [W1, W2, owesN, owesX, owesR, cond_true, cond_false]
      repeat' (first | apply And.intro | intro _hc)
      all_goals first | exact AV.le_refl _ | exact AV.le_any _ | exact OLe.refl _ | exact OLe.none _ | exact LeH.refl _ | exact LeL.refl _ | exact AV.le.bs _ | exact AV.le.sb _ | omega | contradiction
end Go.Eng.TA

/- names: the chapter's example. -/
namespace Go.Eng.TA
open Go Go.Eng Go.Proofs
set_option linter.unusedSimpArgs false
set_option linter.unusedVariables false
/-- (hallmoot/name.span).has -/
noncomputable def z25 : CT Tryd.prog Γm := CT.auto true 100 3 [] 109 Tryd.f109 (bodyOf Tryd.f109) false 21 [.tmp 4] Tryd.func109 (by kernel_rfl) (by kernel_rfl) (by kernel_rfl) (by kernel_rfl)
/-- hallmoot/name.great -/
noncomputable def z26 : CT Tryd.prog Γm := CT.auto true 100 3 [z25] 112 Tryd.f112 (bodyOf Tryd.f112) false 16 [.tmp 2] Tryd.func112 (by kernel_rfl) (by kernel_rfl) (by kernel_rfl) (by kernel_rfl)
/-- hallmoot/name.Small -/
noncomputable def z12 : CT Tryd.prog Γm := CT.auto true 100 3 [z26] 77 Tryd.f77 (bodyOf Tryd.f77) false 8 [.tmp 2] Tryd.func77 (by kernel_rfl) (by kernel_rfl) (by kernel_rfl) (by kernel_rfl)
/-- hallmoot/name.Letter -/
noncomputable def z10 : CT Tryd.prog Γm := CT.auto true 100 3 [z25] 73 Tryd.f73 (bodyOf Tryd.f73) false 19 [.tmp 2] Tryd.func73 (by kernel_rfl) (by kernel_rfl) (by kernel_rfl) (by kernel_rfl)
/-- hallmoot/name.broken -/
noncomputable def z28 : CT Tryd.prog Γm := CT.auto true 100 3 [] 75 Tryd.f75 (bodyOf Tryd.f75) false 20 [.tmp 6] Tryd.func75 (by kernel_rfl) (by kernel_rfl) (by kernel_rfl) (by kernel_rfl)
/-- unicode/utf8.appendRuneNonASCII -/
noncomputable def z34 : CT Tryd.prog Γm := CT.auto true 100 3 [] 111 Tryd.f111 (bodyOf Tryd.f111) false 78 [.tmp 4] Tryd.func111 (by kernel_rfl) (by kernel_rfl) (by kernel_rfl) (by kernel_rfl)
/-- unicode/utf8.AppendRune -/
noncomputable def z29 : CT Tryd.prog Γm := CT.auto true 100 3 [z34] 76 Tryd.f76 (bodyOf Tryd.f76) false 16 [.tmp 4] Tryd.func76 (by kernel_rfl) (by kernel_rfl) (by kernel_rfl) (by kernel_rfl)
/-- hallmoot/name.Check -/
noncomputable def z17 : CT Tryd.prog Γm := CT.auto true 100 3 [z10] 20 Tryd.f20 (bodyOf Tryd.f20) false 41 [.tmp 2] Tryd.func20 (by kernel_rfl) (by kernel_rfl) (by kernel_rfl) (by kernel_rfl)
/-- hallmoot/name.Fold -/
noncomputable def z21 : CT Tryd.prog Γm := CT.auto true 100 3 [z28, z29, z12, z17] 24 Tryd.f24 (bodyOf Tryd.f24) false 30 [.tmp 2, .tmp 3] Tryd.func24 (by kernel_rfl) (by kernel_rfl) (by kernel_rfl) (by kernel_rfl)
/-- hallmoot/name.Cut -/
noncomputable def z14 : CT Tryd.prog Γm := CT.auto true 100 3 [] 17 Tryd.f17 (bodyOf Tryd.f17) false 25 [.tmp 4, .tmp 5] Tryd.func17 (by kernel_rfl) (by kernel_rfl) (by kernel_rfl) (by kernel_rfl)
theorem run8 : (bodyE (P := Tryd.prog) (Γ := Γm) [z21, z14, z17] (autoL true 100 [z21, z14, z17] false 0 35 (loopBodies (bodyOf Tryd.f15)) 3) false 35 [.tmp 0] (bodyOf Tryd.f15) [] []).get = some ⟨.sb true, []⟩ := by kernel_rfl
/-- the example holds -/
noncomputable def z8 : CT Tryd.prog Γm := CT.fact 15 Tryd.f15 (bodyOf Tryd.f15) [z21, z14, z17] (autoL true 100 [z21, z14, z17] false 0 35 (loopBodies (bodyOf Tryd.f15)) 3) false 35 [.tmp 0] Tryd.func15 (by kernel_rfl) (by kernel_rfl) (by kernel_rfl) (by kernel_rfl) (autoL_ok 3) (.sb true) (.sb true) run8
end Go.Eng.TA

/- the chapters' examples. -/
namespace Go.Eng.TA
open Go Go.Eng Go.Proofs
set_option linter.unusedSimpArgs false
set_option linter.unusedVariables false
/-- hallmoot/pool.New -/
noncomputable def z45x : CT Tryd.prog Γm := CT.auto true 100 3 [] 45 Tryd.f45 (bodyOf Tryd.f45) false 13 [.tmp 2, .tmp 3] Tryd.func45 (by kernel_rfl) (by kernel_rfl) (by kernel_rfl) (by kernel_rfl)
/-- hallmoot/num.Within -/
noncomputable def z85x : CT Tryd.prog Γm := CT.auto true 100 3 [] 85 Tryd.f85 (bodyOf Tryd.f85) false 15 [.tmp 6] Tryd.func85 (by kernel_rfl) (by kernel_rfl) (by kernel_rfl) (by kernel_rfl)
/-- unicode/utf8.decodeRuneInStringSlow -/
noncomputable def z120x : CT Tryd.prog Γm := CT.auto true 100 3 [] 120 Tryd.f120 (bodyOf Tryd.f120) false 117 [.tmp 2, .tmp 3] Tryd.func120 (by kernel_rfl) (by kernel_rfl) (by kernel_rfl) (by kernel_rfl)
/-- unicode/utf8.DecodeRuneInString -/
noncomputable def z110x : CT Tryd.prog Γm := CT.auto true 100 3 [z120x] 110 Tryd.f110 (bodyOf Tryd.f110) false 19 [.tmp 2, .tmp 3] Tryd.func110 (by kernel_rfl) (by kernel_rfl) (by kernel_rfl) (by kernel_rfl)
/-- hallmoot/name.Value -/
noncomputable def z22x : CT Tryd.prog Γm := CT.auto true 100 3 [z28] 22 Tryd.f22 (bodyOf Tryd.f22) false 28 [.tmp 2] Tryd.func22 (by kernel_rfl) (by kernel_rfl) (by kernel_rfl) (by kernel_rfl)
/-- hallmoot/tx.Check -/
noncomputable def z32x : CT Tryd.prog Γm := CT.auto true 100 3 [z17, z85x, z22x] 32 Tryd.f32 (bodyOf Tryd.f32) false 66 [.tmp 2] Tryd.func32 (by kernel_rfl) (by kernel_rfl) (by kernel_rfl) (by kernel_rfl)
/-- slices.Index[[]hallmoot/api.Tx,hallmoot/api.Tx] -/
noncomputable def z117x : CT Tryd.prog Γm := CT.auto true 100 3 [] 117 Tryd.f117 (bodyOf Tryd.f117) false 19 [.tmp 4] Tryd.func117 (by kernel_rfl) (by kernel_rfl) (by kernel_rfl) (by kernel_rfl)
/-- slices.Contains[[]hallmoot/api.Tx,hallmoot/api.Tx] -/
noncomputable def z101x : CT Tryd.prog Γm := CT.auto true 100 3 [z117x] 101 Tryd.f101 (bodyOf Tryd.f101) false 9 [.tmp 4] Tryd.func101 (by kernel_rfl) (by kernel_rfl) (by kernel_rfl) (by kernel_rfl)
/-- (*hallmoot/pool.Pool).Add -/
noncomputable def z47x : CT Tryd.prog Γm := CT.auto true 100 3 [z32x, z101x] 47 Tryd.f47 (bodyOf Tryd.f47) false 41 [.tmp 4] Tryd.func47 (by kernel_rfl) (by kernel_rfl) (by kernel_rfl) (by kernel_rfl)
/-- (*hallmoot/pool.Pool).Len -/
noncomputable def z50x : CT Tryd.prog Γm := CT.auto true 100 3 [] 50 Tryd.f50 (bodyOf Tryd.f50) false 10 [.tmp 2] Tryd.func50 (by kernel_rfl) (by kernel_rfl) (by kernel_rfl) (by kernel_rfl)
theorem zrun44 : (bodyE (P := Tryd.prog) (Γ := Γm) [z45x, z47x, z50x] (autoL true 100 [z45x, z47x, z50x] false 0 36 (loopBodies (bodyOf Tryd.f44)) 3) false 36 [.tmp 0] (bodyOf Tryd.f44) [] []).get = some ⟨.sb true, []⟩ := by kernel_rfl
/-- hallmoot/hallmootlaw10.alive: it holds -/
noncomputable def z44' : CT Tryd.prog Γm := CT.fact 44 Tryd.f44 (bodyOf Tryd.f44) [z45x, z47x, z50x] (autoL true 100 [z45x, z47x, z50x] false 0 36 (loopBodies (bodyOf Tryd.f44)) 3) false 36 [.tmp 0] Tryd.func44 (by kernel_rfl) (by kernel_rfl) (by kernel_rfl) (by kernel_rfl) (autoL_ok 3) (.sb true) (.sb true) zrun44
end Go.Eng.TA

/- pool: the same lists; all; a batch. -/
namespace Go.Eng.TA
open Go Go.Eng Go.Eng.M Go.Lib Go.Proofs
set_option linter.unusedSimpArgs false
set_option linter.unusedVariables false
noncomputable abbrev lpSm : Code := loopOf (bodyOf Tryd.f51) 0
abbrev lvSm : List Nat := [0, 1, 5, 4]
def HSm (l j j' : List Tx) : List Blk := [txB' (l ++ j), txB' (l ++ j')]
def SSm (l j j' : List Tx) (i : Nat) : List AV × Heap := ([.hs 0 0 l.length, .hs 1 0 l.length, .v (.int .i64 (i : Int)), .any], (HSm l j j').map some)
def OSm (l j j' : List Tx) : Out := ⟨.exit 0, [.any, .any, .any, .any], (HSm l j j').map some⟩
theorem rSm (l j j' : List Tx) (i : Nat) : roundE (P := Tryd.prog) (Γ := Γm) [] Lno false 2 0 lpSm lvSm [] 26 (SSm l j j' i).1 (SSm l j j' i).2 =
  Tree.br (decide ((↑i : Int) < (↑(List.length l) : Int))) (.chk (decide ((0 : Int) ≤ (↑i : Int)) && decide ((↑i : Int) < (↑(List.length l) : Int)) && (decide ((0 : Int) ≤ (↑i : Int)) && 
    decide ((↑i : Int) < (↑(List.length l) : Int)))) (.br (!(decide ((List.getD (l ++ j) ((0 : Nat) + i) default).k = (List.getD (l ++ j') ((0 : Nat) + i) default).k) && (decide 
    ((List.getD (l ++ j) ((0 : Nat) + i) default).fr = (List.getD (l ++ j') ((0 : Nat) + i) default).fr) && (decide ((List.getD (l ++ j) ((0 : Nat) + i) default).to = (List.getD (l ++ 
    j') ((0 : Nat) + i) default).to) && (decide ((List.getD (l ++ j) ((0 : Nat) + i) default).ky = (List.getD (l ++ j') ((0 : Nat) + i) default).ky) && (decide ((List.getD (l ++ j) ((0 
    : Nat) + i) default).vl = (List.getD (l ++ j') ((0 : Nat) + i) default).vl) && (decide ((List.getD (l ++ j) ((0 : Nat) + i) default).am = (List.getD (l ++ j') ((0 : Nat) + i) 
    default).am) && decide ((List.getD (l ++ j) ((0 : Nat) + i) default).nn = (List.getD (l ++ j') ((0 : Nat) + i) default).nn)))))))) (.leaf (.mk .ret [.hs 0 0 (List.length l), .hs 1 
    0 (List.length l), .v (.int .i64 (↑i : Int)), .v (.bool false)] [some (.arr 7 (List.length (l ++ j)) (lsF Tx.c (l ++ j))), some (.arr 7 (List.length (l ++ j')) (lsF Tx.c (l ++ 
    j')))])) (.leaf (.mk .normal [.hs 0 0 (List.length l), .hs 1 0 (List.length l), .v (.int .i64 (IntKind.wrap IntKind.i64 ((↑i : Int) + (1 : Int)))), .any] [some (.arr 7 (List.length 
    (l ++ j)) (lsF Tx.c (l ++ j))), some (.arr 7 (List.length (l ++ j')) (lsF Tx.c (l ++ j')))])))) (.leaf (.mk (.exit 0) [.hs 0 0 (List.length l), .hs 1 0 (List.length l), .v (.int 
    .i64 (↑i : Int)), .any] [some (.arr 7 (List.length (l ++ j)) (lsF Tx.c (l ++ j))), some (.arr 7 (List.length (l ++ j')) (lsF Tx.c (l ++ j')))])) := by kernel_rfl
theorem loopSm {l j j' : List Tx} (hs : l.length ≤ 1000000000) : ∀ i : Nat, i ≤ l.length → LoopOK Tryd.prog Γm 2 26 lpSm (LSpec.at lvSm [] (SSm l j j' i) (OSm l j j')) := by
  refine loop_at (S := SSm l j j') (O := fun _ => OSm l j j') (k := 0) (fun i => l.length - i) fun i hp => .of (noLoops (by kernel_rfl)) (rSm l j j' i) ?_
  have hL : (l ++ j).length = l.length + j.length := List.length_append
  have hL' : (l ++ j').length = l.length + j'.length := List.length_append
  rcases Nat.lt_or_ge i l.length with hi | hi
  · have he := eqT_iff.2 (rfl : l.getD i default = l.getD i default)
    repeat' (first | refine wC (by first | omega | (simp only [W1, cond_true, cond_false, getD_app hi, eqTe, he, wrapUpN (show i ≤ 10000000000 by omega)]; first | done | omega)) ?_ | refine wT (by first | omega | (simp only [W1, cond_true, cond_false, getD_app hi, eqTe, he, wrapUpN (show i ≤ 10000000000 by omega)]; first | done | omega)) ?_ | refine wF (by intro _h; first | omega | (simp only [W1, cond_true, cond_false, getD_app hi, eqTe, he, wrapUpN (show i ≤ 10000000000 by omega)] at _h; first | done | omega)) ?_ | (refine wS ?_ ?_ <;> intro _h <;> simp only [W1, cond_true, cond_false, getD_app hi, eqTe, he, wrapUpN (show i ≤ 10000000000 by omega)] at _h))
    all_goals simp only [W1, W2, owesN, owesX, owesR, cond_true, cond_false, getD_app hi, eqTe, he, wrapUpN (show i ≤ 10000000000 by omega)]
    repeat' (first | apply And.intro | intro _hc)
    all_goals first | exact ⟨i + 1, LeL.refl _, LeH.refl _, hi, by omega⟩ | exact AV.le_refl _ | exact AV.le_any _ | exact OLe.refl _ | exact OLe.none _ | exact LeH.refl _ | exact LeL.refl _ | exact AV.le.bs _ | exact AV.le.sb _ | omega | contradiction
  · repeat' (first | refine wC (by first | omega | (simp only [W1, cond_true, cond_false]; first | done | omega)) ?_ | refine wT (by first | omega | (simp only [W1, cond_true, cond_false]; first | done | omega)) ?_ | refine wF (by intro _h; first | omega | (simp only [W1, cond_true, cond_false] at _h; first | done | omega)) ?_ | (refine wS ?_ ?_ <;> intro _h <;> simp only [W1, cond_true, cond_false] at _h))
    all_goals simp only [W1, W2, owesN, owesX, owesR, cond_true, cond_false]
    repeat' (first | apply And.intro | intro _hc)
    all_goals first | exact rfl | exact AV.le_refl _ | exact AV.le_any _ | exact OLe.refl _ | exact OLe.none _ | exact LeH.refl _ | exact LeL.refl _ | exact AV.le.bs _ | exact AV.le.sb _ | omega | contradiction
theorem runSm (l j j' : List Tx) : bodyE (P := Tryd.prog) (Γ := Γm) [] (fun _ => LSpec.at lvSm [] (SSm l j j' 0) (OSm l j j')) false 26 [.tmp 4] (bodyOf Tryd.f51) [.hs 0 0 l.length, .hs 1 0 l.length] (HSm l j j') =
  Tree.br (!decide ((↑(List.length l) : Int) = (↑(List.length l) : Int))) (.leaf (Ans.mk (.v (.bool false)) [some (.arr 7 (List.length (l ++ j)) (lsF Tx.c (l ++ j))), some (.arr 7 
    (List.length (l ++ j')) (lsF Tx.c (l ++ j')))])) (.chk (cl (LeL [.hs 0 0 (List.length l), .hs 1 0 (List.length l), .v (.int .i64 (0 : Int)), .v (.bool false)] [.hs 0 0 (List.length 
    l), .hs 1 0 (List.length l), .v (.int .i64 (↑(0 : Nat) : Int)), .any] ∧ LeH [some (.arr 7 (List.length (l ++ j)) (lsF Tx.c (l ++ j))), some (.arr 7 (List.length (l ++ j')) (lsF 
    Tx.c (l ++ j')))] [some (.arr 7 (List.length (l ++ j)) (lsF Tx.c (l ++ j))), some (.arr 7 (List.length (l ++ j')) (lsF Tx.c (l ++ j')))])) (.leaf (Ans.mk (.v (.bool true)) [some 
    (.arr 7 (List.length (l ++ j)) (lsF Tx.c (l ++ j))), some (.arr 7 (List.length (l ++ j')) (lsF Tx.c (l ++ j')))]))) := by kernel_rfl
theorem ansSm {l j j' : List Tx} (hs : l.length ≤ 1000000000) : Answers Tryd.prog Γm 51 [.hs 0 0 l.length, .hs 1 0 l.length] (HSm l j j') (.v (.bool true)) ((HSm l j j').map some) [] :=
  answers (fn := Tryd.f51) (c := bodyOf Tryd.f51) (ntmps := 26) (results := [.tmp 4]) [] (fun _ => LSpec.at lvSm [] (SSm l j j' 0) (OSm l j j')) false Tryd.func51 (by kernel_rfl) (by kernel_rfl) (by kernel_rfl) (by kernel_rfl) (by simp) rfl (oneLoop (b := lpSm) (by kernel_rfl) (loopSm hs 0 (Nat.zero_le _))) <| Meets.of (runSm l j j') <| by
    repeat' (first | refine wC (by first | omega | (simp only [W1, cond_true, cond_false]; first | done | omega)) ?_ | refine wT (by first | omega | (simp only [W1, cond_true, cond_false]; first | done | omega)) ?_ | refine wF (by intro _h; first | omega | (simp only [W1, cond_true, cond_false] at _h; first | done | omega)) ?_ | (refine wS ?_ ?_ <;> intro _h <;> simp only [W1, cond_true, cond_false] at _h))
    all_goals simp only [W1, W2, owesN, owesX, owesR, cond_true, cond_false]
    repeat' (first | apply And.intro | intro _hc)
    all_goals first | exact AV.le_refl _ | exact AV.le_any _ | exact OLe.refl _ | exact OLe.none _ | exact LeH.refl _ | exact LeL.refl _ | exact AV.le.bs _ | exact AV.le.sb _ | omega | contradiction
theorem cl7_n (L : List Tx) : bodyE (P := Tryd.prog) (Γ := Γm) [] Lno false 8 [.tmp 2] (bodyOf Tryd.f102) [.v (.slice none 0 0)] [(.arr 7 (L).length (lsF Tx.c (L)))] =
  Tree.leaf (Ans.mk (.v (.slice none (0 : Nat) (0 : Nat))) [some (.arr 7 (List.length L) (lsF Tx.c L))]) := by kernel_rfl
theorem cl7_s (L : List Tx) : bodyE (P := Tryd.prog) (Γ := Γm) [] Lno false 8 [.tmp 2] (bodyOf Tryd.f102) [.sl 7 0 fun _ => [.v (.tuple #[]), .v (.tuple #[]), .v (.tuple #[]), .v (.tuple #[]), .v (.tuple #[]), .v (.tuple #[]), .v (.tuple #[])]] [(.arr 7 (L).length (lsF Tx.c (L)))] =
  Tree.chk true (.chk true (.leaf (Ans.mk (.hs 1 0 (0 : Nat)) [some (.arr 7 (List.length L) (lsF Tx.c L)), some (.arr 7 (0 : Nat) fun j => mixL (decide (j < (0 : Nat))) (chain [.v (.int .i64 
    (0 : Int)), .v (.string (ByteArray.mk #[])), .v (.string (ByteArray.mk #[])), .v (.string (ByteArray.mk #[])), .v (.string (ByteArray.mk #[])), .v (.int .i64 (0 : Int)), .v (.int 
    .i64 (0 : Int))] (0 : Nat) [] ((0 : Nat) + j)) [.v (.tuple #[]), .v (.tuple #[]), .v (.tuple #[]), .v (.tuple #[]), .v (.tuple #[]), .v (.tuple #[]), .v (.tuple #[])])]))) := by kernel_rfl
theorem cl7_h (L : List Tx) (n : Nat) : bodyE (P := Tryd.prog) (Γ := Γm) [] Lno false 8 [.tmp 2] (bodyOf Tryd.f102) [.hs 0 0 n] [(.arr 7 (L).length (lsF Tx.c (L)))] =
  Tree.chk (Nat.blt (0 : Nat) n || Nat.blt (0 : Nat) (List.length L)) (.chk (roomOk (88 : Nat) ((0 : Nat) + n)) (.leaf (Ans.mk (.hs 1 0 ((0 : Nat) + n)) [some (.arr 7 (List.length L) (lsF 
    Tx.c L)), some (.arr 7 ((0 : Nat) + n) fun j => mixL (decide (j < (0 : Nat))) (chain [.v (.int .i64 (0 : Int)), .v (.string (ByteArray.mk #[])), .v (.string (ByteArray.mk #[])), .v 
    (.string (ByteArray.mk #[])), .v (.string (ByteArray.mk #[])), .v (.int .i64 (0 : Int)), .v (.int .i64 (0 : Int))] (0 : Nat) [] ((0 : Nat) + j)) (lsF Tx.c L ((0 : Nat) + j)))]))) := by kernel_rfl
theorem cl7_room {n : Nat} (h : n ≤ 1000000000) : roomOk 88 n = true := by
  unfold roomOk
  exact decide_eq_true (by omega)
theorem cl7 (l junk : List Tx) (hs : l.length ≤ 1000000000) : Answers Tryd.prog Γm 102 [.hs 0 0 l.length] [(.arr 7 (l ++ junk).length (lsF Tx.c (l ++ junk)))] (.hs 1 0 l.length) [some (.arr 7 (l ++ junk).length (lsF Tx.c (l ++ junk)))] [(.arr 7 (l).length (lsF Tx.c (l)))] := by
  by_cases h : 0 < (l ++ junk).length
  · exact answers (fn := Tryd.f102) (c := bodyOf Tryd.f102) (ntmps := 8) (results := [.tmp 2]) [] Lno false Tryd.func102 (by kernel_rfl) (by kernel_rfl) (by kernel_rfl) (by kernel_rfl) (by simp) rfl (noLoops (by kernel_rfl))
      (Meets.of (cl7_h (l ++ junk) l.length) (by
        simp only [W1, W2, owesN, owesX, owesR, cond_true, cond_false]
        repeat' (first | apply And.intro | intro _hc)
        all_goals first | omega | contradiction | exact AV.le_refl _ | exact AV.le_any _ | exact OLe.refl _ | exact OLe.none _ | exact LeH.refl _ | exact LeL.refl _ | exact AV.le.bs _ | exact AV.le.sb _ | exact .inr h | exact cl7_room (by omega) | exact Tx.cod.clone l junk default rfl | (exfalso; omega) | contradiction
        ))
  · obtain ⟨rfl, rfl⟩ : l = [] ∧ junk = [] := by
      have : (l ++ junk) = [] := List.eq_nil_of_length_eq_zero (by omega)
      simpa using this
    exact Answers.nilOr (sz := 7) (z := Tx.c default) rfl (M := [.v (.tuple #[]), .v (.tuple #[]), .v (.tuple #[]), .v (.tuple #[]), .v (.tuple #[]), .v (.tuple #[]), .v (.tuple #[])]) rfl
      (answers (fn := Tryd.f102) (c := bodyOf Tryd.f102) (ntmps := 8) (results := [.tmp 2]) [] Lno false Tryd.func102 (by kernel_rfl) (by kernel_rfl) (by kernel_rfl) (by kernel_rfl) (by simp) rfl (noLoops (by kernel_rfl))
        (Meets.of (cl7_n _) ⟨.refl _, OLe.refl _, trivial⟩))
      (answers (fn := Tryd.f102) (c := bodyOf Tryd.f102) (ntmps := 8) (results := [.tmp 2]) [] Lno false Tryd.func102 (by kernel_rfl) (by kernel_rfl) (by kernel_rfl) (by kernel_rfl) (by simp) rfl (noLoops (by kernel_rfl))
        (Meets.of (cl7_s _) ⟨rfl, rfl, .refl _, OLe.refl _, OLe.arr rfl (fun e he => absurd he (Nat.not_lt_zero e)) (fun _ => rfl), trivial⟩))
noncomputable def ccl7 : CT Tryd.prog Γm := CT.clone Tx.cod 102 cl7
/-! ### pools -/
def plR (i : Nat) (mo : Int) (n : Nat) : Blk := .row [.v (.int .i64 mo), .hs i 0 n]
theorem runAll (mo : Int) (l j : List Tx) (hs : l.length ≤ 1000000000) : bodyE (P := Tryd.prog) (Γ := Γm) [CT.at 102 (cl7 l j hs)] Lno false 10 [.tmp 2] (bodyOf Tryd.f48) [.ptr 0 0] [plR 1 mo l.length, txB' (l ++ j)] =
  Tree.chk (cl (LeL [.hs 0 0 (List.length l)] [.hs 0 0 (List.length l)] ∧ LeH [some (.arr 7 (List.length (l ++ j)) (lsF Tx.c (l ++ j)))] [some (.arr 7 (List.length (l ++ j)) (lsF Tx.c (l ++ 
    j)))])) (.leaf (Ans.mk (.hs 2 0 (List.length l)) [some (.row [.v (.int .i64 mo), .hs 1 0 (List.length l)]), some (.arr 7 (List.length (l ++ j)) (lsF Tx.c (l ++ j))), some (.arr 7 
    (List.length l) (lsF Tx.c l))])) := by kernel_rfl
theorem ansAll {mo : Int} {l j : List Tx} (hs : l.length ≤ 1000000000) : Answers Tryd.prog Γm 48 [.ptr 0 0] [plR 1 mo l.length, txB' (l ++ j)] (.hs 2 0 l.length) [some (plR 1 mo l.length), some (txB' (l ++ j))] [txB' l] :=
  answers (fn := Tryd.f48) (c := bodyOf Tryd.f48) (ntmps := 10) (results := [.tmp 2]) [CT.at 102 (cl7 l j hs)] Lno false Tryd.func48 (by kernel_rfl) (by kernel_rfl) (by kernel_rfl) (by kernel_rfl) (by simp) rfl (noLoops (by kernel_rfl)) <| Meets.of (runAll mo l j hs) <| by
    repeat' (first | refine wC (by first | omega | (simp only [W1, cond_true, cond_false]; first | done | omega)) ?_ | refine wT (by first | omega | (simp only [W1, cond_true, cond_false]; first | done | omega)) ?_ | refine wF (by intro _h; first | omega | (simp only [W1, cond_true, cond_false] at _h; first | done | omega)) ?_ | (refine wS ?_ ?_ <;> intro _h <;> simp only [W1, cond_true, cond_false] at _h))
    all_goals simp only [W1, W2, owesN, owesX, owesR, cond_true, cond_false]
    repeat' (first | apply And.intro | intro _hc)
    all_goals first | exact AV.le_refl _ | exact AV.le_any _ | exact OLe.refl _ | exact OLe.none _ | exact LeH.refl _ | exact LeL.refl _ | exact AV.le.bs _ | exact AV.le.sb _ | omega | contradiction
noncomputable def kNewP : CT Tryd.prog Γm := CT.auto false 3 3 [] 45 Tryd.f45 (bodyOf Tryd.f45) false 13 [.tmp 2, .tmp 3] Tryd.func45 (by kernel_rfl) (by kernel_rfl) (by kernel_rfl) (by kernel_rfl)
noncomputable def kAddP : CT Tryd.prog Γm := CT.auto false 3 3 [kTx, kCo] 47 Tryd.f47 (bodyOf Tryd.f47) false 41 [.tmp 4] Tryd.func47 (by kernel_rfl) (by kernel_rfl) (by kernel_rfl) (by kernel_rfl)
noncomputable def kLenP : CT Tryd.prog Γm := CT.auto false 3 3 [] 50 Tryd.f50 (bodyOf Tryd.f50) false 10 [.tmp 2] Tryd.func50 (by kernel_rfl) (by kernel_rfl) (by kernel_rfl) (by kernel_rfl)
/-! ### a batch -/
noncomputable abbrev lpBa : Code := loopOf (bodyOf Tryd.f49) 0
abbrev lvBa : List Nat := [1, 2, 7, 8, 16, 17, 18]
def turnB (out : List Tx) (w : ByteArray) (n : Int) : Bool := out.any fun u => decide (u.fr = w) && decide (u.nn = n)
def turnH (out : List Tx) : List KC → Bool
  | [.s w, .i n] => turnB out w n
  | _ => false
def anyV1 : List KC → List AV := fun _ => [.any]
def mpB (out : List Tx) : Blk := .mp [.str, .int .i64] true false out.length (turnH out) anyV1
def bstep (w : List Tx) (n : Int) (out : List Tx) (t : Tx) : List Tx := if turnB out t.fr t.nn = true ∨ hasT w t = true ∨ n ≤ out.length then out else out ++ [t]
structure XB where
  i : Nat
  out : List Tx
def SBa (mo : Int) (P j w : List Tx) (n : Int) (x : XB) : List AV × Heap := ([.v (.int .i64 n), .sl 7 w.length (lsF Tx.c w), .hs 2 0 x.out.length, .map 3, .hs 4 0 P.length, .v (.int .i64 (P.length : Int)), .v (.int .i64 (x.i : Int))], [some (plR 1 mo P.length), some (txB' (P ++ j)), some (txB' x.out), some (mpB x.out), some (txB' P)])
def OBa (mo : Int) (P j : List Tx) (out : List Tx) : Out := ⟨.exit 0, [.any, .any, .hs 2 0 out.length, .any, .any, .any, .any], [some (plR 1 mo P.length), some (txB' (P ++ j)), some (txB' out), none, none]⟩
theorem rBa (mo : Int) (P j w : List Tx) (n : Int) (x : XB) : roundE (P := Tryd.prog) (Γ := Γm) [kCo] Lno false 2 0 lpBa lvBa [(2, 40)] 55 (SBa mo P j w n x).1 (SBa mo P j w n x).2 =
  Tree.br (decide ((↑x.i : Int) < (↑(List.length P) : Int))) (.chk (decide ((0 : Int) ≤ (↑x.i : Int)) && decide ((↑x.i : Int) < (↑(List.length P) : Int))) (.chk (bif bif turnH x.out [KC.s 
    (List.getD P ((0 : Nat) + x.i) default).fr, KC.i (List.getD P ((0 : Nat) + x.i) default).nn] then true else false then true else cl ((isTx (lsF Tx.c w) ∧ List.length w ≤ 
    (1000000000 : Nat)) ∧ LeL [.sl 7 (List.length w) (lsF Tx.c w), .agg [.v (.int .i64 (List.getD P ((0 : Nat) + x.i) default).k), .v (.string (List.getD P ((0 : Nat) + x.i) 
    default).fr), .v (.string (List.getD P ((0 : Nat) + x.i) default).to), .v (.string (List.getD P ((0 : Nat) + x.i) default).ky), .v (.string (List.getD P ((0 : Nat) + x.i) 
    default).vl), .v (.int .i64 (List.getD P ((0 : Nat) + x.i) default).am), .v (.int .i64 (List.getD P ((0 : Nat) + x.i) default).nn)]] [.sl 7 (List.length w) (lsF Tx.c w), .agg [.v 
    (.int .i64 (List.getD P ((0 : Nat) + x.i) default).k), .v (.string (List.getD P ((0 : Nat) + x.i) default).fr), .v (.string (List.getD P ((0 : Nat) + x.i) default).to), .v (.string 
    (List.getD P ((0 : Nat) + x.i) default).ky), .v (.string (List.getD P ((0 : Nat) + x.i) default).vl), .v (.int .i64 (List.getD P ((0 : Nat) + x.i) default).am), .v (.int .i64 
    (List.getD P ((0 : Nat) + x.i) default).nn)]] ∧ LeH [] [])) (.br (bif bif turnH x.out [KC.s (List.getD P ((0 : Nat) + x.i) default).fr, KC.i (List.getD P ((0 : Nat) + x.i) 
    default).nn] then true else false then true else bif hasF (List.length w) (lsF Tx.c w) (Tx.mk (List.getD P ((0 : Nat) + x.i) default).k (List.getD P ((0 : Nat) + x.i) default).fr 
    (List.getD P ((0 : Nat) + x.i) default).to (List.getD P ((0 : Nat) + x.i) default).ky (List.getD P ((0 : Nat) + x.i) default).vl (List.getD P ((0 : Nat) + x.i) default).am 
    (List.getD P ((0 : Nat) + x.i) default).nn) then true else decide (n ≤ (↑(List.length x.out) : Int))) (.leaf (.mk .normal [.v (.int .i64 n), .sl 7 (List.length w) (lsF Tx.c w), .hs 
    2 0 (List.length x.out), AV.map (3 : Nat), .hs 4 0 (List.length P), .v (.int .i64 (↑(List.length P) : Int)), .v (.int .i64 (IntKind.wrap IntKind.i64 ((↑x.i : Int) + (1 : Int))))] 
    [some (.row [.v (.int .i64 mo), .hs 1 0 (List.length P)]), some (.arr 7 (List.length (P ++ j)) (lsF Tx.c (P ++ j))), some (.arr 7 (List.length x.out) (lsF Tx.c x.out)), some 
    (Blk.mp [Cel.str, Cel.int IntKind.i64] true false (List.length x.out) (turnH x.out) anyV1), some (.arr 7 (List.length P) (lsF Tx.c P))])) (.chk (roomOk (88 : Nat) (List.length 
    x.out + (1 : Nat))) (.leaf (.mk .normal [.v (.int .i64 n), .sl 7 (List.length w) (lsF Tx.c w), .hs 2 0 (List.length x.out + (1 : Nat)), AV.map (3 : Nat), .hs 4 0 (List.length P), 
    .v (.int .i64 (↑(List.length P) : Int)), .v (.int .i64 (IntKind.wrap IntKind.i64 ((↑x.i : Int) + (1 : Int))))] [some (.row [.v (.int .i64 mo), .hs 1 0 (List.length P)]), some (.arr 
    7 (List.length (P ++ j)) (lsF Tx.c (P ++ j))), some (.arr 7 (List.length x.out + (1 : Nat)) fun j => mixL (decide (j < List.length x.out)) (lsF Tx.c x.out ((0 : Nat) + j)) (chain 
    [.v (.int .i64 (0 : Int)), .v (.string (ByteArray.mk #[])), .v (.string (ByteArray.mk #[])), .v (.string (ByteArray.mk #[])), .v (.string (ByteArray.mk #[])), .v (.int .i64 (0 : 
    Int)), .v (.int .i64 (0 : Int))] (0 : Nat) [[.v (.int .i64 (List.getD P ((0 : Nat) + x.i) default).k), .v (.string (List.getD P ((0 : Nat) + x.i) default).fr), .v (.string 
    (List.getD P ((0 : Nat) + x.i) default).to), .v (.string (List.getD P ((0 : Nat) + x.i) default).ky), .v (.string (List.getD P ((0 : Nat) + x.i) default).vl), .v (.int .i64 
    (List.getD P ((0 : Nat) + x.i) default).am), .v (.int .i64 (List.getD P ((0 : Nat) + x.i) default).nn)]] ((0 : Nat) + (j - List.length x.out)))), some (Blk.mp [Cel.str, Cel.int 
    IntKind.i64] true false (bif turnH x.out [KC.s (List.getD P ((0 : Nat) + x.i) default).fr, KC.i (List.getD P ((0 : Nat) + x.i) default).nn] then List.length x.out else List.length 
    x.out + (1 : Nat)) (fun p => eqK p [KC.s (List.getD P ((0 : Nat) + x.i) default).fr, KC.i (List.getD P ((0 : Nat) + x.i) default).nn] || turnH x.out p) fun p => [mixMV (eqK p [KC.s 
    (List.getD P ((0 : Nat) + x.i) default).fr, KC.i (List.getD P ((0 : Nat) + x.i) default).nn]) (.v (.int .i64 (↑(List.length x.out) : Int))) .any]), some (.arr 7 (List.length P) 
    (lsF Tx.c P))])))))) (.leaf (.mk (.exit 0) [.v (.int .i64 n), .sl 7 (List.length w) (lsF Tx.c w), .hs 2 0 (List.length x.out), AV.map (3 : Nat), .hs 4 0 (List.length P), .v (.int 
    .i64 (↑(List.length P) : Int)), .v (.int .i64 (↑x.i : Int))] [some (.row [.v (.int .i64 mo), .hs 1 0 (List.length P)]), some (.arr 7 (List.length (P ++ j)) (lsF Tx.c (P ++ j))), 
    some (.arr 7 (List.length x.out) (lsF Tx.c x.out)), some (Blk.mp [Cel.str, Cel.int IntKind.i64] true false (List.length x.out) (turnH x.out) anyV1), some (.arr 7 (List.length P) 
    (lsF Tx.c P))])) := by kernel_rfl
end Go.Eng.TA

/- pool: a batch: what it is. -/
namespace Go.Eng.TA
open Go Go.Eng Go.Eng.M Go.Lib Go.Proofs
set_option linter.unusedSimpArgs false
set_option linter.unusedVariables false
theorem turnH_at (out : List Tx) (w : ByteArray) (n : Int) : turnH out [KC.s w, KC.i n] = turnB out w n := rfl
theorem turnB_app (out : List Tx) (t : Tx) (w : ByteArray) (n : Int) : turnB (out ++ [t]) w n = (turnB out w n || (decide (t.fr = w) && decide (t.nn = n))) := by
  unfold turnB; rw [List.any_append]; simp
theorem eqK2 {w v : ByteArray} {n m : Int} : eqK [KC.s w, KC.i n] [KC.s v, KC.i m] = (decide (w = v) && decide (n = m)) := rfl
theorem turnMap {out : List Tx} {t : Tx} {g : List KC → List AV} (hg : ∀ p, (g p).length = 1) : OLe (some (.mp [.str, .int .i64] true false (out.length + 1) (fun p => eqK p [KC.s t.fr, KC.i t.nn] || turnH out p) g)) (some (mpB (out ++ [t]))) := by
  unfold mpB
  rw [show (out ++ [t]).length = out.length + 1 by simp]
  refine OLe.mp rfl (fun p => ?_) fun p hp => ?_
  · match p with
    | [] => rfl
    | [.s w] => simp [eqK, turnH]
    | [.i n] => rfl
    | [.b _] => rfl
    | .i _ :: _ :: _ => rfl
    | .b _ :: _ :: _ => rfl
    | .s w :: .s _ :: r => cases r <;> simp [eqK, turnH, KC.eq]
    | .s w :: .b _ :: r => cases r <;> simp [eqK, turnH, KC.eq]
    | .s w :: .i n :: q :: r => simp [eqK, turnH]
    | [.s w, .i n] =>
      rw [eqK2, turnH_at, turnH_at, turnB_app]
      by_cases h1 : w = t.fr
      · by_cases h2 : n = t.nn
        · subst h1; subst h2; simp
        · have h2' : ¬ t.nn = n := fun e => h2 e.symm
          simp [h2, h2']
      · have h1' : ¬ t.fr = w := fun e => h1 e.symm
        simp [h1, h1']
  · have := hg p
    match h : g p, this with
    | [x], _ => exact ⟨.any _, trivial⟩
def batF (w : List Tx) (n : Int) (l out : List Tx) : List Tx := l.foldl (bstep w n) out
theorem loopBa {mo : Int} {P j w : List Tx} {n : Int} (hP : P.length ≤ 100000) (hw : w.length ≤ 100000) {res : List Tx} : ∀ x : XB, (x.i ≤ P.length ∧ batF w n (P.drop x.i) x.out = res ∧ x.out.length ≤ x.i) → LoopOK Tryd.prog Γm 2 55 lpBa (LSpec.at lvBa [(2, 40)] (SBa mo P j w n x) (OBa mo P j res)) := by
  refine loop_at (S := SBa mo P j w n) (O := fun _ => OBa mo P j res) (k := 0) (fun x => P.length - x.i) fun x hp => .of (noLoops (by kernel_rfl)) (rBa mo P j w n x) ?_
  obtain ⟨i, out⟩ := x
  obtain ⟨h1, h2, h3⟩ := hp
  dsimp only at h1 h2 h3
  rcases Nat.lt_or_ge i P.length with hi | hi
  · have hd : P.drop i = P.getD i default :: P.drop (i + 1) := by rw [List.drop_eq_getElem_cons hi, getD_get hi]
    rw [hd] at h2
    have hx : Tx.mk (P.getD i default).k (P.getD i default).fr (P.getD i default).to (P.getD i default).ky (P.getD i default).vl (P.getD i default).am (P.getD i default).nn = P.getD i default := rfl
    have h2 : batF w n (P.drop (i + 1)) (bstep w n out (P.getD i default)) = res := h2
    have hg : isTx (lsF Tx.c w) := isTx_ls w
    have hstep : ∀ {o : List Tx}, bstep w n out (P.getD i default) = o → o.length ≤ i + 1 → batF w n (P.drop (i + 1)) o = res ∧ o.length ≤ i + 1 := fun e h => ⟨by rw [← e]; exact h2, h⟩
    simp only [Nat.zero_add, Int.toNat_natCast]
    generalize P.getD i default = t at *
    cases ht : turnB out t.fr t.nn with
    | true =>
      have hb : bstep w n out t = out := if_pos (.inl ht)
      obtain ⟨k1, k2⟩ := hstep hb (by omega)
      repeat' (first | refine wC (by first | omega | (simp only [W1, cond_true, cond_false, turnH_at, ht, hx, hasF_l, wrapUpN (show i ≤ 10000000000 by omega)]; first | done | omega)) ?_ | refine wT (by first | omega | (simp only [W1, cond_true, cond_false, turnH_at, ht, hx, hasF_l, wrapUpN (show i ≤ 10000000000 by omega)]; first | done | omega)) ?_ | refine wF (by intro _h; first | omega | (simp only [W1, cond_true, cond_false, turnH_at, ht, hx, hasF_l, wrapUpN (show i ≤ 10000000000 by omega)] at _h; first | done | omega)) ?_ | (refine wS ?_ ?_ <;> intro _h <;> simp only [W1, cond_true, cond_false, turnH_at, ht, hx, hasF_l, wrapUpN (show i ≤ 10000000000 by omega)] at _h))
      all_goals simp only [W1, W2, owesN, owesX, owesR, cond_true, cond_false, turnH_at, ht, hx, hasF_l, wrapUpN (show i ≤ 10000000000 by omega)]
      repeat' (first | apply And.intro | intro _hc)
      all_goals first | exact ⟨⟨i + 1, out⟩, LeL.refl _, LeH.refl _, ⟨hi, k1, k2⟩, by dsimp only; omega⟩ | exact AV.le_refl _ | exact AV.le_any _ | exact OLe.refl _ | exact OLe.none _ | exact LeH.refl _ | exact LeL.refl _ | exact AV.le.bs _ | exact AV.le.sb _ | omega | contradiction
    | false =>
      cases hh : hasT w t with
      | true =>
        have hb : bstep w n out t = out := if_pos (.inr (.inl hh))
        obtain ⟨k1, k2⟩ := hstep hb (by omega)
        repeat' (first | refine wC (by first | omega | (simp only [W1, cond_true, cond_false, turnH_at, ht, hx, hasF_l, hh, hg, wrapUpN (show i ≤ 10000000000 by omega)]; first | done | omega)) ?_ | refine wT (by first | omega | (simp only [W1, cond_true, cond_false, turnH_at, ht, hx, hasF_l, hh, hg, wrapUpN (show i ≤ 10000000000 by omega)]; first | done | omega)) ?_ | refine wF (by intro _h; first | omega | (simp only [W1, cond_true, cond_false, turnH_at, ht, hx, hasF_l, hh, hg, wrapUpN (show i ≤ 10000000000 by omega)] at _h; first | done | omega)) ?_ | (refine wS ?_ ?_ <;> intro _h <;> simp only [W1, cond_true, cond_false, turnH_at, ht, hx, hasF_l, hh, hg, wrapUpN (show i ≤ 10000000000 by omega)] at _h))
        all_goals simp only [W1, W2, owesN, owesX, owesR, cond_true, cond_false, turnH_at, ht, hx, hasF_l, hh, hg, wrapUpN (show i ≤ 10000000000 by omega)]
        repeat' (first | apply And.intro | intro _hc)
        all_goals first | exact ⟨⟨i + 1, out⟩, LeL.refl _, LeH.refl _, ⟨hi, k1, k2⟩, by dsimp only; omega⟩ | exact AV.le_refl _ | exact AV.le_any _ | exact OLe.refl _ | exact OLe.none _ | exact LeH.refl _ | exact LeL.refl _ | exact AV.le.bs _ | exact AV.le.sb _ | omega | contradiction
      | false =>
        by_cases hn : n ≤ (out.length : Int)
        · have hb : bstep w n out t = out := if_pos (.inr (.inr hn))
          obtain ⟨k1, k2⟩ := hstep hb (by omega)
          repeat' (first | refine wC (by first | omega | (simp only [W1, cond_true, cond_false, turnH_at, ht, hx, hasF_l, hh, hg, wrapUpN (show i ≤ 10000000000 by omega)]; first | done | omega)) ?_ | refine wT (by first | omega | (simp only [W1, cond_true, cond_false, turnH_at, ht, hx, hasF_l, hh, hg, wrapUpN (show i ≤ 10000000000 by omega)]; first | done | omega)) ?_ | refine wF (by intro _h; first | omega | (simp only [W1, cond_true, cond_false, turnH_at, ht, hx, hasF_l, hh, hg, wrapUpN (show i ≤ 10000000000 by omega)] at _h; first | done | omega)) ?_ | (refine wS ?_ ?_ <;> intro _h <;> simp only [W1, cond_true, cond_false, turnH_at, ht, hx, hasF_l, hh, hg, wrapUpN (show i ≤ 10000000000 by omega)] at _h))
          all_goals simp only [W1, W2, owesN, owesX, owesR, cond_true, cond_false, turnH_at, ht, hx, hasF_l, hh, hg, wrapUpN (show i ≤ 10000000000 by omega)]
          repeat' (first | apply And.intro | intro _hc)
          all_goals first | exact ⟨⟨i + 1, out⟩, LeL.refl _, LeH.refl _, ⟨hi, k1, k2⟩, by dsimp only; omega⟩ | exact AV.le_refl _ | exact AV.le_any _ | exact OLe.refl _ | exact OLe.none _ | exact LeH.refl _ | exact LeL.refl _ | exact AV.le.bs _ | exact AV.le.sb _ | omega | contradiction
        · have hb : bstep w n out t = out ++ [t] := if_neg (by rw [ht, hh]; simp; omega)
          obtain ⟨k1, k2⟩ := hstep hb (by simp; omega)
          have ha := Tx.cod.app0 out t default rfl (N := out.length + 1) rfl
          repeat' (first | refine wC (by first | omega | (simp only [W1, cond_true, cond_false, turnH_at, ht, hx, hasF_l, hh, hg, wrapUpN (show i ≤ 10000000000 by omega)]; first | done | omega)) ?_ | refine wT (by first | omega | (simp only [W1, cond_true, cond_false, turnH_at, ht, hx, hasF_l, hh, hg, wrapUpN (show i ≤ 10000000000 by omega)]; first | done | omega)) ?_ | refine wF (by intro _h; first | omega | (simp only [W1, cond_true, cond_false, turnH_at, ht, hx, hasF_l, hh, hg, wrapUpN (show i ≤ 10000000000 by omega)] at _h; first | done | omega)) ?_ | (refine wS ?_ ?_ <;> intro _h <;> simp only [W1, cond_true, cond_false, turnH_at, ht, hx, hasF_l, hh, hg, wrapUpN (show i ≤ 10000000000 by omega)] at _h))
          all_goals simp only [W1, W2, owesN, owesX, owesR, cond_true, cond_false, turnH_at, ht, hx, hasF_l, hh, hg, wrapUpN (show i ≤ 10000000000 by omega)]
          repeat' (first | apply And.intro | intro _hc)
          all_goals first | exact cl7_room (by omega) | exact ⟨⟨i + 1, out ++ [t]⟩, ⟨.refl _, .refl _, by (rw [List.length_append]; exact AV.le_refl _), .refl _, .refl _, .refl _, .refl _, trivial⟩, ⟨OLe.refl _, OLe.refl _, ha, turnMap (fun _ => rfl), OLe.refl _, trivial⟩, ⟨hi, k1, k2⟩, by dsimp only; omega⟩ | exact AV.le_refl _ | exact AV.le_any _ | exact OLe.refl _ | exact OLe.none _ | exact LeH.refl _ | exact LeL.refl _ | exact AV.le.bs _ | exact AV.le.sb _ | omega | contradiction
  · rw [List.drop_eq_nil_of_le hi] at h2
    have h2 : out = res := h2
    subst h2
    repeat' (first | refine wC (by first | omega | (simp only [W1, cond_true, cond_false]; first | done | omega)) ?_ | refine wT (by first | omega | (simp only [W1, cond_true, cond_false]; first | done | omega)) ?_ | refine wF (by intro _h; first | omega | (simp only [W1, cond_true, cond_false] at _h; first | done | omega)) ?_ | (refine wS ?_ ?_ <;> intro _h <;> simp only [W1, cond_true, cond_false] at _h))
    all_goals simp only [W1, W2, owesN, owesX, owesR, cond_true, cond_false]
    repeat' (first | apply And.intro | intro _hc)
    all_goals first | exact rfl | exact AV.le_refl _ | exact AV.le_any _ | exact OLe.refl _ | exact OLe.none _ | exact LeH.refl _ | exact LeL.refl _ | exact AV.le.bs _ | exact AV.le.sb _ | omega | contradiction
theorem runBa (mo : Int) (P j w : List Tx) (n : Int) (res : List Tx) (hs : P.length ≤ 1000000000) : bodyE (P := Tryd.prog) (Γ := Γm) [CT.at 48 (ansAll (mo := mo) (l := P) (j := j) hs)] (fun _ => LSpec.at lvBa [(2, 40)] (SBa mo P j w n ⟨0, []⟩) (OBa mo P j res)) false 55 [.tmp 6] (bodyOf Tryd.f49) [.ptr 0 0, .v (.int .i64 n), .sl 7 w.length (lsF Tx.c w)] [plR 1 mo P.length, txB' (P ++ j)] =
  Tree.chk (cl (LeL [.ptr 0 0] [.ptr 0 0] ∧ LeH [some (.row [.v (.int .i64 mo), .hs 1 0 (List.length P)]), some (.arr 7 (List.length (P ++ j)) (lsF Tx.c (P ++ j)))] [some (.row [.v (.int .i64 
    mo), .hs 1 0 (List.length P)]), some (.arr 7 (List.length (P ++ j)) (lsF Tx.c (P ++ j)))])) (.chk (cl (LeL [.v (.int .i64 n), .sl 7 (List.length w) (lsF Tx.c w), .hs 2 0 (0 : Nat), 
    AV.map (3 : Nat), .hs 4 0 (List.length P), .v (.int .i64 (↑(List.length P) : Int)), .v (.int .i64 (0 : Int))] [.v (.int .i64 n), .sl 7 (List.length w) (lsF Tx.c w), .hs 2 0 (0 : 
    Nat), AV.map (3 : Nat), .hs 4 0 (List.length P), .v (.int .i64 (↑(List.length P) : Int)), .v (.int .i64 (↑(0 : Nat) : Int))] ∧ LeH [some (.row [.v (.int .i64 mo), .hs 1 0 
    (List.length P)]), some (.arr 7 (List.length (P ++ j)) (lsF Tx.c (P ++ j))), some (.arr 7 (0 : Nat) fun x => [.v (.int .i64 (0 : Int)), .v (.string (ByteArray.mk #[])), .v (.string 
    (ByteArray.mk #[])), .v (.string (ByteArray.mk #[])), .v (.string (ByteArray.mk #[])), .v (.int .i64 (0 : Int)), .v (.int .i64 (0 : Int))]), some (Blk.mp [Cel.str, Cel.int 
    IntKind.i64] true false (0 : Nat) (fun x => false) fun x => [.v (.int .i64 (0 : Int))]), some (.arr 7 (List.length P) (lsF Tx.c P))] [some (.row [.v (.int .i64 mo), .hs 1 0 
    (List.length P)]), some (.arr 7 (List.length (P ++ j)) (lsF Tx.c (P ++ j))), some (.arr 7 (0 : Nat) (lsF Tx.c (XB.mk (0 : Nat) []).out)), some (Blk.mp [Cel.str, Cel.int 
    IntKind.i64] true false (0 : Nat) (turnH (XB.mk (0 : Nat) []).out) anyV1), some (.arr 7 (List.length P) (lsF Tx.c P))])) (.leaf (Ans.mk (.hs 2 0 (List.length res)) [some (.row [.v 
    (.int .i64 mo), .hs 1 0 (List.length P)]), some (.arr 7 (List.length (P ++ j)) (lsF Tx.c (P ++ j))), some (.arr 7 (List.length res) (lsF Tx.c res))]))) := by kernel_rfl
theorem ansBa {mo : Int} {P j w : List Tx} {n : Int} (hP : P.length ≤ 100000) (hw : w.length ≤ 100000) : Answers Tryd.prog Γm 49 [.ptr 0 0, .v (.int .i64 n), .sl 7 w.length (lsF Tx.c w)] [plR 1 mo P.length, txB' (P ++ j)] (.hs 2 0 (batF w n P []).length) [some (plR 1 mo P.length), some (txB' (P ++ j))] [txB' (batF w n P [])] :=
  answers (fn := Tryd.f49) (c := bodyOf Tryd.f49) (ntmps := 55) (results := [.tmp 6]) [CT.at 48 (ansAll (mo := mo) (l := P) (j := j) (by omega))] (fun _ => LSpec.at lvBa [(2, 40)] (SBa mo P j w n ⟨0, []⟩) (OBa mo P j (batF w n P []))) false Tryd.func49 (by kernel_rfl) (by kernel_rfl) (by kernel_rfl) (by kernel_rfl) (by simp) rfl (oneLoop (b := lpBa) (by kernel_rfl) (loopBa hP hw ⟨0, []⟩ ⟨Nat.zero_le _, rfl, Nat.le_refl _⟩)) <| Meets.of (runBa mo P j w n (batF w n P []) (by omega)) <| by
    have hM : OLe (some (.mp [.str, .int .i64] true false 0 (fun _ => false) fun _ => [AV.v (Value.int IntKind.i64 0)])) (some (mpB [])) := OLe.mp rfl (fun p => by
      match p with
      | [] => rfl
      | [.s w] => rfl
      | .i _ :: _ => rfl
      | .b _ :: _ => rfl
      | .s w :: .s _ :: _ => rfl
      | .s w :: .b _ :: _ => rfl
      | .s w :: .i n :: q :: r => rfl
      | [.s w, .i n] => rfl) (fun _ _ => ⟨.any _, trivial⟩)
    repeat' (first | refine wC (by first | omega | (simp only [W1, cond_true, cond_false]; first | done | omega)) ?_ | refine wT (by first | omega | (simp only [W1, cond_true, cond_false]; first | done | omega)) ?_ | refine wF (by intro _h; first | omega | (simp only [W1, cond_true, cond_false] at _h; first | done | omega)) ?_ | (refine wS ?_ ?_ <;> intro _h <;> simp only [W1, cond_true, cond_false] at _h))
    all_goals simp only [W1, W2, owesN, owesX, owesR, cond_true, cond_false]
    repeat' (first | apply And.intro | intro _hc)
    all_goals first | exact OLe.arr rfl (fun e he => absurd he (Nat.not_lt_zero e)) (fun _ => rfl) | exact hM | exact AV.le_refl _ | exact AV.le_any _ | exact OLe.refl _ | exact OLe.none _ | exact LeH.refl _ | exact LeL.refl _ | exact AV.le.bs _ | exact AV.le.sb _ | omega | contradiction
end Go.Eng.TA

/- A slice of elements that hold slices, as an argument. -/
namespace Go.Eng
open Go Go.ChangeShapes
set_option linter.unusedSimpArgs false
set_option linter.unusedVariables false
section
variable {H : Type} {enc : TypeId × Value → H} {P : Program} {w : World} {base : Nat} {sp : Nat → Bool} {held : Bool}
theorem trod_sl {α : Type} [Inhabited α] (c : α → List AV) {sz : Nat} (E : α → List Value → Prop) {e : TypeId} (hz : 0 < sz) (hc : P.cellsOf e = sz) (hm : mkd (c default) = false) (hcl : ∀ a, (c a).length = sz)
    (hE : ∀ fuel cs x, DataW.trod enc P w base sp held fuel e cs = some x → ∃ a, E a cs)
    (hV : ∀ a cs, E a cs → ∀ (j : Nat) (x : AV) (y : Value), (c a)[j]? = some x → cs[j]? = some y → V0 (σof w) x y ∧ y.oneCell' = true)
    {t : TypeId} {fuel : Nat} {cs : List Value} {x : DataW H × List MemPlace} (ht : P.underlying t = some (.slice e)) (h : DataW.trod enc P w base sp held fuel t cs = some x) :
    ∃ (v : Value) (l : List α), cs = [v] ∧ V0 (σof w) (.sl sz l.length (lsF c l)) v ∧ v.oneCell' = true ∧ ∀ i, i < l.length → ∃ vs, E (l.getD i default) vs := by
  have hd : ∀ e, (lsF c ([] : List α) e).length = sz := fun e => hcl _
  rcases DataW.trod_slice ht h with ⟨rfl, _⟩ | ⟨a, len, cap, elems, rest, n, _, rfl, _, hb, hl, hmx, hlen, hel, _, _⟩
  · exact ⟨_, [], rfl, .slnil sz 0 _ none 0 hd rfl (fun _ => hm), rfl, fun i hi => absurd hi (Nat.not_lt_zero _)⟩
  by_cases h0 : len = 0
  · subst h0
    exact ⟨_, [], rfl, .slnil sz 0 _ (some a) cap hd rfl (fun e => by cases e), rfl, fun i hi => absurd hi (Nat.not_lt_zero _)⟩
  have got : ∀ i, i < len → ∃ cs, w.cells? base (a.add (i * P.cellsOf e)) (P.cellsOf e) = some cs ∧ ∃ x, DataW.trod enc P w base sp held n e cs = some x := by
    intro i hi
    have h2 := hel i hi
    rw [List.getElem?_eq_getElem (by omega), Option.bind_eq_some_iff] at h2
    obtain ⟨cs, h3, h4⟩ := h2
    exact ⟨cs, h3, _, h4⟩
  have hsp : a.spot = none := by
    obtain ⟨cs, h3, _⟩ := got 0 (by omega)
    obtain ⟨_, h4, h5⟩ := World.cells?_some h3
    have h6 := h5 0 (by omega)
    rw [Nat.zero_mul] at h6
    have e1 : (a.add 0).add 0 = a := by unfold Addr.add; simp
    rw [e1, List.getElem?_eq_getElem (by omega)] at h6
    unfold World.cell? at h6
    split at h6
    · split at h6
      · cases h6
      · rename_i hs
        cases hsx : a.spot with
        | none => rfl
        | some _ => rw [hsx] at hs; simp at hs
    · cases h6
  have each : ∀ i, i < len → ∃ u : α, ∃ vs, E u vs ∧ vs.length = sz ∧ ∀ (j : Nat) (y : Value), vs[j]? = some y → σof w a.block (a.off + i * sz + j) = some y := by
    intro i hi
    obtain ⟨cs, h3, x, h4⟩ := got i hi
    obtain ⟨u, hu⟩ := hE n cs x h4
    obtain ⟨_, k1, k2⟩ := World.cells?_some h3
    refine ⟨u, cs, hu, by rw [k1, hc], fun j y hj => ?_⟩
    have hjl : j < sz := by have := (List.getElem?_eq_some_iff.1 hj).1; rw [k1, hc] at this; exact this
    have h5 := k2 j (by rw [hc]; exact hjl)
    rw [hj] at h5
    have e2 : (a.add (i * P.cellsOf e)).add j = ⟨a.block, a.off + i * sz + j, none⟩ := by
      rw [hc]
      unfold Addr.add
      obtain ⟨ab, ao, asp⟩ := a
      simp only at hsp
      subst hsp
      by_cases h0 : i * sz = 0
      · by_cases h1 : j = 0
        · simp [h0, h1]
        · simp [h0, h1]
      · by_cases h1 : j = 0
        · simp [h0, h1]
        · simp [h0, h1]
    rw [e2] at h5
    exact σof_of h5
  let g : Nat → α := fun i => if h : i < len then (each i h).choose else default
  have hg : ∀ i, i < len → ((List.range len).map g).getD i default = g i := fun i hi => by
    rw [List.getD_eq_getElem?_getD, List.getElem?_map, List.getElem?_range hi]; rfl
  have spec : ∀ i (hi : i < len), ∃ vs, E (g i) vs ∧ vs.length = sz ∧ ∀ (j : Nat) (y : Value), vs[j]? = some y → σof w a.block (a.off + i * sz + j) = some y := fun i hi => by
    show ∃ vs, E (if h : i < len then (each i h).choose else default) vs ∧ _
    rw [dif_pos hi]
    exact (each i hi).choose_spec
  refine ⟨_, (List.range len).map g, rfl, ?_, rfl, fun i hi => ?_⟩
  · have hln : ((List.range len).map g).length = len := by simp
    rw [hln]
    have at' : ∀ (e j : Nat) (x : AV), e < len → (lsF c ((List.range len).map g) e)[j]? = some x → ∃ y, σof w a.block (a.off + e * sz + j) = some y ∧ V0 (σof w) x y ∧ y.oneCell' = true := by
      intro e j x he hj
      rw [lsF_at, hg e he] at hj
      obtain ⟨vs, k1, k2, k3⟩ := spec e he
      have hjl : j < sz := by have := (List.getElem?_eq_some_iff.1 hj).1; rw [hcl] at this; exact this
      have hy : vs[j]? = some vs[j] := List.getElem?_eq_getElem (by omega)
      obtain ⟨k4, k5⟩ := hV _ _ k1 j x _ hj hy
      exact ⟨_, k3 j _ hy, k4, k5⟩
    have hval : ∀ (e j : Nat) (x : AV) (he : e < len) (hj : (lsF c ((List.range len).map g) e)[j]? = some x), σof w a.block (a.off + e * sz + j) = some ((σof w a.block (a.off + e * sz + j)).getD (.bool false)) ∧ V0 (σof w) x ((σof w a.block (a.off + e * sz + j)).getD (.bool false)) ∧ ((σof w a.block (a.off + e * sz + j)).getD (.bool false)).oneCell' = true := by
      intro e j x he hj
      obtain ⟨y, h1, h2, h3⟩ := at' e j x he hj
      rw [h1]
      exact ⟨rfl, h2, h3⟩
    exact .sl sz len _ a cap (fun e j => (σof w a.block (a.off + e * sz + j)).getD (.bool false)) hsp hl (fun i => hcl _) (fun e j x he hj => (hval e j x he hj).1) (fun e j x he hj => (hval e j x he hj).2.2) (fun e j x he hj => (hval e j x he hj).2.1)
  · have hi' : i < len := by simpa using hi
    rw [hg i hi']
    obtain ⟨vs, k1, _⟩ := spec i hi'
    exact ⟨vs, k1⟩
/-- elements whose cells are all scalars -/
theorem flatE_V {α : Type} {cells : α → List Value} {c : α → List AV} {ks : List Cel} (hc0 : ∀ a, (cells a).map AV.v = c a) {σ : Store} (a : α) (cs : List Value) (h : cs = cells a ∧ GoodVs ks cs) (j : Nat) (x : AV) (y : Value) (hx : (c a)[j]? = some x) (hy : cs[j]? = some y) : V0 σ x y ∧ y.oneCell' = true := by
  obtain ⟨rfl, hg⟩ := h
  rw [← hc0, List.getElem?_map, hy] at hx
  simp only [Option.map_some, Option.some.injEq] at hx
  subst hx
  obtain ⟨k, hk⟩ := hg.at j y hy
  exact ⟨.v _, goodV_one hk⟩
/-- the pieces of a struct of three fields -/
theorem trod_three {fuel : Nat} {t : TypeId} {fs : Array Field} {f0 f1 f2 : Field} {cs : List Value} {x : DataW H × List MemPlace} {n0 n1 n2 : Nat} (hu : P.underlying t = some (.struct fs)) (hfs : fs.toList = [f0, f1, f2])
    (h0 : f0.offset = 0) (h1 : f1.offset = n0) (h2 : f2.offset = n0 + n1) (s0 : P.cellsOf f0.type = n0) (s1 : P.cellsOf f1.type = n1) (s2 : P.cellsOf f2.type = n2) (st : P.cellsOf t = n0 + n1 + n2)
    (h : DataW.trod enc P w base sp held fuel t cs = some x) :
    ∃ p0 p1 p2 fu y0 y1 y2, cs = p0 ++ p1 ++ p2 ∧ DataW.trod enc P w base sp held fu f0.type p0 = some y0 ∧ DataW.trod enc P w base sp held fu f1.type p1 = some y1 ∧ DataW.trod enc P w base sp held fu f2.type p2 = some y2 := by
  cases fuel with
  | zero => simp [DataW.trod] at h
  | succ fu =>
    obtain ⟨hl, r, hr⟩ := trod_struct hu h
    rw [hfs] at hr
    obtain ⟨y0, r0, k0, hr, _⟩ := mapM_head hr
    obtain ⟨y1, r1, k1, hr, _⟩ := mapM_head hr
    obtain ⟨y2, r2, k2, hr, _⟩ := mapM_head hr
    rw [h0, s0, List.drop_zero] at k0
    rw [h1, s1] at k1
    rw [h2, s2] at k2
    refine ⟨_, _, _, fu, y0, y1, y2, ?_, k0, k1, k2⟩
    rw [List.append_assoc, ← List.drop_drop]
    have e2 : List.take n2 (List.drop n1 (List.drop n0 cs)) = List.drop n1 (List.drop n0 cs) := List.take_of_length_le (by simp; omega)
    rw [e2, List.take_append_drop, List.take_append_drop]
end
end Go.Eng

/- Lists: one is set, the end is cleared. -/
namespace Go.Eng
open Go
set_option linter.unusedSimpArgs false
set_option linter.unusedVariables false
set_option linter.unusedSectionVars false
section
variable {α : Type} [Inhabited α] {c : α → List AV} {sz : Nat}
theorem getD_setI {L : List α} {i j : Nat} {t : α} (hi : i < L.length) : (L.set i t).getD j default = if j = i then t else L.getD j default := by
  rw [List.getD_eq_getElem?_getD, List.getElem?_set]
  by_cases h : i = j
  · subst h; simp [hi]
  · have h' : ¬ j = i := fun e => h e.symm
    rw [if_neg h, if_neg h', List.getD_eq_getElem?_getD]
theorem Cod.set (h : Cod c sz) (L : List α) {i N : Nat} (t : α) (hi : i < L.length) (hN : N = L.length) :
    OLe (some (.arr sz N fun k => mixL (Nat.beq k i) (c t) (lsF c L k))) (some (.arr sz (L.set i t).length (lsF c (L.set i t)))) := by
  refine h.row (by simp [hN]) fun e he => ?_
  simp only [lsF_at, h.mix]
  refine congrArg c ?_
  rw [getD_setI hi]
  by_cases hk : e = i
  · subst hk; simp
  · have : Nat.beq e i = false := by
      cases hb : Nat.beq e i with
      | false => rfl
      | true => exact absurd (Nat.eq_of_beq_eq_true hb) hk
    rw [this, if_neg hk]; rfl
/-- what stands from a place on up to another one is cleared -/
theorem Cod.clr (h : Cod c sz) (L : List α) (z : α) {i n N m : Nat} (hN : N = L.length) (hn : n ≤ L.length) (hi : i ≤ n) (hm : m = n - i) :
    OLe (some (.arr sz N fun k => mixL (decide (i ≤ k) && decide (k < i + m)) (c z) (lsF c L k))) (some (.arr sz (L.take i ++ (List.replicate (n - i) z ++ L.drop n)).length (lsF c (L.take i ++ (List.replicate (n - i) z ++ L.drop n))))) := by
  refine h.row (by simp [hN]; omega) fun e he => ?_
  simp only [lsF_at, h.mix]
  refine congrArg c ?_
  have hti : (L.take i).length = i := by simp; omega
  rw [cond_eq_ite]
  simp only [Bool.and_eq_true, decide_eq_true_eq]
  by_cases h1 : e < i
  · rw [if_neg (by omega), getD_app (by omega), List.getD_eq_getElem?_getD, List.getD_eq_getElem?_getD, List.getElem?_take, if_pos h1]
  · rw [getD_app' (by omega), hti]
    by_cases h2 : e < n
    · rw [if_pos (by omega), getD_app (by simp; omega), List.getD_eq_getElem?_getD, List.getElem?_replicate, if_pos (by omega)]; rfl
    · rw [if_neg (by omega), getD_app' (by simp; omega), List.length_replicate, List.getD_eq_getElem?_getD, List.getD_eq_getElem?_getD, List.getElem?_drop]
      congr 2; omega
/-- where the first one of a kind stands -/
def fD (p : α → Bool) : List α → Nat
  | [] => 0
  | t :: l => bif p t then 0 else fD p l + 1
theorem fD_le (p : α → Bool) : ∀ l : List α, fD p l ≤ l.length
  | [] => Nat.le_refl _
  | t :: l => by
    rw [fD]
    have := fD_le p l
    cases p t <;> simp <;> omega
theorem fD_filter (p : α → Bool) : ∀ l : List α, l.take (fD p l) = (l.take (fD p l)).filter (fun t => !p t)
  | [] => rfl
  | t :: l => by
    rw [fD]
    cases h : p t with
    | true => rfl
    | false =>
      simp only [cond_false, List.take_succ_cons, List.filter_cons, h, Bool.not_false, if_true]
      rw [← fD_filter p l]
theorem fD_at (p : α → Bool) : ∀ l : List α, fD p l < l.length → p (l.getD (fD p l) default) = true
  | [], h => absurd h (Nat.not_lt_zero _)
  | t :: l, h => by
    rw [fD] at h ⊢
    cases hp : p t with
    | true => rw [cond_true]; exact hp
    | false =>
      rw [hp, cond_false, List.length_cons] at h
      rw [cond_false]
      exact fD_at p l (by omega)
/-- slices.DeleteFunc's loop -/
def dRun (p : α → Bool) : List α → Nat → List α → Nat × List α
  | [], i, L => (i, L)
  | t :: r, i, L => bif p t then dRun p r i L else dRun p r (i + 1) (L.set i t)
theorem dRun_ok (p : α → Bool) : ∀ (r : List α) (i j : Nat) (L : List α), i ≤ j → j + r.length ≤ L.length →
    (dRun p r i L).1 = i + (r.filter fun t => !p t).length ∧ (dRun p r i L).2.length = L.length ∧ (dRun p r i L).2.take (dRun p r i L).1 = L.take i ++ r.filter (fun t => !p t) ∧ (dRun p r i L).2.drop (j + r.length) = L.drop (j + r.length)
  | [], i, j, L, h1, h2 => by simp [dRun]
  | t :: r, i, j, L, h1, h2 => by
    rw [List.length_cons] at h2 ⊢
    rw [dRun]
    cases h : p t with
    | true =>
      rw [cond_true, List.filter_cons_of_neg (by simp [h])]
      obtain ⟨k1, k2, k3, k4⟩ := dRun_ok p r i (j + 1) L (by omega) (by omega)
      refine ⟨k1, k2, k3, ?_⟩
      rw [show j + (r.length + 1) = j + 1 + r.length by omega]; exact k4
    | false =>
      rw [cond_false, List.filter_cons_of_pos (by simp [h])]
      obtain ⟨k1, k2, k3, k4⟩ := dRun_ok p r (i + 1) (j + 1) (L.set i t) (by omega) (by simp; omega)
      refine ⟨by rw [k1, List.length_cons]; omega, by rw [k2, List.length_set], ?_, ?_⟩
      · rw [k3]
        have : (L.set i t).take (i + 1) = L.take i ++ [t] := by
          rw [List.take_add_one, List.take_set_of_le (Nat.le_refl _)]
          simp [show i < L.length by omega]
        rw [this, List.append_assoc]; rfl
      · rw [show j + (r.length + 1) = j + 1 + r.length by omega, k4, List.drop_set_of_lt (by omega)]
end
end Go.Eng

/- pool: what is let go of. -/
namespace Go.Eng.TA
open Go Go.Eng Go.Eng.M Go.Lib Go.Proofs
set_option linter.unusedSimpArgs false
set_option linter.unusedVariables false
noncomputable def k104 : CT Tryd.prog Γm := CT.auto false 3 3 [kCo] 104 Tryd.f104 (bodyOf Tryd.f104) false 8 [.tmp 3] Tryd.func104 (by kernel_rfl) (by kernel_rfl) (by kernel_rfl) (by kernel_rfl)
noncomputable def k105 : CT Tryd.prog Γm := CT.auto false 3 3 [] 105 Tryd.f105 (bodyOf Tryd.f105) false 15 [.tmp 4] Tryd.func105 (by kernel_rfl) (by kernel_rfl) (by kernel_rfl) (by kernel_rfl)
noncomputable def k119 : CT Tryd.prog Γm := CT.auto false 3 3 [k104, k105] 119 Tryd.f119 (bodyOf Tryd.f119) false 8 [.tmp 3] Tryd.func119 (by kernel_rfl) (by kernel_rfl) (by kernel_rfl) (by kernel_rfl)
def pastB (w : ByteArray) (m : Int) (t : Tx) : Bool := !(bif !decide (t.fr = w) then true else decide (m < t.nn))
noncomputable abbrev lpXf : Code := loopOf (bodyOf Tryd.f121) 0
noncomputable abbrev lpDf : Code := loopOf (bodyOf Tryd.f118) 0
abbrev lvXf : List Nat := [0, 1, 7, 8, 4]
abbrev lvDf : List Nat := [0, 1, 5, 6]
theorem fD_drop {p : Tx → Bool} {l : List Tx} {i : Nat} (h : i < l.length) : fD p (l.drop i) = bif p (l.getD i default) then 0 else fD p (l.drop (i + 1)) + 1 := by
  rw [List.drop_eq_getElem_cons h, fD, getD_get h]
structure XD where
  i : Nat
  j : Nat
  L : List Tx
theorem pastE (w : ByteArray) (m : Int) (t : Tx) : (!bif !decide (t.fr = w) then true else decide (m < t.nn)) = pastB w m t := rfl
theorem nn2 (b : Bool) : (!(!b)) = b := by cases b <;> rfl
def HCD (d : List Tx) : List Blk := [.row [.fn 104 [] [.ptr 2 0]], .row [.sl 7 d.length (lsF Tx.c d)]]
def SXfD (l j : List Tx) (d : List Tx) (i : Nat) : List AV × Heap := ([.hs 0 0 l.length, .fn 119 [] [.ptr 1 0], .v (.int .i64 (l.length : Int)), .v (.int .i64 (i : Int)), .any], (txB' (l ++ j) :: HCD d).map some)
def rtXfD (l j : List Tx) (d : List Tx) (q : Nat) : Out := ⟨.ret, [.any, .any, .any, .any, .v (.int .i64 (q : Int))], (txB' (l ++ j) :: HCD d).map some⟩
def edXfD (l j : List Tx) (d : List Tx) : Out := ⟨.exit 0, [.any, .any, .any, .any, .any], (txB' (l ++ j) :: HCD d).map some⟩
def OXfD (l j : List Tx) (d : List Tx) (q : Nat) : Out := if q < l.length then rtXfD l j d q else edXfD l j d
theorem rXfD (l j : List Tx) (d : List Tx) (i : Nat) : roundE (P := Tryd.prog) (Γ := Γm) [k119] Lno false 3 0 lpXf lvXf [] 19 (SXfD l j d i).1 (SXfD l j d i).2 =
  Tree.br (decide ((↑i : Int) < (↑(List.length l) : Int))) (.chk (decide ((0 : Int) ≤ (↑i : Int)) && decide ((↑i : Int) < (↑(List.length l) : Int))) (.chk (cl ((isTx (lsF Tx.c d) ∧ 
    List.length d ≤ (1000000000 : Nat)) ∧ LeL [.sl 7 (List.length d) (lsF Tx.c d), .agg [.v (.int .i64 (List.getD (l ++ j) ((0 : Nat) + i) default).k), .v (.string (List.getD (l ++ j) 
    ((0 : Nat) + i) default).fr), .v (.string (List.getD (l ++ j) ((0 : Nat) + i) default).to), .v (.string (List.getD (l ++ j) ((0 : Nat) + i) default).ky), .v (.string (List.getD (l 
    ++ j) ((0 : Nat) + i) default).vl), .v (.int .i64 (List.getD (l ++ j) ((0 : Nat) + i) default).am), .v (.int .i64 (List.getD (l ++ j) ((0 : Nat) + i) default).nn)]] [.sl 7 
    (List.length d) (lsF Tx.c d), .agg [.v (.int .i64 (List.getD (l ++ j) ((0 : Nat) + i) default).k), .v (.string (List.getD (l ++ j) ((0 : Nat) + i) default).fr), .v (.string 
    (List.getD (l ++ j) ((0 : Nat) + i) default).to), .v (.string (List.getD (l ++ j) ((0 : Nat) + i) default).ky), .v (.string (List.getD (l ++ j) ((0 : Nat) + i) default).vl), .v 
    (.int .i64 (List.getD (l ++ j) ((0 : Nat) + i) default).am), .v (.int .i64 (List.getD (l ++ j) ((0 : Nat) + i) default).nn)]] ∧ LeH [] [])) (.br (!!hasF (List.length d) (lsF Tx.c 
    d) (Tx.mk (List.getD (l ++ j) ((0 : Nat) + i) default).k (List.getD (l ++ j) ((0 : Nat) + i) default).fr (List.getD (l ++ j) ((0 : Nat) + i) default).to (List.getD (l ++ j) ((0 : 
    Nat) + i) default).ky (List.getD (l ++ j) ((0 : Nat) + i) default).vl (List.getD (l ++ j) ((0 : Nat) + i) default).am (List.getD (l ++ j) ((0 : Nat) + i) default).nn)) (.leaf (.mk 
    .ret [.hs 0 0 (List.length l), .fn (119 : FuncId) [] [.ptr 1 0], .v (.int .i64 (↑(List.length l) : Int)), .v (.int .i64 (↑i : Int)), .v (.int .i64 (↑i : Int))] [some (.arr 7 
    (List.length (l ++ j)) (lsF Tx.c (l ++ j))), some (.row [.fn (104 : FuncId) [] [.ptr 2 0]]), some (.row [.sl 7 (List.length d) (lsF Tx.c d)])])) (.leaf (.mk .normal [.hs 0 0 
    (List.length l), .fn (119 : FuncId) [] [.ptr 1 0], .v (.int .i64 (↑(List.length l) : Int)), .v (.int .i64 (IntKind.wrap IntKind.i64 ((↑i : Int) + (1 : Int)))), .any] [some (.arr 7 
    (List.length (l ++ j)) (lsF Tx.c (l ++ j))), some (.row [.fn (104 : FuncId) [] [.ptr 2 0]]), some (.row [.sl 7 (List.length d) (lsF Tx.c d)])]))))) (.leaf (.mk (.exit 0) [.hs 0 0 
    (List.length l), .fn (119 : FuncId) [] [.ptr 1 0], .v (.int .i64 (↑(List.length l) : Int)), .v (.int .i64 (↑i : Int)), .any] [some (.arr 7 (List.length (l ++ j)) (lsF Tx.c (l ++ 
    j))), some (.row [.fn (104 : FuncId) [] [.ptr 2 0]]), some (.row [.sl 7 (List.length d) (lsF Tx.c d)])])) := by kernel_rfl
theorem loopXfD {l j : List Tx} {d : List Tx} (hd : d.length ≤ 100000) (hl : l.length ≤ 100000) {q : Nat} : ∀ i : Nat, (i ≤ l.length ∧ i + fD (hasT d) (l.drop i) = q) → LoopOK Tryd.prog Γm 3 19 lpXf (LSpec.at lvXf [] (SXfD l j d i) (OXfD l j d q)) := by
  refine loop_at (S := SXfD l j d) (O := fun _ => OXfD l j d q) (k := 0) (fun i => l.length - i) fun i hp => .of (L := Lno) (failOK fun _ _ _ => rfl) (rXfD l j d i) ?_
  obtain ⟨h1, h2⟩ := hp
  have hL : (l ++ j).length = l.length + j.length := List.length_append
  rcases Nat.lt_or_ge i l.length with hi | hi
  · rw [fD_drop hi] at h2
    have hx : Tx.mk (l.getD i default).k (l.getD i default).fr (l.getD i default).to (l.getD i default).ky (l.getD i default).vl (l.getD i default).am (l.getD i default).nn = l.getD i default := rfl
    have hgd : isTx (lsF Tx.c d) := isTx_ls d
    have hpb : pastB = pastB := rfl
    simp only [Nat.zero_add, Int.toNat_natCast, getD_app hi]
    have hg : (l ++ j).getD i default = l.getD i default := getD_app hi
    cases hd : hasT d (l.getD i default) with
    | true =>
      rw [hd, cond_true] at h2
      obtain rfl : i = q := by omega
      unfold OXfD
      rw [if_pos hi]
      repeat' (first | refine wC (by first | omega | (simp only [W1, cond_true, cond_false, hg, hx, hasF_l, hgd, nn2, hd]; first | done | omega)) ?_ | refine wT (by first | omega | (simp only [W1, cond_true, cond_false, hg, hx, hasF_l, hgd, nn2, hd]; first | done | omega)) ?_ | refine wF (by intro _h; first | omega | (simp only [W1, cond_true, cond_false, hg, hx, hasF_l, hgd, nn2, hd] at _h; first | done | omega)) ?_ | (refine wS ?_ ?_ <;> intro _h <;> simp only [W1, cond_true, cond_false, hg, hx, hasF_l, hgd, nn2, hd] at _h))
      all_goals simp only [W1, W2, owesN, owesX, owesR, cond_true, cond_false, hg, hx, hasF_l, hgd, nn2, hd]
      repeat' (first | apply And.intro | intro _hc)
      all_goals first | exact rfl | exact AV.le_refl _ | exact AV.le_any _ | exact OLe.refl _ | exact OLe.none _ | exact LeH.refl _ | exact LeL.refl _ | exact AV.le.bs _ | exact AV.le.sb _ | omega | contradiction
    | false =>
      rw [hd, cond_false] at h2
      repeat' (first | refine wC (by first | omega | (simp only [W1, cond_true, cond_false, hg, hx, hasF_l, hgd, nn2, hd, wrapUpN (show i ≤ 10000000000 by omega)]; first | done | omega)) ?_ | refine wT (by first | omega | (simp only [W1, cond_true, cond_false, hg, hx, hasF_l, hgd, nn2, hd, wrapUpN (show i ≤ 10000000000 by omega)]; first | done | omega)) ?_ | refine wF (by intro _h; first | omega | (simp only [W1, cond_true, cond_false, hg, hx, hasF_l, hgd, nn2, hd, wrapUpN (show i ≤ 10000000000 by omega)] at _h; first | done | omega)) ?_ | (refine wS ?_ ?_ <;> intro _h <;> simp only [W1, cond_true, cond_false, hg, hx, hasF_l, hgd, nn2, hd, wrapUpN (show i ≤ 10000000000 by omega)] at _h))
      all_goals simp only [W1, W2, owesN, owesX, owesR, cond_true, cond_false, hg, hx, hasF_l, hgd, nn2, hd, wrapUpN (show i ≤ 10000000000 by omega)]
      repeat' (first | apply And.intro | intro _hc)
      all_goals first | exact ⟨i + 1, LeL.refl _, LeH.refl _, ⟨hi, by omega⟩, by omega⟩ | exact AV.le_refl _ | exact AV.le_any _ | exact OLe.refl _ | exact OLe.none _ | exact LeH.refl _ | exact LeL.refl _ | exact AV.le.bs _ | exact AV.le.sb _ | omega | contradiction
  · rw [List.drop_eq_nil_of_le hi, fD] at h2
    obtain rfl : i = q := by omega
    obtain rfl : i = l.length := by omega
    unfold OXfD
    rw [if_neg (by omega)]
    repeat' (first | refine wC (by first | omega | (simp only [W1, cond_true, cond_false]; first | done | omega)) ?_ | refine wT (by first | omega | (simp only [W1, cond_true, cond_false]; first | done | omega)) ?_ | refine wF (by intro _h; first | omega | (simp only [W1, cond_true, cond_false] at _h; first | done | omega)) ?_ | (refine wS ?_ ?_ <;> intro _h <;> simp only [W1, cond_true, cond_false] at _h))
    all_goals simp only [W1, W2, owesN, owesX, owesR, cond_true, cond_false]
    repeat' (first | apply And.intro | intro _hc)
    all_goals first | exact rfl | exact AV.le_refl _ | exact AV.le_any _ | exact OLe.refl _ | exact OLe.none _ | exact LeH.refl _ | exact LeL.refl _ | exact AV.le.bs _ | exact AV.le.sb _ | omega | contradiction
theorem runXfRD (l j : List Tx) (d : List Tx) (q : Nat) : bodyE (P := Tryd.prog) (Γ := Γm) [] (fun _ => LSpec.at lvXf [] (SXfD l j d 0) (rtXfD l j d q)) false 19 [.tmp 4] (bodyOf Tryd.f121) [.hs 0 0 l.length, .fn 119 [] [.ptr 1 0]] (txB' (l ++ j) :: HCD d) =
  Tree.chk (cl (LeL [.hs 0 0 (List.length l), .fn (119 : FuncId) [] [.ptr 1 0], .v (.int .i64 (↑(List.length l) : Int)), .v (.int .i64 (0 : Int)), .v (.int .i64 (0 : Int))] [.hs 0 0 
    (List.length l), .fn (119 : FuncId) [] [.ptr 1 0], .v (.int .i64 (↑(List.length l) : Int)), .v (.int .i64 (↑(0 : Nat) : Int)), .any] ∧ LeH [some (.arr 7 (List.length (l ++ j)) (lsF 
    Tx.c (l ++ j))), some (.row [.fn (104 : FuncId) [] [.ptr 2 0]]), some (.row [.sl 7 (List.length d) (lsF Tx.c d)])] [some (.arr 7 (List.length (l ++ j)) (lsF Tx.c (l ++ j))), some 
    (.row [.fn (104 : FuncId) [] [.ptr 2 0]]), some (.row [.sl 7 (List.length d) (lsF Tx.c d)])])) (.leaf (Ans.mk (.v (.int .i64 (↑q : Int))) [some (.arr 7 (List.length (l ++ j)) (lsF 
    Tx.c (l ++ j))), some (.row [.fn (104 : FuncId) [] [.ptr 2 0]]), some (.row [.sl 7 (List.length d) (lsF Tx.c d)])])) := by kernel_rfl
theorem runXfED (l j : List Tx) (d : List Tx) : bodyE (P := Tryd.prog) (Γ := Γm) [] (fun _ => LSpec.at lvXf [] (SXfD l j d 0) (edXfD l j d)) false 19 [.tmp 4] (bodyOf Tryd.f121) [.hs 0 0 l.length, .fn 119 [] [.ptr 1 0]] (txB' (l ++ j) :: HCD d) =
  Tree.chk (cl (LeL [.hs 0 0 (List.length l), .fn (119 : FuncId) [] [.ptr 1 0], .v (.int .i64 (↑(List.length l) : Int)), .v (.int .i64 (0 : Int)), .v (.int .i64 (0 : Int))] [.hs 0 0 
    (List.length l), .fn (119 : FuncId) [] [.ptr 1 0], .v (.int .i64 (↑(List.length l) : Int)), .v (.int .i64 (↑(0 : Nat) : Int)), .any] ∧ LeH [some (.arr 7 (List.length (l ++ j)) (lsF 
    Tx.c (l ++ j))), some (.row [.fn (104 : FuncId) [] [.ptr 2 0]]), some (.row [.sl 7 (List.length d) (lsF Tx.c d)])] [some (.arr 7 (List.length (l ++ j)) (lsF Tx.c (l ++ j))), some 
    (.row [.fn (104 : FuncId) [] [.ptr 2 0]]), some (.row [.sl 7 (List.length d) (lsF Tx.c d)])])) (.leaf (Ans.mk (.v (.int .i64 (-1 : Int))) [some (.arr 7 (List.length (l ++ j)) (lsF 
    Tx.c (l ++ j))), some (.row [.fn (104 : FuncId) [] [.ptr 2 0]]), some (.row [.sl 7 (List.length d) (lsF Tx.c d)])])) := by kernel_rfl
def xfV (p : Tx → Bool) (l : List Tx) : Int := if fD p l < l.length then (fD p l : Int) else -1
theorem ansXfD {l j : List Tx} {d : List Tx} (hd : d.length ≤ 100000) (hl : l.length ≤ 100000) : Answers Tryd.prog Γm 121 [.hs 0 0 l.length, .fn 119 [] [.ptr 1 0]] (txB' (l ++ j) :: HCD d) (.v (.int .i64 (xfV (hasT d) l))) ((txB' (l ++ j) :: HCD d).map some) [] := by
  have h := loopXfD (l := l) (j := j) (d := d) hd hl (q := fD (hasT d) l) 0 ⟨Nat.zero_le _, Nat.zero_add _⟩
  unfold OXfD at h
  unfold xfV
  by_cases hq : fD (hasT d) l < l.length
  · rw [if_pos hq] at h
    rw [if_pos hq]
    refine answers (fn := Tryd.f121) (c := bodyOf Tryd.f121) (ntmps := 19) (results := [.tmp 4]) [] (fun _ => LSpec.at lvXf [] (SXfD l j d 0) (rtXfD l j d (fD (hasT d) l))) false Tryd.func121 (by kernel_rfl) (by kernel_rfl) (by kernel_rfl) (by kernel_rfl) (by simp) rfl (oneLoop (b := lpXf) (by kernel_rfl) h) <| Meets.of (runXfRD l j d (fD (hasT d) l)) <| ?_
    repeat' (first | refine wC (by first | omega | (simp only [W1, cond_true, cond_false]; first | done | omega)) ?_ | refine wT (by first | omega | (simp only [W1, cond_true, cond_false]; first | done | omega)) ?_ | refine wF (by intro _h; first | omega | (simp only [W1, cond_true, cond_false] at _h; first | done | omega)) ?_ | (refine wS ?_ ?_ <;> intro _h <;> simp only [W1, cond_true, cond_false] at _h))
    all_goals simp only [W1, W2, owesN, owesX, owesR, cond_true, cond_false]
    repeat' (first | apply And.intro | intro _hc)
    all_goals first | exact AV.le_refl _ | exact AV.le_any _ | exact OLe.refl _ | exact OLe.none _ | exact LeH.refl _ | exact LeL.refl _ | exact AV.le.bs _ | exact AV.le.sb _ | omega | contradiction
  · rw [if_neg hq] at h
    rw [if_neg hq]
    refine answers (fn := Tryd.f121) (c := bodyOf Tryd.f121) (ntmps := 19) (results := [.tmp 4]) [] (fun _ => LSpec.at lvXf [] (SXfD l j d 0) (edXfD l j d)) false Tryd.func121 (by kernel_rfl) (by kernel_rfl) (by kernel_rfl) (by kernel_rfl) (by simp) rfl (oneLoop (b := lpXf) (by kernel_rfl) h) <| Meets.of (runXfED l j d) <| ?_
    repeat' (first | refine wC (by first | omega | (simp only [W1, cond_true, cond_false]; first | done | omega)) ?_ | refine wT (by first | omega | (simp only [W1, cond_true, cond_false]; first | done | omega)) ?_ | refine wF (by intro _h; first | omega | (simp only [W1, cond_true, cond_false] at _h; first | done | omega)) ?_ | (refine wS ?_ ?_ <;> intro _h <;> simp only [W1, cond_true, cond_false] at _h))
    all_goals simp only [W1, W2, owesN, owesX, owesR, cond_true, cond_false]
    repeat' (first | apply And.intro | intro _hc)
    all_goals first | exact AV.le_refl _ | exact AV.le_any _ | exact OLe.refl _ | exact OLe.none _ | exact LeH.refl _ | exact LeL.refl _ | exact AV.le.bs _ | exact AV.le.sb _ | omega | contradiction
def HCP (w : ByteArray) (m : Int) : List Blk := [.row [.fn 105 [] [.ptr 2 0, .ptr 3 0]], .row [.v (.string w)], .row [.v (.int .i64 m)]]
def SXfP (l j : List Tx) (w : ByteArray) (m : Int) (i : Nat) : List AV × Heap := ([.hs 0 0 l.length, .fn 119 [] [.ptr 1 0], .v (.int .i64 (l.length : Int)), .v (.int .i64 (i : Int)), .any], (txB' (l ++ j) :: HCP w m).map some)
def rtXfP (l j : List Tx) (w : ByteArray) (m : Int) (q : Nat) : Out := ⟨.ret, [.any, .any, .any, .any, .v (.int .i64 (q : Int))], (txB' (l ++ j) :: HCP w m).map some⟩
def edXfP (l j : List Tx) (w : ByteArray) (m : Int) : Out := ⟨.exit 0, [.any, .any, .any, .any, .any], (txB' (l ++ j) :: HCP w m).map some⟩
def OXfP (l j : List Tx) (w : ByteArray) (m : Int) (q : Nat) : Out := if q < l.length then rtXfP l j w m q else edXfP l j w m
theorem rXfP (l j : List Tx) (w : ByteArray) (m : Int) (i : Nat) : roundE (P := Tryd.prog) (Γ := Γm) [k119] Lno false 4 0 lpXf lvXf [] 19 (SXfP l j w m i).1 (SXfP l j w m i).2 =
  Tree.br (decide ((↑i : Int) < (↑(List.length l) : Int))) (.chk (decide ((0 : Int) ≤ (↑i : Int)) && decide ((↑i : Int) < (↑(List.length l) : Int))) (.br (!bif !decide ((List.getD (l ++ j) 
    ((0 : Nat) + i) default).fr = w) then true else decide (m < (List.getD (l ++ j) ((0 : Nat) + i) default).nn)) (.leaf (.mk .ret [.hs 0 0 (List.length l), .fn (119 : FuncId) [] [.ptr 
    1 0], .v (.int .i64 (↑(List.length l) : Int)), .v (.int .i64 (↑i : Int)), .v (.int .i64 (↑i : Int))] [some (.arr 7 (List.length (l ++ j)) (lsF Tx.c (l ++ j))), some (.row [.fn (105 
    : FuncId) [] [.ptr 2 0, .ptr 3 0]]), some (.row [.v (.string w)]), some (.row [.v (.int .i64 m)])])) (.leaf (.mk .normal [.hs 0 0 (List.length l), .fn (119 : FuncId) [] [.ptr 1 0], 
    .v (.int .i64 (↑(List.length l) : Int)), .v (.int .i64 (IntKind.wrap IntKind.i64 ((↑i : Int) + (1 : Int)))), .any] [some (.arr 7 (List.length (l ++ j)) (lsF Tx.c (l ++ j))), some 
    (.row [.fn (105 : FuncId) [] [.ptr 2 0, .ptr 3 0]]), some (.row [.v (.string w)]), some (.row [.v (.int .i64 m)])])))) (.leaf (.mk (.exit 0) [.hs 0 0 (List.length l), .fn (119 : 
    FuncId) [] [.ptr 1 0], .v (.int .i64 (↑(List.length l) : Int)), .v (.int .i64 (↑i : Int)), .any] [some (.arr 7 (List.length (l ++ j)) (lsF Tx.c (l ++ j))), some (.row [.fn (105 : 
    FuncId) [] [.ptr 2 0, .ptr 3 0]]), some (.row [.v (.string w)]), some (.row [.v (.int .i64 m)])])) := by kernel_rfl
theorem loopXfP {l j : List Tx} {w : ByteArray} {m : Int} (hl : l.length ≤ 100000) {q : Nat} : ∀ i : Nat, (i ≤ l.length ∧ i + fD (pastB w m) (l.drop i) = q) → LoopOK Tryd.prog Γm 4 19 lpXf (LSpec.at lvXf [] (SXfP l j w m i) (OXfP l j w m q)) := by
  refine loop_at (S := SXfP l j w m) (O := fun _ => OXfP l j w m q) (k := 0) (fun i => l.length - i) fun i hp => .of (L := Lno) (failOK fun _ _ _ => rfl) (rXfP l j w m i) ?_
  obtain ⟨h1, h2⟩ := hp
  have hL : (l ++ j).length = l.length + j.length := List.length_append
  rcases Nat.lt_or_ge i l.length with hi | hi
  · rw [fD_drop hi] at h2
    have hx : Tx.mk (l.getD i default).k (l.getD i default).fr (l.getD i default).to (l.getD i default).ky (l.getD i default).vl (l.getD i default).am (l.getD i default).nn = l.getD i default := rfl
    have hpb : pastB = pastB := rfl
    simp only [Nat.zero_add, Int.toNat_natCast, getD_app hi, pastE]
    have hg : (l ++ j).getD i default = l.getD i default := getD_app hi
    cases hd : pastB w m (l.getD i default) with
    | true =>
      rw [hd, cond_true] at h2
      obtain rfl : i = q := by omega
      unfold OXfP
      rw [if_pos hi]
      repeat' (first | refine wC (by first | omega | (simp only [W1, cond_true, cond_false, hg, hx, nn2, hd]; first | done | omega)) ?_ | refine wT (by first | omega | (simp only [W1, cond_true, cond_false, hg, hx, nn2, hd]; first | done | omega)) ?_ | refine wF (by intro _h; first | omega | (simp only [W1, cond_true, cond_false, hg, hx, nn2, hd] at _h; first | done | omega)) ?_ | (refine wS ?_ ?_ <;> intro _h <;> simp only [W1, cond_true, cond_false, hg, hx, nn2, hd] at _h))
      all_goals simp only [W1, W2, owesN, owesX, owesR, cond_true, cond_false, hg, hx, nn2, hd]
      repeat' (first | apply And.intro | intro _hc)
      all_goals first | exact rfl | exact AV.le_refl _ | exact AV.le_any _ | exact OLe.refl _ | exact OLe.none _ | exact LeH.refl _ | exact LeL.refl _ | exact AV.le.bs _ | exact AV.le.sb _ | omega | contradiction
    | false =>
      rw [hd, cond_false] at h2
      repeat' (first | refine wC (by first | omega | (simp only [W1, cond_true, cond_false, hg, hx, nn2, hd, wrapUpN (show i ≤ 10000000000 by omega)]; first | done | omega)) ?_ | refine wT (by first | omega | (simp only [W1, cond_true, cond_false, hg, hx, nn2, hd, wrapUpN (show i ≤ 10000000000 by omega)]; first | done | omega)) ?_ | refine wF (by intro _h; first | omega | (simp only [W1, cond_true, cond_false, hg, hx, nn2, hd, wrapUpN (show i ≤ 10000000000 by omega)] at _h; first | done | omega)) ?_ | (refine wS ?_ ?_ <;> intro _h <;> simp only [W1, cond_true, cond_false, hg, hx, nn2, hd, wrapUpN (show i ≤ 10000000000 by omega)] at _h))
      all_goals simp only [W1, W2, owesN, owesX, owesR, cond_true, cond_false, hg, hx, nn2, hd, wrapUpN (show i ≤ 10000000000 by omega)]
      repeat' (first | apply And.intro | intro _hc)
      all_goals first | exact ⟨i + 1, LeL.refl _, LeH.refl _, ⟨hi, by omega⟩, by omega⟩ | exact AV.le_refl _ | exact AV.le_any _ | exact OLe.refl _ | exact OLe.none _ | exact LeH.refl _ | exact LeL.refl _ | exact AV.le.bs _ | exact AV.le.sb _ | omega | contradiction
  · rw [List.drop_eq_nil_of_le hi, fD] at h2
    obtain rfl : i = q := by omega
    obtain rfl : i = l.length := by omega
    unfold OXfP
    rw [if_neg (by omega)]
    repeat' (first | refine wC (by first | omega | (simp only [W1, cond_true, cond_false]; first | done | omega)) ?_ | refine wT (by first | omega | (simp only [W1, cond_true, cond_false]; first | done | omega)) ?_ | refine wF (by intro _h; first | omega | (simp only [W1, cond_true, cond_false] at _h; first | done | omega)) ?_ | (refine wS ?_ ?_ <;> intro _h <;> simp only [W1, cond_true, cond_false] at _h))
    all_goals simp only [W1, W2, owesN, owesX, owesR, cond_true, cond_false]
    repeat' (first | apply And.intro | intro _hc)
    all_goals first | exact rfl | exact AV.le_refl _ | exact AV.le_any _ | exact OLe.refl _ | exact OLe.none _ | exact LeH.refl _ | exact LeL.refl _ | exact AV.le.bs _ | exact AV.le.sb _ | omega | contradiction
theorem runXfRP (l j : List Tx) (w : ByteArray) (m : Int) (q : Nat) : bodyE (P := Tryd.prog) (Γ := Γm) [] (fun _ => LSpec.at lvXf [] (SXfP l j w m 0) (rtXfP l j w m q)) false 19 [.tmp 4] (bodyOf Tryd.f121) [.hs 0 0 l.length, .fn 119 [] [.ptr 1 0]] (txB' (l ++ j) :: HCP w m) =
  Tree.chk (cl (LeL [.hs 0 0 (List.length l), .fn (119 : FuncId) [] [.ptr 1 0], .v (.int .i64 (↑(List.length l) : Int)), .v (.int .i64 (0 : Int)), .v (.int .i64 (0 : Int))] [.hs 0 0 
    (List.length l), .fn (119 : FuncId) [] [.ptr 1 0], .v (.int .i64 (↑(List.length l) : Int)), .v (.int .i64 (↑(0 : Nat) : Int)), .any] ∧ LeH [some (.arr 7 (List.length (l ++ j)) (lsF 
    Tx.c (l ++ j))), some (.row [.fn (105 : FuncId) [] [.ptr 2 0, .ptr 3 0]]), some (.row [.v (.string w)]), some (.row [.v (.int .i64 m)])] [some (.arr 7 (List.length (l ++ j)) (lsF 
    Tx.c (l ++ j))), some (.row [.fn (105 : FuncId) [] [.ptr 2 0, .ptr 3 0]]), some (.row [.v (.string w)]), some (.row [.v (.int .i64 m)])])) (.leaf (Ans.mk (.v (.int .i64 (↑q : 
    Int))) [some (.arr 7 (List.length (l ++ j)) (lsF Tx.c (l ++ j))), some (.row [.fn (105 : FuncId) [] [.ptr 2 0, .ptr 3 0]]), some (.row [.v (.string w)]), some (.row [.v (.int .i64 
    m)])])) := by kernel_rfl
theorem runXfEP (l j : List Tx) (w : ByteArray) (m : Int) : bodyE (P := Tryd.prog) (Γ := Γm) [] (fun _ => LSpec.at lvXf [] (SXfP l j w m 0) (edXfP l j w m)) false 19 [.tmp 4] (bodyOf Tryd.f121) [.hs 0 0 l.length, .fn 119 [] [.ptr 1 0]] (txB' (l ++ j) :: HCP w m) =
  Tree.chk (cl (LeL [.hs 0 0 (List.length l), .fn (119 : FuncId) [] [.ptr 1 0], .v (.int .i64 (↑(List.length l) : Int)), .v (.int .i64 (0 : Int)), .v (.int .i64 (0 : Int))] [.hs 0 0 
    (List.length l), .fn (119 : FuncId) [] [.ptr 1 0], .v (.int .i64 (↑(List.length l) : Int)), .v (.int .i64 (↑(0 : Nat) : Int)), .any] ∧ LeH [some (.arr 7 (List.length (l ++ j)) (lsF 
    Tx.c (l ++ j))), some (.row [.fn (105 : FuncId) [] [.ptr 2 0, .ptr 3 0]]), some (.row [.v (.string w)]), some (.row [.v (.int .i64 m)])] [some (.arr 7 (List.length (l ++ j)) (lsF 
    Tx.c (l ++ j))), some (.row [.fn (105 : FuncId) [] [.ptr 2 0, .ptr 3 0]]), some (.row [.v (.string w)]), some (.row [.v (.int .i64 m)])])) (.leaf (Ans.mk (.v (.int .i64 (-1 : 
    Int))) [some (.arr 7 (List.length (l ++ j)) (lsF Tx.c (l ++ j))), some (.row [.fn (105 : FuncId) [] [.ptr 2 0, .ptr 3 0]]), some (.row [.v (.string w)]), some (.row [.v (.int .i64 
    m)])])) := by kernel_rfl
theorem ansXfP {l j : List Tx} {w : ByteArray} {m : Int} (hl : l.length ≤ 100000) : Answers Tryd.prog Γm 121 [.hs 0 0 l.length, .fn 119 [] [.ptr 1 0]] (txB' (l ++ j) :: HCP w m) (.v (.int .i64 (xfV (pastB w m) l))) ((txB' (l ++ j) :: HCP w m).map some) [] := by
  have h := loopXfP (l := l) (j := j) (w := w) (m := m) hl (q := fD (pastB w m) l) 0 ⟨Nat.zero_le _, Nat.zero_add _⟩
  unfold OXfP at h
  unfold xfV
  by_cases hq : fD (pastB w m) l < l.length
  · rw [if_pos hq] at h
    rw [if_pos hq]
    refine answers (fn := Tryd.f121) (c := bodyOf Tryd.f121) (ntmps := 19) (results := [.tmp 4]) [] (fun _ => LSpec.at lvXf [] (SXfP l j w m 0) (rtXfP l j w m (fD (pastB w m) l))) false Tryd.func121 (by kernel_rfl) (by kernel_rfl) (by kernel_rfl) (by kernel_rfl) (by simp) rfl (oneLoop (b := lpXf) (by kernel_rfl) h) <| Meets.of (runXfRP l j w m (fD (pastB w m) l)) <| ?_
    repeat' (first | refine wC (by first | omega | (simp only [W1, cond_true, cond_false]; first | done | omega)) ?_ | refine wT (by first | omega | (simp only [W1, cond_true, cond_false]; first | done | omega)) ?_ | refine wF (by intro _h; first | omega | (simp only [W1, cond_true, cond_false] at _h; first | done | omega)) ?_ | (refine wS ?_ ?_ <;> intro _h <;> simp only [W1, cond_true, cond_false] at _h))
    all_goals simp only [W1, W2, owesN, owesX, owesR, cond_true, cond_false]
    repeat' (first | apply And.intro | intro _hc)
    all_goals first | exact AV.le_refl _ | exact AV.le_any _ | exact OLe.refl _ | exact OLe.none _ | exact LeH.refl _ | exact LeL.refl _ | exact AV.le.bs _ | exact AV.le.sb _ | omega | contradiction
  · rw [if_neg hq] at h
    rw [if_neg hq]
    refine answers (fn := Tryd.f121) (c := bodyOf Tryd.f121) (ntmps := 19) (results := [.tmp 4]) [] (fun _ => LSpec.at lvXf [] (SXfP l j w m 0) (edXfP l j w m)) false Tryd.func121 (by kernel_rfl) (by kernel_rfl) (by kernel_rfl) (by kernel_rfl) (by simp) rfl (oneLoop (b := lpXf) (by kernel_rfl) h) <| Meets.of (runXfEP l j w m) <| ?_
    repeat' (first | refine wC (by first | omega | (simp only [W1, cond_true, cond_false]; first | done | omega)) ?_ | refine wT (by first | omega | (simp only [W1, cond_true, cond_false]; first | done | omega)) ?_ | refine wF (by intro _h; first | omega | (simp only [W1, cond_true, cond_false] at _h; first | done | omega)) ?_ | (refine wS ?_ ?_ <;> intro _h <;> simp only [W1, cond_true, cond_false] at _h))
    all_goals simp only [W1, W2, owesN, owesX, owesR, cond_true, cond_false]
    repeat' (first | apply And.intro | intro _hc)
    all_goals first | exact AV.le_refl _ | exact AV.le_any _ | exact OLe.refl _ | exact OLe.none _ | exact LeH.refl _ | exact LeL.refl _ | exact AV.le.bs _ | exact AV.le.sb _ | omega | contradiction
end Go.Eng.TA
