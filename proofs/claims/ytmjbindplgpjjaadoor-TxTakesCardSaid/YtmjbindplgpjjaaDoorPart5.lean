/- names: which texts are names and what follows it. -/
import Derived.Test.YtmjbindplgpjjaaDoorPart4
import Derived.Lib.DecodeNEq
/- names: which texts are names. -/
namespace Go.Eng.TA
open Go Go.Eng Go.Eng.M Go.Lib Go.Proofs
set_option linter.unusedSimpArgs false
set_option linter.unusedVariables false
abbrev letN (c : Nat) : Bool := letterB (c : Int)
def badF (c : Nat) : Bool := decide ((48 ≤ c ∧ c ≤ 57) ∨ c = 45)
def firstOk : List Nat → Bool
  | c :: _ => !badF c
  | [] => true
def fine (s : ByteArray) (p : Nat) : Bool := (rns s p).all (fun c => letterB (c : Int)) && (bif decide (p = 0) then firstOk (rns s 0) else true)
/-- is it a name? -/
def nameB (s : ByteArray) : Bool := fine s 0 && decide (1 ≤ (rns s 0).length ∧ (rns s 0).length ≤ 32)
def erN (b : Bool) : Int := bif b then 0 else 20
noncomputable abbrev lpChk : Code := loopOf (bodyOf Tryd.f20) 0
def SChk (s : ByteArray) (x : XP) : List AV × Heap := ([.v (.int .i64 (x.k : Int)), .its 0, .any], [some (.sit s x.p)])
def retChk : Out := ⟨.ret, [.any, .any, .v (.int .i64 20)], [none]⟩
def endChk (s : ByteArray) : Out := ⟨.exit 0, [.v (.int .i64 ((rns s 0).length : Int)), .any, .any], [none]⟩
def OChk (s : ByteArray) : Out := bif fine s 0 then endChk s else retChk
theorem rChk (s : ByteArray) (x : XP) : roundE (P := Tryd.prog) (Γ := Γm) [c10'] Lno false 0 0 lpChk [3, 8, 2] [] 41 (SChk s x).1 (SChk s x).2 =
  Tree.br (decide (x.p < ByteArray.size s)) (Tree.chk (bif bif decide ((↑x.p : Int) = (0 : Int)) then bif decide ((48 : Int) ≤ (↑(Utf8.decode s x.p).fst : Int)) then bif decide ((↑(Utf8.decode
    s x.p).fst : Int) ≤ (57 : Int)) then true else decide ((↑(Utf8.decode s x.p).fst : Int) = (45 : Int)) else decide ((↑(Utf8.decode s x.p).fst : Int) = (45 : Int)) else false then true
    else true) (Tree.br (bif bif decide ((↑x.p : Int) = (0 : Int)) then bif decide ((48 : Int) ≤ (↑(Utf8.decode s x.p).fst : Int)) then bif decide ((↑(Utf8.decode s x.p).fst : Int) ≤ (57 :
    Int)) then true else decide ((↑(Utf8.decode s x.p).fst : Int) = (45 : Int)) else decide ((↑(Utf8.decode s x.p).fst : Int) = (45 : Int)) else false then true else !letterB (↑(Utf8.decode
    s x.p).fst : Int)) (Tree.leaf (Out.mk AEx.ret [AV.v (Value.int IntKind.i64 (↑x.k : Int)), AV.its (0 : Nat), AV.v (Value.int IntKind.i64 (20 : Int))] [some (Blk.sit s (x.p + (Utf8.decode
    s x.p).snd))])) (Tree.leaf (Out.mk AEx.normal [AV.v (Value.int IntKind.i64 (IntKind.wrap IntKind.i64 ((↑x.k : Int) + (1 : Int)))), AV.its (0 : Nat), AV.any] [some (Blk.sit s (x.p +
    (Utf8.decode s x.p).snd))])))) (Tree.leaf (Out.mk (AEx.exit (0 : Nat)) [AV.v (Value.int IntKind.i64 (↑x.k : Int)), AV.its (0 : Nat), AV.any] [some (Blk.sit s x.p)])) := by kernel_rfl
theorem loopChk {s : ByteArray} (hs : s.size ≤ 1000000000) : ∀ x : XP, (x.p ≤ s.size ∧ x.k + (rns s x.p).length = (rns s 0).length ∧ fine s x.p = fine s 0) → LoopOK Tryd.prog Γm 0 41 lpChk (LSpec.at [3, 8, 2] [] (SChk s x) (OChk s)) := by
  refine loop_at (S := SChk s) (O := fun _ => OChk s) (k := 0) (fun x => s.size - x.p) fun x hp => .of (noLoops (by kernel_rfl)) (rChk s x) ?_
  obtain ⟨p, k⟩ := x
  obtain ⟨h1, h2, h3⟩ := hp
  have hl : (rns s 0).length ≤ s.size - 0 := rns_len
  dsimp only at h1 h2 h3
  rcases Nat.lt_or_ge p s.size with hi | hi
  · have hst := rns_step hi
    have hd := dec_pos s p
    have hle := dec_le hi
    rw [hst, List.length_cons] at h2
    have hp0 : fine s (p + (Utf8.decode s p).2) = (rns s (p + (Utf8.decode s p).2)).all fun c => letterB (c : Int) := by
      unfold fine
      rw [decide_eq_false (by omega), cond_false, Bool.and_true]
    have hf : fine s p = (letterB ((Utf8.decode s p).1 : Int) && fine s (p + (Utf8.decode s p).2) && (bif decide (p = 0) then !badF (Utf8.decode s p).1 else true)) := by
      rw [hp0]
      unfold fine
      rw [hst, List.all_cons]
      congr 1
      by_cases hz : p = 0
      · subst hz; rw [hst]; rfl
      · rw [decide_eq_false hz]; rfl
    cases hL : letterB ((Utf8.decode s p).1 : Int) with
    | false =>
      rw [hL, Bool.false_and, Bool.false_and] at hf
      rw [show OChk s = retChk by unfold OChk; rw [← h3, hf]; rfl]
      repeat' (first | refine wC (by first | omega | (simp only [W1, cond_true, cond_false, hL]; first | done | omega)) ?_ | refine wT (by first | omega | (simp only [W1, cond_true, cond_false, hL]; first | done | omega)) ?_ | refine wF (by intro _h; first | omega | (simp only [W1, cond_true, cond_false, hL] at _h; first | done | omega)) ?_ | (refine wS ?_ ?_ <;> intro _h <;> simp only [W1, cond_true, cond_false, hL] at _h))
      all_goals simp only [W1, W2, owesN, owesX, owesR, cond_true, cond_false, hL]
      repeat' (first | apply And.intro | intro _hc)
      all_goals first | exact rfl | exact AV.le_refl _ | exact AV.le_any _ | exact OLe.refl _ | exact OLe.none _ | exact LeH.refl _ | exact LeL.refl _ | exact AV.le.bs _ | exact AV.le.sb _ | omega | contradiction
    | true =>
      by_cases hb : p = 0 ∧ badF (Utf8.decode s p).1 = true
      · obtain ⟨rfl, hb⟩ := hb
        rw [hb] at hf
        have hf : fine s 0 = false := by rw [hf]; simp
        have hb := of_decide_eq_true hb
        rw [show OChk s = retChk by unfold OChk; rw [hf]; rfl]
        repeat' (first | refine wC (by first | omega | (simp only [W1, cond_true, cond_false, hL]; first | done | omega)) ?_ | refine wT (by first | omega | (simp only [W1, cond_true, cond_false, hL]; first | done | omega)) ?_ | refine wF (by intro _h; first | omega | (simp only [W1, cond_true, cond_false, hL] at _h; first | done | omega)) ?_ | (refine wS ?_ ?_ <;> intro _h <;> simp only [W1, cond_true, cond_false, hL] at _h))
        all_goals simp only [W1, W2, owesN, owesX, owesR, cond_true, cond_false, hL]
        repeat' (first | apply And.intro | intro _hc)
        all_goals first | exact rfl | exact AV.le_refl _ | exact AV.le_any _ | exact OLe.refl _ | exact OLe.none _ | exact LeH.refl _ | exact LeL.refl _ | exact AV.le.bs _ | exact AV.le.sb _ | omega | contradiction
      · have hb' : (bif decide (p = 0) then !badF (Utf8.decode s p).1 else true) = true := by
          by_cases hz : p = 0
          · cases h : badF (Utf8.decode s p).1 with
            | true => exact absurd ⟨hz, h⟩ hb
            | false => simp
          · simp [hz]
        have hb2 : ¬ (p = 0 ∧ ((48 ≤ (Utf8.decode s p).1 ∧ (Utf8.decode s p).1 ≤ 57) ∨ (Utf8.decode s p).1 = 45)) := fun ⟨e, h⟩ => hb ⟨e, decide_eq_true h⟩
        rw [hb', hL, Bool.and_true, Bool.true_and] at hf
        repeat' (first | refine wC (by first | omega | (simp only [W1, cond_true, cond_false, hL, wrapUpN (show k ≤ 10000000000 by omega)]; first | done | omega)) ?_ | refine wT (by first | omega | (simp only [W1, cond_true, cond_false, hL, wrapUpN (show k ≤ 10000000000 by omega)]; first | done | omega)) ?_ | refine wF (by intro _h; first | omega | (simp only [W1, cond_true, cond_false, hL, wrapUpN (show k ≤ 10000000000 by omega)] at _h; first | done | omega)) ?_ | (refine wS ?_ ?_ <;> intro _h <;> simp only [W1, cond_true, cond_false, hL, wrapUpN (show k ≤ 10000000000 by omega)] at _h))
        all_goals simp only [W1, W2, owesN, owesX, owesR, cond_true, cond_false, hL, wrapUpN (show k ≤ 10000000000 by omega)]
        repeat' (first | apply And.intro | intro _hc)
        all_goals first | exact ⟨⟨p + (Utf8.decode s p).2, k + 1⟩, LeL.refl _, LeH.refl _, ⟨hle, by dsimp only; omega, by dsimp only; rw [← hf, h3]⟩, by dsimp only; omega⟩ | exact AV.le_refl _ | exact AV.le_any _ | exact OLe.refl _ | exact OLe.none _ | exact LeH.refl _ | exact LeL.refl _ | exact AV.le.bs _ | exact AV.le.sb _ | omega | contradiction
  · rw [rns_end hi, List.length_nil] at h2
    have h2 : k = (rns s 0).length := by omega
    subst h2
    have hf : fine s 0 = true := by
      rw [← h3]; unfold fine; rw [rns_end hi]
      by_cases hz : p = 0
      · subst hz; rw [rns_end hi]; rfl
      · rw [decide_eq_false hz]; rfl
    rw [show OChk s = endChk s by unfold OChk; rw [hf]; rfl]
    repeat' (first | refine wC (by first | omega | (simp only [W1, cond_true, cond_false]; first | done | omega)) ?_ | refine wT (by first | omega | (simp only [W1, cond_true, cond_false]; first | done | omega)) ?_ | refine wF (by intro _h; first | omega | (simp only [W1, cond_true, cond_false] at _h; first | done | omega)) ?_ | (refine wS ?_ ?_ <;> intro _h <;> simp only [W1, cond_true, cond_false] at _h))
    all_goals simp only [W1, W2, owesN, owesX, owesR, cond_true, cond_false]
    repeat' (first | apply And.intro | intro _hc)
    all_goals first | exact rfl | exact AV.le_refl _ | exact AV.le_any _ | exact OLe.refl _ | exact OLe.none _ | exact LeH.refl _ | exact LeL.refl _ | exact AV.le.bs _ | exact AV.le.sb _ | omega | contradiction
theorem runChkE (s : ByteArray) : bodyE (P := Tryd.prog) (Γ := Γm) [] (fun _ => LSpec.at [3, 8, 2] [] (SChk s ⟨0, 0⟩) (endChk s)) false 41 [.tmp 2] (bodyOf Tryd.f20) [.v (.string s)] [] =
  Tree.chk (cl (LeL [AV.v (Value.int IntKind.i64 (0 : Int)), AV.its (0 : Nat), AV.v (Value.int IntKind.i64 (0 : Int))] [AV.v (Value.int IntKind.i64 (↑(0 : Nat) : Int)), AV.its (0 : Nat),
    AV.any] ∧ LeH [some (Blk.sit s (0 : Nat))] [some (Blk.sit s (0 : Nat))])) (Tree.br (bif decide ((↑(List.length (rns s (0 : Nat))) : Int) < (1 : Int)) then true else decide ((32 : Int) <
    (↑(List.length (rns s (0 : Nat))) : Int))) (Tree.leaf (Ans.mk (AV.v (Value.int IntKind.i64 (20 : Int))) [])) (Tree.leaf (Ans.mk (AV.v (Value.int IntKind.i64 (0 : Int))) []))) := by kernel_rfl
theorem runChkR (s : ByteArray) : bodyE (P := Tryd.prog) (Γ := Γm) [] (fun _ => LSpec.at [3, 8, 2] [] (SChk s ⟨0, 0⟩) retChk) false 41 [.tmp 2] (bodyOf Tryd.f20) [.v (.string s)] [] =
  Tree.chk (cl (LeL [AV.v (Value.int IntKind.i64 (0 : Int)), AV.its (0 : Nat), AV.v (Value.int IntKind.i64 (0 : Int))] [AV.v (Value.int IntKind.i64 (↑(0 : Nat) : Int)), AV.its (0 : Nat),
    AV.any] ∧ LeH [some (Blk.sit s (0 : Nat))] [some (Blk.sit s (0 : Nat))])) (Tree.leaf (Ans.mk (AV.v (Value.int IntKind.i64 (20 : Int))) [])) := by kernel_rfl
theorem ansChk {s : ByteArray} (hs : s.size ≤ 1000000000) : Answers Tryd.prog Γm 20 [.v (.string s)] [] (.v (.int .i64 (erN (nameB s)))) [] [] := by
  have hl := loopChk hs ⟨0, 0⟩ ⟨Nat.zero_le _, Nat.zero_add _, rfl⟩
  unfold OChk at hl
  unfold nameB
  cases hf : fine s 0 with
  | true =>
    rw [hf, cond_true] at hl
    refine answers (fn := Tryd.f20) (c := bodyOf Tryd.f20) (ntmps := 41) (results := [.tmp 2]) [] (fun _ => LSpec.at [3, 8, 2] [] (SChk s ⟨0, 0⟩) (endChk s)) false Tryd.func20 (by kernel_rfl) (by kernel_rfl) (by kernel_rfl) (by kernel_rfl) (by simp) rfl (oneLoop (b := lpChk) (by kernel_rfl) hl) <| Meets.of (runChkE s) <| ?_
    by_cases h : 1 ≤ (rns s 0).length ∧ (rns s 0).length ≤ 32
    · rw [decide_eq_true h]
      repeat' (first | refine wC (by first | omega | (simp only [W1, cond_true, cond_false]; first | done | omega)) ?_ | refine wT (by first | omega | (simp only [W1, cond_true, cond_false]; first | done | omega)) ?_ | refine wF (by intro _h; first | omega | (simp only [W1, cond_true, cond_false] at _h; first | done | omega)) ?_ | (refine wS ?_ ?_ <;> intro _h <;> simp only [W1, cond_true, cond_false] at _h))
      all_goals simp only [W1, W2, owesN, owesX, owesR, cond_true, cond_false]
      repeat' (first | apply And.intro | intro _hc)
      all_goals first | exact leI rfl | exact AV.le_refl _ | exact AV.le_any _ | exact OLe.refl _ | exact OLe.none _ | exact LeH.refl _ | exact LeL.refl _ | exact AV.le.bs _ | exact AV.le.sb _ | omega | contradiction
    · rw [decide_eq_false h]
      repeat' (first | refine wC (by first | omega | (simp only [W1, cond_true, cond_false]; first | done | omega)) ?_ | refine wT (by first | omega | (simp only [W1, cond_true, cond_false]; first | done | omega)) ?_ | refine wF (by intro _h; first | omega | (simp only [W1, cond_true, cond_false] at _h; first | done | omega)) ?_ | (refine wS ?_ ?_ <;> intro _h <;> simp only [W1, cond_true, cond_false] at _h))
      all_goals simp only [W1, W2, owesN, owesX, owesR, cond_true, cond_false]
      repeat' (first | apply And.intro | intro _hc)
      all_goals first | exact leI rfl | exact AV.le_refl _ | exact AV.le_any _ | exact OLe.refl _ | exact OLe.none _ | exact LeH.refl _ | exact LeL.refl _ | exact AV.le.bs _ | exact AV.le.sb _ | omega | contradiction
  | false =>
    rw [hf, cond_false] at hl
    refine answers (fn := Tryd.f20) (c := bodyOf Tryd.f20) (ntmps := 41) (results := [.tmp 2]) [] (fun _ => LSpec.at [3, 8, 2] [] (SChk s ⟨0, 0⟩) retChk) false Tryd.func20 (by kernel_rfl) (by kernel_rfl) (by kernel_rfl) (by kernel_rfl) (by simp) rfl (oneLoop (b := lpChk) (by kernel_rfl) hl) <| Meets.of (runChkR s) <| ?_
    repeat' (first | refine wC (by first | omega | (simp only [W1, cond_true, cond_false]; first | done | omega)) ?_ | refine wT (by first | omega | (simp only [W1, cond_true, cond_false]; first | done | omega)) ?_ | refine wF (by intro _h; first | omega | (simp only [W1, cond_true, cond_false] at _h; first | done | omega)) ?_ | (refine wS ?_ ?_ <;> intro _h <;> simp only [W1, cond_true, cond_false] at _h))
    all_goals simp only [W1, W2, owesN, owesX, owesR, cond_true, cond_false]
    repeat' (first | apply And.intro | intro _hc)
    all_goals first | exact leI rfl | exact AV.le_refl _ | exact AV.le_any _ | exact OLe.refl _ | exact OLe.none _ | exact LeH.refl _ | exact LeL.refl _ | exact AV.le.bs _ | exact AV.le.sb _ | omega | contradiction
noncomputable def kChk : CT Tryd.prog Γm := CT.oS 20 Tryd.func20 (by kernel_rfl) (by kernel_rfl) (fun s => s.size ≤ 1000000000) (fun s => .v (.int .i64 (erN (nameB s)))) (fun _ => []) (fun s h => ansChk h)
/-! ### the document's -/
theorem bad_letter {s : ByteArray} : ∀ {n p : Nat}, s.size - p ≤ n → good s p = false → ((rns s p).all fun c => letterB (c : Int)) = false := by
  intro n
  induction n with
  | zero => intro p h hg; rw [good_end (by omega)] at hg; cases hg
  | succ n ih =>
    intro p h hg
    by_cases hp : p < s.size
    · rw [good_ok hp] at hg
      rw [rns_step hp, List.all_cons]
      have := dec_pos s p
      cases ho : okAt s p with
      | false =>
        have hb : badAt s p := by
          unfold okAt at ho
          have h3 : decide (badAt s p) = true := by cases h2 : decide (badAt s p) with
            | true => rfl
            | false => rw [h2] at ho; cases ho
          exact of_decide_eq_true h3
        rw [show (Utf8.decode s p).1 = 65533 by rw [show Utf8.decode s p = (65533, 1) from hb]]
        rfl
      | true =>
        rw [ho, Bool.true_and] at hg
        rw [ih (by omega) hg, Bool.and_false]
    · rw [good_end (by omega)] at hg; cases hg
noncomputable abbrev lpChkR : Code := loopOf (bodyOf Tryd.f21) 0
def SChkR (l : List Nat) (i : Nat) : List AV × Heap := ([.hs 0 0 l.length, .v (.int .i64 (i : Int)), .any], [some (i1B l)])
def OChkR (l : List Nat) : Out := bif (l.all fun c => letterB (c : Int)) then ⟨.exit 0, [.any, .any, .any], [none]⟩ else ⟨.ret, [.any, .any, .v (.bool false)], [none]⟩
theorem rChkR (l : List Nat) (i : Nat) : roundE (P := Tryd.prog) (Γ := Γm) [c11'] Lno false 0 0 lpChkR [3, 5, 2] [] 53 (SChkR l i).1 (SChkR l i).2 =
  Tree.br (decide ((↑i : Int) < (↑(List.length l) : Int))) (Tree.chk (decide ((0 : Int) ≤ (↑i : Int)) && decide ((↑i : Int) < (↑(List.length l) : Int)) && true) (Tree.br (!letterB (↑(List.getD
    l ((0 : Nat) + i) default) : Int)) (Tree.leaf (Out.mk AEx.ret [AV.hs (0 : Nat) (0 : Nat) (List.length l), AV.v (Value.int IntKind.i64 (↑i : Int)), AV.v (Value.bool false)] [some (Blk.arr
    (1 : Nat) (List.length l) (lsF I1.c l))])) (Tree.leaf (Out.mk AEx.normal [AV.hs (0 : Nat) (0 : Nat) (List.length l), AV.v (Value.int IntKind.i64 (IntKind.wrap IntKind.i64 ((↑i : Int) +
    (1 : Int)))), AV.any] [some (Blk.arr (1 : Nat) (List.length l) (lsF I1.c l))])))) (Tree.leaf (Out.mk (AEx.exit (0 : Nat)) [AV.hs (0 : Nat) (0 : Nat) (List.length l), AV.v (Value.int
    IntKind.i64 (↑i : Int)), AV.any] [some (Blk.arr (1 : Nat) (List.length l) (lsF I1.c l))])) := by kernel_rfl
theorem all_drop {f : Nat → Bool} {l : List Nat} {i : Nat} (h : i < l.length) : (l.drop i).all f = (f (l.getD i default) && (l.drop (i + 1)).all f) := by
  rw [List.drop_eq_getElem_cons h, List.all_cons, getD_get h]
theorem loopChkR {l : List Nat} (hs : l.length ≤ 1000000000) : ∀ i : Nat, (i ≤ l.length ∧ ((l.drop i).all fun c => letterB (c : Int)) = l.all fun c => letterB (c : Int)) → LoopOK Tryd.prog Γm 0 53 lpChkR (LSpec.at [3, 5, 2] [] (SChkR l i) (OChkR l)) := by
  refine loop_at (S := SChkR l) (O := fun _ => OChkR l) (k := 0) (fun i => l.length - i) fun i hp => .of (noLoops (by kernel_rfl)) (rChkR l i) ?_
  obtain ⟨h1, h2⟩ := hp
  rcases Nat.lt_or_ge i l.length with hi | hi
  · rw [all_drop hi] at h2
    cases hL : letterB ((l.getD i default : Nat) : Int) with
    | false =>
      rw [hL, Bool.false_and] at h2
      unfold OChkR
      rw [← h2, cond_false]
      repeat' (first | refine wC (by first | omega | (simp only [W1, cond_true, cond_false, hL]; first | done | omega)) ?_ | refine wT (by first | omega | (simp only [W1, cond_true, cond_false, hL]; first | done | omega)) ?_ | refine wF (by intro _h; first | omega | (simp only [W1, cond_true, cond_false, hL] at _h; first | done | omega)) ?_ | (refine wS ?_ ?_ <;> intro _h <;> simp only [W1, cond_true, cond_false, hL] at _h))
      all_goals simp only [W1, W2, owesN, owesX, owesR, cond_true, cond_false, hL]
      repeat' (first | apply And.intro | intro _hc)
      all_goals first | exact rfl | exact AV.le_refl _ | exact AV.le_any _ | exact OLe.refl _ | exact OLe.none _ | exact LeH.refl _ | exact LeL.refl _ | exact AV.le.bs _ | exact AV.le.sb _ | omega | contradiction
    | true =>
      rw [hL, Bool.true_and] at h2
      repeat' (first | refine wC (by first | omega | (simp only [W1, cond_true, cond_false, hL, wrapUpN (show i ≤ 10000000000 by omega)]; first | done | omega)) ?_ | refine wT (by first | omega | (simp only [W1, cond_true, cond_false, hL, wrapUpN (show i ≤ 10000000000 by omega)]; first | done | omega)) ?_ | refine wF (by intro _h; first | omega | (simp only [W1, cond_true, cond_false, hL, wrapUpN (show i ≤ 10000000000 by omega)] at _h; first | done | omega)) ?_ | (refine wS ?_ ?_ <;> intro _h <;> simp only [W1, cond_true, cond_false, hL, wrapUpN (show i ≤ 10000000000 by omega)] at _h))
      all_goals simp only [W1, W2, owesN, owesX, owesR, cond_true, cond_false, hL, wrapUpN (show i ≤ 10000000000 by omega)]
      repeat' (first | apply And.intro | intro _hc)
      all_goals first | exact ⟨i + 1, LeL.refl _, LeH.refl _, ⟨hi, h2⟩, by omega⟩ | exact AV.le_refl _ | exact AV.le_any _ | exact OLe.refl _ | exact OLe.none _ | exact LeH.refl _ | exact LeL.refl _ | exact AV.le.bs _ | exact AV.le.sb _ | omega | contradiction
  · rw [List.drop_eq_nil_of_le hi] at h2
    unfold OChkR
    rw [← h2, List.all_nil, cond_true]
    repeat' (first | refine wC (by first | omega | (simp only [W1, cond_true, cond_false]; first | done | omega)) ?_ | refine wT (by first | omega | (simp only [W1, cond_true, cond_false]; first | done | omega)) ?_ | refine wF (by intro _h; first | omega | (simp only [W1, cond_true, cond_false] at _h; first | done | omega)) ?_ | (refine wS ?_ ?_ <;> intro _h <;> simp only [W1, cond_true, cond_false] at _h))
    all_goals simp only [W1, W2, owesN, owesX, owesR, cond_true, cond_false]
    repeat' (first | apply And.intro | intro _hc)
    all_goals first | exact rfl | exact AV.le_refl _ | exact AV.le_any _ | exact OLe.refl _ | exact OLe.none _ | exact LeH.refl _ | exact LeL.refl _ | exact AV.le.bs _ | exact AV.le.sb _ | omega | contradiction
theorem runChkRE (s : ByteArray) : bodyE (P := Tryd.prog) (Γ := Γm) [kRun] (fun _ => LSpec.at [3, 5, 2] [] (SChkR (rns s 0) 0) ⟨.exit 0, [.any, .any, .any], [none]⟩) false 53 [.tmp 2] (bodyOf Tryd.f21) [.v (.string s)] [] =
  Tree.chk (cl (ByteArray.size s ≤ (100000000 : Nat) ∧ LeL [AV.v (Value.string s)] [AV.v (Value.string s)] ∧ LeH [] [])) (Tree.chk (bif !good s (0 : Nat) then true else bif decide
    ((↑(List.length (rns s (0 : Nat))) : Int) < (1 : Int)) then true else bif decide ((32 : Int) < (↑(List.length (rns s (0 : Nat))) : Int)) then true else decide ((0 : Int) < (↑(List.length
    (rns s (0 : Nat))) : Int)) && bif decide ((↑(List.getD (rns s (0 : Nat)) (0 : Nat) default) : Int) = (45 : Int)) then true else decide ((0 : Int) < (↑(List.length (rns s (0 : Nat))) :
    Int)) && bif decide ((48 : Int) ≤ (↑(List.getD (rns s (0 : Nat)) (0 : Nat) default) : Int)) then decide ((0 : Int) < (↑(List.length (rns s (0 : Nat))) : Int)) else true) (Tree.br (bif
    !good s (0 : Nat) then true else bif decide ((↑(List.length (rns s (0 : Nat))) : Int) < (1 : Int)) then true else bif decide ((32 : Int) < (↑(List.length (rns s (0 : Nat))) : Int)) then
    true else bif decide ((↑(List.getD (rns s (0 : Nat)) (0 : Nat) default) : Int) = (45 : Int)) then true else bif decide ((48 : Int) ≤ (↑(List.getD (rns s (0 : Nat)) (0 : Nat) default) :
    Int)) then decide ((↑(List.getD (rns s (0 : Nat)) (0 : Nat) default) : Int) ≤ (57 : Int)) else false) (Tree.leaf (Ans.mk (AV.v (Value.bool false)) [])) (Tree.chk (cl (LeL [AV.hs (0 :
    Nat) (0 : Nat) (List.length (rns s (0 : Nat))), AV.v (Value.int IntKind.i64 (0 : Int)), AV.v (Value.bool false)] [AV.hs (0 : Nat) (0 : Nat) (List.length (rns s (0 : Nat))), AV.v
    (Value.int IntKind.i64 (↑(0 : Nat) : Int)), AV.any] ∧ LeH [some (Blk.arr (1 : Nat) (List.length (rns s (0 : Nat))) (lsF I1.c (rns s (0 : Nat))))] [some (Blk.arr (1 : Nat) (List.length
    (rns s (0 : Nat))) (lsF I1.c (rns s (0 : Nat))))])) (Tree.leaf (Ans.mk (AV.v (Value.bool true)) []))))) := by kernel_rfl
theorem runChkRR (s : ByteArray) : bodyE (P := Tryd.prog) (Γ := Γm) [kRun] (fun _ => LSpec.at [3, 5, 2] [] (SChkR (rns s 0) 0) ⟨.ret, [.any, .any, .v (.bool false)], [none]⟩) false 53 [.tmp 2] (bodyOf Tryd.f21) [.v (.string s)] [] =
  Tree.chk (cl (ByteArray.size s ≤ (100000000 : Nat) ∧ LeL [AV.v (Value.string s)] [AV.v (Value.string s)] ∧ LeH [] [])) (Tree.chk (bif !good s (0 : Nat) then true else bif decide
    ((↑(List.length (rns s (0 : Nat))) : Int) < (1 : Int)) then true else bif decide ((32 : Int) < (↑(List.length (rns s (0 : Nat))) : Int)) then true else decide ((0 : Int) < (↑(List.length
    (rns s (0 : Nat))) : Int)) && bif decide ((↑(List.getD (rns s (0 : Nat)) (0 : Nat) default) : Int) = (45 : Int)) then true else decide ((0 : Int) < (↑(List.length (rns s (0 : Nat))) :
    Int)) && bif decide ((48 : Int) ≤ (↑(List.getD (rns s (0 : Nat)) (0 : Nat) default) : Int)) then decide ((0 : Int) < (↑(List.length (rns s (0 : Nat))) : Int)) else true) (Tree.br (bif
    !good s (0 : Nat) then true else bif decide ((↑(List.length (rns s (0 : Nat))) : Int) < (1 : Int)) then true else bif decide ((32 : Int) < (↑(List.length (rns s (0 : Nat))) : Int)) then
    true else bif decide ((↑(List.getD (rns s (0 : Nat)) (0 : Nat) default) : Int) = (45 : Int)) then true else bif decide ((48 : Int) ≤ (↑(List.getD (rns s (0 : Nat)) (0 : Nat) default) :
    Int)) then decide ((↑(List.getD (rns s (0 : Nat)) (0 : Nat) default) : Int) ≤ (57 : Int)) else false) (Tree.leaf (Ans.mk (AV.v (Value.bool false)) [])) (Tree.chk (cl (LeL [AV.hs (0 :
    Nat) (0 : Nat) (List.length (rns s (0 : Nat))), AV.v (Value.int IntKind.i64 (0 : Int)), AV.v (Value.bool false)] [AV.hs (0 : Nat) (0 : Nat) (List.length (rns s (0 : Nat))), AV.v
    (Value.int IntKind.i64 (↑(0 : Nat) : Int)), AV.any] ∧ LeH [some (Blk.arr (1 : Nat) (List.length (rns s (0 : Nat))) (lsF I1.c (rns s (0 : Nat))))] [some (Blk.arr (1 : Nat) (List.length
    (rns s (0 : Nat))) (lsF I1.c (rns s (0 : Nat))))])) (Tree.leaf (Ans.mk (AV.v (Value.bool false)) []))))) := by kernel_rfl
theorem firstOk_get {l : List Nat} (h : 0 < l.length) : firstOk l = !badF (l.getD 0 default) := by
  cases l with
  | nil => cases h
  | cons c l => rfl
theorem ansChkR {s : ByteArray} (hs : s.size ≤ 100000000) : Answers Tryd.prog Γm 21 [.v (.string s)] [] (.sb (nameB s)) [] [] := by
  have hln : (rns s 0).length ≤ s.size - 0 := rns_len
  have hl := loopChkR (l := rns s 0) (by omega) 0 ⟨Nat.zero_le _, rfl⟩
  have hg := bad_letter (s := s) (n := s.size) (p := 0) (by omega)
  have hfo := firstOk_get (l := rns s 0)
  have hnm : nameB s = (((rns s 0).all (fun c => letterB (c : Int)) && firstOk (rns s 0)) && decide (1 ≤ (rns s 0).length ∧ (rns s 0).length ≤ 32)) := rfl
  have hbf : badF ((rns s 0).getD 0 default) = decide ((48 ≤ (rns s 0).getD 0 default ∧ (rns s 0).getD 0 default ≤ 57) ∨ (rns s 0).getD 0 default = 45) := rfl
  unfold OChkR at hl
  rw [hnm]
  cases hA : (rns s 0).all (fun c => letterB (c : Int)) with
  | true =>
    rw [hA, cond_true] at hl
    rw [hA] at hg
    have hg' : good s 0 = true := by
      cases h : good s 0 with
      | true => rfl
      | false => exact absurd (hg h) (by decide)
    refine answers (fn := Tryd.f21) (c := bodyOf Tryd.f21) (ntmps := 53) (results := [.tmp 2]) [kRun] (fun _ => LSpec.at [3, 5, 2] [] (SChkR (rns s 0) 0) ⟨.exit 0, [.any, .any, .any], [none]⟩) false Tryd.func21 (by kernel_rfl) (by kernel_rfl) (by kernel_rfl) (by kernel_rfl) (by simp) rfl (oneLoop (b := lpChkR) (by kernel_rfl) hl) <| Meets.of (runChkRE s) <| ?_
    by_cases h : 1 ≤ (rns s 0).length ∧ (rns s 0).length ≤ 32
    · rw [decide_eq_true h, hfo (by omega)]
      by_cases hb : ((48 ≤ (rns s 0).getD 0 default ∧ (rns s 0).getD 0 default ≤ 57) ∨ (rns s 0).getD 0 default = 45)
      · rw [hbf, decide_eq_true hb]
        repeat' (first | refine wC (by first | omega | (simp only [W1, cond_true, cond_false, hg']; first | done | omega)) ?_ | refine wT (by first | omega | (simp only [W1, cond_true, cond_false, hg']; first | done | omega)) ?_ | refine wF (by intro _h; first | omega | (simp only [W1, cond_true, cond_false, hg'] at _h; first | done | omega)) ?_ | (refine wS ?_ ?_ <;> intro _h <;> simp only [W1, cond_true, cond_false, hg'] at _h))
        all_goals simp only [W1, W2, owesN, owesX, owesR, cond_true, cond_false, hg']
        repeat' (first | apply And.intro | intro _hc)
        all_goals first | exact AV.le_refl _ | exact AV.le_any _ | exact OLe.refl _ | exact OLe.none _ | exact LeH.refl _ | exact LeL.refl _ | exact AV.le.bs _ | exact AV.le.sb _ | omega | contradiction
      · rw [hbf, decide_eq_false hb]
        repeat' (first | refine wC (by first | omega | (simp only [W1, cond_true, cond_false, hg']; first | done | omega)) ?_ | refine wT (by first | omega | (simp only [W1, cond_true, cond_false, hg']; first | done | omega)) ?_ | refine wF (by intro _h; first | omega | (simp only [W1, cond_true, cond_false, hg'] at _h; first | done | omega)) ?_ | (refine wS ?_ ?_ <;> intro _h <;> simp only [W1, cond_true, cond_false, hg'] at _h))
        all_goals simp only [W1, W2, owesN, owesX, owesR, cond_true, cond_false, hg']
        repeat' (first | apply And.intro | intro _hc)
        all_goals first | exact AV.le_refl _ | exact AV.le_any _ | exact OLe.refl _ | exact OLe.none _ | exact LeH.refl _ | exact LeL.refl _ | exact AV.le.bs _ | exact AV.le.sb _ | omega | contradiction
    · rw [decide_eq_false h, Bool.and_false]
      repeat' (first | refine wC (by first | omega | (simp only [W1, cond_true, cond_false, hg']; first | done | omega)) ?_ | refine wT (by first | omega | (simp only [W1, cond_true, cond_false, hg']; first | done | omega)) ?_ | refine wF (by intro _h; first | omega | (simp only [W1, cond_true, cond_false, hg'] at _h; first | done | omega)) ?_ | (refine wS ?_ ?_ <;> intro _h <;> simp only [W1, cond_true, cond_false, hg'] at _h))
      all_goals simp only [W1, W2, owesN, owesX, owesR, cond_true, cond_false, hg']
      repeat' (first | apply And.intro | intro _hc)
      all_goals first | exact AV.le_refl _ | exact AV.le_any _ | exact OLe.refl _ | exact OLe.none _ | exact LeH.refl _ | exact LeL.refl _ | exact AV.le.bs _ | exact AV.le.sb _ | omega | contradiction
  | false =>
    rw [hA, cond_false] at hl
    refine answers (fn := Tryd.f21) (c := bodyOf Tryd.f21) (ntmps := 53) (results := [.tmp 2]) [kRun] (fun _ => LSpec.at [3, 5, 2] [] (SChkR (rns s 0) 0) ⟨.ret, [.any, .any, .v (.bool false)], [none]⟩) false Tryd.func21 (by kernel_rfl) (by kernel_rfl) (by kernel_rfl) (by kernel_rfl) (by simp) rfl (oneLoop (b := lpChkR) (by kernel_rfl) hl) <| Meets.of (runChkRR s) <| ?_
    cases hg' : good s 0 with
    | true =>
      repeat' (first | refine wC (by first | omega | (simp only [W1, cond_true, cond_false, hg']; first | done | omega)) ?_ | refine wT (by first | omega | (simp only [W1, cond_true, cond_false, hg']; first | done | omega)) ?_ | refine wF (by intro _h; first | omega | (simp only [W1, cond_true, cond_false, hg'] at _h; first | done | omega)) ?_ | (refine wS ?_ ?_ <;> intro _h <;> simp only [W1, cond_true, cond_false, hg'] at _h))
      all_goals simp only [W1, W2, owesN, owesX, owesR, cond_true, cond_false, hg']
      repeat' (first | apply And.intro | intro _hc)
      all_goals first | exact AV.le_refl _ | exact AV.le_any _ | exact OLe.refl _ | exact OLe.none _ | exact LeH.refl _ | exact LeL.refl _ | exact AV.le.bs _ | exact AV.le.sb _ | omega | contradiction
    | false =>
      repeat' (first | refine wC (by first | omega | (simp only [W1, cond_true, cond_false, hg']; first | done | omega)) ?_ | refine wT (by first | omega | (simp only [W1, cond_true, cond_false, hg']; first | done | omega)) ?_ | refine wF (by intro _h; first | omega | (simp only [W1, cond_true, cond_false, hg'] at _h; first | done | omega)) ?_ | (refine wS ?_ ?_ <;> intro _h <;> simp only [W1, cond_true, cond_false, hg'] at _h))
      all_goals simp only [W1, W2, owesN, owesX, owesR, cond_true, cond_false, hg']
      repeat' (first | apply And.intro | intro _hc)
      all_goals first | exact AV.le_refl _ | exact AV.le_any _ | exact OLe.refl _ | exact OLe.none _ | exact LeH.refl _ | exact LeL.refl _ | exact AV.le.bs _ | exact AV.le.sb _ | omega | contradiction
noncomputable def kChkR : CT Tryd.prog Γm := CT.oS 21 Tryd.func21 (by kernel_rfl) (by kernel_rfl) (fun s => s.size ≤ 100000000) (fun s => .sb (nameB s)) (fun _ => []) (fun s h => ansChkR h)
end Go.Eng.TA

/- names: bytes that are no runes; values. -/
namespace Go.Eng.TA
open Go Go.Eng Go.Eng.M Go.Lib Go.Proofs
set_option linter.unusedSimpArgs false
set_option linter.unusedVariables false
theorem run120 (t : ByteArray) : bodyE (P := Tryd.prog) (Γ := Γm) [] Lno false 117 [.tmp 2, .tmp 3] (bodyOf Tryd.f120) [.v (.string t)] [] =
  Tree.br (decide ((↑(ByteArray.size t) : Int) < (1 : Int))) (Tree.leaf (Ans.mk (AV.tup [AV.v (Value.int IntKind.i32 (65533 : Int)), AV.v (Value.int IntKind.i64 (0 : Int))]) [])) (Tree.chk
    (decide ((0 : Int) < (↑(ByteArray.size t) : Int))) (Tree.chk (decide ((0 : Int) ≤ sbyte t (Int.toNat (0 : Int))) && decide (sbyte t (Int.toNat (0 : Int)) < (↑(256 : Nat) : Int)))
    (Tree.br (decide ((240 : Int) ≤ (↑(firstT (Int.toNat (sbyte t (Int.toNat (0 : Int))))) : Int))) (Tree.chk true (Tree.chk (decide ((0 : Int) < (↑(ByteArray.size t) : Int))) (Tree.leaf
    (Ans.mk (AV.tup [AV.v (Value.int IntKind.i32 (bitI BinOp.or IntKind.i32 (bitI BinOp.andNot IntKind.i32 (IntKind.wrap IntKind.i32 (sbyte t (Int.toNat (0 : Int)))) (Int.fdiv (IntKind.wrap
    IntKind.i32 (IntKind.wrap IntKind.i32 (↑(firstT (Int.toNat (sbyte t (Int.toNat (0 : Int))))) : Int) * (2 : Int) ^ min (Int.toNat (31 : Int)) (32 : Nat))) ((2 : Int) ^ min (Int.toNat (31
    : Int)) (32 : Nat)))) (bitI BinOp.and IntKind.i32 (65533 : Int) (Int.fdiv (IntKind.wrap IntKind.i32 (IntKind.wrap IntKind.i32 (↑(firstT (Int.toNat (sbyte t (Int.toNat (0 : Int))))) :
    Int) * (2 : Int) ^ min (Int.toNat (31 : Int)) (32 : Nat))) ((2 : Int) ^ min (Int.toNat (31 : Int)) (32 : Nat)))))), AV.v (Value.int IntKind.i64 (1 : Int))]) [])))) (Tree.chk true
    (Tree.chk (decide ((0 : Int) ≤ Int.fdiv (↑(firstT (Int.toNat (sbyte t (Int.toNat (0 : Int))))) : Int) ((2 : Int) ^ min (Int.toNat (4 : Int)) (8 : Nat))) && decide (Int.fdiv (↑(firstT
    (Int.toNat (sbyte t (Int.toNat (0 : Int))))) : Int) ((2 : Int) ^ min (Int.toNat (4 : Int)) (8 : Nat)) < (↑(16 : Nat) : Int))) (Tree.br (decide ((↑(ByteArray.size t) : Int) < IntKind.wrap
    IntKind.i64 (bitI BinOp.and IntKind.u8 (↑(firstT (Int.toNat (sbyte t (Int.toNat (0 : Int))))) : Int) (7 : Int)))) (Tree.leaf (Ans.mk (AV.tup [AV.v (Value.int IntKind.i32 (65533 : Int)),
    AV.v (Value.int IntKind.i64 (1 : Int))]) [])) (Tree.chk (decide ((1 : Int) < (↑(ByteArray.size t) : Int))) (Tree.br (bif decide (sbyte t (Int.toNat (1 : Int)) < (↑(accLo (Int.toNat
    (Int.fdiv (↑(firstT (Int.toNat (sbyte t (Int.toNat (0 : Int))))) : Int) ((2 : Int) ^ min (Int.toNat (4 : Int)) (8 : Nat))))) : Int)) then true else decide ((↑(accHi (Int.toNat (Int.fdiv
    (↑(firstT (Int.toNat (sbyte t (Int.toNat (0 : Int))))) : Int) ((2 : Int) ^ min (Int.toNat (4 : Int)) (8 : Nat))))) : Int) < sbyte t (Int.toNat (1 : Int)))) (Tree.leaf (Ans.mk (AV.tup
    [AV.v (Value.int IntKind.i32 (65533 : Int)), AV.v (Value.int IntKind.i64 (1 : Int))]) [])) (Tree.br (decide (IntKind.wrap IntKind.i64 (bitI BinOp.and IntKind.u8 (↑(firstT (Int.toNat
    (sbyte t (Int.toNat (0 : Int))))) : Int) (7 : Int)) ≤ (2 : Int))) (Tree.chk true (Tree.leaf (Ans.mk (AV.tup [AV.v (Value.int IntKind.i32 (bitI BinOp.or IntKind.i32 (IntKind.wrap
    IntKind.i32 (IntKind.wrap IntKind.i32 (bitI BinOp.and IntKind.u8 (sbyte t (Int.toNat (0 : Int))) (31 : Int)) * (2 : Int) ^ min (Int.toNat (6 : Int)) (32 : Nat))) (IntKind.wrap
    IntKind.i32 (bitI BinOp.and IntKind.u8 (sbyte t (Int.toNat (1 : Int))) (63 : Int))))), AV.v (Value.int IntKind.i64 (2 : Int))]) []))) (Tree.chk (decide ((2 : Int) < (↑(ByteArray.size t)
    : Int))) (Tree.br (bif decide (sbyte t (Int.toNat (2 : Int)) < (128 : Int)) then true else decide ((191 : Int) < sbyte t (Int.toNat (2 : Int)))) (Tree.leaf (Ans.mk (AV.tup [AV.v
    (Value.int IntKind.i32 (65533 : Int)), AV.v (Value.int IntKind.i64 (1 : Int))]) [])) (Tree.br (decide (IntKind.wrap IntKind.i64 (bitI BinOp.and IntKind.u8 (↑(firstT (Int.toNat (sbyte t
    (Int.toNat (0 : Int))))) : Int) (7 : Int)) ≤ (3 : Int))) (Tree.chk true (Tree.leaf (Ans.mk (AV.tup [AV.v (Value.int IntKind.i32 (bitI BinOp.or IntKind.i32 (bitI BinOp.or IntKind.i32
    (IntKind.wrap IntKind.i32 (IntKind.wrap IntKind.i32 (bitI BinOp.and IntKind.u8 (sbyte t (Int.toNat (0 : Int))) (15 : Int)) * (2 : Int) ^ min (Int.toNat (12 : Int)) (32 : Nat)))
    (IntKind.wrap IntKind.i32 (IntKind.wrap IntKind.i32 (bitI BinOp.and IntKind.u8 (sbyte t (Int.toNat (1 : Int))) (63 : Int)) * (2 : Int) ^ min (Int.toNat (6 : Int)) (32 : Nat))))
    (IntKind.wrap IntKind.i32 (bitI BinOp.and IntKind.u8 (sbyte t (Int.toNat (2 : Int))) (63 : Int))))), AV.v (Value.int IntKind.i64 (3 : Int))]) []))) (Tree.chk (decide ((3 : Int) <
    (↑(ByteArray.size t) : Int))) (Tree.br (bif decide (sbyte t (Int.toNat (3 : Int)) < (128 : Int)) then true else decide ((191 : Int) < sbyte t (Int.toNat (3 : Int)))) (Tree.leaf (Ans.mk
    (AV.tup [AV.v (Value.int IntKind.i32 (65533 : Int)), AV.v (Value.int IntKind.i64 (1 : Int))]) [])) (Tree.chk true (Tree.leaf (Ans.mk (AV.tup [AV.v (Value.int IntKind.i32 (bitI BinOp.or
    IntKind.i32 (bitI BinOp.or IntKind.i32 (bitI BinOp.or IntKind.i32 (IntKind.wrap IntKind.i32 (IntKind.wrap IntKind.i32 (bitI BinOp.and IntKind.u8 (sbyte t (Int.toNat (0 : Int))) (7 :
    Int)) * (2 : Int) ^ min (Int.toNat (18 : Int)) (32 : Nat))) (IntKind.wrap IntKind.i32 (IntKind.wrap IntKind.i32 (bitI BinOp.and IntKind.u8 (sbyte t (Int.toNat (1 : Int))) (63 : Int)) *
    (2 : Int) ^ min (Int.toNat (12 : Int)) (32 : Nat)))) (IntKind.wrap IntKind.i32 (IntKind.wrap IntKind.i32 (bitI BinOp.and IntKind.u8 (sbyte t (Int.toNat (2 : Int))) (63 : Int)) * (2 :
    Int) ^ min (Int.toNat (6 : Int)) (32 : Nat)))) (IntKind.wrap IntKind.i32 (bitI BinOp.and IntKind.u8 (sbyte t (Int.toNat (3 : Int))) (63 : Int))))), AV.v (Value.int IntKind.i64 (4 :
    Int))]) []))))))))))))))))) := by kernel_rfl
theorem firstT_nine (b : Nat) : firstT b = 240 ∨ firstT b = 241 ∨ firstT b = 2 ∨ firstT b = 19 ∨ firstT b = 3 ∨ firstT b = 35 ∨ firstT b = 52 ∨ firstT b = 4 ∨ firstT b = 68 := by
  unfold firstT
  repeat' split
  all_goals simp
theorem xfacts (x : Nat) (h : x = 240 ∨ x = 241 ∨ x = 2 ∨ x = 19 ∨ x = 3 ∨ x = 35 ∨ x = 52 ∨ x = 4 ∨ x = 68) :
    IntKind.wrap IntKind.i64 (bitI BinOp.and IntKind.u8 (x : Int) 7) = ((x % 8 : Nat) : Int) ∧ Int.fdiv (x : Int) ((2 : Int) ^ min (Int.toNat (4 : Int)) (8 : Nat)) = ((x / 16 : Nat) : Int) := by
  rcases h with rfl | rfl | rfl | rfl | rfl | rfl | rfl | rfl | rfl <;> exact ⟨by decide +kernel, by decide +kernel⟩
theorem slowW (n b0 b1 b2 b3 sz lo hi : Nat) : ∃ w, (slowN n b0 b1 b2 b3 sz lo hi).2 = w ∧ ((n < sz ∧ w = 1) ∨ (sz ≤ n ∧ (b1 < lo ∨ hi < b1) ∧ w = 1) ∨ (sz ≤ n ∧ lo ≤ b1 ∧ b1 ≤ hi ∧ sz ≤ 2 ∧ w = 2) ∨ (sz ≤ n ∧ lo ≤ b1 ∧ b1 ≤ hi ∧ 2 < sz ∧ (b2 < 128 ∨ 191 < b2) ∧ w = 1) ∨
    (sz ≤ n ∧ lo ≤ b1 ∧ b1 ≤ hi ∧ 2 < sz ∧ 128 ≤ b2 ∧ b2 ≤ 191 ∧ sz ≤ 3 ∧ w = 3) ∨ (sz ≤ n ∧ lo ≤ b1 ∧ b1 ≤ hi ∧ 3 < sz ∧ 128 ≤ b2 ∧ b2 ≤ 191 ∧ (b3 < 128 ∨ 191 < b3) ∧ w = 1) ∨ (sz ≤ n ∧ lo ≤ b1 ∧ b1 ≤ hi ∧ 3 < sz ∧ 128 ≤ b2 ∧ b2 ≤ 191 ∧ 128 ≤ b3 ∧ b3 ≤ 191 ∧ w = 4)) := by
  refine ⟨_, rfl, ?_⟩
  unfold slowN
  repeat' split
  all_goals simp only [and_true]
  all_goals first | omega | (simp; omega)
def decV (t : ByteArray) : AV := .tup [.any, .v (.int .i64 ((Utf8.decode t 0).2 : Int))]
set_option maxHeartbeats 4000000 in
theorem ansSlow {t : ByteArray} (h : 0 < t.size) : Answers Tryd.prog Γm 120 [.v (.string t)] [] (decV t) [] [] :=
  answers (fn := Tryd.f120) (c := bodyOf Tryd.f120) (ntmps := 117) (results := [.tmp 2, .tmp 3]) [] Lno false Tryd.func120 (by kernel_rfl) (by kernel_rfl) (by kernel_rfl) (by kernel_rfl) (by simp) rfl (noLoops (by kernel_rfl)) <| Meets.of (run120 t) <| by
    have e0 : sbyte t (Int.toNat 0) = (bN t 0 : Int) := rfl
    have e1 : sbyte t (Int.toNat 1) = (bN t 1 : Int) := rfl
    have e2 : sbyte t (Int.toNat 2) = (bN t 2 : Int) := rfl
    have e3 : sbyte t (Int.toNat 3) = (bN t 3 : Int) := rfl
    have l0 := bN_lt t 0
    have l1 := bN_lt t 1
    have l2 := bN_lt t 2
    have l3 := bN_lt t 3
    have hd := decode_bN t 0
    simp only [Nat.sub_zero, Nat.zero_add] at hd
    unfold decV
    rw [hd]
    have h9 := firstT_nine (bN t 0)
    obtain ⟨f1, f2⟩ := xfacts _ h9
    simp only [e0, e1, e2, e3, Int.toNat_natCast, f1, f2]
    rcases Nat.lt_or_ge (firstT (bN t 0)) 240 with hx | hx
    · rw [← slow_eq t.size _ _ _ _ h l1 l2 l3 hx]
      obtain ⟨w, hw, hs⟩ := slowW t.size (bN t 0) (bN t 1) (bN t 2) (bN t 3) (firstT (bN t 0) % 8) (accLo (firstT (bN t 0) / 16)) (accHi (firstT (bN t 0) / 16))
      rw [hw]
      have hz : 2 ≤ firstT (bN t 0) % 8 := by omega
      generalize accLo (firstT (bN t 0) / 16) = lo at *
      generalize accHi (firstT (bN t 0) / 16) = hi at *
      generalize firstT (bN t 0) = x at *
      generalize bN t 0 = b0 at *
      generalize bN t 1 = b1 at *
      generalize bN t 2 = b2 at *
      generalize bN t 3 = b3 at *
      clear f1 f2 hd e0 e1 e2 e3
      repeat' (first | refine wC (by first | omega | (simp only [W1, cond_true, cond_false]; first | done | omega)) ?_ | refine wT (by first | omega | (simp only [W1, cond_true, cond_false]; first | done | omega)) ?_ | refine wF (by intro _h; first | omega | (simp only [W1, cond_true, cond_false] at _h; first | done | omega)) ?_ | (refine wS ?_ ?_ <;> intro _h <;> simp only [W1, cond_true, cond_false] at _h))
      all_goals simp only [W1, W2, owesN, owesX, owesR, cond_true, cond_false]
      repeat' (first | apply And.intro | intro _hc)
      all_goals first | exact tup2 (.any _) (leI (by omega)) | exact AV.le_refl _ | exact AV.le_any _ | exact OLe.refl _ | exact OLe.none _ | exact LeH.refl _ | exact LeL.refl _ | exact AV.le.bs _ | exact AV.le.sb _ | omega | contradiction
    · have hw : (decodeN t.size (bN t 0) (bN t 1) (bN t 2) (bN t 3)).2 = 1 := by
        rcases (show firstT (bN t 0) = 240 ∨ firstT (bN t 0) = 241 by omega) with h | h
        · rw [ascii_eq _ _ _ _ _ h]
        · rw [bad_eq _ _ _ _ _ l0 h]
      rw [hw]
      repeat' (first | refine wC (by first | omega | (simp only [W1, cond_true, cond_false]; first | done | omega)) ?_ | refine wT (by first | omega | (simp only [W1, cond_true, cond_false]; first | done | omega)) ?_ | refine wF (by intro _h; first | omega | (simp only [W1, cond_true, cond_false] at _h; first | done | omega)) ?_ | (refine wS ?_ ?_ <;> intro _h <;> simp only [W1, cond_true, cond_false] at _h))
      all_goals simp only [W1, W2, owesN, owesX, owesR, cond_true, cond_false]
      repeat' (first | apply And.intro | intro _hc)
      all_goals first | exact tup2 (.any _) (leI rfl) | exact AV.le_refl _ | exact AV.le_any _ | exact OLe.refl _ | exact OLe.none _ | exact LeH.refl _ | exact LeL.refl _ | exact AV.le.bs _ | exact AV.le.sb _ | omega | contradiction
noncomputable def k120 : CT Tryd.prog Γm := CT.oS 120 Tryd.func120 (by kernel_rfl) (by kernel_rfl) (fun s => 0 < s.size) decV (fun _ => []) (fun s h => ansSlow h)
theorem run110 (t : ByteArray) : bodyE (P := Tryd.prog) (Γ := Γm) [k120] Lno false 19 [.tmp 2, .tmp 3] (bodyOf Tryd.f110) [.v (.string t)] [] =
  Tree.chk (bif !decide (t = ByteArray.mk #[]) then decide ((0 : Int) < (↑(ByteArray.size t) : Int)) else true) (Tree.br (bif !decide (t = ByteArray.mk #[]) then decide (sbyte t (Int.toNat (0
    : Int)) < (128 : Int)) else false) (Tree.chk (decide ((0 : Int) < (↑(ByteArray.size t) : Int))) (Tree.leaf (Ans.mk (AV.tup [AV.v (Value.int IntKind.i32 (IntKind.wrap IntKind.i32 (sbyte t
    (Int.toNat (0 : Int))))), AV.v (Value.int IntKind.i64 (1 : Int))]) []))) (Tree.chk (cl ((0 : Nat) < ByteArray.size t ∧ LeL [AV.v (Value.string t)] [AV.v (Value.string t)] ∧ LeH [] []))
    (Tree.leaf (Ans.mk (AV.tup [AV.any, AV.v (Value.int IntKind.i64 (↑(Utf8.decode t (0 : Nat)).snd : Int))]) [])))) := by kernel_rfl
theorem ansDec {t : ByteArray} (h : 0 < t.size) : Answers Tryd.prog Γm 110 [.v (.string t)] [] (decV t) [] [] :=
  answers (fn := Tryd.f110) (c := bodyOf Tryd.f110) (ntmps := 19) (results := [.tmp 2, .tmp 3]) [k120] Lno false Tryd.func110 (by kernel_rfl) (by kernel_rfl) (by kernel_rfl) (by kernel_rfl) (by simp) rfl (noLoops (by kernel_rfl)) <| Meets.of (run110 t) <| by
    have e0 : sbyte t (Int.toNat 0) = (bN t 0 : Int) := rfl
    have hE : ¬ t = ⟨#[]⟩ := fun e => by subst e; cases h
    have hE' : decide (t = ⟨#[]⟩) = false := decide_eq_false hE
    rcases Nat.lt_or_ge (bN t 0) 128 with hb | hb
    · have hw : (Utf8.decode t 0).2 = 1 := by
        rw [decode_bN]
        unfold decodeN
        rw [if_pos hb]
      unfold decV
      rw [hw]
      repeat' (first | refine wC (by first | omega | (simp only [W1, cond_true, cond_false, e0, hE', hE]; first | done | omega)) ?_ | refine wT (by first | omega | (simp only [W1, cond_true, cond_false, e0, hE', hE]; first | done | omega)) ?_ | refine wF (by intro _h; first | omega | (simp only [W1, cond_true, cond_false, e0, hE', hE] at _h; first | done | omega)) ?_ | (refine wS ?_ ?_ <;> intro _h <;> simp only [W1, cond_true, cond_false, e0, hE', hE] at _h))
      all_goals simp only [W1, W2, owesN, owesX, owesR, cond_true, cond_false, e0, hE', hE]
      repeat' (first | apply And.intro | intro _hc)
      all_goals first | exact tup2 (.any _) (leI rfl) | exact AV.le_refl _ | exact AV.le_any _ | exact OLe.refl _ | exact OLe.none _ | exact LeH.refl _ | exact LeL.refl _ | exact AV.le.bs _ | exact AV.le.sb _ | omega | contradiction
    · repeat' (first | refine wC (by first | omega | (simp only [W1, cond_true, cond_false, e0, hE', hE]; first | done | omega)) ?_ | refine wT (by first | omega | (simp only [W1, cond_true, cond_false, e0, hE', hE]; first | done | omega)) ?_ | refine wF (by intro _h; first | omega | (simp only [W1, cond_true, cond_false, e0, hE', hE] at _h; first | done | omega)) ?_ | (refine wS ?_ ?_ <;> intro _h <;> simp only [W1, cond_true, cond_false, e0, hE', hE] at _h))
      all_goals simp only [W1, W2, owesN, owesX, owesR, cond_true, cond_false, e0, hE', hE]
      repeat' (first | apply And.intro | intro _hc)
      all_goals first | exact tup2 (.any _) (leI rfl) | exact AV.le_refl _ | exact AV.le_any _ | exact OLe.refl _ | exact OLe.none _ | exact LeH.refl _ | exact LeL.refl _ | exact AV.le.bs _ | exact AV.le.sb _ | omega | contradiction
noncomputable def k110 : CT Tryd.prog Γm := CT.oS 110 Tryd.func110 (by kernel_rfl) (by kernel_rfl) (fun s => 0 < s.size) decV (fun _ => []) (fun s h => ansDec h)
/-! ### broken -/
def ofSPC : List AV → List Blk → Option (ByteArray × Int × Int)
  | [.v (.string s), .v (.int _ p), .v (.int _ c)], [] => some (s, p, c)
  | _, _ => none
theorem run75 (s : ByteArray) (p c : Int) : bodyE (P := Tryd.prog) (Γ := Γm) [k110] Lno false 20 [.tmp 6] (bodyOf Tryd.f75) [.v (.string s), .v (.int .i64 p), .v (.int .i32 c)] [] =
  Tree.br (!decide (c = (65533 : Int))) (Tree.leaf (Ans.mk (AV.v (Value.bool false)) [])) (Tree.chk (decide ((0 : Int) ≤ p) && decide (p ≤ (↑(ByteArray.size s) : Int)) && decide
    ((↑(ByteArray.size s) : Int) ≤ (↑(ByteArray.size s) : Int)) && cl ((0 : Nat) < ByteArray.size (ByteArray.extract s (Int.toNat p) (ByteArray.size s)) ∧ LeL [AV.v (Value.string
    (ByteArray.extract s (Int.toNat p) (ByteArray.size s)))] [AV.v (Value.string (ByteArray.extract s (Int.toNat p) (ByteArray.size s)))] ∧ LeH [] [])) (Tree.leaf (Ans.mk (AV.sb (decide
    ((↑(Utf8.decode (ByteArray.extract s (Int.toNat p) (ByteArray.size s)) (0 : Nat)).snd : Int) = (1 : Int)))) []))) := by kernel_rfl
theorem ansBrk {s : ByteArray} {p : Nat} (hp : p < s.size) : Answers Tryd.prog Γm 75 [.v (.string s), .v (.int .i64 (p : Int)), .v (.int .i32 ((Utf8.decode s p).1 : Int))] [] (.sb (!okAt s p)) [] [] :=
  answers (fn := Tryd.f75) (c := bodyOf Tryd.f75) (ntmps := 20) (results := [.tmp 6]) [k110] Lno false Tryd.func75 (by kernel_rfl) (by kernel_rfl) (by kernel_rfl) (by kernel_rfl) (by simp) rfl (noLoops (by kernel_rfl)) <| Meets.of (run75 s p ((Utf8.decode s p).1 : Int)) <| by
    have hz : (s.extract p s.size).size = s.size - p := ext_size _ _ _ (Nat.le_refl _)
    have hde := dec_ext (s := s) (p := p) (by omega)
    by_cases hc : (Utf8.decode s p).1 = 65533
    · by_cases hw : (Utf8.decode s p).2 = 1
      · rw [okAt_f (Prod.ext hc hw)]
        repeat' (first | refine wC (by first | omega | (simp only [W1, cond_true, cond_false, hz, hde, hc, hw]; first | done | omega)) ?_ | refine wT (by first | omega | (simp only [W1, cond_true, cond_false, hz, hde, hc, hw]; first | done | omega)) ?_ | refine wF (by intro _h; first | omega | (simp only [W1, cond_true, cond_false, hz, hde, hc, hw] at _h; first | done | omega)) ?_ | (refine wS ?_ ?_ <;> intro _h <;> simp only [W1, cond_true, cond_false, hz, hde, hc, hw] at _h))
        all_goals simp only [W1, W2, owesN, owesX, owesR, cond_true, cond_false, hz, hde, hc, hw]
        repeat' (first | apply And.intro | intro _hc)
        all_goals first | exact leB' (by simp [hde, hw]) | exact AV.le_refl _ | exact AV.le_any _ | exact OLe.refl _ | exact OLe.none _ | exact LeH.refl _ | exact LeL.refl _ | exact AV.le.bs _ | exact AV.le.sb _ | omega | contradiction
      · rw [okAt_t rfl (fun e => hw (congrArg Prod.snd e))]
        repeat' (first | refine wC (by first | omega | (simp only [W1, cond_true, cond_false, hz, hde, hc]; first | done | omega)) ?_ | refine wT (by first | omega | (simp only [W1, cond_true, cond_false, hz, hde, hc]; first | done | omega)) ?_ | refine wF (by intro _h; first | omega | (simp only [W1, cond_true, cond_false, hz, hde, hc] at _h; first | done | omega)) ?_ | (refine wS ?_ ?_ <;> intro _h <;> simp only [W1, cond_true, cond_false, hz, hde, hc] at _h))
        all_goals simp only [W1, W2, owesN, owesX, owesR, cond_true, cond_false, hz, hde, hc]
        repeat' (first | apply And.intro | intro _hc)
        all_goals first | exact leB' (decide_eq_false (by omega)) | exact AV.le_refl _ | exact AV.le_any _ | exact OLe.refl _ | exact OLe.none _ | exact LeH.refl _ | exact LeL.refl _ | exact AV.le.bs _ | exact AV.le.sb _ | omega | contradiction
    · rw [okAt_t rfl (fun e => hc (congrArg Prod.fst e))]
      repeat' (first | refine wC (by first | omega | (simp only [W1, cond_true, cond_false]; first | done | omega)) ?_ | refine wT (by first | omega | (simp only [W1, cond_true, cond_false]; first | done | omega)) ?_ | refine wF (by intro _h; first | omega | (simp only [W1, cond_true, cond_false] at _h; first | done | omega)) ?_ | (refine wS ?_ ?_ <;> intro _h <;> simp only [W1, cond_true, cond_false] at _h))
      all_goals simp only [W1, W2, owesN, owesX, owesR, cond_true, cond_false]
      repeat' (first | apply And.intro | intro _hc)
      all_goals first | exact AV.le_refl _ | exact AV.le_any _ | exact OLe.refl _ | exact OLe.none _ | exact LeH.refl _ | exact LeL.refl _ | exact AV.le.bs _ | exact AV.le.sb _ | omega | contradiction
noncomputable def k75 : CT Tryd.prog Γm := CT.par 75 ofSPC (fun x => 0 ≤ x.2.1 ∧ x.2.1 < (x.1.size : Int) ∧ x.2.2 = ((Utf8.decode x.1 x.2.1.toNat).1 : Int)) (fun x => [.v (.string x.1), .v (.int .i64 x.2.1), .v (.int .i32 x.2.2)]) (fun _ => []) (fun x => .sb (!okAt x.1 x.2.1.toNat)) (fun _ => []) (fun _ => [])
  (callFunc_enters Tryd.func75 (by kernel_rfl) (by kernel_rfl)) (fun x ⟨h1, h2, h3⟩ => by
    obtain ⟨s, p, c⟩ := x
    obtain ⟨q, rfl⟩ := Int.eq_ofNat_of_zero_le h1
    dsimp only at h2 h3 ⊢
    rw [h3]
    simp only [Int.toNat_natCast]
    exact ansBrk (by omega))
end Go.Eng.TA

/- names: which texts are values. -/
namespace Go.Eng.TA
open Go Go.Eng Go.Eng.M Go.Lib Go.Proofs
set_option linter.unusedSimpArgs false
set_option linter.unusedVariables false
def valN (c : Nat) : Bool := decide (32 ≤ c ∧ c ≠ 127)
def fineV (s : ByteArray) (p : Nat) : Bool := (rns s p).all valN && good s p
/-- is it a value? -/
def valueB (s : ByteArray) : Bool := fineV s 0 && decide ((rns s 0).length ≤ 32)
noncomputable abbrev lpVal : Code := loopOf (bodyOf Tryd.f22) 0
def SVal (s : ByteArray) (x : XP) : List AV × Heap := ([.v (.string s), .v (.int .i64 (x.k : Int)), .its 0, .any], [some (.sit s x.p)])
def retVal : Out := ⟨.ret, [.any, .any, .any, .v (.int .i64 20)], [none]⟩
def endVal (s : ByteArray) : Out := ⟨.exit 0, [.any, .v (.int .i64 ((rns s 0).length : Int)), .any, .any], [none]⟩
def OVal (s : ByteArray) : Out := bif fineV s 0 then endVal s else retVal
theorem rVal (s : ByteArray) (x : XP) : roundE (P := Tryd.prog) (Γ := Γm) [k75] Lno false 0 0 lpVal [0, 3, 7, 2] [] 28 (SVal s x).1 (SVal s x).2 =
  Tree.br (decide (x.p < ByteArray.size s)) (Tree.chk (bif decide ((↑(Utf8.decode s x.p).fst : Int) < (32 : Int)) then true else bif decide ((↑(Utf8.decode s x.p).fst : Int) = (127 : Int))
    then true else cl (((0 : Int) ≤ (↑x.p : Int) ∧ (↑x.p : Int) < (↑(ByteArray.size s) : Int) ∧ (↑(Utf8.decode s x.p).fst : Int) = (↑(Utf8.decode s x.p).fst : Int)) ∧ LeL [AV.v (Value.string
    s), AV.v (Value.int IntKind.i64 (↑x.p : Int)), AV.v (Value.int IntKind.i32 (↑(Utf8.decode s x.p).fst : Int))] [AV.v (Value.string s), AV.v (Value.int IntKind.i64 (↑x.p : Int)), AV.v
    (Value.int IntKind.i32 (↑(Utf8.decode s x.p).fst : Int))] ∧ LeH [] [])) (Tree.br (bif decide ((↑(Utf8.decode s x.p).fst : Int) < (32 : Int)) then true else bif decide ((↑(Utf8.decode s
    x.p).fst : Int) = (127 : Int)) then true else !okAt s x.p) (Tree.leaf (Out.mk AEx.ret [AV.v (Value.string s), AV.v (Value.int IntKind.i64 (↑x.k : Int)), AV.its (0 : Nat), AV.v (Value.int
    IntKind.i64 (20 : Int))] [some (Blk.sit s (x.p + (Utf8.decode s x.p).snd))])) (Tree.leaf (Out.mk AEx.normal [AV.v (Value.string s), AV.v (Value.int IntKind.i64 (IntKind.wrap IntKind.i64
    ((↑x.k : Int) + (1 : Int)))), AV.its (0 : Nat), AV.any] [some (Blk.sit s (x.p + (Utf8.decode s x.p).snd))])))) (Tree.leaf (Out.mk (AEx.exit (0 : Nat)) [AV.v (Value.string s), AV.v
    (Value.int IntKind.i64 (↑x.k : Int)), AV.its (0 : Nat), AV.any] [some (Blk.sit s x.p)])) := by kernel_rfl
theorem loopVal {s : ByteArray} (hs : s.size ≤ 1000000000) : ∀ x : XP, (x.p ≤ s.size ∧ x.k + (rns s x.p).length = (rns s 0).length ∧ fineV s x.p = fineV s 0) → LoopOK Tryd.prog Γm 0 28 lpVal (LSpec.at [0, 3, 7, 2] [] (SVal s x) (OVal s)) := by
  refine loop_at (S := SVal s) (O := fun _ => OVal s) (k := 0) (fun x => s.size - x.p) fun x hp => .of (noLoops (by kernel_rfl)) (rVal s x) ?_
  obtain ⟨p, k⟩ := x
  obtain ⟨h1, h2, h3⟩ := hp
  have hl : (rns s 0).length ≤ s.size - 0 := rns_len
  dsimp only at h1 h2 h3
  rcases Nat.lt_or_ge p s.size with hi | hi
  · have hst := rns_step hi
    have hd := dec_pos s p
    have hle := dec_le hi
    rw [hst, List.length_cons] at h2
    have hf : fineV s p = ((valN (Utf8.decode s p).1 && okAt s p) && fineV s (p + (Utf8.decode s p).2)) := by
      unfold fineV
      rw [hst, List.all_cons, good_ok hi]
      cases valN (Utf8.decode s p).1 <;> cases okAt s p <;> simp
    by_cases hv : 32 ≤ (Utf8.decode s p).1 ∧ (Utf8.decode s p).1 ≠ 127
    · rw [show valN (Utf8.decode s p).1 = true from decide_eq_true hv, Bool.true_and] at hf
      cases ho : okAt s p with
      | true =>
        rw [ho, Bool.true_and] at hf
        repeat' (first | refine wC (by first | omega | (simp only [W1, cond_true, cond_false, ho, wrapUpN (show k ≤ 10000000000 by omega)]; first | done | omega)) ?_ | refine wT (by first | omega | (simp only [W1, cond_true, cond_false, ho, wrapUpN (show k ≤ 10000000000 by omega)]; first | done | omega)) ?_ | refine wF (by intro _h; first | omega | (simp only [W1, cond_true, cond_false, ho, wrapUpN (show k ≤ 10000000000 by omega)] at _h; first | done | omega)) ?_ | (refine wS ?_ ?_ <;> intro _h <;> simp only [W1, cond_true, cond_false, ho, wrapUpN (show k ≤ 10000000000 by omega)] at _h))
        all_goals simp only [W1, W2, owesN, owesX, owesR, cond_true, cond_false, ho, wrapUpN (show k ≤ 10000000000 by omega)]
        repeat' (first | apply And.intro | intro _hc)
        all_goals first | exact ⟨⟨p + (Utf8.decode s p).2, k + 1⟩, LeL.refl _, LeH.refl _, ⟨hle, by dsimp only; omega, by dsimp only; rw [← hf, h3]⟩, by dsimp only; omega⟩ | exact AV.le_refl _ | exact AV.le_any _ | exact OLe.refl _ | exact OLe.none _ | exact LeH.refl _ | exact LeL.refl _ | exact AV.le.bs _ | exact AV.le.sb _ | omega | contradiction
      | false =>
        rw [ho, Bool.false_and] at hf
        rw [show OVal s = retVal by unfold OVal; rw [← h3, hf]; rfl]
        repeat' (first | refine wC (by first | omega | (simp only [W1, cond_true, cond_false, ho]; first | done | omega)) ?_ | refine wT (by first | omega | (simp only [W1, cond_true, cond_false, ho]; first | done | omega)) ?_ | refine wF (by intro _h; first | omega | (simp only [W1, cond_true, cond_false, ho] at _h; first | done | omega)) ?_ | (refine wS ?_ ?_ <;> intro _h <;> simp only [W1, cond_true, cond_false, ho] at _h))
        all_goals simp only [W1, W2, owesN, owesX, owesR, cond_true, cond_false, ho]
        repeat' (first | apply And.intro | intro _hc)
        all_goals first | exact rfl | exact AV.le_refl _ | exact AV.le_any _ | exact OLe.refl _ | exact OLe.none _ | exact LeH.refl _ | exact LeL.refl _ | exact AV.le.bs _ | exact AV.le.sb _ | omega | contradiction
    · rw [show valN (Utf8.decode s p).1 = false from decide_eq_false hv, Bool.false_and, Bool.false_and] at hf
      rw [show OVal s = retVal by unfold OVal; rw [← h3, hf]; rfl]
      repeat' (first | refine wC (by first | omega | (simp only [W1, cond_true, cond_false]; first | done | omega)) ?_ | refine wT (by first | omega | (simp only [W1, cond_true, cond_false]; first | done | omega)) ?_ | refine wF (by intro _h; first | omega | (simp only [W1, cond_true, cond_false] at _h; first | done | omega)) ?_ | (refine wS ?_ ?_ <;> intro _h <;> simp only [W1, cond_true, cond_false] at _h))
      all_goals simp only [W1, W2, owesN, owesX, owesR, cond_true, cond_false]
      repeat' (first | apply And.intro | intro _hc)
      all_goals first | exact rfl | exact AV.le_refl _ | exact AV.le_any _ | exact OLe.refl _ | exact OLe.none _ | exact LeH.refl _ | exact LeL.refl _ | exact AV.le.bs _ | exact AV.le.sb _ | omega | contradiction
  · rw [rns_end hi, List.length_nil] at h2
    have h2 : k = (rns s 0).length := by omega
    subst h2
    have hf : fineV s 0 = true := by
      rw [← h3]; unfold fineV; rw [rns_end hi, good_end hi]; rfl
    rw [show OVal s = endVal s by unfold OVal; rw [hf]; rfl]
    repeat' (first | refine wC (by first | omega | (simp only [W1, cond_true, cond_false]; first | done | omega)) ?_ | refine wT (by first | omega | (simp only [W1, cond_true, cond_false]; first | done | omega)) ?_ | refine wF (by intro _h; first | omega | (simp only [W1, cond_true, cond_false] at _h; first | done | omega)) ?_ | (refine wS ?_ ?_ <;> intro _h <;> simp only [W1, cond_true, cond_false] at _h))
    all_goals simp only [W1, W2, owesN, owesX, owesR, cond_true, cond_false]
    repeat' (first | apply And.intro | intro _hc)
    all_goals first | exact rfl | exact AV.le_refl _ | exact AV.le_any _ | exact OLe.refl _ | exact OLe.none _ | exact LeH.refl _ | exact LeL.refl _ | exact AV.le.bs _ | exact AV.le.sb _ | omega | contradiction
theorem runValE (s : ByteArray) : bodyE (P := Tryd.prog) (Γ := Γm) [] (fun _ => LSpec.at [0, 3, 7, 2] [] (SVal s ⟨0, 0⟩) (endVal s)) false 28 [.tmp 2] (bodyOf Tryd.f22) [.v (.string s)] [] =
  Tree.chk (cl (LeL [AV.v (Value.string s), AV.v (Value.int IntKind.i64 (0 : Int)), AV.its (0 : Nat), AV.v (Value.int IntKind.i64 (0 : Int))] [AV.v (Value.string s), AV.v (Value.int
    IntKind.i64 (↑(0 : Nat) : Int)), AV.its (0 : Nat), AV.any] ∧ LeH [some (Blk.sit s (0 : Nat))] [some (Blk.sit s (0 : Nat))])) (Tree.br (decide ((32 : Int) < (↑(List.length (rns s (0 :
    Nat))) : Int))) (Tree.leaf (Ans.mk (AV.v (Value.int IntKind.i64 (20 : Int))) [])) (Tree.leaf (Ans.mk (AV.v (Value.int IntKind.i64 (0 : Int))) []))) := by kernel_rfl
theorem runValR (s : ByteArray) : bodyE (P := Tryd.prog) (Γ := Γm) [] (fun _ => LSpec.at [0, 3, 7, 2] [] (SVal s ⟨0, 0⟩) retVal) false 28 [.tmp 2] (bodyOf Tryd.f22) [.v (.string s)] [] =
  Tree.chk (cl (LeL [AV.v (Value.string s), AV.v (Value.int IntKind.i64 (0 : Int)), AV.its (0 : Nat), AV.v (Value.int IntKind.i64 (0 : Int))] [AV.v (Value.string s), AV.v (Value.int
    IntKind.i64 (↑(0 : Nat) : Int)), AV.its (0 : Nat), AV.any] ∧ LeH [some (Blk.sit s (0 : Nat))] [some (Blk.sit s (0 : Nat))])) (Tree.leaf (Ans.mk (AV.v (Value.int IntKind.i64 (20 : Int)))
    [])) := by kernel_rfl
theorem ansVal {s : ByteArray} (hs : s.size ≤ 1000000000) : Answers Tryd.prog Γm 22 [.v (.string s)] [] (.v (.int .i64 (erN (valueB s)))) [] [] := by
  have hl := loopVal hs ⟨0, 0⟩ ⟨Nat.zero_le _, Nat.zero_add _, rfl⟩
  unfold OVal at hl
  unfold valueB
  cases hf : fineV s 0 with
  | true =>
    rw [hf, cond_true] at hl
    refine answers (fn := Tryd.f22) (c := bodyOf Tryd.f22) (ntmps := 28) (results := [.tmp 2]) [] (fun _ => LSpec.at [0, 3, 7, 2] [] (SVal s ⟨0, 0⟩) (endVal s)) false Tryd.func22 (by kernel_rfl) (by kernel_rfl) (by kernel_rfl) (by kernel_rfl) (by simp) rfl (oneLoop (b := lpVal) (by kernel_rfl) hl) <| Meets.of (runValE s) <| ?_
    by_cases h : (rns s 0).length ≤ 32
    · rw [decide_eq_true h]
      repeat' (first | refine wC (by first | omega | (simp only [W1, cond_true, cond_false]; first | done | omega)) ?_ | refine wT (by first | omega | (simp only [W1, cond_true, cond_false]; first | done | omega)) ?_ | refine wF (by intro _h; first | omega | (simp only [W1, cond_true, cond_false] at _h; first | done | omega)) ?_ | (refine wS ?_ ?_ <;> intro _h <;> simp only [W1, cond_true, cond_false] at _h))
      all_goals simp only [W1, W2, owesN, owesX, owesR, cond_true, cond_false]
      repeat' (first | apply And.intro | intro _hc)
      all_goals first | exact leI rfl | exact AV.le_refl _ | exact AV.le_any _ | exact OLe.refl _ | exact OLe.none _ | exact LeH.refl _ | exact LeL.refl _ | exact AV.le.bs _ | exact AV.le.sb _ | omega | contradiction
    · rw [decide_eq_false h]
      repeat' (first | refine wC (by first | omega | (simp only [W1, cond_true, cond_false]; first | done | omega)) ?_ | refine wT (by first | omega | (simp only [W1, cond_true, cond_false]; first | done | omega)) ?_ | refine wF (by intro _h; first | omega | (simp only [W1, cond_true, cond_false] at _h; first | done | omega)) ?_ | (refine wS ?_ ?_ <;> intro _h <;> simp only [W1, cond_true, cond_false] at _h))
      all_goals simp only [W1, W2, owesN, owesX, owesR, cond_true, cond_false]
      repeat' (first | apply And.intro | intro _hc)
      all_goals first | exact leI rfl | exact AV.le_refl _ | exact AV.le_any _ | exact OLe.refl _ | exact OLe.none _ | exact LeH.refl _ | exact LeL.refl _ | exact AV.le.bs _ | exact AV.le.sb _ | omega | contradiction
  | false =>
    rw [hf, cond_false] at hl
    refine answers (fn := Tryd.f22) (c := bodyOf Tryd.f22) (ntmps := 28) (results := [.tmp 2]) [] (fun _ => LSpec.at [0, 3, 7, 2] [] (SVal s ⟨0, 0⟩) retVal) false Tryd.func22 (by kernel_rfl) (by kernel_rfl) (by kernel_rfl) (by kernel_rfl) (by simp) rfl (oneLoop (b := lpVal) (by kernel_rfl) hl) <| Meets.of (runValR s) <| ?_
    repeat' (first | refine wC (by first | omega | (simp only [W1, cond_true, cond_false]; first | done | omega)) ?_ | refine wT (by first | omega | (simp only [W1, cond_true, cond_false]; first | done | omega)) ?_ | refine wF (by intro _h; first | omega | (simp only [W1, cond_true, cond_false] at _h; first | done | omega)) ?_ | (refine wS ?_ ?_ <;> intro _h <;> simp only [W1, cond_true, cond_false] at _h))
    all_goals simp only [W1, W2, owesN, owesX, owesR, cond_true, cond_false]
    repeat' (first | apply And.intro | intro _hc)
    all_goals first | exact leI rfl | exact AV.le_refl _ | exact AV.le_any _ | exact OLe.refl _ | exact OLe.none _ | exact LeH.refl _ | exact LeL.refl _ | exact AV.le.bs _ | exact AV.le.sb _ | omega | contradiction
noncomputable def kVal : CT Tryd.prog Γm := CT.oS 22 Tryd.func22 (by kernel_rfl) (by kernel_rfl) (fun s => s.size ≤ 1000000000) (fun s => .v (.int .i64 (erN (valueB s)))) (fun _ => []) (fun s h => ansVal h)
/-! ### the document's -/
noncomputable abbrev lpValR : Code := loopOf (bodyOf Tryd.f23) 0
def SValR (l : List Nat) (i : Nat) : List AV × Heap := ([.hs 0 0 l.length, .v (.int .i64 (i : Int)), .any], [some (i1B l)])
def OValR (l : List Nat) : Out := bif l.all valN then ⟨.exit 0, [.any, .any, .any], [none]⟩ else ⟨.ret, [.any, .any, .v (.bool false)], [none]⟩
theorem rValR (l : List Nat) (i : Nat) : roundE (P := Tryd.prog) (Γ := Γm) [] Lno false 0 0 lpValR [3, 5, 2] [] 36 (SValR l i).1 (SValR l i).2 =
  Tree.br (decide ((↑i : Int) < (↑(List.length l) : Int))) (Tree.chk (decide ((0 : Int) ≤ (↑i : Int)) && decide ((↑i : Int) < (↑(List.length l) : Int)) && bif decide ((↑(List.getD l ((0 : Nat)
    + i) default) : Int) < (32 : Int)) then true else decide ((0 : Int) ≤ (↑i : Int)) && decide ((↑i : Int) < (↑(List.length l) : Int))) (Tree.br (bif decide ((↑(List.getD l ((0 : Nat) + i)
    default) : Int) < (32 : Int)) then true else decide ((↑(List.getD l ((0 : Nat) + i) default) : Int) = (127 : Int))) (Tree.leaf (Out.mk AEx.ret [AV.hs (0 : Nat) (0 : Nat) (List.length l),
    AV.v (Value.int IntKind.i64 (↑i : Int)), AV.v (Value.bool false)] [some (Blk.arr (1 : Nat) (List.length l) (lsF I1.c l))])) (Tree.leaf (Out.mk AEx.normal [AV.hs (0 : Nat) (0 : Nat)
    (List.length l), AV.v (Value.int IntKind.i64 (IntKind.wrap IntKind.i64 ((↑i : Int) + (1 : Int)))), AV.any] [some (Blk.arr (1 : Nat) (List.length l) (lsF I1.c l))])))) (Tree.leaf (Out.mk
    (AEx.exit (0 : Nat)) [AV.hs (0 : Nat) (0 : Nat) (List.length l), AV.v (Value.int IntKind.i64 (↑i : Int)), AV.any] [some (Blk.arr (1 : Nat) (List.length l) (lsF I1.c l))])) := by kernel_rfl
theorem loopValR {l : List Nat} (hs : l.length ≤ 1000000000) : ∀ i : Nat, (i ≤ l.length ∧ (l.drop i).all valN = l.all valN) → LoopOK Tryd.prog Γm 0 36 lpValR (LSpec.at [3, 5, 2] [] (SValR l i) (OValR l)) := by
  refine loop_at (S := SValR l) (O := fun _ => OValR l) (k := 0) (fun i => l.length - i) fun i hp => .of (noLoops (by kernel_rfl)) (rValR l i) ?_
  obtain ⟨h1, h2⟩ := hp
  rcases Nat.lt_or_ge i l.length with hi | hi
  · rw [all_drop hi] at h2
    by_cases hv : 32 ≤ l.getD i default ∧ l.getD i default ≠ 127
    · rw [show valN (l.getD i default) = true from decide_eq_true hv, Bool.true_and] at h2
      repeat' (first | refine wC (by first | omega | (simp only [W1, cond_true, cond_false, wrapUpN (show i ≤ 10000000000 by omega)]; first | done | omega)) ?_ | refine wT (by first | omega | (simp only [W1, cond_true, cond_false, wrapUpN (show i ≤ 10000000000 by omega)]; first | done | omega)) ?_ | refine wF (by intro _h; first | omega | (simp only [W1, cond_true, cond_false, wrapUpN (show i ≤ 10000000000 by omega)] at _h; first | done | omega)) ?_ | (refine wS ?_ ?_ <;> intro _h <;> simp only [W1, cond_true, cond_false, wrapUpN (show i ≤ 10000000000 by omega)] at _h))
      all_goals simp only [W1, W2, owesN, owesX, owesR, cond_true, cond_false, wrapUpN (show i ≤ 10000000000 by omega)]
      repeat' (first | apply And.intro | intro _hc)
      all_goals first | exact ⟨i + 1, LeL.refl _, LeH.refl _, ⟨hi, h2⟩, by omega⟩ | exact AV.le_refl _ | exact AV.le_any _ | exact OLe.refl _ | exact OLe.none _ | exact LeH.refl _ | exact LeL.refl _ | exact AV.le.bs _ | exact AV.le.sb _ | omega | contradiction
    · rw [show valN (l.getD i default) = false from decide_eq_false hv, Bool.false_and] at h2
      unfold OValR
      rw [← h2, cond_false]
      repeat' (first | refine wC (by first | omega | (simp only [W1, cond_true, cond_false]; first | done | omega)) ?_ | refine wT (by first | omega | (simp only [W1, cond_true, cond_false]; first | done | omega)) ?_ | refine wF (by intro _h; first | omega | (simp only [W1, cond_true, cond_false] at _h; first | done | omega)) ?_ | (refine wS ?_ ?_ <;> intro _h <;> simp only [W1, cond_true, cond_false] at _h))
      all_goals simp only [W1, W2, owesN, owesX, owesR, cond_true, cond_false]
      repeat' (first | apply And.intro | intro _hc)
      all_goals first | exact rfl | exact AV.le_refl _ | exact AV.le_any _ | exact OLe.refl _ | exact OLe.none _ | exact LeH.refl _ | exact LeL.refl _ | exact AV.le.bs _ | exact AV.le.sb _ | omega | contradiction
  · rw [List.drop_eq_nil_of_le hi] at h2
    unfold OValR
    rw [← h2, List.all_nil, cond_true]
    repeat' (first | refine wC (by first | omega | (simp only [W1, cond_true, cond_false]; first | done | omega)) ?_ | refine wT (by first | omega | (simp only [W1, cond_true, cond_false]; first | done | omega)) ?_ | refine wF (by intro _h; first | omega | (simp only [W1, cond_true, cond_false] at _h; first | done | omega)) ?_ | (refine wS ?_ ?_ <;> intro _h <;> simp only [W1, cond_true, cond_false] at _h))
    all_goals simp only [W1, W2, owesN, owesX, owesR, cond_true, cond_false]
    repeat' (first | apply And.intro | intro _hc)
    all_goals first | exact rfl | exact AV.le_refl _ | exact AV.le_any _ | exact OLe.refl _ | exact OLe.none _ | exact LeH.refl _ | exact LeL.refl _ | exact AV.le.bs _ | exact AV.le.sb _ | omega | contradiction
theorem runValRE (s : ByteArray) : bodyE (P := Tryd.prog) (Γ := Γm) [kRun] (fun _ => LSpec.at [3, 5, 2] [] (SValR (rns s 0) 0) ⟨.exit 0, [.any, .any, .any], [none]⟩) false 36 [.tmp 2] (bodyOf Tryd.f23) [.v (.string s)] [] =
  Tree.chk (cl (ByteArray.size s ≤ (100000000 : Nat) ∧ LeL [AV.v (Value.string s)] [AV.v (Value.string s)] ∧ LeH [] [])) (Tree.br (bif !good s (0 : Nat) then true else decide ((32 : Int) <
    (↑(List.length (rns s (0 : Nat))) : Int))) (Tree.leaf (Ans.mk (AV.v (Value.bool false)) [])) (Tree.chk (cl (LeL [AV.hs (0 : Nat) (0 : Nat) (List.length (rns s (0 : Nat))), AV.v
    (Value.int IntKind.i64 (0 : Int)), AV.v (Value.bool false)] [AV.hs (0 : Nat) (0 : Nat) (List.length (rns s (0 : Nat))), AV.v (Value.int IntKind.i64 (↑(0 : Nat) : Int)), AV.any] ∧ LeH
    [some (Blk.arr (1 : Nat) (List.length (rns s (0 : Nat))) (lsF I1.c (rns s (0 : Nat))))] [some (Blk.arr (1 : Nat) (List.length (rns s (0 : Nat))) (lsF I1.c (rns s (0 : Nat))))]))
    (Tree.leaf (Ans.mk (AV.v (Value.bool true)) [])))) := by kernel_rfl
theorem runValRR (s : ByteArray) : bodyE (P := Tryd.prog) (Γ := Γm) [kRun] (fun _ => LSpec.at [3, 5, 2] [] (SValR (rns s 0) 0) ⟨.ret, [.any, .any, .v (.bool false)], [none]⟩) false 36 [.tmp 2] (bodyOf Tryd.f23) [.v (.string s)] [] =
  Tree.chk (cl (ByteArray.size s ≤ (100000000 : Nat) ∧ LeL [AV.v (Value.string s)] [AV.v (Value.string s)] ∧ LeH [] [])) (Tree.br (bif !good s (0 : Nat) then true else decide ((32 : Int) <
    (↑(List.length (rns s (0 : Nat))) : Int))) (Tree.leaf (Ans.mk (AV.v (Value.bool false)) [])) (Tree.chk (cl (LeL [AV.hs (0 : Nat) (0 : Nat) (List.length (rns s (0 : Nat))), AV.v
    (Value.int IntKind.i64 (0 : Int)), AV.v (Value.bool false)] [AV.hs (0 : Nat) (0 : Nat) (List.length (rns s (0 : Nat))), AV.v (Value.int IntKind.i64 (↑(0 : Nat) : Int)), AV.any] ∧ LeH
    [some (Blk.arr (1 : Nat) (List.length (rns s (0 : Nat))) (lsF I1.c (rns s (0 : Nat))))] [some (Blk.arr (1 : Nat) (List.length (rns s (0 : Nat))) (lsF I1.c (rns s (0 : Nat))))]))
    (Tree.leaf (Ans.mk (AV.v (Value.bool false)) [])))) := by kernel_rfl
theorem ansValR {s : ByteArray} (hs : s.size ≤ 100000000) : Answers Tryd.prog Γm 23 [.v (.string s)] [] (.sb (valueB s)) [] [] := by
  have hln : (rns s 0).length ≤ s.size - 0 := rns_len
  have hl := loopValR (l := rns s 0) (by omega) 0 ⟨Nat.zero_le _, rfl⟩
  have hnm : valueB s = (((rns s 0).all valN && good s 0) && decide ((rns s 0).length ≤ 32)) := rfl
  unfold OValR at hl
  rw [hnm]
  cases hA : (rns s 0).all valN with
  | true =>
    rw [hA, cond_true] at hl
    refine answers (fn := Tryd.f23) (c := bodyOf Tryd.f23) (ntmps := 36) (results := [.tmp 2]) [kRun] (fun _ => LSpec.at [3, 5, 2] [] (SValR (rns s 0) 0) ⟨.exit 0, [.any, .any, .any], [none]⟩) false Tryd.func23 (by kernel_rfl) (by kernel_rfl) (by kernel_rfl) (by kernel_rfl) (by simp) rfl (oneLoop (b := lpValR) (by kernel_rfl) hl) <| Meets.of (runValRE s) <| ?_
    cases hg : good s 0 with
    | true =>
      by_cases h : (rns s 0).length ≤ 32
      · rw [decide_eq_true h]
        repeat' (first | refine wC (by first | omega | (simp only [W1, cond_true, cond_false, hg]; first | done | omega)) ?_ | refine wT (by first | omega | (simp only [W1, cond_true, cond_false, hg]; first | done | omega)) ?_ | refine wF (by intro _h; first | omega | (simp only [W1, cond_true, cond_false, hg] at _h; first | done | omega)) ?_ | (refine wS ?_ ?_ <;> intro _h <;> simp only [W1, cond_true, cond_false, hg] at _h))
        all_goals simp only [W1, W2, owesN, owesX, owesR, cond_true, cond_false, hg]
        repeat' (first | apply And.intro | intro _hc)
        all_goals first | exact AV.le_refl _ | exact AV.le_any _ | exact OLe.refl _ | exact OLe.none _ | exact LeH.refl _ | exact LeL.refl _ | exact AV.le.bs _ | exact AV.le.sb _ | omega | contradiction
      · rw [decide_eq_false h]
        repeat' (first | refine wC (by first | omega | (simp only [W1, cond_true, cond_false, hg]; first | done | omega)) ?_ | refine wT (by first | omega | (simp only [W1, cond_true, cond_false, hg]; first | done | omega)) ?_ | refine wF (by intro _h; first | omega | (simp only [W1, cond_true, cond_false, hg] at _h; first | done | omega)) ?_ | (refine wS ?_ ?_ <;> intro _h <;> simp only [W1, cond_true, cond_false, hg] at _h))
        all_goals simp only [W1, W2, owesN, owesX, owesR, cond_true, cond_false, hg]
        repeat' (first | apply And.intro | intro _hc)
        all_goals first | exact AV.le_refl _ | exact AV.le_any _ | exact OLe.refl _ | exact OLe.none _ | exact LeH.refl _ | exact LeL.refl _ | exact AV.le.bs _ | exact AV.le.sb _ | omega | contradiction
    | false =>
      repeat' (first | refine wC (by first | omega | (simp only [W1, cond_true, cond_false, hg]; first | done | omega)) ?_ | refine wT (by first | omega | (simp only [W1, cond_true, cond_false, hg]; first | done | omega)) ?_ | refine wF (by intro _h; first | omega | (simp only [W1, cond_true, cond_false, hg] at _h; first | done | omega)) ?_ | (refine wS ?_ ?_ <;> intro _h <;> simp only [W1, cond_true, cond_false, hg] at _h))
      all_goals simp only [W1, W2, owesN, owesX, owesR, cond_true, cond_false, hg]
      repeat' (first | apply And.intro | intro _hc)
      all_goals first | exact AV.le_refl _ | exact AV.le_any _ | exact OLe.refl _ | exact OLe.none _ | exact LeH.refl _ | exact LeL.refl _ | exact AV.le.bs _ | exact AV.le.sb _ | omega | contradiction
  | false =>
    rw [hA, cond_false] at hl
    refine answers (fn := Tryd.f23) (c := bodyOf Tryd.f23) (ntmps := 36) (results := [.tmp 2]) [kRun] (fun _ => LSpec.at [3, 5, 2] [] (SValR (rns s 0) 0) ⟨.ret, [.any, .any, .v (.bool false)], [none]⟩) false Tryd.func23 (by kernel_rfl) (by kernel_rfl) (by kernel_rfl) (by kernel_rfl) (by simp) rfl (oneLoop (b := lpValR) (by kernel_rfl) hl) <| Meets.of (runValRR s) <| ?_
    cases hg : good s 0 with
    | true =>
      repeat' (first | refine wC (by first | omega | (simp only [W1, cond_true, cond_false, hg]; first | done | omega)) ?_ | refine wT (by first | omega | (simp only [W1, cond_true, cond_false, hg]; first | done | omega)) ?_ | refine wF (by intro _h; first | omega | (simp only [W1, cond_true, cond_false, hg] at _h; first | done | omega)) ?_ | (refine wS ?_ ?_ <;> intro _h <;> simp only [W1, cond_true, cond_false, hg] at _h))
      all_goals simp only [W1, W2, owesN, owesX, owesR, cond_true, cond_false, hg]
      repeat' (first | apply And.intro | intro _hc)
      all_goals first | exact AV.le_refl _ | exact AV.le_any _ | exact OLe.refl _ | exact OLe.none _ | exact LeH.refl _ | exact LeL.refl _ | exact AV.le.bs _ | exact AV.le.sb _ | omega | contradiction
    | false =>
      repeat' (first | refine wC (by first | omega | (simp only [W1, cond_true, cond_false, hg]; first | done | omega)) ?_ | refine wT (by first | omega | (simp only [W1, cond_true, cond_false, hg]; first | done | omega)) ?_ | refine wF (by intro _h; first | omega | (simp only [W1, cond_true, cond_false, hg] at _h; first | done | omega)) ?_ | (refine wS ?_ ?_ <;> intro _h <;> simp only [W1, cond_true, cond_false, hg] at _h))
      all_goals simp only [W1, W2, owesN, owesX, owesR, cond_true, cond_false, hg]
      repeat' (first | apply And.intro | intro _hc)
      all_goals first | exact AV.le_refl _ | exact AV.le_any _ | exact OLe.refl _ | exact OLe.none _ | exact LeH.refl _ | exact LeL.refl _ | exact AV.le.bs _ | exact AV.le.sb _ | omega | contradiction
noncomputable def kValR : CT Tryd.prog Γm := CT.oS 23 Tryd.func23 (by kernel_rfl) (by kernel_rfl) (fun s => s.size ≤ 100000000) (fun s => .sb (valueB s)) (fun _ => []) (fun s h => ansValR h)
end Go.Eng.TA

/- transactions: which are right. -/
namespace Go.Eng.TA
open Go Go.Eng Go.Eng.M Go.Lib Go.Proofs
set_option linter.unusedSimpArgs false
set_option linter.unusedVariables false
structure Tx where
  k : Int
  fr : ByteArray
  to : ByteArray
  ky : ByteArray
  vl : ByteArray
  am : Int
  nn : Int
instance : Inhabited Tx := ⟨⟨0, ⟨#[]⟩, ⟨#[]⟩, ⟨#[]⟩, ⟨#[]⟩, 0, 0⟩⟩
def Tx.c (x : Tx) : List AV := [.v (.int .i64 x.k), .v (.string x.fr), .v (.string x.to), .v (.string x.ky), .v (.string x.vl), .v (.int .i64 x.am), .v (.int .i64 x.nn)]
def Tx.cells (x : Tx) : List Value := [.int .i64 x.k, .string x.fr, .string x.to, .string x.ky, .string x.vl, .int .i64 x.am, .int .i64 x.nn]
theorem Tx.cod : Cod Tx.c 7 := ⟨fun _ => rfl, fun b x y => by cases b <;> rfl⟩
theorem Tx.dec (vs : List Value) (h0 : GoodVs [.int .i64, .str, .str, .str, .str, .int .i64, .int .i64] vs) : ∃ a : Tx, vs = a.cells := by
  obtain ⟨_, _, rfl, ⟨a0, rfl, _⟩, h1⟩ := h0.cons
  obtain ⟨_, _, rfl, ⟨a1, rfl, _⟩, h2⟩ := h1.cons
  obtain ⟨_, _, rfl, ⟨a2, rfl, _⟩, h3⟩ := h2.cons
  obtain ⟨_, _, rfl, ⟨a3, rfl, _⟩, h4⟩ := h3.cons
  obtain ⟨_, _, rfl, ⟨a4, rfl, _⟩, h5⟩ := h4.cons
  obtain ⟨_, _, rfl, ⟨a5, rfl, _⟩, h6⟩ := h5.cons
  obtain ⟨_, _, rfl, ⟨a6, rfl, _⟩, h7⟩ := h6.cons
  obtain rfl := h7.nil
  exact ⟨⟨a0, a1, a2, a3, a4, a5, a6⟩, rfl⟩
abbrev Tx.ks : List Cel := [.int .i64, .str, .str, .str, .str, .int .i64, .int .i64]
def txV (x : Tx) : AV := .agg x.c
def big : Int := 4611686018427387904
def emp (s : ByteArray) : Bool := decide (s = ⟨#[]⟩)
def okM (x : Tx) : Bool := nameB x.to && ((decide (1 ≤ x.am) && decide (x.am ≤ 4611686018427387904)) && (emp x.ky && emp x.vl))
def okP (x : Tx) : Bool := nameB x.ky && (valueB x.vl && (emp x.to && decide (x.am = 0)))
/-- is it right? -/
def txB (x : Tx) : Bool := (nameB x.fr && (decide (1 ≤ x.nn) && decide (x.nn ≤ 4611686018427387904))) && (if x.k = 1 then okM x else if x.k = 2 then okP x else false)
def smallT (x : Tx) : Prop := x.fr.size ≤ 10000000 ∧ x.to.size ≤ 10000000 ∧ x.ky.size ≤ 10000000 ∧ x.vl.size ≤ 10000000
def ofTx : List AV → List Blk → Option Tx
  | [.agg [.v (.int _ k), .v (.string f), .v (.string t), .v (.string y), .v (.string v), .v (.int _ a), .v (.int _ n)]], [] => some ⟨k, f, t, y, v, a, n⟩
  | _, _ => none
noncomputable def CT.oTx (f : FuncId) {fn : Func} (hf : Tryd.prog.funcs[f]? = some fn) (hb : fn.body.isSome = true) (hn : (fn.name == "runtime.NumGoroutine") = false) (pre : Tx → Prop) (g : Tx → AV) (h : ∀ x, pre x → Answers Tryd.prog Γm f [txV x] [] (g x) [] []) : CT Tryd.prog Γm :=
  CT.par f ofTx pre (fun x => [txV x]) (fun _ => []) g (fun _ => []) (fun _ => []) (callFunc_enters hf hb hn) h
noncomputable def kWi : CT Tryd.prog Γm := CT.auto false 3 3 [] 85 Tryd.f85 (bodyOf Tryd.f85) false 15 [.tmp 6] Tryd.func85 (by kernel_rfl) (by kernel_rfl) (by kernel_rfl) (by kernel_rfl)
theorem runTx (x : Tx) : bodyE (P := Tryd.prog) (Γ := Γm) [kChk, kVal, kWi] Lno false 66 [.tmp 2] (bodyOf Tryd.f32) [txV x] [] =
  Tree.chk (cl (ByteArray.size x.fr ≤ (1000000000 : Nat) ∧ LeL [.v (.string x.fr)] [.v (.string x.fr)] ∧ LeH [] [])) (.br (decide (x.k = (1 : Int))) (.chk (bif bif decide (erN (nameB x.fr) = 
    (0 : Int)) then bif decide ((1 : Int) ≤ x.nn) then decide (x.nn ≤ (4611686018427387904 : Int)) else false else false then cl (ByteArray.size x.to ≤ (1000000000 : Nat) ∧ LeL [.v 
    (.string x.to)] [.v (.string x.to)] ∧ LeH [] []) else true) (.br (!bif bif decide (erN (nameB x.fr) = (0 : Int)) then bif decide ((1 : Int) ≤ x.nn) then decide (x.nn ≤ 
    (4611686018427387904 : Int)) else false else false then bif decide (erN (nameB x.to) = (0 : Int)) then bif bif decide ((1 : Int) ≤ x.am) then decide (x.am ≤ (4611686018427387904 : 
    Int)) else false then bif decide (x.ky = ByteArray.mk #[]) then decide (x.vl = ByteArray.mk #[]) else false else false else false else false) (.leaf (Ans.mk (.v (.int .i64 (80 : 
    Int))) [])) (.leaf (Ans.mk (.v (.int .i64 (0 : Int))) [])))) (.br (decide (x.k = (2 : Int))) (.chk (bif bif decide (erN (nameB x.fr) = (0 : Int)) then bif decide ((1 : Int) ≤ x.nn) 
    then decide (x.nn ≤ (4611686018427387904 : Int)) else false else false then cl (ByteArray.size x.ky ≤ (1000000000 : Nat) ∧ LeL [.v (.string x.ky)] [.v (.string x.ky)] ∧ LeH [] []) 
    && bif decide (erN (nameB x.ky) = (0 : Int)) then cl (ByteArray.size x.vl ≤ (1000000000 : Nat) ∧ LeL [.v (.string x.vl)] [.v (.string x.vl)] ∧ LeH [] []) else true else true) (.br 
    (!bif bif decide (erN (nameB x.fr) = (0 : Int)) then bif decide ((1 : Int) ≤ x.nn) then decide (x.nn ≤ (4611686018427387904 : Int)) else false else false then bif decide (erN 
    (nameB x.ky) = (0 : Int)) then bif decide (erN (valueB x.vl) = (0 : Int)) then bif decide (x.to = ByteArray.mk #[]) then decide (x.am = (0 : Int)) else false else false else false 
    else false) (.leaf (Ans.mk (.v (.int .i64 (80 : Int))) [])) (.leaf (Ans.mk (.v (.int .i64 (0 : Int))) [])))) (.leaf (Ans.mk (.v (.int .i64 (80 : Int))) [])))) := by kernel_rfl
theorem runTxR (x : Tx) : bodyE (P := Tryd.prog) (Γ := Γm) [kChkR, kValR] Lno false 66 [.tmp 2] (bodyOf Tryd.f33) [txV x] [] =
  Tree.chk (bif decide (x.nn < (1 : Int)) then true else bif decide ((4611686018427387904 : Int) < x.nn) then true else cl (ByteArray.size x.fr ≤ (100000000 : Nat) ∧ LeL [.v (.string x.fr)] 
    [.v (.string x.fr)] ∧ LeH [] [])) (.br (bif decide (x.nn < (1 : Int)) then true else bif decide ((4611686018427387904 : Int) < x.nn) then true else !nameB x.fr) (.leaf (Ans.mk (.v 
    (.bool false)) [])) (.br (decide (x.k = (1 : Int))) (.chk (cl (ByteArray.size x.to ≤ (100000000 : Nat) ∧ LeL [.v (.string x.to)] [.v (.string x.to)] ∧ LeH [] [])) (.leaf (Ans.mk 
    (.sb (bif nameB x.to then bif decide ((1 : Int) ≤ x.am) then bif decide (x.am ≤ (4611686018427387904 : Int)) then bif decide (x.ky = ByteArray.mk #[]) then decide (x.vl = 
    ByteArray.mk #[]) else false else false else false else false)) []))) (.chk (bif decide (x.k = (2 : Int)) then cl (ByteArray.size x.ky ≤ (100000000 : Nat) ∧ LeL [.v (.string x.ky)] 
    [.v (.string x.ky)] ∧ LeH [] []) && bif nameB x.ky then cl (ByteArray.size x.vl ≤ (100000000 : Nat) ∧ LeL [.v (.string x.vl)] [.v (.string x.vl)] ∧ LeH [] []) else true else true) 
    (.leaf (Ans.mk (.sb (bif decide (x.k = (2 : Int)) then bif nameB x.ky then bif valueB x.vl then bif decide (x.to = ByteArray.mk #[]) then decide (x.am = (0 : Int)) else false else 
    false else false else false)) []))))) := by kernel_rfl
theorem runGr (x : Tx) : bodyE (P := Tryd.prog) (Γ := Γm) [] Lno false 25 [.tmp 2] (bodyOf Tryd.f29) [txV x] [] =
  Tree.leaf (Ans.mk (.sb (bif decide ((1000 : Int) < (↑(ByteArray.size x.fr) : Int)) then true else bif decide ((1000 : Int) < (↑(ByteArray.size x.to) : Int)) then true else bif decide ((1000 
    : Int) < (↑(ByteArray.size x.ky) : Int)) then true else decide ((1000 : Int) < (↑(ByteArray.size x.vl) : Int)))) []) := by kernel_rfl
theorem clS {s : ByteArray} {n : Nat} (h : s.size ≤ n) : cl (s.size ≤ n ∧ LeL [AV.v (.string s)] [AV.v (.string s)] ∧ LeH [] []) = true := cl_iff.2 ⟨h, LeL.refl _, trivial⟩
theorem erN0 (b : Bool) : decide (erN b = 0) = b := by cases b <;> rfl
theorem condSelf (b c : Bool) : (bif b then c else c) = c := by cases b <;> rfl
theorem condB (b c : Bool) : (bif b then c else false) = (b && c) := by cases b <;> rfl
theorem empE (s : ByteArray) : decide (s = ByteArray.mk #[]) = emp s := rfl
def erT (b : Bool) : Int := bif b then 0 else 80
theorem ansTx {x : Tx} (h : smallT x) : Answers Tryd.prog Γm 32 [txV x] [] (.v (.int .i64 (erT (txB x)))) [] [] :=
  answers (fn := Tryd.f32) (c := bodyOf Tryd.f32) (ntmps := 66) (results := [.tmp 2]) [kChk, kVal, kWi] Lno false Tryd.func32 (by kernel_rfl) (by kernel_rfl) (by kernel_rfl) (by kernel_rfl) (by simp) rfl (noLoops (by kernel_rfl)) <| Meets.of (runTx x) <| by
    obtain ⟨s1, s2, s3, s4⟩ := h
    simp (disch := omega) only [clS, erN0, condSelf, condB, empE, Bool.and_true]
    by_cases k1 : x.k = 1
    · have hB : txB x = ((nameB x.fr && (decide (1 ≤ x.nn) && decide (x.nn ≤ 4611686018427387904))) && (nameB x.to && ((decide (1 ≤ x.am) && decide (x.am ≤ 4611686018427387904)) && (emp x.ky && emp x.vl)))) := by
        unfold txB; rw [if_pos k1]; rfl
      rw [← hB]
      cases txB x with
      | true =>
        repeat' (first | refine wC (by first | omega | (simp only [W1, cond_true, cond_false, k1]; first | done | omega)) ?_ | refine wT (by first | omega | (simp only [W1, cond_true, cond_false, k1]; first | done | omega)) ?_ | refine wF (by intro _h; first | omega | (simp only [W1, cond_true, cond_false, k1] at _h; first | done | omega)) ?_ | (refine wS ?_ ?_ <;> intro _h <;> simp only [W1, cond_true, cond_false, k1] at _h))
        all_goals simp only [W1, W2, owesN, owesX, owesR, cond_true, cond_false, k1]
        repeat' (first | apply And.intro | intro _hc)
        all_goals first | exact leI rfl | exact AV.le_refl _ | exact AV.le_any _ | exact OLe.refl _ | exact OLe.none _ | exact LeH.refl _ | exact LeL.refl _ | exact AV.le.bs _ | exact AV.le.sb _ | omega | contradiction
      | false =>
        repeat' (first | refine wC (by first | omega | (simp only [W1, cond_true, cond_false, k1]; first | done | omega)) ?_ | refine wT (by first | omega | (simp only [W1, cond_true, cond_false, k1]; first | done | omega)) ?_ | refine wF (by intro _h; first | omega | (simp only [W1, cond_true, cond_false, k1] at _h; first | done | omega)) ?_ | (refine wS ?_ ?_ <;> intro _h <;> simp only [W1, cond_true, cond_false, k1] at _h))
        all_goals simp only [W1, W2, owesN, owesX, owesR, cond_true, cond_false, k1]
        repeat' (first | apply And.intro | intro _hc)
        all_goals first | exact leI rfl | exact AV.le_refl _ | exact AV.le_any _ | exact OLe.refl _ | exact OLe.none _ | exact LeH.refl _ | exact LeL.refl _ | exact AV.le.bs _ | exact AV.le.sb _ | omega | contradiction
    by_cases k2 : x.k = 2
    · have hB : txB x = ((nameB x.fr && (decide (1 ≤ x.nn) && decide (x.nn ≤ 4611686018427387904))) && (nameB x.ky && (valueB x.vl && (emp x.to && decide (x.am = 0))))) := by
        unfold txB; rw [if_neg k1, if_pos k2]; rfl
      rw [← hB]
      cases txB x with
      | true =>
        repeat' (first | refine wC (by first | omega | (simp only [W1, cond_true, cond_false, k1]; first | done | omega)) ?_ | refine wT (by first | omega | (simp only [W1, cond_true, cond_false, k1]; first | done | omega)) ?_ | refine wF (by intro _h; first | omega | (simp only [W1, cond_true, cond_false, k1] at _h; first | done | omega)) ?_ | (refine wS ?_ ?_ <;> intro _h <;> simp only [W1, cond_true, cond_false, k1] at _h))
        all_goals simp only [W1, W2, owesN, owesX, owesR, cond_true, cond_false, k1]
        repeat' (first | apply And.intro | intro _hc)
        all_goals first | exact leI rfl | exact AV.le_refl _ | exact AV.le_any _ | exact OLe.refl _ | exact OLe.none _ | exact LeH.refl _ | exact LeL.refl _ | exact AV.le.bs _ | exact AV.le.sb _ | omega | contradiction
      | false =>
        repeat' (first | refine wC (by first | omega | (simp only [W1, cond_true, cond_false, k1]; first | done | omega)) ?_ | refine wT (by first | omega | (simp only [W1, cond_true, cond_false, k1]; first | done | omega)) ?_ | refine wF (by intro _h; first | omega | (simp only [W1, cond_true, cond_false, k1] at _h; first | done | omega)) ?_ | (refine wS ?_ ?_ <;> intro _h <;> simp only [W1, cond_true, cond_false, k1] at _h))
        all_goals simp only [W1, W2, owesN, owesX, owesR, cond_true, cond_false, k1]
        repeat' (first | apply And.intro | intro _hc)
        all_goals first | exact leI rfl | exact AV.le_refl _ | exact AV.le_any _ | exact OLe.refl _ | exact OLe.none _ | exact LeH.refl _ | exact LeL.refl _ | exact AV.le.bs _ | exact AV.le.sb _ | omega | contradiction
    · have hB : txB x = false := by
        unfold txB; rw [if_neg k1, if_neg k2, Bool.and_false]
      rw [hB]
      repeat' (first | refine wC (by first | omega | (simp only [W1, cond_true, cond_false, k1]; first | done | omega)) ?_ | refine wT (by first | omega | (simp only [W1, cond_true, cond_false, k1]; first | done | omega)) ?_ | refine wF (by intro _h; first | omega | (simp only [W1, cond_true, cond_false, k1] at _h; first | done | omega)) ?_ | (refine wS ?_ ?_ <;> intro _h <;> simp only [W1, cond_true, cond_false, k1] at _h))
      all_goals simp only [W1, W2, owesN, owesX, owesR, cond_true, cond_false, k1]
      repeat' (first | apply And.intro | intro _hc)
      all_goals first | exact leI rfl | exact AV.le_refl _ | exact AV.le_any _ | exact OLe.refl _ | exact OLe.none _ | exact LeH.refl _ | exact LeL.refl _ | exact AV.le.bs _ | exact AV.le.sb _ | omega | contradiction
noncomputable def kTx : CT Tryd.prog Γm := CT.oTx 32 Tryd.func32 (by kernel_rfl) (by kernel_rfl) smallT (fun x => .v (.int .i64 (erT (txB x)))) (fun x h => ansTx h)
theorem ansTxR {x : Tx} (h : smallT x) : Answers Tryd.prog Γm 33 [txV x] [] (.sb (txB x)) [] [] :=
  answers (fn := Tryd.f33) (c := bodyOf Tryd.f33) (ntmps := 66) (results := [.tmp 2]) [kChkR, kValR] Lno false Tryd.func33 (by kernel_rfl) (by kernel_rfl) (by kernel_rfl) (by kernel_rfl) (by simp) rfl (noLoops (by kernel_rfl)) <| Meets.of (runTxR x) <| by
    obtain ⟨s1, s2, s3, s4⟩ := h
    simp (disch := omega) only [clS, condSelf, condB, empE, Bool.and_true]
    by_cases hn : (nameB x.fr && (decide (1 ≤ x.nn) && decide (x.nn ≤ 4611686018427387904))) = true
    · have hB : txB x = (if x.k = 1 then okM x else if x.k = 2 then okP x else false) := by
        unfold txB; rw [hn, Bool.true_and]
      simp only [Bool.and_eq_true, decide_eq_true_eq] at hn
      obtain ⟨n1, n2, n3⟩ := hn
      rw [hB]
      by_cases k1 : x.k = 1
      · rw [if_pos k1]
        repeat' (first | refine wC (by first | omega | (simp only [W1, cond_true, cond_false, n1, k1]; first | done | omega)) ?_ | refine wT (by first | omega | (simp only [W1, cond_true, cond_false, n1, k1]; first | done | omega)) ?_ | refine wF (by intro _h; first | omega | (simp only [W1, cond_true, cond_false, n1, k1] at _h; first | done | omega)) ?_ | (refine wS ?_ ?_ <;> intro _h <;> simp only [W1, cond_true, cond_false, n1, k1] at _h))
        all_goals simp only [W1, W2, owesN, owesX, owesR, cond_true, cond_false, n1, k1]
        repeat' (first | apply And.intro | intro _hc)
        all_goals first | exact leB' (by unfold okM; simp only [Bool.and_assoc]) | exact AV.le_refl _ | exact AV.le_any _ | exact OLe.refl _ | exact OLe.none _ | exact LeH.refl _ | exact LeL.refl _ | exact AV.le.bs _ | exact AV.le.sb _ | omega | contradiction
      · rw [if_neg k1]
        by_cases k2 : x.k = 2
        · rw [if_pos k2]
          have q : decide ((2 : Int) = 2) = true := rfl
          have q1 : ¬ ((2 : Int) = 1) := by decide
          repeat' (first | refine wC (by first | omega | (simp only [W1, cond_true, cond_false, n1, k2, q, q1, decide_true]; first | done | omega)) ?_ | refine wT (by first | omega | (simp only [W1, cond_true, cond_false, n1, k2, q, q1, decide_true]; first | done | omega)) ?_ | refine wF (by intro _h; first | omega | (simp only [W1, cond_true, cond_false, n1, k2, q, q1, decide_true] at _h; first | done | omega)) ?_ | (refine wS ?_ ?_ <;> intro _h <;> simp only [W1, cond_true, cond_false, n1, k2, q, q1, decide_true] at _h))
          all_goals simp only [W1, W2, owesN, owesX, owesR, cond_true, cond_false, n1, k2, q, q1, decide_true]
          repeat' (first | apply And.intro | intro _hc)
          all_goals first | exact leB' rfl | exact AV.le_refl _ | exact AV.le_any _ | exact OLe.refl _ | exact OLe.none _ | exact LeH.refl _ | exact LeL.refl _ | exact AV.le.bs _ | exact AV.le.sb _ | omega | contradiction
        · rw [if_neg k2]
          have q : decide (x.k = 2) = false := decide_eq_false k2
          repeat' (first | refine wC (by first | omega | (simp only [W1, cond_true, cond_false, n1, k1, q]; first | done | omega)) ?_ | refine wT (by first | omega | (simp only [W1, cond_true, cond_false, n1, k1, q]; first | done | omega)) ?_ | refine wF (by intro _h; first | omega | (simp only [W1, cond_true, cond_false, n1, k1, q] at _h; first | done | omega)) ?_ | (refine wS ?_ ?_ <;> intro _h <;> simp only [W1, cond_true, cond_false, n1, k1, q] at _h))
          all_goals simp only [W1, W2, owesN, owesX, owesR, cond_true, cond_false, n1, k1, q]
          repeat' (first | apply And.intro | intro _hc)
          all_goals first | exact leB' rfl | exact AV.le_refl _ | exact AV.le_any _ | exact OLe.refl _ | exact OLe.none _ | exact LeH.refl _ | exact LeL.refl _ | exact AV.le.bs _ | exact AV.le.sb _ | omega | contradiction
    · have hn : (nameB x.fr && (decide (1 ≤ x.nn) && decide (x.nn ≤ 4611686018427387904))) = false := by simpa using hn
      have hB : txB x = false := by unfold txB; rw [hn, Bool.false_and]
      rw [hB]
      cases h1 : nameB x.fr with
      | true =>
        rw [h1, Bool.true_and] at hn
        have hn : ¬ (1 ≤ x.nn ∧ x.nn ≤ 4611686018427387904) := fun h => by rw [decide_eq_true h.1, decide_eq_true h.2] at hn; cases hn
        repeat' (first | refine wC (by first | omega | (simp only [W1, cond_true, cond_false, h1]; first | done | omega)) ?_ | refine wT (by first | omega | (simp only [W1, cond_true, cond_false, h1]; first | done | omega)) ?_ | refine wF (by intro _h; first | omega | (simp only [W1, cond_true, cond_false, h1] at _h; first | done | omega)) ?_ | (refine wS ?_ ?_ <;> intro _h <;> simp only [W1, cond_true, cond_false, h1] at _h))
        all_goals simp only [W1, W2, owesN, owesX, owesR, cond_true, cond_false, h1]
        repeat' (first | apply And.intro | intro _hc)
        all_goals first | exact leB rfl | exact AV.le_refl _ | exact AV.le_any _ | exact OLe.refl _ | exact OLe.none _ | exact LeH.refl _ | exact LeL.refl _ | exact AV.le.bs _ | exact AV.le.sb _ | omega | contradiction
      | false =>
        repeat' (first | refine wC (by first | omega | (simp only [W1, cond_true, cond_false, h1]; first | done | omega)) ?_ | refine wT (by first | omega | (simp only [W1, cond_true, cond_false, h1]; first | done | omega)) ?_ | refine wF (by intro _h; first | omega | (simp only [W1, cond_true, cond_false, h1] at _h; first | done | omega)) ?_ | (refine wS ?_ ?_ <;> intro _h <;> simp only [W1, cond_true, cond_false, h1] at _h))
        all_goals simp only [W1, W2, owesN, owesX, owesR, cond_true, cond_false, h1]
        repeat' (first | apply And.intro | intro _hc)
        all_goals first | exact leB rfl | exact AV.le_refl _ | exact AV.le_any _ | exact OLe.refl _ | exact OLe.none _ | exact LeH.refl _ | exact LeL.refl _ | exact AV.le.bs _ | exact AV.le.sb _ | omega | contradiction
noncomputable def kTxR : CT Tryd.prog Γm := CT.oTx 33 Tryd.func33 (by kernel_rfl) (by kernel_rfl) smallT (fun x => .sb (txB x)) (fun x h => ansTxR h)
def grT (x : Tx) : Bool := decide (1000 < x.fr.size ∨ 1000 < x.to.size ∨ 1000 < x.ky.size ∨ 1000 < x.vl.size)
theorem ansGr {x : Tx} : Answers Tryd.prog Γm 29 [txV x] [] (.sb (grT x)) [] [] :=
  answers (fn := Tryd.f29) (c := bodyOf Tryd.f29) (ntmps := 25) (results := [.tmp 2]) [] Lno false Tryd.func29 (by kernel_rfl) (by kernel_rfl) (by kernel_rfl) (by kernel_rfl) (by simp) rfl (noLoops (by kernel_rfl)) <| Meets.of (runGr x) <| by
    have e : grT x = (bif decide ((1000 : Int) < (x.fr.size : Int)) then true else bif decide ((1000 : Int) < (x.to.size : Int)) then true else bif decide ((1000 : Int) < (x.ky.size : Int)) then true else decide ((1000 : Int) < (x.vl.size : Int))) := by
      unfold grT
      simp only [Bool.cond_true_left]
      rw [Bool.eq_iff_iff]
      simp only [decide_eq_true_eq, Bool.or_eq_true]
      omega
    exact ⟨leB' e.symm, trivial⟩
noncomputable def kGr : CT Tryd.prog Γm := CT.oTx 29 Tryd.func29 (by kernel_rfl) (by kernel_rfl) (fun _ => True) (fun x => .sb (grT x)) (fun x _ => ansGr)
end Go.Eng.TA

/- A slice of elements that hold slices, as an argument. -/
namespace Go.Eng
open Go Go.ChangeShapes
set_option linter.unusedSimpArgs false
set_option linter.unusedVariables false
section
variable {H : Type} {enc : TypeId × Value → H} {P : Program} {w : World} {base : Nat} {sp : Nat → Bool} {held : Bool}
theorem trod_sl {α : Type} [Inhabited α] (c : α → List AV) {sz : Nat} (E : α → List Value → Prop) {e : TypeId} (hz : 0 < sz) (hc : P.cellsOf e = sz) (hm : mkd (c default) = false) (hcl : ∀ a, (c a).length = sz)
    (hE : ∀ fuel cs x, DataW.trod enc P w base sp held fuel e cs = some x → ∃ a, E a cs)
    (hV : ∀ a cs, E a cs → ∀ (j : Nat) (x : AV) (y : Value), (c a)[j]? = some x → cs[j]? = some y → V0 (σof w) x y ∧ y.oneCell' = true)
    {t : TypeId} {fuel : Nat} {cs : List Value} {x : DataW H × List MemPlace} (ht : P.underlying t = some (.slice e)) (h : DataW.trod enc P w base sp held fuel t cs = some x) :
    ∃ (v : Value) (l : List α), cs = [v] ∧ V0 (σof w) (.sl sz l.length (lsF c l)) v ∧ v.oneCell' = true ∧ ∀ i, i < l.length → ∃ vs, E (l.getD i default) vs := by
  have hd : ∀ e, (lsF c ([] : List α) e).length = sz := fun e => hcl _
  rcases DataW.trod_slice ht h with ⟨rfl, _⟩ | ⟨a, len, cap, elems, rest, n, _, rfl, _, hb, hl, hmx, hlen, hel, _, _⟩
  · exact ⟨_, [], rfl, .slnil sz 0 _ none 0 hd rfl (fun _ => hm), rfl, fun i hi => absurd hi (Nat.not_lt_zero _)⟩
  by_cases h0 : len = 0
  · subst h0
    exact ⟨_, [], rfl, .slnil sz 0 _ (some a) cap hd rfl (fun e => by cases e), rfl, fun i hi => absurd hi (Nat.not_lt_zero _)⟩
  have got : ∀ i, i < len → ∃ cs, w.cells? base (a.add (i * P.cellsOf e)) (P.cellsOf e) = some cs ∧ ∃ x, DataW.trod enc P w base sp held n e cs = some x := by
    intro i hi
    have h2 := hel i hi
    rw [List.getElem?_eq_getElem (by omega), Option.bind_eq_some_iff] at h2
    obtain ⟨cs, h3, h4⟩ := h2
    exact ⟨cs, h3, _, h4⟩
  have hsp : a.spot = none := by
    obtain ⟨cs, h3, _⟩ := got 0 (by omega)
    obtain ⟨_, h4, h5⟩ := World.cells?_some h3
    have h6 := h5 0 (by omega)
    rw [Nat.zero_mul] at h6
    have e1 : (a.add 0).add 0 = a := by unfold Addr.add; simp
    rw [e1, List.getElem?_eq_getElem (by omega)] at h6
    unfold World.cell? at h6
    split at h6
    · split at h6
      · cases h6
      · rename_i hs
        cases hsx : a.spot with
        | none => rfl
        | some _ => rw [hsx] at hs; simp at hs
    · cases h6
  have each : ∀ i, i < len → ∃ u : α, ∃ vs, E u vs ∧ vs.length = sz ∧ ∀ (j : Nat) (y : Value), vs[j]? = some y → σof w a.block (a.off + i * sz + j) = some y := by
    intro i hi
    obtain ⟨cs, h3, x, h4⟩ := got i hi
    obtain ⟨u, hu⟩ := hE n cs x h4
    obtain ⟨_, k1, k2⟩ := World.cells?_some h3
    refine ⟨u, cs, hu, by rw [k1, hc], fun j y hj => ?_⟩
    have hjl : j < sz := by have := (List.getElem?_eq_some_iff.1 hj).1; rw [k1, hc] at this; exact this
    have h5 := k2 j (by rw [hc]; exact hjl)
    rw [hj] at h5
    have e2 : (a.add (i * P.cellsOf e)).add j = ⟨a.block, a.off + i * sz + j, none⟩ := by
      rw [hc]
      unfold Addr.add
      obtain ⟨ab, ao, asp⟩ := a
      simp only at hsp
      subst hsp
      by_cases h0 : i * sz = 0
      · by_cases h1 : j = 0
        · simp [h0, h1]
        · simp [h0, h1]
      · by_cases h1 : j = 0
        · simp [h0, h1]
        · simp [h0, h1]
    rw [e2] at h5
    exact σof_of h5
  let g : Nat → α := fun i => if h : i < len then (each i h).choose else default
  have hg : ∀ i, i < len → ((List.range len).map g).getD i default = g i := fun i hi => by
    rw [List.getD_eq_getElem?_getD, List.getElem?_map, List.getElem?_range hi]; rfl
  have spec : ∀ i (hi : i < len), ∃ vs, E (g i) vs ∧ vs.length = sz ∧ ∀ (j : Nat) (y : Value), vs[j]? = some y → σof w a.block (a.off + i * sz + j) = some y := fun i hi => by
    show ∃ vs, E (if h : i < len then (each i h).choose else default) vs ∧ _
    rw [dif_pos hi]
    exact (each i hi).choose_spec
  refine ⟨_, (List.range len).map g, rfl, ?_, rfl, fun i hi => ?_⟩
  · have hln : ((List.range len).map g).length = len := by simp
    rw [hln]
    have at' : ∀ (e j : Nat) (x : AV), e < len → (lsF c ((List.range len).map g) e)[j]? = some x → ∃ y, σof w a.block (a.off + e * sz + j) = some y ∧ V0 (σof w) x y ∧ y.oneCell' = true := by
      intro e j x he hj
      rw [lsF_at, hg e he] at hj
      obtain ⟨vs, k1, k2, k3⟩ := spec e he
      have hjl : j < sz := by have := (List.getElem?_eq_some_iff.1 hj).1; rw [hcl] at this; exact this
      have hy : vs[j]? = some vs[j] := List.getElem?_eq_getElem (by omega)
      obtain ⟨k4, k5⟩ := hV _ _ k1 j x _ hj hy
      exact ⟨_, k3 j _ hy, k4, k5⟩
    have hval : ∀ (e j : Nat) (x : AV) (he : e < len) (hj : (lsF c ((List.range len).map g) e)[j]? = some x), σof w a.block (a.off + e * sz + j) = some ((σof w a.block (a.off + e * sz + j)).getD (.bool false)) ∧ V0 (σof w) x ((σof w a.block (a.off + e * sz + j)).getD (.bool false)) ∧ ((σof w a.block (a.off + e * sz + j)).getD (.bool false)).oneCell' = true := by
      intro e j x he hj
      obtain ⟨y, h1, h2, h3⟩ := at' e j x he hj
      rw [h1]
      exact ⟨rfl, h2, h3⟩
    exact .sl sz len _ a cap (fun e j => (σof w a.block (a.off + e * sz + j)).getD (.bool false)) hsp hl (fun i => hcl _) (fun e j x he hj => (hval e j x he hj).1) (fun e j x he hj => (hval e j x he hj).2.2) (fun e j x he hj => (hval e j x he hj).2.1)
  · have hi' : i < len := by simpa using hi
    rw [hg i hi']
    obtain ⟨vs, k1, _⟩ := spec i hi'
    exact ⟨vs, k1⟩
/-- elements whose cells are all scalars -/
theorem flatE_V {α : Type} {cells : α → List Value} {c : α → List AV} {ks : List Cel} (hc0 : ∀ a, (cells a).map AV.v = c a) {σ : Store} (a : α) (cs : List Value) (h : cs = cells a ∧ GoodVs ks cs) (j : Nat) (x : AV) (y : Value) (hx : (c a)[j]? = some x) (hy : cs[j]? = some y) : V0 σ x y ∧ y.oneCell' = true := by
  obtain ⟨rfl, hg⟩ := h
  rw [← hc0, List.getElem?_map, hy] at hx
  simp only [Option.map_some, Option.some.injEq] at hx
  subst hx
  obtain ⟨k, hk⟩ := hg.at j y hy
  exact ⟨.v _, goodV_one hk⟩
/-- the pieces of a struct of three fields -/
theorem trod_three {fuel : Nat} {t : TypeId} {fs : Array Field} {f0 f1 f2 : Field} {cs : List Value} {x : DataW H × List MemPlace} {n0 n1 n2 : Nat} (hu : P.underlying t = some (.struct fs)) (hfs : fs.toList = [f0, f1, f2])
    (h0 : f0.offset = 0) (h1 : f1.offset = n0) (h2 : f2.offset = n0 + n1) (s0 : P.cellsOf f0.type = n0) (s1 : P.cellsOf f1.type = n1) (s2 : P.cellsOf f2.type = n2) (st : P.cellsOf t = n0 + n1 + n2)
    (h : DataW.trod enc P w base sp held fuel t cs = some x) :
    ∃ p0 p1 p2 fu y0 y1 y2, cs = p0 ++ p1 ++ p2 ∧ DataW.trod enc P w base sp held fu f0.type p0 = some y0 ∧ DataW.trod enc P w base sp held fu f1.type p1 = some y1 ∧ DataW.trod enc P w base sp held fu f2.type p2 = some y2 := by
  cases fuel with
  | zero => simp [DataW.trod] at h
  | succ fu =>
    obtain ⟨hl, r, hr⟩ := trod_struct hu h
    rw [hfs] at hr
    obtain ⟨y0, r0, k0, hr, _⟩ := mapM_head hr
    obtain ⟨y1, r1, k1, hr, _⟩ := mapM_head hr
    obtain ⟨y2, r2, k2, hr, _⟩ := mapM_head hr
    rw [h0, s0, List.drop_zero] at k0
    rw [h1, s1] at k1
    rw [h2, s2] at k2
    refine ⟨_, _, _, fu, y0, y1, y2, ?_, k0, k1, k2⟩
    rw [List.append_assoc, ← List.drop_drop]
    have e2 : List.take n2 (List.drop n1 (List.drop n0 cs)) = List.drop n1 (List.drop n0 cs) := List.take_of_length_le (by simp; omega)
    rw [e2, List.take_append_drop, List.take_append_drop]
end
end Go.Eng

/- Lists: one is set, the end is cleared. -/
namespace Go.Eng
open Go
set_option linter.unusedSimpArgs false
set_option linter.unusedVariables false
set_option linter.unusedSectionVars false
section
variable {α : Type} [Inhabited α] {c : α → List AV} {sz : Nat}
theorem getD_setI {L : List α} {i j : Nat} {t : α} (hi : i < L.length) : (L.set i t).getD j default = if j = i then t else L.getD j default := by
  rw [List.getD_eq_getElem?_getD, List.getElem?_set]
  by_cases h : i = j
  · subst h; simp [hi]
  · have h' : ¬ j = i := fun e => h e.symm
    rw [if_neg h, if_neg h', List.getD_eq_getElem?_getD]
theorem Cod.set (h : Cod c sz) (L : List α) {i N : Nat} (t : α) (hi : i < L.length) (hN : N = L.length) :
    OLe (some (.arr sz N fun k => mixL (Nat.beq k i) (c t) (lsF c L k))) (some (.arr sz (L.set i t).length (lsF c (L.set i t)))) := by
  refine h.row (by simp [hN]) fun e he => ?_
  simp only [lsF_at, h.mix]
  refine congrArg c ?_
  rw [getD_setI hi]
  by_cases hk : e = i
  · subst hk; simp
  · have : Nat.beq e i = false := by
      cases hb : Nat.beq e i with
      | false => rfl
      | true => exact absurd (Nat.eq_of_beq_eq_true hb) hk
    rw [this, if_neg hk]; rfl
/-- what stands from a place on up to another one is cleared -/
theorem Cod.clr (h : Cod c sz) (L : List α) (z : α) {i n N m : Nat} (hN : N = L.length) (hn : n ≤ L.length) (hi : i ≤ n) (hm : m = n - i) :
    OLe (some (.arr sz N fun k => mixL (decide (i ≤ k) && decide (k < i + m)) (c z) (lsF c L k))) (some (.arr sz (L.take i ++ (List.replicate (n - i) z ++ L.drop n)).length (lsF c (L.take i ++ (List.replicate (n - i) z ++ L.drop n))))) := by
  refine h.row (by simp [hN]; omega) fun e he => ?_
  simp only [lsF_at, h.mix]
  refine congrArg c ?_
  have hti : (L.take i).length = i := by simp; omega
  rw [cond_eq_ite]
  simp only [Bool.and_eq_true, decide_eq_true_eq]
  by_cases h1 : e < i
  · rw [if_neg (by omega), getD_app (by omega), List.getD_eq_getElem?_getD, List.getD_eq_getElem?_getD, List.getElem?_take, if_pos h1]
  · rw [getD_app' (by omega), hti]
    by_cases h2 : e < n
    · rw [if_pos (by omega), getD_app (by simp; omega), List.getD_eq_getElem?_getD, List.getElem?_replicate, if_pos (by omega)]; rfl
    · rw [if_neg (by omega), getD_app' (by simp; omega), List.length_replicate, List.getD_eq_getElem?_getD, List.getD_eq_getElem?_getD, List.getElem?_drop]
      congr 2; omega
/-- where the first one of a kind stands -/
def fD (p : α → Bool) : List α → Nat
  | [] => 0
  | t :: l => bif p t then 0 else fD p l + 1
theorem fD_le (p : α → Bool) : ∀ l : List α, fD p l ≤ l.length
  | [] => Nat.le_refl _
  | t :: l => by
    rw [fD]
    have := fD_le p l
    cases p t <;> simp <;> omega
theorem fD_filter (p : α → Bool) : ∀ l : List α, l.take (fD p l) = (l.take (fD p l)).filter (fun t => !p t)
  | [] => rfl
  | t :: l => by
    rw [fD]
    cases h : p t with
    | true => rfl
    | false =>
      simp only [cond_false, List.take_succ_cons, List.filter_cons, h, Bool.not_false, if_true]
      rw [← fD_filter p l]
theorem fD_at (p : α → Bool) : ∀ l : List α, fD p l < l.length → p (l.getD (fD p l) default) = true
  | [], h => absurd h (Nat.not_lt_zero _)
  | t :: l, h => by
    rw [fD] at h ⊢
    cases hp : p t with
    | true => rw [cond_true]; exact hp
    | false =>
      rw [hp, cond_false, List.length_cons] at h
      rw [cond_false]
      exact fD_at p l (by omega)
/-- slices.DeleteFunc's loop -/
def dRun (p : α → Bool) : List α → Nat → List α → Nat × List α
  | [], i, L => (i, L)
  | t :: r, i, L => bif p t then dRun p r i L else dRun p r (i + 1) (L.set i t)
theorem dRun_ok (p : α → Bool) : ∀ (r : List α) (i j : Nat) (L : List α), i ≤ j → j + r.length ≤ L.length →
    (dRun p r i L).1 = i + (r.filter fun t => !p t).length ∧ (dRun p r i L).2.length = L.length ∧ (dRun p r i L).2.take (dRun p r i L).1 = L.take i ++ r.filter (fun t => !p t) ∧ (dRun p r i L).2.drop (j + r.length) = L.drop (j + r.length)
  | [], i, j, L, h1, h2 => by simp [dRun]
  | t :: r, i, j, L, h1, h2 => by
    rw [List.length_cons] at h2 ⊢
    rw [dRun]
    cases h : p t with
    | true =>
      rw [cond_true, List.filter_cons_of_neg (by simp [h])]
      obtain ⟨k1, k2, k3, k4⟩ := dRun_ok p r i (j + 1) L (by omega) (by omega)
      refine ⟨k1, k2, k3, ?_⟩
      rw [show j + (r.length + 1) = j + 1 + r.length by omega]; exact k4
    | false =>
      rw [cond_false, List.filter_cons_of_pos (by simp [h])]
      obtain ⟨k1, k2, k3, k4⟩ := dRun_ok p r (i + 1) (j + 1) (L.set i t) (by omega) (by simp; omega)
      refine ⟨by rw [k1, List.length_cons]; omega, by rw [k2, List.length_set], ?_, ?_⟩
      · rw [k3]
        have : (L.set i t).take (i + 1) = L.take i ++ [t] := by
          rw [List.take_add_one, List.take_set_of_le (Nat.le_refl _)]
          simp [show i < L.length by omega]
        rw [this, List.append_assoc]; rfl
      · rw [show j + (r.length + 1) = j + 1 + r.length by omega, k4, List.drop_set_of_lt (by omega)]
end
end Go.Eng

/- An answer whose row holds a nil slice: the same with the end of the block that the row pointed at before. -/
namespace Go.Eng
open Go
set_option linter.unusedSimpArgs false
set_option linter.unusedVariables false
theorem mixU (c : Bool) (a b : Int) : mixL c [.v (.int .u8 a)] [.v (.int .u8 b)] = [.v (.int .u8 (bif c then a else b))] := by cases c <;> rfl
section
variable {P : Program} {Γ : Nat → AV}
theorem V.ptr_inv {σ : Store} {φ : Places} {i o : Nat} {y : Value} (h : V σ φ (.ptr i o) y) : ∃ L, φ i = some L ∧ L.virt = false := by
  cases h with
  | base h => cases h
  | ptr h hr => exact ⟨_, h, hr⟩
theorem V.hs_inv {σ : Store} {φ : Places} {i e n : Nat} {y : Value} (h : V σ φ (.hs i e n) y) : ∃ L, φ i = some L := by
  cases h with
  | base h => cases h
  | hs h hr => exact ⟨_, h⟩
  | hsnil A h => exact ⟨_, h⟩
theorem Answers.boxOut {f : FuncId} {args : List AV} {Hin : List Blk} {v : AV} {H1 : List (Option Blk)} {new : List Blk} (a i o j c c0 e0 n0 : Nat) {cs0 cs1 : List AV} {sz N : Nat} {g : Nat → List AV} (ha : args[a]? = some (.ptr i o)) (h0 : Hin[i]? = some (.row cs0)) (hc0 : cs0[c0]? = some (.hs j e0 n0))
    (hj : j < Hin.length) (h1 : H1[i]? = some (some (.row cs1))) (hc1 : cs1[c]? = some (.v (.slice none 0 0))) (hjr : H1[j]? = some (some (.arr sz N g))) (h : Answers P Γ f args Hin v H1 new) :
    Answers P Γ f args Hin v (H1.set i (some (.row (cs1.set c (.hs j N 0))))) new where
  len := by rw [List.length_set]; exact h.len
  enters := h.enters
  ok := by
    intro σ φ w vals hG hV hn hR
    have hlen := h.len
    have e0 : ({ val := v, upd := H1.map some, new := new } : Res).heap Hin = H1 ++ new.map some := by
      unfold Res.heap; rw [outOf_all _ _ hlen]
    have e1 : ({ val := v, upd := (H1.set i (some (.row (cs1.set c (.hs j N 0))))).map some, new := new } : Res).heap Hin = (H1 ++ new.map some).set i (some (.row (cs1.set c (.hs j N 0)))) := by
      unfold Res.heap
      rw [outOf_all _ _ (by rw [List.length_set]; exact hlen)]
      have hil : i < H1.length := (List.getElem?_eq_some_iff.1 h1).1
      rw [List.set_append_left _ _ hil]
    rw [e1]
    refine (h.ok σ φ w vals hG hV hn hR).mono fun e w' ⟨σ', φ', x, k1, k2, k3, k4, k5⟩ => ⟨σ', φ', x, k1, k2, ?_, k4, fun k hk => k5 k (by rw [e0]; rw [List.length_set] at hk; exact hk)⟩
    rw [e0] at k3
    obtain ⟨y, hy, hyv⟩ : ∃ y, vals.toList[a]? = some y ∧ V σ φ (.ptr i o) y := by
      have hal : a < args.length := (List.getElem?_eq_some_iff.1 ha).1
      have hal' : a < vals.toList.length := hV.1 ▸ hal
      exact ⟨_, List.getElem?_eq_getElem hal', hV.2 a _ _ ha (List.getElem?_eq_getElem hal')⟩
    obtain ⟨L, hL, hv⟩ := hyv.ptr_inv
    have hg0 : getH (Hin.map some) i = some (.row cs0) := by rw [getHmap, h0]
    obtain ⟨cc, _, _, _, hcell⟩ := hR.obj i _ L hg0 hL hv
    obtain ⟨yc, _, hyc⟩ := hcell c0 _ hc0
    obtain ⟨Lj, hLj⟩ := hyc.hs_inv
    have hLj' : φ' j = some Lj := by rw [k4 j hj]; exact hLj
    have hgj : getH (H1 ++ new.map some) j = some (.arr sz N g) := by
      unfold getH
      rw [List.getElem?_append_left (List.getElem?_eq_some_iff.1 hjr).1, hjr]
    have hgi : getH (H1 ++ new.map some) i = some (.row cs1) := by
      unfold getH
      rw [List.getElem?_append_left (List.getElem?_eq_some_iff.1 h1).1, h1]
    have hN := k3.len j Lj sz N g hgj hLj'
    refine k3.setRow hgi hc1 fun y hy => ?_
    obtain rfl := hy.v_eq
    exact .hsnil none hLj' (by omega) rfl
/-- a function of an empty slice that is only read and may be nil -/
theorem Answers.nilSl {f : FuncId} {sz : Nat} {z : List AV} {g : Nat → List AV} (hz : z.length = sz) {M : List AV} (hM : M.length = sz) (h1 : ∀ cap, Answers P Γ f [.v (.slice none 0 cap)] [] (.v (.slice none 0 0)) [] [])
    (h2 : Answers P Γ f [.sl sz 0 fun _ => M] [] (.hs 0 0 0) [] [.arr sz 0 fun _ => z]) : Answers P Γ f [.sl sz 0 g] [] (.hs 0 0 0) [] [.arr sz 0 fun _ => z] where
  len := rfl
  enters := h2.enters
  ok := by
    intro σ φ w vals hG hV hn hR
    obtain ⟨y, hy, hv⟩ := hV.one_inv
    have hsl : ∀ (A : Option Addr) (cap : Nat), A ≠ none → y = .slice A 0 cap → VL σ φ [.sl sz 0 fun _ => M] vals.toList := fun A cap hA e => by
      rw [hy, e]
      exact .one (.base (.slnil sz 0 _ A cap (fun _ => hM) rfl (fun h => absurd h hA))) .none
    have hnil : ∀ cap : Nat, y = .slice none 0 cap → Calls P f vals w fun e w' => ∃ σ' φ' v, e = .returned v ∧ V σ' φ' (.hs 0 0 0) v ∧
      R ⟨w, σ, fun b => ∃ k L, φ k = some L ∧ L.virt = false ∧ L.b = b⟩ σ' φ' (getH (Res.heap [] { val := .hs 0 0 0, upd := [], new := [.arr sz 0 fun _ => z] })) w' ∧ (∀ k, k < 0 → φ' k = φ k) ∧ (∀ k, 1 ≤ k → φ' k = none) := fun cap he => by
      refine ((h1 cap).ok σ φ w vals hG (by rw [hy, he]; exact .one (V_v _) .none) hn hR).mono fun e w' ⟨σ', φ', v, e1, e2, e3, e4, e5⟩ => ?_
      have hnb : φ' 0 = none := e5 0 (Nat.le_refl 0)
      obtain rfl := e2.v_eq
      have hg : getH (Res.heap [] { val := .hs 0 0 0, upd := [], new := [.arr sz 0 fun _ => z] }) = updG (getH (Res.heap [] { val := .v (.slice none 0 0), upd := [] })) 0 (some (.arr sz 0 fun _ => z)) := by
        funext k
        exact getH_append (H := []) (bs := [Blk.arr sz 0 fun _ => z]) (k := k)
      refine ⟨σ', fresh φ' 0 ⟨0, 0, sz, 0, 0, true⟩, _, e1, .hsnil none fresh_at (Nat.le_refl 0) rfl, ?_, fun k hk => absurd hk (Nat.not_lt_zero k), fun k hk => ?_⟩
      · rw [hg]
        exact e3.virtual (L := ⟨0, 0, sz, 0, 0, true⟩) hnb rfl (some (.arr sz 0 fun _ => z)) (fun b' hb' => by simp at hb'; subst hb'; exact fun _ => hz) (fun _ _ _ h' => by cases h'; rfl)
      · have : k ≠ 0 := by omega
        simp only [fresh, this, if_false]
        exact e5 k (Nat.zero_le k)
    cases hv with
    | base h =>
      cases h with
      | sl _ _ _ ad cap ys hs => exact h2.ok σ φ w vals hG (hsl (some ad) cap (by simp) rfl) hn hR
      | slnil _ _ _ A cap hl _ ha =>
        by_cases hA : A = none
        · subst hA; exact hnil cap rfl
        · exact h2.ok σ φ w vals hG (hsl A cap hA rfl) hn hR
/-! ### families of calls, taken apart by their own form -/
theorem Answers.cU {f : FuncId} {a0 : List AV} {H0 : List Blk} {v : AV} {H1 : List (Option Blk)} {new : List Blk} (h : Answers P Γ f a0 H0 v H1 new) {upd : List (Option (Option Blk))} (hu : outOf H0 upd = H1) : Contract P Γ f a0 H0 { val := v, upd := upd, new := new } :=
  h.ok.more (LeL.refl _) (LeH.refl _) (by
    unfold Res.heap
    rw [outOf_all _ _ h.len, hu]) rfl
noncomputable def exSpec {X : Type} (ext : List AV → List Blk → Option X) (pre : X → Prop) (v : X → AV) (upd : X → List (Option (Option Blk))) (new : X → List Blk) (args : List AV) (Hin : List Blk) : Tree Res :=
  match ext args Hin with
  | some x => .chk (cl (pre x)) (.leaf { val := v x, upd := upd x, new := new x })
  | none => .fail
noncomputable def CT.ex {X : Type} (f : FuncId) (ext : List AV → List Blk → Option X) (pre : X → Prop) (v : X → AV) (upd : X → List (Option (Option Blk))) (new : X → List Blk)
    (enters : ∀ (args : Array Value) (w : World), (callFunc f args).run P w = .ok (.enter f args) w) (h : ∀ args Hin x, ext args Hin = some x → pre x → Contract P Γ f args Hin { val := v x, upd := upd x, new := new x }) : CT P Γ where
  f := f
  spec := exSpec ext pre v upd new
  enters := enters
  ok := fun args Hin r hr => by
    unfold exSpec at hr
    split at hr
    · rename_i x hx
      obtain ⟨h1, hr⟩ := Tree.chk_get hr
      obtain rfl := Tree.leaf_get hr
      exact h args Hin x hx (cl_iff.1 h1)
    · simp [Tree.get] at hr
end
end Go.Eng

/- Plain facts on reading numbers out of bytes. -/
namespace Go.Eng
open Go
set_option linter.unusedSimpArgs false
set_option linter.unusedVariables false
theorem and127 (a : Int) (h : 0 ≤ a) (h' : a < 256) : bitI .and .u8 a 127 = a % 128 := by
  obtain ⟨n, rfl⟩ := Int.eq_ofNat_of_zero_le h
  have : ∀ k : Fin 256, bitI .and .u8 ((k.val : Nat) : Int) 127 = ((k.val : Nat) : Int) % 128 := by decide +kernel
  exact this ⟨n, by omega⟩
theorem pow128 (i : Nat) : (128 : Nat) ^ i = 2 ^ (7 * i) := by rw [show (128 : Nat) = 2 ^ 7 from rfl, ← Nat.pow_mul]
theorem pow128_le {i : Nat} (h : i ≤ 8) : (128 : Nat) ^ i ≤ 72057594037927936 := by
  have : (128 : Nat) ^ i ≤ 128 ^ 8 := Nat.pow_le_pow_right (by decide) h
  exact Nat.le_trans this (by decide)
theorem or_u64 (a b : Nat) (ha : a < 2 ^ 64) (hb : b < 2 ^ 64) : bitI .or .u64 (a : Int) (b : Int) = ((a ||| b : Nat) : Int) := by
  show IntKind.u64.wrap (((BitVec.ofInt 64 (a : Int) ||| BitVec.ofInt 64 (b : Int)).toNat : Nat) : Int) = _
  have e1 : ∀ x : Nat, x < 2 ^ 64 → (BitVec.ofInt 64 (x : Int)).toNat = x := fun x hx => by rw [BitVec.toNat_ofInt]; omega
  rw [BitVec.toNat_or, e1 a ha, e1 b hb, wrapU64]
  have := Nat.or_lt_two_pow ha hb
  omega
/-- the next digit -/
theorem dig {n i : Nat} {c : Int} (hn : n < 128 ^ i) (hi : i ≤ 8) (h : 0 ≤ c) (h' : c < 256) :
    bitI .or .u64 (n : Int) (IntKind.u64.wrap (IntKind.u64.wrap (bitI .and .u8 c 127) * (2 : Int) ^ min (IntKind.i64.wrap ((7 : Int) * (i : Int))).toNat 64)) = ((n + c.toNat % 128 * 128 ^ i : Nat) : Int) := by
  obtain ⟨k, rfl⟩ := Int.eq_ofNat_of_zero_le h
  have e1 : IntKind.i64.wrap ((7 : Int) * (i : Int)) = ((7 * i : Nat) : Int) := by rw [wrap64E]; omega
  have e2 : IntKind.u64.wrap (bitI .and .u8 (k : Int) 127) = ((k % 128 : Nat) : Int) := by rw [and127 _ h h', wrapU64]; omega
  have e3 : min (7 * i) 64 = 7 * i := Nat.min_eq_left (by omega)
  have hp := pow128_le hi
  have hk : k % 128 < 128 := Nat.mod_lt _ (by decide)
  have hm : k % 128 * 128 ^ i ≤ 127 * 72057594037927936 := Nat.mul_le_mul (by omega) hp
  rw [e1, e2, Int.toNat_natCast, e3]
  have e4 : ((k % 128 : Nat) : Int) * (2 : Int) ^ (7 * i) = ((k % 128 * 128 ^ i : Nat) : Int) := by
    rw [pow128]; simp
  rw [e4]
  have e5 : IntKind.u64.wrap ((k % 128 * 128 ^ i : Nat) : Int) = ((k % 128 * 128 ^ i : Nat) : Int) := by rw [wrapU64]; omega
  rw [e5, or_u64 _ _ (by omega) (by omega), Int.toNat_natCast]
  congr 1
  rw [Nat.or_comm, Nat.mul_comm, pow128]
  rw [pow128] at hn
  rw [← Nat.two_pow_add_eq_or_of_lt hn]
  omega
/-- a byte as a number -/
def byt (t : ByteArray) (j : Nat) : Nat := (sbyte t j).toNat
theorem byt_lt (t : ByteArray) (j : Nat) : byt t j < 256 := by
  have := sbyte_range t j
  unfold byt; omega
theorem sbyte_byt (t : ByteArray) (j : Nat) : sbyte t j = (byt t j : Int) := by
  have := sbyte_range t j
  unfold byt; omega
/-- what the first digits are worth -/
def vAt (t : ByteArray) (off : Nat) : Nat → Nat
  | 0 => 0
  | i + 1 => vAt t off i + byt t (off + i) % 128 * 128 ^ i
theorem vAt_lt (t : ByteArray) (off : Nat) : ∀ i, vAt t off i < 128 ^ i
  | 0 => by simp [vAt]
  | i + 1 => by
    have h := vAt_lt t off i
    have hk : byt t (off + i) % 128 ≤ 127 := by omega
    have : byt t (off + i) % 128 * 128 ^ i ≤ 127 * 128 ^ i := Nat.mul_le_mul_right _ hk
    simp only [vAt, Nat.pow_succ]
    omega
/-- worth from the first digit on: the first one, and 128 times the rest -/
theorem vAt_front (t : ByteArray) (off : Nat) : ∀ i, vAt t off (i + 1) = byt t off % 128 + 128 * vAt t (off + 1) i
  | 0 => by simp [vAt]
  | i + 1 => by
    rw [vAt, vAt_front t off i, vAt, show off + (i + 1) = off + 1 + i by omega, Nat.pow_succ, Nat.mul_add]
    have : byt t (off + 1 + i) % 128 * (128 ^ i * 128) = 128 * (byt t (off + 1 + i) % 128 * 128 ^ i) := by
      rw [Nat.mul_comm (128 ^ i) 128, ← Nat.mul_assoc, Nat.mul_comm _ 128, Nat.mul_assoc]
    omega
/-- a number that is written well stands there: its digits but for the last one bear the mark -/
structure GoodAt (t : ByteArray) (off i : Nat) : Prop where
  hi : ∀ j, j < i → 128 ≤ byt t (off + j)
  lo : byt t (off + i) < 128
  nz : 0 < i → byt t (off + i) ≠ 0
theorem GoodAt.tail {t : ByteArray} {off i : Nat} (h : GoodAt t off (i + 1)) : GoodAt t (off + 1) i where
  hi := fun j hj => by have := h.hi (j + 1) (by omega); rwa [show off + (j + 1) = off + 1 + j by omega] at this
  lo := by have := h.lo; rwa [show off + (i + 1) = off + 1 + i by omega] at this
  nz := fun _ => by have := h.nz (by omega); rwa [show off + (i + 1) = off + 1 + i by omega] at this
theorem vAt_pos {t : ByteArray} : ∀ {i off : Nat}, GoodAt t off i → 0 < i → 0 < vAt t off (i + 1)
  | 0, _, _, h => absurd h (Nat.lt_irrefl _)
  | i + 1, off, h, _ => by
    have h1 := h.nz (by omega)
    have h2 := h.lo
    have : 0 < byt t (off + (i + 1)) % 128 := by omega
    have h3 : 0 < byt t (off + (i + 1)) % 128 * 128 ^ (i + 1) := Nat.mul_pos this (Nat.pow_pos (by decide))
    rw [vAt]; omega
/-- its value's bytes are the ones that stand there -/
theorem GoodAt.bytes {t : ByteArray} : ∀ {i off : Nat}, GoodAt t off i → (numB (vAt t off (i + 1))).size = i + 1 ∧ ∀ j, j ≤ i → sbyte (numB (vAt t off (i + 1))) j = sbyte t (off + j)
  | 0, off, h => by
    have hl := h.lo
    rw [Nat.add_zero] at hl
    have e : vAt t off 1 = byt t off := by simp [vAt]; omega
    have e2 : numB (byt t off) = oneB (byt t off) := by
      unfold numB
      rw [hiB_lt hl, loN_lt hl, empty_append]
    rw [e, e2]
    refine ⟨rfl, fun j hj => ?_⟩
    obtain rfl : j = 0 := Nat.le_zero.1 hj
    rw [sbyte_oneB (byt_lt t off), Nat.add_zero, sbyte_byt]
  | i + 1, off, h => by
    have ht := h.tail
    obtain ⟨h1, h2⟩ := GoodAt.bytes ht
    have h0 := h.hi 0 (by omega)
    rw [Nat.add_zero] at h0
    have hb := byt_lt t off
    have e := vAt_front t off (i + 1)
    have hpos : 0 < vAt t (off + 1) (i + 1) := by
      rcases Nat.eq_zero_or_pos i with rfl | hi
      · have h3 := h.nz (by omega)
        have h4 := h.lo
        simp only [Nat.zero_add] at h3 h4
        have : vAt t (off + 1) (0 + 1) = byt t (off + 1) % 128 := by simp [vAt]
        omega
      · exact vAt_pos ht hi
    have hge : ¬ vAt t off (i + 1 + 1) < 128 := by omega
    have hd : vAt t off (i + 1 + 1) / 128 = vAt t (off + 1) (i + 1) := by omega
    have hm : vAt t off (i + 1 + 1) % 128 + 128 = byt t off := by omega
    have en : numB (vAt t off (i + 1 + 1)) = oneB (byt t off) ++ numB (vAt t (off + 1) (i + 1)) := by
      show hiB _ ++ oneB (loN _) = _
      rw [hiB_ge hge, loN_ge hge, hd, hm, ByteArray.append_assoc]
      rfl
    rw [en]
    refine ⟨by simp [h1]; omega, fun j hj => ?_⟩
    rw [sbyte_append]
    cases j with
    | zero => rw [if_pos (by simp), sbyte_oneB hb, Nat.add_zero, sbyte_byt]
    | succ j =>
      rw [if_neg (by simp), show j + 1 - (oneB (byt t off)).size = j by simp, h2 j (by omega), show off + (j + 1) = off + 1 + j by omega]
/-- and a number's bytes are written well -/
theorem numB_good (n : Nat) : ∀ (t : ByteArray) (off : Nat), (∀ j, j < (numB n).size → sbyte t (off + j) = sbyte (numB n) j) → ∃ i, (numB n).size = i + 1 ∧ GoodAt t off i ∧ vAt t off (i + 1) = n := by
  induction n using Nat.strongRecOn with
  | _ n ih =>
    intro t off h
    by_cases hl : n < 128
    · have e2 : numB n = oneB n := by
        unfold numB
        rw [hiB_lt hl, loN_lt hl, empty_append]
      rw [e2] at h ⊢
      have h0 := h 0 (by simp)
      rw [sbyte_oneB (by omega), Nat.add_zero, sbyte_byt] at h0
      have h0 : byt t off = n := by omega
      refine ⟨0, rfl, ⟨fun j hj => absurd hj (Nat.not_lt_zero _), by rw [Nat.add_zero, h0]; exact hl, fun h => absurd h (Nat.lt_irrefl _)⟩, ?_⟩
      simp [vAt, h0]; omega
    · have en : numB n = oneB (n % 128 + 128) ++ numB (n / 128) := by
        show hiB _ ++ oneB (loN _) = _
        rw [hiB_ge hl, loN_ge hl, ByteArray.append_assoc]
        rfl
      have h0 := h 0 (by rw [en]; simp; omega)
      rw [en, sbyte_append, if_pos (by simp), sbyte_oneB (by omega), Nat.add_zero, sbyte_byt] at h0
      have h0 : byt t off = n % 128 + 128 := by omega
      obtain ⟨i, h1, h2, h3⟩ := ih (n / 128) (by omega) t (off + 1) fun j hj => by
        have := h (j + 1) (by rw [en]; simp; omega)
        rw [en, sbyte_append, if_neg (by simp), show j + 1 - (oneB (n % 128 + 128)).size = j by simp, show off + (j + 1) = off + 1 + j by omega] at this
        exact this
      refine ⟨i + 1, by rw [en]; simp [h1]; omega, ⟨fun j hj => ?_, ?_, fun _ => ?_⟩, ?_⟩
      · cases j with
        | zero => rw [Nat.add_zero, h0]; omega
        | succ j => have := h2.hi j (by omega); rwa [show off + (j + 1) = off + 1 + j by omega]
      · have := h2.lo; rwa [show off + (i + 1) = off + 1 + i by omega]
      · rw [show off + (i + 1) = off + 1 + i by omega]
        rcases Nat.eq_zero_or_pos i with rfl | hi
        · intro hz
          simp only [Nat.add_zero] at hz
          simp [vAt, hz] at h3
          omega
        · exact h2.nz hi
      · rw [vAt_front, h3, h0]; omega
end Go.Eng

/- Plain facts on a reader: which number stands at a place, and what is read. -/
namespace Go.Eng.RD
open Go Go.Eng
set_option linter.unusedSimpArgs false
set_option linter.unusedVariables false
def BadC (t : ByteArray) (off k : Nat) : Prop := (byt t (off + k) < 128 ∧ byt t (off + k) = 0 ∧ 0 < k) ∨ (k = 8 ∧ (128 ≤ byt t (off + k) ∨ 4611686018427387904 < vAt t off (k + 1)))
def IsGood (t : ByteArray) (off len k : Nat) : Prop := k < len ∧ k ≤ 8 ∧ GoodAt t off k ∧ vAt t off (k + 1) ≤ 4611686018427387904
def IsCut (t : ByteArray) (off len : Nat) : Prop := len ≤ 8 ∧ ∀ j, j < len → 128 ≤ byt t (off + j)
def IsBad (t : ByteArray) (off len k : Nat) : Prop := k < len ∧ k ≤ 8 ∧ (∀ j, j < k → 128 ≤ byt t (off + j)) ∧ BadC t off k
theorem firstLow (t : ByteArray) (off : Nat) : ∀ m, (∀ j, j < m → 128 ≤ byt t (off + j)) ∨ ∃ k, k < m ∧ (∀ j, j < k → 128 ≤ byt t (off + j)) ∧ byt t (off + k) < 128
  | 0 => .inl fun j hj => absurd hj (Nat.not_lt_zero _)
  | m + 1 => by
    rcases firstLow t off m with h | ⟨k, h1, h2, h3⟩
    · by_cases hb : byt t (off + m) < 128
      · exact .inr ⟨m, Nat.lt_succ_self m, h, hb⟩
      · refine .inl fun j hj => ?_
        rcases Nat.lt_succ_iff_lt_or_eq.1 hj with h' | rfl
        · exact h j h'
        · omega
    · exact .inr ⟨k, Nat.lt_succ_of_lt h1, h2, h3⟩
theorem classify (t : ByteArray) (off len : Nat) : (∃ k, IsGood t off len k) ∨ IsCut t off len ∨ ∃ k, IsBad t off len k := by
  rcases firstLow t off (min len 9) with h | ⟨k, h1, h2, h3⟩
  · by_cases hl : len ≤ 8
    · exact .inr (.inl ⟨hl, fun j hj => h j (by omega)⟩)
    · exact .inr (.inr ⟨8, by omega, by omega, fun j hj => h j (by omega), .inr ⟨rfl, .inl (h 8 (by omega))⟩⟩)
  · by_cases hz : 0 < k ∧ byt t (off + k) = 0
    · exact .inr (.inr ⟨k, by omega, by omega, h2, .inl ⟨h3, hz.2, hz.1⟩⟩)
    · by_cases hv : k = 8 ∧ 4611686018427387904 < vAt t off (k + 1)
      · exact .inr (.inr ⟨k, by omega, by omega, h2, .inr ⟨hv.1, .inr hv.2⟩⟩)
      · refine .inl ⟨k, by omega, by omega, ⟨h2, h3, fun hp h0 => hz ⟨hp, h0⟩⟩, ?_⟩
        by_cases h8 : k = 8
        · omega
        · have h4 := vAt_lt t off (k + 1)
          have h5 : (128 : Nat) ^ (k + 1) ≤ 128 ^ 8 := Nat.pow_le_pow_right (by decide) (by omega)
          have h6 : (128 : Nat) ^ 8 = 72057594037927936 := by decide
          omega
theorem good_unique {t : ByteArray} {off len k k' : Nat} (h : IsGood t off len k) (h' : IsGood t off len k') : k = k' := by
  rcases Nat.lt_trichotomy k k' with hl | rfl | hl
  · have := h'.2.2.1.hi k hl; have := h.2.2.1.lo; omega
  · rfl
  · have := h.2.2.1.hi k' hl; have := h'.2.2.1.lo; omega
open Classical in
noncomputable def kG (t : ByteArray) (off len : Nat) : Nat := if h : ∃ k, IsGood t off len k then h.choose else 0
theorem kG_of {t : ByteArray} {off len k : Nat} (h : IsGood t off len k) : kG t off len = k := by
  have h' : ∃ k, IsGood t off len k := ⟨k, h⟩
  unfold kG
  rw [dif_pos h']
  exact good_unique h'.choose_spec h
/-- does a number stand there? -/
def qG (t : ByteArray) (off : Nat) : Prop := ∃ k, IsGood t off (t.size - off) k
open Classical in
noncomputable def qN (t : ByteArray) (off : Nat) (e : Int) : Int := if ¬ e = 0 then 0 else if qG t off then (vAt t off (kG t off (t.size - off) + 1) : Int) else 0
open Classical in
noncomputable def qO (t : ByteArray) (off : Nat) (e : Int) : Nat := if ¬ e = 0 then off else if qG t off then off + (kG t off (t.size - off) + 1) else t.size
open Classical in
noncomputable def qE (t : ByteArray) (off : Nat) (e : Int) : Int := if ¬ e = 0 then e else if qG t off then 0 else if IsCut t off (t.size - off) then 30 else 31
theorem qN_bad {t : ByteArray} {off : Nat} {e : Int} (h : ¬ e = 0) : qN t off e = 0 := if_pos h
theorem qO_bad {t : ByteArray} {off : Nat} {e : Int} (h : ¬ e = 0) : qO t off e = off := if_pos h
theorem qE_bad {t : ByteArray} {off : Nat} {e : Int} (h : ¬ e = 0) : qE t off e = e := if_pos h
theorem q_good {t : ByteArray} {off k : Nat} (h : IsGood t off (t.size - off) k) : qN t off 0 = (vAt t off (k + 1) : Int) ∧ qO t off 0 = off + (k + 1) ∧ qE t off 0 = 0 := by
  have g : qG t off := ⟨k, h⟩
  unfold qN qO qE
  rw [if_neg (by simp), if_pos g, if_neg (by simp), if_pos g, if_neg (by simp), if_pos g, kG_of h]
  exact ⟨rfl, rfl, rfl⟩
theorem q_cut {t : ByteArray} {off : Nat} (h : IsCut t off (t.size - off)) : qN t off 0 = 0 ∧ qO t off 0 = t.size ∧ qE t off 0 = 30 := by
  have g : ¬ qG t off := fun ⟨k, h1, h2, h3, h4⟩ => by
    have := h.2 k h1; have := h3.lo; omega
  unfold qN qO qE
  rw [if_neg (by simp), if_neg g, if_neg (by simp), if_neg g, if_neg (by simp), if_neg g, if_pos h]
  exact ⟨rfl, rfl, rfl⟩
theorem q_no {t : ByteArray} {off k : Nat} (h : IsBad t off (t.size - off) k) : qN t off 0 = 0 ∧ qO t off 0 = t.size ∧ qE t off 0 = 31 := by
  obtain ⟨h1, h2, h3, h4⟩ := h
  have g : ¬ qG t off := fun ⟨k', g1, g2, g3, g4⟩ => by
    rcases Nat.lt_trichotomy k k' with hl | rfl | hl
    · have := g3.hi k hl
      rcases h4 with ⟨b1, b2, b3⟩ | ⟨b1, b2⟩
      · omega
      · omega
    · rcases h4 with ⟨b1, b2, b3⟩ | ⟨b1, b2⟩
      · exact g3.nz b3 b2
      · have := g3.lo; omega
    · have := h3 k' hl; have := g3.lo; omega
  have c : ¬ IsCut t off (t.size - off) := fun ⟨c1, c2⟩ => by
    have := c2 k h1
    rcases h4 with ⟨b1, b2, b3⟩ | ⟨b1, b2⟩
    · omega
    · omega
  unfold qN qO qE
  rw [if_neg (by simp), if_neg g, if_neg (by simp), if_neg g, if_neg (by simp), if_neg g, if_neg c]
  exact ⟨rfl, rfl, rfl⟩
theorem qO_le {t : ByteArray} {off : Nat} {e : Int} (h : off ≤ t.size) : off ≤ qO t off e ∧ qO t off e ≤ t.size := by
  by_cases he : e = 0
  · subst he
    rcases classify t off (t.size - off) with ⟨k, hk⟩ | hc | ⟨k, hk⟩
    · rw [(q_good hk).2.1]
      have := hk.1
      omega
    · rw [(q_cut hc).2.1]; omega
    · rw [(q_no hk).2.1]; omega
  · rw [qO_bad he]; omega
theorem qN_range {t : ByteArray} {off : Nat} {e : Int} : 0 ≤ qN t off e ∧ qN t off e ≤ 4611686018427387904 := by
  by_cases he : e = 0
  · subst he
    rcases classify t off (t.size - off) with ⟨k, hk⟩ | hc | ⟨k, hk⟩
    · rw [(q_good hk).1]
      have := hk.2.2.2
      omega
    · rw [(q_cut hc).1]; omega
    · rw [(q_no hk).1]; omega
  · rw [qN_bad he]; omega
/-- behind an error nothing is left -/
def okS (t : ByteArray) (off : Nat) (e : Int) : Prop := off ≤ t.size ∧ (e = 0 ∨ off = t.size)
theorem q_okS {t : ByteArray} {off : Nat} {e : Int} (h : okS t off e) : okS t (qO t off e) (qE t off e) := by
  refine ⟨(qO_le h.1).2, ?_⟩
  by_cases he : e = 0
  · subst he
    rcases classify t off (t.size - off) with ⟨k, hk⟩ | hc | ⟨k, hk⟩
    · exact .inl (q_good hk).2.2
    · exact .inr (q_cut hc).2.1
    · exact .inr (q_no hk).2.1
  · rw [qO_bad he]; exact .inr (h.2.resolve_left he)
end Go.Eng.RD

/- wire: reading a number: the loop. -/
namespace Go.Eng.TA
open Go Go.Eng Go.Eng.M Go.Eng.RD Go.Lib Go.Proofs
set_option linter.unusedSimpArgs false
set_option linter.unusedVariables false
noncomputable def kFail : CT Tryd.prog Γm := CT.auto false 100 3 [] 96 Tryd.f96 (bodyOf Tryd.f96) false 24 [] Tryd.func96 (by kernel_rfl) (by kernel_rfl) (by kernel_rfl) (by kernel_rfl)
noncomputable def loopP : Code := loopOf (bodyOf Tryd.f95) 0
theorem roundP (off len N i : Nat) (n : Nat) (t : ByteArray) : roundE (P := Tryd.prog) (Γ := Γm) [kFail] Lno false 2 0 loopP [0, 19, 20, 21, 3, 2] [] 75 [.ptr 0 0, .hs 1 off len, .v (.int .i64 (len : Int)), .v (.int .i64 (i : Int)), .v (.int .u64 (n : Int)), .any] [some (.row [.hs 1 off len, .v (.int .i64 0)]), some (.arr 1 N (bsF t))] =
  Tree.br (decide ((↑i : Int) < (↑len : Int))) (Tree.chk (decide ((0 : Int) ≤ (↑i : Int)) && decide ((↑i : Int) < (↑len : Int))) (Tree.chk (decide ((0 : Int) ≤ IntKind.wrap IntKind.i64 ((7 :
    Int) * (↑i : Int)))) (Tree.br (bif decide (sbyte t (off + i) < (128 : Int)) then bif decide (sbyte t (off + i) = (0 : Int)) then decide ((0 : Int) < (↑i : Int)) else false else false)
    (Tree.br (bif decide (sbyte t (off + i) < (128 : Int)) then bif decide (sbyte t (off + i) = (0 : Int)) then decide ((0 : Int) < (↑i : Int)) else false else false) (Tree.br true
    (Tree.leaf (Out.mk AEx.ret [AV.ptr (0 : Nat) (0 : Nat), AV.hs (1 : Nat) off len, AV.v (Value.int IntKind.i64 (↑len : Int)), AV.v (Value.int IntKind.i64 (↑i : Int)), AV.v (Value.int
    IntKind.u64 (bitI BinOp.or IntKind.u64 (↑n : Int) (IntKind.wrap IntKind.u64 (IntKind.wrap IntKind.u64 (bitI BinOp.and IntKind.u8 (sbyte t (off + i)) (127 : Int)) * (2 : Int) ^ min
    (Int.toNat (IntKind.wrap IntKind.i64 ((7 : Int) * (↑i : Int)))) (64 : Nat))))), AV.v (Value.int IntKind.i64 (0 : Int))] [some (Blk.row [AV.v (Value.slice none (0 : Nat) (0 : Nat)), AV.v
    (Value.int IntKind.i64 (31 : Int))]), some (Blk.arr (1 : Nat) N fun j => [AV.v (Value.int IntKind.u8 (sbyte t j))])])) (Tree.leaf (Out.mk AEx.ret [AV.ptr (0 : Nat) (0 : Nat), AV.hs (1 :
    Nat) off len, AV.v (Value.int IntKind.i64 (↑len : Int)), AV.v (Value.int IntKind.i64 (↑i : Int)), AV.v (Value.int IntKind.u64 (bitI BinOp.or IntKind.u64 (↑n : Int) (IntKind.wrap
    IntKind.u64 (IntKind.wrap IntKind.u64 (bitI BinOp.and IntKind.u8 (sbyte t (off + i)) (127 : Int)) * (2 : Int) ^ min (Int.toNat (IntKind.wrap IntKind.i64 ((7 : Int) * (↑i : Int)))) (64 :
    Nat))))), AV.v (Value.int IntKind.i64 (0 : Int))] [some (Blk.row [AV.hs (1 : Nat) off len, AV.v (Value.int IntKind.i64 (0 : Int))]), some (Blk.arr (1 : Nat) N fun j => [AV.v (Value.int
    IntKind.u8 (sbyte t j))])]))) (Tree.br (decide (sbyte t (off + i) < (128 : Int))) (Tree.chk (decide ((0 : Int) ≤ IntKind.wrap IntKind.i64 ((↑i : Int) + (1 : Int))) && decide
    (IntKind.wrap IntKind.i64 ((↑i : Int) + (1 : Int)) ≤ (↑len : Int)) && decide ((↑len : Int) ≤ (↑len : Int))) (Tree.leaf (Out.mk AEx.ret [AV.ptr (0 : Nat) (0 : Nat), AV.hs (1 : Nat) off
    len, AV.v (Value.int IntKind.i64 (↑len : Int)), AV.v (Value.int IntKind.i64 (↑i : Int)), AV.v (Value.int IntKind.u64 (bitI BinOp.or IntKind.u64 (↑n : Int) (IntKind.wrap IntKind.u64
    (IntKind.wrap IntKind.u64 (bitI BinOp.and IntKind.u8 (sbyte t (off + i)) (127 : Int)) * (2 : Int) ^ min (Int.toNat (IntKind.wrap IntKind.i64 ((7 : Int) * (↑i : Int)))) (64 : Nat))))),
    AV.v (Value.int IntKind.i64 (IntKind.wrap IntKind.i64 (bitI BinOp.or IntKind.u64 (↑n : Int) (IntKind.wrap IntKind.u64 (IntKind.wrap IntKind.u64 (bitI BinOp.and IntKind.u8 (sbyte t (off +
    i)) (127 : Int)) * (2 : Int) ^ min (Int.toNat (IntKind.wrap IntKind.i64 ((7 : Int) * (↑i : Int)))) (64 : Nat))))))] [some (Blk.row [AV.hs (1 : Nat) (off + Int.toNat (IntKind.wrap
    IntKind.i64 ((↑i : Int) + (1 : Int)))) (len - Int.toNat (IntKind.wrap IntKind.i64 ((↑i : Int) + (1 : Int)))), AV.v (Value.int IntKind.i64 (0 : Int))]), some (Blk.arr (1 : Nat) N fun j =>
    [AV.v (Value.int IntKind.u8 (sbyte t j))])]))) (Tree.leaf (Out.mk AEx.normal [AV.ptr (0 : Nat) (0 : Nat), AV.hs (1 : Nat) off len, AV.v (Value.int IntKind.i64 (↑len : Int)), AV.v
    (Value.int IntKind.i64 (IntKind.wrap IntKind.i64 ((↑i : Int) + (1 : Int)))), AV.v (Value.int IntKind.u64 (bitI BinOp.or IntKind.u64 (↑n : Int) (IntKind.wrap IntKind.u64 (IntKind.wrap
    IntKind.u64 (bitI BinOp.and IntKind.u8 (sbyte t (off + i)) (127 : Int)) * (2 : Int) ^ min (Int.toNat (IntKind.wrap IntKind.i64 ((7 : Int) * (↑i : Int)))) (64 : Nat))))), AV.any] [some
    (Blk.row [AV.hs (1 : Nat) off len, AV.v (Value.int IntKind.i64 (0 : Int))]), some (Blk.arr (1 : Nat) N fun j => [AV.v (Value.int IntKind.u8 (sbyte t j))])])))) (Tree.br (bif decide ((↑i
    : Int) = (8 : Int)) then bif !decide (sbyte t (off + i) < (128 : Int)) then true else decide ((4611686018427387904 : Int) < bitI BinOp.or IntKind.u64 (↑n : Int) (IntKind.wrap IntKind.u64
    (IntKind.wrap IntKind.u64 (bitI BinOp.and IntKind.u8 (sbyte t (off + i)) (127 : Int)) * (2 : Int) ^ min (Int.toNat (IntKind.wrap IntKind.i64 ((7 : Int) * (↑i : Int)))) (64 : Nat)))) else
    false) (Tree.br true (Tree.leaf (Out.mk AEx.ret [AV.ptr (0 : Nat) (0 : Nat), AV.hs (1 : Nat) off len, AV.v (Value.int IntKind.i64 (↑len : Int)), AV.v (Value.int IntKind.i64 (↑i : Int)),
    AV.v (Value.int IntKind.u64 (bitI BinOp.or IntKind.u64 (↑n : Int) (IntKind.wrap IntKind.u64 (IntKind.wrap IntKind.u64 (bitI BinOp.and IntKind.u8 (sbyte t (off + i)) (127 : Int)) * (2 :
    Int) ^ min (Int.toNat (IntKind.wrap IntKind.i64 ((7 : Int) * (↑i : Int)))) (64 : Nat))))), AV.v (Value.int IntKind.i64 (0 : Int))] [some (Blk.row [AV.v (Value.slice none (0 : Nat) (0 :
    Nat)), AV.v (Value.int IntKind.i64 (31 : Int))]), some (Blk.arr (1 : Nat) N fun j => [AV.v (Value.int IntKind.u8 (sbyte t j))])])) (Tree.leaf (Out.mk AEx.ret [AV.ptr (0 : Nat) (0 : Nat),
    AV.hs (1 : Nat) off len, AV.v (Value.int IntKind.i64 (↑len : Int)), AV.v (Value.int IntKind.i64 (↑i : Int)), AV.v (Value.int IntKind.u64 (bitI BinOp.or IntKind.u64 (↑n : Int)
    (IntKind.wrap IntKind.u64 (IntKind.wrap IntKind.u64 (bitI BinOp.and IntKind.u8 (sbyte t (off + i)) (127 : Int)) * (2 : Int) ^ min (Int.toNat (IntKind.wrap IntKind.i64 ((7 : Int) * (↑i :
    Int)))) (64 : Nat))))), AV.v (Value.int IntKind.i64 (0 : Int))] [some (Blk.row [AV.hs (1 : Nat) off len, AV.v (Value.int IntKind.i64 (0 : Int))]), some (Blk.arr (1 : Nat) N fun j =>
    [AV.v (Value.int IntKind.u8 (sbyte t j))])]))) (Tree.br (decide (sbyte t (off + i) < (128 : Int))) (Tree.chk (decide ((0 : Int) ≤ IntKind.wrap IntKind.i64 ((↑i : Int) + (1 : Int))) &&
    decide (IntKind.wrap IntKind.i64 ((↑i : Int) + (1 : Int)) ≤ (↑len : Int)) && decide ((↑len : Int) ≤ (↑len : Int))) (Tree.leaf (Out.mk AEx.ret [AV.ptr (0 : Nat) (0 : Nat), AV.hs (1 : Nat)
    off len, AV.v (Value.int IntKind.i64 (↑len : Int)), AV.v (Value.int IntKind.i64 (↑i : Int)), AV.v (Value.int IntKind.u64 (bitI BinOp.or IntKind.u64 (↑n : Int) (IntKind.wrap IntKind.u64
    (IntKind.wrap IntKind.u64 (bitI BinOp.and IntKind.u8 (sbyte t (off + i)) (127 : Int)) * (2 : Int) ^ min (Int.toNat (IntKind.wrap IntKind.i64 ((7 : Int) * (↑i : Int)))) (64 : Nat))))),
    AV.v (Value.int IntKind.i64 (IntKind.wrap IntKind.i64 (bitI BinOp.or IntKind.u64 (↑n : Int) (IntKind.wrap IntKind.u64 (IntKind.wrap IntKind.u64 (bitI BinOp.and IntKind.u8 (sbyte t (off +
    i)) (127 : Int)) * (2 : Int) ^ min (Int.toNat (IntKind.wrap IntKind.i64 ((7 : Int) * (↑i : Int)))) (64 : Nat))))))] [some (Blk.row [AV.hs (1 : Nat) (off + Int.toNat (IntKind.wrap
    IntKind.i64 ((↑i : Int) + (1 : Int)))) (len - Int.toNat (IntKind.wrap IntKind.i64 ((↑i : Int) + (1 : Int)))), AV.v (Value.int IntKind.i64 (0 : Int))]), some (Blk.arr (1 : Nat) N fun j =>
    [AV.v (Value.int IntKind.u8 (sbyte t j))])]))) (Tree.leaf (Out.mk AEx.normal [AV.ptr (0 : Nat) (0 : Nat), AV.hs (1 : Nat) off len, AV.v (Value.int IntKind.i64 (↑len : Int)), AV.v
    (Value.int IntKind.i64 (IntKind.wrap IntKind.i64 ((↑i : Int) + (1 : Int)))), AV.v (Value.int IntKind.u64 (bitI BinOp.or IntKind.u64 (↑n : Int) (IntKind.wrap IntKind.u64 (IntKind.wrap
    IntKind.u64 (bitI BinOp.and IntKind.u8 (sbyte t (off + i)) (127 : Int)) * (2 : Int) ^ min (Int.toNat (IntKind.wrap IntKind.i64 ((7 : Int) * (↑i : Int)))) (64 : Nat))))), AV.any] [some
    (Blk.row [AV.hs (1 : Nat) off len, AV.v (Value.int IntKind.i64 (0 : Int))]), some (Blk.arr (1 : Nat) N fun j => [AV.v (Value.int IntKind.u8 (sbyte t j))])]))))))) (Tree.leaf (Out.mk
    (AEx.exit (0 : Nat)) [AV.ptr (0 : Nat) (0 : Nat), AV.hs (1 : Nat) off len, AV.v (Value.int IntKind.i64 (↑len : Int)), AV.v (Value.int IntKind.i64 (↑i : Int)), AV.v (Value.int IntKind.u64
    (↑n : Int)), AV.any] [some (Blk.row [AV.hs (1 : Nat) off len, AV.v (Value.int IntKind.i64 (0 : Int))]), some (Blk.arr (1 : Nat) N fun j => [AV.v (Value.int IntKind.u8 (sbyte t j))])])) := by kernel_rfl
/-- a reader: its bytes from 'off' on, so many -/
def rdB (off len N : Nat) (t : ByteArray) : List Blk := [.row [.hs 1 off len, .v (.int .i64 0)], .arr 1 N (bsF t)]
def badB (e : Int) (N : Nat) (t : ByteArray) : List (Option Blk) := [some (.row [.v (.slice none 0 0), .v (.int .i64 e)]), some (.arr 1 N (bsF t))]
def SP (off len N : Nat) (t : ByteArray) (i : Nat) : List AV × Heap := ([.ptr 0 0, .hs 1 off len, .v (.int .i64 (len : Int)), .v (.int .i64 (i : Int)), .v (.int .u64 (vAt t off i : Int)), .any], (rdB off len N t).map some)
def OPg (off len N : Nat) (t : ByteArray) (k : Nat) : Out := ⟨.ret, [.any, .any, .any, .any, .any, .v (.int .i64 (vAt t off (k + 1) : Int))], (rdB (off + (k + 1)) (len - (k + 1)) N t).map some⟩
def OPb (N : Nat) (t : ByteArray) : Out := ⟨.ret, [.any, .any, .any, .any, .any, .v (.int .i64 0)], badB 31 N t⟩
def OPc (off len N : Nat) (t : ByteArray) : Out := ⟨.exit 0, [.ptr 0 0, .any, .any, .any, .any, .any], (rdB off len N t).map some⟩
theorem stepP {t : ByteArray} {off len N i : Nat} {Q : Out → Prop} (hi : i ≤ 8) (hlt : i < len) (hlen : len ≤ 1000000000000) :
    (∀ (c : Nat), c = byt t (off + i) →
      ((c < 128 ∧ c = 0 ∧ 0 < i) ∨ (i = 8 ∧ (128 ≤ c ∨ 4611686018427387904 < vAt t off (i + 1))) → Q ⟨.ret, [.ptr 0 0, .hs 1 off len, .v (.int .i64 (len : Int)), .v (.int .i64 (i : Int)), .v (.int .u64 (vAt t off (i + 1) : Int)), .v (.int .i64 0)], badB 31 N t⟩) ∧
      (c < 128 → (0 < i → c ≠ 0) → (i = 8 → vAt t off (i + 1) ≤ 4611686018427387904) → Q ⟨.ret, [.ptr 0 0, .hs 1 off len, .v (.int .i64 (len : Int)), .v (.int .i64 (i : Int)), .v (.int .u64 (vAt t off (i + 1) : Int)), .v (.int .i64 (vAt t off (i + 1) : Int))], (rdB (off + (i + 1)) (len - (i + 1)) N t).map some⟩) ∧
      (128 ≤ c → i < 8 → Q ⟨.normal, [.ptr 0 0, .hs 1 off len, .v (.int .i64 (len : Int)), .v (.int .i64 ((i + 1 : Nat) : Int)), .v (.int .u64 (vAt t off (i + 1) : Int)), .any], (rdB off len N t).map some⟩)) →
    (roundE (P := Tryd.prog) (Γ := Γm) [kFail] Lno false 2 0 loopP [0, 19, 20, 21, 3, 2] [] 75 [.ptr 0 0, .hs 1 off len, .v (.int .i64 (len : Int)), .v (.int .i64 (i : Int)), .v (.int .u64 (vAt t off i : Int)), .any] [some (.row [.hs 1 off len, .v (.int .i64 0)]), some (.arr 1 N (bsF t))]).sat Q := by
  intro h
  obtain ⟨h1, h2, h3⟩ := h _ rfl
  have hr := sbyte_range t (off + i)
  have hd := dig (c := sbyte t (off + i)) (vAt_lt t off i) hi hr.1 hr.2
  have hb : sbyte t (off + i) = (byt t (off + i) : Int) := sbyte_byt t _
  have hv : vAt t off i + byt t (off + i) % 128 * 128 ^ i = vAt t off (i + 1) := rfl
  have hbt := byt_lt t (off + i)
  have hvl : vAt t off (i + 1) < 9223372036854775808 := by
    have h1 := vAt_lt t off (i + 1)
    have h2 : (128 : Nat) ^ (i + 1) ≤ 128 ^ 9 := Nat.pow_le_pow_right (by decide) (by omega)
    have h3 : (128 : Nat) ^ 9 = 9223372036854775808 := by decide
    omega
  rw [hb, Int.toNat_natCast, hv] at hd
  rw [roundP]
  have e1 : IntKind.i64.wrap ((i : Int) + 1) = ((i + 1 : Nat) : Int) := by rw [wrap64E]; omega
  have e2 : IntKind.i64.wrap ((vAt t off (i + 1) : Nat) : Int) = ((vAt t off (i + 1) : Nat) : Int) := by rw [wrap64E]; omega
  have e3 : IntKind.i64.wrap ((7 : Int) * (i : Int)) = ((7 * i : Nat) : Int) := by rw [wrap64E]; omega
  have c1 : decide ((i : Int) < (len : Int)) = true := decide_eq_true (by omega)
  have c2 : decide ((0 : Int) ≤ (i : Int)) = true := decide_eq_true (by omega)
  have c3 : decide ((0 : Int) ≤ ((7 * i : Nat) : Int)) = true := decide_eq_true (by omega)
  have c4 : decide ((0 : Int) ≤ ((i + 1 : Nat) : Int)) = true := decide_eq_true (by omega)
  have c5 : decide (((i + 1 : Nat) : Int) ≤ (len : Int)) = true := decide_eq_true (by omega)
  simp only [Int.toNat_natCast, hb]
  simp only [hd]
  simp only [e1, e2, e3, c1, c2, c3, c4, c5, Int.toNat_natCast]
  refine ⟨fun _ => ⟨rfl, rfl, ?_⟩, fun h => by simp at h⟩
  by_cases hc : byt t (off + i) < 128
  · rw [decide_eq_true (show ((byt t (off + i) : Nat) : Int) < 128 by omega)]
    by_cases hz : byt t (off + i) = 0 ∧ 0 < i
    · rw [decide_eq_true (show ((byt t (off + i) : Nat) : Int) = 0 by omega), decide_eq_true (show (0 : Int) < (i : Int) by omega)]
      exact ⟨fun _ => ⟨fun _ => ⟨fun _ => h1 (.inl ⟨hc, hz.1, hz.2⟩), fun h => by simp at h⟩, fun h => by simp at h⟩, fun h => by simp at h⟩
    · have g : (bif true then bif decide (((byt t (off + i) : Nat) : Int) = 0) then decide ((0 : Int) < (i : Int)) else false else false) = false := by
        by_cases h0 : byt t (off + i) = 0
        · rw [decide_eq_true (show ((byt t (off + i) : Nat) : Int) = 0 by omega), decide_eq_false (show ¬ (0 : Int) < (i : Int) by omega)]; rfl
        · rw [decide_eq_false (show ¬ ((byt t (off + i) : Nat) : Int) = 0 by omega)]; rfl
      rw [g]
      by_cases h8 : i = 8 ∧ 4611686018427387904 < vAt t off (i + 1)
      · rw [decide_eq_true (show (i : Int) = 8 by omega), decide_eq_true (show (4611686018427387904 : Int) < ((vAt t off (i + 1) : Nat) : Int) by omega)]
        exact ⟨fun h => by simp at h, fun _ => ⟨fun _ => ⟨fun _ => h1 (.inr ⟨h8.1, .inr h8.2⟩), fun h => by simp at h⟩, fun h => by simp at h⟩⟩
      · have g2 : (bif decide ((i : Int) = 8) then bif !true then true else decide ((4611686018427387904 : Int) < ((vAt t off (i + 1) : Nat) : Int)) else false) = false := by
          by_cases h0 : i = 8
          · rw [decide_eq_true (show (i : Int) = 8 by omega), decide_eq_false (show ¬ (4611686018427387904 : Int) < ((vAt t off (i + 1) : Nat) : Int) by omega)]; rfl
          · rw [decide_eq_false (show ¬ (i : Int) = 8 by omega)]; rfl
        rw [g2]
        refine ⟨fun h => by simp at h, fun _ => ⟨fun h => by simp at h, fun _ => ⟨fun _ => ⟨by simp, h2 hc (fun hp h0 => hz ⟨h0, hp⟩) (fun h0 => by omega)⟩, fun h => by simp at h⟩⟩⟩
  · rw [decide_eq_false (show ¬ ((byt t (off + i) : Nat) : Int) < 128 by omega)]
    by_cases h8 : i = 8
    · rw [decide_eq_true (show (i : Int) = 8 by omega)]
      exact ⟨fun h => by simp at h, fun _ => ⟨fun _ => ⟨fun _ => h1 (.inr ⟨h8, .inl (by omega)⟩), fun h => by simp at h⟩, fun h => by simp at h⟩⟩
    · rw [decide_eq_false (show ¬ (i : Int) = 8 by omega)]
      exact ⟨fun h => by simp at h, fun _ => ⟨fun h => by simp at h, fun _ => ⟨fun h => by simp at h, fun _ => h3 (by omega) (by omega)⟩⟩⟩
end Go.Eng.TA

/- wire: a reader, in one form: the place and the error. -/
namespace Go.Eng.TA
open Go Go.Eng Go.Eng.M Go.Eng.RD Go.Lib Go.Proofs
set_option linter.unusedSimpArgs false
set_option linter.unusedVariables false
theorem loopPg_ok {off len N k : Nat} {t : ByteArray} (h : IsGood t off len k) (hlen : len ≤ 1000000000000) : ∀ i, i ≤ k → LoopOK Tryd.prog Γm 2 75 loopP (LSpec.at [0, 19, 20, 21, 3, 2] [] (SP off len N t i) (OPg off len N t k)) := by
  obtain ⟨h1, h2, h3, h4⟩ := h
  refine loop_at (S := SP off len N t) (pre := fun i => i ≤ k) (O := fun _ => OPg off len N t k) (k := 0) (fun i => k - i) fun i hi => ⟨[kFail], Lno, false, noLoops (by kernel_rfl), ?_⟩
  refine stepP (by omega) (by omega) hlen fun c hc => ?_
  subst hc
  refine ⟨fun hb => ?_, fun hl _ _ => ?_, fun hl h8 => ?_⟩
  · exfalso
    rcases Nat.lt_or_ge i k with hik | hik
    · have := h3.hi i hik; omega
    · obtain rfl : i = k := Nat.le_antisymm hi hik
      rcases hb with ⟨_, b2, b3⟩ | ⟨b1, b2⟩
      · exact h3.nz b3 b2
      · have := h3.lo; omega
  · rcases Nat.lt_or_ge i k with hik | hik
    · have := h3.hi i hik; omega
    · obtain rfl : i = k := Nat.le_antisymm hi hik
      exact ⟨rfl, ⟨.any _, .any _, .any _, .any _, .any _, .refl _, trivial⟩, LeH.refl _⟩
  · rcases Nat.lt_or_ge i k with hik | hik
    · exact ⟨i + 1, LeL.refl _, LeH.refl _, hik, rfl, by show k - (i + 1) < k - i; omega⟩
    · obtain rfl : i = k := Nat.le_antisymm hi hik
      have := h3.lo; omega
theorem loopPb_ok {off len N k : Nat} {t : ByteArray} (h : IsBad t off len k) (hlen : len ≤ 1000000000000) : ∀ i, i ≤ k → LoopOK Tryd.prog Γm 2 75 loopP (LSpec.at [0, 19, 20, 21, 3, 2] [] (SP off len N t i) (OPb N t)) := by
  obtain ⟨h1, h2, h3, h4⟩ := h
  refine loop_at (S := SP off len N t) (pre := fun i => i ≤ k) (O := fun _ => OPb N t) (k := 0) (fun i => k - i) fun i hi => ⟨[kFail], Lno, false, noLoops (by kernel_rfl), ?_⟩
  refine stepP (by omega) (by omega) hlen fun c hc => ?_
  subst hc
  refine ⟨fun hb => ?_, fun hl hz hv => ?_, fun hl h8 => ?_⟩
  · exact ⟨rfl, ⟨.any _, .any _, .any _, .any _, .any _, .refl _, trivial⟩, LeH.refl _⟩
  · exfalso
    rcases Nat.lt_or_ge i k with hik | hik
    · have := h3 i hik; omega
    · obtain rfl : i = k := Nat.le_antisymm hi hik
      rcases h4 with ⟨_, b2, b3⟩ | ⟨b1, b2⟩
      · exact hz b3 b2
      · have := hv b1; omega
  · rcases Nat.lt_or_ge i k with hik | hik
    · exact ⟨i + 1, LeL.refl _, LeH.refl _, hik, rfl, by show k - (i + 1) < k - i; omega⟩
    · obtain rfl : i = k := Nat.le_antisymm hi hik
      exfalso
      rcases h4 with ⟨b1, _, _⟩ | ⟨b1, b2⟩
      · omega
      · omega
theorem loopPc_ok {off len N : Nat} {t : ByteArray} (h : IsCut t off len) : ∀ i, i ≤ len → LoopOK Tryd.prog Γm 2 75 loopP (LSpec.at [0, 19, 20, 21, 3, 2] [] (SP off len N t i) (OPc off len N t)) := by
  obtain ⟨h1, h2⟩ := h
  refine loop_at (S := SP off len N t) (pre := fun i => i ≤ len) (O := fun _ => OPc off len N t) (k := 0) (fun i => len - i) fun i hi => ⟨[kFail], Lno, false, noLoops (by kernel_rfl), ?_⟩
  rcases Nat.lt_or_ge i len with hil | hil
  · refine stepP (by omega) hil (by omega) fun c hc => ?_
    subst hc
    have hb := h2 i hil
    refine ⟨fun hb' => ?_, fun hl _ _ => ?_, fun hl h8 => ?_⟩
    · exfalso; rcases hb' with ⟨b1, _, _⟩ | ⟨b1, _⟩ <;> omega
    · exfalso; omega
    · exact ⟨i + 1, LeL.refl _, LeH.refl _, hil, rfl, by show len - (i + 1) < len - i; omega⟩
  · obtain rfl : i = len := Nat.le_antisymm hi hil
    show (roundE (P := Tryd.prog) (Γ := Γm) [kFail] Lno false 2 0 loopP [0, 19, 20, 21, 3, 2] [] 75 [.ptr 0 0, .hs 1 off i, .v (.int .i64 (i : Int)), .v (.int .i64 (i : Int)), .v (.int .u64 (vAt t off i : Int)), .any] [some (.row [.hs 1 off i, .v (.int .i64 0)]), some (.arr 1 N (bsF t))]).sat _
    rw [roundP, decide_eq_false (show ¬ (i : Int) < (i : Int) by omega)]
    exact ⟨fun h => by simp at h, fun _ => ⟨rfl, ⟨.refl _, .any _, .any _, .any _, .any _, .any _, trivial⟩, LeH.refl _⟩⟩
theorem runPg (off len N k : Nat) (t : ByteArray) : bodyE (P := Tryd.prog) (Γ := Γm) [kFail] (fun _ => LSpec.at [0, 19, 20, 21, 3, 2] [] (SP off len N t 0) (OPg off len N t k)) false 75 [.tmp 2] (bodyOf Tryd.f95) [.ptr 0 0] (rdB off len N t) =
  Tree.br false (Tree.leaf (Ans.mk (AV.v (Value.int IntKind.i64 (0 : Int))) [some (Blk.row [AV.hs (1 : Nat) off len, AV.v (Value.int IntKind.i64 (0 : Int))]), some (Blk.arr (1 : Nat) N fun j
    => [AV.v (Value.int IntKind.u8 (sbyte t j))])])) (Tree.chk (cl (LeL [AV.ptr (0 : Nat) (0 : Nat), AV.hs (1 : Nat) off len, AV.v (Value.int IntKind.i64 (↑len : Int)), AV.v (Value.int
    IntKind.i64 (0 : Int)), AV.v (Value.int IntKind.u64 (0 : Int)), AV.v (Value.int IntKind.i64 (0 : Int))] [AV.ptr (0 : Nat) (0 : Nat), AV.hs (1 : Nat) off len, AV.v (Value.int IntKind.i64
    (↑len : Int)), AV.v (Value.int IntKind.i64 (↑(0 : Nat) : Int)), AV.v (Value.int IntKind.u64 (↑(0 : Nat) : Int)), AV.any] ∧ LeH [some (Blk.row [AV.hs (1 : Nat) off len, AV.v (Value.int
    IntKind.i64 (0 : Int))]), some (Blk.arr (1 : Nat) N fun j => [AV.v (Value.int IntKind.u8 (sbyte t j))])] [some (Blk.row [AV.hs (1 : Nat) off len, AV.v (Value.int IntKind.i64 (0 :
    Int))]), some (Blk.arr (1 : Nat) N fun j => [AV.v (Value.int IntKind.u8 (sbyte t j))])])) (Tree.leaf (Ans.mk (AV.v (Value.int IntKind.i64 (↑(vAt t off (k + (1 : Nat))) : Int))) [some
    (Blk.row [AV.hs (1 : Nat) (off + (k + (1 : Nat))) (len - (k + (1 : Nat))), AV.v (Value.int IntKind.i64 (0 : Int))]), some (Blk.arr (1 : Nat) N fun j => [AV.v (Value.int IntKind.u8 (sbyte
    t j))])]))) := by kernel_rfl
theorem runPb (off len N : Nat) (t : ByteArray) : bodyE (P := Tryd.prog) (Γ := Γm) [kFail] (fun _ => LSpec.at [0, 19, 20, 21, 3, 2] [] (SP off len N t 0) (OPb N t)) false 75 [.tmp 2] (bodyOf Tryd.f95) [.ptr 0 0] (rdB off len N t) =
  Tree.br false (Tree.leaf (Ans.mk (AV.v (Value.int IntKind.i64 (0 : Int))) [some (Blk.row [AV.hs (1 : Nat) off len, AV.v (Value.int IntKind.i64 (0 : Int))]), some (Blk.arr (1 : Nat) N fun j
    => [AV.v (Value.int IntKind.u8 (sbyte t j))])])) (Tree.chk (cl (LeL [AV.ptr (0 : Nat) (0 : Nat), AV.hs (1 : Nat) off len, AV.v (Value.int IntKind.i64 (↑len : Int)), AV.v (Value.int
    IntKind.i64 (0 : Int)), AV.v (Value.int IntKind.u64 (0 : Int)), AV.v (Value.int IntKind.i64 (0 : Int))] [AV.ptr (0 : Nat) (0 : Nat), AV.hs (1 : Nat) off len, AV.v (Value.int IntKind.i64
    (↑len : Int)), AV.v (Value.int IntKind.i64 (↑(0 : Nat) : Int)), AV.v (Value.int IntKind.u64 (↑(0 : Nat) : Int)), AV.any] ∧ LeH [some (Blk.row [AV.hs (1 : Nat) off len, AV.v (Value.int
    IntKind.i64 (0 : Int))]), some (Blk.arr (1 : Nat) N fun j => [AV.v (Value.int IntKind.u8 (sbyte t j))])] [some (Blk.row [AV.hs (1 : Nat) off len, AV.v (Value.int IntKind.i64 (0 :
    Int))]), some (Blk.arr (1 : Nat) N fun j => [AV.v (Value.int IntKind.u8 (sbyte t j))])])) (Tree.leaf (Ans.mk (AV.v (Value.int IntKind.i64 (0 : Int))) [some (Blk.row [AV.v (Value.slice
    none (0 : Nat) (0 : Nat)), AV.v (Value.int IntKind.i64 (31 : Int))]), some (Blk.arr (1 : Nat) N fun j => [AV.v (Value.int IntKind.u8 (sbyte t j))])]))) := by kernel_rfl
theorem runPc (off len N : Nat) (t : ByteArray) : bodyE (P := Tryd.prog) (Γ := Γm) [kFail] (fun _ => LSpec.at [0, 19, 20, 21, 3, 2] [] (SP off len N t 0) (OPc off len N t)) false 75 [.tmp 2] (bodyOf Tryd.f95) [.ptr 0 0] (rdB off len N t) =
  Tree.br false (Tree.leaf (Ans.mk (AV.v (Value.int IntKind.i64 (0 : Int))) [some (Blk.row [AV.hs (1 : Nat) off len, AV.v (Value.int IntKind.i64 (0 : Int))]), some (Blk.arr (1 : Nat) N fun j
    => [AV.v (Value.int IntKind.u8 (sbyte t j))])])) (Tree.chk (cl (LeL [AV.ptr (0 : Nat) (0 : Nat), AV.hs (1 : Nat) off len, AV.v (Value.int IntKind.i64 (↑len : Int)), AV.v (Value.int
    IntKind.i64 (0 : Int)), AV.v (Value.int IntKind.u64 (0 : Int)), AV.v (Value.int IntKind.i64 (0 : Int))] [AV.ptr (0 : Nat) (0 : Nat), AV.hs (1 : Nat) off len, AV.v (Value.int IntKind.i64
    (↑len : Int)), AV.v (Value.int IntKind.i64 (↑(0 : Nat) : Int)), AV.v (Value.int IntKind.u64 (↑(0 : Nat) : Int)), AV.any] ∧ LeH [some (Blk.row [AV.hs (1 : Nat) off len, AV.v (Value.int
    IntKind.i64 (0 : Int))]), some (Blk.arr (1 : Nat) N fun j => [AV.v (Value.int IntKind.u8 (sbyte t j))])] [some (Blk.row [AV.hs (1 : Nat) off len, AV.v (Value.int IntKind.i64 (0 :
    Int))]), some (Blk.arr (1 : Nat) N fun j => [AV.v (Value.int IntKind.u8 (sbyte t j))])])) (Tree.br true (Tree.leaf (Ans.mk (AV.v (Value.int IntKind.i64 (0 : Int))) [some (Blk.row [AV.v
    (Value.slice none (0 : Nat) (0 : Nat)), AV.v (Value.int IntKind.i64 (30 : Int))]), some (Blk.arr (1 : Nat) N fun j => [AV.v (Value.int IntKind.u8 (sbyte t j))])])) (Tree.leaf (Ans.mk
    (AV.v (Value.int IntKind.i64 (0 : Int))) [some (Blk.row [AV.hs (1 : Nat) off len, AV.v (Value.int IntKind.i64 (0 : Int))]), some (Blk.arr (1 : Nat) N fun j => [AV.v (Value.int IntKind.u8
    (sbyte t j))])])))) := by kernel_rfl
theorem ansReadG {off len N k : Nat} {t : ByteArray} (h : IsGood t off len k) (hlen : len ≤ 1000000000000) : Answers Tryd.prog Γm 95 [.ptr 0 0] (rdB off len N t) (.v (.int .i64 (vAt t off (k + 1) : Int))) ((rdB (off + (k + 1)) (len - (k + 1)) N t).map some) [] :=
  answers (fn := Tryd.f95) (c := bodyOf Tryd.f95) (ntmps := 75) (results := [.tmp 2]) [kFail] (fun _ => LSpec.at [0, 19, 20, 21, 3, 2] [] (SP off len N t 0) (OPg off len N t k)) false Tryd.func95 (by kernel_rfl) (by kernel_rfl) (by kernel_rfl) (by kernel_rfl) (by simp) rfl (oneLoop (b := loopP) (by kernel_rfl) (loopPg_ok h hlen 0 (Nat.zero_le _)))
    (Meets.of (runPg off len N k t) ⟨fun h => by simp at h, fun _ => ⟨cl_iff.2 ⟨⟨.refl _, .refl _, .refl _, .refl _, .refl _, .any _, trivial⟩, LeH.refl _⟩, .refl _, LeH.refl _⟩⟩)
theorem ansReadB {off len N k : Nat} {t : ByteArray} (h : IsBad t off len k) (hlen : len ≤ 1000000000000) : Answers Tryd.prog Γm 95 [.ptr 0 0] (rdB off len N t) (.v (.int .i64 0)) (badB 31 N t) [] :=
  answers (fn := Tryd.f95) (c := bodyOf Tryd.f95) (ntmps := 75) (results := [.tmp 2]) [kFail] (fun _ => LSpec.at [0, 19, 20, 21, 3, 2] [] (SP off len N t 0) (OPb N t)) false Tryd.func95 (by kernel_rfl) (by kernel_rfl) (by kernel_rfl) (by kernel_rfl) (by simp) rfl (oneLoop (b := loopP) (by kernel_rfl) (loopPb_ok h hlen 0 (Nat.zero_le _)))
    (Meets.of (runPb off len N t) ⟨fun h => by simp at h, fun _ => ⟨cl_iff.2 ⟨⟨.refl _, .refl _, .refl _, .refl _, .refl _, .any _, trivial⟩, LeH.refl _⟩, .refl _, LeH.refl _⟩⟩)
theorem ansReadC {off len N : Nat} {t : ByteArray} (h : IsCut t off len) : Answers Tryd.prog Γm 95 [.ptr 0 0] (rdB off len N t) (.v (.int .i64 0)) (badB 30 N t) [] :=
  answers (fn := Tryd.f95) (c := bodyOf Tryd.f95) (ntmps := 75) (results := [.tmp 2]) [kFail] (fun _ => LSpec.at [0, 19, 20, 21, 3, 2] [] (SP off len N t 0) (OPc off len N t)) false Tryd.func95 (by kernel_rfl) (by kernel_rfl) (by kernel_rfl) (by kernel_rfl) (by simp) rfl (oneLoop (b := loopP) (by kernel_rfl) (loopPc_ok h 0 (Nat.zero_le _)))
    (Meets.of (runPc off len N t) ⟨fun h => by simp at h, fun _ => ⟨cl_iff.2 ⟨⟨.refl _, .refl _, .refl _, .refl _, .refl _, .any _, trivial⟩, LeH.refl _⟩, fun _ => ⟨.refl _, LeH.refl _⟩, fun h => by simp at h⟩⟩)

/-- a reader of a text: behind an error it stands at the end -/
def rdb (t : ByteArray) (off : Nat) (e : Int) : List Blk := [.row [.hs 1 off (t.size - off), .v (.int .i64 e)], .arr 1 t.size (bsF t)]
theorem runPe (t : ByteArray) (off : Nat) (e : Int) : bodyE (P := Tryd.prog) (Γ := Γm) [kFail] Lno false 75 [.tmp 2] (bodyOf Tryd.f95) [.ptr 0 0] (rdb t off e) =
  Tree.br (!decide (e = (0 : Int))) (Tree.leaf (Ans.mk (AV.v (Value.int IntKind.i64 (0 : Int))) [some (Blk.row [AV.hs (1 : Nat) off (ByteArray.size t - off), AV.v (Value.int IntKind.i64 e)]),
    some (Blk.arr (1 : Nat) (ByteArray.size t) fun j => [AV.v (Value.int IntKind.u8 (sbyte t j))])])) Tree.fail := by kernel_rfl
theorem rdb_end {t : ByteArray} {e : Int} : [some (Blk.row [.hs 1 t.size 0, .v (.int .i64 e)]), some (Blk.arr 1 t.size (bsF t))] = (rdb t t.size e).map some := by
  unfold rdb
  rw [Nat.sub_self]; rfl
theorem ansRn {t : ByteArray} {off : Nat} {e : Int} (hz : t.size ≤ 1000000000000) : Answers Tryd.prog Γm 95 [.ptr 0 0] (rdb t off e) (.v (.int .i64 (qN t off e))) ((rdb t (qO t off e) (qE t off e)).map some) [] := by
  by_cases he : e = 0
  · subst he
    rcases classify t off (t.size - off) with ⟨k, hk⟩ | hc | ⟨k, hk⟩
    · obtain ⟨h1, h2, h3⟩ := q_good hk
      rw [h1, h2, h3]
      have := ansReadG (N := t.size) hk (by omega)
      rw [Nat.sub_sub] at this
      exact this
    · obtain ⟨h1, h2, h3⟩ := q_cut hc
      rw [h1, h2, h3, ← rdb_end]
      exact Answers.boxOut (Hin := rdB off (t.size - off) t.size t) 0 0 0 1 0 0 off (t.size - off) rfl rfl rfl (by show 1 < 2; decide) rfl rfl rfl (ansReadC (N := t.size) hc)
    · obtain ⟨h1, h2, h3⟩ := q_no hk
      rw [h1, h2, h3, ← rdb_end]
      exact Answers.boxOut (Hin := rdB off (t.size - off) t.size t) 0 0 0 1 0 0 off (t.size - off) rfl rfl rfl (by show 1 < 2; decide) rfl rfl rfl (ansReadB (N := t.size) hk (by omega))
  · rw [qN_bad he, qO_bad he, qE_bad he]
    exact answers (fn := Tryd.f95) (c := bodyOf Tryd.f95) (ntmps := 75) (results := [.tmp 2]) [kFail] Lno false Tryd.func95 (by kernel_rfl) (by kernel_rfl) (by kernel_rfl) (by kernel_rfl) (by simp) rfl (fun _ _ _ => fail_ok)
      (Meets.of (runPe t off e) (by
        rw [decide_eq_false he]
        exact ⟨fun _ => ⟨.refl _, LeH.refl _⟩, fun h => by simp at h⟩))
def ofR : List AV → List Blk → Option (Nat × Int)
  | [.ptr 0 0], [.row [.hs 1 off _, .v (.int _ e)], .arr _ _ _] => some (off, e)
  | _, _ => none
def ofRI : List AV → List Blk → Option (Nat × Int × Int)
  | [.ptr 0 0, .v (.int _ n)], [.row [.hs 1 off _, .v (.int _ e)], .arr _ _ _] => some (off, e, n)
  | _, _ => none
noncomputable def kRn (t : ByteArray) (hz : t.size ≤ 1000000000000) : CT Tryd.prog Γm := CT.par 95 ofR (fun _ => True) (fun _ => [.ptr 0 0]) (fun | (off, e) => rdb t off e) (fun | (off, e) => .v (.int .i64 (qN t off e))) (fun | (off, e) => (rdb t (qO t off e) (qE t off e)).map some) (fun _ => [])
  (callFunc_enters Tryd.func95 (by kernel_rfl) (by kernel_rfl)) (fun | (off, e), _ => ansRn hz)
/-! ### an error is told -/
def fO (n off : Nat) (e x : Int) : Nat := if e = 0 ∧ ¬ x = 0 then n else off
def fE (e x : Int) : Int := if e = 0 ∧ ¬ x = 0 then x else e
theorem runFl (t : ByteArray) (off : Nat) (e x : Int) : bodyE (P := Tryd.prog) (Γ := Γm) [] Lno false 24 [] (bodyOf Tryd.f96) [.ptr 0 0, .v (.int .i64 x)] (rdb t off e) =
  Tree.br (bif decide (e = (0 : Int)) then !decide (x = (0 : Int)) else false) (Tree.leaf (Ans.mk (AV.tup []) [some (Blk.row [AV.v (Value.slice none (0 : Nat) (0 : Nat)), AV.v (Value.int
    IntKind.i64 x)]), some (Blk.arr (1 : Nat) (ByteArray.size t) fun j => [AV.v (Value.int IntKind.u8 (sbyte t j))])])) (Tree.leaf (Ans.mk (AV.tup []) [some (Blk.row [AV.hs (1 : Nat) off
    (ByteArray.size t - off), AV.v (Value.int IntKind.i64 e)]), some (Blk.arr (1 : Nat) (ByteArray.size t) fun j => [AV.v (Value.int IntKind.u8 (sbyte t j))])])) := by kernel_rfl
theorem ansFl {t : ByteArray} {off : Nat} {e x : Int} : Answers Tryd.prog Γm 96 [.ptr 0 0, .v (.int .i64 x)] (rdb t off e) (.tup []) ((rdb t (fO t.size off e x) (fE e x)).map some) [] := by
  by_cases h : e = 0 ∧ ¬ x = 0
  · have e1 : fO t.size off e x = t.size := if_pos h
    have e2 : fE e x = x := if_pos h
    rw [e1, e2, ← rdb_end]
    refine Answers.boxOut (Hin := rdb t off e) 0 0 0 1 0 0 off (t.size - off) rfl rfl rfl (by show 1 < 2; decide) rfl rfl rfl (v := .tup []) (H1 := badB x t.size t) (new := []) ?_
    refine answers (fn := Tryd.f96) (c := bodyOf Tryd.f96) (ntmps := 24) (results := []) [] (Lno) false Tryd.func96 (by kernel_rfl) (by kernel_rfl) (by kernel_rfl) (by kernel_rfl) (by simp) rfl (failOK fun _ _ _ => rfl) <| Meets.of (runFl t off e x) <| ?_
    rw [decide_eq_true h.1, decide_eq_false h.2]
    exact ⟨fun _ => ⟨.refl _, LeH.refl _⟩, fun h => by simp at h⟩
  · have e1 : fO t.size off e x = off := if_neg h
    have e2 : fE e x = e := if_neg h
    rw [e1, e2]
    refine answers (fn := Tryd.f96) (c := bodyOf Tryd.f96) (ntmps := 24) (results := []) [] (Lno) false Tryd.func96 (by kernel_rfl) (by kernel_rfl) (by kernel_rfl) (by kernel_rfl) (by simp) rfl (failOK fun _ _ _ => rfl) <| Meets.of (runFl t off e x) <| ?_
    have hc : (bif decide (e = (0 : Int)) then !decide (x = (0 : Int)) else false) = false := by
      by_cases h1 : e = 0
      · have h2 : x = 0 := by
          by_cases h2 : x = 0
          · exact h2
          · exact absurd ⟨h1, h2⟩ h
        rw [decide_eq_true h1, decide_eq_true h2]; rfl
      · rw [decide_eq_false h1]; rfl
    rw [hc]
    exact ⟨fun h => by simp at h, fun _ => ⟨.refl _, LeH.refl _⟩⟩
noncomputable def kFl (t : ByteArray) : CT Tryd.prog Γm := CT.par 96 ofRI (fun _ => True) (fun | (off, e, x) => [.ptr 0 0, .v (.int .i64 x)]) (fun | (off, e, x) => rdb t off e) (fun _ => .tup []) (fun | (off, e, x) => (rdb t (fO t.size off e x) (fE e x)).map some) (fun _ => [])
  (callFunc_enters Tryd.func96 (by kernel_rfl) (by kernel_rfl)) (fun | (off, e, x), _ => ansFl)
/-! ### how much is left, what went wrong -/
theorem runRs (t : ByteArray) (off : Nat) (e : Int) : bodyE (P := Tryd.prog) (Γ := Γm) [] Lno false 10 [.tmp 2] (bodyOf Tryd.f43) [.ptr 0 0] (rdb t off e) =
  Tree.leaf (Ans.mk (AV.v (Value.int IntKind.i64 (↑(ByteArray.size t - off) : Int))) [some (Blk.row [AV.hs (1 : Nat) off (ByteArray.size t - off), AV.v (Value.int IntKind.i64 e)]), some
    (Blk.arr (1 : Nat) (ByteArray.size t) fun j => [AV.v (Value.int IntKind.u8 (sbyte t j))])]) := by kernel_rfl
theorem ansRs {t : ByteArray} {off : Nat} {e : Int} : Answers Tryd.prog Γm 43 [.ptr 0 0] (rdb t off e) (.v (.int .i64 ((t.size - off : Nat) : Int))) ((rdb t off e).map some) [] := by
  refine answers (fn := Tryd.f43) (c := bodyOf Tryd.f43) (ntmps := 10) (results := [.tmp 2]) [] (Lno) false Tryd.func43 (by kernel_rfl) (by kernel_rfl) (by kernel_rfl) (by kernel_rfl) (by simp) rfl (failOK fun _ _ _ => rfl) <| Meets.of (runRs t off e) <| ?_
  repeat' (first | refine wC (by first | omega | (simp only [W1, cond_true, cond_false]; first | done | omega)) ?_ | refine wT (by first | omega | (simp only [W1, cond_true, cond_false]; first | done | omega)) ?_ | refine wF (by intro _h; first | omega | (simp only [W1, cond_true, cond_false] at _h; first | done | omega)) ?_ | (refine wS ?_ ?_ <;> intro _h <;> simp only [W1, cond_true, cond_false] at _h))
  all_goals simp only [W1, W2, owesN, owesX, owesR, cond_true, cond_false]
  repeat' (first | apply And.intro | intro _hc)
  all_goals first | exact AV.le_refl _ | exact AV.le_any _ | exact OLe.refl _ | exact OLe.none _ | exact LeH.refl _ | exact LeL.refl _ | exact AV.le.bs _ | exact AV.le.sb _ | omega | contradiction
noncomputable def kRs (t : ByteArray) : CT Tryd.prog Γm := CT.par 43 ofR (fun _ => True) (fun _ => [.ptr 0 0]) (fun | (off, e) => rdb t off e) (fun | (off, e) => .v (.int .i64 ((t.size - off : Nat) : Int))) (fun | (off, e) => (rdb t off e).map some) (fun _ => [])
  (callFunc_enters Tryd.func43 (by kernel_rfl) (by kernel_rfl)) (fun | (off, e), _ => ansRs)
def dE (t : ByteArray) (off : Nat) (e : Int) : Int := if e = 0 ∧ off < t.size then 32 else e
theorem runDn (t : ByteArray) (off : Nat) (e : Int) : bodyE (P := Tryd.prog) (Γ := Γm) [] Lno false 24 [.tmp 2] (bodyOf Tryd.f41) [.ptr 0 0] (rdb t off e) =
  Tree.br (bif decide (e = (0 : Int)) then decide ((0 : Int) < (↑(ByteArray.size t - off) : Int)) else false) (Tree.leaf (Ans.mk (AV.v (Value.int IntKind.i64 (32 : Int))) [some (Blk.row [AV.hs
    (1 : Nat) off (ByteArray.size t - off), AV.v (Value.int IntKind.i64 e)]), some (Blk.arr (1 : Nat) (ByteArray.size t) fun j => [AV.v (Value.int IntKind.u8 (sbyte t j))])])) (Tree.leaf
    (Ans.mk (AV.v (Value.int IntKind.i64 e)) [some (Blk.row [AV.hs (1 : Nat) off (ByteArray.size t - off), AV.v (Value.int IntKind.i64 e)]), some (Blk.arr (1 : Nat) (ByteArray.size t) fun j
    => [AV.v (Value.int IntKind.u8 (sbyte t j))])])) := by kernel_rfl
theorem ansDn {t : ByteArray} {off : Nat} {e : Int} : Answers Tryd.prog Γm 41 [.ptr 0 0] (rdb t off e) (.v (.int .i64 (dE t off e))) ((rdb t off e).map some) [] := by
  refine answers (fn := Tryd.f41) (c := bodyOf Tryd.f41) (ntmps := 24) (results := [.tmp 2]) [] (Lno) false Tryd.func41 (by kernel_rfl) (by kernel_rfl) (by kernel_rfl) (by kernel_rfl) (by simp) rfl (failOK fun _ _ _ => rfl) <| Meets.of (runDn t off e) <| ?_
  by_cases h : e = 0 ∧ off < t.size
  · have e1 : dE t off e = 32 := if_pos h
    obtain ⟨h1, h2⟩ := h
    rw [e1]
    repeat' (first | refine wC (by first | omega | (simp only [W1, cond_true, cond_false, h1]; first | done | omega)) ?_ | refine wT (by first | omega | (simp only [W1, cond_true, cond_false, h1]; first | done | omega)) ?_ | refine wF (by intro _h; first | omega | (simp only [W1, cond_true, cond_false, h1] at _h; first | done | omega)) ?_ | (refine wS ?_ ?_ <;> intro _h <;> simp only [W1, cond_true, cond_false, h1] at _h))
    all_goals simp only [W1, W2, owesN, owesX, owesR, cond_true, cond_false, h1]
    repeat' (first | apply And.intro | intro _hc)
    all_goals first | exact AV.le_refl _ | exact AV.le_any _ | exact OLe.refl _ | exact OLe.none _ | exact LeH.refl _ | exact LeL.refl _ | exact AV.le.bs _ | exact AV.le.sb _ | omega | contradiction
  · have e1 : dE t off e = e := if_neg h
    rw [e1]
    repeat' (first | refine wC (by first | omega | (simp only [W1, cond_true, cond_false]; first | done | omega)) ?_ | refine wT (by first | omega | (simp only [W1, cond_true, cond_false]; first | done | omega)) ?_ | refine wF (by intro _h; first | omega | (simp only [W1, cond_true, cond_false] at _h; first | done | omega)) ?_ | (refine wS ?_ ?_ <;> intro _h <;> simp only [W1, cond_true, cond_false] at _h))
    all_goals simp only [W1, W2, owesN, owesX, owesR, cond_true, cond_false]
    repeat' (first | apply And.intro | intro _hc)
    all_goals first | exact AV.le_refl _ | exact AV.le_any _ | exact OLe.refl _ | exact OLe.none _ | exact LeH.refl _ | exact LeL.refl _ | exact AV.le.bs _ | exact AV.le.sb _ | omega | contradiction
noncomputable def kDn (t : ByteArray) : CT Tryd.prog Γm := CT.par 41 ofR (fun _ => True) (fun _ => [.ptr 0 0]) (fun | (off, e) => rdb t off e) (fun | (off, e) => .v (.int .i64 (dE t off e))) (fun | (off, e) => (rdb t off e).map some) (fun _ => [])
  (callFunc_enters Tryd.func41 (by kernel_rfl) (by kernel_rfl)) (fun | (off, e), _ => ansDn)
end Go.Eng.TA

/- wire: copies of bytes, and the bytes of a number: what the program answers. -/
namespace Go.Eng.TA
open Go Go.Eng Go.Eng.M Go.Lib Go.Proofs
set_option linter.unusedSimpArgs false
set_option linter.unusedVariables false
/-- bytes as an argument: nil, of the caller's own, or only read -/
inductive BA where
  | nil
  | sl (t : ByteArray)
  | hs (t : ByteArray)
def BA.t : BA → ByteArray
  | .nil => ⟨#[]⟩
  | .sl t => t
  | .hs t => t
def BA.av : BA → AV
  | .nil => .v (.slice none 0 0)
  | .sl t => .sl 1 t.size (bsF t)
  | .hs t => .hs 0 0 t.size
def BA.bl : BA → List Blk
  | .hs t => [.arr 1 t.size (bsF t)]
  | _ => []
def BA.n : BA → Nat
  | .hs _ => 1
  | _ => 0
def small (t : ByteArray) : Prop := t.size ≤ 1000000000
theorem runCn  : bodyE (P := Tryd.prog) (Γ := Γm) [] Lno false 8 [.tmp 2] (bodyOf Tryd.f94) [.v (.slice none 0 0)] [] =
  Tree.leaf (Ans.mk (AV.v (Value.slice none (0 : Nat) (0 : Nat))) []) := by kernel_rfl
theorem runCs (t : ByteArray) : bodyE (P := Tryd.prog) (Γ := Γm) [] Lno false 8 [.tmp 2] (bodyOf Tryd.f94) [.sl 1 t.size (bsF t)] [] =
  Tree.chk (Nat.blt (0 : Nat) (ByteArray.size t) || mkd [AV.v (Value.int IntKind.u8 (sbyte t (ByteArray.size t)))]) (Tree.chk (roomOk (1 : Nat) ((0 : Nat) + ByteArray.size t)) (Tree.leaf
    (Ans.mk (AV.hs (0 : Nat) (0 : Nat) ((0 : Nat) + ByteArray.size t)) [some (Blk.arr (1 : Nat) ((0 : Nat) + ByteArray.size t) fun j => mixL (decide (j < (0 : Nat))) (chain [AV.v (Value.int
    IntKind.u8 (0 : Int))] (0 : Nat) [] ((0 : Nat) + j)) [AV.v (Value.int IntKind.u8 (sbyte t j))])]))) := by kernel_rfl
theorem runCh (t : ByteArray) : bodyE (P := Tryd.prog) (Γ := Γm) [] Lno false 8 [.tmp 2] (bodyOf Tryd.f94) [.hs 0 0 t.size] [.arr 1 t.size (bsF t)] =
  Tree.chk (Nat.blt (0 : Nat) (ByteArray.size t) || Nat.blt (0 : Nat) (ByteArray.size t)) (Tree.chk (roomOk (1 : Nat) ((0 : Nat) + ByteArray.size t)) (Tree.leaf (Ans.mk (AV.hs (1 : Nat) (0 :
    Nat) ((0 : Nat) + ByteArray.size t)) [some (Blk.arr (1 : Nat) (ByteArray.size t) fun j => [AV.v (Value.int IntKind.u8 (sbyte t j))]), some (Blk.arr (1 : Nat) ((0 : Nat) + ByteArray.size
    t) fun j => mixL (decide (j < (0 : Nat))) (chain [AV.v (Value.int IntKind.u8 (0 : Int))] (0 : Nat) [] ((0 : Nat) + j)) [AV.v (Value.int IntKind.u8 (sbyte t ((0 : Nat) + j)))])]))) := by kernel_rfl
def BA.ok : BA → Prop
  | .nil => True
  | .sl t => small t ∧ 0 < t.size
  | .hs t => small t ∧ 0 < t.size
theorem room {n : Nat} (h : n ≤ 2000000000) : roomOk 1 (0 + n) = true := by
  unfold roomOk
  exact decide_eq_true (by omega)
theorem room' {n : Nat} (h : n ≤ 2000000000) : roomOk 1 n = true := by
  unfold roomOk
  exact decide_eq_true (by omega)
theorem cut0 (t : ByteArray) (j : Nat) : (bif decide (j < (0 : Nat)) then (0 : Int) else sbyte t (j - (0 : Nat))) = sbyte t j := by
  rw [decide_eq_false (Nat.not_lt_zero _)]; rfl
theorem cut1 (t : ByteArray) (j : Nat) : (bif decide (j < (0 : Nat)) then (0 : Int) else sbyte t ((0 : Nat) + (j - (0 : Nat)))) = sbyte t j := by
  rw [decide_eq_false (Nat.not_lt_zero _), Nat.zero_add]; rfl
def cloneV : BA → AV
  | .nil => nilSlice
  | .sl t => .hs 0 0 t.size
  | .hs t => .hs 1 0 t.size
def cloneN : BA → List Blk
  | .nil => []
  | .sl t => [.arr 1 t.size (bsF t)]
  | .hs t => [.arr 1 t.size (bsF t)]
theorem cutU (t : ByteArray) : (fun j => mixL (decide (j < 0)) (chain [AV.v (Value.int IntKind.u8 0)] 0 [] j) [AV.v (Value.int IntKind.u8 (sbyte t j))]) = bsF t := by
  funext j
  show mixL _ [AV.v (Value.int IntKind.u8 0)] _ = _
  rw [mixU, decide_eq_false (Nat.not_lt_zero j)]
  rfl
theorem cutO (t : ByteArray) : OLe (some (.arr 1 t.size fun j => mixL (decide (j < 0)) (chain [AV.v (Value.int IntKind.u8 0)] 0 [] j) [AV.v (Value.int IntKind.u8 (sbyte t j))])) (some (.arr 1 t.size (bsF t))) := by
  rw [cutU]; exact OLe.refl _
theorem ansClone (x : BA) (hp : x.ok) : Answers Tryd.prog Γm 94 [x.av] x.bl (cloneV x) (x.bl.map some) (cloneN x) := by
  cases x with
  | nil =>
    refine answers (fn := Tryd.f94) (c := bodyOf Tryd.f94) (ntmps := 8) (results := [.tmp 2]) [] (Lno) false Tryd.func94 (by kernel_rfl) (by kernel_rfl) (by kernel_rfl) (by kernel_rfl) (by simp) rfl (failOK fun _ _ _ => rfl) <| Meets.of (runCn) <| ?_
    repeat' (first | refine wC (by first | omega | (simp only [W1, cond_true, cond_false]; first | done | omega)) ?_ | refine wT (by first | omega | (simp only [W1, cond_true, cond_false]; first | done | omega)) ?_ | refine wF (by intro _h; first | omega | (simp only [W1, cond_true, cond_false] at _h; first | done | omega)) ?_ | (refine wS ?_ ?_ <;> intro _h <;> simp only [W1, cond_true, cond_false] at _h))
    all_goals simp only [W1, W2, owesN, owesX, owesR, cond_true, cond_false]
    repeat' (first | apply And.intro | intro _hc)
    all_goals first | exact AV.le_refl _ | exact AV.le_any _ | exact OLe.refl _ | exact OLe.none _ | exact LeH.refl _ | exact LeL.refl _ | exact AV.le.bs _ | exact AV.le.sb _ | omega | contradiction
  | sl t =>
    refine answers (fn := Tryd.f94) (c := bodyOf Tryd.f94) (ntmps := 8) (results := [.tmp 2]) [] (Lno) false Tryd.func94 (by kernel_rfl) (by kernel_rfl) (by kernel_rfl) (by kernel_rfl) (by simp) rfl (failOK fun _ _ _ => rfl) <| Meets.of (runCs t) <| ?_
    have h1 : Nat.blt 0 t.size = true := by rw [Nat.blt_eq]; exact hp.2
    have h2 : t.size ≤ 1000000000 := hp.1
    have hO := cutO t
    simp only [Nat.zero_add, h1, Bool.true_or]
    repeat' (first | refine wC (by first | omega | (simp only [W1, cond_true, cond_false]; first | done | omega)) ?_ | refine wT (by first | omega | (simp only [W1, cond_true, cond_false]; first | done | omega)) ?_ | refine wF (by intro _h; first | omega | (simp only [W1, cond_true, cond_false] at _h; first | done | omega)) ?_ | (refine wS ?_ ?_ <;> intro _h <;> simp only [W1, cond_true, cond_false] at _h))
    all_goals simp only [W1, W2, owesN, owesX, owesR, cond_true, cond_false]
    repeat' (first | apply And.intro | intro _hc)
    all_goals first | exact room' (by omega) | exact hO | exact ⟨hO, trivial⟩ | exact AV.le_refl _ | exact AV.le_any _ | exact OLe.refl _ | exact OLe.none _ | exact LeH.refl _ | exact LeL.refl _ | exact AV.le.bs _ | exact AV.le.sb _ | omega | contradiction
  | hs t =>
    refine answers (fn := Tryd.f94) (c := bodyOf Tryd.f94) (ntmps := 8) (results := [.tmp 2]) [] (Lno) false Tryd.func94 (by kernel_rfl) (by kernel_rfl) (by kernel_rfl) (by kernel_rfl) (by simp) rfl (failOK fun _ _ _ => rfl) <| Meets.of (runCh t) <| ?_
    have h1 : Nat.blt 0 t.size = true := by rw [Nat.blt_eq]; exact hp.2
    have h2 : t.size ≤ 1000000000 := hp.1
    have hO := cutO t
    simp only [Nat.zero_add, h1, Bool.true_or]
    repeat' (first | refine wC (by first | omega | (simp only [W1, cond_true, cond_false]; first | done | omega)) ?_ | refine wT (by first | omega | (simp only [W1, cond_true, cond_false]; first | done | omega)) ?_ | refine wF (by intro _h; first | omega | (simp only [W1, cond_true, cond_false] at _h; first | done | omega)) ?_ | (refine wS ?_ ?_ <;> intro _h <;> simp only [W1, cond_true, cond_false] at _h))
    all_goals simp only [W1, W2, owesN, owesX, owesR, cond_true, cond_false]
    repeat' (first | apply And.intro | intro _hc)
    all_goals first | exact room' (by omega) | exact hO | exact ⟨OLe.refl _, hO, trivial⟩ | exact AV.le_refl _ | exact AV.le_any _ | exact OLe.refl _ | exact OLe.none _ | exact LeH.refl _ | exact LeL.refl _ | exact AV.le.bs _ | exact AV.le.sb _ | omega | contradiction
/-! ### a number's bytes: the loop -/
noncomputable def loopN : Code := loopOf (bodyOf Tryd.f83) 0
theorem roundN0 (n : Nat) (t : ByteArray) : roundE (P := Tryd.prog) (Γ := Γm) [] Lno false 0 0 loopN [1, 6] [(1, 5)] 30 [.v (.int .i64 (n : Int)), .hs 0 0 t.size] [some (.arr 1 t.size (bsF t))] =
  Tree.br (decide ((128 : Int) ≤ (↑n : Int))) (Tree.chk (roomOk (1 : Nat) (ByteArray.size t + (1 : Nat))) (Tree.chk true (Tree.leaf (Out.mk AEx.normal [AV.v (Value.int IntKind.i64 (Int.fdiv
    (↑n : Int) ((2 : Int) ^ min (Int.toNat (7 : Int)) (64 : Nat)))), AV.hs (0 : Nat) (0 : Nat) (ByteArray.size t + (1 : Nat))] [some (Blk.arr (1 : Nat) (ByteArray.size t + (1 : Nat)) fun j
    => mixL (decide (j < ByteArray.size t)) [AV.v (Value.int IntKind.u8 (sbyte t ((0 : Nat) + j)))] (chain [AV.v (Value.int IntKind.u8 (0 : Int))] (0 : Nat) [[AV.v (Value.int IntKind.u8
    (bitI BinOp.or IntKind.u8 (IntKind.wrap IntKind.u8 (↑n : Int)) (128 : Int)))]] ((0 : Nat) + (j - ByteArray.size t))))])))) (Tree.leaf (Out.mk (AEx.exit (0 : Nat)) [AV.v (Value.int
    IntKind.i64 (↑n : Int)), AV.hs (0 : Nat) (0 : Nat) (ByteArray.size t)] [some (Blk.arr (1 : Nat) (ByteArray.size t) fun j => [AV.v (Value.int IntKind.u8 (sbyte t j))])])) := by kernel_rfl
theorem roundN1 (n : Nat) (t b : ByteArray) : roundE (P := Tryd.prog) (Γ := Γm) [] Lno false 1 0 loopN [1, 6] [(1, 5)] 30 [.v (.int .i64 (n : Int)), .hs 1 0 t.size] [some (.arr 1 b.size (bsF b)), some (.arr 1 t.size (bsF t))] =
  Tree.br (decide ((128 : Int) ≤ (↑n : Int))) (Tree.chk (roomOk (1 : Nat) (ByteArray.size t + (1 : Nat))) (Tree.chk true (Tree.leaf (Out.mk AEx.normal [AV.v (Value.int IntKind.i64 (Int.fdiv
    (↑n : Int) ((2 : Int) ^ min (Int.toNat (7 : Int)) (64 : Nat)))), AV.hs (1 : Nat) (0 : Nat) (ByteArray.size t + (1 : Nat))] [some (Blk.arr (1 : Nat) (ByteArray.size b) fun j => [AV.v
    (Value.int IntKind.u8 (sbyte b j))]), some (Blk.arr (1 : Nat) (ByteArray.size t + (1 : Nat)) fun j => mixL (decide (j < ByteArray.size t)) [AV.v (Value.int IntKind.u8 (sbyte t ((0 : Nat)
    + j)))] (chain [AV.v (Value.int IntKind.u8 (0 : Int))] (0 : Nat) [[AV.v (Value.int IntKind.u8 (bitI BinOp.or IntKind.u8 (IntKind.wrap IntKind.u8 (↑n : Int)) (128 : Int)))]] ((0 : Nat) +
    (j - ByteArray.size t))))])))) (Tree.leaf (Out.mk (AEx.exit (0 : Nat)) [AV.v (Value.int IntKind.i64 (↑n : Int)), AV.hs (1 : Nat) (0 : Nat) (ByteArray.size t)] [some (Blk.arr (1 : Nat)
    (ByteArray.size b) fun j => [AV.v (Value.int IntKind.u8 (sbyte b j))]), some (Blk.arr (1 : Nat) (ByteArray.size t) fun j => [AV.v (Value.int IntKind.u8 (sbyte t j))])])) := by kernel_rfl
def SN (a : BA) (n : Nat) (t : ByteArray) : List AV × Heap := ([.v (.int .i64 (n : Int)), .hs a.n 0 t.size], a.bl.map some ++ [some (.arr 1 t.size (bsF t))])
def preN (x : Nat × ByteArray) : Prop := x.1 ≤ 4611686018427387904 ∧ x.2.size + (hiB x.1).size ≤ 1000000100
def ON (a : BA) (n : Nat) (t : ByteArray) : Out := ⟨.exit 0, [.v (.int .i64 (loN n : Int)), .hs a.n 0 (t ++ hiB n).size], a.bl.map some ++ [some (.arr 1 (t ++ hiB n).size (bsF (t ++ hiB n)))]⟩
theorem stepN {n : Nat} {t : ByteArray} (hp : preN (n, t)) (h : 128 ≤ n) : ((n : Int).fdiv ((2 : Int) ^ min (Int.toNat (7 : Int)) (64 : Nat))) = ((n / 128 : Nat) : Int) ∧ (t ++ oneB (n % 128 + 128)).size = t.size + 1 ∧ t.size + 1 ≤ 1000000100 ∧
    preN (n / 128, t ++ oneB (n % 128 + 128)) ∧ (t ++ oneB (n % 128 + 128)) ++ hiB (n / 128) = t ++ hiB n ∧
    ∀ j, j < t.size + 1 → (bif decide (j < t.size) then sbyte t ((0 : Nat) + j) else bif ((0 : Nat) + (j - t.size)).beq (0 : Nat) then bitI BinOp.or IntKind.u8 (IntKind.u8.wrap (n : Int)) (128 : Int) else (0 : Int)) = sbyte (t ++ oneB (n % 128 + 128)) j := by
  have hge : ¬ n < 128 := by omega
  have e1 := hiB_ge hge
  have hp1 := hp.1
  have hp2 := hp.2
  simp only [e1, ByteArray.size_append, oneB_size] at hp2
  refine ⟨?_, by simp, by omega, ⟨?_, ?_⟩, ?_, fun j hj => ?_⟩
  · show (n : Int).fdiv 128 = _
    rw [Int.fdiv_eq_ediv_of_nonneg _ (by decide)]
    omega
  · show n / 128 ≤ _
    have : n / 128 ≤ n := Nat.div_le_self _ _
    simp only at hp1
    omega
  · simp only [ByteArray.size_append, oneB_size]; omega
  · rw [e1, ByteArray.append_assoc]
  · have hv : bitI BinOp.or IntKind.u8 (IntKind.u8.wrap (n : Int)) (128 : Int) = ((n % 128 + 128 : Nat) : Int) := by
      rw [wrapU8, or128 _ (by omega) (by omega)]
      omega
    rw [hv, push_eq (by omega) (by omega) hj, Int.toNat_natCast]
theorem loopN_ok (a : BA) : ∀ x : Nat × ByteArray, preN x → LoopOK Tryd.prog Γm a.bl.length 30 loopN (LSpec.at [1, 6] [(1, 5)] (SN a x.1 x.2) (ON a x.1 x.2)) := by
  refine loop_at (S := fun x : Nat × ByteArray => SN a x.1 x.2) (O := fun x => ON a x.1 x.2) (k := 0) (fun x => x.1) fun x hp => ⟨[], Lno, false, noLoops (by kernel_rfl), ?_⟩
  obtain ⟨n, t⟩ := x
  have fin : ¬ 128 ≤ n → hiB n = ⟨#[]⟩ ∧ loN n = n := fun h => ⟨hiB_lt (by omega), loN_lt (by omega)⟩
  have hd : (128 : Int) ≤ (n : Int) ↔ 128 ≤ n := by omega
  cases a with
  | hs b =>
    show (roundE (P := Tryd.prog) (Γ := Γm) [] Lno false 1 0 loopN [1, 6] [(1, 5)] 30 [.v (.int .i64 (n : Int)), .hs 1 0 t.size] [some (.arr 1 b.size (bsF b)), some (.arr 1 t.size (bsF t))]).sat _
    rw [roundN1]
    refine ⟨fun hc => ?_, fun hc => ?_⟩
    · have h := hd.1 (of_decide_eq_true hc)
      obtain ⟨s1, s2, s3, s4, s5, s6⟩ := stepN hp h
      refine ⟨room' (by omega), rfl, (n / 128, t ++ oneB (n % 128 + 128)), ?_, ?_, s4, ?_, ?_⟩
      · rw [s1]; exact ⟨.refl _, .of_eq (by rw [s2]; rfl), trivial⟩
      · exact ⟨.refl _, .arr s2.symm (fun j hj => by show mixL _ _ (mixL _ _ [AV.v (Value.int IntKind.u8 0)]) = _; rw [mixU, mixU, s6 j hj]; rfl) (fun _ => rfl), trivial⟩
      · simp only [ON]; rw [show loN (n / 128) = loN n from (loN_ge (by omega)).symm, s5]
      · show n / 128 < n; omega
    · have h := mt hd.2 (of_decide_eq_false hc)
      obtain ⟨f1, f2⟩ := fin h
      refine ⟨rfl, ?_, ?_⟩
      · simp only [ON, f1, f2, append_empty]; exact LeL.refl _
      · simp only [ON, f1, append_empty]; exact LeH.refl _
  | nil =>
    show (roundE (P := Tryd.prog) (Γ := Γm) [] Lno false 0 0 loopN [1, 6] [(1, 5)] 30 [.v (.int .i64 (n : Int)), .hs 0 0 t.size] [some (.arr 1 t.size (bsF t))]).sat _
    rw [roundN0]
    refine ⟨fun hc => ?_, fun hc => ?_⟩
    · have h := hd.1 (of_decide_eq_true hc)
      obtain ⟨s1, s2, s3, s4, s5, s6⟩ := stepN hp h
      refine ⟨room' (by omega), rfl, (n / 128, t ++ oneB (n % 128 + 128)), ?_, ?_, s4, ?_, ?_⟩
      · rw [s1]; exact ⟨.refl _, .of_eq (by rw [s2]; rfl), trivial⟩
      · exact ⟨.arr s2.symm (fun j hj => by show mixL _ _ (mixL _ _ [AV.v (Value.int IntKind.u8 0)]) = _; rw [mixU, mixU, s6 j hj]; rfl) (fun _ => rfl), trivial⟩
      · simp only [ON]; rw [show loN (n / 128) = loN n from (loN_ge (by omega)).symm, s5]
      · show n / 128 < n; omega
    · have h := mt hd.2 (of_decide_eq_false hc)
      obtain ⟨f1, f2⟩ := fin h
      refine ⟨rfl, ?_, ?_⟩
      · simp only [ON, f1, f2, append_empty]; exact LeL.refl _
      · simp only [ON, f1, append_empty]; exact LeH.refl _
  | sl b =>
    show (roundE (P := Tryd.prog) (Γ := Γm) [] Lno false 0 0 loopN [1, 6] [(1, 5)] 30 [.v (.int .i64 (n : Int)), .hs 0 0 t.size] [some (.arr 1 t.size (bsF t))]).sat _
    rw [roundN0]
    refine ⟨fun hc => ?_, fun hc => ?_⟩
    · have h := hd.1 (of_decide_eq_true hc)
      obtain ⟨s1, s2, s3, s4, s5, s6⟩ := stepN hp h
      refine ⟨room' (by omega), rfl, (n / 128, t ++ oneB (n % 128 + 128)), ?_, ?_, s4, ?_, ?_⟩
      · rw [s1]; exact ⟨.refl _, .of_eq (by rw [s2]; rfl), trivial⟩
      · exact ⟨.arr s2.symm (fun j hj => by show mixL _ _ (mixL _ _ [AV.v (Value.int IntKind.u8 0)]) = _; rw [mixU, mixU, s6 j hj]; rfl) (fun _ => rfl), trivial⟩
      · simp only [ON]; rw [show loN (n / 128) = loN n from (loN_ge (by omega)).symm, s5]
      · show n / 128 < n; omega
    · have h := mt hd.2 (of_decide_eq_false hc)
      obtain ⟨f1, f2⟩ := fin h
      refine ⟨rfl, ?_, ?_⟩
      · simp only [ON, f1, f2, append_empty]; exact LeL.refl _
      · simp only [ON, f1, append_empty]; exact LeH.refl _
noncomputable def LN (a : BA) (n : Nat) (t : ByteArray) : Nat → LSpec := fun _ => LSpec.at [1, 6] [(1, 5)] (SN a n t) (ON a n t)
theorem runNn (n : Nat) (h : BA.nil.ok) : bodyE (P := Tryd.prog) (Γ := Γm) [CT.at 94 (ansClone .nil h)] (LN .nil n ⟨#[]⟩) false 30 [.tmp 4, .tmp 5] (bodyOf Tryd.f83) [.v (.slice none 0 0), .v (.int .i64 (n : Int))] [] =
  Tree.br (bif decide ((↑n : Int) < (0 : Int)) then true else decide ((4611686018427387904 : Int) < (↑n : Int))) (Tree.leaf (Ans.mk (AV.tup [AV.v (Value.slice none (0 : Nat) (0 : Nat)), AV.v
    (Value.int IntKind.i64 (10 : Int))]) [])) (Tree.chk (cl (LeL [AV.v (Value.slice none (0 : Nat) (0 : Nat))] [AV.v (Value.slice none (0 : Nat) (0 : Nat))] ∧ LeH [] [])) (Tree.chk (cl (LeL
    [AV.v (Value.int IntKind.i64 (↑n : Int)), AV.hs (0 : Nat) (0 : Nat) (0 : Nat)] [AV.v (Value.int IntKind.i64 (↑n : Int)), AV.hs (0 : Nat) (0 : Nat) (0 : Nat)] ∧ LeH [some (Blk.arr (1 :
    Nat) (0 : Nat) fun x => [AV.v (Value.int IntKind.u8 (0 : Int))])] [some (Blk.arr (1 : Nat) (0 : Nat) fun j => [AV.v (Value.int IntKind.u8 (sbyte (ByteArray.mk #[]) j))])])) (Tree.chk
    (roomOk (1 : Nat) (ByteArray.size (ByteArray.mk #[] ++ hiB n) + (1 : Nat))) (Tree.leaf (Ans.mk (AV.tup [AV.hs (0 : Nat) (0 : Nat) (ByteArray.size (ByteArray.mk #[] ++ hiB n) + (1 :
    Nat)), AV.v (Value.int IntKind.i64 (0 : Int))]) [some (Blk.arr (1 : Nat) (ByteArray.size (ByteArray.mk #[] ++ hiB n) + (1 : Nat)) fun j => mixL (decide (j < ByteArray.size (ByteArray.mk
    #[] ++ hiB n))) [AV.v (Value.int IntKind.u8 (sbyte (ByteArray.mk #[] ++ hiB n) ((0 : Nat) + j)))] (chain [AV.v (Value.int IntKind.u8 (0 : Int))] (0 : Nat) [[AV.v (Value.int IntKind.u8
    (IntKind.wrap IntKind.u8 (↑(loN n) : Int)))]] ((0 : Nat) + (j - ByteArray.size (ByteArray.mk #[] ++ hiB n)))))]))))) := by kernel_rfl
theorem runNs (t : ByteArray) (n : Nat) (h : (BA.sl t).ok) : bodyE (P := Tryd.prog) (Γ := Γm) [CT.at 94 (ansClone (.sl t) h)] (LN (.sl t) n t) false 30 [.tmp 4, .tmp 5] (bodyOf Tryd.f83) [.sl 1 t.size (bsF t), .v (.int .i64 (n : Int))] [] =
  Tree.br (bif decide ((↑n : Int) < (0 : Int)) then true else decide ((4611686018427387904 : Int) < (↑n : Int))) (Tree.leaf (Ans.mk (AV.tup [AV.v (Value.slice none (0 : Nat) (0 : Nat)), AV.v
    (Value.int IntKind.i64 (10 : Int))]) [])) (Tree.chk (cl (LeL [AV.sl (1 : Nat) (ByteArray.size t) fun j => [AV.v (Value.int IntKind.u8 (sbyte t j))]] [AV.sl (1 : Nat) (ByteArray.size t)
    fun j => [AV.v (Value.int IntKind.u8 (sbyte t j))]] ∧ LeH [] [])) (Tree.chk (cl (LeL [AV.v (Value.int IntKind.i64 (↑n : Int)), AV.hs (0 : Nat) (0 : Nat) (ByteArray.size t)] [AV.v
    (Value.int IntKind.i64 (↑n : Int)), AV.hs (0 : Nat) (0 : Nat) (ByteArray.size t)] ∧ LeH [some (Blk.arr (1 : Nat) (ByteArray.size t) fun j => [AV.v (Value.int IntKind.u8 (sbyte t j))])]
    [some (Blk.arr (1 : Nat) (ByteArray.size t) fun j => [AV.v (Value.int IntKind.u8 (sbyte t j))])])) (Tree.chk (roomOk (1 : Nat) (ByteArray.size (t ++ hiB n) + (1 : Nat))) (Tree.leaf
    (Ans.mk (AV.tup [AV.hs (0 : Nat) (0 : Nat) (ByteArray.size (t ++ hiB n) + (1 : Nat)), AV.v (Value.int IntKind.i64 (0 : Int))]) [some (Blk.arr (1 : Nat) (ByteArray.size (t ++ hiB n) + (1
    : Nat)) fun j => mixL (decide (j < ByteArray.size (t ++ hiB n))) [AV.v (Value.int IntKind.u8 (sbyte (t ++ hiB n) ((0 : Nat) + j)))] (chain [AV.v (Value.int IntKind.u8 (0 : Int))] (0 :
    Nat) [[AV.v (Value.int IntKind.u8 (IntKind.wrap IntKind.u8 (↑(loN n) : Int)))]] ((0 : Nat) + (j - ByteArray.size (t ++ hiB n)))))]))))) := by kernel_rfl
theorem runNh (t : ByteArray) (n : Nat) (h : (BA.hs t).ok) : bodyE (P := Tryd.prog) (Γ := Γm) [CT.at 94 (ansClone (.hs t) h)] (LN (.hs t) n t) false 30 [.tmp 4, .tmp 5] (bodyOf Tryd.f83) [.hs 0 0 t.size, .v (.int .i64 (n : Int))] [.arr 1 t.size (bsF t)] =
  Tree.br (bif decide ((↑n : Int) < (0 : Int)) then true else decide ((4611686018427387904 : Int) < (↑n : Int))) (Tree.leaf (Ans.mk (AV.tup [AV.v (Value.slice none (0 : Nat) (0 : Nat)), AV.v
    (Value.int IntKind.i64 (10 : Int))]) [some (Blk.arr (1 : Nat) (ByteArray.size t) fun j => [AV.v (Value.int IntKind.u8 (sbyte t j))])])) (Tree.chk (cl (LeL [AV.hs (0 : Nat) (0 : Nat)
    (ByteArray.size t)] [AV.hs (0 : Nat) (0 : Nat) (ByteArray.size t)] ∧ LeH [some (Blk.arr (1 : Nat) (ByteArray.size t) fun j => [AV.v (Value.int IntKind.u8 (sbyte t j))])] [some (Blk.arr
    (1 : Nat) (ByteArray.size t) fun j => [AV.v (Value.int IntKind.u8 (sbyte t j))])])) (Tree.chk (cl (LeL [AV.v (Value.int IntKind.i64 (↑n : Int)), AV.hs (1 : Nat) (0 : Nat) (ByteArray.size
    t)] [AV.v (Value.int IntKind.i64 (↑n : Int)), AV.hs (1 : Nat) (0 : Nat) (ByteArray.size t)] ∧ LeH [some (Blk.arr (1 : Nat) (ByteArray.size t) fun j => [AV.v (Value.int IntKind.u8 (sbyte
    t j))]), some (Blk.arr (1 : Nat) (ByteArray.size t) fun j => [AV.v (Value.int IntKind.u8 (sbyte t j))])] [some (Blk.arr (1 : Nat) (ByteArray.size t) fun j => [AV.v (Value.int IntKind.u8
    (sbyte t j))]), some (Blk.arr (1 : Nat) (ByteArray.size t) fun j => [AV.v (Value.int IntKind.u8 (sbyte t j))])])) (Tree.chk (roomOk (1 : Nat) (ByteArray.size (t ++ hiB n) + (1 : Nat)))
    (Tree.leaf (Ans.mk (AV.tup [AV.hs (1 : Nat) (0 : Nat) (ByteArray.size (t ++ hiB n) + (1 : Nat)), AV.v (Value.int IntKind.i64 (0 : Int))]) [some (Blk.arr (1 : Nat) (ByteArray.size t) fun
    j => [AV.v (Value.int IntKind.u8 (sbyte t j))]), some (Blk.arr (1 : Nat) (ByteArray.size (t ++ hiB n) + (1 : Nat)) fun j => mixL (decide (j < ByteArray.size (t ++ hiB n))) [AV.v
    (Value.int IntKind.u8 (sbyte (t ++ hiB n) ((0 : Nat) + j)))] (chain [AV.v (Value.int IntKind.u8 (0 : Int))] (0 : Nat) [[AV.v (Value.int IntKind.u8 (IntKind.wrap IntKind.u8 (↑(loN n) :
    Int)))]] ((0 : Nat) + (j - ByteArray.size (t ++ hiB n)))))]))))) := by kernel_rfl
theorem runXn (n : Int) (h : BA.nil.ok) : bodyE (P := Tryd.prog) (Γ := Γm) [CT.at 94 (ansClone .nil h)] Lno false 30 [.tmp 4, .tmp 5] (bodyOf Tryd.f83) [.v (.slice none 0 0), .v (.int .i64 n)] [] =
  Tree.br (bif decide (n < (0 : Int)) then true else decide ((4611686018427387904 : Int) < n)) (Tree.leaf (Ans.mk (AV.tup [AV.v (Value.slice none (0 : Nat) (0 : Nat)), AV.v (Value.int
    IntKind.i64 (10 : Int))]) [])) (Tree.chk (cl (LeL [AV.v (Value.slice none (0 : Nat) (0 : Nat))] [AV.v (Value.slice none (0 : Nat) (0 : Nat))] ∧ LeH [] [])) Tree.fail) := by kernel_rfl
theorem runXs (t : ByteArray) (n : Int) (h : (BA.sl t).ok) : bodyE (P := Tryd.prog) (Γ := Γm) [CT.at 94 (ansClone (.sl t) h)] Lno false 30 [.tmp 4, .tmp 5] (bodyOf Tryd.f83) [.sl 1 t.size (bsF t), .v (.int .i64 n)] [] =
  Tree.br (bif decide (n < (0 : Int)) then true else decide ((4611686018427387904 : Int) < n)) (Tree.leaf (Ans.mk (AV.tup [AV.v (Value.slice none (0 : Nat) (0 : Nat)), AV.v (Value.int
    IntKind.i64 (10 : Int))]) [])) (Tree.chk (cl (LeL [AV.sl (1 : Nat) (ByteArray.size t) fun j => [AV.v (Value.int IntKind.u8 (sbyte t j))]] [AV.sl (1 : Nat) (ByteArray.size t) fun j =>
    [AV.v (Value.int IntKind.u8 (sbyte t j))]] ∧ LeH [] [])) Tree.fail) := by kernel_rfl
theorem runXh (t : ByteArray) (n : Int) (h : (BA.hs t).ok) : bodyE (P := Tryd.prog) (Γ := Γm) [CT.at 94 (ansClone (.hs t) h)] Lno false 30 [.tmp 4, .tmp 5] (bodyOf Tryd.f83) [.hs 0 0 t.size, .v (.int .i64 n)] [.arr 1 t.size (bsF t)] =
  Tree.br (bif decide (n < (0 : Int)) then true else decide ((4611686018427387904 : Int) < n)) (Tree.leaf (Ans.mk (AV.tup [AV.v (Value.slice none (0 : Nat) (0 : Nat)), AV.v (Value.int
    IntKind.i64 (10 : Int))]) [some (Blk.arr (1 : Nat) (ByteArray.size t) fun j => [AV.v (Value.int IntKind.u8 (sbyte t j))])])) (Tree.chk (cl (LeL [AV.hs (0 : Nat) (0 : Nat) (ByteArray.size
    t)] [AV.hs (0 : Nat) (0 : Nat) (ByteArray.size t)] ∧ LeH [some (Blk.arr (1 : Nat) (ByteArray.size t) fun j => [AV.v (Value.int IntKind.u8 (sbyte t j))])] [some (Blk.arr (1 : Nat)
    (ByteArray.size t) fun j => [AV.v (Value.int IntKind.u8 (sbyte t j))])])) Tree.fail) := by kernel_rfl
theorem BA.ok_small : ∀ {a : BA}, a.ok → small a.t
  | .nil, _ => by unfold small BA.t; decide
  | .sl _, h => h.1
  | .hs _, h => h.1
theorem numTail (t : ByteArray) (n : Nat) : (t ++ hiB n).size + 1 = (t ++ numB n).size ∧ ∀ j, j < (t ++ hiB n).size + 1 →
    (bif decide (j < (t ++ hiB n).size) then sbyte (t ++ hiB n) ((0 : Nat) + j) else bif ((0 : Nat) + (j - (t ++ hiB n).size)).beq (0 : Nat) then IntKind.u8.wrap (loN n : Int) else (0 : Int)) = sbyte (t ++ numB n) j := by
  have hl := loN_small n
  refine ⟨by simp [numB]; omega, fun j hj => ?_⟩
  have e : IntKind.u8.wrap (loN n : Int) = ((loN n : Nat) : Int) := by rw [wrapU8]; omega
  rw [e, push_eq (by omega) (by omega) hj, Int.toNat_natCast, numB, ByteArray.append_assoc]
theorem pre_of {t : ByteArray} {n : Nat} (h : small t) (hn : n ≤ 4611686018427387904) : preN (n, t) := by
  have := numB_size hn
  unfold numB at this
  simp only [ByteArray.size_append, oneB_size] at this
  unfold small at h
  refine ⟨hn, ?_⟩
  show t.size + (hiB n).size ≤ _
  omega
theorem notBad {n : Nat} (hn : n ≤ 4611686018427387904) : (bif decide ((n : Int) < (0 : Int)) then true else decide ((4611686018427387904 : Int) < (n : Int))) = false := by
  rw [decide_eq_false (by omega), decide_eq_false (by omega)]; rfl
theorem isBad {n : Int} (hn : n < 0 ∨ 4611686018427387904 < n) : (bif decide (n < (0 : Int)) then true else decide ((4611686018427387904 : Int) < n)) = true := by
  by_cases h : n < 0
  · rw [decide_eq_true h]; rfl
  · rw [decide_eq_false h, decide_eq_true (by omega)]; rfl
theorem roomN {t : ByteArray} {n : Nat} (h : small t) (hn : n ≤ 4611686018427387904) : roomOk 1 ((t ++ hiB n).size + 1) = true := by
  have := (pre_of h hn).2
  simp only at this
  exact room' (by simp only [ByteArray.size_append]; omega)
theorem ansNum : ∀ (a : BA) (n : Nat), a.ok → n ≤ 4611686018427387904 → Answers Tryd.prog Γm 83 [a.av, .v (.int .i64 (n : Int))] a.bl (.tup [.hs a.n 0 (a.t ++ numB n).size, .v (.int .i64 0)]) (a.bl.map some) [.arr 1 (a.t ++ numB n).size (bsF (a.t ++ numB n))]
  | .nil, n, h, hn => answers (fn := Tryd.f83) (c := bodyOf Tryd.f83) (ntmps := 30) (results := [.tmp 4, .tmp 5]) [CT.at 94 (ansClone .nil h)] (LN .nil n ⟨#[]⟩) false Tryd.func83 (by kernel_rfl) (by kernel_rfl) (by kernel_rfl) (by kernel_rfl) (by simp) rfl
    (oneLoop (b := loopN) (by kernel_rfl) (loopN_ok .nil (n, ⟨#[]⟩) (pre_of (BA.ok_small h) hn)))
    (Meets.of (runNn n h) ⟨fun hc => by rw [notBad hn] at hc; simp at hc, fun _ => ⟨cl_iff.2 ⟨LeL.refl _, trivial⟩, cl_iff.2 ⟨LeL.refl _, .arr rfl (fun j hj => absurd hj (Nat.not_lt_zero _)) (fun _ => rfl), trivial⟩, roomN (BA.ok_small h) hn, by
      obtain ⟨e1, e2⟩ := numTail ⟨#[]⟩ n
      exact ⟨.of_eq (by rw [e1]; rfl), .arr e1 (fun j hj => by show mixL _ _ (mixL _ _ [AV.v (Value.int IntKind.u8 0)]) = _; rw [mixU, mixU, e2 j hj]; rfl) (fun _ => rfl), trivial⟩⟩⟩)
  | .sl t, n, h, hn => answers (fn := Tryd.f83) (c := bodyOf Tryd.f83) (ntmps := 30) (results := [.tmp 4, .tmp 5]) [CT.at 94 (ansClone (.sl t) h)] (LN (.sl t) n t) false Tryd.func83 (by kernel_rfl) (by kernel_rfl) (by kernel_rfl) (by kernel_rfl) (by simp) rfl
    (oneLoop (b := loopN) (by kernel_rfl) (loopN_ok (.sl t) (n, t) (pre_of (BA.ok_small h) hn)))
    (Meets.of (runNs t n h) ⟨fun hc => by rw [notBad hn] at hc; simp at hc, fun _ => ⟨cl_iff.2 ⟨LeL.refl _, LeH.refl _⟩, cl_iff.2 ⟨LeL.refl _, LeH.refl _⟩, roomN (BA.ok_small h) hn, by
      obtain ⟨e1, e2⟩ := numTail t n
      exact ⟨.of_eq (by rw [e1]; rfl), .arr e1 (fun j hj => by show mixL _ _ (mixL _ _ [AV.v (Value.int IntKind.u8 0)]) = _; rw [mixU, mixU, e2 j hj]; rfl) (fun _ => rfl), trivial⟩⟩⟩)
  | .hs t, n, h, hn => answers (fn := Tryd.f83) (c := bodyOf Tryd.f83) (ntmps := 30) (results := [.tmp 4, .tmp 5]) [CT.at 94 (ansClone (.hs t) h)] (LN (.hs t) n t) false Tryd.func83 (by kernel_rfl) (by kernel_rfl) (by kernel_rfl) (by kernel_rfl) (by simp) rfl
    (oneLoop (b := loopN) (by kernel_rfl) (loopN_ok (.hs t) (n, t) (pre_of (BA.ok_small h) hn)))
    (Meets.of (runNh t n h) ⟨fun hc => by rw [notBad hn] at hc; simp at hc, fun _ => ⟨cl_iff.2 ⟨LeL.refl _, LeH.refl _⟩, cl_iff.2 ⟨LeL.refl _, LeH.refl _⟩, roomN (BA.ok_small h) hn, by
      obtain ⟨e1, e2⟩ := numTail t n
      exact ⟨.of_eq (by rw [e1]; rfl), .refl _, .arr e1 (fun j hj => by show mixL _ _ (mixL _ _ [AV.v (Value.int IntKind.u8 0)]) = _; rw [mixU, mixU, e2 j hj]; rfl) (fun _ => rfl), trivial⟩⟩⟩)
theorem ansBad : ∀ (a : BA) (n : Int), a.ok → n < 0 ∨ 4611686018427387904 < n → Answers Tryd.prog Γm 83 [a.av, .v (.int .i64 n)] a.bl (.tup [.v (.slice none 0 0), .v (.int .i64 10)]) (a.bl.map some) []
  | .nil, n, h, hn => answers (fn := Tryd.f83) (c := bodyOf Tryd.f83) (ntmps := 30) (results := [.tmp 4, .tmp 5]) [CT.at 94 (ansClone .nil h)] Lno false Tryd.func83 (by kernel_rfl) (by kernel_rfl) (by kernel_rfl) (by kernel_rfl) (by simp) rfl
    (fun _ _ _ => fail_ok) (Meets.of (runXn n h) ⟨fun _ => ⟨.refl _, trivial⟩, fun hc => by rw [isBad hn] at hc; simp at hc⟩)
  | .sl t, n, h, hn => answers (fn := Tryd.f83) (c := bodyOf Tryd.f83) (ntmps := 30) (results := [.tmp 4, .tmp 5]) [CT.at 94 (ansClone (.sl t) h)] Lno false Tryd.func83 (by kernel_rfl) (by kernel_rfl) (by kernel_rfl) (by kernel_rfl) (by simp) rfl
    (fun _ _ _ => fail_ok) (Meets.of (runXs t n h) ⟨fun _ => ⟨.refl _, trivial⟩, fun hc => by rw [isBad hn] at hc; simp at hc⟩)
  | .hs t, n, h, hn => answers (fn := Tryd.f83) (c := bodyOf Tryd.f83) (ntmps := 30) (results := [.tmp 4, .tmp 5]) [CT.at 94 (ansClone (.hs t) h)] Lno false Tryd.func83 (by kernel_rfl) (by kernel_rfl) (by kernel_rfl) (by kernel_rfl) (by simp) rfl
    (fun _ _ _ => fail_ok) (Meets.of (runXh t n h) ⟨fun _ => ⟨.refl _, .refl _, trivial⟩, fun hc => by rw [isBad hn] at hc; simp at hc⟩)
end Go.Eng.TA

/- wire: a reader's numbers with a bound, and its texts. -/
namespace Go.Eng.TA
open Go Go.Eng Go.Eng.M Go.Eng.RD Go.Lib Go.Proofs
set_option linter.unusedSimpArgs false
set_option linter.unusedVariables false
/-! ### a number with a bound -/
noncomputable def mN (t : ByteArray) (off : Nat) (e m : Int) : Int := if m < qN t off e then 0 else qN t off e
noncomputable def mO (t : ByteArray) (off : Nat) (e m : Int) : Nat := if m < qN t off e then fO t.size (qO t off e) (qE t off e) 33 else qO t off e
noncomputable def mE (t : ByteArray) (off : Nat) (e m : Int) : Int := if m < qN t off e then fE (qE t off e) 33 else qE t off e
theorem runMo (t : ByteArray) (hz : t.size ≤ 1000000000000) (off : Nat) (e m : Int) : bodyE (P := Tryd.prog) (Γ := Γm) [kRn t hz, kFl t] Lno false 14 [.tmp 4] (bodyOf Tryd.f115) [.ptr 0 0, .v (.int .i64 m)] (rdb t off e) =
  Tree.chk (cl (True ∧ LeL [AV.ptr (0 : Nat) (0 : Nat)] [AV.ptr (0 : Nat) (0 : Nat)] ∧ LeH [some (Blk.row [AV.hs (1 : Nat) off (ByteArray.size t - off), AV.v (Value.int IntKind.i64 e)]), some
    (Blk.arr (1 : Nat) (ByteArray.size t) fun j => [AV.v (Value.int IntKind.u8 (sbyte t j))])] [some (Blk.row [AV.hs (1 : Nat) off (ByteArray.size t - off), AV.v (Value.int IntKind.i64 e)]),
    some (Blk.arr (1 : Nat) (ByteArray.size t) fun j => [AV.v (Value.int IntKind.u8 (sbyte t j))])])) (Tree.br (decide (m < qN t off e)) (Tree.chk (cl (True ∧ LeL [AV.ptr (0 : Nat) (0 :
    Nat), AV.v (Value.int IntKind.i64 (33 : Int))] [AV.ptr (0 : Nat) (0 : Nat), AV.v (Value.int IntKind.i64 (33 : Int))] ∧ LeH [some (Blk.row [AV.hs (1 : Nat) (qO t off e) (ByteArray.size t
    - qO t off e), AV.v (Value.int IntKind.i64 (qE t off e))]), some (Blk.arr (1 : Nat) (ByteArray.size t) fun j => [AV.v (Value.int IntKind.u8 (sbyte t j))])] [some (Blk.row [AV.hs (1 :
    Nat) (qO t off e) (ByteArray.size t - qO t off e), AV.v (Value.int IntKind.i64 (qE t off e))]), some (Blk.arr (1 : Nat) (ByteArray.size t) fun j => [AV.v (Value.int IntKind.u8 (sbyte t
    j))])])) (Tree.leaf (Ans.mk (AV.v (Value.int IntKind.i64 (0 : Int))) [some (Blk.row [AV.hs (1 : Nat) (fO (ByteArray.size t) (qO t off e) (qE t off e) (33 : Int)) (ByteArray.size t - fO
    (ByteArray.size t) (qO t off e) (qE t off e) (33 : Int)), AV.v (Value.int IntKind.i64 (fE (qE t off e) (33 : Int)))]), some (Blk.arr (1 : Nat) (ByteArray.size t) fun j => [AV.v
    (Value.int IntKind.u8 (sbyte t j))])]))) (Tree.leaf (Ans.mk (AV.v (Value.int IntKind.i64 (qN t off e))) [some (Blk.row [AV.hs (1 : Nat) (qO t off e) (ByteArray.size t - qO t off e), AV.v
    (Value.int IntKind.i64 (qE t off e))]), some (Blk.arr (1 : Nat) (ByteArray.size t) fun j => [AV.v (Value.int IntKind.u8 (sbyte t j))])]))) := by kernel_rfl
theorem ansMo {t : ByteArray} (hz : t.size ≤ 1000000000000) {off : Nat} {e m : Int} : Answers Tryd.prog Γm 115 [.ptr 0 0, .v (.int .i64 m)] (rdb t off e) (.v (.int .i64 (mN t off e m))) ((rdb t (mO t off e m) (mE t off e m)).map some) [] := by
  refine answers (fn := Tryd.f115) (c := bodyOf Tryd.f115) (ntmps := 14) (results := [.tmp 4]) [kRn t hz, kFl t] (Lno) false Tryd.func115 (by kernel_rfl) (by kernel_rfl) (by kernel_rfl) (by kernel_rfl) (by simp) rfl (failOK fun _ _ _ => rfl) <| Meets.of (runMo t hz off e m) <| ?_
  by_cases h : m < qN t off e
  · have e1 : mN t off e m = 0 := if_pos h
    have e2 : mO t off e m = fO t.size (qO t off e) (qE t off e) 33 := if_pos h
    have e3 : mE t off e m = fE (qE t off e) 33 := if_pos h
    rw [e1, e2, e3]
    repeat' (first | refine wC (by first | omega | (simp only [W1, cond_true, cond_false]; first | done | omega)) ?_ | refine wT (by first | omega | (simp only [W1, cond_true, cond_false]; first | done | omega)) ?_ | refine wF (by intro _h; first | omega | (simp only [W1, cond_true, cond_false] at _h; first | done | omega)) ?_ | (refine wS ?_ ?_ <;> intro _h <;> simp only [W1, cond_true, cond_false] at _h))
    all_goals simp only [W1, W2, owesN, owesX, owesR, cond_true, cond_false]
    repeat' (first | apply And.intro | intro _hc)
    all_goals first | exact AV.le_refl _ | exact AV.le_any _ | exact OLe.refl _ | exact OLe.none _ | exact LeH.refl _ | exact LeL.refl _ | exact AV.le.bs _ | exact AV.le.sb _ | omega | contradiction
  · have e1 : mN t off e m = qN t off e := if_neg h
    have e2 : mO t off e m = qO t off e := if_neg h
    have e3 : mE t off e m = qE t off e := if_neg h
    rw [e1, e2, e3]
    repeat' (first | refine wC (by first | omega | (simp only [W1, cond_true, cond_false]; first | done | omega)) ?_ | refine wT (by first | omega | (simp only [W1, cond_true, cond_false]; first | done | omega)) ?_ | refine wF (by intro _h; first | omega | (simp only [W1, cond_true, cond_false] at _h; first | done | omega)) ?_ | (refine wS ?_ ?_ <;> intro _h <;> simp only [W1, cond_true, cond_false] at _h))
    all_goals simp only [W1, W2, owesN, owesX, owesR, cond_true, cond_false]
    repeat' (first | apply And.intro | intro _hc)
    all_goals first | exact AV.le_refl _ | exact AV.le_any _ | exact OLe.refl _ | exact OLe.none _ | exact LeH.refl _ | exact LeL.refl _ | exact AV.le.bs _ | exact AV.le.sb _ | omega | contradiction
noncomputable def kMo (t : ByteArray) (hz : t.size ≤ 1000000000000) : CT Tryd.prog Γm := CT.par 115 ofRI (fun _ => True) (fun | (off, e, m) => [.ptr 0 0, .v (.int .i64 m)]) (fun | (off, e, m) => rdb t off e) (fun | (off, e, m) => .v (.int .i64 (mN t off e m))) (fun | (off, e, m) => (rdb t (mO t off e m) (mE t off e m)).map some) (fun _ => [])
  (callFunc_enters Tryd.func115 (by kernel_rfl) (by kernel_rfl)) (fun | (off, e, m), _ => ansMo hz)
theorem fO_ok {t : ByteArray} {off : Nat} {e x : Int} (h : okS t off e) (hx : ¬ x = 0) : okS t (fO t.size off e x) (fE e x) := by
  unfold fO fE
  by_cases he : e = 0 ∧ ¬ x = 0
  · rw [if_pos he, if_pos he]; exact ⟨Nat.le_refl _, .inr rfl⟩
  · rw [if_neg he, if_neg he]; exact h
theorem m_ok {t : ByteArray} {off : Nat} {e m : Int} (h : okS t off e) : okS t (mO t off e m) (mE t off e m) := by
  unfold mO mE
  by_cases hm : m < qN t off e
  · rw [if_pos hm, if_pos hm]; exact fO_ok (q_okS h) (by decide)
  · rw [if_neg hm, if_neg hm]; exact q_okS h
theorem m_range {t : ByteArray} {off : Nat} {e m : Int} (hm : 0 ≤ m) : 0 ≤ mN t off e m ∧ mN t off e m ≤ m := by
  have := qN_range (t := t) (off := off) (e := e)
  unfold mN
  by_cases hm : m < qN t off e
  · rw [if_pos hm]; omega
  · rw [if_neg hm]; omega
/-! ### a text -/
/-- how long a text that stands there says it is -/
noncomputable def lT (t : ByteArray) (off : Nat) (e : Int) : Nat := (mN t off e 65536).toNat
noncomputable def oT (t : ByteArray) (off : Nat) (e : Int) : Nat := mO t off e 65536
noncomputable def eT (t : ByteArray) (off : Nat) (e : Int) : Int := mE t off e 65536
noncomputable def xS (t : ByteArray) (off : Nat) (e : Int) : ByteArray := if t.size - oT t off e < lT t off e then ⟨#[]⟩ else t.extract (oT t off e) (oT t off e + lT t off e)
noncomputable def xO (t : ByteArray) (off : Nat) (e : Int) : Nat := if t.size - oT t off e < lT t off e then fO t.size (oT t off e) (eT t off e) 30 else oT t off e + lT t off e
noncomputable def xE (t : ByteArray) (off : Nat) (e : Int) : Int := if t.size - oT t off e < lT t off e then fE (eT t off e) 30 else eT t off e
theorem x_ok {t : ByteArray} {off : Nat} {e : Int} (h : okS t off e) : okS t (xO t off e) (xE t off e) := by
  have hm : okS t (oT t off e) (eT t off e) := m_ok h
  unfold xO xE
  by_cases hl : t.size - oT t off e < lT t off e
  · rw [if_pos hl, if_pos hl]; exact fO_ok hm (by decide)
  · rw [if_neg hl, if_neg hl]
    refine ⟨by have := hm.1; omega, ?_⟩
    rcases hm.2 with h1 | h1
    · exact .inl h1
    · exact .inr (by omega)
theorem textOf_cong {n : Nat} {f g : Nat → List AV} (h : ∀ j, j < n → f j = g j) : textOf n f = textOf n g := by
  unfold textOf
  congr 2
  refine List.map_congr_left fun j hj => ?_
  rw [h j (by simpa using hj)]
theorem textOf_ext {t : ByteArray} {o n : Nat} (h : o + n ≤ t.size) : textOf n (fun j => [AV.v (Value.int IntKind.u8 (sbyte t (o + j)))]) = t.extract o (o + n) := by
  have hs : (t.extract o (o + n)).size = n := by rw [ext_size _ _ _ h]; omega
  rw [textOf_cong (g := bsF (t.extract o (o + n))) (fun j hj => by
    show [AV.v (Value.int IntKind.u8 ((bN t (o + j) : Nat) : Int))] = [AV.v (Value.int IntKind.u8 ((bN (t.extract o (o + n)) j : Nat) : Int))]
    rw [bN_extract _ _ _ _ h, if_pos (by omega)])]
  exact textOf_bs hs.symm
theorem allB_x {n : Nat} {f : Nat → Int} : (allBytes n fun j => [AV.v (Value.int IntKind.u8 (f j))]) = true := by
  unfold allBytes
  rw [List.all_eq_true]
  intro j _
  rfl
theorem runTxt (t : ByteArray) (n : Nat) (e : Int) (off : Nat) (e' : Int) (o : Nat) (h : Answers Tryd.prog Γm 115 [.ptr 0 0, .v (.int .i64 65536)] (rdb t off e') (.v (.int .i64 (n : Int))) ((rdb t o e).map some) []) : bodyE (P := Tryd.prog) (Γ := Γm) [CT.at 115 h, kRs t, kFl t] Lno false 32 [.tmp 2] (bodyOf Tryd.f97) [.ptr 0 0] (rdb t off e') =
  Tree.chk (cl (LeL [AV.ptr (0 : Nat) (0 : Nat), AV.v (Value.int IntKind.i64 (65536 : Int))] [AV.ptr (0 : Nat) (0 : Nat), AV.v (Value.int IntKind.i64 (65536 : Int))] ∧ LeH [some (Blk.row
    [AV.hs (1 : Nat) off (ByteArray.size t - off), AV.v (Value.int IntKind.i64 e')]), some (Blk.arr (1 : Nat) (ByteArray.size t) fun j => [AV.v (Value.int IntKind.u8 (sbyte t j))])] [some
    (Blk.row [AV.hs (1 : Nat) off (ByteArray.size t - off), AV.v (Value.int IntKind.i64 e')]), some (Blk.arr (1 : Nat) (ByteArray.size t) fun j => [AV.v (Value.int IntKind.u8 (sbyte t
    j))])])) (Tree.chk (cl (True ∧ LeL [AV.ptr (0 : Nat) (0 : Nat)] [AV.ptr (0 : Nat) (0 : Nat)] ∧ LeH [some (Blk.row [AV.hs (1 : Nat) o (ByteArray.size t - o), AV.v (Value.int IntKind.i64
    e)]), some (Blk.arr (1 : Nat) (ByteArray.size t) fun j => [AV.v (Value.int IntKind.u8 (sbyte t j))])] [some (Blk.row [AV.hs (1 : Nat) o (ByteArray.size t - o), AV.v (Value.int
    IntKind.i64 e)]), some (Blk.arr (1 : Nat) (ByteArray.size t) fun j => [AV.v (Value.int IntKind.u8 (sbyte t j))])])) (Tree.br (decide ((↑(ByteArray.size t - o) : Int) < (↑n : Int)))
    (Tree.chk (cl (True ∧ LeL [AV.ptr (0 : Nat) (0 : Nat), AV.v (Value.int IntKind.i64 (30 : Int))] [AV.ptr (0 : Nat) (0 : Nat), AV.v (Value.int IntKind.i64 (30 : Int))] ∧ LeH [some (Blk.row
    [AV.hs (1 : Nat) o (ByteArray.size t - o), AV.v (Value.int IntKind.i64 e)]), some (Blk.arr (1 : Nat) (ByteArray.size t) fun j => [AV.v (Value.int IntKind.u8 (sbyte t j))])] [some
    (Blk.row [AV.hs (1 : Nat) o (ByteArray.size t - o), AV.v (Value.int IntKind.i64 e)]), some (Blk.arr (1 : Nat) (ByteArray.size t) fun j => [AV.v (Value.int IntKind.u8 (sbyte t j))])]))
    (Tree.leaf (Ans.mk (AV.v (Value.string (ByteArray.mk #[]))) [some (Blk.row [AV.hs (1 : Nat) (fO (ByteArray.size t) o e (30 : Int)) (ByteArray.size t - fO (ByteArray.size t) o e (30 :
    Int)), AV.v (Value.int IntKind.i64 (fE e (30 : Int)))]), some (Blk.arr (1 : Nat) (ByteArray.size t) fun j => [AV.v (Value.int IntKind.u8 (sbyte t j))])]))) (Tree.br (decide ((↑n : Int) =
    (0 : Int))) (Tree.leaf (Ans.mk (AV.v (Value.string (ByteArray.mk #[]))) [some (Blk.row [AV.hs (1 : Nat) o (ByteArray.size t - o), AV.v (Value.int IntKind.i64 e)]), some (Blk.arr (1 :
    Nat) (ByteArray.size t) fun j => [AV.v (Value.int IntKind.u8 (sbyte t j))])])) (Tree.chk (decide ((↑(0 : Nat) : Int) ≤ (↑n : Int)) && decide ((↑n : Int) ≤ (↑(ByteArray.size t - o) :
    Int)) && allBytes n fun j => [AV.v (Value.int IntKind.u8 (sbyte t (o + (0 : Nat) + j)))]) (Tree.chk (decide ((0 : Int) ≤ (↑n : Int)) && decide ((↑n : Int) ≤ (↑(ByteArray.size t - o) :
    Int)) && decide ((↑(ByteArray.size t - o) : Int) ≤ (↑(ByteArray.size t - o) : Int))) (Tree.leaf (Ans.mk (AV.v (Value.string (textOf n fun j => [AV.v (Value.int IntKind.u8 (sbyte t (o +
    (0 : Nat) + j)))]))) [some (Blk.row [AV.hs (1 : Nat) (o + n) (ByteArray.size t - o - n), AV.v (Value.int IntKind.i64 e)]), some (Blk.arr (1 : Nat) (ByteArray.size t) fun j => [AV.v
    (Value.int IntKind.u8 (sbyte t j))])]))))))) := by kernel_rfl
theorem ext_zero {t : ByteArray} {o : Nat} (h : o ≤ t.size) : t.extract o (o + 0) = ⟨#[]⟩ := bN_eq (by rw [ext_size _ _ _ (by omega)]; show o + 0 - o = 0; omega) (fun j hj => by
  rw [ext_size _ _ _ (by omega)] at hj; omega)
theorem ansTt {t : ByteArray} (hz : t.size ≤ 1000000000000) {off : Nat} {e : Int} (hk : okS t off e) : Answers Tryd.prog Γm 97 [.ptr 0 0] (rdb t off e) (.v (.string (xS t off e))) ((rdb t (xO t off e) (xE t off e)).map some) [] := by
  have h0 : Answers Tryd.prog Γm 115 [.ptr 0 0, .v (.int .i64 65536)] (rdb t off e) (.v (.int .i64 (lT t off e : Int))) ((rdb t (oT t off e) (eT t off e)).map some) [] := by
    have := ansMo hz (off := off) (e := e) (m := 65536)
    rw [← Int.toNat_of_nonneg (m_range (t := t) (off := off) (e := e) (m := 65536) (by decide)).1] at this
    exact this
  have hm : okS t (oT t off e) (eT t off e) := m_ok hk
  have hl : lT t off e ≤ 65536 := by
    have := (m_range (t := t) (off := off) (e := e) (m := 65536) (by decide)).2
    unfold lT; omega
  have hxS : xS t off e = if t.size - oT t off e < lT t off e then ⟨#[]⟩ else t.extract (oT t off e) (oT t off e + lT t off e) := rfl
  have hxO : xO t off e = if t.size - oT t off e < lT t off e then fO t.size (oT t off e) (eT t off e) 30 else oT t off e + lT t off e := rfl
  have hxE : xE t off e = if t.size - oT t off e < lT t off e then fE (eT t off e) 30 else eT t off e := rfl
  rw [hxS, hxO, hxE]
  generalize lT t off e = n at *
  generalize oT t off e = o at *
  generalize eT t off e = e1 at *
  refine answers (fn := Tryd.f97) (c := bodyOf Tryd.f97) (ntmps := 32) (results := [.tmp 2]) [CT.at 115 h0, kRs t, kFl t] (Lno) false Tryd.func97 (by kernel_rfl) (by kernel_rfl) (by kernel_rfl) (by kernel_rfl) (by simp) rfl (failOK fun _ _ _ => rfl) <| Meets.of (runTxt t n e1 off e o h0) <| ?_
  have hm1 := hm.1
  by_cases h : t.size - o < n
  · rw [if_pos h, if_pos h, if_pos h]
    repeat' (first | refine wC (by first | omega | (simp only [W1, cond_true, cond_false]; first | done | omega)) ?_ | refine wT (by first | omega | (simp only [W1, cond_true, cond_false]; first | done | omega)) ?_ | refine wF (by intro _h; first | omega | (simp only [W1, cond_true, cond_false] at _h; first | done | omega)) ?_ | (refine wS ?_ ?_ <;> intro _h <;> simp only [W1, cond_true, cond_false] at _h))
    all_goals simp only [W1, W2, owesN, owesX, owesR, cond_true, cond_false]
    repeat' (first | apply And.intro | intro _hc)
    all_goals first | exact AV.le_refl _ | exact AV.le_any _ | exact OLe.refl _ | exact OLe.none _ | exact LeH.refl _ | exact LeL.refl _ | exact AV.le.bs _ | exact AV.le.sb _ | omega | contradiction
  · rw [if_neg h, if_neg h, if_neg h]
    by_cases h1 : n = 0
    · subst h1
      rw [ext_zero hm1]
      repeat' (first | refine wC (by first | omega | (simp only [W1, cond_true, cond_false]; first | done | omega)) ?_ | refine wT (by first | omega | (simp only [W1, cond_true, cond_false]; first | done | omega)) ?_ | refine wF (by intro _h; first | omega | (simp only [W1, cond_true, cond_false] at _h; first | done | omega)) ?_ | (refine wS ?_ ?_ <;> intro _h <;> simp only [W1, cond_true, cond_false] at _h))
      all_goals simp only [W1, W2, owesN, owesX, owesR, cond_true, cond_false]
      repeat' (first | apply And.intro | intro _hc)
      all_goals first | exact AV.le_refl _ | exact AV.le_any _ | exact OLe.refl _ | exact OLe.none _ | exact LeH.refl _ | exact LeL.refl _ | exact AV.le.bs _ | exact AV.le.sb _ | omega | contradiction
    · have hx : textOf n (fun j => [AV.v (Value.int IntKind.u8 (sbyte t (o + j)))]) = t.extract o (o + n) := textOf_ext (by omega)
      have hs : t.size - o - n = t.size - (o + n) := by omega
      simp only [Nat.add_zero, hx, hs]
      repeat' (first | refine wC (by first | omega | (simp only [W1, cond_true, cond_false, allB_x]; first | done | omega)) ?_ | refine wT (by first | omega | (simp only [W1, cond_true, cond_false, allB_x]; first | done | omega)) ?_ | refine wF (by intro _h; first | omega | (simp only [W1, cond_true, cond_false, allB_x] at _h; first | done | omega)) ?_ | (refine wS ?_ ?_ <;> intro _h <;> simp only [W1, cond_true, cond_false, allB_x] at _h))
      all_goals simp only [W1, W2, owesN, owesX, owesR, cond_true, cond_false, allB_x]
      repeat' (first | apply And.intro | intro _hc)
      all_goals first | exact AV.le_refl _ | exact AV.le_any _ | exact OLe.refl _ | exact OLe.none _ | exact LeH.refl _ | exact LeL.refl _ | exact AV.le.bs _ | exact AV.le.sb _ | omega | contradiction
noncomputable def kTt (t : ByteArray) (hz : t.size ≤ 1000000000000) : CT Tryd.prog Γm := CT.par 97 ofR (fun | (off, e) => okS t off e) (fun _ => [.ptr 0 0]) (fun | (off, e) => rdb t off e) (fun | (off, e) => .v (.string (xS t off e))) (fun | (off, e) => (rdb t (xO t off e) (xE t off e)).map some) (fun _ => [])
  (callFunc_enters Tryd.func97 (by kernel_rfl) (by kernel_rfl)) (fun | (off, e), h => ansTt hz h)
/-! ### a new reader -/
theorem runCcap (cap : Nat) : bodyE (P := Tryd.prog) (Γ := Γm) [] Lno false 8 [.tmp 2] (bodyOf Tryd.f94) [.v (.slice none 0 cap)] [] =
  Tree.leaf (Ans.mk (AV.v (Value.slice none (0 : Nat) (0 : Nat))) []) := by kernel_rfl
theorem runCmk  : bodyE (P := Tryd.prog) (Γ := Γm) [] Lno false 8 [.tmp 2] (bodyOf Tryd.f94) [.sl 1 0 fun _ => [.v (.tuple #[])]] [] =
  Tree.chk true (Tree.chk true (Tree.leaf (Ans.mk (AV.hs (0 : Nat) (0 : Nat) (0 : Nat)) [some (Blk.arr (1 : Nat) (0 : Nat) fun j => mixL (decide (j < (0 : Nat))) (chain [AV.v (Value.int
    IntKind.u8 (0 : Int))] (0 : Nat) [] ((0 : Nat) + j)) [AV.v (Value.tuple #[])])]))) := by kernel_rfl
theorem ansClE {g : Nat → List AV} : Answers Tryd.prog Γm 94 [.sl 1 0 g] [] (.hs 0 0 0) [] [.arr 1 0 fun _ => [.v (.int .u8 0)]] := by
  refine Answers.nilSl (sz := 1) (z := [.v (.int .u8 0)]) rfl (M := [.v (.tuple #[])]) rfl (fun cap => ?_) ?_
  · refine answers (fn := Tryd.f94) (c := bodyOf Tryd.f94) (ntmps := 8) (results := [.tmp 2]) [] (Lno) false Tryd.func94 (by kernel_rfl) (by kernel_rfl) (by kernel_rfl) (by kernel_rfl) (by simp) rfl (failOK fun _ _ _ => rfl) <| Meets.of (runCcap cap) <| ?_
    repeat' (first | refine wC (by first | omega | (simp only [W1, cond_true, cond_false]; first | done | omega)) ?_ | refine wT (by first | omega | (simp only [W1, cond_true, cond_false]; first | done | omega)) ?_ | refine wF (by intro _h; first | omega | (simp only [W1, cond_true, cond_false] at _h; first | done | omega)) ?_ | (refine wS ?_ ?_ <;> intro _h <;> simp only [W1, cond_true, cond_false] at _h))
    all_goals simp only [W1, W2, owesN, owesX, owesR, cond_true, cond_false]
    repeat' (first | apply And.intro | intro _hc)
    all_goals first | exact AV.le_refl _ | exact AV.le_any _ | exact OLe.refl _ | exact OLe.none _ | exact LeH.refl _ | exact LeL.refl _ | exact AV.le.bs _ | exact AV.le.sb _ | omega | contradiction
  · refine answers (fn := Tryd.f94) (c := bodyOf Tryd.f94) (ntmps := 8) (results := [.tmp 2]) [] (Lno) false Tryd.func94 (by kernel_rfl) (by kernel_rfl) (by kernel_rfl) (by kernel_rfl) (by simp) rfl (failOK fun _ _ _ => rfl) <| Meets.of (runCmk) <| ?_
    refine ⟨rfl, rfl, .refl _, OLe.arr rfl (fun e he => absurd he (Nat.not_lt_zero e)) (fun _ => rfl), trivial⟩
theorem runNwE (g : Nat → List AV) : bodyE (P := Tryd.prog) (Γ := Γm) [CT.at 94 (ansClE (g := g))] Lno false 7 [.tmp 2] (bodyOf Tryd.f38) [.sl 1 0 g] [] =
  Tree.chk (cl (LeL [AV.sl (1 : Nat) (0 : Nat) g] [AV.sl (1 : Nat) (0 : Nat) g] ∧ LeH [] [])) (Tree.leaf (Ans.mk (AV.ptr (0 : Nat) (0 : Nat)) [some (Blk.row [AV.hs (1 : Nat) (0 : Nat) (0 :
    Nat), AV.v (Value.int IntKind.i64 (0 : Int))]), some (Blk.arr (1 : Nat) (0 : Nat) fun x => [AV.v (Value.int IntKind.u8 (0 : Int))])])) := by kernel_rfl
theorem runNwH (t : ByteArray) (h : (BA.hs t).ok) : bodyE (P := Tryd.prog) (Γ := Γm) [CT.at 94 (ansClone (.hs t) h)] Lno false 7 [.tmp 2] (bodyOf Tryd.f38) [.hs 0 0 t.size] [.arr 1 t.size (bsF t)] =
  Tree.chk (cl (LeL [AV.hs (0 : Nat) (0 : Nat) (ByteArray.size t)] [AV.hs (0 : Nat) (0 : Nat) (ByteArray.size t)] ∧ LeH [some (Blk.arr (1 : Nat) (ByteArray.size t) fun j => [AV.v (Value.int
    IntKind.u8 (sbyte t j))])] [some (Blk.arr (1 : Nat) (ByteArray.size t) fun j => [AV.v (Value.int IntKind.u8 (sbyte t j))])])) (Tree.leaf (Ans.mk (AV.ptr (1 : Nat) (0 : Nat)) [some
    (Blk.arr (1 : Nat) (ByteArray.size t) fun j => [AV.v (Value.int IntKind.u8 (sbyte t j))]), some (Blk.row [AV.hs (2 : Nat) (0 : Nat) (ByteArray.size t), AV.v (Value.int IntKind.i64 (0 :
    Int))]), some (Blk.arr (1 : Nat) (ByteArray.size t) fun j => [AV.v (Value.int IntKind.u8 (sbyte t j))])])) := by kernel_rfl
theorem ansNwE {g : Nat → List AV} : Answers Tryd.prog Γm 38 [.sl 1 0 g] [] (.ptr 0 0) [] (rdb ⟨#[]⟩ 0 0) := by
  refine answers (fn := Tryd.f38) (c := bodyOf Tryd.f38) (ntmps := 7) (results := [.tmp 2]) [CT.at 94 (ansClE (g := g))] (Lno) false Tryd.func38 (by kernel_rfl) (by kernel_rfl) (by kernel_rfl) (by kernel_rfl) (by simp) rfl (failOK fun _ _ _ => rfl) <| Meets.of (runNwE g) <| ?_
  repeat' (first | refine wC (by first | omega | (simp only [W1, cond_true, cond_false]; first | done | omega)) ?_ | refine wT (by first | omega | (simp only [W1, cond_true, cond_false]; first | done | omega)) ?_ | refine wF (by intro _h; first | omega | (simp only [W1, cond_true, cond_false] at _h; first | done | omega)) ?_ | (refine wS ?_ ?_ <;> intro _h <;> simp only [W1, cond_true, cond_false] at _h))
  all_goals simp only [W1, W2, owesN, owesX, owesR, cond_true, cond_false]
  repeat' (first | apply And.intro | intro _hc)
  all_goals first | exact OLe.arr rfl (fun e he => absurd he (Nat.not_lt_zero e)) (fun _ => rfl) | exact AV.le_refl _ | exact AV.le_any _ | exact OLe.refl _ | exact OLe.none _ | exact LeH.refl _ | exact LeL.refl _ | exact AV.le.bs _ | exact AV.le.sb _ | omega | contradiction
theorem ansNwH {t : ByteArray} (h : (BA.hs t).ok) : Answers Tryd.prog Γm 38 [.hs 0 0 t.size] [.arr 1 t.size (bsF t)] (.ptr 1 0) [some (.arr 1 t.size (bsF t))] [.row [.hs 2 0 t.size, .v (.int .i64 0)], .arr 1 t.size (bsF t)] := by
  refine answers (fn := Tryd.f38) (c := bodyOf Tryd.f38) (ntmps := 7) (results := [.tmp 2]) [CT.at 94 (ansClone (.hs t) h)] (Lno) false Tryd.func38 (by kernel_rfl) (by kernel_rfl) (by kernel_rfl) (by kernel_rfl) (by simp) rfl (failOK fun _ _ _ => rfl) <| Meets.of (runNwH t h) <| ?_
  repeat' (first | refine wC (by first | omega | (simp only [W1, cond_true, cond_false]; first | done | omega)) ?_ | refine wT (by first | omega | (simp only [W1, cond_true, cond_false]; first | done | omega)) ?_ | refine wF (by intro _h; first | omega | (simp only [W1, cond_true, cond_false] at _h; first | done | omega)) ?_ | (refine wS ?_ ?_ <;> intro _h <;> simp only [W1, cond_true, cond_false] at _h))
  all_goals simp only [W1, W2, owesN, owesX, owesR, cond_true, cond_false]
  repeat' (first | apply And.intro | intro _hc)
  all_goals first | exact AV.le_refl _ | exact AV.le_any _ | exact OLe.refl _ | exact OLe.none _ | exact LeH.refl _ | exact LeL.refl _ | exact AV.le.bs _ | exact AV.le.sb _ | omega | contradiction
end Go.Eng.TA
