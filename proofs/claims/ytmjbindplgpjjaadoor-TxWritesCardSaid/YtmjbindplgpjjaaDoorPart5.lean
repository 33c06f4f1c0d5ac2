/- names: which texts are names and what follows it. -/
import Derived.Test.YtmjbindplgpjjaaDoorPart4
import Derived.Lib.DecodeNEq
/- names: which texts are names. -/
namespace Go.Eng.TA
open Go Go.Eng Go.Eng.M Go.Lib Go.Proofs
set_option linter.unusedSimpArgs false
set_option linter.unusedVariables false
abbrev letN (c : Nat) : Bool := letterB (c : Int)
def badF (c : Nat) : Bool := decide ((48 ≤ c ∧ c ≤ 57) ∨ c = 45)
def firstOk : List Nat → Bool
  | c :: _ => !badF c
  | [] => true
def fine (s : ByteArray) (p : Nat) : Bool := (rns s p).all (fun c => letterB (c : Int)) && (bif decide (p = 0) then firstOk (rns s 0) else true)
/-- is it a name? -/
def nameB (s : ByteArray) : Bool := fine s 0 && decide (1 ≤ (rns s 0).length ∧ (rns s 0).length ≤ 32)
def erN (b : Bool) : Int := bif b then 0 else 20
noncomputable abbrev lpChk : Code := loopOf (bodyOf Tryd.f20) 0
def SChk (s : ByteArray) (x : XP) : List AV × Heap := ([.v (.int .i64 (x.k : Int)), .its 0, .any], [some (.sit s x.p)])
def retChk : Out := ⟨.ret, [.any, .any, .v (.int .i64 20)], [none]⟩
def endChk (s : ByteArray) : Out := ⟨.exit 0, [.v (.int .i64 ((rns s 0).length : Int)), .any, .any], [none]⟩
def OChk (s : ByteArray) : Out := bif fine s 0 then endChk s else retChk
theorem rChk (s : ByteArray) (x : XP) : roundE (P := Tryd.prog) (Γ := Γm) [c10'] Lno false 0 0 lpChk [3, 8, 2] [] 41 (SChk s x).1 (SChk s x).2 =
  Tree.br (decide (x.p < ByteArray.size s)) (Tree.chk (bif bif decide ((↑x.p : Int) = (0 : Int)) then bif decide ((48 : Int) ≤ (↑(Utf8.decode s x.p).fst : Int)) then bif decide ((↑(Utf8.decode
    s x.p).fst : Int) ≤ (57 : Int)) then true else decide ((↑(Utf8.decode s x.p).fst : Int) = (45 : Int)) else decide ((↑(Utf8.decode s x.p).fst : Int) = (45 : Int)) else false then true
    else true) (Tree.br (bif bif decide ((↑x.p : Int) = (0 : Int)) then bif decide ((48 : Int) ≤ (↑(Utf8.decode s x.p).fst : Int)) then bif decide ((↑(Utf8.decode s x.p).fst : Int) ≤ (57 :
    Int)) then true else decide ((↑(Utf8.decode s x.p).fst : Int) = (45 : Int)) else decide ((↑(Utf8.decode s x.p).fst : Int) = (45 : Int)) else false then true else !letterB (↑(Utf8.decode
    s x.p).fst : Int)) (Tree.leaf (Out.mk AEx.ret [AV.v (Value.int IntKind.i64 (↑x.k : Int)), AV.its (0 : Nat), AV.v (Value.int IntKind.i64 (20 : Int))] [some (Blk.sit s (x.p + (Utf8.decode
    s x.p).snd))])) (Tree.leaf (Out.mk AEx.normal [AV.v (Value.int IntKind.i64 (IntKind.wrap IntKind.i64 ((↑x.k : Int) + (1 : Int)))), AV.its (0 : Nat), AV.any] [some (Blk.sit s (x.p +
    (Utf8.decode s x.p).snd))])))) (Tree.leaf (Out.mk (AEx.exit (0 : Nat)) [AV.v (Value.int IntKind.i64 (↑x.k : Int)), AV.its (0 : Nat), AV.any] [some (Blk.sit s x.p)])) := by kernel_rfl
theorem loopChk {s : ByteArray} (hs : s.size ≤ 1000000000) : ∀ x : XP, (x.p ≤ s.size ∧ x.k + (rns s x.p).length = (rns s 0).length ∧ fine s x.p = fine s 0) → LoopOK Tryd.prog Γm 0 41 lpChk (LSpec.at [3, 8, 2] [] (SChk s x) (OChk s)) := by
  refine loop_at (S := SChk s) (O := fun _ => OChk s) (k := 0) (fun x => s.size - x.p) fun x hp => .of (noLoops (by kernel_rfl)) (rChk s x) ?_
  obtain ⟨p, k⟩ := x
  obtain ⟨h1, h2, h3⟩ := hp
  have hl : (rns s 0).length ≤ s.size - 0 := rns_len
  dsimp only at h1 h2 h3
  rcases Nat.lt_or_ge p s.size with hi | hi
  · have hst := rns_step hi
    have hd := dec_pos s p
    have hle := dec_le hi
    rw [hst, List.length_cons] at h2
    have hp0 : fine s (p + (Utf8.decode s p).2) = (rns s (p + (Utf8.decode s p).2)).all fun c => letterB (c : Int) := by
      unfold fine
      rw [decide_eq_false (by omega), cond_false, Bool.and_true]
    have hf : fine s p = (letterB ((Utf8.decode s p).1 : Int) && fine s (p + (Utf8.decode s p).2) && (bif decide (p = 0) then !badF (Utf8.decode s p).1 else true)) := by
      rw [hp0]
      unfold fine
      rw [hst, List.all_cons]
      congr 1
      by_cases hz : p = 0
      · subst hz; rw [hst]; rfl
      · rw [decide_eq_false hz]; rfl
    cases hL : letterB ((Utf8.decode s p).1 : Int) with
    | false =>
      rw [hL, Bool.false_and, Bool.false_and] at hf
      rw [show OChk s = retChk by unfold OChk; rw [← h3, hf]; rfl]
      repeat' (first | refine wC (by first | omega | (simp only [W1, cond_true, cond_false, hL]; first | done | omega)) ?_ | refine wT (by first | omega | (simp only [W1, cond_true, cond_false, hL]; first | done | omega)) ?_ | refine wF (by intro _h; first | omega | (simp only [W1, cond_true, cond_false, hL] at _h; first | done | omega)) ?_ | (refine wS ?_ ?_ <;> intro _h <;> simp only [W1, cond_true, cond_false, hL] at _h))
      all_goals simp only [W1, W2, owesN, owesX, owesR, cond_true, cond_false, hL]
      repeat' (first | apply And.intro | intro _hc)
      all_goals first | exact rfl | exact AV.le_refl _ | exact AV.le_any _ | exact OLe.refl _ | exact OLe.none _ | exact LeH.refl _ | exact LeL.refl _ | exact AV.le.bs _ | exact AV.le.sb _ | omega | contradiction
    | true =>
      by_cases hb : p = 0 ∧ badF (Utf8.decode s p).1 = true
      · obtain ⟨rfl, hb⟩ := hb
        rw [hb] at hf
        have hf : fine s 0 = false := by rw [hf]; simp
        have hb := of_decide_eq_true hb
        rw [show OChk s = retChk by unfold OChk; rw [hf]; rfl]
        repeat' (first | refine wC (by first | omega | (simp only [W1, cond_true, cond_false, hL]; first | done | omega)) ?_ | refine wT (by first | omega | (simp only [W1, cond_true, cond_false, hL]; first | done | omega)) ?_ | refine wF (by intro _h; first | omega | (simp only [W1, cond_true, cond_false, hL] at _h; first | done | omega)) ?_ | (refine wS ?_ ?_ <;> intro _h <;> simp only [W1, cond_true, cond_false, hL] at _h))
        all_goals simp only [W1, W2, owesN, owesX, owesR, cond_true, cond_false, hL]
        repeat' (first | apply And.intro | intro _hc)
        all_goals first | exact rfl | exact AV.le_refl _ | exact AV.le_any _ | exact OLe.refl _ | exact OLe.none _ | exact LeH.refl _ | exact LeL.refl _ | exact AV.le.bs _ | exact AV.le.sb _ | omega | contradiction
      · have hb' : (bif decide (p = 0) then !badF (Utf8.decode s p).1 else true) = true := by
          by_cases hz : p = 0
          · cases h : badF (Utf8.decode s p).1 with
            | true => exact absurd ⟨hz, h⟩ hb
            | false => simp
          · simp [hz]
        have hb2 : ¬ (p = 0 ∧ ((48 ≤ (Utf8.decode s p).1 ∧ (Utf8.decode s p).1 ≤ 57) ∨ (Utf8.decode s p).1 = 45)) := fun ⟨e, h⟩ => hb ⟨e, decide_eq_true h⟩
        rw [hb', hL, Bool.and_true, Bool.true_and] at hf
        repeat' (first | refine wC (by first | omega | (simp only [W1, cond_true, cond_false, hL, wrapUpN (show k ≤ 10000000000 by omega)]; first | done | omega)) ?_ | refine wT (by first | omega | (simp only [W1, cond_true, cond_false, hL, wrapUpN (show k ≤ 10000000000 by omega)]; first | done | omega)) ?_ | refine wF (by intro _h; first | omega | (simp only [W1, cond_true, cond_false, hL, wrapUpN (show k ≤ 10000000000 by omega)] at _h; first | done | omega)) ?_ | (refine wS ?_ ?_ <;> intro _h <;> simp only [W1, cond_true, cond_false, hL, wrapUpN (show k ≤ 10000000000 by omega)] at _h))
        all_goals simp only [W1, W2, owesN, owesX, owesR, cond_true, cond_false, hL, wrapUpN (show k ≤ 10000000000 by omega)]
        repeat' (first | apply And.intro | intro _hc)
        all_goals first | exact ⟨⟨p + (Utf8.decode s p).2, k + 1⟩, LeL.refl _, LeH.refl _, ⟨hle, by dsimp only; omega, by dsimp only; rw [← hf, h3]⟩, by dsimp only; omega⟩ | exact AV.le_refl _ | exact AV.le_any _ | exact OLe.refl _ | exact OLe.none _ | exact LeH.refl _ | exact LeL.refl _ | exact AV.le.bs _ | exact AV.le.sb _ | omega | contradiction
  · rw [rns_end hi, List.length_nil] at h2
    have h2 : k = (rns s 0).length := by omega
    subst h2
    have hf : fine s 0 = true := by
      rw [← h3]; unfold fine; rw [rns_end hi]
      by_cases hz : p = 0
      · subst hz; rw [rns_end hi]; rfl
      · rw [decide_eq_false hz]; rfl
    rw [show OChk s = endChk s by unfold OChk; rw [hf]; rfl]
    repeat' (first | refine wC (by first | omega | (simp only [W1, cond_true, cond_false]; first | done | omega)) ?_ | refine wT (by first | omega | (simp only [W1, cond_true, cond_false]; first | done | omega)) ?_ | refine wF (by intro _h; first | omega | (simp only [W1, cond_true, cond_false] at _h; first | done | omega)) ?_ | (refine wS ?_ ?_ <;> intro _h <;> simp only [W1, cond_true, cond_false] at _h))
    all_goals simp only [W1, W2, owesN, owesX, owesR, cond_true, cond_false]
    repeat' (first | apply And.intro | intro _hc)
    all_goals first | exact rfl | exact AV.le_refl _ | exact AV.le_any _ | exact OLe.refl _ | exact OLe.none _ | exact LeH.refl _ | exact LeL.refl _ | exact AV.le.bs _ | exact AV.le.sb _ | omega | contradiction
theorem runChkE (s : ByteArray) : bodyE (P := Tryd.prog) (Γ := Γm) [] (fun _ => LSpec.at [3, 8, 2] [] (SChk s ⟨0, 0⟩) (endChk s)) false 41 [.tmp 2] (bodyOf Tryd.f20) [.v (.string s)] [] =
  Tree.chk (cl (LeL [AV.v (Value.int IntKind.i64 (0 : Int)), AV.its (0 : Nat), AV.v (Value.int IntKind.i64 (0 : Int))] [AV.v (Value.int IntKind.i64 (↑(0 : Nat) : Int)), AV.its (0 : Nat),
    AV.any] ∧ LeH [some (Blk.sit s (0 : Nat))] [some (Blk.sit s (0 : Nat))])) (Tree.br (bif decide ((↑(List.length (rns s (0 : Nat))) : Int) < (1 : Int)) then true else decide ((32 : Int) <
    (↑(List.length (rns s (0 : Nat))) : Int))) (Tree.leaf (Ans.mk (AV.v (Value.int IntKind.i64 (20 : Int))) [])) (Tree.leaf (Ans.mk (AV.v (Value.int IntKind.i64 (0 : Int))) []))) := by kernel_rfl
theorem runChkR (s : ByteArray) : bodyE (P := Tryd.prog) (Γ := Γm) [] (fun _ => LSpec.at [3, 8, 2] [] (SChk s ⟨0, 0⟩) retChk) false 41 [.tmp 2] (bodyOf Tryd.f20) [.v (.string s)] [] =
  Tree.chk (cl (LeL [AV.v (Value.int IntKind.i64 (0 : Int)), AV.its (0 : Nat), AV.v (Value.int IntKind.i64 (0 : Int))] [AV.v (Value.int IntKind.i64 (↑(0 : Nat) : Int)), AV.its (0 : Nat),
    AV.any] ∧ LeH [some (Blk.sit s (0 : Nat))] [some (Blk.sit s (0 : Nat))])) (Tree.leaf (Ans.mk (AV.v (Value.int IntKind.i64 (20 : Int))) [])) := by kernel_rfl
theorem ansChk {s : ByteArray} (hs : s.size ≤ 1000000000) : Answers Tryd.prog Γm 20 [.v (.string s)] [] (.v (.int .i64 (erN (nameB s)))) [] [] := by
  have hl := loopChk hs ⟨0, 0⟩ ⟨Nat.zero_le _, Nat.zero_add _, rfl⟩
  unfold OChk at hl
  unfold nameB
  cases hf : fine s 0 with
  | true =>
    rw [hf, cond_true] at hl
    refine answers (fn := Tryd.f20) (c := bodyOf Tryd.f20) (ntmps := 41) (results := [.tmp 2]) [] (fun _ => LSpec.at [3, 8, 2] [] (SChk s ⟨0, 0⟩) (endChk s)) false Tryd.func20 (by kernel_rfl) (by kernel_rfl) (by kernel_rfl) (by kernel_rfl) (by simp) rfl (oneLoop (b := lpChk) (by kernel_rfl) hl) <| Meets.of (runChkE s) <| ?_
    by_cases h : 1 ≤ (rns s 0).length ∧ (rns s 0).length ≤ 32
    · rw [decide_eq_true h]
      repeat' (first | refine wC (by first | omega | (simp only [W1, cond_true, cond_false]; first | done | omega)) ?_ | refine wT (by first | omega | (simp only [W1, cond_true, cond_false]; first | done | omega)) ?_ | refine wF (by intro _h; first | omega | (simp only [W1, cond_true, cond_false] at _h; first | done | omega)) ?_ | (refine wS ?_ ?_ <;> intro _h <;> simp only [W1, cond_true, cond_false] at _h))
      all_goals simp only [W1, W2, owesN, owesX, owesR, cond_true, cond_false]
      repeat' (first | apply And.intro | intro _hc)
      all_goals first | exact leI rfl | exact AV.le_refl _ | exact AV.le_any _ | exact OLe.refl _ | exact OLe.none _ | exact LeH.refl _ | exact LeL.refl _ | exact AV.le.bs _ | exact AV.le.sb _ | omega | contradiction
    · rw [decide_eq_false h]
      repeat' (first | refine wC (by first | omega | (simp only [W1, cond_true, cond_false]; first | done | omega)) ?_ | refine wT (by first | omega | (simp only [W1, cond_true, cond_false]; first | done | omega)) ?_ | refine wF (by intro _h; first | omega | (simp only [W1, cond_true, cond_false] at _h; first | done | omega)) ?_ | (refine wS ?_ ?_ <;> intro _h <;> simp only [W1, cond_true, cond_false] at _h))
      all_goals simp only [W1, W2, owesN, owesX, owesR, cond_true, cond_false]
      repeat' (first | apply And.intro | intro _hc)
      all_goals first | exact leI rfl | exact AV.le_refl _ | exact AV.le_any _ | exact OLe.refl _ | exact OLe.none _ | exact LeH.refl _ | exact LeL.refl _ | exact AV.le.bs _ | exact AV.le.sb _ | omega | contradiction
  | false =>
    rw [hf, cond_false] at hl
    refine answers (fn := Tryd.f20) (c := bodyOf Tryd.f20) (ntmps := 41) (results := [.tmp 2]) [] (fun _ => LSpec.at [3, 8, 2] [] (SChk s ⟨0, 0⟩) retChk) false Tryd.func20 (by kernel_rfl) (by kernel_rfl) (by kernel_rfl) (by kernel_rfl) (by simp) rfl (oneLoop (b := lpChk) (by kernel_rfl) hl) <| Meets.of (runChkR s) <| ?_
    repeat' (first | refine wC (by first | omega | (simp only [W1, cond_true, cond_false]; first | done | omega)) ?_ | refine wT (by first | omega | (simp only [W1, cond_true, cond_false]; first | done | omega)) ?_ | refine wF (by intro _h; first | omega | (simp only [W1, cond_true, cond_false] at _h; first | done | omega)) ?_ | (refine wS ?_ ?_ <;> intro _h <;> simp only [W1, cond_true, cond_false] at _h))
    all_goals simp only [W1, W2, owesN, owesX, owesR, cond_true, cond_false]
    repeat' (first | apply And.intro | intro _hc)
    all_goals first | exact leI rfl | exact AV.le_refl _ | exact AV.le_any _ | exact OLe.refl _ | exact OLe.none _ | exact LeH.refl _ | exact LeL.refl _ | exact AV.le.bs _ | exact AV.le.sb _ | omega | contradiction
noncomputable def kChk : CT Tryd.prog Γm := CT.oS 20 Tryd.func20 (by kernel_rfl) (by kernel_rfl) (fun s => s.size ≤ 1000000000) (fun s => .v (.int .i64 (erN (nameB s)))) (fun _ => []) (fun s h => ansChk h)
/-! ### the document's -/
theorem bad_letter {s : ByteArray} : ∀ {n p : Nat}, s.size - p ≤ n → good s p = false → ((rns s p).all fun c => letterB (c : Int)) = false := by
  intro n
  induction n with
  | zero => intro p h hg; rw [good_end (by omega)] at hg; cases hg
  | succ n ih =>
    intro p h hg
    by_cases hp : p < s.size
    · rw [good_ok hp] at hg
      rw [rns_step hp, List.all_cons]
      have := dec_pos s p
      cases ho : okAt s p with
      | false =>
        have hb : badAt s p := by
          unfold okAt at ho
          have h3 : decide (badAt s p) = true := by cases h2 : decide (badAt s p) with
            | true => rfl
            | false => rw [h2] at ho; cases ho
          exact of_decide_eq_true h3
        rw [show (Utf8.decode s p).1 = 65533 by rw [show Utf8.decode s p = (65533, 1) from hb]]
        rfl
      | true =>
        rw [ho, Bool.true_and] at hg
        rw [ih (by omega) hg, Bool.and_false]
    · rw [good_end (by omega)] at hg; cases hg
noncomputable abbrev lpChkR : Code := loopOf (bodyOf Tryd.f21) 0
def SChkR (l : List Nat) (i : Nat) : List AV × Heap := ([.hs 0 0 l.length, .v (.int .i64 (i : Int)), .any], [some (i1B l)])
def OChkR (l : List Nat) : Out := bif (l.all fun c => letterB (c : Int)) then ⟨.exit 0, [.any, .any, .any], [none]⟩ else ⟨.ret, [.any, .any, .v (.bool false)], [none]⟩
theorem rChkR (l : List Nat) (i : Nat) : roundE (P := Tryd.prog) (Γ := Γm) [c11'] Lno false 0 0 lpChkR [3, 5, 2] [] 53 (SChkR l i).1 (SChkR l i).2 =
  Tree.br (decide ((↑i : Int) < (↑(List.length l) : Int))) (Tree.chk (decide ((0 : Int) ≤ (↑i : Int)) && decide ((↑i : Int) < (↑(List.length l) : Int)) && true) (Tree.br (!letterB (↑(List.getD
    l ((0 : Nat) + i) default) : Int)) (Tree.leaf (Out.mk AEx.ret [AV.hs (0 : Nat) (0 : Nat) (List.length l), AV.v (Value.int IntKind.i64 (↑i : Int)), AV.v (Value.bool false)] [some (Blk.arr
    (1 : Nat) (List.length l) (lsF I1.c l))])) (Tree.leaf (Out.mk AEx.normal [AV.hs (0 : Nat) (0 : Nat) (List.length l), AV.v (Value.int IntKind.i64 (IntKind.wrap IntKind.i64 ((↑i : Int) +
    (1 : Int)))), AV.any] [some (Blk.arr (1 : Nat) (List.length l) (lsF I1.c l))])))) (Tree.leaf (Out.mk (AEx.exit (0 : Nat)) [AV.hs (0 : Nat) (0 : Nat) (List.length l), AV.v (Value.int
    IntKind.i64 (↑i : Int)), AV.any] [some (Blk.arr (1 : Nat) (List.length l) (lsF I1.c l))])) := by kernel_rfl
theorem all_drop {f : Nat → Bool} {l : List Nat} {i : Nat} (h : i < l.length) : (l.drop i).all f = (f (l.getD i default) && (l.drop (i + 1)).all f) := by
  rw [List.drop_eq_getElem_cons h, List.all_cons, getD_get h]
theorem loopChkR {l : List Nat} (hs : l.length ≤ 1000000000) : ∀ i : Nat, (i ≤ l.length ∧ ((l.drop i).all fun c => letterB (c : Int)) = l.all fun c => letterB (c : Int)) → LoopOK Tryd.prog Γm 0 53 lpChkR (LSpec.at [3, 5, 2] [] (SChkR l i) (OChkR l)) := by
  refine loop_at (S := SChkR l) (O := fun _ => OChkR l) (k := 0) (fun i => l.length - i) fun i hp => .of (noLoops (by kernel_rfl)) (rChkR l i) ?_
  obtain ⟨h1, h2⟩ := hp
  rcases Nat.lt_or_ge i l.length with hi | hi
  · rw [all_drop hi] at h2
    cases hL : letterB ((l.getD i default : Nat) : Int) with
    | false =>
      rw [hL, Bool.false_and] at h2
      unfold OChkR
      rw [← h2, cond_false]
      repeat' (first | refine wC (by first | omega | (simp only [W1, cond_true, cond_false, hL]; first | done | omega)) ?_ | refine wT (by first | omega | (simp only [W1, cond_true, cond_false, hL]; first | done | omega)) ?_ | refine wF (by intro _h; first | omega | (simp only [W1, cond_true, cond_false, hL] at _h; first | done | omega)) ?_ | (refine wS ?_ ?_ <;> intro _h <;> simp only [W1, cond_true, cond_false, hL] at _h))
      all_goals simp only [W1, W2, owesN, owesX, owesR, cond_true, cond_false, hL]
      repeat' (first | apply And.intro | intro _hc)
      all_goals first | exact rfl | exact AV.le_refl _ | exact AV.le_any _ | exact OLe.refl _ | exact OLe.none _ | exact LeH.refl _ | exact LeL.refl _ | exact AV.le.bs _ | exact AV.le.sb _ | omega | contradiction
    | true =>
      rw [hL, Bool.true_and] at h2
      repeat' (first | refine wC (by first | omega | (simp only [W1, cond_true, cond_false, hL, wrapUpN (show i ≤ 10000000000 by omega)]; first | done | omega)) ?_ | refine wT (by first | omega | (simp only [W1, cond_true, cond_false, hL, wrapUpN (show i ≤ 10000000000 by omega)]; first | done | omega)) ?_ | refine wF (by intro _h; first | omega | (simp only [W1, cond_true, cond_false, hL, wrapUpN (show i ≤ 10000000000 by omega)] at _h; first | done | omega)) ?_ | (refine wS ?_ ?_ <;> intro _h <;> simp only [W1, cond_true, cond_false, hL, wrapUpN (show i ≤ 10000000000 by omega)] at _h))
      all_goals simp only [W1, W2, owesN, owesX, owesR, cond_true, cond_false, hL, wrapUpN (show i ≤ 10000000000 by omega)]
      repeat' (first | apply And.intro | intro _hc)
      all_goals first | exact ⟨i + 1, LeL.refl _, LeH.refl _, ⟨hi, h2⟩, by omega⟩ | exact AV.le_refl _ | exact AV.le_any _ | exact OLe.refl _ | exact OLe.none _ | exact LeH.refl _ | exact LeL.refl _ | exact AV.le.bs _ | exact AV.le.sb _ | omega | contradiction
  · rw [List.drop_eq_nil_of_le hi] at h2
    unfold OChkR
    rw [← h2, List.all_nil, cond_true]
    repeat' (first | refine wC (by first | omega | (simp only [W1, cond_true, cond_false]; first | done | omega)) ?_ | refine wT (by first | omega | (simp only [W1, cond_true, cond_false]; first | done | omega)) ?_ | refine wF (by intro _h; first | omega | (simp only [W1, cond_true, cond_false] at _h; first | done | omega)) ?_ | (refine wS ?_ ?_ <;> intro _h <;> simp only [W1, cond_true, cond_false] at _h))
    all_goals simp only [W1, W2, owesN, owesX, owesR, cond_true, cond_false]
    repeat' (first | apply And.intro | intro _hc)
    all_goals first | exact rfl | exact AV.le_refl _ | exact AV.le_any _ | exact OLe.refl _ | exact OLe.none _ | exact LeH.refl _ | exact LeL.refl _ | exact AV.le.bs _ | exact AV.le.sb _ | omega | contradiction
theorem runChkRE (s : ByteArray) : bodyE (P := Tryd.prog) (Γ := Γm) [kRun] (fun _ => LSpec.at [3, 5, 2] [] (SChkR (rns s 0) 0) ⟨.exit 0, [.any, .any, .any], [none]⟩) false 53 [.tmp 2] (bodyOf Tryd.f21) [.v (.string s)] [] =
  Tree.chk (cl (ByteArray.size s ≤ (100000000 : Nat) ∧ LeL [AV.v (Value.string s)] [AV.v (Value.string s)] ∧ LeH [] [])) (Tree.chk (bif !good s (0 : Nat) then true else bif decide
    ((↑(List.length (rns s (0 : Nat))) : Int) < (1 : Int)) then true else bif decide ((32 : Int) < (↑(List.length (rns s (0 : Nat))) : Int)) then true else decide ((0 : Int) < (↑(List.length
    (rns s (0 : Nat))) : Int)) && bif decide ((↑(List.getD (rns s (0 : Nat)) (0 : Nat) default) : Int) = (45 : Int)) then true else decide ((0 : Int) < (↑(List.length (rns s (0 : Nat))) :
    Int)) && bif decide ((48 : Int) ≤ (↑(List.getD (rns s (0 : Nat)) (0 : Nat) default) : Int)) then decide ((0 : Int) < (↑(List.length (rns s (0 : Nat))) : Int)) else true) (Tree.br (bif
    !good s (0 : Nat) then true else bif decide ((↑(List.length (rns s (0 : Nat))) : Int) < (1 : Int)) then true else bif decide ((32 : Int) < (↑(List.length (rns s (0 : Nat))) : Int)) then
    true else bif decide ((↑(List.getD (rns s (0 : Nat)) (0 : Nat) default) : Int) = (45 : Int)) then true else bif decide ((48 : Int) ≤ (↑(List.getD (rns s (0 : Nat)) (0 : Nat) default) :
    Int)) then decide ((↑(List.getD (rns s (0 : Nat)) (0 : Nat) default) : Int) ≤ (57 : Int)) else false) (Tree.leaf (Ans.mk (AV.v (Value.bool false)) [])) (Tree.chk (cl (LeL [AV.hs (0 :
    Nat) (0 : Nat) (List.length (rns s (0 : Nat))), AV.v (Value.int IntKind.i64 (0 : Int)), AV.v (Value.bool false)] [AV.hs (0 : Nat) (0 : Nat) (List.length (rns s (0 : Nat))), AV.v
    (Value.int IntKind.i64 (↑(0 : Nat) : Int)), AV.any] ∧ LeH [some (Blk.arr (1 : Nat) (List.length (rns s (0 : Nat))) (lsF I1.c (rns s (0 : Nat))))] [some (Blk.arr (1 : Nat) (List.length
    (rns s (0 : Nat))) (lsF I1.c (rns s (0 : Nat))))])) (Tree.leaf (Ans.mk (AV.v (Value.bool true)) []))))) := by kernel_rfl
theorem runChkRR (s : ByteArray) : bodyE (P := Tryd.prog) (Γ := Γm) [kRun] (fun _ => LSpec.at [3, 5, 2] [] (SChkR (rns s 0) 0) ⟨.ret, [.any, .any, .v (.bool false)], [none]⟩) false 53 [.tmp 2] (bodyOf Tryd.f21) [.v (.string s)] [] =
  Tree.chk (cl (ByteArray.size s ≤ (100000000 : Nat) ∧ LeL [AV.v (Value.string s)] [AV.v (Value.string s)] ∧ LeH [] [])) (Tree.chk (bif !good s (0 : Nat) then true else bif decide
    ((↑(List.length (rns s (0 : Nat))) : Int) < (1 : Int)) then true else bif decide ((32 : Int) < (↑(List.length (rns s (0 : Nat))) : Int)) then true else decide ((0 : Int) < (↑(List.length
    (rns s (0 : Nat))) : Int)) && bif decide ((↑(List.getD (rns s (0 : Nat)) (0 : Nat) default) : Int) = (45 : Int)) then true else decide ((0 : Int) < (↑(List.length (rns s (0 : Nat))) :
    Int)) && bif decide ((48 : Int) ≤ (↑(List.getD (rns s (0 : Nat)) (0 : Nat) default) : Int)) then decide ((0 : Int) < (↑(List.length (rns s (0 : Nat))) : Int)) else true) (Tree.br (bif
    !good s (0 : Nat) then true else bif decide ((↑(List.length (rns s (0 : Nat))) : Int) < (1 : Int)) then true else bif decide ((32 : Int) < (↑(List.length (rns s (0 : Nat))) : Int)) then
    true else bif decide ((↑(List.getD (rns s (0 : Nat)) (0 : Nat) default) : Int) = (45 : Int)) then true else bif decide ((48 : Int) ≤ (↑(List.getD (rns s (0 : Nat)) (0 : Nat) default) :
    Int)) then decide ((↑(List.getD (rns s (0 : Nat)) (0 : Nat) default) : Int) ≤ (57 : Int)) else false) (Tree.leaf (Ans.mk (AV.v (Value.bool false)) [])) (Tree.chk (cl (LeL [AV.hs (0 :
    Nat) (0 : Nat) (List.length (rns s (0 : Nat))), AV.v (Value.int IntKind.i64 (0 : Int)), AV.v (Value.bool false)] [AV.hs (0 : Nat) (0 : Nat) (List.length (rns s (0 : Nat))), AV.v
    (Value.int IntKind.i64 (↑(0 : Nat) : Int)), AV.any] ∧ LeH [some (Blk.arr (1 : Nat) (List.length (rns s (0 : Nat))) (lsF I1.c (rns s (0 : Nat))))] [some (Blk.arr (1 : Nat) (List.length
    (rns s (0 : Nat))) (lsF I1.c (rns s (0 : Nat))))])) (Tree.leaf (Ans.mk (AV.v (Value.bool false)) []))))) := by kernel_rfl
theorem firstOk_get {l : List Nat} (h : 0 < l.length) : firstOk l = !badF (l.getD 0 default) := by
  cases l with
  | nil => cases h
  | cons c l => rfl
theorem ansChkR {s : ByteArray} (hs : s.size ≤ 100000000) : Answers Tryd.prog Γm 21 [.v (.string s)] [] (.sb (nameB s)) [] [] := by
  have hln : (rns s 0).length ≤ s.size - 0 := rns_len
  have hl := loopChkR (l := rns s 0) (by omega) 0 ⟨Nat.zero_le _, rfl⟩
  have hg := bad_letter (s := s) (n := s.size) (p := 0) (by omega)
  have hfo := firstOk_get (l := rns s 0)
  have hnm : nameB s = (((rns s 0).all (fun c => letterB (c : Int)) && firstOk (rns s 0)) && decide (1 ≤ (rns s 0).length ∧ (rns s 0).length ≤ 32)) := rfl
  have hbf : badF ((rns s 0).getD 0 default) = decide ((48 ≤ (rns s 0).getD 0 default ∧ (rns s 0).getD 0 default ≤ 57) ∨ (rns s 0).getD 0 default = 45) := rfl
  unfold OChkR at hl
  rw [hnm]
  cases hA : (rns s 0).all (fun c => letterB (c : Int)) with
  | true =>
    rw [hA, cond_true] at hl
    rw [hA] at hg
    have hg' : good s 0 = true := by
      cases h : good s 0 with
      | true => rfl
      | false => exact absurd (hg h) (by decide)
    refine answers (fn := Tryd.f21) (c := bodyOf Tryd.f21) (ntmps := 53) (results := [.tmp 2]) [kRun] (fun _ => LSpec.at [3, 5, 2] [] (SChkR (rns s 0) 0) ⟨.exit 0, [.any, .any, .any], [none]⟩) false Tryd.func21 (by kernel_rfl) (by kernel_rfl) (by kernel_rfl) (by kernel_rfl) (by simp) rfl (oneLoop (b := lpChkR) (by kernel_rfl) hl) <| Meets.of (runChkRE s) <| ?_
    by_cases h : 1 ≤ (rns s 0).length ∧ (rns s 0).length ≤ 32
    · rw [decide_eq_true h, hfo (by omega)]
      by_cases hb : ((48 ≤ (rns s 0).getD 0 default ∧ (rns s 0).getD 0 default ≤ 57) ∨ (rns s 0).getD 0 default = 45)
      · rw [hbf, decide_eq_true hb]
        repeat' (first | refine wC (by first | omega | (simp only [W1, cond_true, cond_false, hg']; first | done | omega)) ?_ | refine wT (by first | omega | (simp only [W1, cond_true, cond_false, hg']; first | done | omega)) ?_ | refine wF (by intro _h; first | omega | (simp only [W1, cond_true, cond_false, hg'] at _h; first | done | omega)) ?_ | (refine wS ?_ ?_ <;> intro _h <;> simp only [W1, cond_true, cond_false, hg'] at _h))
        all_goals simp only [W1, W2, owesN, owesX, owesR, cond_true, cond_false, hg']
        repeat' (first | apply And.intro | intro _hc)
        all_goals first | exact AV.le_refl _ | exact AV.le_any _ | exact OLe.refl _ | exact OLe.none _ | exact LeH.refl _ | exact LeL.refl _ | exact AV.le.bs _ | exact AV.le.sb _ | omega | contradiction
      · rw [hbf, decide_eq_false hb]
        repeat' (first | refine wC (by first | omega | (simp only [W1, cond_true, cond_false, hg']; first | done | omega)) ?_ | refine wT (by first | omega | (simp only [W1, cond_true, cond_false, hg']; first | done | omega)) ?_ | refine wF (by intro _h; first | omega | (simp only [W1, cond_true, cond_false, hg'] at _h; first | done | omega)) ?_ | (refine wS ?_ ?_ <;> intro _h <;> simp only [W1, cond_true, cond_false, hg'] at _h))
        all_goals simp only [W1, W2, owesN, owesX, owesR, cond_true, cond_false, hg']
        repeat' (first | apply And.intro | intro _hc)
        all_goals first | exact AV.le_refl _ | exact AV.le_any _ | exact OLe.refl _ | exact OLe.none _ | exact LeH.refl _ | exact LeL.refl _ | exact AV.le.bs _ | exact AV.le.sb _ | omega | contradiction
    · rw [decide_eq_false h, Bool.and_false]
      repeat' (first | refine wC (by first | omega | (simp only [W1, cond_true, cond_false, hg']; first | done | omega)) ?_ | refine wT (by first | omega | (simp only [W1, cond_true, cond_false, hg']; first | done | omega)) ?_ | refine wF (by intro _h; first | omega | (simp only [W1, cond_true, cond_false, hg'] at _h; first | done | omega)) ?_ | (refine wS ?_ ?_ <;> intro _h <;> simp only [W1, cond_true, cond_false, hg'] at _h))
      all_goals simp only [W1, W2, owesN, owesX, owesR, cond_true, cond_false, hg']
      repeat' (first | apply And.intro | intro _hc)
      all_goals first | exact AV.le_refl _ | exact AV.le_any _ | exact OLe.refl _ | exact OLe.none _ | exact LeH.refl _ | exact LeL.refl _ | exact AV.le.bs _ | exact AV.le.sb _ | omega | contradiction
  | false =>
    rw [hA, cond_false] at hl
    refine answers (fn := Tryd.f21) (c := bodyOf Tryd.f21) (ntmps := 53) (results := [.tmp 2]) [kRun] (fun _ => LSpec.at [3, 5, 2] [] (SChkR (rns s 0) 0) ⟨.ret, [.any, .any, .v (.bool false)], [none]⟩) false Tryd.func21 (by kernel_rfl) (by kernel_rfl) (by kernel_rfl) (by kernel_rfl) (by simp) rfl (oneLoop (b := lpChkR) (by kernel_rfl) hl) <| Meets.of (runChkRR s) <| ?_
    cases hg' : good s 0 with
    | true =>
      repeat' (first | refine wC (by first | omega | (simp only [W1, cond_true, cond_false, hg']; first | done | omega)) ?_ | refine wT (by first | omega | (simp only [W1, cond_true, cond_false, hg']; first | done | omega)) ?_ | refine wF (by intro _h; first | omega | (simp only [W1, cond_true, cond_false, hg'] at _h; first | done | omega)) ?_ | (refine wS ?_ ?_ <;> intro _h <;> simp only [W1, cond_true, cond_false, hg'] at _h))
      all_goals simp only [W1, W2, owesN, owesX, owesR, cond_true, cond_false, hg']
      repeat' (first | apply And.intro | intro _hc)
      all_goals first | exact AV.le_refl _ | exact AV.le_any _ | exact OLe.refl _ | exact OLe.none _ | exact LeH.refl _ | exact LeL.refl _ | exact AV.le.bs _ | exact AV.le.sb _ | omega | contradiction
    | false =>
      repeat' (first | refine wC (by first | omega | (simp only [W1, cond_true, cond_false, hg']; first | done | omega)) ?_ | refine wT (by first | omega | (simp only [W1, cond_true, cond_false, hg']; first | done | omega)) ?_ | refine wF (by intro _h; first | omega | (simp only [W1, cond_true, cond_false, hg'] at _h; first | done | omega)) ?_ | (refine wS ?_ ?_ <;> intro _h <;> simp only [W1, cond_true, cond_false, hg'] at _h))
      all_goals simp only [W1, W2, owesN, owesX, owesR, cond_true, cond_false, hg']
      repeat' (first | apply And.intro | intro _hc)
      all_goals first | exact AV.le_refl _ | exact AV.le_any _ | exact OLe.refl _ | exact OLe.none _ | exact LeH.refl _ | exact LeL.refl _ | exact AV.le.bs _ | exact AV.le.sb _ | omega | contradiction
noncomputable def kChkR : CT Tryd.prog Γm := CT.oS 21 Tryd.func21 (by kernel_rfl) (by kernel_rfl) (fun s => s.size ≤ 100000000) (fun s => .sb (nameB s)) (fun _ => []) (fun s h => ansChkR h)
end Go.Eng.TA

/- names: bytes that are no runes; values. -/
namespace Go.Eng.TA
open Go Go.Eng Go.Eng.M Go.Lib Go.Proofs
set_option linter.unusedSimpArgs false
set_option linter.unusedVariables false
theorem run120 (t : ByteArray) : bodyE (P := Tryd.prog) (Γ := Γm) [] Lno false 117 [.tmp 2, .tmp 3] (bodyOf Tryd.f120) [.v (.string t)] [] =
  Tree.br (decide ((↑(ByteArray.size t) : Int) < (1 : Int))) (Tree.leaf (Ans.mk (AV.tup [AV.v (Value.int IntKind.i32 (65533 : Int)), AV.v (Value.int IntKind.i64 (0 : Int))]) [])) (Tree.chk
    (decide ((0 : Int) < (↑(ByteArray.size t) : Int))) (Tree.chk (decide ((0 : Int) ≤ sbyte t (Int.toNat (0 : Int))) && decide (sbyte t (Int.toNat (0 : Int)) < (↑(256 : Nat) : Int)))
    (Tree.br (decide ((240 : Int) ≤ (↑(firstT (Int.toNat (sbyte t (Int.toNat (0 : Int))))) : Int))) (Tree.chk true (Tree.chk (decide ((0 : Int) < (↑(ByteArray.size t) : Int))) (Tree.leaf
    (Ans.mk (AV.tup [AV.v (Value.int IntKind.i32 (bitI BinOp.or IntKind.i32 (bitI BinOp.andNot IntKind.i32 (IntKind.wrap IntKind.i32 (sbyte t (Int.toNat (0 : Int)))) (Int.fdiv (IntKind.wrap
    IntKind.i32 (IntKind.wrap IntKind.i32 (↑(firstT (Int.toNat (sbyte t (Int.toNat (0 : Int))))) : Int) * (2 : Int) ^ min (Int.toNat (31 : Int)) (32 : Nat))) ((2 : Int) ^ min (Int.toNat (31
    : Int)) (32 : Nat)))) (bitI BinOp.and IntKind.i32 (65533 : Int) (Int.fdiv (IntKind.wrap IntKind.i32 (IntKind.wrap IntKind.i32 (↑(firstT (Int.toNat (sbyte t (Int.toNat (0 : Int))))) :
    Int) * (2 : Int) ^ min (Int.toNat (31 : Int)) (32 : Nat))) ((2 : Int) ^ min (Int.toNat (31 : Int)) (32 : Nat)))))), AV.v (Value.int IntKind.i64 (1 : Int))]) [])))) (Tree.chk true
    (Tree.chk (decide ((0 : Int) ≤ Int.fdiv (↑(firstT (Int.toNat (sbyte t (Int.toNat (0 : Int))))) : Int) ((2 : Int) ^ min (Int.toNat (4 : Int)) (8 : Nat))) && decide (Int.fdiv (↑(firstT
    (Int.toNat (sbyte t (Int.toNat (0 : Int))))) : Int) ((2 : Int) ^ min (Int.toNat (4 : Int)) (8 : Nat)) < (↑(16 : Nat) : Int))) (Tree.br (decide ((↑(ByteArray.size t) : Int) < IntKind.wrap
    IntKind.i64 (bitI BinOp.and IntKind.u8 (↑(firstT (Int.toNat (sbyte t (Int.toNat (0 : Int))))) : Int) (7 : Int)))) (Tree.leaf (Ans.mk (AV.tup [AV.v (Value.int IntKind.i32 (65533 : Int)),
    AV.v (Value.int IntKind.i64 (1 : Int))]) [])) (Tree.chk (decide ((1 : Int) < (↑(ByteArray.size t) : Int))) (Tree.br (bif decide (sbyte t (Int.toNat (1 : Int)) < (↑(accLo (Int.toNat
    (Int.fdiv (↑(firstT (Int.toNat (sbyte t (Int.toNat (0 : Int))))) : Int) ((2 : Int) ^ min (Int.toNat (4 : Int)) (8 : Nat))))) : Int)) then true else decide ((↑(accHi (Int.toNat (Int.fdiv
    (↑(firstT (Int.toNat (sbyte t (Int.toNat (0 : Int))))) : Int) ((2 : Int) ^ min (Int.toNat (4 : Int)) (8 : Nat))))) : Int) < sbyte t (Int.toNat (1 : Int)))) (Tree.leaf (Ans.mk (AV.tup
    [AV.v (Value.int IntKind.i32 (65533 : Int)), AV.v (Value.int IntKind.i64 (1 : Int))]) [])) (Tree.br (decide (IntKind.wrap IntKind.i64 (bitI BinOp.and IntKind.u8 (↑(firstT (Int.toNat
    (sbyte t (Int.toNat (0 : Int))))) : Int) (7 : Int)) ≤ (2 : Int))) (Tree.chk true (Tree.leaf (Ans.mk (AV.tup [AV.v (Value.int IntKind.i32 (bitI BinOp.or IntKind.i32 (IntKind.wrap
    IntKind.i32 (IntKind.wrap IntKind.i32 (bitI BinOp.and IntKind.u8 (sbyte t (Int.toNat (0 : Int))) (31 : Int)) * (2 : Int) ^ min (Int.toNat (6 : Int)) (32 : Nat))) (IntKind.wrap
    IntKind.i32 (bitI BinOp.and IntKind.u8 (sbyte t (Int.toNat (1 : Int))) (63 : Int))))), AV.v (Value.int IntKind.i64 (2 : Int))]) []))) (Tree.chk (decide ((2 : Int) < (↑(ByteArray.size t)
    : Int))) (Tree.br (bif decide (sbyte t (Int.toNat (2 : Int)) < (128 : Int)) then true else decide ((191 : Int) < sbyte t (Int.toNat (2 : Int)))) (Tree.leaf (Ans.mk (AV.tup [AV.v
    (Value.int IntKind.i32 (65533 : Int)), AV.v (Value.int IntKind.i64 (1 : Int))]) [])) (Tree.br (decide (IntKind.wrap IntKind.i64 (bitI BinOp.and IntKind.u8 (↑(firstT (Int.toNat (sbyte t
    (Int.toNat (0 : Int))))) : Int) (7 : Int)) ≤ (3 : Int))) (Tree.chk true (Tree.leaf (Ans.mk (AV.tup [AV.v (Value.int IntKind.i32 (bitI BinOp.or IntKind.i32 (bitI BinOp.or IntKind.i32
    (IntKind.wrap IntKind.i32 (IntKind.wrap IntKind.i32 (bitI BinOp.and IntKind.u8 (sbyte t (Int.toNat (0 : Int))) (15 : Int)) * (2 : Int) ^ min (Int.toNat (12 : Int)) (32 : Nat)))
    (IntKind.wrap IntKind.i32 (IntKind.wrap IntKind.i32 (bitI BinOp.and IntKind.u8 (sbyte t (Int.toNat (1 : Int))) (63 : Int)) * (2 : Int) ^ min (Int.toNat (6 : Int)) (32 : Nat))))
    (IntKind.wrap IntKind.i32 (bitI BinOp.and IntKind.u8 (sbyte t (Int.toNat (2 : Int))) (63 : Int))))), AV.v (Value.int IntKind.i64 (3 : Int))]) []))) (Tree.chk (decide ((3 : Int) <
    (↑(ByteArray.size t) : Int))) (Tree.br (bif decide (sbyte t (Int.toNat (3 : Int)) < (128 : Int)) then true else decide ((191 : Int) < sbyte t (Int.toNat (3 : Int)))) (Tree.leaf (Ans.mk
    (AV.tup [AV.v (Value.int IntKind.i32 (65533 : Int)), AV.v (Value.int IntKind.i64 (1 : Int))]) [])) (Tree.chk true (Tree.leaf (Ans.mk (AV.tup [AV.v (Value.int IntKind.i32 (bitI BinOp.or
    IntKind.i32 (bitI BinOp.or IntKind.i32 (bitI BinOp.or IntKind.i32 (IntKind.wrap IntKind.i32 (IntKind.wrap IntKind.i32 (bitI BinOp.and IntKind.u8 (sbyte t (Int.toNat (0 : Int))) (7 :
    Int)) * (2 : Int) ^ min (Int.toNat (18 : Int)) (32 : Nat))) (IntKind.wrap IntKind.i32 (IntKind.wrap IntKind.i32 (bitI BinOp.and IntKind.u8 (sbyte t (Int.toNat (1 : Int))) (63 : Int)) *
    (2 : Int) ^ min (Int.toNat (12 : Int)) (32 : Nat)))) (IntKind.wrap IntKind.i32 (IntKind.wrap IntKind.i32 (bitI BinOp.and IntKind.u8 (sbyte t (Int.toNat (2 : Int))) (63 : Int)) * (2 :
    Int) ^ min (Int.toNat (6 : Int)) (32 : Nat)))) (IntKind.wrap IntKind.i32 (bitI BinOp.and IntKind.u8 (sbyte t (Int.toNat (3 : Int))) (63 : Int))))), AV.v (Value.int IntKind.i64 (4 :
    Int))]) []))))))))))))))))) := by kernel_rfl
theorem firstT_nine (b : Nat) : firstT b = 240 ∨ firstT b = 241 ∨ firstT b = 2 ∨ firstT b = 19 ∨ firstT b = 3 ∨ firstT b = 35 ∨ firstT b = 52 ∨ firstT b = 4 ∨ firstT b = 68 := by
  unfold firstT
  repeat' split
  all_goals simp
theorem xfacts (x : Nat) (h : x = 240 ∨ x = 241 ∨ x = 2 ∨ x = 19 ∨ x = 3 ∨ x = 35 ∨ x = 52 ∨ x = 4 ∨ x = 68) :
    IntKind.wrap IntKind.i64 (bitI BinOp.and IntKind.u8 (x : Int) 7) = ((x % 8 : Nat) : Int) ∧ Int.fdiv (x : Int) ((2 : Int) ^ min (Int.toNat (4 : Int)) (8 : Nat)) = ((x / 16 : Nat) : Int) := by
  rcases h with rfl | rfl | rfl | rfl | rfl | rfl | rfl | rfl | rfl <;> exact ⟨by decide +kernel, by decide +kernel⟩
theorem slowW (n b0 b1 b2 b3 sz lo hi : Nat) : ∃ w, (slowN n b0 b1 b2 b3 sz lo hi).2 = w ∧ ((n < sz ∧ w = 1) ∨ (sz ≤ n ∧ (b1 < lo ∨ hi < b1) ∧ w = 1) ∨ (sz ≤ n ∧ lo ≤ b1 ∧ b1 ≤ hi ∧ sz ≤ 2 ∧ w = 2) ∨ (sz ≤ n ∧ lo ≤ b1 ∧ b1 ≤ hi ∧ 2 < sz ∧ (b2 < 128 ∨ 191 < b2) ∧ w = 1) ∨
    (sz ≤ n ∧ lo ≤ b1 ∧ b1 ≤ hi ∧ 2 < sz ∧ 128 ≤ b2 ∧ b2 ≤ 191 ∧ sz ≤ 3 ∧ w = 3) ∨ (sz ≤ n ∧ lo ≤ b1 ∧ b1 ≤ hi ∧ 3 < sz ∧ 128 ≤ b2 ∧ b2 ≤ 191 ∧ (b3 < 128 ∨ 191 < b3) ∧ w = 1) ∨ (sz ≤ n ∧ lo ≤ b1 ∧ b1 ≤ hi ∧ 3 < sz ∧ 128 ≤ b2 ∧ b2 ≤ 191 ∧ 128 ≤ b3 ∧ b3 ≤ 191 ∧ w = 4)) := by
  refine ⟨_, rfl, ?_⟩
  unfold slowN
  repeat' split
  all_goals simp only [and_true]
  all_goals first | omega | (simp; omega)
def decV (t : ByteArray) : AV := .tup [.any, .v (.int .i64 ((Utf8.decode t 0).2 : Int))]
set_option maxHeartbeats 4000000 in
theorem ansSlow {t : ByteArray} (h : 0 < t.size) : Answers Tryd.prog Γm 120 [.v (.string t)] [] (decV t) [] [] :=
  answers (fn := Tryd.f120) (c := bodyOf Tryd.f120) (ntmps := 117) (results := [.tmp 2, .tmp 3]) [] Lno false Tryd.func120 (by kernel_rfl) (by kernel_rfl) (by kernel_rfl) (by kernel_rfl) (by simp) rfl (noLoops (by kernel_rfl)) <| Meets.of (run120 t) <| by
    have e0 : sbyte t (Int.toNat 0) = (bN t 0 : Int) := rfl
    have e1 : sbyte t (Int.toNat 1) = (bN t 1 : Int) := rfl
    have e2 : sbyte t (Int.toNat 2) = (bN t 2 : Int) := rfl
    have e3 : sbyte t (Int.toNat 3) = (bN t 3 : Int) := rfl
    have l0 := bN_lt t 0
    have l1 := bN_lt t 1
    have l2 := bN_lt t 2
    have l3 := bN_lt t 3
    have hd := decode_bN t 0
    simp only [Nat.sub_zero, Nat.zero_add] at hd
    unfold decV
    rw [hd]
    have h9 := firstT_nine (bN t 0)
    obtain ⟨f1, f2⟩ := xfacts _ h9
    simp only [e0, e1, e2, e3, Int.toNat_natCast, f1, f2]
    rcases Nat.lt_or_ge (firstT (bN t 0)) 240 with hx | hx
    · rw [← slow_eq t.size _ _ _ _ h l1 l2 l3 hx]
      obtain ⟨w, hw, hs⟩ := slowW t.size (bN t 0) (bN t 1) (bN t 2) (bN t 3) (firstT (bN t 0) % 8) (accLo (firstT (bN t 0) / 16)) (accHi (firstT (bN t 0) / 16))
      rw [hw]
      have hz : 2 ≤ firstT (bN t 0) % 8 := by omega
      generalize accLo (firstT (bN t 0) / 16) = lo at *
      generalize accHi (firstT (bN t 0) / 16) = hi at *
      generalize firstT (bN t 0) = x at *
      generalize bN t 0 = b0 at *
      generalize bN t 1 = b1 at *
      generalize bN t 2 = b2 at *
      generalize bN t 3 = b3 at *
      clear f1 f2 hd e0 e1 e2 e3
      repeat' (first | refine wC (by first | omega | (simp only [W1, cond_true, cond_false]; first | done | omega)) ?_ | refine wT (by first | omega | (simp only [W1, cond_true, cond_false]; first | done | omega)) ?_ | refine wF (by intro _h; first | omega | (simp only [W1, cond_true, cond_false] at _h; first | done | omega)) ?_ | (refine wS ?_ ?_ <;> intro _h <;> simp only [W1, cond_true, cond_false] at _h))
      all_goals simp only [W1, W2, owesN, owesX, owesR, cond_true, cond_false]
      repeat' (first | apply And.intro | intro _hc)
      all_goals first | exact tup2 (.any _) (leI (by omega)) | exact AV.le_refl _ | exact AV.le_any _ | exact OLe.refl _ | exact OLe.none _ | exact LeH.refl _ | exact LeL.refl _ | exact AV.le.bs _ | exact AV.le.sb _ | omega | contradiction
    · have hw : (decodeN t.size (bN t 0) (bN t 1) (bN t 2) (bN t 3)).2 = 1 := by
        rcases (show firstT (bN t 0) = 240 ∨ firstT (bN t 0) = 241 by omega) with h | h
        · rw [ascii_eq _ _ _ _ _ h]
        · rw [bad_eq _ _ _ _ _ l0 h]
      rw [hw]
      repeat' (first | refine wC (by first | omega | (simp only [W1, cond_true, cond_false]; first | done | omega)) ?_ | refine wT (by first | omega | (simp only [W1, cond_true, cond_false]; first | done | omega)) ?_ | refine wF (by intro _h; first | omega | (simp only [W1, cond_true, cond_false] at _h; first | done | omega)) ?_ | (refine wS ?_ ?_ <;> intro _h <;> simp only [W1, cond_true, cond_false] at _h))
      all_goals simp only [W1, W2, owesN, owesX, owesR, cond_true, cond_false]
      repeat' (first | apply And.intro | intro _hc)
      all_goals first | exact tup2 (.any _) (leI rfl) | exact AV.le_refl _ | exact AV.le_any _ | exact OLe.refl _ | exact OLe.none _ | exact LeH.refl _ | exact LeL.refl _ | exact AV.le.bs _ | exact AV.le.sb _ | omega | contradiction
noncomputable def k120 : CT Tryd.prog Γm := CT.oS 120 Tryd.func120 (by kernel_rfl) (by kernel_rfl) (fun s => 0 < s.size) decV (fun _ => []) (fun s h => ansSlow h)
theorem run110 (t : ByteArray) : bodyE (P := Tryd.prog) (Γ := Γm) [k120] Lno false 19 [.tmp 2, .tmp 3] (bodyOf Tryd.f110) [.v (.string t)] [] =
  Tree.chk (bif !decide (t = ByteArray.mk #[]) then decide ((0 : Int) < (↑(ByteArray.size t) : Int)) else true) (Tree.br (bif !decide (t = ByteArray.mk #[]) then decide (sbyte t (Int.toNat (0
    : Int)) < (128 : Int)) else false) (Tree.chk (decide ((0 : Int) < (↑(ByteArray.size t) : Int))) (Tree.leaf (Ans.mk (AV.tup [AV.v (Value.int IntKind.i32 (IntKind.wrap IntKind.i32 (sbyte t
    (Int.toNat (0 : Int))))), AV.v (Value.int IntKind.i64 (1 : Int))]) []))) (Tree.chk (cl ((0 : Nat) < ByteArray.size t ∧ LeL [AV.v (Value.string t)] [AV.v (Value.string t)] ∧ LeH [] []))
    (Tree.leaf (Ans.mk (AV.tup [AV.any, AV.v (Value.int IntKind.i64 (↑(Utf8.decode t (0 : Nat)).snd : Int))]) [])))) := by kernel_rfl
theorem ansDec {t : ByteArray} (h : 0 < t.size) : Answers Tryd.prog Γm 110 [.v (.string t)] [] (decV t) [] [] :=
  answers (fn := Tryd.f110) (c := bodyOf Tryd.f110) (ntmps := 19) (results := [.tmp 2, .tmp 3]) [k120] Lno false Tryd.func110 (by kernel_rfl) (by kernel_rfl) (by kernel_rfl) (by kernel_rfl) (by simp) rfl (noLoops (by kernel_rfl)) <| Meets.of (run110 t) <| by
    have e0 : sbyte t (Int.toNat 0) = (bN t 0 : Int) := rfl
    have hE : ¬ t = ⟨#[]⟩ := fun e => by subst e; cases h
    have hE' : decide (t = ⟨#[]⟩) = false := decide_eq_false hE
    rcases Nat.lt_or_ge (bN t 0) 128 with hb | hb
    · have hw : (Utf8.decode t 0).2 = 1 := by
        rw [decode_bN]
        unfold decodeN
        rw [if_pos hb]
      unfold decV
      rw [hw]
      repeat' (first | refine wC (by first | omega | (simp only [W1, cond_true, cond_false, e0, hE', hE]; first | done | omega)) ?_ | refine wT (by first | omega | (simp only [W1, cond_true, cond_false, e0, hE', hE]; first | done | omega)) ?_ | refine wF (by intro _h; first | omega | (simp only [W1, cond_true, cond_false, e0, hE', hE] at _h; first | done | omega)) ?_ | (refine wS ?_ ?_ <;> intro _h <;> simp only [W1, cond_true, cond_false, e0, hE', hE] at _h))
      all_goals simp only [W1, W2, owesN, owesX, owesR, cond_true, cond_false, e0, hE', hE]
      repeat' (first | apply And.intro | intro _hc)
      all_goals first | exact tup2 (.any _) (leI rfl) | exact AV.le_refl _ | exact AV.le_any _ | exact OLe.refl _ | exact OLe.none _ | exact LeH.refl _ | exact LeL.refl _ | exact AV.le.bs _ | exact AV.le.sb _ | omega | contradiction
    · repeat' (first | refine wC (by first | omega | (simp only [W1, cond_true, cond_false, e0, hE', hE]; first | done | omega)) ?_ | refine wT (by first | omega | (simp only [W1, cond_true, cond_false, e0, hE', hE]; first | done | omega)) ?_ | refine wF (by intro _h; first | omega | (simp only [W1, cond_true, cond_false, e0, hE', hE] at _h; first | done | omega)) ?_ | (refine wS ?_ ?_ <;> intro _h <;> simp only [W1, cond_true, cond_false, e0, hE', hE] at _h))
      all_goals simp only [W1, W2, owesN, owesX, owesR, cond_true, cond_false, e0, hE', hE]
      repeat' (first | apply And.intro | intro _hc)
      all_goals first | exact tup2 (.any _) (leI rfl) | exact AV.le_refl _ | exact AV.le_any _ | exact OLe.refl _ | exact OLe.none _ | exact LeH.refl _ | exact LeL.refl _ | exact AV.le.bs _ | exact AV.le.sb _ | omega | contradiction
noncomputable def k110 : CT Tryd.prog Γm := CT.oS 110 Tryd.func110 (by kernel_rfl) (by kernel_rfl) (fun s => 0 < s.size) decV (fun _ => []) (fun s h => ansDec h)
/-! ### broken -/
def ofSPC : List AV → List Blk → Option (ByteArray × Int × Int)
  | [.v (.string s), .v (.int _ p), .v (.int _ c)], [] => some (s, p, c)
  | _, _ => none
theorem run75 (s : ByteArray) (p c : Int) : bodyE (P := Tryd.prog) (Γ := Γm) [k110] Lno false 20 [.tmp 6] (bodyOf Tryd.f75) [.v (.string s), .v (.int .i64 p), .v (.int .i32 c)] [] =
  Tree.br (!decide (c = (65533 : Int))) (Tree.leaf (Ans.mk (AV.v (Value.bool false)) [])) (Tree.chk (decide ((0 : Int) ≤ p) && decide (p ≤ (↑(ByteArray.size s) : Int)) && decide
    ((↑(ByteArray.size s) : Int) ≤ (↑(ByteArray.size s) : Int)) && cl ((0 : Nat) < ByteArray.size (ByteArray.extract s (Int.toNat p) (ByteArray.size s)) ∧ LeL [AV.v (Value.string
    (ByteArray.extract s (Int.toNat p) (ByteArray.size s)))] [AV.v (Value.string (ByteArray.extract s (Int.toNat p) (ByteArray.size s)))] ∧ LeH [] [])) (Tree.leaf (Ans.mk (AV.sb (decide
    ((↑(Utf8.decode (ByteArray.extract s (Int.toNat p) (ByteArray.size s)) (0 : Nat)).snd : Int) = (1 : Int)))) []))) := by kernel_rfl
theorem ansBrk {s : ByteArray} {p : Nat} (hp : p < s.size) : Answers Tryd.prog Γm 75 [.v (.string s), .v (.int .i64 (p : Int)), .v (.int .i32 ((Utf8.decode s p).1 : Int))] [] (.sb (!okAt s p)) [] [] :=
  answers (fn := Tryd.f75) (c := bodyOf Tryd.f75) (ntmps := 20) (results := [.tmp 6]) [k110] Lno false Tryd.func75 (by kernel_rfl) (by kernel_rfl) (by kernel_rfl) (by kernel_rfl) (by simp) rfl (noLoops (by kernel_rfl)) <| Meets.of (run75 s p ((Utf8.decode s p).1 : Int)) <| by
    have hz : (s.extract p s.size).size = s.size - p := ext_size _ _ _ (Nat.le_refl _)
    have hde := dec_ext (s := s) (p := p) (by omega)
    by_cases hc : (Utf8.decode s p).1 = 65533
    · by_cases hw : (Utf8.decode s p).2 = 1
      · rw [okAt_f (Prod.ext hc hw)]
        repeat' (first | refine wC (by first | omega | (simp only [W1, cond_true, cond_false, hz, hde, hc, hw]; first | done | omega)) ?_ | refine wT (by first | omega | (simp only [W1, cond_true, cond_false, hz, hde, hc, hw]; first | done | omega)) ?_ | refine wF (by intro _h; first | omega | (simp only [W1, cond_true, cond_false, hz, hde, hc, hw] at _h; first | done | omega)) ?_ | (refine wS ?_ ?_ <;> intro _h <;> simp only [W1, cond_true, cond_false, hz, hde, hc, hw] at _h))
        all_goals simp only [W1, W2, owesN, owesX, owesR, cond_true, cond_false, hz, hde, hc, hw]
        repeat' (first | apply And.intro | intro _hc)
        all_goals first | exact leB' (by simp [hde, hw]) | exact AV.le_refl _ | exact AV.le_any _ | exact OLe.refl _ | exact OLe.none _ | exact LeH.refl _ | exact LeL.refl _ | exact AV.le.bs _ | exact AV.le.sb _ | omega | contradiction
      · rw [okAt_t rfl (fun e => hw (congrArg Prod.snd e))]
        repeat' (first | refine wC (by first | omega | (simp only [W1, cond_true, cond_false, hz, hde, hc]; first | done | omega)) ?_ | refine wT (by first | omega | (simp only [W1, cond_true, cond_false, hz, hde, hc]; first | done | omega)) ?_ | refine wF (by intro _h; first | omega | (simp only [W1, cond_true, cond_false, hz, hde, hc] at _h; first | done | omega)) ?_ | (refine wS ?_ ?_ <;> intro _h <;> simp only [W1, cond_true, cond_false, hz, hde, hc] at _h))
        all_goals simp only [W1, W2, owesN, owesX, owesR, cond_true, cond_false, hz, hde, hc]
        repeat' (first | apply And.intro | intro _hc)
        all_goals first | exact leB' (decide_eq_false (by omega)) | exact AV.le_refl _ | exact AV.le_any _ | exact OLe.refl _ | exact OLe.none _ | exact LeH.refl _ | exact LeL.refl _ | exact AV.le.bs _ | exact AV.le.sb _ | omega | contradiction
    · rw [okAt_t rfl (fun e => hc (congrArg Prod.fst e))]
      repeat' (first | refine wC (by first | omega | (simp only [W1, cond_true, cond_false]; first | done | omega)) ?_ | refine wT (by first | omega | (simp only [W1, cond_true, cond_false]; first | done | omega)) ?_ | refine wF (by intro _h; first | omega | (simp only [W1, cond_true, cond_false] at _h; first | done | omega)) ?_ | (refine wS ?_ ?_ <;> intro _h <;> simp only [W1, cond_true, cond_false] at _h))
      all_goals simp only [W1, W2, owesN, owesX, owesR, cond_true, cond_false]
      repeat' (first | apply And.intro | intro _hc)
      all_goals first | exact AV.le_refl _ | exact AV.le_any _ | exact OLe.refl _ | exact OLe.none _ | exact LeH.refl _ | exact LeL.refl _ | exact AV.le.bs _ | exact AV.le.sb _ | omega | contradiction
noncomputable def k75 : CT Tryd.prog Γm := CT.par 75 ofSPC (fun x => 0 ≤ x.2.1 ∧ x.2.1 < (x.1.size : Int) ∧ x.2.2 = ((Utf8.decode x.1 x.2.1.toNat).1 : Int)) (fun x => [.v (.string x.1), .v (.int .i64 x.2.1), .v (.int .i32 x.2.2)]) (fun _ => []) (fun x => .sb (!okAt x.1 x.2.1.toNat)) (fun _ => []) (fun _ => [])
  (callFunc_enters Tryd.func75 (by kernel_rfl) (by kernel_rfl)) (fun x ⟨h1, h2, h3⟩ => by
    obtain ⟨s, p, c⟩ := x
    obtain ⟨q, rfl⟩ := Int.eq_ofNat_of_zero_le h1
    dsimp only at h2 h3 ⊢
    rw [h3]
    simp only [Int.toNat_natCast]
    exact ansBrk (by omega))
end Go.Eng.TA

/- names: which texts are values. -/
namespace Go.Eng.TA
open Go Go.Eng Go.Eng.M Go.Lib Go.Proofs
set_option linter.unusedSimpArgs false
set_option linter.unusedVariables false
def valN (c : Nat) : Bool := decide (32 ≤ c ∧ c ≠ 127)
def fineV (s : ByteArray) (p : Nat) : Bool := (rns s p).all valN && good s p
/-- is it a value? -/
def valueB (s : ByteArray) : Bool := fineV s 0 && decide ((rns s 0).length ≤ 32)
noncomputable abbrev lpVal : Code := loopOf (bodyOf Tryd.f22) 0
def SVal (s : ByteArray) (x : XP) : List AV × Heap := ([.v (.string s), .v (.int .i64 (x.k : Int)), .its 0, .any], [some (.sit s x.p)])
def retVal : Out := ⟨.ret, [.any, .any, .any, .v (.int .i64 20)], [none]⟩
def endVal (s : ByteArray) : Out := ⟨.exit 0, [.any, .v (.int .i64 ((rns s 0).length : Int)), .any, .any], [none]⟩
def OVal (s : ByteArray) : Out := bif fineV s 0 then endVal s else retVal
theorem rVal (s : ByteArray) (x : XP) : roundE (P := Tryd.prog) (Γ := Γm) [k75] Lno false 0 0 lpVal [0, 3, 7, 2] [] 28 (SVal s x).1 (SVal s x).2 =
  Tree.br (decide (x.p < ByteArray.size s)) (Tree.chk (bif decide ((↑(Utf8.decode s x.p).fst : Int) < (32 : Int)) then true else bif decide ((↑(Utf8.decode s x.p).fst : Int) = (127 : Int))
    then true else cl (((0 : Int) ≤ (↑x.p : Int) ∧ (↑x.p : Int) < (↑(ByteArray.size s) : Int) ∧ (↑(Utf8.decode s x.p).fst : Int) = (↑(Utf8.decode s x.p).fst : Int)) ∧ LeL [AV.v (Value.string
    s), AV.v (Value.int IntKind.i64 (↑x.p : Int)), AV.v (Value.int IntKind.i32 (↑(Utf8.decode s x.p).fst : Int))] [AV.v (Value.string s), AV.v (Value.int IntKind.i64 (↑x.p : Int)), AV.v
    (Value.int IntKind.i32 (↑(Utf8.decode s x.p).fst : Int))] ∧ LeH [] [])) (Tree.br (bif decide ((↑(Utf8.decode s x.p).fst : Int) < (32 : Int)) then true else bif decide ((↑(Utf8.decode s
    x.p).fst : Int) = (127 : Int)) then true else !okAt s x.p) (Tree.leaf (Out.mk AEx.ret [AV.v (Value.string s), AV.v (Value.int IntKind.i64 (↑x.k : Int)), AV.its (0 : Nat), AV.v (Value.int
    IntKind.i64 (20 : Int))] [some (Blk.sit s (x.p + (Utf8.decode s x.p).snd))])) (Tree.leaf (Out.mk AEx.normal [AV.v (Value.string s), AV.v (Value.int IntKind.i64 (IntKind.wrap IntKind.i64
    ((↑x.k : Int) + (1 : Int)))), AV.its (0 : Nat), AV.any] [some (Blk.sit s (x.p + (Utf8.decode s x.p).snd))])))) (Tree.leaf (Out.mk (AEx.exit (0 : Nat)) [AV.v (Value.string s), AV.v
    (Value.int IntKind.i64 (↑x.k : Int)), AV.its (0 : Nat), AV.any] [some (Blk.sit s x.p)])) := by kernel_rfl
theorem loopVal {s : ByteArray} (hs : s.size ≤ 1000000000) : ∀ x : XP, (x.p ≤ s.size ∧ x.k + (rns s x.p).length = (rns s 0).length ∧ fineV s x.p = fineV s 0) → LoopOK Tryd.prog Γm 0 28 lpVal (LSpec.at [0, 3, 7, 2] [] (SVal s x) (OVal s)) := by
  refine loop_at (S := SVal s) (O := fun _ => OVal s) (k := 0) (fun x => s.size - x.p) fun x hp => .of (noLoops (by kernel_rfl)) (rVal s x) ?_
  obtain ⟨p, k⟩ := x
  obtain ⟨h1, h2, h3⟩ := hp
  have hl : (rns s 0).length ≤ s.size - 0 := rns_len
  dsimp only at h1 h2 h3
  rcases Nat.lt_or_ge p s.size with hi | hi
  · have hst := rns_step hi
    have hd := dec_pos s p
    have hle := dec_le hi
    rw [hst, List.length_cons] at h2
    have hf : fineV s p = ((valN (Utf8.decode s p).1 && okAt s p) && fineV s (p + (Utf8.decode s p).2)) := by
      unfold fineV
      rw [hst, List.all_cons, good_ok hi]
      cases valN (Utf8.decode s p).1 <;> cases okAt s p <;> simp
    by_cases hv : 32 ≤ (Utf8.decode s p).1 ∧ (Utf8.decode s p).1 ≠ 127
    · rw [show valN (Utf8.decode s p).1 = true from decide_eq_true hv, Bool.true_and] at hf
      cases ho : okAt s p with
      | true =>
        rw [ho, Bool.true_and] at hf
        repeat' (first | refine wC (by first | omega | (simp only [W1, cond_true, cond_false, ho, wrapUpN (show k ≤ 10000000000 by omega)]; first | done | omega)) ?_ | refine wT (by first | omega | (simp only [W1, cond_true, cond_false, ho, wrapUpN (show k ≤ 10000000000 by omega)]; first | done | omega)) ?_ | refine wF (by intro _h; first | omega | (simp only [W1, cond_true, cond_false, ho, wrapUpN (show k ≤ 10000000000 by omega)] at _h; first | done | omega)) ?_ | (refine wS ?_ ?_ <;> intro _h <;> simp only [W1, cond_true, cond_false, ho, wrapUpN (show k ≤ 10000000000 by omega)] at _h))
        all_goals simp only [W1, W2, owesN, owesX, owesR, cond_true, cond_false, ho, wrapUpN (show k ≤ 10000000000 by omega)]
        repeat' (first | apply And.intro | intro _hc)
        all_goals first | exact ⟨⟨p + (Utf8.decode s p).2, k + 1⟩, LeL.refl _, LeH.refl _, ⟨hle, by dsimp only; omega, by dsimp only; rw [← hf, h3]⟩, by dsimp only; omega⟩ | exact AV.le_refl _ | exact AV.le_any _ | exact OLe.refl _ | exact OLe.none _ | exact LeH.refl _ | exact LeL.refl _ | exact AV.le.bs _ | exact AV.le.sb _ | omega | contradiction
      | false =>
        rw [ho, Bool.false_and] at hf
        rw [show OVal s = retVal by unfold OVal; rw [← h3, hf]; rfl]
        repeat' (first | refine wC (by first | omega | (simp only [W1, cond_true, cond_false, ho]; first | done | omega)) ?_ | refine wT (by first | omega | (simp only [W1, cond_true, cond_false, ho]; first | done | omega)) ?_ | refine wF (by intro _h; first | omega | (simp only [W1, cond_true, cond_false, ho] at _h; first | done | omega)) ?_ | (refine wS ?_ ?_ <;> intro _h <;> simp only [W1, cond_true, cond_false, ho] at _h))
        all_goals simp only [W1, W2, owesN, owesX, owesR, cond_true, cond_false, ho]
        repeat' (first | apply And.intro | intro _hc)
        all_goals first | exact rfl | exact AV.le_refl _ | exact AV.le_any _ | exact OLe.refl _ | exact OLe.none _ | exact LeH.refl _ | exact LeL.refl _ | exact AV.le.bs _ | exact AV.le.sb _ | omega | contradiction
    · rw [show valN (Utf8.decode s p).1 = false from decide_eq_false hv, Bool.false_and, Bool.false_and] at hf
      rw [show OVal s = retVal by unfold OVal; rw [← h3, hf]; rfl]
      repeat' (first | refine wC (by first | omega | (simp only [W1, cond_true, cond_false]; first | done | omega)) ?_ | refine wT (by first | omega | (simp only [W1, cond_true, cond_false]; first | done | omega)) ?_ | refine wF (by intro _h; first | omega | (simp only [W1, cond_true, cond_false] at _h; first | done | omega)) ?_ | (refine wS ?_ ?_ <;> intro _h <;> simp only [W1, cond_true, cond_false] at _h))
      all_goals simp only [W1, W2, owesN, owesX, owesR, cond_true, cond_false]
      repeat' (first | apply And.intro | intro _hc)
      all_goals first | exact rfl | exact AV.le_refl _ | exact AV.le_any _ | exact OLe.refl _ | exact OLe.none _ | exact LeH.refl _ | exact LeL.refl _ | exact AV.le.bs _ | exact AV.le.sb _ | omega | contradiction
  · rw [rns_end hi, List.length_nil] at h2
    have h2 : k = (rns s 0).length := by omega
    subst h2
    have hf : fineV s 0 = true := by
      rw [← h3]; unfold fineV; rw [rns_end hi, good_end hi]; rfl
    rw [show OVal s = endVal s by unfold OVal; rw [hf]; rfl]
    repeat' (first | refine wC (by first | omega | (simp only [W1, cond_true, cond_false]; first | done | omega)) ?_ | refine wT (by first | omega | (simp only [W1, cond_true, cond_false]; first | done | omega)) ?_ | refine wF (by intro _h; first | omega | (simp only [W1, cond_true, cond_false] at _h; first | done | omega)) ?_ | (refine wS ?_ ?_ <;> intro _h <;> simp only [W1, cond_true, cond_false] at _h))
    all_goals simp only [W1, W2, owesN, owesX, owesR, cond_true, cond_false]
    repeat' (first | apply And.intro | intro _hc)
    all_goals first | exact rfl | exact AV.le_refl _ | exact AV.le_any _ | exact OLe.refl _ | exact OLe.none _ | exact LeH.refl _ | exact LeL.refl _ | exact AV.le.bs _ | exact AV.le.sb _ | omega | contradiction
theorem runValE (s : ByteArray) : bodyE (P := Tryd.prog) (Γ := Γm) [] (fun _ => LSpec.at [0, 3, 7, 2] [] (SVal s ⟨0, 0⟩) (endVal s)) false 28 [.tmp 2] (bodyOf Tryd.f22) [.v (.string s)] [] =
  Tree.chk (cl (LeL [AV.v (Value.string s), AV.v (Value.int IntKind.i64 (0 : Int)), AV.its (0 : Nat), AV.v (Value.int IntKind.i64 (0 : Int))] [AV.v (Value.string s), AV.v (Value.int
    IntKind.i64 (↑(0 : Nat) : Int)), AV.its (0 : Nat), AV.any] ∧ LeH [some (Blk.sit s (0 : Nat))] [some (Blk.sit s (0 : Nat))])) (Tree.br (decide ((32 : Int) < (↑(List.length (rns s (0 :
    Nat))) : Int))) (Tree.leaf (Ans.mk (AV.v (Value.int IntKind.i64 (20 : Int))) [])) (Tree.leaf (Ans.mk (AV.v (Value.int IntKind.i64 (0 : Int))) []))) := by kernel_rfl
theorem runValR (s : ByteArray) : bodyE (P := Tryd.prog) (Γ := Γm) [] (fun _ => LSpec.at [0, 3, 7, 2] [] (SVal s ⟨0, 0⟩) retVal) false 28 [.tmp 2] (bodyOf Tryd.f22) [.v (.string s)] [] =
  Tree.chk (cl (LeL [AV.v (Value.string s), AV.v (Value.int IntKind.i64 (0 : Int)), AV.its (0 : Nat), AV.v (Value.int IntKind.i64 (0 : Int))] [AV.v (Value.string s), AV.v (Value.int
    IntKind.i64 (↑(0 : Nat) : Int)), AV.its (0 : Nat), AV.any] ∧ LeH [some (Blk.sit s (0 : Nat))] [some (Blk.sit s (0 : Nat))])) (Tree.leaf (Ans.mk (AV.v (Value.int IntKind.i64 (20 : Int)))
    [])) := by kernel_rfl
theorem ansVal {s : ByteArray} (hs : s.size ≤ 1000000000) : Answers Tryd.prog Γm 22 [.v (.string s)] [] (.v (.int .i64 (erN (valueB s)))) [] [] := by
  have hl := loopVal hs ⟨0, 0⟩ ⟨Nat.zero_le _, Nat.zero_add _, rfl⟩
  unfold OVal at hl
  unfold valueB
  cases hf : fineV s 0 with
  | true =>
    rw [hf, cond_true] at hl
    refine answers (fn := Tryd.f22) (c := bodyOf Tryd.f22) (ntmps := 28) (results := [.tmp 2]) [] (fun _ => LSpec.at [0, 3, 7, 2] [] (SVal s ⟨0, 0⟩) (endVal s)) false Tryd.func22 (by kernel_rfl) (by kernel_rfl) (by kernel_rfl) (by kernel_rfl) (by simp) rfl (oneLoop (b := lpVal) (by kernel_rfl) hl) <| Meets.of (runValE s) <| ?_
    by_cases h : (rns s 0).length ≤ 32
    · rw [decide_eq_true h]
      repeat' (first | refine wC (by first | omega | (simp only [W1, cond_true, cond_false]; first | done | omega)) ?_ | refine wT (by first | omega | (simp only [W1, cond_true, cond_false]; first | done | omega)) ?_ | refine wF (by intro _h; first | omega | (simp only [W1, cond_true, cond_false] at _h; first | done | omega)) ?_ | (refine wS ?_ ?_ <;> intro _h <;> simp only [W1, cond_true, cond_false] at _h))
      all_goals simp only [W1, W2, owesN, owesX, owesR, cond_true, cond_false]
      repeat' (first | apply And.intro | intro _hc)
      all_goals first | exact leI rfl | exact AV.le_refl _ | exact AV.le_any _ | exact OLe.refl _ | exact OLe.none _ | exact LeH.refl _ | exact LeL.refl _ | exact AV.le.bs _ | exact AV.le.sb _ | omega | contradiction
    · rw [decide_eq_false h]
      repeat' (first | refine wC (by first | omega | (simp only [W1, cond_true, cond_false]; first | done | omega)) ?_ | refine wT (by first | omega | (simp only [W1, cond_true, cond_false]; first | done | omega)) ?_ | refine wF (by intro _h; first | omega | (simp only [W1, cond_true, cond_false] at _h; first | done | omega)) ?_ | (refine wS ?_ ?_ <;> intro _h <;> simp only [W1, cond_true, cond_false] at _h))
      all_goals simp only [W1, W2, owesN, owesX, owesR, cond_true, cond_false]
      repeat' (first | apply And.intro | intro _hc)
      all_goals first | exact leI rfl | exact AV.le_refl _ | exact AV.le_any _ | exact OLe.refl _ | exact OLe.none _ | exact LeH.refl _ | exact LeL.refl _ | exact AV.le.bs _ | exact AV.le.sb _ | omega | contradiction
  | false =>
    rw [hf, cond_false] at hl
    refine answers (fn := Tryd.f22) (c := bodyOf Tryd.f22) (ntmps := 28) (results := [.tmp 2]) [] (fun _ => LSpec.at [0, 3, 7, 2] [] (SVal s ⟨0, 0⟩) retVal) false Tryd.func22 (by kernel_rfl) (by kernel_rfl) (by kernel_rfl) (by kernel_rfl) (by simp) rfl (oneLoop (b := lpVal) (by kernel_rfl) hl) <| Meets.of (runValR s) <| ?_
    repeat' (first | refine wC (by first | omega | (simp only [W1, cond_true, cond_false]; first | done | omega)) ?_ | refine wT (by first | omega | (simp only [W1, cond_true, cond_false]; first | done | omega)) ?_ | refine wF (by intro _h; first | omega | (simp only [W1, cond_true, cond_false] at _h; first | done | omega)) ?_ | (refine wS ?_ ?_ <;> intro _h <;> simp only [W1, cond_true, cond_false] at _h))
    all_goals simp only [W1, W2, owesN, owesX, owesR, cond_true, cond_false]
    repeat' (first | apply And.intro | intro _hc)
    all_goals first | exact leI rfl | exact AV.le_refl _ | exact AV.le_any _ | exact OLe.refl _ | exact OLe.none _ | exact LeH.refl _ | exact LeL.refl _ | exact AV.le.bs _ | exact AV.le.sb _ | omega | contradiction
noncomputable def kVal : CT Tryd.prog Γm := CT.oS 22 Tryd.func22 (by kernel_rfl) (by kernel_rfl) (fun s => s.size ≤ 1000000000) (fun s => .v (.int .i64 (erN (valueB s)))) (fun _ => []) (fun s h => ansVal h)
/-! ### the document's -/
noncomputable abbrev lpValR : Code := loopOf (bodyOf Tryd.f23) 0
def SValR (l : List Nat) (i : Nat) : List AV × Heap := ([.hs 0 0 l.length, .v (.int .i64 (i : Int)), .any], [some (i1B l)])
def OValR (l : List Nat) : Out := bif l.all valN then ⟨.exit 0, [.any, .any, .any], [none]⟩ else ⟨.ret, [.any, .any, .v (.bool false)], [none]⟩
theorem rValR (l : List Nat) (i : Nat) : roundE (P := Tryd.prog) (Γ := Γm) [] Lno false 0 0 lpValR [3, 5, 2] [] 36 (SValR l i).1 (SValR l i).2 =
  Tree.br (decide ((↑i : Int) < (↑(List.length l) : Int))) (Tree.chk (decide ((0 : Int) ≤ (↑i : Int)) && decide ((↑i : Int) < (↑(List.length l) : Int)) && bif decide ((↑(List.getD l ((0 : Nat)
    + i) default) : Int) < (32 : Int)) then true else decide ((0 : Int) ≤ (↑i : Int)) && decide ((↑i : Int) < (↑(List.length l) : Int))) (Tree.br (bif decide ((↑(List.getD l ((0 : Nat) + i)
    default) : Int) < (32 : Int)) then true else decide ((↑(List.getD l ((0 : Nat) + i) default) : Int) = (127 : Int))) (Tree.leaf (Out.mk AEx.ret [AV.hs (0 : Nat) (0 : Nat) (List.length l),
    AV.v (Value.int IntKind.i64 (↑i : Int)), AV.v (Value.bool false)] [some (Blk.arr (1 : Nat) (List.length l) (lsF I1.c l))])) (Tree.leaf (Out.mk AEx.normal [AV.hs (0 : Nat) (0 : Nat)
    (List.length l), AV.v (Value.int IntKind.i64 (IntKind.wrap IntKind.i64 ((↑i : Int) + (1 : Int)))), AV.any] [some (Blk.arr (1 : Nat) (List.length l) (lsF I1.c l))])))) (Tree.leaf (Out.mk
    (AEx.exit (0 : Nat)) [AV.hs (0 : Nat) (0 : Nat) (List.length l), AV.v (Value.int IntKind.i64 (↑i : Int)), AV.any] [some (Blk.arr (1 : Nat) (List.length l) (lsF I1.c l))])) := by kernel_rfl
theorem loopValR {l : List Nat} (hs : l.length ≤ 1000000000) : ∀ i : Nat, (i ≤ l.length ∧ (l.drop i).all valN = l.all valN) → LoopOK Tryd.prog Γm 0 36 lpValR (LSpec.at [3, 5, 2] [] (SValR l i) (OValR l)) := by
  refine loop_at (S := SValR l) (O := fun _ => OValR l) (k := 0) (fun i => l.length - i) fun i hp => .of (noLoops (by kernel_rfl)) (rValR l i) ?_
  obtain ⟨h1, h2⟩ := hp
  rcases Nat.lt_or_ge i l.length with hi | hi
  · rw [all_drop hi] at h2
    by_cases hv : 32 ≤ l.getD i default ∧ l.getD i default ≠ 127
    · rw [show valN (l.getD i default) = true from decide_eq_true hv, Bool.true_and] at h2
      repeat' (first | refine wC (by first | omega | (simp only [W1, cond_true, cond_false, wrapUpN (show i ≤ 10000000000 by omega)]; first | done | omega)) ?_ | refine wT (by first | omega | (simp only [W1, cond_true, cond_false, wrapUpN (show i ≤ 10000000000 by omega)]; first | done | omega)) ?_ | refine wF (by intro _h; first | omega | (simp only [W1, cond_true, cond_false, wrapUpN (show i ≤ 10000000000 by omega)] at _h; first | done | omega)) ?_ | (refine wS ?_ ?_ <;> intro _h <;> simp only [W1, cond_true, cond_false, wrapUpN (show i ≤ 10000000000 by omega)] at _h))
      all_goals simp only [W1, W2, owesN, owesX, owesR, cond_true, cond_false, wrapUpN (show i ≤ 10000000000 by omega)]
      repeat' (first | apply And.intro | intro _hc)
      all_goals first | exact ⟨i + 1, LeL.refl _, LeH.refl _, ⟨hi, h2⟩, by omega⟩ | exact AV.le_refl _ | exact AV.le_any _ | exact OLe.refl _ | exact OLe.none _ | exact LeH.refl _ | exact LeL.refl _ | exact AV.le.bs _ | exact AV.le.sb _ | omega | contradiction
    · rw [show valN (l.getD i default) = false from decide_eq_false hv, Bool.false_and] at h2
      unfold OValR
      rw [← h2, cond_false]
      repeat' (first | refine wC (by first | omega | (simp only [W1, cond_true, cond_false]; first | done | omega)) ?_ | refine wT (by first | omega | (simp only [W1, cond_true, cond_false]; first | done | omega)) ?_ | refine wF (by intro _h; first | omega | (simp only [W1, cond_true, cond_false] at _h; first | done | omega)) ?_ | (refine wS ?_ ?_ <;> intro _h <;> simp only [W1, cond_true, cond_false] at _h))
      all_goals simp only [W1, W2, owesN, owesX, owesR, cond_true, cond_false]
      repeat' (first | apply And.intro | intro _hc)
      all_goals first | exact rfl | exact AV.le_refl _ | exact AV.le_any _ | exact OLe.refl _ | exact OLe.none _ | exact LeH.refl _ | exact LeL.refl _ | exact AV.le.bs _ | exact AV.le.sb _ | omega | contradiction
  · rw [List.drop_eq_nil_of_le hi] at h2
    unfold OValR
    rw [← h2, List.all_nil, cond_true]
    repeat' (first | refine wC (by first | omega | (simp only [W1, cond_true, cond_false]; first | done | omega)) ?_ | refine wT (by first | omega | (simp only [W1, cond_true, cond_false]; first | done | omega)) ?_ | refine wF (by intro _h; first | omega | (simp only [W1, cond_true, cond_false] at _h; first | done | omega)) ?_ | (refine wS ?_ ?_ <;> intro _h <;> simp only [W1, cond_true, cond_false] at _h))
    all_goals simp only [W1, W2, owesN, owesX, owesR, cond_true, cond_false]
    repeat' (first | apply And.intro | intro _hc)
    all_goals first | exact rfl | exact AV.le_refl _ | exact AV.le_any _ | exact OLe.refl _ | exact OLe.none _ | exact LeH.refl _ | exact LeL.refl _ | exact AV.le.bs _ | exact AV.le.sb _ | omega | contradiction
theorem runValRE (s : ByteArray) : bodyE (P := Tryd.prog) (Γ := Γm) [kRun] (fun _ => LSpec.at [3, 5, 2] [] (SValR (rns s 0) 0) ⟨.exit 0, [.any, .any, .any], [none]⟩) false 36 [.tmp 2] (bodyOf Tryd.f23) [.v (.string s)] [] =
  Tree.chk (cl (ByteArray.size s ≤ (100000000 : Nat) ∧ LeL [AV.v (Value.string s)] [AV.v (Value.string s)] ∧ LeH [] [])) (Tree.br (bif !good s (0 : Nat) then true else decide ((32 : Int) <
    (↑(List.length (rns s (0 : Nat))) : Int))) (Tree.leaf (Ans.mk (AV.v (Value.bool false)) [])) (Tree.chk (cl (LeL [AV.hs (0 : Nat) (0 : Nat) (List.length (rns s (0 : Nat))), AV.v
    (Value.int IntKind.i64 (0 : Int)), AV.v (Value.bool false)] [AV.hs (0 : Nat) (0 : Nat) (List.length (rns s (0 : Nat))), AV.v (Value.int IntKind.i64 (↑(0 : Nat) : Int)), AV.any] ∧ LeH
    [some (Blk.arr (1 : Nat) (List.length (rns s (0 : Nat))) (lsF I1.c (rns s (0 : Nat))))] [some (Blk.arr (1 : Nat) (List.length (rns s (0 : Nat))) (lsF I1.c (rns s (0 : Nat))))]))
    (Tree.leaf (Ans.mk (AV.v (Value.bool true)) [])))) := by kernel_rfl
theorem runValRR (s : ByteArray) : bodyE (P := Tryd.prog) (Γ := Γm) [kRun] (fun _ => LSpec.at [3, 5, 2] [] (SValR (rns s 0) 0) ⟨.ret, [.any, .any, .v (.bool false)], [none]⟩) false 36 [.tmp 2] (bodyOf Tryd.f23) [.v (.string s)] [] =
  Tree.chk (cl (ByteArray.size s ≤ (100000000 : Nat) ∧ LeL [AV.v (Value.string s)] [AV.v (Value.string s)] ∧ LeH [] [])) (Tree.br (bif !good s (0 : Nat) then true else decide ((32 : Int) <
    (↑(List.length (rns s (0 : Nat))) : Int))) (Tree.leaf (Ans.mk (AV.v (Value.bool false)) [])) (Tree.chk (cl (LeL [AV.hs (0 : Nat) (0 : Nat) (List.length (rns s (0 : Nat))), AV.v
    (Value.int IntKind.i64 (0 : Int)), AV.v (Value.bool false)] [AV.hs (0 : Nat) (0 : Nat) (List.length (rns s (0 : Nat))), AV.v (Value.int IntKind.i64 (↑(0 : Nat) : Int)), AV.any] ∧ LeH
    [some (Blk.arr (1 : Nat) (List.length (rns s (0 : Nat))) (lsF I1.c (rns s (0 : Nat))))] [some (Blk.arr (1 : Nat) (List.length (rns s (0 : Nat))) (lsF I1.c (rns s (0 : Nat))))]))
    (Tree.leaf (Ans.mk (AV.v (Value.bool false)) [])))) := by kernel_rfl
theorem ansValR {s : ByteArray} (hs : s.size ≤ 100000000) : Answers Tryd.prog Γm 23 [.v (.string s)] [] (.sb (valueB s)) [] [] := by
  have hln : (rns s 0).length ≤ s.size - 0 := rns_len
  have hl := loopValR (l := rns s 0) (by omega) 0 ⟨Nat.zero_le _, rfl⟩
  have hnm : valueB s = (((rns s 0).all valN && good s 0) && decide ((rns s 0).length ≤ 32)) := rfl
  unfold OValR at hl
  rw [hnm]
  cases hA : (rns s 0).all valN with
  | true =>
    rw [hA, cond_true] at hl
    refine answers (fn := Tryd.f23) (c := bodyOf Tryd.f23) (ntmps := 36) (results := [.tmp 2]) [kRun] (fun _ => LSpec.at [3, 5, 2] [] (SValR (rns s 0) 0) ⟨.exit 0, [.any, .any, .any], [none]⟩) false Tryd.func23 (by kernel_rfl) (by kernel_rfl) (by kernel_rfl) (by kernel_rfl) (by simp) rfl (oneLoop (b := lpValR) (by kernel_rfl) hl) <| Meets.of (runValRE s) <| ?_
    cases hg : good s 0 with
    | true =>
      by_cases h : (rns s 0).length ≤ 32
      · rw [decide_eq_true h]
        repeat' (first | refine wC (by first | omega | (simp only [W1, cond_true, cond_false, hg]; first | done | omega)) ?_ | refine wT (by first | omega | (simp only [W1, cond_true, cond_false, hg]; first | done | omega)) ?_ | refine wF (by intro _h; first | omega | (simp only [W1, cond_true, cond_false, hg] at _h; first | done | omega)) ?_ | (refine wS ?_ ?_ <;> intro _h <;> simp only [W1, cond_true, cond_false, hg] at _h))
        all_goals simp only [W1, W2, owesN, owesX, owesR, cond_true, cond_false, hg]
        repeat' (first | apply And.intro | intro _hc)
        all_goals first | exact AV.le_refl _ | exact AV.le_any _ | exact OLe.refl _ | exact OLe.none _ | exact LeH.refl _ | exact LeL.refl _ | exact AV.le.bs _ | exact AV.le.sb _ | omega | contradiction
      · rw [decide_eq_false h]
        repeat' (first | refine wC (by first | omega | (simp only [W1, cond_true, cond_false, hg]; first | done | omega)) ?_ | refine wT (by first | omega | (simp only [W1, cond_true, cond_false, hg]; first | done | omega)) ?_ | refine wF (by intro _h; first | omega | (simp only [W1, cond_true, cond_false, hg] at _h; first | done | omega)) ?_ | (refine wS ?_ ?_ <;> intro _h <;> simp only [W1, cond_true, cond_false, hg] at _h))
        all_goals simp only [W1, W2, owesN, owesX, owesR, cond_true, cond_false, hg]
        repeat' (first | apply And.intro | intro _hc)
        all_goals first | exact AV.le_refl _ | exact AV.le_any _ | exact OLe.refl _ | exact OLe.none _ | exact LeH.refl _ | exact LeL.refl _ | exact AV.le.bs _ | exact AV.le.sb _ | omega | contradiction
    | false =>
      repeat' (first | refine wC (by first | omega | (simp only [W1, cond_true, cond_false, hg]; first | done | omega)) ?_ | refine wT (by first | omega | (simp only [W1, cond_true, cond_false, hg]; first | done | omega)) ?_ | refine wF (by intro _h; first | omega | (simp only [W1, cond_true, cond_false, hg] at _h; first | done | omega)) ?_ | (refine wS ?_ ?_ <;> intro _h <;> simp only [W1, cond_true, cond_false, hg] at _h))
      all_goals simp only [W1, W2, owesN, owesX, owesR, cond_true, cond_false, hg]
      repeat' (first | apply And.intro | intro _hc)
      all_goals first | exact AV.le_refl _ | exact AV.le_any _ | exact OLe.refl _ | exact OLe.none _ | exact LeH.refl _ | exact LeL.refl _ | exact AV.le.bs _ | exact AV.le.sb _ | omega | contradiction
  | false =>
    rw [hA, cond_false] at hl
    refine answers (fn := Tryd.f23) (c := bodyOf Tryd.f23) (ntmps := 36) (results := [.tmp 2]) [kRun] (fun _ => LSpec.at [3, 5, 2] [] (SValR (rns s 0) 0) ⟨.ret, [.any, .any, .v (.bool false)], [none]⟩) false Tryd.func23 (by kernel_rfl) (by kernel_rfl) (by kernel_rfl) (by kernel_rfl) (by simp) rfl (oneLoop (b := lpValR) (by kernel_rfl) hl) <| Meets.of (runValRR s) <| ?_
    cases hg : good s 0 with
    | true =>
      repeat' (first | refine wC (by first | omega | (simp only [W1, cond_true, cond_false, hg]; first | done | omega)) ?_ | refine wT (by first | omega | (simp only [W1, cond_true, cond_false, hg]; first | done | omega)) ?_ | refine wF (by intro _h; first | omega | (simp only [W1, cond_true, cond_false, hg] at _h; first | done | omega)) ?_ | (refine wS ?_ ?_ <;> intro _h <;> simp only [W1, cond_true, cond_false, hg] at _h))
      all_goals simp only [W1, W2, owesN, owesX, owesR, cond_true, cond_false, hg]
      repeat' (first | apply And.intro | intro _hc)
      all_goals first | exact AV.le_refl _ | exact AV.le_any _ | exact OLe.refl _ | exact OLe.none _ | exact LeH.refl _ | exact LeL.refl _ | exact AV.le.bs _ | exact AV.le.sb _ | omega | contradiction
    | false =>
      repeat' (first | refine wC (by first | omega | (simp only [W1, cond_true, cond_false, hg]; first | done | omega)) ?_ | refine wT (by first | omega | (simp only [W1, cond_true, cond_false, hg]; first | done | omega)) ?_ | refine wF (by intro _h; first | omega | (simp only [W1, cond_true, cond_false, hg] at _h; first | done | omega)) ?_ | (refine wS ?_ ?_ <;> intro _h <;> simp only [W1, cond_true, cond_false, hg] at _h))
      all_goals simp only [W1, W2, owesN, owesX, owesR, cond_true, cond_false, hg]
      repeat' (first | apply And.intro | intro _hc)
      all_goals first | exact AV.le_refl _ | exact AV.le_any _ | exact OLe.refl _ | exact OLe.none _ | exact LeH.refl _ | exact LeL.refl _ | exact AV.le.bs _ | exact AV.le.sb _ | omega | contradiction
noncomputable def kValR : CT Tryd.prog Γm := CT.oS 23 Tryd.func23 (by kernel_rfl) (by kernel_rfl) (fun s => s.size ≤ 100000000) (fun s => .sb (valueB s)) (fun _ => []) (fun s h => ansValR h)
end Go.Eng.TA

/- transactions: which are right. -/
namespace Go.Eng.TA
open Go Go.Eng Go.Eng.M Go.Lib Go.Proofs
set_option linter.unusedSimpArgs false
set_option linter.unusedVariables false
structure Tx where
  k : Int
  fr : ByteArray
  to : ByteArray
  ky : ByteArray
  vl : ByteArray
  am : Int
  nn : Int
instance : Inhabited Tx := ⟨⟨0, ⟨#[]⟩, ⟨#[]⟩, ⟨#[]⟩, ⟨#[]⟩, 0, 0⟩⟩
def Tx.c (x : Tx) : List AV := [.v (.int .i64 x.k), .v (.string x.fr), .v (.string x.to), .v (.string x.ky), .v (.string x.vl), .v (.int .i64 x.am), .v (.int .i64 x.nn)]
def Tx.cells (x : Tx) : List Value := [.int .i64 x.k, .string x.fr, .string x.to, .string x.ky, .string x.vl, .int .i64 x.am, .int .i64 x.nn]
theorem Tx.cod : Cod Tx.c 7 := ⟨fun _ => rfl, fun b x y => by cases b <;> rfl⟩
theorem Tx.dec (vs : List Value) (h0 : GoodVs [.int .i64, .str, .str, .str, .str, .int .i64, .int .i64] vs) : ∃ a : Tx, vs = a.cells := by
  obtain ⟨_, _, rfl, ⟨a0, rfl, _⟩, h1⟩ := h0.cons
  obtain ⟨_, _, rfl, ⟨a1, rfl, _⟩, h2⟩ := h1.cons
  obtain ⟨_, _, rfl, ⟨a2, rfl, _⟩, h3⟩ := h2.cons
  obtain ⟨_, _, rfl, ⟨a3, rfl, _⟩, h4⟩ := h3.cons
  obtain ⟨_, _, rfl, ⟨a4, rfl, _⟩, h5⟩ := h4.cons
  obtain ⟨_, _, rfl, ⟨a5, rfl, _⟩, h6⟩ := h5.cons
  obtain ⟨_, _, rfl, ⟨a6, rfl, _⟩, h7⟩ := h6.cons
  obtain rfl := h7.nil
  exact ⟨⟨a0, a1, a2, a3, a4, a5, a6⟩, rfl⟩
abbrev Tx.ks : List Cel := [.int .i64, .str, .str, .str, .str, .int .i64, .int .i64]
def txV (x : Tx) : AV := .agg x.c
def big : Int := 4611686018427387904
def emp (s : ByteArray) : Bool := decide (s = ⟨#[]⟩)
def okM (x : Tx) : Bool := nameB x.to && ((decide (1 ≤ x.am) && decide (x.am ≤ 4611686018427387904)) && (emp x.ky && emp x.vl))
def okP (x : Tx) : Bool := nameB x.ky && (valueB x.vl && (emp x.to && decide (x.am = 0)))
/-- is it right? -/
def txB (x : Tx) : Bool := (nameB x.fr && (decide (1 ≤ x.nn) && decide (x.nn ≤ 4611686018427387904))) && (if x.k = 1 then okM x else if x.k = 2 then okP x else false)
def smallT (x : Tx) : Prop := x.fr.size ≤ 10000000 ∧ x.to.size ≤ 10000000 ∧ x.ky.size ≤ 10000000 ∧ x.vl.size ≤ 10000000
def ofTx : List AV → List Blk → Option Tx
  | [.agg [.v (.int _ k), .v (.string f), .v (.string t), .v (.string y), .v (.string v), .v (.int _ a), .v (.int _ n)]], [] => some ⟨k, f, t, y, v, a, n⟩
  | _, _ => none
noncomputable def CT.oTx (f : FuncId) {fn : Func} (hf : Tryd.prog.funcs[f]? = some fn) (hb : fn.body.isSome = true) (hn : (fn.name == "runtime.NumGoroutine") = false) (pre : Tx → Prop) (g : Tx → AV) (h : ∀ x, pre x → Answers Tryd.prog Γm f [txV x] [] (g x) [] []) : CT Tryd.prog Γm :=
  CT.par f ofTx pre (fun x => [txV x]) (fun _ => []) g (fun _ => []) (fun _ => []) (callFunc_enters hf hb hn) h
noncomputable def kWi : CT Tryd.prog Γm := CT.auto false 3 3 [] 85 Tryd.f85 (bodyOf Tryd.f85) false 15 [.tmp 6] Tryd.func85 (by kernel_rfl) (by kernel_rfl) (by kernel_rfl) (by kernel_rfl)
theorem runTx (x : Tx) : bodyE (P := Tryd.prog) (Γ := Γm) [kChk, kVal, kWi] Lno false 66 [.tmp 2] (bodyOf Tryd.f32) [txV x] [] =
  Tree.chk (cl (ByteArray.size x.fr ≤ (1000000000 : Nat) ∧ LeL [.v (.string x.fr)] [.v (.string x.fr)] ∧ LeH [] [])) (.br (decide (x.k = (1 : Int))) (.chk (bif bif decide (erN (nameB x.fr) = 
    (0 : Int)) then bif decide ((1 : Int) ≤ x.nn) then decide (x.nn ≤ (4611686018427387904 : Int)) else false else false then cl (ByteArray.size x.to ≤ (1000000000 : Nat) ∧ LeL [.v 
    (.string x.to)] [.v (.string x.to)] ∧ LeH [] []) else true) (.br (!bif bif decide (erN (nameB x.fr) = (0 : Int)) then bif decide ((1 : Int) ≤ x.nn) then decide (x.nn ≤ 
    (4611686018427387904 : Int)) else false else false then bif decide (erN (nameB x.to) = (0 : Int)) then bif bif decide ((1 : Int) ≤ x.am) then decide (x.am ≤ (4611686018427387904 : 
    Int)) else false then bif decide (x.ky = ByteArray.mk #[]) then decide (x.vl = ByteArray.mk #[]) else false else false else false else false) (.leaf (Ans.mk (.v (.int .i64 (80 : 
    Int))) [])) (.leaf (Ans.mk (.v (.int .i64 (0 : Int))) [])))) (.br (decide (x.k = (2 : Int))) (.chk (bif bif decide (erN (nameB x.fr) = (0 : Int)) then bif decide ((1 : Int) ≤ x.nn) 
    then decide (x.nn ≤ (4611686018427387904 : Int)) else false else false then cl (ByteArray.size x.ky ≤ (1000000000 : Nat) ∧ LeL [.v (.string x.ky)] [.v (.string x.ky)] ∧ LeH [] []) 
    && bif decide (erN (nameB x.ky) = (0 : Int)) then cl (ByteArray.size x.vl ≤ (1000000000 : Nat) ∧ LeL [.v (.string x.vl)] [.v (.string x.vl)] ∧ LeH [] []) else true else true) (.br 
    (!bif bif decide (erN (nameB x.fr) = (0 : Int)) then bif decide ((1 : Int) ≤ x.nn) then decide (x.nn ≤ (4611686018427387904 : Int)) else false else false then bif decide (erN 
    (nameB x.ky) = (0 : Int)) then bif decide (erN (valueB x.vl) = (0 : Int)) then bif decide (x.to = ByteArray.mk #[]) then decide (x.am = (0 : Int)) else false else false else false 
    else false) (.leaf (Ans.mk (.v (.int .i64 (80 : Int))) [])) (.leaf (Ans.mk (.v (.int .i64 (0 : Int))) [])))) (.leaf (Ans.mk (.v (.int .i64 (80 : Int))) [])))) := by kernel_rfl
theorem runTxR (x : Tx) : bodyE (P := Tryd.prog) (Γ := Γm) [kChkR, kValR] Lno false 66 [.tmp 2] (bodyOf Tryd.f33) [txV x] [] =
  Tree.chk (bif decide (x.nn < (1 : Int)) then true else bif decide ((4611686018427387904 : Int) < x.nn) then true else cl (ByteArray.size x.fr ≤ (100000000 : Nat) ∧ LeL [.v (.string x.fr)] 
    [.v (.string x.fr)] ∧ LeH [] [])) (.br (bif decide (x.nn < (1 : Int)) then true else bif decide ((4611686018427387904 : Int) < x.nn) then true else !nameB x.fr) (.leaf (Ans.mk (.v 
    (.bool false)) [])) (.br (decide (x.k = (1 : Int))) (.chk (cl (ByteArray.size x.to ≤ (100000000 : Nat) ∧ LeL [.v (.string x.to)] [.v (.string x.to)] ∧ LeH [] [])) (.leaf (Ans.mk 
    (.sb (bif nameB x.to then bif decide ((1 : Int) ≤ x.am) then bif decide (x.am ≤ (4611686018427387904 : Int)) then bif decide (x.ky = ByteArray.mk #[]) then decide (x.vl = 
    ByteArray.mk #[]) else false else false else false else false)) []))) (.chk (bif decide (x.k = (2 : Int)) then cl (ByteArray.size x.ky ≤ (100000000 : Nat) ∧ LeL [.v (.string x.ky)] 
    [.v (.string x.ky)] ∧ LeH [] []) && bif nameB x.ky then cl (ByteArray.size x.vl ≤ (100000000 : Nat) ∧ LeL [.v (.string x.vl)] [.v (.string x.vl)] ∧ LeH [] []) else true else true) 
    (.leaf (Ans.mk (.sb (bif decide (x.k = (2 : Int)) then bif nameB x.ky then bif valueB x.vl then bif decide (x.to = ByteArray.mk #[]) then decide (x.am = (0 : Int)) else false else 
    false else false else false)) []))))) := by kernel_rfl
theorem runGr (x : Tx) : bodyE (P := Tryd.prog) (Γ := Γm) [] Lno false 25 [.tmp 2] (bodyOf Tryd.f29) [txV x] [] =
  Tree.leaf (Ans.mk (.sb (bif decide ((1000 : Int) < (↑(ByteArray.size x.fr) : Int)) then true else bif decide ((1000 : Int) < (↑(ByteArray.size x.to) : Int)) then true else bif decide ((1000 
    : Int) < (↑(ByteArray.size x.ky) : Int)) then true else decide ((1000 : Int) < (↑(ByteArray.size x.vl) : Int)))) []) := by kernel_rfl
theorem clS {s : ByteArray} {n : Nat} (h : s.size ≤ n) : cl (s.size ≤ n ∧ LeL [AV.v (.string s)] [AV.v (.string s)] ∧ LeH [] []) = true := cl_iff.2 ⟨h, LeL.refl _, trivial⟩
theorem erN0 (b : Bool) : decide (erN b = 0) = b := by cases b <;> rfl
theorem condSelf (b c : Bool) : (bif b then c else c) = c := by cases b <;> rfl
theorem condB (b c : Bool) : (bif b then c else false) = (b && c) := by cases b <;> rfl
theorem empE (s : ByteArray) : decide (s = ByteArray.mk #[]) = emp s := rfl
def erT (b : Bool) : Int := bif b then 0 else 80
theorem ansTx {x : Tx} (h : smallT x) : Answers Tryd.prog Γm 32 [txV x] [] (.v (.int .i64 (erT (txB x)))) [] [] :=
  answers (fn := Tryd.f32) (c := bodyOf Tryd.f32) (ntmps := 66) (results := [.tmp 2]) [kChk, kVal, kWi] Lno false Tryd.func32 (by kernel_rfl) (by kernel_rfl) (by kernel_rfl) (by kernel_rfl) (by simp) rfl (noLoops (by kernel_rfl)) <| Meets.of (runTx x) <| by
    obtain ⟨s1, s2, s3, s4⟩ := h
    simp (disch := omega) only [clS, erN0, condSelf, condB, empE, Bool.and_true]
    by_cases k1 : x.k = 1
    · have hB : txB x = ((nameB x.fr && (decide (1 ≤ x.nn) && decide (x.nn ≤ 4611686018427387904))) && (nameB x.to && ((decide (1 ≤ x.am) && decide (x.am ≤ 4611686018427387904)) && (emp x.ky && emp x.vl)))) := by
        unfold txB; rw [if_pos k1]; rfl
      rw [← hB]
      cases txB x with
      | true =>
        repeat' (first | refine wC (by first | omega | (simp only [W1, cond_true, cond_false, k1]; first | done | omega)) ?_ | refine wT (by first | omega | (simp only [W1, cond_true, cond_false, k1]; first | done | omega)) ?_ | refine wF (by intro _h; first | omega | (simp only [W1, cond_true, cond_false, k1] at _h; first | done | omega)) ?_ | (refine wS ?_ ?_ <;> intro _h <;> simp only [W1, cond_true, cond_false, k1] at _h))
        all_goals simp only [W1, W2, owesN, owesX, owesR, cond_true, cond_false, k1]
        repeat' (first | apply And.intro | intro _hc)
        all_goals first | exact leI rfl | exact AV.le_refl _ | exact AV.le_any _ | exact OLe.refl _ | exact OLe.none _ | exact LeH.refl _ | exact LeL.refl _ | exact AV.le.bs _ | exact AV.le.sb _ | omega | contradiction
      | false =>
        repeat' (first | refine wC (by first | omega | (simp only [W1, cond_true, cond_false, k1]; first | done | omega)) ?_ | refine wT (by first | omega | (simp only [W1, cond_true, cond_false, k1]; first | done | omega)) ?_ | refine wF (by intro _h; first | omega | (simp only [W1, cond_true, cond_false, k1] at _h; first | done | omega)) ?_ | (refine wS ?_ ?_ <;> intro _h <;> simp only [W1, cond_true, cond_false, k1] at _h))
        all_goals simp only [W1, W2, owesN, owesX, owesR, cond_true, cond_false, k1]
        repeat' (first | apply And.intro | intro _hc)
        all_goals first | exact leI rfl | exact AV.le_refl _ | exact AV.le_any _ | exact OLe.refl _ | exact OLe.none _ | exact LeH.refl _ | exact LeL.refl _ | exact AV.le.bs _ | exact AV.le.sb _ | omega | contradiction
    by_cases k2 : x.k = 2
    · have hB : txB x = ((nameB x.fr && (decide (1 ≤ x.nn) && decide (x.nn ≤ 4611686018427387904))) && (nameB x.ky && (valueB x.vl && (emp x.to && decide (x.am = 0))))) := by
        unfold txB; rw [if_neg k1, if_pos k2]; rfl
      rw [← hB]
      cases txB x with
      | true =>
        repeat' (first | refine wC (by first | omega | (simp only [W1, cond_true, cond_false, k1]; first | done | omega)) ?_ | refine wT (by first | omega | (simp only [W1, cond_true, cond_false, k1]; first | done | omega)) ?_ | refine wF (by intro _h; first | omega | (simp only [W1, cond_true, cond_false, k1] at _h; first | done | omega)) ?_ | (refine wS ?_ ?_ <;> intro _h <;> simp only [W1, cond_true, cond_false, k1] at _h))
        all_goals simp only [W1, W2, owesN, owesX, owesR, cond_true, cond_false, k1]
        repeat' (first | apply And.intro | intro _hc)
        all_goals first | exact leI rfl | exact AV.le_refl _ | exact AV.le_any _ | exact OLe.refl _ | exact OLe.none _ | exact LeH.refl _ | exact LeL.refl _ | exact AV.le.bs _ | exact AV.le.sb _ | omega | contradiction
      | false =>
        repeat' (first | refine wC (by first | omega | (simp only [W1, cond_true, cond_false, k1]; first | done | omega)) ?_ | refine wT (by first | omega | (simp only [W1, cond_true, cond_false, k1]; first | done | omega)) ?_ | refine wF (by intro _h; first | omega | (simp only [W1, cond_true, cond_false, k1] at _h; first | done | omega)) ?_ | (refine wS ?_ ?_ <;> intro _h <;> simp only [W1, cond_true, cond_false, k1] at _h))
        all_goals simp only [W1, W2, owesN, owesX, owesR, cond_true, cond_false, k1]
        repeat' (first | apply And.intro | intro _hc)
        all_goals first | exact leI rfl | exact AV.le_refl _ | exact AV.le_any _ | exact OLe.refl _ | exact OLe.none _ | exact LeH.refl _ | exact LeL.refl _ | exact AV.le.bs _ | exact AV.le.sb _ | omega | contradiction
    · have hB : txB x = false := by
        unfold txB; rw [if_neg k1, if_neg k2, Bool.and_false]
      rw [hB]
      repeat' (first | refine wC (by first | omega | (simp only [W1, cond_true, cond_false, k1]; first | done | omega)) ?_ | refine wT (by first | omega | (simp only [W1, cond_true, cond_false, k1]; first | done | omega)) ?_ | refine wF (by intro _h; first | omega | (simp only [W1, cond_true, cond_false, k1] at _h; first | done | omega)) ?_ | (refine wS ?_ ?_ <;> intro _h <;> simp only [W1, cond_true, cond_false, k1] at _h))
      all_goals simp only [W1, W2, owesN, owesX, owesR, cond_true, cond_false, k1]
      repeat' (first | apply And.intro | intro _hc)
      all_goals first | exact leI rfl | exact AV.le_refl _ | exact AV.le_any _ | exact OLe.refl _ | exact OLe.none _ | exact LeH.refl _ | exact LeL.refl _ | exact AV.le.bs _ | exact AV.le.sb _ | omega | contradiction
noncomputable def kTx : CT Tryd.prog Γm := CT.oTx 32 Tryd.func32 (by kernel_rfl) (by kernel_rfl) smallT (fun x => .v (.int .i64 (erT (txB x)))) (fun x h => ansTx h)
theorem ansTxR {x : Tx} (h : smallT x) : Answers Tryd.prog Γm 33 [txV x] [] (.sb (txB x)) [] [] :=
  answers (fn := Tryd.f33) (c := bodyOf Tryd.f33) (ntmps := 66) (results := [.tmp 2]) [kChkR, kValR] Lno false Tryd.func33 (by kernel_rfl) (by kernel_rfl) (by kernel_rfl) (by kernel_rfl) (by simp) rfl (noLoops (by kernel_rfl)) <| Meets.of (runTxR x) <| by
    obtain ⟨s1, s2, s3, s4⟩ := h
    simp (disch := omega) only [clS, condSelf, condB, empE, Bool.and_true]
    by_cases hn : (nameB x.fr && (decide (1 ≤ x.nn) && decide (x.nn ≤ 4611686018427387904))) = true
    · have hB : txB x = (if x.k = 1 then okM x else if x.k = 2 then okP x else false) := by
        unfold txB; rw [hn, Bool.true_and]
      simp only [Bool.and_eq_true, decide_eq_true_eq] at hn
      obtain ⟨n1, n2, n3⟩ := hn
      rw [hB]
      by_cases k1 : x.k = 1
      · rw [if_pos k1]
        repeat' (first | refine wC (by first | omega | (simp only [W1, cond_true, cond_false, n1, k1]; first | done | omega)) ?_ | refine wT (by first | omega | (simp only [W1, cond_true, cond_false, n1, k1]; first | done | omega)) ?_ | refine wF (by intro _h; first | omega | (simp only [W1, cond_true, cond_false, n1, k1] at _h; first | done | omega)) ?_ | (refine wS ?_ ?_ <;> intro _h <;> simp only [W1, cond_true, cond_false, n1, k1] at _h))
        all_goals simp only [W1, W2, owesN, owesX, owesR, cond_true, cond_false, n1, k1]
        repeat' (first | apply And.intro | intro _hc)
        all_goals first | exact leB' (by unfold okM; simp only [Bool.and_assoc]) | exact AV.le_refl _ | exact AV.le_any _ | exact OLe.refl _ | exact OLe.none _ | exact LeH.refl _ | exact LeL.refl _ | exact AV.le.bs _ | exact AV.le.sb _ | omega | contradiction
      · rw [if_neg k1]
        by_cases k2 : x.k = 2
        · rw [if_pos k2]
          have q : decide ((2 : Int) = 2) = true := rfl
          have q1 : ¬ ((2 : Int) = 1) := by decide
          repeat' (first | refine wC (by first | omega | (simp only [W1, cond_true, cond_false, n1, k2, q, q1, decide_true]; first | done | omega)) ?_ | refine wT (by first | omega | (simp only [W1, cond_true, cond_false, n1, k2, q, q1, decide_true]; first | done | omega)) ?_ | refine wF (by intro _h; first | omega | (simp only [W1, cond_true, cond_false, n1, k2, q, q1, decide_true] at _h; first | done | omega)) ?_ | (refine wS ?_ ?_ <;> intro _h <;> simp only [W1, cond_true, cond_false, n1, k2, q, q1, decide_true] at _h))
          all_goals simp only [W1, W2, owesN, owesX, owesR, cond_true, cond_false, n1, k2, q, q1, decide_true]
          repeat' (first | apply And.intro | intro _hc)
          all_goals first | exact leB' rfl | exact AV.le_refl _ | exact AV.le_any _ | exact OLe.refl _ | exact OLe.none _ | exact LeH.refl _ | exact LeL.refl _ | exact AV.le.bs _ | exact AV.le.sb _ | omega | contradiction
        · rw [if_neg k2]
          have q : decide (x.k = 2) = false := decide_eq_false k2
          repeat' (first | refine wC (by first | omega | (simp only [W1, cond_true, cond_false, n1, k1, q]; first | done | omega)) ?_ | refine wT (by first | omega | (simp only [W1, cond_true, cond_false, n1, k1, q]; first | done | omega)) ?_ | refine wF (by intro _h; first | omega | (simp only [W1, cond_true, cond_false, n1, k1, q] at _h; first | done | omega)) ?_ | (refine wS ?_ ?_ <;> intro _h <;> simp only [W1, cond_true, cond_false, n1, k1, q] at _h))
          all_goals simp only [W1, W2, owesN, owesX, owesR, cond_true, cond_false, n1, k1, q]
          repeat' (first | apply And.intro | intro _hc)
          all_goals first | exact leB' rfl | exact AV.le_refl _ | exact AV.le_any _ | exact OLe.refl _ | exact OLe.none _ | exact LeH.refl _ | exact LeL.refl _ | exact AV.le.bs _ | exact AV.le.sb _ | omega | contradiction
    · have hn : (nameB x.fr && (decide (1 ≤ x.nn) && decide (x.nn ≤ 4611686018427387904))) = false := by simpa using hn
      have hB : txB x = false := by unfold txB; rw [hn, Bool.false_and]
      rw [hB]
      cases h1 : nameB x.fr with
      | true =>
        rw [h1, Bool.true_and] at hn
        have hn : ¬ (1 ≤ x.nn ∧ x.nn ≤ 4611686018427387904) := fun h => by rw [decide_eq_true h.1, decide_eq_true h.2] at hn; cases hn
        repeat' (first | refine wC (by first | omega | (simp only [W1, cond_true, cond_false, h1]; first | done | omega)) ?_ | refine wT (by first | omega | (simp only [W1, cond_true, cond_false, h1]; first | done | omega)) ?_ | refine wF (by intro _h; first | omega | (simp only [W1, cond_true, cond_false, h1] at _h; first | done | omega)) ?_ | (refine wS ?_ ?_ <;> intro _h <;> simp only [W1, cond_true, cond_false, h1] at _h))
        all_goals simp only [W1, W2, owesN, owesX, owesR, cond_true, cond_false, h1]
        repeat' (first | apply And.intro | intro _hc)
        all_goals first | exact leB rfl | exact AV.le_refl _ | exact AV.le_any _ | exact OLe.refl _ | exact OLe.none _ | exact LeH.refl _ | exact LeL.refl _ | exact AV.le.bs _ | exact AV.le.sb _ | omega | contradiction
      | false =>
        repeat' (first | refine wC (by first | omega | (simp only [W1, cond_true, cond_false, h1]; first | done | omega)) ?_ | refine wT (by first | omega | (simp only [W1, cond_true, cond_false, h1]; first | done | omega)) ?_ | refine wF (by intro _h; first | omega | (simp only [W1, cond_true, cond_false, h1] at _h; first | done | omega)) ?_ | (refine wS ?_ ?_ <;> intro _h <;> simp only [W1, cond_true, cond_false, h1] at _h))
        all_goals simp only [W1, W2, owesN, owesX, owesR, cond_true, cond_false, h1]
        repeat' (first | apply And.intro | intro _hc)
        all_goals first | exact leB rfl | exact AV.le_refl _ | exact AV.le_any _ | exact OLe.refl _ | exact OLe.none _ | exact LeH.refl _ | exact LeL.refl _ | exact AV.le.bs _ | exact AV.le.sb _ | omega | contradiction
noncomputable def kTxR : CT Tryd.prog Γm := CT.oTx 33 Tryd.func33 (by kernel_rfl) (by kernel_rfl) smallT (fun x => .sb (txB x)) (fun x h => ansTxR h)
def grT (x : Tx) : Bool := decide (1000 < x.fr.size ∨ 1000 < x.to.size ∨ 1000 < x.ky.size ∨ 1000 < x.vl.size)
theorem ansGr {x : Tx} : Answers Tryd.prog Γm 29 [txV x] [] (.sb (grT x)) [] [] :=
  answers (fn := Tryd.f29) (c := bodyOf Tryd.f29) (ntmps := 25) (results := [.tmp 2]) [] Lno false Tryd.func29 (by kernel_rfl) (by kernel_rfl) (by kernel_rfl) (by kernel_rfl) (by simp) rfl (noLoops (by kernel_rfl)) <| Meets.of (runGr x) <| by
    have e : grT x = (bif decide ((1000 : Int) < (x.fr.size : Int)) then true else bif decide ((1000 : Int) < (x.to.size : Int)) then true else bif decide ((1000 : Int) < (x.ky.size : Int)) then true else decide ((1000 : Int) < (x.vl.size : Int))) := by
      unfold grT
      simp only [Bool.cond_true_left]
      rw [Bool.eq_iff_iff]
      simp only [decide_eq_true_eq, Bool.or_eq_true]
      omega
    exact ⟨leB' e.symm, trivial⟩
noncomputable def kGr : CT Tryd.prog Γm := CT.oTx 29 Tryd.func29 (by kernel_rfl) (by kernel_rfl) (fun _ => True) (fun x => .sb (grT x)) (fun x _ => ansGr)
end Go.Eng.TA

/- numbers: what the words of a number are. -/
namespace Go.Eng.TA
open Go Go.Eng Go.Eng.M Go.Lib Go.Proofs
set_option linter.unusedSimpArgs false
set_option linter.unusedVariables false
theorem dec_asc {s : ByteArray} {p : Nat} (h : bN s p < 128) : Utf8.decode s p = (bN s p, 1) := by
  rw [decode_bN]
  unfold decodeN
  rw [if_pos h]
theorem dec_high {s : ByteArray} {p : Nat} (h : 128 ≤ bN s p) : 128 ≤ (Utf8.decode s p).1 := by
  rw [decode_bN]
  rcases shapeN (s.size - p) (bN s p) (bN s (p + 1)) (bN s (p + 2)) (bN s (p + 3)) with ⟨h1, e⟩ | ⟨_, _, _, h1, e⟩ | ⟨_, _, _, _, h1, _, e⟩ | ⟨_, _, _, _, _, h1, _, e⟩ | ⟨e, _⟩ <;> rw [e] <;> dsimp only <;> omega
def isD (b : Nat) : Prop := 48 ≤ b ∧ b ≤ 57
/-- does a '-' lead? -/
def ngB (s : ByteArray) : Bool := decide (0 < s.size) && decide (bN s 0 = 45)
/-- where the digits begin -/
def loS (s : ByteArray) : Nat := if ngB s then 1 else 0
def bdS (s : ByteArray) : ByteArray := s.extract (loS s) s.size
def aD (s : ByteArray) : Prop := ∀ i, loS s ≤ i → i < s.size → isD (bN s i)
theorem lo_le {s : ByteArray} : loS s ≤ s.size := by
  unfold loS ngB
  split
  · rename_i h; simp at h; omega
  · omega
theorem bd_size {s : ByteArray} : (bdS s).size = s.size - loS s := ext_size _ _ _ (Nat.le_refl _)
theorem bd_at {s : ByteArray} {i : Nat} (h : i < (bdS s).size) : bN (bdS s) i = bN s (loS s + i) := by
  rw [bd_size] at h
  unfold bdS
  rw [bN_extract _ _ _ _ (Nat.le_refl _), if_pos (by omega)]
theorem bd_neg {s : ByteArray} (h : ngB s = true) : bdS s = s.extract 1 s.size := by
  unfold bdS loS; rw [if_pos h]
theorem bd_pos {s : ByteArray} (h : ngB s = false) : bdS s = s := by
  unfold bdS loS; rw [if_neg (by rw [h]; decide)]; exact ext_all s
/-! ### form -/
noncomputable abbrev lpFm : Code := loopOf (bodyOf Tryd.f113) 0
abbrev lvFm : List Nat := [0, 2, 3, 10, 4]
structure XF where
  p : Nat
  d : ByteArray
  n : Bool
def SFm (s : ByteArray) (x : XF) : List AV × Heap := ([.v (.string s), .v (.string x.d), .sb x.n, .its 0, .any], [some (.sit s x.p)])
theorem rFm (s : ByteArray) (x : XF) : roundE (P := Tryd.prog) (Γ := Γm) [] Lno false 0 0 lpFm lvFm [] 54 (SFm s x).1 (SFm s x).2 =
  Tree.br (decide (x.p < ByteArray.size s)) (Tree.br (bif decide ((↑x.p : Int) = (0 : Int)) then decide ((↑(Utf8.decode s x.p).fst : Int) = (45 : Int)) else false) (Tree.chk (decide ((1 : Int)
    ≤ (↑(ByteArray.size s) : Int)) && decide ((↑(ByteArray.size s) : Int) ≤ (↑(ByteArray.size s) : Int))) (Tree.leaf (Out.mk AEx.normal [AV.v (Value.string s), AV.v (Value.string
    (ByteArray.extract s (Int.toNat (1 : Int)) (ByteArray.size s))), AV.v (Value.bool true), AV.its (0 : Nat), AV.any] [some (Blk.sit s (x.p + (Utf8.decode s x.p).snd))]))) (Tree.br (bif
    decide ((↑(Utf8.decode s x.p).fst : Int) < (48 : Int)) then true else decide ((57 : Int) < (↑(Utf8.decode s x.p).fst : Int))) (Tree.leaf (Out.mk AEx.ret [AV.v (Value.string s), AV.v
    (Value.string (ByteArray.mk #[])), AV.v (Value.bool false), AV.its (0 : Nat), AV.v (Value.bool false)] [some (Blk.sit s (x.p + (Utf8.decode s x.p).snd))])) (Tree.leaf (Out.mk AEx.normal
    [AV.v (Value.string s), AV.v (Value.string x.d), AV.sb x.n, AV.its (0 : Nat), AV.any] [some (Blk.sit s (x.p + (Utf8.decode s x.p).snd))])))) (Tree.leaf (Out.mk (AEx.exit (0 : Nat)) [AV.v
    (Value.string s), AV.v (Value.string x.d), AV.sb x.n, AV.its (0 : Nat), AV.any] [some (Blk.sit s x.p)])) := by kernel_rfl
def endFm (s : ByteArray) : Out := ⟨.exit 0, [.any, .v (.string (bdS s)), .sb (ngB s), .any, .any], [none]⟩
def retFm : Out := ⟨.ret, [.any, .v (.string ⟨#[]⟩), .sb false, .any, .sb false], [none]⟩
open Classical in
noncomputable def OFm (s : ByteArray) : Out := if aD s then endFm s else retFm
theorem loopFm {s : ByteArray} (hs : s.size ≤ 1000000000) : ∀ x : XF, (x.p ≤ s.size ∧ ((x.p = 0 ∧ x.d = s ∧ x.n = false) ∨ (0 < x.p ∧ x.d = bdS s ∧ x.n = ngB s)) ∧ (∀ i, loS s ≤ i → i < x.p → isD (bN s i))) → LoopOK Tryd.prog Γm 0 54 lpFm (LSpec.at lvFm [] (SFm s x) (OFm s)) := by
  refine loop_at (S := SFm s) (O := fun _ => OFm s) (k := 0) (fun x => s.size - x.p) fun x hp => .of (noLoops (by kernel_rfl)) (rFm s x) ?_
  obtain ⟨p, d, n⟩ := x
  obtain ⟨h1, h2, h3⟩ := hp
  dsimp only at h1 h2 h3
  have hlb := bN_lt s p
  rcases Nat.lt_or_ge p s.size with hi | hi
  · by_cases hm : p = 0 ∧ bN s p = 45
    · obtain ⟨rfl, hb⟩ := hm
      have hng : ngB s = true := by unfold ngB; rw [hb, decide_eq_true hi]; rfl
      have hd := dec_asc (s := s) (p := 0) (by omega)
      have hlo : loS s = 1 := by unfold loS; rw [if_pos hng]
      repeat' (first | refine wC (by first | omega | (simp only [W1, cond_true, cond_false, hd, hb, Int.toNat_one]; first | done | omega)) ?_ | refine wT (by first | omega | (simp only [W1, cond_true, cond_false, hd, hb, Int.toNat_one]; first | done | omega)) ?_ | refine wF (by intro _h; first | omega | (simp only [W1, cond_true, cond_false, hd, hb, Int.toNat_one] at _h; first | done | omega)) ?_ | (refine wS ?_ ?_ <;> intro _h <;> simp only [W1, cond_true, cond_false, hd, hb, Int.toNat_one] at _h))
      all_goals simp only [W1, W2, owesN, owesX, owesR, cond_true, cond_false, hd, hb, Int.toNat_one]
      repeat' (first | apply And.intro | intro _hc)
      all_goals first | exact ⟨⟨1, bdS s, true⟩, ⟨.refl _, by (rw [bd_neg hng]; exact AV.le_refl _), leB rfl, .refl _, .refl _, trivial⟩, LeH.refl _, ⟨hi, .inr ⟨Nat.one_pos, rfl, hng.symm⟩, fun i a b => by dsimp only at b; omega⟩, by dsimp only; omega⟩ | exact AV.le_refl _ | exact AV.le_any _ | exact OLe.refl _ | exact OLe.none _ | exact LeH.refl _ | exact LeL.refl _ | exact AV.le.bs _ | exact AV.le.sb _ | omega | contradiction
    · by_cases hdg : isD (bN s p)
      · obtain ⟨g1, g2⟩ := hdg
        have hd := dec_asc (s := s) (p := p) (by omega)
        have hx : d = bdS s ∧ n = ngB s := by
          rcases h2 with ⟨rfl, rfl, rfl⟩ | ⟨_, h, h'⟩
          · have hng : ngB d = false := by unfold ngB; rw [decide_eq_false (show ¬ bN d 0 = 45 by omega), Bool.and_false]
            exact ⟨(bd_pos hng).symm, hng.symm⟩
          · exact ⟨h, h'⟩
        obtain ⟨rfl, rfl⟩ := hx
        have hnx : ∀ i, loS s ≤ i → i < p + 1 → isD (bN s i) := fun i a b => by
          rcases Nat.lt_or_ge i p with c | c
          · exact h3 i a c
          · obtain rfl : i = p := by omega
            exact ⟨g1, g2⟩
        repeat' (first | refine wC (by first | omega | (simp only [W1, cond_true, cond_false, hd]; first | done | omega)) ?_ | refine wT (by first | omega | (simp only [W1, cond_true, cond_false, hd]; first | done | omega)) ?_ | refine wF (by intro _h; first | omega | (simp only [W1, cond_true, cond_false, hd] at _h; first | done | omega)) ?_ | (refine wS ?_ ?_ <;> intro _h <;> simp only [W1, cond_true, cond_false, hd] at _h))
        all_goals simp only [W1, W2, owesN, owesX, owesR, cond_true, cond_false, hd]
        repeat' (first | apply And.intro | intro _hc)
        all_goals first | exact ⟨⟨p + 1, bdS s, ngB s⟩, LeL.refl _, LeH.refl _, ⟨hi, .inr ⟨Nat.succ_pos _, rfl, rfl⟩, hnx⟩, by dsimp only; omega⟩ | exact AV.le_refl _ | exact AV.le_any _ | exact OLe.refl _ | exact OLe.none _ | exact LeH.refl _ | exact LeL.refl _ | exact AV.le.bs _ | exact AV.le.sb _ | omega | contradiction
      · have hO : OFm s = retFm := by
          unfold OFm
          refine if_neg fun h => hdg (h p ?_ hi)
          unfold loS
          split
          · rename_i h
            unfold ngB at h
            simp at h
            rcases Nat.eq_zero_or_pos p with rfl | h
            · omega
            · exact h
          · omega
        rw [hO]
        have hr : (Utf8.decode s p).1 < 48 ∧ ¬ (p = 0 ∧ (Utf8.decode s p).1 = 45) ∨ 57 < (Utf8.decode s p).1 := by
          rcases Nat.lt_or_ge (bN s p) 128 with hb | hb
          · rw [dec_asc hb]
            dsimp only
            unfold isD at hdg
            omega
          · have := dec_high hb
            omega
        generalize Utf8.decode s p = dd at *
        by_cases hp0 : p = 0
        · subst hp0
          repeat' (first | refine wC (by first | omega | (simp only [W1, cond_true, cond_false]; first | done | omega)) ?_ | refine wT (by first | omega | (simp only [W1, cond_true, cond_false]; first | done | omega)) ?_ | refine wF (by intro _h; first | omega | (simp only [W1, cond_true, cond_false] at _h; first | done | omega)) ?_ | (refine wS ?_ ?_ <;> intro _h <;> simp only [W1, cond_true, cond_false] at _h))
          all_goals simp only [W1, W2, owesN, owesX, owesR, cond_true, cond_false]
          repeat' (first | apply And.intro | intro _hc)
          all_goals first | exact rfl | exact AV.le_refl _ | exact AV.le_any _ | exact OLe.refl _ | exact OLe.none _ | exact LeH.refl _ | exact LeL.refl _ | exact AV.le.bs _ | exact AV.le.sb _ | omega | contradiction
        · repeat' (first | refine wC (by first | omega | (simp only [W1, cond_true, cond_false]; first | done | omega)) ?_ | refine wT (by first | omega | (simp only [W1, cond_true, cond_false]; first | done | omega)) ?_ | refine wF (by intro _h; first | omega | (simp only [W1, cond_true, cond_false] at _h; first | done | omega)) ?_ | (refine wS ?_ ?_ <;> intro _h <;> simp only [W1, cond_true, cond_false] at _h))
          all_goals simp only [W1, W2, owesN, owesX, owesR, cond_true, cond_false]
          repeat' (first | apply And.intro | intro _hc)
          all_goals first | exact rfl | exact AV.le_refl _ | exact AV.le_any _ | exact OLe.refl _ | exact OLe.none _ | exact LeH.refl _ | exact LeL.refl _ | exact AV.le.bs _ | exact AV.le.sb _ | omega | contradiction
  · obtain rfl : p = s.size := by omega
    have hx : d = bdS s ∧ n = ngB s := by
      rcases h2 with ⟨hz, rfl, rfl⟩ | ⟨_, h, h'⟩
      · have hng : ngB d = false := by unfold ngB; rw [decide_eq_false (show ¬ 0 < d.size by omega), Bool.false_and]
        exact ⟨(bd_pos hng).symm, hng.symm⟩
      · exact ⟨h, h'⟩
    obtain ⟨rfl, rfl⟩ := hx
    have hO : OFm s = endFm s := if_pos h3
    rw [hO]
    repeat' (first | refine wC (by first | omega | (simp only [W1, cond_true, cond_false]; first | done | omega)) ?_ | refine wT (by first | omega | (simp only [W1, cond_true, cond_false]; first | done | omega)) ?_ | refine wF (by intro _h; first | omega | (simp only [W1, cond_true, cond_false] at _h; first | done | omega)) ?_ | (refine wS ?_ ?_ <;> intro _h <;> simp only [W1, cond_true, cond_false] at _h))
    all_goals simp only [W1, W2, owesN, owesX, owesR, cond_true, cond_false]
    repeat' (first | apply And.intro | intro _hc)
    all_goals first | exact rfl | exact AV.le_refl _ | exact AV.le_any _ | exact OLe.refl _ | exact OLe.none _ | exact LeH.refl _ | exact LeL.refl _ | exact AV.le.bs _ | exact AV.le.sb _ | omega | contradiction
theorem runFmE (s : ByteArray) : bodyE (P := Tryd.prog) (Γ := Γm) [] (fun _ => LSpec.at lvFm [] (SFm s ⟨0, s, false⟩) (endFm s)) false 54 [.tmp 2, .tmp 3, .tmp 4] (bodyOf Tryd.f113) [.v (.string s)] [] =
  Tree.chk (cl (LeL [AV.v (Value.string s), AV.v (Value.string s), AV.v (Value.bool false), AV.its (0 : Nat), AV.v (Value.bool false)] [AV.v (Value.string s), AV.v (Value.string s), AV.sb
    false, AV.its (0 : Nat), AV.any] ∧ LeH [some (Blk.sit s (0 : Nat))] [some (Blk.sit s (0 : Nat))])) (Tree.chk (bif !decide (bdS s = ByteArray.mk #[]) then decide ((0 : Int) <
    (↑(ByteArray.size (bdS s)) : Int)) else true) (Tree.leaf (Ans.mk (AV.tup [AV.v (Value.string (bif !decide (bdS s = ByteArray.mk #[]) then bif !bif !decide (bdS s = ByteArray.mk #[]) then
    decide (sbyte (bdS s) (Int.toNat (0 : Int)) = (48 : Int)) else false then bdS s else bif decide (bdS s = ByteArray.mk #[(48 : UInt8)]) then bdS s else bdS s else bdS s)), AV.sb (bif
    !decide (bdS s = ByteArray.mk #[]) then bif !bif !decide (bdS s = ByteArray.mk #[]) then decide (sbyte (bdS s) (Int.toNat (0 : Int)) = (48 : Int)) else false then ngB s else bif decide
    (bdS s = ByteArray.mk #[(48 : UInt8)]) then ngB s else ngB s else ngB s), AV.sb (bif !decide (bdS s = ByteArray.mk #[]) then bif !bif !decide (bdS s = ByteArray.mk #[]) then decide
    (sbyte (bdS s) (Int.toNat (0 : Int)) = (48 : Int)) else false then true else bif decide (bdS s = ByteArray.mk #[(48 : UInt8)]) then !ngB s else false else false)]) []))) := by kernel_rfl
theorem runFmR (s : ByteArray) : bodyE (P := Tryd.prog) (Γ := Γm) [] (fun _ => LSpec.at lvFm [] (SFm s ⟨0, s, false⟩) retFm) false 54 [.tmp 2, .tmp 3, .tmp 4] (bodyOf Tryd.f113) [.v (.string s)] [] =
  Tree.chk (cl (LeL [AV.v (Value.string s), AV.v (Value.string s), AV.v (Value.bool false), AV.its (0 : Nat), AV.v (Value.bool false)] [AV.v (Value.string s), AV.v (Value.string s), AV.sb
    false, AV.its (0 : Nat), AV.any] ∧ LeH [some (Blk.sit s (0 : Nat))] [some (Blk.sit s (0 : Nat))])) (Tree.leaf (Ans.mk (AV.tup [AV.v (Value.string (ByteArray.mk #[])), AV.sb false, AV.sb
    false]) [])) := by kernel_rfl
end Go.Eng.TA

/- numbers: the words: contracts. -/
namespace Go.Eng.TA
open Go Go.Eng Go.Eng.M Go.Lib Go.Proofs
set_option linter.unusedSimpArgs false
set_option linter.unusedVariables false
noncomputable def fmB (s : ByteArray) : Bool := cl (aD s ∧ 0 < (bdS s).size ∧ (bN (bdS s) 0 ≠ 48 ∨ ((bdS s).size = 1 ∧ ngB s = false)))
open Classical in
noncomputable def fmD (s : ByteArray) : ByteArray := if aD s then bdS s else ⟨#[]⟩
open Classical in
noncomputable def fmN (s : ByteArray) : Bool := if aD s then ngB s else false
noncomputable def fmV (s : ByteArray) : AV := .tup [.v (.string (fmD s)), .sb (fmN s), .sb (fmB s)]
theorem emp_size {s : ByteArray} : (s = ⟨#[]⟩) ↔ s.size = 0 := ⟨fun h => by rw [h]; rfl, fun h => bN_eq (by rw [h]; rfl) (fun j hj => by omega)⟩
theorem zero_size {s : ByteArray} : (s = ⟨#[48]⟩) ↔ s.size = 1 ∧ bN s 0 = 48 := ⟨fun h => by rw [h]; exact ⟨rfl, rfl⟩, fun ⟨h1, h2⟩ => bN_eq (by rw [h1]; rfl) (fun j hj => by
  obtain rfl : j = 0 := by omega
  rw [h2]; rfl)⟩
theorem okE (z b : Nat) (n : Bool) : (!decide (z = 0) && (!(!decide (z = 0) && decide ((b : Int) = 48)) || decide (z = 1 ∧ b = 48) && !n)) = decide (0 < z ∧ (b ≠ 48 ∨ (z = 1 ∧ n = false))) := by
  have h48 : ((b : Int) = 48) ↔ b = 48 := by omega
  simp only [h48]
  cases n <;> by_cases h0 : z = 0 <;> by_cases h1 : z = 1 <;> by_cases h2 : b = 48 <;> simp [h0, h1, h2] <;> omega
theorem ansForm {s : ByteArray} (hs : s.size ≤ 1000000000) : Answers Tryd.prog Γm 113 [.v (.string s)] [] (fmV s) [] [] := by
  have hl := loopFm hs ⟨0, s, false⟩ ⟨Nat.zero_le _, .inl ⟨rfl, rfl, rfl⟩, fun i a b => absurd b (Nat.not_lt_zero _)⟩
  unfold OFm at hl
  unfold fmV fmD fmN
  by_cases ha : aD s
  · rw [if_pos ha] at hl
    rw [if_pos ha, if_pos ha]
    refine answers (fn := Tryd.f113) (c := bodyOf Tryd.f113) (ntmps := 54) (results := [.tmp 2, .tmp 3, .tmp 4]) [] (fun _ => LSpec.at lvFm [] (SFm s ⟨0, s, false⟩) (endFm s)) false Tryd.func113 (by kernel_rfl) (by kernel_rfl) (by kernel_rfl) (by kernel_rfl) (by simp) rfl (oneLoop (b := lpFm) (by kernel_rfl) hl) <| Meets.of (runFmE s) <| ?_
    have hE := emp_size (s := bdS s)
    have hZ := zero_size (s := bdS s)
    have e0 : sbyte (bdS s) (Int.toNat 0) = (bN (bdS s) 0 : Int) := rfl
    have hF : fmB s = decide (0 < (bdS s).size ∧ (bN (bdS s) 0 ≠ 48 ∨ ((bdS s).size = 1 ∧ ngB s = false))) := by
      rw [Bool.eq_iff_iff, decide_eq_true_iff]
      exact ⟨fun h => (cl_iff.1 h).2, fun h => cl_iff.2 ⟨ha, h⟩⟩
    rw [hF]
    generalize bdS s = d at *
    have hC : (bif !decide (d.size = 0) then decide ((0 : Int) < (d.size : Int)) else true) = true := by
      by_cases h0 : d.size = 0
      · rw [decide_eq_true h0]; rfl
      · rw [decide_eq_false h0]; exact decide_eq_true (by omega)
    simp only [condSelf, hE, hZ, e0, hC]
    repeat' (first | refine wC (by first | omega | (simp only [W1, cond_true, cond_false]; first | done | omega)) ?_ | refine wT (by first | omega | (simp only [W1, cond_true, cond_false]; first | done | omega)) ?_ | refine wF (by intro _h; first | omega | (simp only [W1, cond_true, cond_false] at _h; first | done | omega)) ?_ | (refine wS ?_ ?_ <;> intro _h <;> simp only [W1, cond_true, cond_false] at _h))
    all_goals simp only [W1, W2, owesN, owesX, owesR, cond_true, cond_false]
    repeat' (first | apply And.intro | intro _hc)
    all_goals first | exact tup3 (leS (by simp)) (leB' (by simp)) (leB' (okE _ _ _)) | exact AV.le_refl _ | exact AV.le_any _ | exact OLe.refl _ | exact OLe.none _ | exact LeH.refl _ | exact LeL.refl _ | exact AV.le.bs _ | exact AV.le.sb _ | omega | contradiction
  · rw [if_neg ha] at hl
    rw [if_neg ha, if_neg ha]
    have hF : fmB s = false := by
      rw [Bool.eq_false_iff]
      exact fun h => ha (cl_iff.1 h).1
    rw [hF]
    refine answers (fn := Tryd.f113) (c := bodyOf Tryd.f113) (ntmps := 54) (results := [.tmp 2, .tmp 3, .tmp 4]) [] (fun _ => LSpec.at lvFm [] (SFm s ⟨0, s, false⟩) retFm) false Tryd.func113 (by kernel_rfl) (by kernel_rfl) (by kernel_rfl) (by kernel_rfl) (by simp) rfl (oneLoop (b := lpFm) (by kernel_rfl) hl) <| Meets.of (runFmR s) <| ?_
    repeat' (first | refine wC (by first | omega | (simp only [W1, cond_true, cond_false]; first | done | omega)) ?_ | refine wT (by first | omega | (simp only [W1, cond_true, cond_false]; first | done | omega)) ?_ | refine wF (by intro _h; first | omega | (simp only [W1, cond_true, cond_false] at _h; first | done | omega)) ?_ | (refine wS ?_ ?_ <;> intro _h <;> simp only [W1, cond_true, cond_false] at _h))
    all_goals simp only [W1, W2, owesN, owesX, owesR, cond_true, cond_false]
    repeat' (first | apply And.intro | intro _hc)
    all_goals first | exact AV.le_refl _ | exact AV.le_any _ | exact OLe.refl _ | exact OLe.none _ | exact LeH.refl _ | exact LeL.refl _ | exact AV.le.bs _ | exact AV.le.sb _ | omega | contradiction
noncomputable def kForm : CT Tryd.prog Γm := CT.oS 113 Tryd.func113 (by kernel_rfl) (by kernel_rfl) (fun s => s.size ≤ 1000000000) fmV (fun _ => []) (fun s h => ansForm h)
/-! ### digits -/
noncomputable abbrev lpDg : Code := loopOf (bodyOf Tryd.f114) 0
def SDg (s : ByteArray) (i : Nat) : List AV × Heap := ([.v (.string s), .v (.int .i64 (i : Int)), .any], [])
theorem rDg (s : ByteArray) (i : Nat) : roundE (P := Tryd.prog) (Γ := Γm) [] Lno false 0 0 lpDg [0, 3, 2] [] 33 (SDg s i).1 (SDg s i).2 =
  Tree.br (decide ((↑i : Int) < (↑(ByteArray.size s) : Int))) (Tree.chk (decide ((0 : Int) ≤ (↑i : Int)) && decide ((↑i : Int) < (↑(ByteArray.size s) : Int)) && bif decide (sbyte s i < (48 :
    Int)) then true else decide ((0 : Int) ≤ (↑i : Int)) && decide ((↑i : Int) < (↑(ByteArray.size s) : Int))) (Tree.br (bif decide (sbyte s i < (48 : Int)) then true else decide ((57 : Int)
    < sbyte s i)) (Tree.leaf (Out.mk AEx.ret [AV.v (Value.string s), AV.v (Value.int IntKind.i64 (↑i : Int)), AV.v (Value.bool false)] [])) (Tree.leaf (Out.mk AEx.normal [AV.v (Value.string
    s), AV.v (Value.int IntKind.i64 (IntKind.wrap IntKind.i64 ((↑i : Int) + (1 : Int)))), AV.any] [])))) (Tree.leaf (Out.mk (AEx.exit (0 : Nat)) [AV.v (Value.string s), AV.v (Value.int
    IntKind.i64 (↑i : Int)), AV.any] [])) := by kernel_rfl
def allD (s : ByteArray) : Prop := ∀ i, i < s.size → isD (bN s i)
open Classical in
noncomputable def ODg (s : ByteArray) : Out := if allD s then ⟨.exit 0, [.v (.string s), .any, .any], []⟩ else ⟨.ret, [.any, .any, .sb false], []⟩
theorem loopDg {s : ByteArray} (hs : s.size ≤ 1000000000) : ∀ i : Nat, (i ≤ s.size ∧ ∀ j, j < i → isD (bN s j)) → LoopOK Tryd.prog Γm 0 33 lpDg (LSpec.at [0, 3, 2] [] (SDg s i) (ODg s)) := by
  refine loop_at (S := SDg s) (O := fun _ => ODg s) (k := 0) (fun i => s.size - i) fun i hp => .of (noLoops (by kernel_rfl)) (rDg s i) ?_
  obtain ⟨h1, h3⟩ := hp
  have hb : sbyte s i = (bN s i : Int) := rfl
  simp only [hb]
  rcases Nat.lt_or_ge i s.size with hi | hi
  · by_cases hd : isD (bN s i)
    · obtain ⟨g1, g2⟩ := hd
      have hnx : ∀ j, j < i + 1 → isD (bN s j) := fun j b => by
        rcases Nat.lt_or_ge j i with c | c
        · exact h3 j c
        · obtain rfl : j = i := by omega
          exact ⟨g1, g2⟩
      repeat' (first | refine wC (by first | omega | (simp only [W1, cond_true, cond_false, wrapUpN (show i ≤ 10000000000 by omega)]; first | done | omega)) ?_ | refine wT (by first | omega | (simp only [W1, cond_true, cond_false, wrapUpN (show i ≤ 10000000000 by omega)]; first | done | omega)) ?_ | refine wF (by intro _h; first | omega | (simp only [W1, cond_true, cond_false, wrapUpN (show i ≤ 10000000000 by omega)] at _h; first | done | omega)) ?_ | (refine wS ?_ ?_ <;> intro _h <;> simp only [W1, cond_true, cond_false, wrapUpN (show i ≤ 10000000000 by omega)] at _h))
      all_goals simp only [W1, W2, owesN, owesX, owesR, cond_true, cond_false, wrapUpN (show i ≤ 10000000000 by omega)]
      repeat' (first | apply And.intro | intro _hc)
      all_goals first | exact ⟨i + 1, LeL.refl _, LeH.refl _, ⟨hi, hnx⟩, by omega⟩ | exact AV.le_refl _ | exact AV.le_any _ | exact OLe.refl _ | exact OLe.none _ | exact LeH.refl _ | exact LeL.refl _ | exact AV.le.bs _ | exact AV.le.sb _ | omega | contradiction
    · have hO : ODg s = ⟨.ret, [.any, .any, .sb false], []⟩ := if_neg fun h => hd (h i hi)
      rw [hO]
      have hr : bN s i < 48 ∨ 57 < bN s i := by unfold isD at hd; omega
      repeat' (first | refine wC (by first | omega | (simp only [W1, cond_true, cond_false]; first | done | omega)) ?_ | refine wT (by first | omega | (simp only [W1, cond_true, cond_false]; first | done | omega)) ?_ | refine wF (by intro _h; first | omega | (simp only [W1, cond_true, cond_false] at _h; first | done | omega)) ?_ | (refine wS ?_ ?_ <;> intro _h <;> simp only [W1, cond_true, cond_false] at _h))
      all_goals simp only [W1, W2, owesN, owesX, owesR, cond_true, cond_false]
      repeat' (first | apply And.intro | intro _hc)
      all_goals first | exact rfl | exact AV.le_refl _ | exact AV.le_any _ | exact OLe.refl _ | exact OLe.none _ | exact LeH.refl _ | exact LeL.refl _ | exact AV.le.bs _ | exact AV.le.sb _ | omega | contradiction
  · have hO : ODg s = ⟨.exit 0, [.v (.string s), .any, .any], []⟩ := if_pos fun j hj => h3 j (by omega)
    rw [hO]
    repeat' (first | refine wC (by first | omega | (simp only [W1, cond_true, cond_false]; first | done | omega)) ?_ | refine wT (by first | omega | (simp only [W1, cond_true, cond_false]; first | done | omega)) ?_ | refine wF (by intro _h; first | omega | (simp only [W1, cond_true, cond_false] at _h; first | done | omega)) ?_ | (refine wS ?_ ?_ <;> intro _h <;> simp only [W1, cond_true, cond_false] at _h))
    all_goals simp only [W1, W2, owesN, owesX, owesR, cond_true, cond_false]
    repeat' (first | apply And.intro | intro _hc)
    all_goals first | exact rfl | exact AV.le_refl _ | exact AV.le_any _ | exact OLe.refl _ | exact OLe.none _ | exact LeH.refl _ | exact LeL.refl _ | exact AV.le.bs _ | exact AV.le.sb _ | omega | contradiction
noncomputable def dgB (s : ByteArray) : Bool := cl (allD s ∧ (s.size = 1 ∨ (1 < s.size ∧ bN s 0 ≠ 48)))
theorem runDgE (s : ByteArray) : bodyE (P := Tryd.prog) (Γ := Γm) [] (fun _ => LSpec.at [0, 3, 2] [] (SDg s 0) ⟨.exit 0, [.v (.string s), .any, .any], []⟩) false 33 [.tmp 2] (bodyOf Tryd.f114) [.v (.string s)] [] =
  Tree.chk (cl (LeL [AV.v (Value.string s), AV.v (Value.int IntKind.i64 (0 : Int)), AV.v (Value.bool false)] [AV.v (Value.string s), AV.v (Value.int IntKind.i64 (↑(0 : Nat) : Int)), AV.any] ∧
    LeH [] [])) (Tree.chk (bif decide ((↑(ByteArray.size s) : Int) = (1 : Int)) then true else bif decide ((1 : Int) < (↑(ByteArray.size s) : Int)) then decide ((0 : Int) < (↑(ByteArray.size
    s) : Int)) else true) (Tree.leaf (Ans.mk (AV.sb (bif decide ((↑(ByteArray.size s) : Int) = (1 : Int)) then true else bif decide ((1 : Int) < (↑(ByteArray.size s) : Int)) then !decide
    (sbyte s (Int.toNat (0 : Int)) = (48 : Int)) else false)) []))) := by kernel_rfl
theorem runDgR (s : ByteArray) : bodyE (P := Tryd.prog) (Γ := Γm) [] (fun _ => LSpec.at [0, 3, 2] [] (SDg s 0) ⟨.ret, [.any, .any, .sb false], []⟩) false 33 [.tmp 2] (bodyOf Tryd.f114) [.v (.string s)] [] =
  Tree.chk (cl (LeL [AV.v (Value.string s), AV.v (Value.int IntKind.i64 (0 : Int)), AV.v (Value.bool false)] [AV.v (Value.string s), AV.v (Value.int IntKind.i64 (↑(0 : Nat) : Int)), AV.any] ∧
    LeH [] [])) (Tree.leaf (Ans.mk (AV.sb false) [])) := by kernel_rfl
theorem dgE (z b : Nat) : (decide ((z : Int) = 1) || decide (1 < (z : Int)) && !decide ((b : Int) = 48)) = decide (z = 1 ∨ (1 < z ∧ b ≠ 48)) := by
  have h48 : ((b : Int) = 48) ↔ b = 48 := by omega
  have h1 : ((z : Int) = 1) ↔ z = 1 := by omega
  have h2 : (1 < (z : Int)) ↔ 1 < z := by omega
  simp only [h48, h1, h2]
  by_cases h1 : z = 1 <;> by_cases h2 : 1 < z <;> by_cases h3 : b = 48 <;> simp [h1, h2, h3]
theorem ansDg {s : ByteArray} (hs : s.size ≤ 1000000000) : Answers Tryd.prog Γm 114 [.v (.string s)] [] (.sb (dgB s)) [] [] := by
  have hl := loopDg hs 0 ⟨Nat.zero_le _, fun i a => absurd a (Nat.not_lt_zero _)⟩
  unfold ODg at hl
  have e0 : sbyte s (Int.toNat 0) = (bN s 0 : Int) := rfl
  by_cases ha : allD s
  · rw [if_pos ha] at hl
    refine answers (fn := Tryd.f114) (c := bodyOf Tryd.f114) (ntmps := 33) (results := [.tmp 2]) [] (fun _ => LSpec.at [0, 3, 2] [] (SDg s 0) ⟨.exit 0, [.v (.string s), .any, .any], []⟩) false Tryd.func114 (by kernel_rfl) (by kernel_rfl) (by kernel_rfl) (by kernel_rfl) (by simp) rfl (oneLoop (b := lpDg) (by kernel_rfl) hl) <| Meets.of (runDgE s) <| ?_
    have hF : dgB s = decide (s.size = 1 ∨ (1 < s.size ∧ bN s 0 ≠ 48)) := by
      rw [Bool.eq_iff_iff, decide_eq_true_iff]
      exact ⟨fun h => (cl_iff.1 h).2, fun h => cl_iff.2 ⟨ha, h⟩⟩
    rw [hF]
    simp only [e0]
    have hC : (bif decide ((s.size : Int) = 1) then true else bif decide ((1 : Int) < (s.size : Int)) then decide ((0 : Int) < (s.size : Int)) else true) = true := by
      by_cases h1 : (1 : Int) < (s.size : Int)
      · rw [decide_eq_true h1, decide_eq_true (show (0 : Int) < (s.size : Int) by omega)]; simp
      · rw [decide_eq_false h1]; simp
    simp only [hC]
    repeat' (first | refine wC (by first | omega | (simp only [W1, cond_true, cond_false]; first | done | omega)) ?_ | refine wT (by first | omega | (simp only [W1, cond_true, cond_false]; first | done | omega)) ?_ | refine wF (by intro _h; first | omega | (simp only [W1, cond_true, cond_false] at _h; first | done | omega)) ?_ | (refine wS ?_ ?_ <;> intro _h <;> simp only [W1, cond_true, cond_false] at _h))
    all_goals simp only [W1, W2, owesN, owesX, owesR, cond_true, cond_false]
    repeat' (first | apply And.intro | intro _hc)
    all_goals first | exact leB' (dgE _ _) | exact AV.le_refl _ | exact AV.le_any _ | exact OLe.refl _ | exact OLe.none _ | exact LeH.refl _ | exact LeL.refl _ | exact AV.le.bs _ | exact AV.le.sb _ | omega | contradiction
  · rw [if_neg ha] at hl
    have hF : dgB s = false := by
      rw [Bool.eq_false_iff]
      exact fun h => ha (cl_iff.1 h).1
    rw [hF]
    refine answers (fn := Tryd.f114) (c := bodyOf Tryd.f114) (ntmps := 33) (results := [.tmp 2]) [] (fun _ => LSpec.at [0, 3, 2] [] (SDg s 0) ⟨.ret, [.any, .any, .sb false], []⟩) false Tryd.func114 (by kernel_rfl) (by kernel_rfl) (by kernel_rfl) (by kernel_rfl) (by simp) rfl (oneLoop (b := lpDg) (by kernel_rfl) hl) <| Meets.of (runDgR s) <| ?_
    repeat' (first | refine wC (by first | omega | (simp only [W1, cond_true, cond_false]; first | done | omega)) ?_ | refine wT (by first | omega | (simp only [W1, cond_true, cond_false]; first | done | omega)) ?_ | refine wF (by intro _h; first | omega | (simp only [W1, cond_true, cond_false] at _h; first | done | omega)) ?_ | (refine wS ?_ ?_ <;> intro _h <;> simp only [W1, cond_true, cond_false] at _h))
    all_goals simp only [W1, W2, owesN, owesX, owesR, cond_true, cond_false]
    repeat' (first | apply And.intro | intro _hc)
    all_goals first | exact AV.le_refl _ | exact AV.le_any _ | exact OLe.refl _ | exact OLe.none _ | exact LeH.refl _ | exact LeL.refl _ | exact AV.le.bs _ | exact AV.le.sb _ | omega | contradiction
noncomputable def kDg : CT Tryd.prog Γm := CT.oS 114 Tryd.func114 (by kernel_rfl) (by kernel_rfl) (fun s => s.size ≤ 1000000000) (fun s => .sb (dgB s)) (fun _ => []) (fun s h => ansDg h)
end Go.Eng.TA

/- numbers: read. -/
namespace Go.Eng.TA
open Go Go.Eng Go.Eng.M Go.Lib Go.Proofs
set_option linter.unusedSimpArgs false
set_option linter.unusedVariables false
/-- the number that the first q digits make -/
def vN (d : ByteArray) : Nat → Nat
  | 0 => 0
  | q + 1 => 10 * vN d q + (bN d q - 48)
theorem vN_le {d : ByteArray} {p : Nat} : ∀ {q : Nat}, p ≤ q → vN d p ≤ vN d q := by
  intro q
  induction q with
  | zero => intro h; rw [Nat.le_zero.1 h]; exact Nat.le_refl _
  | succ q ih =>
    intro h
    rcases Nat.lt_or_ge p (q + 1) with h1 | h1
    · have := ih (by omega)
      rw [vN]; omega
    · rw [show p = q + 1 by omega]; exact Nat.le_refl _
noncomputable abbrev lpRe : Code := loopOf (bodyOf Tryd.f91) 0
abbrev lvRe : List Nat := [1, 2, 9, 11, 24, 6, 7]
def SRe (d : ByteArray) (lo hi : Int) (n : Bool) (p : Nat) : List AV × Heap := ([.v (.int .i64 lo), .v (.int .i64 hi), .sb n, .v (.int .i64 (-(vN d p : Int))), .its 0, .any, .any], [some (.sit d p)])
theorem rRe (d : ByteArray) (lo hi : Int) (n : Bool) (p : Nat) : roundE (P := Tryd.prog) (Γ := Γm) [] Lno false 0 0 lpRe lvRe [] 59 (SRe d lo hi n p).1 (SRe d lo hi n p).2 =
  Tree.br (decide (p < ByteArray.size d)) (Tree.chk true (Tree.br (bif decide (-(↑(vN d p) : Int) < IntKind.wrap IntKind.i64 (Int.tdiv (IntKind.wrap IntKind.i64 ((-9223372036854775808 : Int) +
    IntKind.wrap IntKind.i64 (IntKind.wrap IntKind.i32 ((↑(Utf8.decode d p).fst : Int) - (48 : Int))))) (10 : Int))) then true else decide (IntKind.wrap IntKind.i64 (-(↑(vN d p) : Int) * (10
    : Int)) < IntKind.wrap IntKind.i64 ((-9223372036854775808 : Int) + IntKind.wrap IntKind.i64 (IntKind.wrap IntKind.i32 ((↑(Utf8.decode d p).fst : Int) - (48 : Int)))))) (Tree.leaf (Out.mk
    AEx.ret [AV.v (Value.int IntKind.i64 lo), AV.v (Value.int IntKind.i64 hi), AV.sb n, AV.v (Value.int IntKind.i64 (-(↑(vN d p) : Int))), AV.its (0 : Nat), AV.v (Value.int IntKind.i64 (0 :
    Int)), AV.v (Value.int IntKind.i64 (10 : Int))] [some (Blk.sit d (p + (Utf8.decode d p).snd))])) (Tree.leaf (Out.mk AEx.normal [AV.v (Value.int IntKind.i64 lo), AV.v (Value.int
    IntKind.i64 hi), AV.sb n, AV.v (Value.int IntKind.i64 (IntKind.wrap IntKind.i64 (IntKind.wrap IntKind.i64 (-(↑(vN d p) : Int) * (10 : Int)) - IntKind.wrap IntKind.i64 (IntKind.wrap
    IntKind.i32 ((↑(Utf8.decode d p).fst : Int) - (48 : Int)))))), AV.its (0 : Nat), AV.any, AV.any] [some (Blk.sit d (p + (Utf8.decode d p).snd))])))) (Tree.leaf (Out.mk (AEx.exit (0 :
    Nat)) [AV.v (Value.int IntKind.i64 lo), AV.v (Value.int IntKind.i64 hi), AV.sb n, AV.v (Value.int IntKind.i64 (-(↑(vN d p) : Int))), AV.its (0 : Nat), AV.any, AV.any] [some (Blk.sit d
    p)])) := by kernel_rfl
noncomputable abbrev lpRr : Code := loopOf (bodyOf Tryd.f93) 0
abbrev lvRr : List Nat := [1, 2, 8, 10, 11, 12]
def SRr (d : ByteArray) (lo hi : Int) (n : Bool) (i : Nat) : List AV × Heap := ([.v (.int .i64 lo), .v (.int .i64 hi), .v (.string d), .sb n, .v (.int .i64 (if n then -(vN d i : Int) else (vN d i : Int))), .v (.int .i64 (i : Int))], [])
theorem rRr (d : ByteArray) (lo hi : Int) (n : Bool) (i : Nat) : roundE (P := Tryd.prog) (Γ := Γm) [] Lno false 0 0 lpRr lvRr [] 84 (SRr d lo hi n i).1 (SRr d lo hi n i).2 =
  Tree.br (decide ((↑i : Int) < (↑(ByteArray.size d) : Int))) (Tree.br n (Tree.chk (decide ((0 : Int) ≤ (↑i : Int)) && decide ((↑i : Int) < (↑(ByteArray.size d) : Int))) (Tree.leaf (Out.mk
    AEx.normal [AV.v (Value.int IntKind.i64 lo), AV.v (Value.int IntKind.i64 hi), AV.v (Value.string d), AV.sb n, AV.v (Value.int IntKind.i64 (IntKind.wrap IntKind.i64 (IntKind.wrap
    IntKind.i64 ((if n = true then -(↑(vN d i) : Int) else (↑(vN d i) : Int)) * (10 : Int)) - IntKind.wrap IntKind.i64 (IntKind.wrap IntKind.u8 (sbyte d i - (48 : Int)))))), AV.v (Value.int
    IntKind.i64 (IntKind.wrap IntKind.i64 ((↑i : Int) + (1 : Int))))] []))) (Tree.chk (decide ((0 : Int) ≤ (↑i : Int)) && decide ((↑i : Int) < (↑(ByteArray.size d) : Int))) (Tree.leaf
    (Out.mk AEx.normal [AV.v (Value.int IntKind.i64 lo), AV.v (Value.int IntKind.i64 hi), AV.v (Value.string d), AV.sb n, AV.v (Value.int IntKind.i64 (IntKind.wrap IntKind.i64 (IntKind.wrap
    IntKind.i64 ((if n = true then -(↑(vN d i) : Int) else (↑(vN d i) : Int)) * (10 : Int)) + IntKind.wrap IntKind.i64 (IntKind.wrap IntKind.u8 (sbyte d i - (48 : Int)))))), AV.v (Value.int
    IntKind.i64 (IntKind.wrap IntKind.i64 ((↑i : Int) + (1 : Int))))] [])))) (Tree.leaf (Out.mk (AEx.exit (0 : Nat)) [AV.v (Value.int IntKind.i64 lo), AV.v (Value.int IntKind.i64 hi), AV.v
    (Value.string d), AV.sb n, AV.v (Value.int IntKind.i64 (if n = true then -(↑(vN d i) : Int) else (↑(vN d i) : Int))), AV.v (Value.int IntKind.i64 (↑i : Int))] [])) := by kernel_rfl
theorem runRr (s : ByteArray) (lo hi : Int) : bodyE (P := Tryd.prog) (Γ := Γm) [kDg] Lno false 84 [.tmp 6, .tmp 7] (bodyOf Tryd.f93) [.v (.string s), .v (.int .i64 lo), .v (.int .i64 hi)] [] =
  Tree.chk (bif decide ((0 : Int) < (↑(ByteArray.size s) : Int)) then decide ((0 : Int) < (↑(ByteArray.size s) : Int)) else true) (Tree.br (bif decide ((0 : Int) < (↑(ByteArray.size s) : Int))
    then decide (sbyte s (Int.toNat (0 : Int)) = (45 : Int)) else false) (Tree.chk (decide ((1 : Int) ≤ (↑(ByteArray.size s) : Int)) && decide ((↑(ByteArray.size s) : Int) ≤
    (↑(ByteArray.size s) : Int))) (Tree.chk (cl (ByteArray.size (ByteArray.extract s (Int.toNat (1 : Int)) (ByteArray.size s)) ≤ (1000000000 : Nat) ∧ LeL [AV.v (Value.string
    (ByteArray.extract s (Int.toNat (1 : Int)) (ByteArray.size s)))] [AV.v (Value.string (ByteArray.extract s (Int.toNat (1 : Int)) (ByteArray.size s)))] ∧ LeH [] [])) (Tree.br (bif !dgB
    (ByteArray.extract s (Int.toNat (1 : Int)) (ByteArray.size s)) then true else bif bif decide ((0 : Int) < (↑(ByteArray.size s) : Int)) then decide (sbyte s (Int.toNat (0 : Int)) = (45 :
    Int)) else false then decide (ByteArray.extract s (Int.toNat (1 : Int)) (ByteArray.size s) = ByteArray.mk #[(48 : UInt8)]) else false) (Tree.leaf (Ans.mk (AV.tup [AV.v (Value.int
    IntKind.i64 (0 : Int)), AV.v (Value.int IntKind.i64 (11 : Int))]) [])) (Tree.br (bif decide ((↑(19 : Nat) : Int) < (↑(ByteArray.size (ByteArray.extract s (Int.toNat (1 : Int))
    (ByteArray.size s))) : Int)) then true else bif decide ((↑(ByteArray.size (ByteArray.extract s (Int.toNat (1 : Int)) (ByteArray.size s))) : Int) = (↑(19 : Nat) : Int)) then
    !(Op.bytesLess (ByteArray.extract s (Int.toNat (1 : Int)) (Int.toNat (↑(ByteArray.size s) : Int))).data.toList (ByteArray.mk #[(57 : UInt8), (50 : UInt8), (50 : UInt8), (51 : UInt8), (51
    : UInt8), (55 : UInt8), (50 : UInt8), (48 : UInt8), (51 : UInt8), (54 : UInt8), (56 : UInt8), (53 : UInt8), (52 : UInt8), (55 : UInt8), (55 : UInt8), (53 : UInt8), (56 : UInt8), (48 :
    UInt8), (56 : UInt8)]).data.toList || decide (ByteArray.extract s (Int.toNat (1 : Int)) (ByteArray.size s) = ByteArray.mk #[(57 : UInt8), (50 : UInt8), (50 : UInt8), (51 : UInt8), (51 :
    UInt8), (55 : UInt8), (50 : UInt8), (48 : UInt8), (51 : UInt8), (54 : UInt8), (56 : UInt8), (53 : UInt8), (52 : UInt8), (55 : UInt8), (55 : UInt8), (53 : UInt8), (56 : UInt8), (48 :
    UInt8), (56 : UInt8)])) else false) (Tree.leaf (Ans.mk (AV.tup [AV.v (Value.int IntKind.i64 (0 : Int)), AV.v (Value.int IntKind.i64 (10 : Int))]) [])) Tree.fail)))) (Tree.chk (cl
    (ByteArray.size s ≤ (1000000000 : Nat) ∧ LeL [AV.v (Value.string s)] [AV.v (Value.string s)] ∧ LeH [] [])) (Tree.br (bif !dgB s then true else bif bif decide ((0 : Int) <
    (↑(ByteArray.size s) : Int)) then decide (sbyte s (Int.toNat (0 : Int)) = (45 : Int)) else false then decide (s = ByteArray.mk #[(48 : UInt8)]) else false) (Tree.leaf (Ans.mk (AV.tup
    [AV.v (Value.int IntKind.i64 (0 : Int)), AV.v (Value.int IntKind.i64 (11 : Int))]) [])) (Tree.br (bif decide ((↑(19 : Nat) : Int) < (↑(ByteArray.size s) : Int)) then true else bif decide
    ((↑(ByteArray.size s) : Int) = (↑(19 : Nat) : Int)) then !(Op.bytesLess s.data.toList (ByteArray.mk #[(57 : UInt8), (50 : UInt8), (50 : UInt8), (51 : UInt8), (51 : UInt8), (55 : UInt8),
    (50 : UInt8), (48 : UInt8), (51 : UInt8), (54 : UInt8), (56 : UInt8), (53 : UInt8), (52 : UInt8), (55 : UInt8), (55 : UInt8), (53 : UInt8), (56 : UInt8), (48 : UInt8), (55 :
    UInt8)]).data.toList || decide (s = ByteArray.mk #[(57 : UInt8), (50 : UInt8), (50 : UInt8), (51 : UInt8), (51 : UInt8), (55 : UInt8), (50 : UInt8), (48 : UInt8), (51 : UInt8), (54 :
    UInt8), (56 : UInt8), (53 : UInt8), (52 : UInt8), (55 : UInt8), (55 : UInt8), (53 : UInt8), (56 : UInt8), (48 : UInt8), (55 : UInt8)])) else false) (Tree.leaf (Ans.mk (AV.tup [AV.v
    (Value.int IntKind.i64 (0 : Int)), AV.v (Value.int IntKind.i64 (10 : Int))]) [])) Tree.fail)))) := by kernel_rfl
end Go.Eng.TA

/- numbers: the loops that read. -/
namespace Go.Eng.TA
open Go Go.Eng Go.Eng.M Go.Lib Go.Proofs
set_option linter.unusedSimpArgs false
set_option linter.unusedVariables false
theorem w32 {b : Nat} (h1 : 48 ≤ b) (h2 : b ≤ 57) : IntKind.wrap IntKind.i64 (IntKind.wrap IntKind.i32 ((b : Int) - (48 : Int))) = ((b - 48 : Nat) : Int) := by
  obtain rfl | rfl | rfl | rfl | rfl | rfl | rfl | rfl | rfl | rfl : b = 48 ∨ b = 49 ∨ b = 50 ∨ b = 51 ∨ b = 52 ∨ b = 53 ∨ b = 54 ∨ b = 55 ∨ b = 56 ∨ b = 57 := by omega
  all_goals decide +kernel
theorem w8 {b : Nat} (h1 : 48 ≤ b) (h2 : b ≤ 57) : IntKind.wrap IntKind.i64 (IntKind.wrap IntKind.u8 ((b : Int) - (48 : Int))) = ((b - 48 : Nat) : Int) := by
  obtain rfl | rfl | rfl | rfl | rfl | rfl | rfl | rfl | rfl | rfl : b = 48 ∨ b = 49 ∨ b = 50 ∨ b = 51 ∨ b = 52 ∨ b = 53 ∨ b = 54 ∨ b = 55 ∨ b = 56 ∨ b = 57 := by omega
  all_goals decide +kernel
/-- the first test, when the digit is k -/
theorem wq {k : Nat} (h : k ≤ 9) : IntKind.wrap IntKind.i64 (Int.tdiv ((-9223372036854775808 : Int) + (k : Int)) (10 : Int)) = -((9223372036854775808 - k) / 10 : Nat) := by
  obtain rfl | rfl | rfl | rfl | rfl | rfl | rfl | rfl | rfl | rfl : k = 0 ∨ k = 1 ∨ k = 2 ∨ k = 3 ∨ k = 4 ∨ k = 5 ∨ k = 6 ∨ k = 7 ∨ k = 8 ∨ k = 9 := by omega
  all_goals decide +kernel
theorem wmin {k : Nat} (h : k ≤ 9) : IntKind.wrap IntKind.i64 ((-9223372036854775808 : Int) + (k : Int)) = (-9223372036854775808 : Int) + (k : Int) := wrap64 (by omega) (by omega)
def retRe : Out := ⟨.ret, [.any, .any, .any, .any, .any, .v (.int .i64 0), .v (.int .i64 10)], [none]⟩
def endRe (d : ByteArray) (lo hi : Int) (n : Bool) : Out := ⟨.exit 0, [.v (.int .i64 lo), .v (.int .i64 hi), .sb n, .v (.int .i64 (-(vN d d.size : Int))), .any, .any, .any], [none]⟩
def ORe (d : ByteArray) (lo hi : Int) (n : Bool) : Out := if 9223372036854775808 < vN d d.size then retRe else endRe d lo hi n
theorem loopRe {d : ByteArray} {lo hi : Int} {n : Bool} (ha : allD d) (hs : d.size ≤ 1000000000) : ∀ p : Nat, (p ≤ d.size ∧ vN d p ≤ 9223372036854775808) → LoopOK Tryd.prog Γm 0 59 lpRe (LSpec.at lvRe [] (SRe d lo hi n p) (ORe d lo hi n)) := by
  refine loop_at (S := SRe d lo hi n) (O := fun _ => ORe d lo hi n) (k := 0) (fun p => d.size - p) fun p hp => .of (noLoops (by kernel_rfl)) (rRe d lo hi n p) ?_
  obtain ⟨h1, h2⟩ := hp
  rcases Nat.lt_or_ge p d.size with hi' | hi'
  · obtain ⟨g1, g2⟩ := ha p hi'
    have hd := dec_asc (s := d) (p := p) (by omega)
    have hv : vN d (p + 1) = 10 * vN d p + (bN d p - 48) := rfl
    have hm := vN_le (d := d) (p := p + 1) (q := d.size) hi'
    simp only [hd, w32 g1 g2, wq (show bN d p - 48 ≤ 9 by omega), wmin (show bN d p - 48 ≤ 9 by omega)]
    generalize hk : bN d p - 48 = k at *
    have hk9 : k ≤ 9 := by omega
    by_cases hq : (9223372036854775808 - k) / 10 < vN d p
    · have hO : ORe d lo hi n = retRe := if_pos (by omega)
      rw [hO]
      have c1 : decide (-(vN d p : Int) < -(((9223372036854775808 - k) / 10 : Nat) : Int)) = true := decide_eq_true (by omega)
      simp only [c1, cond_true]
      repeat' (first | refine wC (by first | omega | (simp only [W1, cond_true, cond_false]; first | done | omega)) ?_ | refine wT (by first | omega | (simp only [W1, cond_true, cond_false]; first | done | omega)) ?_ | refine wF (by intro _h; first | omega | (simp only [W1, cond_true, cond_false] at _h; first | done | omega)) ?_ | (refine wS ?_ ?_ <;> intro _h <;> simp only [W1, cond_true, cond_false] at _h))
      all_goals simp only [W1, W2, owesN, owesX, owesR, cond_true, cond_false]
      repeat' (first | apply And.intro | intro _hc)
      all_goals first | exact rfl | exact AV.le_refl _ | exact AV.le_any _ | exact OLe.refl _ | exact OLe.none _ | exact LeH.refl _ | exact LeL.refl _ | exact AV.le.bs _ | exact AV.le.sb _ | omega | contradiction
    · have hle : 10 * vN d p + k ≤ 9223372036854775808 := by omega
      have c1 : decide (-(vN d p : Int) < -(((9223372036854775808 - k) / 10 : Nat) : Int)) = false := decide_eq_false (by omega)
      have w1 : IntKind.wrap IntKind.i64 (-(vN d p : Int) * 10) = -(vN d p : Int) * 10 := wrap64 (by omega) (by omega)
      have c2 : decide (-(vN d p : Int) * 10 < (-9223372036854775808 : Int) + (k : Int)) = false := decide_eq_false (by omega)
      have w2 : IntKind.wrap IntKind.i64 (-(vN d p : Int) * 10 - (k : Int)) = -((vN d (p + 1) : Nat) : Int) := by rw [wrap64 (by omega) (by omega), hv]; omega
      simp only [c1, w1, c2, cond_false, w2]
      repeat' (first | refine wC (by first | omega | (simp only [W1, cond_true, cond_false]; first | done | omega)) ?_ | refine wT (by first | omega | (simp only [W1, cond_true, cond_false]; first | done | omega)) ?_ | refine wF (by intro _h; first | omega | (simp only [W1, cond_true, cond_false] at _h; first | done | omega)) ?_ | (refine wS ?_ ?_ <;> intro _h <;> simp only [W1, cond_true, cond_false] at _h))
      all_goals simp only [W1, W2, owesN, owesX, owesR, cond_true, cond_false]
      repeat' (first | apply And.intro | intro _hc)
      all_goals first | exact ⟨p + 1, LeL.refl _, LeH.refl _, ⟨hi', by rw [hv]; exact hle⟩, by omega⟩ | exact AV.le_refl _ | exact AV.le_any _ | exact OLe.refl _ | exact OLe.none _ | exact LeH.refl _ | exact LeL.refl _ | exact AV.le.bs _ | exact AV.le.sb _ | omega | contradiction
  · obtain rfl : p = d.size := by omega
    have hO : ORe d lo hi n = endRe d lo hi n := if_neg (by omega)
    rw [hO]
    repeat' (first | refine wC (by first | omega | (simp only [W1, cond_true, cond_false]; first | done | omega)) ?_ | refine wT (by first | omega | (simp only [W1, cond_true, cond_false]; first | done | omega)) ?_ | refine wF (by intro _h; first | omega | (simp only [W1, cond_true, cond_false] at _h; first | done | omega)) ?_ | (refine wS ?_ ?_ <;> intro _h <;> simp only [W1, cond_true, cond_false] at _h))
    all_goals simp only [W1, W2, owesN, owesX, owesR, cond_true, cond_false]
    repeat' (first | apply And.intro | intro _hc)
    all_goals first | exact rfl | exact AV.le_refl _ | exact AV.le_any _ | exact OLe.refl _ | exact OLe.none _ | exact LeH.refl _ | exact LeL.refl _ | exact AV.le.bs _ | exact AV.le.sb _ | omega | contradiction
def sgV (n : Bool) (v : Nat) : Int := if n then -(v : Int) else (v : Int)
def endRr (d : ByteArray) (lo hi : Int) (n : Bool) : Out := ⟨.exit 0, [.v (.int .i64 lo), .v (.int .i64 hi), .any, .any, .v (.int .i64 (sgV n (vN d d.size))), .any], []⟩
theorem loopRr {d : ByteArray} {lo hi : Int} {n : Bool} (ha : allD d) (hs : d.size ≤ 1000000000) (hv : vN d d.size ≤ if n then 9223372036854775808 else 9223372036854775807) : ∀ i : Nat, (i ≤ d.size) → LoopOK Tryd.prog Γm 0 84 lpRr (LSpec.at lvRr [] (SRr d lo hi n i) (endRr d lo hi n)) := by
  refine loop_at (S := SRr d lo hi n) (O := fun _ => endRr d lo hi n) (k := 0) (fun p => d.size - p) fun i h1 => .of (noLoops (by kernel_rfl)) (rRr d lo hi n i) ?_
  rcases Nat.lt_or_ge i d.size with hi' | hi'
  · obtain ⟨g1, g2⟩ := ha i hi'
    have hb : sbyte d i = (bN d i : Int) := rfl
    have hvs : vN d (i + 1) = 10 * vN d i + (bN d i - 48) := rfl
    have hm := vN_le (d := d) (p := i + 1) (q := d.size) hi'
    simp only [hb, w8 g1 g2]
    generalize hk : bN d i - 48 = k at *
    cases n with
    | true =>
      simp only [if_true] at hv ⊢
      have w1 : IntKind.wrap IntKind.i64 (-(vN d i : Int) * 10) = -(vN d i : Int) * 10 := wrap64 (by omega) (by omega)
      have w2 : IntKind.wrap IntKind.i64 (-(vN d i : Int) * 10 - (k : Int)) = -((vN d (i + 1) : Nat) : Int) := by rw [wrap64 (by omega) (by omega), hvs]; omega
      simp only [w1, w2]
      repeat' (first | refine wC (by first | omega | (simp only [W1, cond_true, cond_false, wrapUpN (show i ≤ 10000000000 by omega)]; first | done | omega)) ?_ | refine wT (by first | omega | (simp only [W1, cond_true, cond_false, wrapUpN (show i ≤ 10000000000 by omega)]; first | done | omega)) ?_ | refine wF (by intro _h; first | omega | (simp only [W1, cond_true, cond_false, wrapUpN (show i ≤ 10000000000 by omega)] at _h; first | done | omega)) ?_ | (refine wS ?_ ?_ <;> intro _h <;> simp only [W1, cond_true, cond_false, wrapUpN (show i ≤ 10000000000 by omega)] at _h))
      all_goals simp only [W1, W2, owesN, owesX, owesR, cond_true, cond_false, wrapUpN (show i ≤ 10000000000 by omega)]
      repeat' (first | apply And.intro | intro _hc)
      all_goals first | exact ⟨i + 1, LeL.refl _, LeH.refl _, hi', by omega⟩ | exact AV.le_refl _ | exact AV.le_any _ | exact OLe.refl _ | exact OLe.none _ | exact LeH.refl _ | exact LeL.refl _ | exact AV.le.bs _ | exact AV.le.sb _ | omega | contradiction
    | false =>
      simp only [Bool.false_eq_true, if_false] at hv ⊢
      have w1 : IntKind.wrap IntKind.i64 ((vN d i : Int) * 10) = (vN d i : Int) * 10 := wrap64 (by omega) (by omega)
      have w2 : IntKind.wrap IntKind.i64 ((vN d i : Int) * 10 + (k : Int)) = ((vN d (i + 1) : Nat) : Int) := by rw [wrap64 (by omega) (by omega), hvs]; omega
      simp only [w1, w2]
      repeat' (first | refine wC (by first | omega | (simp only [W1, cond_true, cond_false, wrapUpN (show i ≤ 10000000000 by omega)]; first | done | omega)) ?_ | refine wT (by first | omega | (simp only [W1, cond_true, cond_false, wrapUpN (show i ≤ 10000000000 by omega)]; first | done | omega)) ?_ | refine wF (by intro _h; first | omega | (simp only [W1, cond_true, cond_false, wrapUpN (show i ≤ 10000000000 by omega)] at _h; first | done | omega)) ?_ | (refine wS ?_ ?_ <;> intro _h <;> simp only [W1, cond_true, cond_false, wrapUpN (show i ≤ 10000000000 by omega)] at _h))
      all_goals simp only [W1, W2, owesN, owesX, owesR, cond_true, cond_false, wrapUpN (show i ≤ 10000000000 by omega)]
      repeat' (first | apply And.intro | intro _hc)
      all_goals first | exact ⟨i + 1, LeL.refl _, LeH.refl _, hi', by omega⟩ | exact AV.le_refl _ | exact AV.le_any _ | exact OLe.refl _ | exact OLe.none _ | exact LeH.refl _ | exact LeL.refl _ | exact AV.le.bs _ | exact AV.le.sb _ | omega | contradiction
  · obtain rfl : i = d.size := by omega
    repeat' (first | refine wC (by first | omega | (simp only [W1, cond_true, cond_false]; first | done | omega)) ?_ | refine wT (by first | omega | (simp only [W1, cond_true, cond_false]; first | done | omega)) ?_ | refine wF (by intro _h; first | omega | (simp only [W1, cond_true, cond_false] at _h; first | done | omega)) ?_ | (refine wS ?_ ?_ <;> intro _h <;> simp only [W1, cond_true, cond_false] at _h))
    all_goals simp only [W1, W2, owesN, owesX, owesR, cond_true, cond_false]
    repeat' (first | apply And.intro | intro _hc)
    all_goals first | exact rfl | exact AV.le_refl _ | exact AV.le_any _ | exact OLe.refl _ | exact OLe.none _ | exact LeH.refl _ | exact LeL.refl _ | exact AV.le.bs _ | exact AV.le.sb _ | omega | contradiction
end Go.Eng.TA

/- numbers: read: the contracts. -/
namespace Go.Eng.TA
open Go Go.Eng Go.Eng.M Go.Lib Go.Proofs
set_option linter.unusedSimpArgs false
set_option linter.unusedVariables false
def vS (s : ByteArray) : Nat := vN (bdS s) (bdS s).size
def okV (s : ByteArray) : Bool := decide (vS s ≤ if ngB s then 9223372036854775808 else 9223372036854775807)
def inV (s : ByteArray) (lo hi : Int) : Bool := okV s && (decide (lo ≤ sgV (ngB s) (vS s)) && decide (sgV (ngB s) (vS s) ≤ hi))
noncomputable def rdE (s : ByteArray) (lo hi : Int) : Int := if fmB s then (if inV s lo hi then 0 else 10) else 11
noncomputable def rdN (s : ByteArray) (lo hi : Int) : Int := if fmB s then (if inV s lo hi then sgV (ngB s) (vS s) else 0) else 0
noncomputable def rdV (s : ByteArray) (lo hi : Int) : AV := .tup [.v (.int .i64 (rdN s lo hi)), .v (.int .i64 (rdE s lo hi))]
noncomputable abbrev TRe : List (CT Tryd.prog Γm) := [kForm, kWi]
theorem runRe0 (s : ByteArray) (lo hi : Int) : bodyE (P := Tryd.prog) (Γ := Γm) TRe Lno false 59 [.tmp 6, .tmp 7] (bodyOf Tryd.f91) [.v (.string s), .v (.int .i64 lo), .v (.int .i64 hi)] [] =
  Tree.chk (cl (ByteArray.size s ≤ (1000000000 : Nat) ∧ LeL [AV.v (Value.string s)] [AV.v (Value.string s)] ∧ LeH [] [])) (Tree.br (!fmB s) (Tree.leaf (Ans.mk (AV.tup [AV.v (Value.int
    IntKind.i64 (0 : Int)), AV.v (Value.int IntKind.i64 (11 : Int))]) [])) Tree.fail) := by kernel_rfl
theorem runRe1 (s : ByteArray) (lo hi : Int) : bodyE (P := Tryd.prog) (Γ := Γm) TRe (fun _ => LSpec.at lvRe [] (SRe (fmD s) lo hi (fmN s) 0) retRe) false 59 [.tmp 6, .tmp 7] (bodyOf Tryd.f91) [.v (.string s), .v (.int .i64 lo), .v (.int .i64 hi)] [] =
  Tree.chk (cl (ByteArray.size s ≤ (1000000000 : Nat) ∧ LeL [AV.v (Value.string s)] [AV.v (Value.string s)] ∧ LeH [] [])) (Tree.br (!fmB s) (Tree.leaf (Ans.mk (AV.tup [AV.v (Value.int
    IntKind.i64 (0 : Int)), AV.v (Value.int IntKind.i64 (11 : Int))]) [])) (Tree.chk (cl (LeL [AV.v (Value.int IntKind.i64 lo), AV.v (Value.int IntKind.i64 hi), AV.sb (fmN s), AV.v
    (Value.int IntKind.i64 (0 : Int)), AV.its (0 : Nat), AV.v (Value.int IntKind.i64 (0 : Int)), AV.v (Value.int IntKind.i64 (0 : Int))] [AV.v (Value.int IntKind.i64 lo), AV.v (Value.int
    IntKind.i64 hi), AV.sb (fmN s), AV.v (Value.int IntKind.i64 (-(↑(0 : Nat) : Int))), AV.its (0 : Nat), AV.any, AV.any] ∧ LeH [some (Blk.sit (fmD s) (0 : Nat))] [some (Blk.sit (fmD s) (0 :
    Nat))])) (Tree.leaf (Ans.mk (AV.tup [AV.v (Value.int IntKind.i64 (0 : Int)), AV.v (Value.int IntKind.i64 (10 : Int))]) [])))) := by kernel_rfl
theorem runRe2 (s : ByteArray) (lo hi : Int) : bodyE (P := Tryd.prog) (Γ := Γm) TRe (fun _ => LSpec.at lvRe [] (SRe (fmD s) lo hi (fmN s) 0) (endRe (fmD s) lo hi (fmN s))) false 59 [.tmp 6, .tmp 7] (bodyOf Tryd.f91) [.v (.string s), .v (.int .i64 lo), .v (.int .i64 hi)] [] =
  Tree.chk (cl (ByteArray.size s ≤ (1000000000 : Nat) ∧ LeL [AV.v (Value.string s)] [AV.v (Value.string s)] ∧ LeH [] [])) (Tree.br (!fmB s) (Tree.leaf (Ans.mk (AV.tup [AV.v (Value.int
    IntKind.i64 (0 : Int)), AV.v (Value.int IntKind.i64 (11 : Int))]) [])) (Tree.chk (cl (LeL [AV.v (Value.int IntKind.i64 lo), AV.v (Value.int IntKind.i64 hi), AV.sb (fmN s), AV.v
    (Value.int IntKind.i64 (0 : Int)), AV.its (0 : Nat), AV.v (Value.int IntKind.i64 (0 : Int)), AV.v (Value.int IntKind.i64 (0 : Int))] [AV.v (Value.int IntKind.i64 lo), AV.v (Value.int
    IntKind.i64 hi), AV.sb (fmN s), AV.v (Value.int IntKind.i64 (-(↑(0 : Nat) : Int))), AV.its (0 : Nat), AV.any, AV.any] ∧ LeH [some (Blk.sit (fmD s) (0 : Nat))] [some (Blk.sit (fmD s) (0 :
    Nat))])) (Tree.br (!fmN s) (Tree.br (decide (-(↑(vN (fmD s) (ByteArray.size (fmD s))) : Int) = (-9223372036854775808 : Int))) (Tree.leaf (Ans.mk (AV.tup [AV.v (Value.int IntKind.i64 (0 :
    Int)), AV.v (Value.int IntKind.i64 (10 : Int))]) [])) (Tree.br (!bif decide (lo ≤ IntKind.wrap IntKind.i64 ((0 : Int) - -(↑(vN (fmD s) (ByteArray.size (fmD s))) : Int))) then decide
    (IntKind.wrap IntKind.i64 ((0 : Int) - -(↑(vN (fmD s) (ByteArray.size (fmD s))) : Int)) ≤ hi) else false) (Tree.leaf (Ans.mk (AV.tup [AV.v (Value.int IntKind.i64 (0 : Int)), AV.v
    (Value.int IntKind.i64 (10 : Int))]) [])) (Tree.leaf (Ans.mk (AV.tup [AV.v (Value.int IntKind.i64 (IntKind.wrap IntKind.i64 ((0 : Int) - -(↑(vN (fmD s) (ByteArray.size (fmD s))) :
    Int)))), AV.v (Value.int IntKind.i64 (0 : Int))]) [])))) (Tree.br (!bif decide (lo ≤ -(↑(vN (fmD s) (ByteArray.size (fmD s))) : Int)) then decide (-(↑(vN (fmD s) (ByteArray.size (fmD
    s))) : Int) ≤ hi) else false) (Tree.leaf (Ans.mk (AV.tup [AV.v (Value.int IntKind.i64 (0 : Int)), AV.v (Value.int IntKind.i64 (10 : Int))]) [])) (Tree.leaf (Ans.mk (AV.tup [AV.v
    (Value.int IntKind.i64 (-(↑(vN (fmD s) (ByteArray.size (fmD s))) : Int))), AV.v (Value.int IntKind.i64 (0 : Int))]) [])))))) := by kernel_rfl
theorem aD_all {s : ByteArray} : aD s ↔ allD (bdS s) := ⟨fun h i hi => by
    rw [bd_at hi]
    rw [bd_size] at hi
    exact h _ (by omega) (by omega), fun h i h1 h2 => by
    have h3 : i - loS s < (bdS s).size := by rw [bd_size]; omega
    have := h (i - loS s) h3
    rw [bd_at h3, show loS s + (i - loS s) = i by omega] at this
    exact this⟩
theorem bd_le {s : ByteArray} : (bdS s).size ≤ s.size := by rw [bd_size]; omega
theorem ansRe {s : ByteArray} {lo hi : Int} (hs : s.size ≤ 1000000000) : Answers Tryd.prog Γm 91 [.v (.string s), .v (.int .i64 lo), .v (.int .i64 hi)] [] (rdV s lo hi) [] [] := by
  unfold rdV rdN rdE
  cases hf : fmB s with
  | false =>
    simp only [Bool.false_eq_true, if_false]
    refine answers (fn := Tryd.f91) (c := bodyOf Tryd.f91) (ntmps := 59) (results := [.tmp 6, .tmp 7]) [kForm, kWi] (Lno) false Tryd.func91 (by kernel_rfl) (by kernel_rfl) (by kernel_rfl) (by kernel_rfl) (by simp) rfl (failOK fun _ _ _ => rfl) <| Meets.of (runRe0 s lo hi) <| ?_
    repeat' (first | refine wC (by first | omega | (simp only [W1, cond_true, cond_false, hf]; first | done | omega)) ?_ | refine wT (by first | omega | (simp only [W1, cond_true, cond_false, hf]; first | done | omega)) ?_ | refine wF (by intro _h; first | omega | (simp only [W1, cond_true, cond_false, hf] at _h; first | done | omega)) ?_ | (refine wS ?_ ?_ <;> intro _h <;> simp only [W1, cond_true, cond_false, hf] at _h))
    all_goals simp only [W1, W2, owesN, owesX, owesR, cond_true, cond_false, hf]
    repeat' (first | apply And.intro | intro _hc)
    all_goals first | exact AV.le_refl _ | exact AV.le_any _ | exact OLe.refl _ | exact OLe.none _ | exact LeH.refl _ | exact LeL.refl _ | exact AV.le.bs _ | exact AV.le.sb _ | omega | contradiction
  | true =>
    simp only [if_true]
    have ha : aD s := (cl_iff.1 hf).1
    have hD : fmD s = bdS s := if_pos ha
    have hN : fmN s = ngB s := if_pos ha
    have hl := loopRe (d := bdS s) (lo := lo) (hi := hi) (n := ngB s) (aD_all.1 ha) (Nat.le_trans bd_le hs) 0 ⟨Nat.zero_le _, Nat.zero_le _⟩
    unfold ORe at hl
    by_cases hq : 9223372036854775808 < vN (bdS s) (bdS s).size
    · rw [if_pos hq] at hl
      have hv0 : inV s lo hi = false := by
        unfold inV okV vS
        rw [decide_eq_false, Bool.false_and]
        split <;> omega
      rw [hv0]
      simp only [Bool.false_eq_true, if_false]
      refine answers (fn := Tryd.f91) (c := bodyOf Tryd.f91) (ntmps := 59) (results := [.tmp 6, .tmp 7]) [kForm, kWi] (fun _ => LSpec.at lvRe [] (SRe (fmD s) lo hi (fmN s) 0) retRe) false Tryd.func91 (by kernel_rfl) (by kernel_rfl) (by kernel_rfl) (by kernel_rfl) (by simp) rfl (oneLoop (b := lpRe) (by kernel_rfl) (by rw [hD, hN]; exact hl)) <| Meets.of (runRe1 s lo hi) <| ?_
      repeat' (first | refine wC (by first | omega | (simp only [W1, cond_true, cond_false, hf]; first | done | omega)) ?_ | refine wT (by first | omega | (simp only [W1, cond_true, cond_false, hf]; first | done | omega)) ?_ | refine wF (by intro _h; first | omega | (simp only [W1, cond_true, cond_false, hf] at _h; first | done | omega)) ?_ | (refine wS ?_ ?_ <;> intro _h <;> simp only [W1, cond_true, cond_false, hf] at _h))
      all_goals simp only [W1, W2, owesN, owesX, owesR, cond_true, cond_false, hf]
      repeat' (first | apply And.intro | intro _hc)
      all_goals first | exact AV.le_refl _ | exact AV.le_any _ | exact OLe.refl _ | exact OLe.none _ | exact LeH.refl _ | exact LeL.refl _ | exact AV.le.bs _ | exact AV.le.sb _ | omega | contradiction
    · rw [if_neg hq] at hl
      refine answers (fn := Tryd.f91) (c := bodyOf Tryd.f91) (ntmps := 59) (results := [.tmp 6, .tmp 7]) [kForm, kWi] (fun _ => LSpec.at lvRe [] (SRe (fmD s) lo hi (fmN s) 0) (endRe (fmD s) lo hi (fmN s))) false Tryd.func91 (by kernel_rfl) (by kernel_rfl) (by kernel_rfl) (by kernel_rfl) (by simp) rfl (oneLoop (b := lpRe) (by kernel_rfl) (by rw [hD, hN]; exact hl)) <| Meets.of (runRe2 s lo hi) <| ?_
      simp only [hD, hN]
      unfold inV okV vS sgV
      generalize vN (bdS s) (bdS s).size = V at *
      cases ngB s with
      | true =>
        have d1 : decide (V ≤ 9223372036854775808) = true := decide_eq_true (by omega)
        simp only [if_true, d1, Bool.true_and]
        cases h1 : decide (lo ≤ -(V : Int)) <;> cases h2 : decide (-(V : Int) ≤ hi)
        · repeat' (first | refine wC (by first | omega | (simp only [W1, cond_true, cond_false, h1, h2]; first | done | omega)) ?_ | refine wT (by first | omega | (simp only [W1, cond_true, cond_false, h1, h2]; first | done | omega)) ?_ | refine wF (by intro _h; first | omega | (simp only [W1, cond_true, cond_false, h1, h2] at _h; first | done | omega)) ?_ | (refine wS ?_ ?_ <;> intro _h <;> simp only [W1, cond_true, cond_false, h1, h2] at _h))
          all_goals simp only [W1, W2, owesN, owesX, owesR, cond_true, cond_false, h1, h2]
          repeat' (first | apply And.intro | intro _hc)
          all_goals first | exact tup2 (leI rfl) (leI rfl) | exact AV.le_refl _ | exact AV.le_any _ | exact OLe.refl _ | exact OLe.none _ | exact LeH.refl _ | exact LeL.refl _ | exact AV.le.bs _ | exact AV.le.sb _ | omega | contradiction
        · repeat' (first | refine wC (by first | omega | (simp only [W1, cond_true, cond_false, h1, h2]; first | done | omega)) ?_ | refine wT (by first | omega | (simp only [W1, cond_true, cond_false, h1, h2]; first | done | omega)) ?_ | refine wF (by intro _h; first | omega | (simp only [W1, cond_true, cond_false, h1, h2] at _h; first | done | omega)) ?_ | (refine wS ?_ ?_ <;> intro _h <;> simp only [W1, cond_true, cond_false, h1, h2] at _h))
          all_goals simp only [W1, W2, owesN, owesX, owesR, cond_true, cond_false, h1, h2]
          repeat' (first | apply And.intro | intro _hc)
          all_goals first | exact tup2 (leI rfl) (leI rfl) | exact AV.le_refl _ | exact AV.le_any _ | exact OLe.refl _ | exact OLe.none _ | exact LeH.refl _ | exact LeL.refl _ | exact AV.le.bs _ | exact AV.le.sb _ | omega | contradiction
        · repeat' (first | refine wC (by first | omega | (simp only [W1, cond_true, cond_false, h1, h2]; first | done | omega)) ?_ | refine wT (by first | omega | (simp only [W1, cond_true, cond_false, h1, h2]; first | done | omega)) ?_ | refine wF (by intro _h; first | omega | (simp only [W1, cond_true, cond_false, h1, h2] at _h; first | done | omega)) ?_ | (refine wS ?_ ?_ <;> intro _h <;> simp only [W1, cond_true, cond_false, h1, h2] at _h))
          all_goals simp only [W1, W2, owesN, owesX, owesR, cond_true, cond_false, h1, h2]
          repeat' (first | apply And.intro | intro _hc)
          all_goals first | exact tup2 (leI rfl) (leI rfl) | exact AV.le_refl _ | exact AV.le_any _ | exact OLe.refl _ | exact OLe.none _ | exact LeH.refl _ | exact LeL.refl _ | exact AV.le.bs _ | exact AV.le.sb _ | omega | contradiction
        · repeat' (first | refine wC (by first | omega | (simp only [W1, cond_true, cond_false, h1, h2]; first | done | omega)) ?_ | refine wT (by first | omega | (simp only [W1, cond_true, cond_false, h1, h2]; first | done | omega)) ?_ | refine wF (by intro _h; first | omega | (simp only [W1, cond_true, cond_false, h1, h2] at _h; first | done | omega)) ?_ | (refine wS ?_ ?_ <;> intro _h <;> simp only [W1, cond_true, cond_false, h1, h2] at _h))
          all_goals simp only [W1, W2, owesN, owesX, owesR, cond_true, cond_false, h1, h2]
          repeat' (first | apply And.intro | intro _hc)
          all_goals first | exact tup2 (leI rfl) (leI rfl) | exact AV.le_refl _ | exact AV.le_any _ | exact OLe.refl _ | exact OLe.none _ | exact LeH.refl _ | exact LeL.refl _ | exact AV.le.bs _ | exact AV.le.sb _ | omega | contradiction
      | false =>
        simp only [Bool.false_eq_true, if_false]
        by_cases hb : V = 9223372036854775808
        · have d1 : decide (V ≤ 9223372036854775807) = false := decide_eq_false (by omega)
          simp only [d1, Bool.false_and, Bool.false_eq_true, if_false]
          repeat' (first | refine wC (by first | omega | (simp only [W1, cond_true, cond_false]; first | done | omega)) ?_ | refine wT (by first | omega | (simp only [W1, cond_true, cond_false]; first | done | omega)) ?_ | refine wF (by intro _h; first | omega | (simp only [W1, cond_true, cond_false] at _h; first | done | omega)) ?_ | (refine wS ?_ ?_ <;> intro _h <;> simp only [W1, cond_true, cond_false] at _h))
          all_goals simp only [W1, W2, owesN, owesX, owesR, cond_true, cond_false]
          repeat' (first | apply And.intro | intro _hc)
          all_goals first | exact tup2 (leI rfl) (leI rfl) | exact AV.le_refl _ | exact AV.le_any _ | exact OLe.refl _ | exact OLe.none _ | exact LeH.refl _ | exact LeL.refl _ | exact AV.le.bs _ | exact AV.le.sb _ | omega | contradiction
        · have d1 : decide (V ≤ 9223372036854775807) = true := decide_eq_true (by omega)
          have w1 : IntKind.wrap IntKind.i64 ((0 : Int) - -(V : Int)) = (V : Int) := by rw [wrap64 (by omega) (by omega)]; omega
          simp only [d1, Bool.true_and, w1]
          cases h1 : decide (lo ≤ (V : Int)) <;> cases h2 : decide ((V : Int) ≤ hi)
          · repeat' (first | refine wC (by first | omega | (simp only [W1, cond_true, cond_false, h1, h2]; first | done | omega)) ?_ | refine wT (by first | omega | (simp only [W1, cond_true, cond_false, h1, h2]; first | done | omega)) ?_ | refine wF (by intro _h; first | omega | (simp only [W1, cond_true, cond_false, h1, h2] at _h; first | done | omega)) ?_ | (refine wS ?_ ?_ <;> intro _h <;> simp only [W1, cond_true, cond_false, h1, h2] at _h))
            all_goals simp only [W1, W2, owesN, owesX, owesR, cond_true, cond_false, h1, h2]
            repeat' (first | apply And.intro | intro _hc)
            all_goals first | exact tup2 (leI rfl) (leI rfl) | exact AV.le_refl _ | exact AV.le_any _ | exact OLe.refl _ | exact OLe.none _ | exact LeH.refl _ | exact LeL.refl _ | exact AV.le.bs _ | exact AV.le.sb _ | omega | contradiction
          · repeat' (first | refine wC (by first | omega | (simp only [W1, cond_true, cond_false, h1, h2]; first | done | omega)) ?_ | refine wT (by first | omega | (simp only [W1, cond_true, cond_false, h1, h2]; first | done | omega)) ?_ | refine wF (by intro _h; first | omega | (simp only [W1, cond_true, cond_false, h1, h2] at _h; first | done | omega)) ?_ | (refine wS ?_ ?_ <;> intro _h <;> simp only [W1, cond_true, cond_false, h1, h2] at _h))
            all_goals simp only [W1, W2, owesN, owesX, owesR, cond_true, cond_false, h1, h2]
            repeat' (first | apply And.intro | intro _hc)
            all_goals first | exact tup2 (leI rfl) (leI rfl) | exact AV.le_refl _ | exact AV.le_any _ | exact OLe.refl _ | exact OLe.none _ | exact LeH.refl _ | exact LeL.refl _ | exact AV.le.bs _ | exact AV.le.sb _ | omega | contradiction
          · repeat' (first | refine wC (by first | omega | (simp only [W1, cond_true, cond_false, h1, h2]; first | done | omega)) ?_ | refine wT (by first | omega | (simp only [W1, cond_true, cond_false, h1, h2]; first | done | omega)) ?_ | refine wF (by intro _h; first | omega | (simp only [W1, cond_true, cond_false, h1, h2] at _h; first | done | omega)) ?_ | (refine wS ?_ ?_ <;> intro _h <;> simp only [W1, cond_true, cond_false, h1, h2] at _h))
            all_goals simp only [W1, W2, owesN, owesX, owesR, cond_true, cond_false, h1, h2]
            repeat' (first | apply And.intro | intro _hc)
            all_goals first | exact tup2 (leI rfl) (leI rfl) | exact AV.le_refl _ | exact AV.le_any _ | exact OLe.refl _ | exact OLe.none _ | exact LeH.refl _ | exact LeL.refl _ | exact AV.le.bs _ | exact AV.le.sb _ | omega | contradiction
          · repeat' (first | refine wC (by first | omega | (simp only [W1, cond_true, cond_false, h1, h2]; first | done | omega)) ?_ | refine wT (by first | omega | (simp only [W1, cond_true, cond_false, h1, h2]; first | done | omega)) ?_ | refine wF (by intro _h; first | omega | (simp only [W1, cond_true, cond_false, h1, h2] at _h; first | done | omega)) ?_ | (refine wS ?_ ?_ <;> intro _h <;> simp only [W1, cond_true, cond_false, h1, h2] at _h))
            all_goals simp only [W1, W2, owesN, owesX, owesR, cond_true, cond_false, h1, h2]
            repeat' (first | apply And.intro | intro _hc)
            all_goals first | exact tup2 (leI rfl) (leI rfl) | exact AV.le_refl _ | exact AV.le_any _ | exact OLe.refl _ | exact OLe.none _ | exact LeH.refl _ | exact LeL.refl _ | exact AV.le.bs _ | exact AV.le.sb _ | omega | contradiction
end Go.Eng.TA

/- numbers: digits compared as bytes. -/
namespace Go.Eng.TA
open Go Go.Eng Go.Eng.M Go.Lib Go.Proofs
set_option linter.unusedSimpArgs false
set_option linter.unusedVariables false
def vL : List UInt8 → Nat → Nat
  | [], a => a
  | x :: l, a => vL l (10 * a + (x.toNat - 48))
def dL (l : List UInt8) : Prop := ∀ x ∈ l, 48 ≤ x.toNat ∧ x.toNat ≤ 57
theorem vL_app (l : List UInt8) (x : UInt8) : ∀ a, vL (l ++ [x]) a = 10 * vL l a + (x.toNat - 48) := by
  induction l with
  | nil => intro a; rfl
  | cons y l ih => intro a; exact ih _
theorem vL_bound : ∀ {l : List UInt8} {a : Nat}, dL l → a * 10 ^ l.length ≤ vL l a ∧ vL l a < (a + 1) * 10 ^ l.length := by
  intro l
  induction l with
  | nil => intro a _; simp [vL]
  | cons x l ih =>
    intro a h
    obtain ⟨h1, h2⟩ := h x (List.mem_cons_self ..)
    obtain ⟨i1, i2⟩ := ih (a := 10 * a + (x.toNat - 48)) (fun y hy => h y (List.mem_cons_of_mem _ hy))
    rw [List.length_cons, Nat.pow_succ]
    show a * (10 ^ l.length * 10) ≤ vL l (10 * a + (x.toNat - 48)) ∧ vL l (10 * a + (x.toNat - 48)) < (a + 1) * (10 ^ l.length * 10)
    generalize 10 ^ l.length = T at *
    generalize vL l (10 * a + (x.toNat - 48)) = V at *
    generalize hk : x.toNat - 48 = k at *
    have hk : k ≤ 9 := by omega
    have e1 : a * (T * 10) ≤ (10 * a + k) * T := by
      have : a * (T * 10) = (10 * a) * T := by rw [Nat.mul_comm T 10, ← Nat.mul_assoc, Nat.mul_comm a 10]
      rw [this]; exact Nat.mul_le_mul_right _ (by omega)
    have e2 : (10 * a + k + 1) * T ≤ (a + 1) * (T * 10) := by
      have : (a + 1) * (T * 10) = (10 * (a + 1)) * T := by rw [Nat.mul_comm T 10, ← Nat.mul_assoc, Nat.mul_comm (a + 1) 10]
      rw [this]; exact Nat.mul_le_mul_right _ (by omega)
    omega
theorem vL_lt {l m : List UInt8} {a b : Nat} (hl : dL l) (hm : dL m) (he : l.length = m.length) (h : a < b) : vL l a < vL m b := by
  have h1 := (vL_bound (a := a) hl).2
  have h2 := (vL_bound (a := b) hm).1
  rw [← he] at h2
  have : (a + 1) * 10 ^ l.length ≤ b * 10 ^ l.length := Nat.mul_le_mul_right _ h
  omega
theorem vL_inj : ∀ {l m : List UInt8} {a : Nat}, dL l → dL m → l.length = m.length → vL l a = vL m a → l = m := by
  intro l
  induction l with
  | nil => intro m a _ _ h _; exact (List.eq_nil_of_length_eq_zero h.symm).symm
  | cons x l ih =>
    intro m a hl hm h e
    cases m with
    | nil => cases h
    | cons y m =>
      have hn : l.length = m.length := by simpa using h
      clear h
      have hl' : dL l := fun z hz => hl z (List.mem_cons_of_mem _ hz)
      have hm' : dL m := fun z hz => hm z (List.mem_cons_of_mem _ hz)
      obtain ⟨x1, x2⟩ := hl x (List.mem_cons_self ..)
      obtain ⟨y1, y2⟩ := hm y (List.mem_cons_self ..)
      have e : vL l (10 * a + (x.toNat - 48)) = vL m (10 * a + (y.toNat - 48)) := e
      rcases Nat.lt_trichotomy x.toNat y.toNat with c | c | c
      · have := vL_lt hl' hm' hn (show 10 * a + (x.toNat - 48) < 10 * a + (y.toNat - 48) by omega); omega
      · obtain rfl : x = y := UInt8.toNat_inj.1 c
        rw [ih hl' hm' hn e]
      · have := vL_lt hm' hl' hn.symm (show 10 * a + (y.toNat - 48) < 10 * a + (x.toNat - 48) by omega); omega
theorem vL_less : ∀ {l m : List UInt8} {a : Nat}, dL l → dL m → l.length = m.length → Op.bytesLess l m = decide (vL l a < vL m a) := by
  intro l
  induction l with
  | nil => intro m a _ _ h; rw [List.eq_nil_of_length_eq_zero h.symm]; simp [Op.bytesLess, vL]
  | cons x l ih =>
    intro m a hl hm h
    cases m with
    | nil => cases h
    | cons y m =>
      have hn : l.length = m.length := by simpa using h
      clear h
      have hl' : dL l := fun z hz => hl z (List.mem_cons_of_mem _ hz)
      have hm' : dL m := fun z hz => hm z (List.mem_cons_of_mem _ hz)
      obtain ⟨x1, x2⟩ := hl x (List.mem_cons_self ..)
      obtain ⟨y1, y2⟩ := hm y (List.mem_cons_self ..)
      show (decide (x < y) || (x == y && Op.bytesLess l m)) = decide (vL l (10 * a + (x.toNat - 48)) < vL m (10 * a + (y.toNat - 48)))
      rcases Nat.lt_trichotomy x.toNat y.toNat with c | c | c
      · have h1 := vL_lt hl' hm' hn (show 10 * a + (x.toNat - 48) < 10 * a + (y.toNat - 48) by omega)
        rw [decide_eq_true h1, decide_eq_true (UInt8.lt_iff_toNat_lt.2 c)]; rfl
      · obtain rfl : x = y := UInt8.toNat_inj.1 c
        rw [← ih hl' hm' hn, decide_eq_false (show ¬ x < x from fun hh => by have := UInt8.lt_iff_toNat_lt.1 hh; omega)]
        simp
      · have h1 := vL_lt hm' hl' hn.symm (show 10 * a + (y.toNat - 48) < 10 * a + (x.toNat - 48) by omega)
        rw [decide_eq_false (show ¬ vL l (10 * a + (x.toNat - 48)) < vL m (10 * a + (y.toNat - 48)) by omega), decide_eq_false (show ¬ x < y from fun hh => by have := UInt8.lt_iff_toNat_lt.1 hh; omega)]
        have hne : (x == y) = false := by
          rw [beq_eq_false_iff_ne]; intro e; subst e; omega
        rw [hne]; rfl
theorem bN_list (l : List UInt8) (i : Nat) (h : i < l.length) : bN ⟨⟨l⟩⟩ i = (l[i]).toNat := by
  unfold bN
  simp [List.getElem?_eq_getElem h]
theorem vN_vL (l : List UInt8) : ∀ q, q ≤ l.length → vN ⟨⟨l⟩⟩ q = vL (l.take q) 0 := by
  intro q
  induction q with
  | zero => intro _; rfl
  | succ q ih =>
    intro h
    rw [vN, ih (by omega), List.take_succ_eq_append_getElem (by omega), vL_app, bN_list l q (by omega)]
theorem vN_size (d : ByteArray) : vN d d.size = vL d.data.toList 0 := by
  obtain ⟨⟨l⟩⟩ := d
  show vN ⟨⟨l⟩⟩ l.length = vL l 0
  rw [vN_vL l _ (Nat.le_refl _), List.take_length]
end Go.Eng.TA

/- numbers: the document reads. -/
namespace Go.Eng.TA
open Go Go.Eng Go.Eng.M Go.Lib Go.Proofs
set_option linter.unusedSimpArgs false
set_option linter.unusedVariables false
def topP : ByteArray := ⟨#[57, 50, 50, 51, 51, 55, 50, 48, 51, 54, 56, 53, 52, 55, 55, 53, 56, 48, 55]⟩
def topN : ByteArray := ⟨#[57, 50, 50, 51, 51, 55, 50, 48, 51, 54, 56, 53, 52, 55, 55, 53, 56, 48, 56]⟩
def topB (n : Bool) : ByteArray := if n then topN else topP
def topM (n : Bool) : Nat := if n then 9223372036854775808 else 9223372036854775807
theorem topV (n : Bool) : vL (topB n).data.toList 0 = topM n ∧ (topB n).data.toList.length = 19 ∧ dL (topB n).data.toList := by
  cases n
  · exact ⟨by decide +kernel, by decide +kernel, by unfold dL; decide +kernel⟩
  · exact ⟨by decide +kernel, by decide +kernel, by unfold dL; decide +kernel⟩
theorem allD_dL {d : ByteArray} (h : allD d) : dL d.data.toList := fun x hx => by
  obtain ⟨i, hi, rfl⟩ := List.getElem_of_mem hx
  have := h i hi
  obtain ⟨⟨l⟩⟩ := d
  rw [bN_list l i hi] at this
  exact this
/-- is it more than the top? as the document asks -/
def overB (n : Bool) (d : ByteArray) : Bool := bif decide (((19 : Nat) : Int) < (d.size : Int)) then true else bif decide ((d.size : Int) = ((19 : Nat) : Int)) then !(Op.bytesLess d.data.toList (topB n).data.toList || decide (d = topB n)) else false
theorem over_iff {n : Bool} {d : ByteArray} (ha : allD d) (hz : d.size = 1 ∨ (1 < d.size ∧ bN d 0 ≠ 48)) : overB n d = decide (topM n < vN d d.size) := by
  obtain ⟨t1, t2, t3⟩ := topV n
  have hL := allD_dL ha
  have hsz : d.data.toList.length = d.size := rfl
  obtain ⟨b1, b2⟩ := vL_bound (a := 0) hL
  rw [hsz] at b1 b2
  have hv := vN_size d
  have hM : 9223372036854775807 ≤ topM n ∧ topM n ≤ 9223372036854775808 := by unfold topM; split <;> omega
  unfold overB
  rcases Nat.lt_trichotomy d.size 19 with c | c | c
  · have : vL d.data.toList 0 < 10 ^ 18 := Nat.lt_of_lt_of_le b2 (by rw [Nat.zero_add, Nat.one_mul]; exact Nat.pow_le_pow_right (by omega) (by omega))
    rw [decide_eq_false (show ¬ ((19 : Nat) : Int) < (d.size : Int) by omega), decide_eq_false (show ¬ (d.size : Int) = ((19 : Nat) : Int) by omega), decide_eq_false (show ¬ topM n < vN d d.size by omega)]; rfl
  · have hl : d.data.toList.length = (topB n).data.toList.length := by rw [t2, hsz, c]
    have h1 := vL_less (a := 0) hL t3 hl
    rw [decide_eq_false (show ¬ ((19 : Nat) : Int) < (d.size : Int) by omega), decide_eq_true (show (d.size : Int) = ((19 : Nat) : Int) by omega), h1, t1, ← hv]
    simp only [cond_true, cond_false]
    by_cases he : d = topB n
    · have : vN d d.size = topM n := by rw [hv, he, t1]
      rw [decide_eq_true he, decide_eq_false (show ¬ topM n < vN d d.size by omega)]; simp
    · have hne : ¬ vN d d.size = topM n := fun e => he (by
        have := vL_inj (a := 0) hL t3 hl (by rw [t1, ← hv, e])
        obtain ⟨⟨l⟩⟩ := d
        generalize topB n = tb at *
        obtain ⟨⟨m⟩⟩ := tb
        have : l = m := this
        rw [this])
      rw [decide_eq_false he]
      by_cases hq : vN d d.size < topM n
      · rw [decide_eq_true hq, decide_eq_false (show ¬ topM n < vN d d.size by omega)]; rfl
      · rw [decide_eq_false hq, decide_eq_true (show topM n < vN d d.size by omega)]; rfl
  · have hb : 10 ^ 19 ≤ vN d d.size := by
      rcases hz with hz | ⟨_, hz⟩
      · omega
      · rw [hv]
        obtain ⟨⟨l⟩⟩ := d
        cases l with
        | nil => exact absurd c (by show ¬ 19 < 0; omega)
        | cons x l =>
          have hx : 49 ≤ x.toNat := by
            obtain ⟨x1, x2⟩ := hL x (List.mem_cons_self ..)
            have : bN ⟨⟨x :: l⟩⟩ 0 = x.toNat := rfl
            omega
          have hl' : dL l := fun z h => hL z (List.mem_cons_of_mem _ h)
          have b3 := (vL_bound (a := 10 * 0 + (x.toNat - 48)) hl').1
          have c : 19 < l.length + 1 := c
          have b4 : 10 ^ 19 ≤ 10 ^ l.length := Nat.pow_le_pow_right (by omega) (by omega)
          have b5 : 1 * 10 ^ l.length ≤ (10 * 0 + (x.toNat - 48)) * 10 ^ l.length := Nat.mul_le_mul_right _ (by omega)
          show 10 ^ 19 ≤ vL l (10 * 0 + (x.toNat - 48))
          omega
    rw [decide_eq_true (show ((19 : Nat) : Int) < (d.size : Int) by omega), decide_eq_true (show topM n < vN d d.size by omega)]; rfl
/-- which words are a number's, as the document asks -/
theorem fm_dg {s : ByteArray} : fmB s = (dgB (bdS s) && !(ngB s && decide (bdS s = ⟨#[48]⟩))) := by
  rw [Bool.eq_iff_iff, Bool.and_eq_true]
  unfold fmB dgB
  rw [cl_iff, cl_iff, aD_all, Bool.not_eq_true', Bool.and_eq_false_iff, decide_eq_false_iff_not, zero_size]
  constructor
  · intro ⟨h1, h2, h3⟩
    refine ⟨⟨h1, ?_⟩, ?_⟩
    · rcases h3 with h | ⟨h, _⟩
      · by_cases hs : (bdS s).size = 1
        · exact .inl hs
        · exact .inr ⟨by omega, h⟩
      · exact .inl h
    · rcases h3 with h | ⟨_, h⟩
      · exact .inr fun hh => h hh.2
      · exact .inl h
  · intro ⟨⟨h1, h2⟩, h3⟩
    refine ⟨h1, by omega, ?_⟩
    rcases h3 with h | h
    · rcases h2 with h2 | ⟨_, h2⟩
      · exact .inr ⟨h2, h⟩
      · exact .inl h2
    · by_cases hb : bN (bdS s) 0 = 48
      · rcases h2 with h2 | ⟨_, h2⟩
        · exact absurd ⟨h2, hb⟩ h
        · exact .inl h2
      · exact .inl hb
theorem runRl (s : ByteArray) (lo hi : Int) : bodyE (P := Tryd.prog) (Γ := Γm) [kDg] (fun _ => LSpec.at lvRr [] (SRr (bdS s) lo hi (ngB s) 0) (endRr (bdS s) lo hi (ngB s))) false 84 [.tmp 6, .tmp 7] (bodyOf Tryd.f93) [.v (.string s), .v (.int .i64 lo), .v (.int .i64 hi)] [] =
  Tree.chk (bif decide ((0 : Int) < (↑(ByteArray.size s) : Int)) then decide ((0 : Int) < (↑(ByteArray.size s) : Int)) else true) (Tree.br (bif decide ((0 : Int) < (↑(ByteArray.size s) : Int))
    then decide (sbyte s (Int.toNat (0 : Int)) = (45 : Int)) else false) (Tree.chk (decide ((1 : Int) ≤ (↑(ByteArray.size s) : Int)) && decide ((↑(ByteArray.size s) : Int) ≤
    (↑(ByteArray.size s) : Int))) (Tree.chk (cl (ByteArray.size (ByteArray.extract s (Int.toNat (1 : Int)) (ByteArray.size s)) ≤ (1000000000 : Nat) ∧ LeL [AV.v (Value.string
    (ByteArray.extract s (Int.toNat (1 : Int)) (ByteArray.size s)))] [AV.v (Value.string (ByteArray.extract s (Int.toNat (1 : Int)) (ByteArray.size s)))] ∧ LeH [] [])) (Tree.br (bif !dgB
    (ByteArray.extract s (Int.toNat (1 : Int)) (ByteArray.size s)) then true else bif bif decide ((0 : Int) < (↑(ByteArray.size s) : Int)) then decide (sbyte s (Int.toNat (0 : Int)) = (45 :
    Int)) else false then decide (ByteArray.extract s (Int.toNat (1 : Int)) (ByteArray.size s) = ByteArray.mk #[(48 : UInt8)]) else false) (Tree.leaf (Ans.mk (AV.tup [AV.v (Value.int
    IntKind.i64 (0 : Int)), AV.v (Value.int IntKind.i64 (11 : Int))]) [])) (Tree.br (bif decide ((↑(19 : Nat) : Int) < (↑(ByteArray.size (ByteArray.extract s (Int.toNat (1 : Int))
    (ByteArray.size s))) : Int)) then true else bif decide ((↑(ByteArray.size (ByteArray.extract s (Int.toNat (1 : Int)) (ByteArray.size s))) : Int) = (↑(19 : Nat) : Int)) then
    !(Op.bytesLess (ByteArray.extract s (Int.toNat (1 : Int)) (Int.toNat (↑(ByteArray.size s) : Int))).data.toList (ByteArray.mk #[(57 : UInt8), (50 : UInt8), (50 : UInt8), (51 : UInt8), (51
    : UInt8), (55 : UInt8), (50 : UInt8), (48 : UInt8), (51 : UInt8), (54 : UInt8), (56 : UInt8), (53 : UInt8), (52 : UInt8), (55 : UInt8), (55 : UInt8), (53 : UInt8), (56 : UInt8), (48 :
    UInt8), (56 : UInt8)]).data.toList || decide (ByteArray.extract s (Int.toNat (1 : Int)) (ByteArray.size s) = ByteArray.mk #[(57 : UInt8), (50 : UInt8), (50 : UInt8), (51 : UInt8), (51 :
    UInt8), (55 : UInt8), (50 : UInt8), (48 : UInt8), (51 : UInt8), (54 : UInt8), (56 : UInt8), (53 : UInt8), (52 : UInt8), (55 : UInt8), (55 : UInt8), (53 : UInt8), (56 : UInt8), (48 :
    UInt8), (56 : UInt8)])) else false) (Tree.leaf (Ans.mk (AV.tup [AV.v (Value.int IntKind.i64 (0 : Int)), AV.v (Value.int IntKind.i64 (10 : Int))]) [])) (Tree.chk (cl (LeL [AV.v (Value.int
    IntKind.i64 lo), AV.v (Value.int IntKind.i64 hi), AV.v (Value.string (ByteArray.extract s (Int.toNat (1 : Int)) (ByteArray.size s))), AV.sb (bif decide ((0 : Int) < (↑(ByteArray.size s)
    : Int)) then decide (sbyte s (Int.toNat (0 : Int)) = (45 : Int)) else false), AV.v (Value.int IntKind.i64 (0 : Int)), AV.v (Value.int IntKind.i64 (0 : Int))] [AV.v (Value.int IntKind.i64
    lo), AV.v (Value.int IntKind.i64 hi), AV.v (Value.string (bdS s)), AV.sb (ngB s), AV.v (Value.int IntKind.i64 (if ngB s = true then -(↑(0 : Nat) : Int) else (↑(0 : Nat) : Int))), AV.v
    (Value.int IntKind.i64 (↑(0 : Nat) : Int))] ∧ LeH [] [])) (Tree.br (bif decide (sgV (ngB s) (vN (bdS s) (ByteArray.size (bdS s))) < lo) then true else decide (hi < sgV (ngB s) (vN (bdS
    s) (ByteArray.size (bdS s))))) (Tree.leaf (Ans.mk (AV.tup [AV.v (Value.int IntKind.i64 (0 : Int)), AV.v (Value.int IntKind.i64 (10 : Int))]) [])) (Tree.leaf (Ans.mk (AV.tup [AV.v
    (Value.int IntKind.i64 (sgV (ngB s) (vN (bdS s) (ByteArray.size (bdS s))))), AV.v (Value.int IntKind.i64 (0 : Int))]) [])))))))) (Tree.chk (cl (ByteArray.size s ≤ (1000000000 : Nat) ∧
    LeL [AV.v (Value.string s)] [AV.v (Value.string s)] ∧ LeH [] [])) (Tree.br (bif !dgB s then true else bif bif decide ((0 : Int) < (↑(ByteArray.size s) : Int)) then decide (sbyte s
    (Int.toNat (0 : Int)) = (45 : Int)) else false then decide (s = ByteArray.mk #[(48 : UInt8)]) else false) (Tree.leaf (Ans.mk (AV.tup [AV.v (Value.int IntKind.i64 (0 : Int)), AV.v
    (Value.int IntKind.i64 (11 : Int))]) [])) (Tree.br (bif decide ((↑(19 : Nat) : Int) < (↑(ByteArray.size s) : Int)) then true else bif decide ((↑(ByteArray.size s) : Int) = (↑(19 : Nat) :
    Int)) then !(Op.bytesLess s.data.toList (ByteArray.mk #[(57 : UInt8), (50 : UInt8), (50 : UInt8), (51 : UInt8), (51 : UInt8), (55 : UInt8), (50 : UInt8), (48 : UInt8), (51 : UInt8), (54
    : UInt8), (56 : UInt8), (53 : UInt8), (52 : UInt8), (55 : UInt8), (55 : UInt8), (53 : UInt8), (56 : UInt8), (48 : UInt8), (55 : UInt8)]).data.toList || decide (s = ByteArray.mk #[(57 :
    UInt8), (50 : UInt8), (50 : UInt8), (51 : UInt8), (51 : UInt8), (55 : UInt8), (50 : UInt8), (48 : UInt8), (51 : UInt8), (54 : UInt8), (56 : UInt8), (53 : UInt8), (52 : UInt8), (55 :
    UInt8), (55 : UInt8), (53 : UInt8), (56 : UInt8), (48 : UInt8), (55 : UInt8)])) else false) (Tree.leaf (Ans.mk (AV.tup [AV.v (Value.int IntKind.i64 (0 : Int)), AV.v (Value.int
    IntKind.i64 (10 : Int))]) [])) (Tree.chk (cl (LeL [AV.v (Value.int IntKind.i64 lo), AV.v (Value.int IntKind.i64 hi), AV.v (Value.string s), AV.sb (bif decide ((0 : Int) <
    (↑(ByteArray.size s) : Int)) then decide (sbyte s (Int.toNat (0 : Int)) = (45 : Int)) else false), AV.v (Value.int IntKind.i64 (0 : Int)), AV.v (Value.int IntKind.i64 (0 : Int))] [AV.v
    (Value.int IntKind.i64 lo), AV.v (Value.int IntKind.i64 hi), AV.v (Value.string (bdS s)), AV.sb (ngB s), AV.v (Value.int IntKind.i64 (if ngB s = true then -(↑(0 : Nat) : Int) else (↑(0 :
    Nat) : Int))), AV.v (Value.int IntKind.i64 (↑(0 : Nat) : Int))] ∧ LeH [] [])) (Tree.br (bif decide (sgV (ngB s) (vN (bdS s) (ByteArray.size (bdS s))) < lo) then true else decide (hi <
    sgV (ngB s) (vN (bdS s) (ByteArray.size (bdS s))))) (Tree.leaf (Ans.mk (AV.tup [AV.v (Value.int IntKind.i64 (0 : Int)), AV.v (Value.int IntKind.i64 (10 : Int))]) [])) (Tree.leaf (Ans.mk
    (AV.tup [AV.v (Value.int IntKind.i64 (sgV (ngB s) (vN (bdS s) (ByteArray.size (bdS s))))), AV.v (Value.int IntKind.i64 (0 : Int))]) [])))))))) := by kernel_rfl
end Go.Eng.TA

/- numbers: the document reads: the contract. -/
namespace Go.Eng.TA
open Go Go.Eng Go.Eng.M Go.Lib Go.Proofs
set_option linter.unusedSimpArgs false
set_option linter.unusedVariables false
theorem ngE (s : ByteArray) : (bif decide ((0 : Int) < (s.size : Int)) then decide (sbyte s (Int.toNat (0 : Int)) = (45 : Int)) else false) = ngB s := by
  have e0 : sbyte s (Int.toNat 0) = (bN s 0 : Int) := rfl
  have h1 : ((bN s 0 : Int) = 45) ↔ bN s 0 = 45 := by omega
  have h2 : ((0 : Int) < (s.size : Int)) ↔ 0 < s.size := by omega
  simp only [e0, h1, h2]
  unfold ngB
  cases decide (0 < s.size) <;> rfl
theorem brE (s : ByteArray) : (bif !dgB (bdS s) then true else bif ngB s then decide (bdS s = ⟨#[48]⟩) else false) = !fmB s := by
  rw [fm_dg]
  cases dgB (bdS s) <;> cases ngB s <;> cases decide (bdS s = ⟨#[48]⟩) <;> rfl
theorem overT (d : ByteArray) : (bif decide (((19 : Nat) : Int) < (d.size : Int)) then true else bif decide ((d.size : Int) = ((19 : Nat) : Int)) then !(Op.bytesLess d.data.toList [(57 : UInt8), (50 : UInt8), (50 : UInt8), (51 : UInt8), (51 : UInt8), (55 : UInt8), (50 : UInt8), (48 : UInt8), (51 : UInt8), (54 : UInt8), (56 : UInt8), (53 : UInt8), (52 : UInt8), (55 : UInt8), (55 : UInt8), (53 : UInt8), (56 : UInt8), (48 : UInt8), (56 : UInt8)] || decide (d = ByteArray.mk #[(57 : UInt8), (50 : UInt8), (50 : UInt8), (51 : UInt8), (51 : UInt8), (55 : UInt8), (50 : UInt8), (48 : UInt8), (51 : UInt8), (54 : UInt8), (56 : UInt8), (53 : UInt8), (52 : UInt8), (55 : UInt8), (55 : UInt8), (53 : UInt8), (56 : UInt8), (48 : UInt8), (56 : UInt8)])) else false) = overB true d := rfl
theorem overF (d : ByteArray) : (bif decide (((19 : Nat) : Int) < (d.size : Int)) then true else bif decide ((d.size : Int) = ((19 : Nat) : Int)) then !(Op.bytesLess d.data.toList [(57 : UInt8), (50 : UInt8), (50 : UInt8), (51 : UInt8), (51 : UInt8), (55 : UInt8), (50 : UInt8), (48 : UInt8), (51 : UInt8), (54 : UInt8), (56 : UInt8), (53 : UInt8), (52 : UInt8), (55 : UInt8), (55 : UInt8), (53 : UInt8), (56 : UInt8), (48 : UInt8), (55 : UInt8)] || decide (d = ByteArray.mk #[(57 : UInt8), (50 : UInt8), (50 : UInt8), (51 : UInt8), (51 : UInt8), (55 : UInt8), (50 : UInt8), (48 : UInt8), (51 : UInt8), (54 : UInt8), (56 : UInt8), (53 : UInt8), (52 : UInt8), (55 : UInt8), (55 : UInt8), (53 : UInt8), (56 : UInt8), (48 : UInt8), (55 : UInt8)])) else false) = overB false d := rfl
theorem fm_facts {s : ByteArray} (h : fmB s = true) : allD (bdS s) ∧ ((bdS s).size = 1 ∨ (1 < (bdS s).size ∧ bN (bdS s) 0 ≠ 48)) := by
  rw [fm_dg, Bool.and_eq_true] at h
  exact cl_iff.1 h.1
theorem okV_over {s : ByteArray} (h : fmB s = true) : okV s = !overB (ngB s) (bdS s) := by
  obtain ⟨h1, h2⟩ := fm_facts h
  rw [over_iff h1 h2]
  unfold okV vS topM
  rw [Bool.eq_iff_iff, decide_eq_true_iff, Bool.not_eq_true', decide_eq_false_iff_not]
  exact Nat.not_lt.symm
set_option maxHeartbeats 1000000 in
theorem ansRr {s : ByteArray} {lo hi : Int} (hs : s.size ≤ 1000000000) : Answers Tryd.prog Γm 93 [.v (.string s), .v (.int .i64 lo), .v (.int .i64 hi)] [] (rdV s lo hi) [] [] := by
  have hbr := brE s
  have hbl : (bdS s).size ≤ 1000000000 := Nat.le_trans bd_le hs
  have hng := ngE s
  have hC : (bif decide ((0 : Int) < (s.size : Int)) then decide ((0 : Int) < (s.size : Int)) else true) = true := by
    cases decide ((0 : Int) < (s.size : Int)) <;> rfl
  have hz : ngB s = true → 1 ≤ s.size := fun h => by unfold ngB at h; simp at h; omega
  unfold rdV rdN rdE
  by_cases hf : fmB s = true ∧ okV s = true
  · obtain ⟨hf, hok⟩ := hf
    have hov := okV_over hf
    rw [hok] at hov
    have hov : overB (ngB s) (bdS s) = false := by cases h : overB (ngB s) (bdS s) with | true => (rw [h] at hov; exact absurd hov (by decide)) | false => rfl
    have hv : vN (bdS s) (bdS s).size ≤ if ngB s then 9223372036854775808 else 9223372036854775807 := of_decide_eq_true hok
    have hl := loopRr (d := bdS s) (lo := lo) (hi := hi) (n := ngB s) (fm_facts hf).1 hbl hv 0 (Nat.zero_le _)
    refine answers (fn := Tryd.f93) (c := bodyOf Tryd.f93) (ntmps := 84) (results := [.tmp 6, .tmp 7]) [kDg] (fun _ => LSpec.at lvRr [] (SRr (bdS s) lo hi (ngB s) 0) (endRr (bdS s) lo hi (ngB s))) false Tryd.func93 (by kernel_rfl) (by kernel_rfl) (by kernel_rfl) (by kernel_rfl) (by simp) rfl (oneLoop (b := lpRr) (by kernel_rfl) hl) <| Meets.of (runRl s lo hi) <| ?_
    rw [hf] at hbr ⊢
    unfold inV
    rw [hok]
    change Tree.sat _ _
    simp only [if_true, Bool.true_and, hng, hC]
    have hV : vS s = vN (bdS s) (bdS s).size := rfl
    rw [hV]
    generalize sgV (ngB s) (vN (bdS s) (bdS s).size) = V at *
    have hi2 : (bif decide (V < lo) then true else decide (hi < V)) = !(decide (lo ≤ V) && decide (V ≤ hi)) := by
      have e1 : decide (V < lo) = !decide (lo ≤ V) := by rw [Bool.eq_iff_iff]; simp
      have e2 : decide (hi < V) = !decide (V ≤ hi) := by rw [Bool.eq_iff_iff]; simp
      rw [e1, e2]
      cases decide (lo ≤ V) <;> cases decide (V ≤ hi) <;> rfl
    rw [hi2]
    cases hn : ngB s with
    | true =>
      have hx := bd_neg hn
      rw [hn] at hov hbr
      simp only [Int.toNat_one, Int.toNat_natCast, ← hx, hbr, overT, hov, hn, hi2]
      have := hz hn
      cases hin : decide (lo ≤ V) && decide (V ≤ hi)
      · repeat' (first | refine wC (by first | omega | (simp only [W1, cond_true, cond_false, hin, hbl]; first | done | omega)) ?_ | refine wT (by first | omega | (simp only [W1, cond_true, cond_false, hin, hbl]; first | done | omega)) ?_ | refine wF (by intro _h; first | omega | (simp only [W1, cond_true, cond_false, hin, hbl] at _h; first | done | omega)) ?_ | (refine wS ?_ ?_ <;> intro _h <;> simp only [W1, cond_true, cond_false, hin, hbl] at _h))
        all_goals simp only [W1, W2, owesN, owesX, owesR, cond_true, cond_false, hin, hbl]
        repeat' (first | apply And.intro | intro _hc)
        all_goals first | exact tup2 (leI rfl) (leI rfl) | exact AV.le_refl _ | exact AV.le_any _ | exact OLe.refl _ | exact OLe.none _ | exact LeH.refl _ | exact LeL.refl _ | exact AV.le.bs _ | exact AV.le.sb _ | omega | contradiction
      · repeat' (first | refine wC (by first | omega | (simp only [W1, cond_true, cond_false, hin, hbl]; first | done | omega)) ?_ | refine wT (by first | omega | (simp only [W1, cond_true, cond_false, hin, hbl]; first | done | omega)) ?_ | refine wF (by intro _h; first | omega | (simp only [W1, cond_true, cond_false, hin, hbl] at _h; first | done | omega)) ?_ | (refine wS ?_ ?_ <;> intro _h <;> simp only [W1, cond_true, cond_false, hin, hbl] at _h))
        all_goals simp only [W1, W2, owesN, owesX, owesR, cond_true, cond_false, hin, hbl]
        repeat' (first | apply And.intro | intro _hc)
        all_goals first | exact tup2 (leI rfl) (leI rfl) | exact AV.le_refl _ | exact AV.le_any _ | exact OLe.refl _ | exact OLe.none _ | exact LeH.refl _ | exact LeL.refl _ | exact AV.le.bs _ | exact AV.le.sb _ | omega | contradiction
    | false =>
      have hx := bd_pos hn
      rw [hn, hx] at hov hbr
      simp only [hbr, overF, hov, hn, hi2, hx]
      cases hin : decide (lo ≤ V) && decide (V ≤ hi)
      · repeat' (first | refine wC (by first | omega | (simp only [W1, cond_true, cond_false, hin, hs]; first | done | omega)) ?_ | refine wT (by first | omega | (simp only [W1, cond_true, cond_false, hin, hs]; first | done | omega)) ?_ | refine wF (by intro _h; first | omega | (simp only [W1, cond_true, cond_false, hin, hs] at _h; first | done | omega)) ?_ | (refine wS ?_ ?_ <;> intro _h <;> simp only [W1, cond_true, cond_false, hin, hs] at _h))
        all_goals simp only [W1, W2, owesN, owesX, owesR, cond_true, cond_false, hin, hs]
        repeat' (first | apply And.intro | intro _hc)
        all_goals first | exact tup2 (leI rfl) (leI rfl) | exact AV.le_refl _ | exact AV.le_any _ | exact OLe.refl _ | exact OLe.none _ | exact LeH.refl _ | exact LeL.refl _ | exact AV.le.bs _ | exact AV.le.sb _ | omega | contradiction
      · repeat' (first | refine wC (by first | omega | (simp only [W1, cond_true, cond_false, hin, hs]; first | done | omega)) ?_ | refine wT (by first | omega | (simp only [W1, cond_true, cond_false, hin, hs]; first | done | omega)) ?_ | refine wF (by intro _h; first | omega | (simp only [W1, cond_true, cond_false, hin, hs] at _h; first | done | omega)) ?_ | (refine wS ?_ ?_ <;> intro _h <;> simp only [W1, cond_true, cond_false, hin, hs] at _h))
        all_goals simp only [W1, W2, owesN, owesX, owesR, cond_true, cond_false, hin, hs]
        repeat' (first | apply And.intro | intro _hc)
        all_goals first | exact tup2 (leI rfl) (leI rfl) | exact AV.le_refl _ | exact AV.le_any _ | exact OLe.refl _ | exact OLe.none _ | exact LeH.refl _ | exact LeL.refl _ | exact AV.le.bs _ | exact AV.le.sb _ | omega | contradiction
  · refine answers (fn := Tryd.f93) (c := bodyOf Tryd.f93) (ntmps := 84) (results := [.tmp 6, .tmp 7]) [kDg] (Lno) false Tryd.func93 (by kernel_rfl) (by kernel_rfl) (by kernel_rfl) (by kernel_rfl) (by simp) rfl (failOK fun _ _ _ => rfl) <| Meets.of (runRr s lo hi) <| ?_
    simp only [hng, hC]
    cases hf' : fmB s with
    | false =>
      rw [hf'] at hbr
      simp only [Bool.false_eq_true, if_false]
      cases hn : ngB s with
      | true =>
        have hx := bd_neg hn
        rw [hn] at hbr
        have := hz hn
        simp only [Int.toNat_one, Int.toNat_natCast, ← hx, hbr, hn]
        repeat' (first | refine wC (by first | omega | (simp only [W1, cond_true, cond_false, hbl]; first | done | omega)) ?_ | refine wT (by first | omega | (simp only [W1, cond_true, cond_false, hbl]; first | done | omega)) ?_ | refine wF (by intro _h; first | omega | (simp only [W1, cond_true, cond_false, hbl] at _h; first | done | omega)) ?_ | (refine wS ?_ ?_ <;> intro _h <;> simp only [W1, cond_true, cond_false, hbl] at _h))
        all_goals simp only [W1, W2, owesN, owesX, owesR, cond_true, cond_false, hbl]
        repeat' (first | apply And.intro | intro _hc)
        all_goals first | exact tup2 (leI rfl) (leI rfl) | exact AV.le_refl _ | exact AV.le_any _ | exact OLe.refl _ | exact OLe.none _ | exact LeH.refl _ | exact LeL.refl _ | exact AV.le.bs _ | exact AV.le.sb _ | omega | contradiction
      | false =>
        have hx := bd_pos hn
        rw [hn, hx] at hbr
        simp only [hbr, hn]
        repeat' (first | refine wC (by first | omega | (simp only [W1, cond_true, cond_false, hs]; first | done | omega)) ?_ | refine wT (by first | omega | (simp only [W1, cond_true, cond_false, hs]; first | done | omega)) ?_ | refine wF (by intro _h; first | omega | (simp only [W1, cond_true, cond_false, hs] at _h; first | done | omega)) ?_ | (refine wS ?_ ?_ <;> intro _h <;> simp only [W1, cond_true, cond_false, hs] at _h))
        all_goals simp only [W1, W2, owesN, owesX, owesR, cond_true, cond_false, hs]
        repeat' (first | apply And.intro | intro _hc)
        all_goals first | exact tup2 (leI rfl) (leI rfl) | exact AV.le_refl _ | exact AV.le_any _ | exact OLe.refl _ | exact OLe.none _ | exact LeH.refl _ | exact LeL.refl _ | exact AV.le.bs _ | exact AV.le.sb _ | omega | contradiction
    | true =>
      have hok : okV s = false := by
        cases h : okV s with
        | true => exact absurd ⟨hf', h⟩ hf
        | false => rfl
      have hov := okV_over hf'
      rw [hok] at hov
      have hov : overB (ngB s) (bdS s) = true := by cases h : overB (ngB s) (bdS s) with | true => rfl | false => (rw [h] at hov; exact absurd hov (by decide))
      unfold inV
      rw [hok]
      rw [hf'] at hbr
      simp only [if_true, Bool.false_and, Bool.false_eq_true, if_false]
      cases hn : ngB s with
      | true =>
        have hx := bd_neg hn
        rw [hn] at hov hbr
        have := hz hn
        simp only [Int.toNat_one, Int.toNat_natCast, ← hx, hbr, overT, hov, hn]
        repeat' (first | refine wC (by first | omega | (simp only [W1, cond_true, cond_false, hbl]; first | done | omega)) ?_ | refine wT (by first | omega | (simp only [W1, cond_true, cond_false, hbl]; first | done | omega)) ?_ | refine wF (by intro _h; first | omega | (simp only [W1, cond_true, cond_false, hbl] at _h; first | done | omega)) ?_ | (refine wS ?_ ?_ <;> intro _h <;> simp only [W1, cond_true, cond_false, hbl] at _h))
        all_goals simp only [W1, W2, owesN, owesX, owesR, cond_true, cond_false, hbl]
        repeat' (first | apply And.intro | intro _hc)
        all_goals first | exact tup2 (leI rfl) (leI rfl) | exact AV.le_refl _ | exact AV.le_any _ | exact OLe.refl _ | exact OLe.none _ | exact LeH.refl _ | exact LeL.refl _ | exact AV.le.bs _ | exact AV.le.sb _ | omega | contradiction
      | false =>
        have hx := bd_pos hn
        rw [hn, hx] at hov hbr
        simp only [hbr, overF, hov, hn]
        repeat' (first | refine wC (by first | omega | (simp only [W1, cond_true, cond_false, hs]; first | done | omega)) ?_ | refine wT (by first | omega | (simp only [W1, cond_true, cond_false, hs]; first | done | omega)) ?_ | refine wF (by intro _h; first | omega | (simp only [W1, cond_true, cond_false, hs] at _h; first | done | omega)) ?_ | (refine wS ?_ ?_ <;> intro _h <;> simp only [W1, cond_true, cond_false, hs] at _h))
        all_goals simp only [W1, W2, owesN, owesX, owesR, cond_true, cond_false, hs]
        repeat' (first | apply And.intro | intro _hc)
        all_goals first | exact tup2 (leI rfl) (leI rfl) | exact AV.le_refl _ | exact AV.le_any _ | exact OLe.refl _ | exact OLe.none _ | exact LeH.refl _ | exact LeL.refl _ | exact AV.le.bs _ | exact AV.le.sb _ | omega | contradiction
end Go.Eng.TA

/- numbers: printed, the loops. -/
namespace Go.Eng.TA
open Go Go.Eng Go.Eng.M Go.Lib Go.Proofs
set_option linter.unusedSimpArgs false
set_option linter.unusedVariables false
noncomputable abbrev lpPn : Code := loopOf (bodyOf Tryd.f84) 0
abbrev lvPn : List Nat := [0, 3, 4, 5, 6]
def SPn (v : Int) (i m : Nat) (dn : Bool) (T : ByteArray) : List AV × Heap := ([.v (.int .i64 v), .ap 0, .v (.int .i64 (i : Int)), .v (.int .i64 (-(m : Int))), .sb dn], [some (.arr 1 20 (bsF T))])
def OPn (v : Int) (i : Nat) (T : ByteArray) : Out := ⟨.exit 0, [.v (.int .i64 v), .ap 0, .v (.int .i64 (i : Int)), .any, .any], [some (.arr 1 20 (bsF T))]⟩
theorem rPn (v : Int) (i m : Nat) (dn : Bool) (T : ByteArray) : roundE (P := Tryd.prog) (Γ := Γm) [] Lno false 0 0 lpPn lvPn [] 35 (SPn v i m dn T).1 (SPn v i m dn T).2 =
  Tree.br (!dn) (Tree.chk true (Tree.chk (decide ((0 : Int) ≤ IntKind.wrap IntKind.i64 ((↑i : Int) - (1 : Int))) && decide (IntKind.wrap IntKind.i64 ((↑i : Int) - (1 : Int)) < (↑(20 : Nat) :
    Int))) (Tree.chk true (Tree.leaf (Out.mk AEx.normal [AV.v (Value.int IntKind.i64 v), AV.ap (0 : Nat), AV.v (Value.int IntKind.i64 (IntKind.wrap IntKind.i64 ((↑i : Int) - (1 : Int)))),
    AV.v (Value.int IntKind.i64 (IntKind.wrap IntKind.i64 (Int.tdiv (-(↑m : Int)) (10 : Int)))), AV.sb (decide (IntKind.wrap IntKind.i64 (Int.tdiv (-(↑m : Int)) (10 : Int)) = (0 : Int)))]
    [some (Blk.arr (1 : Nat) (20 : Nat) fun k => mixL (Nat.beq k (Int.toNat (IntKind.wrap IntKind.i64 ((↑i : Int) - (1 : Int))))) [AV.v (Value.int IntKind.u8 (IntKind.wrap IntKind.u8
    (IntKind.wrap IntKind.i64 ((48 : Int) - Int.tmod (-(↑m : Int)) (10 : Int)))))] [AV.v (Value.int IntKind.u8 (sbyte T k))])]))))) (Tree.leaf (Out.mk (AEx.exit (0 : Nat)) [AV.v (Value.int
    IntKind.i64 v), AV.ap (0 : Nat), AV.v (Value.int IntKind.i64 (↑i : Int)), AV.v (Value.int IntKind.i64 (-(↑m : Int))), AV.sb dn] [some (Blk.arr (1 : Nat) (20 : Nat) fun j => [AV.v
    (Value.int IntKind.u8 (sbyte T j))])])) := by kernel_rfl
theorem runPn (v : Int) (m i : Nat) (T0 T : ByteArray) : bodyE (P := Tryd.prog) (Γ := Γm) [] (fun _ => LSpec.at lvPn [] (SPn v 20 m false T0) (OPn v i T)) false 35 [.tmp 2] (bodyOf Tryd.f84) [.v (.int .i64 v)] [] =
  Tree.br (decide ((0 : Int) < v)) (Tree.chk (cl (LeL [AV.v (Value.int IntKind.i64 v), AV.ap (0 : Nat), AV.v (Value.int IntKind.i64 (20 : Int)), AV.v (Value.int IntKind.i64 (IntKind.wrap
    IntKind.i64 ((0 : Int) - v))), AV.v (Value.bool false)] [AV.v (Value.int IntKind.i64 v), AV.ap (0 : Nat), AV.v (Value.int IntKind.i64 (↑(20 : Nat) : Int)), AV.v (Value.int IntKind.i64
    (-(↑m : Int))), AV.sb false] ∧ LeH [some (Blk.arr (1 : Nat) (20 : Nat) fun x => [AV.v (Value.int IntKind.u8 (bif Nat.beq x (0 : Nat) then (0 : Int) else bif Nat.beq x (1 : Nat) then (0 :
    Int) else bif Nat.beq x (2 : Nat) then (0 : Int) else bif Nat.beq x (3 : Nat) then (0 : Int) else bif Nat.beq x (4 : Nat) then (0 : Int) else bif Nat.beq x (5 : Nat) then (0 : Int) else
    bif Nat.beq x (6 : Nat) then (0 : Int) else bif Nat.beq x (7 : Nat) then (0 : Int) else bif Nat.beq x (8 : Nat) then (0 : Int) else bif Nat.beq x (9 : Nat) then (0 : Int) else bif
    Nat.beq x (10 : Nat) then (0 : Int) else bif Nat.beq x (11 : Nat) then (0 : Int) else bif Nat.beq x (12 : Nat) then (0 : Int) else bif Nat.beq x (13 : Nat) then (0 : Int) else bif
    Nat.beq x (14 : Nat) then (0 : Int) else bif Nat.beq x (15 : Nat) then (0 : Int) else bif Nat.beq x (16 : Nat) then (0 : Int) else bif Nat.beq x (17 : Nat) then (0 : Int) else bif
    Nat.beq x (18 : Nat) then (0 : Int) else bif Nat.beq x (19 : Nat) then (0 : Int) else (0 : Int)))])] [some (Blk.arr (1 : Nat) (20 : Nat) fun j => [AV.v (Value.int IntKind.u8 (sbyte T0
    j))])])) (Tree.br (decide (v < (0 : Int))) (Tree.chk (decide ((0 : Int) ≤ IntKind.wrap IntKind.i64 ((↑i : Int) - (1 : Int))) && decide (IntKind.wrap IntKind.i64 ((↑i : Int) - (1 : Int))
    < (↑(20 : Nat) : Int))) (Tree.chk (decide ((0 : Int) ≤ IntKind.wrap IntKind.i64 ((↑i : Int) - (1 : Int))) && decide (IntKind.wrap IntKind.i64 ((↑i : Int) - (1 : Int)) ≤ (↑(20 : Nat) :
    Int)) && true && allBytes ((20 : Nat) - Int.toNat (IntKind.wrap IntKind.i64 ((↑i : Int) - (1 : Int)))) fun j => mixL (Nat.beq (Int.toNat (IntKind.wrap IntKind.i64 ((↑i : Int) - (1 :
    Int))) + j) (Int.toNat (IntKind.wrap IntKind.i64 ((↑i : Int) - (1 : Int))))) [AV.v (Value.int IntKind.u8 (45 : Int))] [AV.v (Value.int IntKind.u8 (sbyte T (Int.toNat (IntKind.wrap
    IntKind.i64 ((↑i : Int) - (1 : Int))) + j)))]) (Tree.leaf (Ans.mk (AV.v (Value.string (textOf ((20 : Nat) - Int.toNat (IntKind.wrap IntKind.i64 ((↑i : Int) - (1 : Int)))) fun j => mixL
    (Nat.beq (Int.toNat (IntKind.wrap IntKind.i64 ((↑i : Int) - (1 : Int))) + j) (Int.toNat (IntKind.wrap IntKind.i64 ((↑i : Int) - (1 : Int))))) [AV.v (Value.int IntKind.u8 (45 : Int))]
    [AV.v (Value.int IntKind.u8 (sbyte T (Int.toNat (IntKind.wrap IntKind.i64 ((↑i : Int) - (1 : Int))) + j)))]))) [])))) (Tree.chk (decide ((0 : Int) ≤ (↑i : Int)) && decide ((↑i : Int) ≤
    (↑(20 : Nat) : Int)) && true && allBytes ((20 : Nat) - i) fun j => [AV.v (Value.int IntKind.u8 (sbyte T (i + j)))]) (Tree.leaf (Ans.mk (AV.v (Value.string (textOf ((20 : Nat) - i) fun j
    => [AV.v (Value.int IntKind.u8 (sbyte T (i + j)))]))) []))))) (Tree.chk (cl (LeL [AV.v (Value.int IntKind.i64 v), AV.ap (0 : Nat), AV.v (Value.int IntKind.i64 (20 : Int)), AV.v
    (Value.int IntKind.i64 v), AV.v (Value.bool false)] [AV.v (Value.int IntKind.i64 v), AV.ap (0 : Nat), AV.v (Value.int IntKind.i64 (↑(20 : Nat) : Int)), AV.v (Value.int IntKind.i64 (-(↑m
    : Int))), AV.sb false] ∧ LeH [some (Blk.arr (1 : Nat) (20 : Nat) fun x => [AV.v (Value.int IntKind.u8 (bif Nat.beq x (0 : Nat) then (0 : Int) else bif Nat.beq x (1 : Nat) then (0 : Int)
    else bif Nat.beq x (2 : Nat) then (0 : Int) else bif Nat.beq x (3 : Nat) then (0 : Int) else bif Nat.beq x (4 : Nat) then (0 : Int) else bif Nat.beq x (5 : Nat) then (0 : Int) else bif
    Nat.beq x (6 : Nat) then (0 : Int) else bif Nat.beq x (7 : Nat) then (0 : Int) else bif Nat.beq x (8 : Nat) then (0 : Int) else bif Nat.beq x (9 : Nat) then (0 : Int) else bif Nat.beq x
    (10 : Nat) then (0 : Int) else bif Nat.beq x (11 : Nat) then (0 : Int) else bif Nat.beq x (12 : Nat) then (0 : Int) else bif Nat.beq x (13 : Nat) then (0 : Int) else bif Nat.beq x (14 :
    Nat) then (0 : Int) else bif Nat.beq x (15 : Nat) then (0 : Int) else bif Nat.beq x (16 : Nat) then (0 : Int) else bif Nat.beq x (17 : Nat) then (0 : Int) else bif Nat.beq x (18 : Nat)
    then (0 : Int) else bif Nat.beq x (19 : Nat) then (0 : Int) else (0 : Int)))])] [some (Blk.arr (1 : Nat) (20 : Nat) fun j => [AV.v (Value.int IntKind.u8 (sbyte T0 j))])])) (Tree.br
    (decide (v < (0 : Int))) (Tree.chk (decide ((0 : Int) ≤ IntKind.wrap IntKind.i64 ((↑i : Int) - (1 : Int))) && decide (IntKind.wrap IntKind.i64 ((↑i : Int) - (1 : Int)) < (↑(20 : Nat) :
    Int))) (Tree.chk (decide ((0 : Int) ≤ IntKind.wrap IntKind.i64 ((↑i : Int) - (1 : Int))) && decide (IntKind.wrap IntKind.i64 ((↑i : Int) - (1 : Int)) ≤ (↑(20 : Nat) : Int)) && true &&
    allBytes ((20 : Nat) - Int.toNat (IntKind.wrap IntKind.i64 ((↑i : Int) - (1 : Int)))) fun j => mixL (Nat.beq (Int.toNat (IntKind.wrap IntKind.i64 ((↑i : Int) - (1 : Int))) + j)
    (Int.toNat (IntKind.wrap IntKind.i64 ((↑i : Int) - (1 : Int))))) [AV.v (Value.int IntKind.u8 (45 : Int))] [AV.v (Value.int IntKind.u8 (sbyte T (Int.toNat (IntKind.wrap IntKind.i64 ((↑i :
    Int) - (1 : Int))) + j)))]) (Tree.leaf (Ans.mk (AV.v (Value.string (textOf ((20 : Nat) - Int.toNat (IntKind.wrap IntKind.i64 ((↑i : Int) - (1 : Int)))) fun j => mixL (Nat.beq (Int.toNat
    (IntKind.wrap IntKind.i64 ((↑i : Int) - (1 : Int))) + j) (Int.toNat (IntKind.wrap IntKind.i64 ((↑i : Int) - (1 : Int))))) [AV.v (Value.int IntKind.u8 (45 : Int))] [AV.v (Value.int
    IntKind.u8 (sbyte T (Int.toNat (IntKind.wrap IntKind.i64 ((↑i : Int) - (1 : Int))) + j)))]))) [])))) (Tree.chk (decide ((0 : Int) ≤ (↑i : Int)) && decide ((↑i : Int) ≤ (↑(20 : Nat) :
    Int)) && true && allBytes ((20 : Nat) - i) fun j => [AV.v (Value.int IntKind.u8 (sbyte T (i + j)))]) (Tree.leaf (Ans.mk (AV.v (Value.string (textOf ((20 : Nat) - i) fun j => [AV.v
    (Value.int IntKind.u8 (sbyte T (i + j)))]))) []))))) := by kernel_rfl
end Go.Eng.TA

/- numbers: printed: the program's loop. -/
namespace Go.Eng.TA
open Go Go.Eng Go.Eng.M Go.Lib Go.Proofs
set_option linter.unusedSimpArgs false
set_option linter.unusedVariables false
def prL (n : Nat) : List UInt8 := if n < 10 then [b8 (48 + n)] else prL (n / 10) ++ [b8 (48 + n % 10)]
  termination_by n
  decreasing_by omega
theorem prL_small {n : Nat} (h : n < 10) : prL n = [b8 (48 + n)] := by rw [prL, if_pos h]
theorem prL_step {n : Nat} (h : 10 ≤ n) : prL n = prL (n / 10) ++ [b8 (48 + n % 10)] := by rw [prL, if_neg (by omega)]
theorem prL_pos (n : Nat) : 1 ≤ (prL n).length := by
  rcases Nat.lt_or_ge n 10 with h | h
  · rw [prL_small h]; exact Nat.le_refl _
  · rw [prL_step h]; simp
theorem prL_len : ∀ (k n : Nat), n < 10 ^ (k + 1) → (prL n).length ≤ k + 1 := by
  intro k
  induction k with
  | zero => intro n h; rw [prL_small (by simpa using h)]; exact Nat.le_refl _
  | succ k ih =>
    intro n h
    rcases Nat.lt_or_ge n 10 with h1 | h1
    · rw [prL_small h1]; simp
    · rw [prL_step h1, List.length_append]
      have := ih (n / 10) (by rw [Nat.pow_succ] at h; omega)
      simp; omega
def padT (t : List UInt8) : ByteArray := ⟨⟨List.replicate (20 - t.length) 0 ++ t⟩⟩
theorem sb_pad (t : List UInt8) (k : Nat) : sbyte (padT t) k = (((List.replicate (20 - t.length) 0 ++ t)[k]?.getD 0).toNat : Int) := by
  show ((((padT t).data[k]?).getD 0).toNat : Int) = _
  unfold padT
  simp
theorem sb_zero (k : Nat) : sbyte (padT []) k = 0 := by
  rw [sb_pad]
  simp only [List.append_nil, List.getElem?_replicate]
  split <;> rfl
theorem sb_cons {t : List UInt8} (h : t.length < 20) (d : UInt8) (k : Nat) : sbyte (padT (d :: t)) k = if k = 19 - t.length then (d.toNat : Int) else sbyte (padT t) k := by
  rw [sb_pad, sb_pad]
  have e1 : 20 - (d :: t).length = 19 - t.length := by rw [List.length_cons]; omega
  have e2 : 20 - t.length = (19 - t.length) + 1 := by omega
  rw [e1, e2]
  generalize 19 - t.length = n
  rcases Nat.lt_trichotomy k n with c | c | c
  · rw [if_neg (by omega), List.getElem?_append_left (by simp; omega), List.getElem?_append_left (by simp; omega), List.getElem?_replicate, List.getElem?_replicate, if_pos c, if_pos (by omega)]
  · subst c
    rw [if_pos rfl, List.getElem?_append_right (by simp)]
    simp
  · rw [if_neg (by omega), List.getElem?_append_right (by simp; omega), List.getElem?_append_right (by simp; omega), List.length_replicate, List.length_replicate, show k - n = (k - (n + 1)) + 1 by omega, List.getElem?_cons_succ]
theorem mixU (c : Bool) (a b : Int) : mixL c [.v (.int .u8 a)] [.v (.int .u8 b)] = [.v (.int .u8 (bif c then a else b))] := by cases c <;> rfl
theorem upd_pad {t : List UInt8} (h : t.length < 20) (d : UInt8) {q : Nat} (hq : q = 19 - t.length) {a : Int} (ha : a = (d.toNat : Int)) : (fun k => mixL (Nat.beq k q) [.v (.int .u8 a)] (bsF (padT t) k)) = bsF (padT (d :: t)) := by
  funext k
  show mixL _ _ [.v (.int .u8 (sbyte (padT t) k))] = [.v (.int .u8 (sbyte (padT (d :: t)) k))]
  rw [mixU, sb_cons h, hq, ha]
  by_cases hk : k = 19 - t.length
  · rw [if_pos hk, show Nat.beq k (19 - t.length) = true from by rw [Nat.beq_eq]; exact hk]; rfl
  · rw [if_neg hk, show Nat.beq k (19 - t.length) = false from by rw [Bool.eq_false_iff]; exact fun h => hk (Nat.eq_of_beq_eq_true h)]; rfl
theorem dg8 {m : Nat} : IntKind.wrap IntKind.u8 (IntKind.wrap IntKind.i64 ((48 : Int) - Int.tmod (-(m : Int)) (10 : Int))) = (((b8 (48 + m % 10)).toNat : Nat) : Int) := by
  rw [Int.neg_tmod, Int.tmod_eq_emod_of_nonneg (by omega)]
  have h1 : IntKind.wrap IntKind.i64 ((48 : Int) - -((m : Int) % 10)) = (48 : Int) - -((m : Int) % 10) := wrap64 (by omega) (by omega)
  rw [h1, wrapU8, b8_nat (by omega)]
  omega
theorem dq8 {m : Nat} (h : m ≤ 9223372036854775808) : IntKind.wrap IntKind.i64 (Int.tdiv (-(m : Int)) (10 : Int)) = -((m / 10 : Nat) : Int) := by
  rw [Int.neg_tdiv, Int.tdiv_eq_ediv_of_nonneg (by omega), wrap64 (by omega) (by omega)]
  omega
def dnN (b : Bool) : Nat := if b then 0 else 1
structure XN where
  m : Nat
  dn : Bool
  t : List UInt8
theorem loopPn {v : Int} {tgt : List UInt8} (ht : tgt.length ≤ 19) : ∀ x : XN, (x.m ≤ 9223372036854775808 ∧ ((x.dn = true ∧ x.m = 0 ∧ x.t = tgt) ∨ (x.dn = false ∧ prL x.m ++ x.t = tgt))) → LoopOK Tryd.prog Γm 0 35 lpPn (LSpec.at lvPn [] (SPn v (20 - x.t.length) x.m x.dn (padT x.t)) (OPn v (20 - tgt.length) (padT tgt))) := by
  refine loop_at (S := fun x : XN => SPn v (20 - x.t.length) x.m x.dn (padT x.t)) (O := fun _ => OPn v (20 - tgt.length) (padT tgt)) (k := 0) (fun x => 2 * x.m + dnN x.dn) fun x hp => .of (noLoops (by kernel_rfl)) (rPn v (20 - x.t.length) x.m x.dn (padT x.t)) ?_
  obtain ⟨m, dn, t⟩ := x
  obtain ⟨h1, h2⟩ := hp
  dsimp only at h1 h2
  rcases h2 with ⟨rfl, rfl, rfl⟩ | ⟨rfl, h2⟩
  · repeat' (first | refine wC (by first | omega | (simp only [W1, cond_true, cond_false]; first | done | omega)) ?_ | refine wT (by first | omega | (simp only [W1, cond_true, cond_false]; first | done | omega)) ?_ | refine wF (by intro _h; first | omega | (simp only [W1, cond_true, cond_false] at _h; first | done | omega)) ?_ | (refine wS ?_ ?_ <;> intro _h <;> simp only [W1, cond_true, cond_false] at _h))
    all_goals simp only [W1, W2, owesN, owesX, owesR, cond_true, cond_false]
    repeat' (first | apply And.intro | intro _hc)
    all_goals first | exact rfl | exact AV.le_refl _ | exact AV.le_any _ | exact OLe.refl _ | exact OLe.none _ | exact LeH.refl _ | exact LeL.refl _ | exact AV.le.bs _ | exact AV.le.sb _ | omega | contradiction
  · have hl := congrArg List.length h2
    rw [List.length_append] at hl
    have hpl := prL_pos m
    have w1 : IntKind.wrap IntKind.i64 (((20 - t.length : Nat) : Int) - 1) = ((19 - t.length : Nat) : Int) := by rw [wrap64 (by omega) (by omega)]; omega
    have hu := upd_pad (t := t) (by omega) (b8 (48 + m % 10)) (q := 19 - t.length) rfl rfl
    have hz : decide (-((m / 10 : Nat) : Int) = 0) = decide (m / 10 = 0) := by
      rw [Bool.eq_iff_iff, decide_eq_true_iff, decide_eq_true_iff]; omega
    have hnx : (decide (m / 10 = 0) = true ∧ m / 10 = 0 ∧ b8 (48 + m % 10) :: t = tgt) ∨ (decide (m / 10 = 0) = false ∧ prL (m / 10) ++ b8 (48 + m % 10) :: t = tgt) := by
      rcases Nat.lt_or_ge m 10 with c | c
      · refine .inl ⟨decide_eq_true (by omega), by omega, ?_⟩
        rw [prL_small c] at h2
        rw [show m % 10 = m by omega]; exact h2
      · refine .inr ⟨decide_eq_false (by omega), ?_⟩
        rw [prL_step c, List.append_assoc] at h2
        exact h2
    have hlen : 20 - (b8 (48 + m % 10) :: t).length = 19 - t.length := by rw [List.length_cons]; omega
    have hmu : 2 * (m / 10) + dnN (decide (m / 10 = 0)) < 2 * m + dnN false := by
      have e1 : dnN false = 1 := rfl
      by_cases hc : m / 10 = 0
      · rw [decide_eq_true hc, e1, show dnN true = 0 from rfl]; omega
      · rw [decide_eq_false hc, e1]; omega
    have hu' : OLe (some (Blk.arr 1 20 fun k => mixL (Nat.beq k (19 - t.length)) [.v (.int .u8 ((b8 (48 + m % 10)).toNat : Int))] [.v (.int .u8 (sbyte (padT t) k))])) (some (.arr 1 20 (bsF (padT (b8 (48 + m % 10) :: t))))) := by
      rw [← hu]; exact OLe.refl _
    simp only [w1, dq8 h1, dg8, hz, Int.toNat_natCast]
    repeat' (first | refine wC (by first | omega | (simp only [W1, cond_true, cond_false]; first | done | omega)) ?_ | refine wT (by first | omega | (simp only [W1, cond_true, cond_false]; first | done | omega)) ?_ | refine wF (by intro _h; first | omega | (simp only [W1, cond_true, cond_false] at _h; first | done | omega)) ?_ | (refine wS ?_ ?_ <;> intro _h <;> simp only [W1, cond_true, cond_false] at _h))
    all_goals simp only [W1, W2, owesN, owesX, owesR, cond_true, cond_false]
    repeat' (first | apply And.intro | intro _hc)
    all_goals first | exact ⟨⟨m / 10, decide (m / 10 = 0), b8 (48 + m % 10) :: t⟩, by (rw [hlen]; exact LeL.refl _), ⟨hu', trivial⟩, ⟨by dsimp only; omega, hnx⟩, hmu⟩ | exact AV.le_refl _ | exact AV.le_any _ | exact OLe.refl _ | exact OLe.none _ | exact LeH.refl _ | exact LeL.refl _ | exact AV.le.bs _ | exact AV.le.sb _ | omega | contradiction
end Go.Eng.TA

/- numbers: printed: the contracts. -/
namespace Go.Eng.TA
open Go Go.Eng Go.Eng.M Go.Lib Go.Proofs
set_option linter.unusedSimpArgs false
set_option linter.unusedVariables false
def prU (v : Int) : List UInt8 := if v < 0 then 45 :: prL v.natAbs else prL v.natAbs
def prS (v : Int) : ByteArray := ⟨⟨prU v⟩⟩
def inI64 (v : Int) : Prop := -9223372036854775808 ≤ v ∧ v ≤ 9223372036854775807
theorem sb_tail {u : List UInt8} (h : u.length ≤ 20) (j : Nat) : sbyte (padT u) (20 - u.length + j) = sbyte ⟨⟨u⟩⟩ j := by
  rw [sb_pad, List.getElem?_append_right (by simp)]
  rw [List.length_replicate, show 20 - u.length + j - (20 - u.length) = j by omega]
  show _ = ((((⟨⟨u⟩⟩ : ByteArray).data[j]?).getD 0).toNat : Int)
  simp
theorem txt_pad {u : List UInt8} (h : u.length ≤ 20) {n : Nat} (hn : n = u.length) : textOf n (fun j => [.v (.int .u8 (sbyte (padT u) (20 - u.length + j)))]) = ⟨⟨u⟩⟩ := by
  have : (fun j => [AV.v (.int .u8 (sbyte (padT u) (20 - u.length + j)))]) = bsF ⟨⟨u⟩⟩ := by
    funext j; rw [sb_tail h]; rfl
  rw [this]
  exact textOf_bs hn
theorem all_pad (n i : Nat) (T : ByteArray) : allBytes n (fun j => [.v (.int .u8 (sbyte T (i + j)))]) = true := by
  unfold allBytes
  rw [List.all_eq_true]
  intro j _
  rfl
theorem neg_pad {t : List UInt8} (h : t.length < 20) (j : Nat) : mixL (Nat.beq (19 - t.length + j) (19 - t.length)) [.v (.int .u8 45)] [.v (.int .u8 (sbyte (padT t) (19 - t.length + j)))] = [.v (.int .u8 (sbyte (padT (45 :: t)) (19 - t.length + j)))] :=
  congrFun (upd_pad h 45 (q := 19 - t.length) rfl (a := 45) rfl) (19 - t.length + j)
theorem ansPn {v : Int} (h : inI64 v) : Answers Tryd.prog Γm 84 [.v (.int .i64 v)] [] (.v (.string (prS v))) [] [] := by
  obtain ⟨h1, h2⟩ := h
  have hlen : (prL v.natAbs).length ≤ 19 := prL_len 18 _ (by omega)
  have hl := loopPn (v := v) hlen ⟨v.natAbs, false, []⟩ ⟨by dsimp only; omega, .inr ⟨rfl, List.append_nil _⟩⟩
  refine answers (fn := Tryd.f84) (c := bodyOf Tryd.f84) (ntmps := 35) (results := [.tmp 2]) [] (fun _ => LSpec.at lvPn [] (SPn v 20 v.natAbs false (padT [])) (OPn v (20 - (prL v.natAbs).length) (padT (prL v.natAbs)))) false Tryd.func84 (by kernel_rfl) (by kernel_rfl) (by kernel_rfl) (by kernel_rfl) (by simp) rfl (oneLoop (b := lpPn) (by kernel_rfl) hl) <| Meets.of (runPn v v.natAbs (20 - (prL v.natAbs).length) (padT []) (padT (prL v.natAbs))) <| ?_
  have hc : ∀ b : Bool, (bif b then (0 : Int) else 0) = 0 := fun b => by cases b <;> rfl
  unfold prS prU
  rcases Int.lt_trichotomy v 0 with c | c | c
  · rw [if_pos c]
    have w0 : -((v.natAbs : Nat) : Int) = v := by omega
    have hsp := prL_pos v.natAbs
    generalize prL v.natAbs = t at *
    have w1 : IntKind.wrap IntKind.i64 (((20 - t.length : Nat) : Int) - 1) = ((19 - t.length : Nat) : Int) := by rw [wrap64 (by omega) (by omega)]; omega
    have hT : textOf (20 - (19 - t.length)) (fun j => [.v (.int .u8 (sbyte (padT (45 :: t)) (19 - t.length + j)))]) = ⟨⟨45 :: t⟩⟩ := by
      have := txt_pad (u := 45 :: t) (by rw [List.length_cons]; omega) (n := 20 - (19 - t.length)) (by rw [List.length_cons]; omega)
      rw [show 20 - (45 :: t).length = 19 - t.length by rw [List.length_cons]; omega] at this
      exact this
    simp only [w1, Int.toNat_natCast, neg_pad (show t.length < 20 by omega), hT, all_pad, w0, hc, sb_zero]
    repeat' (first | refine wC (by first | omega | (simp only [W1, cond_true, cond_false]; first | done | omega)) ?_ | refine wT (by first | omega | (simp only [W1, cond_true, cond_false]; first | done | omega)) ?_ | refine wF (by intro _h; first | omega | (simp only [W1, cond_true, cond_false] at _h; first | done | omega)) ?_ | (refine wS ?_ ?_ <;> intro _h <;> simp only [W1, cond_true, cond_false] at _h))
    all_goals simp only [W1, W2, owesN, owesX, owesR, cond_true, cond_false]
    repeat' (first | apply And.intro | intro _hc)
    all_goals first | exact AV.le_refl _ | exact AV.le_any _ | exact OLe.refl _ | exact OLe.none _ | exact LeH.refl _ | exact LeL.refl _ | exact AV.le.bs _ | exact AV.le.sb _ | omega | contradiction
  · subst c
    rw [if_neg (by omega)]
    have hT := txt_pad (u := prL (Int.natAbs 0)) (by omega) (n := 20 - (20 - (prL (Int.natAbs 0)).length)) (by omega)
    simp only [hT, all_pad, hc, sb_zero]
    repeat' (first | refine wC (by first | omega | (simp only [W1, cond_true, cond_false]; first | done | omega)) ?_ | refine wT (by first | omega | (simp only [W1, cond_true, cond_false]; first | done | omega)) ?_ | refine wF (by intro _h; first | omega | (simp only [W1, cond_true, cond_false] at _h; first | done | omega)) ?_ | (refine wS ?_ ?_ <;> intro _h <;> simp only [W1, cond_true, cond_false] at _h))
    all_goals simp only [W1, W2, owesN, owesX, owesR, cond_true, cond_false]
    repeat' (first | apply And.intro | intro _hc)
    all_goals first | exact AV.le_refl _ | exact AV.le_any _ | exact OLe.refl _ | exact OLe.none _ | exact LeH.refl _ | exact LeL.refl _ | exact AV.le.bs _ | exact AV.le.sb _ | omega | contradiction
  · rw [if_neg (by omega)]
    have w0 : IntKind.wrap IntKind.i64 ((0 : Int) - v) = -((v.natAbs : Nat) : Int) := by rw [wrap64 (by omega) (by omega)]; omega
    have hT := txt_pad (u := prL v.natAbs) (by omega) (n := 20 - (20 - (prL v.natAbs).length)) (by omega)
    simp only [hT, all_pad, hc, sb_zero, w0]
    repeat' (first | refine wC (by first | omega | (simp only [W1, cond_true, cond_false]; first | done | omega)) ?_ | refine wT (by first | omega | (simp only [W1, cond_true, cond_false]; first | done | omega)) ?_ | refine wF (by intro _h; first | omega | (simp only [W1, cond_true, cond_false] at _h; first | done | omega)) ?_ | (refine wS ?_ ?_ <;> intro _h <;> simp only [W1, cond_true, cond_false] at _h))
    all_goals simp only [W1, W2, owesN, owesX, owesR, cond_true, cond_false]
    repeat' (first | apply And.intro | intro _hc)
    all_goals first | exact AV.le_refl _ | exact AV.le_any _ | exact OLe.refl _ | exact OLe.none _ | exact LeH.refl _ | exact LeL.refl _ | exact AV.le.bs _ | exact AV.le.sb _ | omega | contradiction
noncomputable def kPr : CT Tryd.prog Γm := CT.oI 84 .i64 Tryd.func84 (by kernel_rfl) (by kernel_rfl) (fun v => inI64 v) (fun v => .v (.string (prS v))) (fun _ => []) (fun v h => ansPn h)
end Go.Eng.TA

/- numbers: the document prints. -/
namespace Go.Eng.TA
open Go Go.Eng Go.Eng.M Go.Lib Go.Proofs
set_option linter.unusedSimpArgs false
set_option linter.unusedVariables false
noncomputable abbrev lpPr : Code := loopOf (bodyOf Tryd.f89) 0
def SPr (v : Nat) (s : ByteArray) : List AV × Heap := ([.v (.int .i64 (v : Int)), .v (.string s), .any], [])
def OPr (s : ByteArray) : Out := ⟨.ret, [.any, .any, .v (.string s)], []⟩
theorem rPr (v : Nat) (s : ByteArray) : roundE (P := Tryd.prog) (Γ := Γm) [] Lno false 0 0 lpPr [0, 3, 2] [] 25 (SPr v s).1 (SPr v s).2 =
  Tree.chk true (Tree.chk (allBytes (1 : Nat) fun j => chain [AV.v (Value.int IntKind.u8 (0 : Int))] (0 : Nat) [[AV.v (Value.int IntKind.u8 (IntKind.wrap IntKind.u8 (IntKind.wrap IntKind.i64
    ((48 : Int) + Int.tmod (↑v : Int) (10 : Int)))))]] ((0 : Nat) + j)) (Tree.chk (decide ((1 : Nat) + ByteArray.size s ≤ (9223372036854775807 : Nat))) (Tree.chk true (Tree.br (decide
    (IntKind.wrap IntKind.i64 (Int.tdiv (↑v : Int) (10 : Int)) = (0 : Int))) (Tree.leaf (Out.mk AEx.ret [AV.v (Value.int IntKind.i64 (IntKind.wrap IntKind.i64 (Int.tdiv (↑v : Int) (10 :
    Int)))), AV.v (Value.string ((textOf (1 : Nat) fun j => chain [AV.v (Value.int IntKind.u8 (0 : Int))] (0 : Nat) [[AV.v (Value.int IntKind.u8 (IntKind.wrap IntKind.u8 (IntKind.wrap
    IntKind.i64 ((48 : Int) + Int.tmod (↑v : Int) (10 : Int)))))]] ((0 : Nat) + j)) ++ s)), AV.v (Value.string ((textOf (1 : Nat) fun j => chain [AV.v (Value.int IntKind.u8 (0 : Int))] (0 :
    Nat) [[AV.v (Value.int IntKind.u8 (IntKind.wrap IntKind.u8 (IntKind.wrap IntKind.i64 ((48 : Int) + Int.tmod (↑v : Int) (10 : Int)))))]] ((0 : Nat) + j)) ++ s))] [])) (Tree.leaf (Out.mk
    AEx.normal [AV.v (Value.int IntKind.i64 (IntKind.wrap IntKind.i64 (Int.tdiv (↑v : Int) (10 : Int)))), AV.v (Value.string ((textOf (1 : Nat) fun j => chain [AV.v (Value.int IntKind.u8 (0
    : Int))] (0 : Nat) [[AV.v (Value.int IntKind.u8 (IntKind.wrap IntKind.u8 (IntKind.wrap IntKind.i64 ((48 : Int) + Int.tmod (↑v : Int) (10 : Int)))))]] ((0 : Nat) + j)) ++ s)), AV.any]
    [])))))) := by kernel_rfl
theorem dgT {v : Nat} : textOf (1 : Nat) (fun j => chain [AV.v (Value.int IntKind.u8 (0 : Int))] (0 : Nat) [[AV.v (Value.int IntKind.u8 (IntKind.wrap IntKind.u8 (IntKind.wrap IntKind.i64 ((48 : Int) + Int.tmod (v : Int) (10 : Int)))))]] ((0 : Nat) + j)) = ⟨⟨[b8 (48 + v % 10)]⟩⟩ := by
  rw [Int.tmod_eq_emod_of_nonneg (by omega)]
  have h1 : IntKind.wrap IntKind.i64 ((48 : Int) + (v : Int) % 10) = (48 : Int) + (v : Int) % 10 := wrap64 (by omega) (by omega)
  have h2 : IntKind.wrap IntKind.u8 ((48 : Int) + (v : Int) % 10) = ((48 + v % 10 : Nat) : Int) := by rw [wrapU8]; omega
  rw [h1, h2]
  rfl
theorem dgA {v : Nat} : allBytes (1 : Nat) (fun j => chain [AV.v (Value.int IntKind.u8 (0 : Int))] (0 : Nat) [[AV.v (Value.int IntKind.u8 (IntKind.wrap IntKind.u8 (IntKind.wrap IntKind.i64 ((48 : Int) + Int.tmod (v : Int) (10 : Int)))))]] ((0 : Nat) + j)) = true := rfl
theorem mk_app (l m : List UInt8) : (⟨⟨l⟩⟩ : ByteArray) ++ ⟨⟨m⟩⟩ = ⟨⟨l ++ m⟩⟩ := by
  apply ByteArray.ext
  rw [ByteArray.data_append]
  simp
theorem loopPr {tgt : List UInt8} (ht : tgt.length ≤ 100) : ∀ x : Nat × List UInt8, (x.1 ≤ 9223372036854775807 ∧ prL x.1 ++ x.2 = tgt) → LoopOK Tryd.prog Γm 0 25 lpPr (LSpec.at [0, 3, 2] [] (SPr x.1 ⟨⟨x.2⟩⟩) (OPr ⟨⟨tgt⟩⟩)) := by
  refine loop_at (S := fun x : Nat × List UInt8 => SPr x.1 ⟨⟨x.2⟩⟩) (O := fun _ => OPr ⟨⟨tgt⟩⟩) (k := 0) (fun x => x.1) fun x hp => .of (noLoops (by kernel_rfl)) (rPr x.1 ⟨⟨x.2⟩⟩) ?_
  obtain ⟨v, t⟩ := x
  obtain ⟨h1, h2⟩ := hp
  dsimp only at h1 h2
  have hl := congrArg List.length h2
  rw [List.length_append] at hl
  have hq : IntKind.wrap IntKind.i64 (Int.tdiv (v : Int) (10 : Int)) = ((v / 10 : Nat) : Int) := by
    rw [Int.tdiv_eq_ediv_of_nonneg (by omega), wrap64 (by omega) (by omega)]; omega
  have hz : ByteArray.size ⟨⟨t⟩⟩ = t.length := rfl
  simp only [dgA, dgT, hq, mk_app, hz, List.cons_append, List.nil_append]
  rcases Nat.lt_or_ge v 10 with c | c
  · rw [prL_small c] at h2
    have e : b8 (48 + v % 10) :: t = tgt := by rw [show v % 10 = v by omega]; exact h2
    rw [e]
    repeat' (first | refine wC (by first | omega | (simp only [W1, cond_true, cond_false]; first | done | omega)) ?_ | refine wT (by first | omega | (simp only [W1, cond_true, cond_false]; first | done | omega)) ?_ | refine wF (by intro _h; first | omega | (simp only [W1, cond_true, cond_false] at _h; first | done | omega)) ?_ | (refine wS ?_ ?_ <;> intro _h <;> simp only [W1, cond_true, cond_false] at _h))
    all_goals simp only [W1, W2, owesN, owesX, owesR, cond_true, cond_false]
    repeat' (first | apply And.intro | intro _hc)
    all_goals first | exact rfl | exact AV.le_refl _ | exact AV.le_any _ | exact OLe.refl _ | exact OLe.none _ | exact LeH.refl _ | exact LeL.refl _ | exact AV.le.bs _ | exact AV.le.sb _ | omega | contradiction
  · rw [prL_step c, List.append_assoc] at h2
    repeat' (first | refine wC (by first | omega | (simp only [W1, cond_true, cond_false]; first | done | omega)) ?_ | refine wT (by first | omega | (simp only [W1, cond_true, cond_false]; first | done | omega)) ?_ | refine wF (by intro _h; first | omega | (simp only [W1, cond_true, cond_false] at _h; first | done | omega)) ?_ | (refine wS ?_ ?_ <;> intro _h <;> simp only [W1, cond_true, cond_false] at _h))
    all_goals simp only [W1, W2, owesN, owesX, owesR, cond_true, cond_false]
    repeat' (first | apply And.intro | intro _hc)
    all_goals first | exact ⟨(v / 10, b8 (48 + v % 10) :: t), LeL.refl _, LeH.refl _, ⟨by dsimp only; omega, h2⟩, by dsimp only; omega⟩ | exact AV.le_refl _ | exact AV.le_any _ | exact OLe.refl _ | exact OLe.none _ | exact LeH.refl _ | exact LeL.refl _ | exact AV.le.bs _ | exact AV.le.sb _ | omega | contradiction
theorem runPo (v : Nat) (T : ByteArray) : bodyE (P := Tryd.prog) (Γ := Γm) [] (fun _ => LSpec.at [0, 3, 2] [] (SPr v ⟨⟨[]⟩⟩) (OPr T)) false 25 [.tmp 2] (bodyOf Tryd.f89) [.v (.int .i64 (v : Int))] [] =
  Tree.br (decide ((↑v : Int) = (-9223372036854775808 : Int))) (Tree.leaf (Ans.mk (AV.v (Value.string (ByteArray.mk #[(45 : UInt8), (57 : UInt8), (50 : UInt8), (50 : UInt8), (51 : UInt8), (51
    : UInt8), (55 : UInt8), (50 : UInt8), (48 : UInt8), (51 : UInt8), (54 : UInt8), (56 : UInt8), (53 : UInt8), (52 : UInt8), (55 : UInt8), (55 : UInt8), (53 : UInt8), (56 : UInt8), (48 :
    UInt8), (56 : UInt8)]))) [])) (Tree.br (decide ((↑v : Int) < (0 : Int))) Tree.fail (Tree.chk (cl (LeL [AV.v (Value.int IntKind.i64 (↑v : Int)), AV.v (Value.string (ByteArray.mk #[])),
    AV.v (Value.string (ByteArray.mk #[]))] [AV.v (Value.int IntKind.i64 (↑v : Int)), AV.v (Value.string (ByteArray.mk (Array.mk []))), AV.any] ∧ LeH [] [])) (Tree.leaf (Ans.mk (AV.v
    (Value.string T)) [])))) := by kernel_rfl
theorem ansPo {v : Nat} (h : v ≤ 9223372036854775807) : Answers Tryd.prog Γm 89 [.v (.int .i64 (v : Int))] [] (.v (.string (prS (v : Int)))) [] [] := by
  have hlen : (prL v).length ≤ 19 := prL_len 18 _ (by omega)
  have hl := loopPr (tgt := prL v) (by omega) (v, []) ⟨h, List.append_nil _⟩
  have he : prS (v : Int) = ⟨⟨prL v⟩⟩ := by unfold prS prU; rw [if_neg (by omega), Int.natAbs_natCast]
  rw [he]
  refine answers (fn := Tryd.f89) (c := bodyOf Tryd.f89) (ntmps := 25) (results := [.tmp 2]) [] (fun _ => LSpec.at [0, 3, 2] [] (SPr v ⟨⟨[]⟩⟩) (OPr ⟨⟨prL v⟩⟩)) false Tryd.func89 (by kernel_rfl) (by kernel_rfl) (by kernel_rfl) (by kernel_rfl) (by simp) rfl (oneLoop (b := lpPr) (by kernel_rfl) hl) <| Meets.of (runPo v ⟨⟨prL v⟩⟩) <| ?_
  repeat' (first | refine wC (by first | omega | (simp only [W1, cond_true, cond_false]; first | done | omega)) ?_ | refine wT (by first | omega | (simp only [W1, cond_true, cond_false]; first | done | omega)) ?_ | refine wF (by intro _h; first | omega | (simp only [W1, cond_true, cond_false] at _h; first | done | omega)) ?_ | (refine wS ?_ ?_ <;> intro _h <;> simp only [W1, cond_true, cond_false] at _h))
  all_goals simp only [W1, W2, owesN, owesX, owesR, cond_true, cond_false]
  repeat' (first | apply And.intro | intro _hc)
  all_goals first | exact AV.le_refl _ | exact AV.le_any _ | exact OLe.refl _ | exact OLe.none _ | exact LeH.refl _ | exact LeL.refl _ | exact AV.le.bs _ | exact AV.le.sb _ | omega | contradiction
theorem runPa (v : Int) (k : Nat) (h : Answers Tryd.prog Γm 89 [.v (.int .i64 (k : Int))] [] (.v (.string (prS (k : Int)))) [] []) : bodyE (P := Tryd.prog) (Γ := Γm) [CT.at 89 h] Lno false 25 [.tmp 2] (bodyOf Tryd.f89) [.v (.int .i64 v)] [] =
  Tree.br (decide (v = (-9223372036854775808 : Int))) (Tree.leaf (Ans.mk (AV.v (Value.string (ByteArray.mk #[(45 : UInt8), (57 : UInt8), (50 : UInt8), (50 : UInt8), (51 : UInt8), (51 : UInt8),
    (55 : UInt8), (50 : UInt8), (48 : UInt8), (51 : UInt8), (54 : UInt8), (56 : UInt8), (53 : UInt8), (52 : UInt8), (55 : UInt8), (55 : UInt8), (53 : UInt8), (56 : UInt8), (48 : UInt8), (56
    : UInt8)]))) [])) (Tree.br (decide (v < (0 : Int))) (Tree.chk (cl (LeL [AV.v (Value.int IntKind.i64 (IntKind.wrap IntKind.i64 ((0 : Int) - v)))] [AV.v (Value.int IntKind.i64 (↑k : Int))]
    ∧ LeH [] []) && decide ((1 : Nat) + ByteArray.size (prS (↑k : Int)) ≤ (9223372036854775807 : Nat))) (Tree.leaf (Ans.mk (AV.v (Value.string (ByteArray.mk #[(45 : UInt8)] ++ prS (↑k :
    Int)))) []))) Tree.fail) := by kernel_rfl
theorem ansPrR {v : Int} (h : inI64 v) : Answers Tryd.prog Γm 89 [.v (.int .i64 v)] [] (.v (.string (prS v))) [] [] := by
  obtain ⟨h1, h2⟩ := h
  rcases Int.lt_or_le v 0 with c | c
  · by_cases hm : v = -9223372036854775808
    · subst hm
      have h0 := ansPo (v := 0) (by omega)
      refine answers (fn := Tryd.f89) (c := bodyOf Tryd.f89) (ntmps := 25) (results := [.tmp 2]) [CT.at 89 h0] (Lno) false Tryd.func89 (by kernel_rfl) (by kernel_rfl) (by kernel_rfl) (by kernel_rfl) (by simp) rfl (failOK fun _ _ _ => rfl) <| Meets.of (runPa (-9223372036854775808) 0 h0) <| ?_
      have e : prS (-9223372036854775808) = ⟨#[45, 57, 50, 50, 51, 51, 55, 50, 48, 51, 54, 56, 53, 52, 55, 55, 53, 56, 48, 56]⟩ := by
        unfold prS prU
        rw [if_pos (by decide)]
        have : prL 9223372036854775808 = [57, 50, 50, 51, 51, 55, 50, 48, 51, 54, 56, 53, 52, 55, 55, 53, 56, 48, 56] := by
          simp only [prL, Nat.reduceDiv, Nat.reduceMod, Nat.reduceAdd, Nat.reduceLT, if_true, if_false, ↓reduceIte, List.cons_append, List.nil_append]
          rfl
        exact congrArg (fun l => (⟨⟨45 :: l⟩⟩ : ByteArray)) this
      rw [e]
      repeat' (first | refine wC (by first | omega | (simp only [W1, cond_true, cond_false]; first | done | omega)) ?_ | refine wT (by first | omega | (simp only [W1, cond_true, cond_false]; first | done | omega)) ?_ | refine wF (by intro _h; first | omega | (simp only [W1, cond_true, cond_false] at _h; first | done | omega)) ?_ | (refine wS ?_ ?_ <;> intro _h <;> simp only [W1, cond_true, cond_false] at _h))
      all_goals simp only [W1, W2, owesN, owesX, owesR, cond_true, cond_false]
      repeat' (first | apply And.intro | intro _hc)
      all_goals first | exact AV.le_refl _ | exact AV.le_any _ | exact OLe.refl _ | exact OLe.none _ | exact LeH.refl _ | exact LeL.refl _ | exact AV.le.bs _ | exact AV.le.sb _ | omega | contradiction
    · have h0 := ansPo (v := v.natAbs) (by omega)
      refine answers (fn := Tryd.f89) (c := bodyOf Tryd.f89) (ntmps := 25) (results := [.tmp 2]) [CT.at 89 h0] (Lno) false Tryd.func89 (by kernel_rfl) (by kernel_rfl) (by kernel_rfl) (by kernel_rfl) (by simp) rfl (failOK fun _ _ _ => rfl) <| Meets.of (runPa v v.natAbs h0) <| ?_
      have w : IntKind.wrap IntKind.i64 ((0 : Int) - v) = ((v.natAbs : Nat) : Int) := by rw [wrap64 (by omega) (by omega)]; omega
      have e : (⟨#[45]⟩ : ByteArray) ++ prS ((v.natAbs : Nat) : Int) = prS v := by
        unfold prS prU
        rw [if_neg (by omega), if_pos c, Int.natAbs_natCast]
        exact mk_app [45] _
      have hlen : (prL v.natAbs).length ≤ 19 := prL_len 18 _ (by omega)
      have hz : (prS ((v.natAbs : Nat) : Int)).size ≤ 19 := by
        unfold prS prU; rw [if_neg (by omega), Int.natAbs_natCast]; exact hlen
      repeat' (first | refine wC (by first | omega | (simp only [W1, cond_true, cond_false, w, e]; first | done | omega)) ?_ | refine wT (by first | omega | (simp only [W1, cond_true, cond_false, w, e]; first | done | omega)) ?_ | refine wF (by intro _h; first | omega | (simp only [W1, cond_true, cond_false, w, e] at _h; first | done | omega)) ?_ | (refine wS ?_ ?_ <;> intro _h <;> simp only [W1, cond_true, cond_false, w, e] at _h))
      all_goals simp only [W1, W2, owesN, owesX, owesR, cond_true, cond_false, w, e]
      repeat' (first | apply And.intro | intro _hc)
      all_goals first | exact AV.le_refl _ | exact AV.le_any _ | exact OLe.refl _ | exact OLe.none _ | exact LeH.refl _ | exact LeL.refl _ | exact AV.le.bs _ | exact AV.le.sb _ | omega | contradiction
  · obtain ⟨k, rfl⟩ := Int.eq_ofNat_of_zero_le c
    exact ansPo (by omega)
noncomputable def kPrR : CT Tryd.prog Γm := CT.oI 89 .i64 Tryd.func89 (by kernel_rfl) (by kernel_rfl) (fun v => inI64 v) (fun v => .v (.string (prS v))) (fun _ => []) (fun v h => ansPrR h)
end Go.Eng.TA

/- numbers: what is printed is read. -/
namespace Go.Eng.TA
open Go Go.Eng Go.Eng.M Go.Lib Go.Proofs
set_option linter.unusedSimpArgs false
set_option linter.unusedVariables false
theorem prL_ind {P : Nat → Prop} (h1 : ∀ n, n < 10 → P n) (h2 : ∀ n, 10 ≤ n → P (n / 10) → P n) (n : Nat) : P n := by
  induction n using Nat.strongRecOn with
  | ind n ih =>
    rcases Nat.lt_or_ge n 10 with h | h
    · exact h1 n h
    · exact h2 n h (ih _ (by omega))
theorem prL_dL (n : Nat) : dL (prL n) := by
  refine prL_ind (P := fun n => dL (prL n)) (fun n h => ?_) (fun n h ih => ?_) n
  · rw [prL_small h]
    intro x hx
    rw [List.mem_singleton.1 hx, b8_nat (by omega)]; omega
  · rw [prL_step h]
    intro x hx
    rcases List.mem_append.1 hx with hx | hx
    · exact ih x hx
    · rw [List.mem_singleton.1 hx, b8_nat (by omega)]; omega
theorem prL_vL (n : Nat) : vL (prL n) 0 = n := by
  refine prL_ind (P := fun n => vL (prL n) 0 = n) (fun n h => ?_) (fun n h ih => ?_) n
  · rw [prL_small h]
    show 10 * 0 + ((b8 (48 + n)).toNat - 48) = n
    rw [b8_nat (by omega)]; omega
  · rw [prL_step h, vL_app, ih, b8_nat (by omega)]; omega
theorem prL_head (n : Nat) : 1 ≤ n → 49 ≤ bN ⟨⟨prL n⟩⟩ 0 := by
  refine prL_ind (P := fun n => 1 ≤ n → 49 ≤ bN ⟨⟨prL n⟩⟩ 0) (fun n h h1 => ?_) (fun n h ih h1 => ?_) n
  · rw [prL_small h, bN_cons0, b8_nat (by omega)]; omega
  · have := ih (by omega)
    have hp := prL_pos (n / 10)
    rw [prL_step h]
    have e : bN ⟨⟨prL (n / 10) ++ [b8 (48 + n % 10)]⟩⟩ 0 = bN ⟨⟨prL (n / 10)⟩⟩ 0 := by
      rw [bN_list _ 0 (by rw [List.length_append]; omega), bN_list _ 0 (by omega), List.getElem_append_left (by omega)]
    rw [e]; exact this
theorem dL_allD {l : List UInt8} (h : dL l) : allD ⟨⟨l⟩⟩ := fun i hi => by
  rw [bN_list l i hi]
  exact h _ (List.getElem_mem _)
theorem pr_neg {v : Int} (h : v < 0) : ngB (prS v) = true ∧ bdS (prS v) = ⟨⟨prL v.natAbs⟩⟩ := by
  have e : prS v = ⟨⟨45 :: prL v.natAbs⟩⟩ := by unfold prS prU; rw [if_pos h]
  have hz : (prS v).size = (prL v.natAbs).length + 1 := by rw [e]; rfl
  have h1 : ngB (prS v) = true := by
    unfold ngB
    rw [decide_eq_true (by omega), decide_eq_true (show bN (prS v) 0 = 45 by rw [e]; rfl)]; rfl
  have hlo : loS (prS v) = 1 := by unfold loS; rw [if_pos h1]
  have hb : (bdS (prS v)).size = (prL v.natAbs).length := by rw [bd_size, hlo, hz]; omega
  refine ⟨h1, bN_eq hb fun j hj => ?_⟩
  rw [bd_at hj, hlo, e, Nat.add_comm, bN_consS]
theorem pr_pos {v : Int} (h : 0 ≤ v) : ngB (prS v) = false ∧ bdS (prS v) = ⟨⟨prL v.natAbs⟩⟩ := by
  have e : prS v = ⟨⟨prL v.natAbs⟩⟩ := by unfold prS prU; rw [if_neg (by omega)]
  have hp := prL_pos v.natAbs
  have hd := dL_allD (prL_dL v.natAbs) 0 hp
  have h1 : ngB (prS v) = false := by
    unfold ngB
    rw [decide_eq_false (show ¬ bN (prS v) 0 = 45 by rw [e]; unfold isD at hd; omega), Bool.and_false]
  exact ⟨h1, by rw [bd_pos h1, e]⟩
theorem pr_read {v : Int} (h : inI64 v) : fmB (prS v) = true ∧ okV (prS v) = true ∧ sgV (ngB (prS v)) (vS (prS v)) = v := by
  obtain ⟨i1, i2⟩ := h
  have hp := prL_pos v.natAbs
  have hv : vN ⟨⟨prL v.natAbs⟩⟩ (prL v.natAbs).length = v.natAbs := by
    have := vN_size ⟨⟨prL v.natAbs⟩⟩
    rw [show (⟨⟨prL v.natAbs⟩⟩ : ByteArray).data.toList = prL v.natAbs from rfl, prL_vL] at this
    exact this
  rcases Int.lt_or_le v 0 with c | c
  · obtain ⟨h1, h2⟩ := pr_neg c
    have hh := prL_head v.natAbs (by omega)
    have hV : vS (prS v) = v.natAbs := by unfold vS; rw [h2]; exact hv
    refine ⟨cl_iff.2 ⟨aD_all.2 (by rw [h2]; exact dL_allD (prL_dL _)), by rw [h2]; exact hp, .inl (by rw [h2]; omega)⟩, ?_, ?_⟩
    · unfold okV; rw [hV, h1]; exact decide_eq_true (by rw [if_pos rfl]; omega)
    · rw [hV, h1]; unfold sgV; rw [if_pos rfl]; omega
  · obtain ⟨h1, h2⟩ := pr_pos c
    have hV : vS (prS v) = v.natAbs := by unfold vS; rw [h2]; exact hv
    refine ⟨cl_iff.2 ⟨aD_all.2 (by rw [h2]; exact dL_allD (prL_dL _)), by rw [h2]; exact hp, ?_⟩, ?_, ?_⟩
    · rw [h2]
      by_cases hz : v = 0
      · subst hz
        exact .inr ⟨by rw [show (0 : Int).natAbs = 0 from rfl, prL_small (by omega)]; rfl, h1⟩
      · have := prL_head v.natAbs (by omega)
        exact .inl (by omega)
    · unfold okV; rw [hV, h1]; exact decide_eq_true (by rw [if_neg Bool.false_ne_true]; omega)
    · rw [hV, h1]; unfold sgV; rw [if_neg Bool.false_ne_true]; omega
theorem pr_rd {v lo hi : Int} (h : inI64 v) (h1 : lo ≤ v) (h2 : v ≤ hi) : rdN (prS v) lo hi = v ∧ rdE (prS v) lo hi = 0 := by
  obtain ⟨a, b, c⟩ := pr_read h
  have hi' : inV (prS v) lo hi = true := by unfold inV; rw [b, c, decide_eq_true h1, decide_eq_true h2]; rfl
  unfold rdN rdE
  rw [a, hi', c]
  exact ⟨rfl, rfl⟩
theorem pr_size {v : Int} (h : inI64 v) : (prS v).size ≤ 20 := by
  obtain ⟨i1, i2⟩ := h
  have := prL_len 18 v.natAbs (by omega)
  unfold prS prU
  split
  · show (45 :: prL v.natAbs).length ≤ 20
    rw [List.length_cons]; omega
  · show (prL v.natAbs).length ≤ 20
    omega
end Go.Eng.TA
