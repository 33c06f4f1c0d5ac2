/- PoolPlays holds at every input: the tables unicode/utf8.first and unicode/utf8.acceptRanges as the program lays them (tied). -/
import Derived.Test.YtmjbindplgpjjaaDoorPart6
import Derived.Test.YtmjbindplgpjjaaDoorRows
import Derived.Test.YtmjbindplgpjjaaDoorTie
import Derived.Test.YtmjbindplgpjjaaDoorCards
import Derived.ProofKit
import Derived.LaidMore
import Derived.OpenShut
import Derived.Stop.Joined
import Derived.SevenTiedAt
import Derived.Lib.LaidU8T
import Derived.Lay
/- PoolPlays: the loop. -/
namespace Go.Eng.TA
open Go Go.Eng Go.Eng.M Go.Lib Go.Proofs
set_option linter.unusedSimpArgs false
set_option linter.unusedVariables false
structure pre12 (mo : Int) (acts : List Ap) (x : X12) : Prop where
  i : x.i ≤ acts.length
  l : x.L.length ≤ x.i
  m : (x.L.length : Int) ≤ mo
abbrev ret12 : Out := ⟨.ret, [.any, .any, .any, .any, .v (.bool true)], [none, none, none, none]⟩
abbrev end12 : Out := ⟨.exit 0, [.any, .any, .any, .any, .any], [none, none, none, none]⟩
def far12 (acts : List Ap) (i : Nat) : Prop := ∃ k, i ≤ k ∧ k < acts.length ∧ grL (acts.getD k default).l = true
open Classical in
noncomputable def O12 (acts : List Ap) (i : Nat) : Out := if far12 acts i then ret12 else end12
theorem O12_far {acts : List Ap} {i : Nat} (hi : i < acts.length) (h : grL (acts.getD i default).l = true) : O12 acts i = ret12 := if_pos ⟨i, Nat.le_refl _, hi, h⟩
theorem O12_end {acts : List Ap} {i : Nat} (hi : acts.length ≤ i) : O12 acts i = end12 := if_neg fun ⟨k, h1, h2, _⟩ => by omega
theorem O12_next {acts : List Ap} {i : Nat} (h : grL (acts.getD i default).l = false) : O12 acts (i + 1) = O12 acts i := by
  have : far12 acts (i + 1) ↔ far12 acts i := ⟨fun ⟨k, h1, h2, h3⟩ => ⟨k, by omega, h2, h3⟩, fun ⟨k, h1, h2, h3⟩ => ⟨k, by
    rcases Nat.lt_or_ge i k with h4 | h4
    · exact h4
    · obtain rfl : k = i := by omega
      rw [h] at h3; exact absurd h3 Bool.false_ne_true, h2, h3⟩⟩
  unfold O12
  by_cases hf : far12 acts i
  · rw [if_pos hf, if_pos (this.2 hf)]
  · rw [if_neg hf, if_neg (fun h => hf (this.1 h))]
abbrev RO12 (mo : Int) (acts : List Ap) (x : X12) : Prop := RoundOK Tryd.prog Γm 0 151 0 lp12 lv12 nl12 (S12 mo acts x) (OwesA (S12 mo acts) (pre12 mo acts) (fun x => O12 acts x.i) (fun x => acts.length - x.i) (acts.length - x.i) (O12 acts x.i))
theorem go12 {mo : Int} {acts : List Ap} {i : Nat} {fr : List AV} {H : Heap} {L j j' : List Tx} (hi : i < acts.length) (hl : grL (acts.getD i default).l = false)
    (h1 : LeL fr (S12 mo acts ⟨i + 1, L, j, j'⟩).1) (h2 : LeH H (S12 mo acts ⟨i + 1, L, j, j'⟩).2) (h3 : L.length ≤ i + 1) (h4 : (L.length : Int) ≤ mo) :
    ∃ x', LeL fr (S12 mo acts x').fst ∧ LeH H (S12 mo acts x').snd ∧ pre12 mo acts x' ∧ O12 acts x'.i = O12 acts i ∧ acts.length - x'.i < acts.length - i :=
  ⟨⟨i + 1, L, j, j'⟩, h1, h2, ⟨hi, h3, h4⟩, O12_next hl, Nat.sub_lt_sub_left hi (Nat.lt_succ_self i)⟩
theorem isLT (l : List Tx) : (∃ m, isL l.length (lsF Tx.c l) m) = True := eq_true (isL_l l)
theorem c12end {mo : Int} {acts : List Ap} {i : Nat} {L j j' : List Tx} (hp : pre12 mo acts ⟨i, L, j, j'⟩) (hi : acts.length ≤ i) : RO12 mo acts ⟨i, L, j, j'⟩ := by
  refine .of (L := Lno) (failOK fun _ _ _ => rfl) (r12e mo acts ⟨i, L, j, j'⟩) ?_
  simp only [O12_end hi]
  repeat' (first | refine wC (by first | omega | (simp only [W1, cond_true, cond_false]; first | done | omega)) ?_ | refine wT (by first | omega | (simp only [W1, cond_true, cond_false]; first | done | omega)) ?_ | refine wF (by intro _h; first | omega | (simp only [W1, cond_true, cond_false] at _h; first | done | omega)) ?_ | (refine wS ?_ ?_ <;> intro _h <;> simp only [W1, cond_true, cond_false] at _h))
  all_goals simp only [W1, W2, owesN, owesX, owesR, cond_true, cond_false]
  repeat' (first | apply And.intro | intro _hc)
  all_goals first | exact trivial | exact AV.le_refl _ | exact AV.le_any _ | exact OLe.refl _ | exact OLe.none _ | exact LeH.refl _ | exact LeL.refl _ | exact AV.le.bs _ | exact AV.le.sb _ | omega | contradiction
theorem c12far {mo : Int} {acts : List Ap} {i : Nat} {L j j' : List Tx} (hp : pre12 mo acts ⟨i, L, j, j'⟩) (hi : i < acts.length) (h : grL (acts.getD i default).l = true) : RO12 mo acts ⟨i, L, j, j'⟩ := by
  refine .of (L := Lno) (failOK fun _ _ _ => rfl) (r12e mo acts ⟨i, L, j, j'⟩) ?_
  simp only [Nat.zero_add, Int.toNat_natCast, O12_far hi h]
  repeat' (first | refine wC (by first | omega | (simp only [W1, cond_true, cond_false, isLT, grF_l, h]; first | done | omega)) ?_ | refine wT (by first | omega | (simp only [W1, cond_true, cond_false, isLT, grF_l, h]; first | done | omega)) ?_ | refine wF (by intro _h; first | omega | (simp only [W1, cond_true, cond_false, isLT, grF_l, h] at _h; first | done | omega)) ?_ | (refine wS ?_ ?_ <;> intro _h <;> simp only [W1, cond_true, cond_false, isLT, grF_l, h] at _h))
  all_goals simp only [W1, W2, owesN, owesX, owesR, cond_true, cond_false, isLT, grF_l, h]
  repeat' (first | apply And.intro | intro _hc)
  all_goals first | exact trivial | exact AV.le_refl _ | exact AV.le_any _ | exact OLe.refl _ | exact OLe.none _ | exact LeH.refl _ | exact LeL.refl _ | exact AV.le.bs _ | exact AV.le.sb _ | omega | contradiction
theorem fst_nil {acts : List Ap} {i : Nat} (h : (acts.getD i default).l.length = 0) : fstT acts i = ⟨0, ⟨#[]⟩, ⟨#[]⟩, ⟨#[]⟩, ⟨#[]⟩, 0, 0⟩ := by
  unfold fstT
  rw [List.eq_nil_of_length_eq_zero h]
  rfl
theorem fst_small {acts : List Ap} {i : Nat} (h : grL (acts.getD i default).l = false) : smallT (fstT acts i) := by
  rcases Nat.eq_zero_or_pos (acts.getD i default).l.length with h0 | h0
  · rw [fst_nil h0]; exact ⟨Nat.zero_le _, Nat.zero_le _, Nat.zero_le _, Nat.zero_le _⟩
  · exact (gr_small h).2 0 h0
theorem c12o {mo : Int} {acts : List Ap} {i : Nat} {L j j' : List Tx} (hp : pre12 mo acts ⟨i, L, j, j'⟩) (hn : acts.length ≤ 60) (hi : i < acts.length) (hg : grL (acts.getD i default).l = false) (h0 : (acts.getD i default).k ≠ 0) (h1 : (acts.getD i default).k ≠ 1) (h2 : (acts.getD i default).k ≠ 2) (h3 : (acts.getD i default).k ≠ 3) : RO12 mo acts ⟨i, L, j, j'⟩ := by
  obtain ⟨hp1, hp2, hp3⟩ := hp
  dsimp only at hp1 hp2 hp3
  refine .of (L := Lno) (failOK fun _ _ _ => rfl) (r12o mo acts ⟨i, L, j, j'⟩ (by dsimp only; omega)) ?_
  have hs : ∀ j', smP L.length L.length (lsF Tx.c L) (L ++ j').length L.length (lsF Tx.c (L ++ j')) = True := fun j' => smP2 (by omega)
  simp only [Nat.zero_add, Int.toNat_natCast]
  rcases Nat.eq_zero_or_pos (acts.getD i default).l.length with hz | hz
  · repeat' (first | refine wC (by first | omega | (simp only [W1, cond_true, cond_false, isLT, grF_l, hg, hs, wrapUpN (show i ≤ 10000000000 by omega)]; first | done | omega)) ?_ | refine wT (by first | omega | (simp only [W1, cond_true, cond_false, isLT, grF_l, hg, hs, wrapUpN (show i ≤ 10000000000 by omega)]; first | done | omega)) ?_ | refine wF (by intro _h; first | omega | (simp only [W1, cond_true, cond_false, isLT, grF_l, hg, hs, wrapUpN (show i ≤ 10000000000 by omega)] at _h; first | done | omega)) ?_ | (refine wS ?_ ?_ <;> intro _h <;> simp only [W1, cond_true, cond_false, isLT, grF_l, hg, hs, wrapUpN (show i ≤ 10000000000 by omega)] at _h))
    all_goals simp only [W1, W2, owesN, owesX, owesR, cond_true, cond_false, isLT, grF_l, hg, hs, wrapUpN (show i ≤ 10000000000 by omega)]
    repeat' (first | apply And.intro | intro _hc)
    all_goals first | exact go12 (L := L) (j := j) (j' := j') hi hg (LeL.refl _) (LeH.refl _) (by omega) hp3 | exact AV.le_refl _ | exact AV.le_any _ | exact OLe.refl _ | exact OLe.none _ | exact LeH.refl _ | exact LeL.refl _ | exact AV.le.bs _ | exact AV.le.sb _ | omega | contradiction
  · repeat' (first | refine wC (by first | omega | (simp only [W1, cond_true, cond_false, isLT, grF_l, hg, hs, wrapUpN (show i ≤ 10000000000 by omega)]; first | done | omega)) ?_ | refine wT (by first | omega | (simp only [W1, cond_true, cond_false, isLT, grF_l, hg, hs, wrapUpN (show i ≤ 10000000000 by omega)]; first | done | omega)) ?_ | refine wF (by intro _h; first | omega | (simp only [W1, cond_true, cond_false, isLT, grF_l, hg, hs, wrapUpN (show i ≤ 10000000000 by omega)] at _h; first | done | omega)) ?_ | (refine wS ?_ ?_ <;> intro _h <;> simp only [W1, cond_true, cond_false, isLT, grF_l, hg, hs, wrapUpN (show i ≤ 10000000000 by omega)] at _h))
    all_goals simp only [W1, W2, owesN, owesX, owesR, cond_true, cond_false, isLT, grF_l, hg, hs, wrapUpN (show i ≤ 10000000000 by omega)]
    repeat' (first | apply And.intro | intro _hc)
    all_goals first | exact go12 (L := L) (j := j) (j' := j') hi hg (LeL.refl _) (LeH.refl _) (by omega) hp3 | exact AV.le_refl _ | exact AV.le_any _ | exact OLe.refl _ | exact OLe.none _ | exact LeH.refl _ | exact LeL.refl _ | exact AV.le.bs _ | exact AV.le.sb _ | omega | contradiction
end Go.Eng.TA

/- PoolPlays: the rounds' ends. -/
namespace Go.Eng.TA
open Go Go.Eng Go.Eng.M Go.Lib Go.Proofs
set_option linter.unusedSimpArgs false
set_option linter.unusedVariables false
theorem fst_nil' {acts : List Ap} {i : Nat} (h : (acts.getD i default).l.length = 0) : (fstT acts i).k = 0 ∧ (fstT acts i).fr = ⟨#[]⟩ ∧ (fstT acts i).to = ⟨#[]⟩ ∧ (fstT acts i).ky = ⟨#[]⟩ ∧ (fstT acts i).vl = ⟨#[]⟩ ∧ (fstT acts i).am = 0 ∧ (fstT acts i).nn = 0 := by
  rw [fst_nil h]; exact ⟨rfl, rfl, rfl, rfl, rfl, rfl, rfl⟩
theorem c12a {mo : Int} {acts : List Ap} {i : Nat} {L j j' : List Tx} (hp : pre12 mo acts ⟨i, L, j, j'⟩) (hn : acts.length ≤ 60) (hi : i < acts.length) (hg : grL (acts.getD i default).l = false) (e : Int) (h0 : (acts.getD i default).k = 0) (he : addE mo L (fstT acts i) e) : RO12 mo acts ⟨i, L, j, j'⟩ := by
  obtain ⟨hp1, hp2, hp3⟩ := hp
  dsimp only at hp1 hp2 hp3
  have hgl := (gr_small hg).1
  have hL5 : L.length ≤ 100000 := by omega
  refine .of (L := Lno) (failOK fun _ _ _ => rfl) (r12a mo acts ⟨i, L, j, j'⟩ e (by dsimp only; omega) (ansAd (fst_small hg) hL5 he) (ansAdR (fst_small hg) hL5 he)) ?_
  have hs : ∀ l j' : List Tx, l.length ≤ 60 → smP l.length l.length (lsF Tx.c l) (l ++ j').length l.length (lsF Tx.c (l ++ j')) = True := fun l j' h => smP2 (by omega)
  have hs3 : ∀ l : List Tx, l.length ≤ 60 → smP l.length l.length (lsF Tx.c l) l.length l.length (lsF Tx.c l) = True := fun l h => smP3 (by omega)
  simp only [Nat.zero_add, Int.toNat_natCast, Int.toNat_zero]
  rcases Nat.eq_zero_or_pos (acts.getD i default).l.length with hz | hz
  · obtain ⟨f1, f2, f3, f4, f5, f6, f7⟩ := fst_nil' hz
    try simp only [f1, f2, f3, f4, f5, f6, f7]
    repeat' (first | refine wC (by first | omega | (simp only [W1, cond_true, cond_false, isLT, grF_l, hg, hs L j' (by omega), wrapUpN (show i ≤ 10000000000 by omega)]; first | done | omega)) ?_ | refine wT (by first | omega | (simp only [W1, cond_true, cond_false, isLT, grF_l, hg, hs L j' (by omega), wrapUpN (show i ≤ 10000000000 by omega)]; first | done | omega)) ?_ | refine wF (by intro _h; first | omega | (simp only [W1, cond_true, cond_false, isLT, grF_l, hg, hs L j' (by omega), wrapUpN (show i ≤ 10000000000 by omega)] at _h; first | done | omega)) ?_ | (refine wS ?_ ?_ <;> intro _h <;> simp only [W1, cond_true, cond_false, isLT, grF_l, hg, hs L j' (by omega), wrapUpN (show i ≤ 10000000000 by omega)] at _h))
    all_goals simp only [W1, W2, owesN, owesX, owesR, cond_true, cond_false, isLT, grF_l, hg, hs L j' (by omega), wrapUpN (show i ≤ 10000000000 by omega)]
    repeat' (first | apply And.intro | intro _hc)
    all_goals first | exact go12 (L := L) (j := j) (j' := j') hi hg (LeL.refl _) (LeH.refl _) (by omega) hp3 | ((rw [List.append_nil]; exact OLe.refl _)) | exact AV.le_refl _ | exact AV.le_any _ | exact OLe.refl _ | exact OLe.none _ | exact LeH.refl _ | exact LeL.refl _ | exact AV.le.bs _ | exact AV.le.sb _ | omega | contradiction
  · have hf : (acts.getD i default).l.getD 0 default = fstT acts i := rfl
    try simp only [hf]
    repeat' (first | refine wC (by first | omega | (simp only [W1, cond_true, cond_false, isLT, grF_l, hg, hs L j' (by omega), wrapUpN (show i ≤ 10000000000 by omega)]; first | done | omega)) ?_ | refine wT (by first | omega | (simp only [W1, cond_true, cond_false, isLT, grF_l, hg, hs L j' (by omega), wrapUpN (show i ≤ 10000000000 by omega)]; first | done | omega)) ?_ | refine wF (by intro _h; first | omega | (simp only [W1, cond_true, cond_false, isLT, grF_l, hg, hs L j' (by omega), wrapUpN (show i ≤ 10000000000 by omega)] at _h; first | done | omega)) ?_ | (refine wS ?_ ?_ <;> intro _h <;> simp only [W1, cond_true, cond_false, isLT, grF_l, hg, hs L j' (by omega), wrapUpN (show i ≤ 10000000000 by omega)] at _h))
    all_goals simp only [W1, W2, owesN, owesX, owesR, cond_true, cond_false, isLT, grF_l, hg, hs L j' (by omega), wrapUpN (show i ≤ 10000000000 by omega)]
    repeat' (first | apply And.intro | intro _hc)
    all_goals first | exact go12 (L := L) (j := j) (j' := j') hi hg (LeL.refl _) (LeH.refl _) (by omega) hp3 | ((rw [List.append_nil]; exact OLe.refl _)) | exact AV.le_refl _ | exact AV.le_any _ | exact OLe.refl _ | exact OLe.none _ | exact LeH.refl _ | exact LeL.refl _ | exact AV.le.bs _ | exact AV.le.sb _ | omega | contradiction
theorem c12n {mo : Int} {acts : List Ap} {i : Nat} {L j j' : List Tx} (hp : pre12 mo acts ⟨i, L, j, j'⟩) (hn : acts.length ≤ 60) (hi : i < acts.length) (hg : grL (acts.getD i default).l = false) (h0 : (acts.getD i default).k = 0) (h1 : txB (fstT acts i) = true) (h2 : hasT L (fstT acts i) = false) (h3 : (L.length : Int) ≠ mo) : RO12 mo acts ⟨i, L, j, j'⟩ := by
  obtain ⟨hp1, hp2, hp3⟩ := hp
  dsimp only at hp1 hp2 hp3
  have hgl := (gr_small hg).1
  have hL5 : L.length ≤ 100000 := by omega
  have hla : (L ++ [fstT acts i]).length = L.length + 1 := by simp
  refine .of (L := Lno) (failOK fun _ _ _ => rfl) (r12n mo acts ⟨i, L, j, j'⟩ (by dsimp only; omega) (ansAdN (fst_small hg) hL5 h1 h2 h3) (ansAdRN (fst_small hg) hL5 h1 h2 (show (L.length : Int) < mo by omega))) ?_
  have hs : ∀ l j' : List Tx, l.length ≤ 60 → smP l.length l.length (lsF Tx.c l) (l ++ j').length l.length (lsF Tx.c (l ++ j')) = True := fun l j' h => smP2 (by omega)
  have hs3 : ∀ l : List Tx, l.length ≤ 60 → smP l.length l.length (lsF Tx.c l) l.length l.length (lsF Tx.c l) = True := fun l h => smP3 (by omega)
  simp only [Nat.zero_add, Int.toNat_natCast, Int.toNat_zero]
  rcases Nat.eq_zero_or_pos (acts.getD i default).l.length with hz | hz
  · obtain ⟨f1, f2, f3, f4, f5, f6, f7⟩ := fst_nil' hz
    try simp only [f1, f2, f3, f4, f5, f6, f7]
    repeat' (first | refine wC (by first | omega | (simp only [W1, cond_true, cond_false, isLT, grF_l, hg, hs3 (L ++ [fstT acts i]) (by omega), wrapUpN (show i ≤ 10000000000 by omega)]; first | done | omega)) ?_ | refine wT (by first | omega | (simp only [W1, cond_true, cond_false, isLT, grF_l, hg, hs3 (L ++ [fstT acts i]) (by omega), wrapUpN (show i ≤ 10000000000 by omega)]; first | done | omega)) ?_ | refine wF (by intro _h; first | omega | (simp only [W1, cond_true, cond_false, isLT, grF_l, hg, hs3 (L ++ [fstT acts i]) (by omega), wrapUpN (show i ≤ 10000000000 by omega)] at _h; first | done | omega)) ?_ | (refine wS ?_ ?_ <;> intro _h <;> simp only [W1, cond_true, cond_false, isLT, grF_l, hg, hs3 (L ++ [fstT acts i]) (by omega), wrapUpN (show i ≤ 10000000000 by omega)] at _h))
    all_goals simp only [W1, W2, owesN, owesX, owesR, cond_true, cond_false, isLT, grF_l, hg, hs3 (L ++ [fstT acts i]) (by omega), wrapUpN (show i ≤ 10000000000 by omega)]
    repeat' (first | apply And.intro | intro _hc)
    all_goals first | exact go12 (L := L ++ [fstT acts i]) (j := []) (j' := []) hi hg (LeL.refl _) (by simp only [S12, List.append_nil]; exact LeH.refl _) (by omega) (by omega) | ((rw [List.append_nil]; exact OLe.refl _)) | exact AV.le_refl _ | exact AV.le_any _ | exact OLe.refl _ | exact OLe.none _ | exact LeH.refl _ | exact LeL.refl _ | exact AV.le.bs _ | exact AV.le.sb _ | omega | contradiction
  · have hf : (acts.getD i default).l.getD 0 default = fstT acts i := rfl
    try simp only [hf]
    repeat' (first | refine wC (by first | omega | (simp only [W1, cond_true, cond_false, isLT, grF_l, hg, hs3 (L ++ [fstT acts i]) (by omega), wrapUpN (show i ≤ 10000000000 by omega)]; first | done | omega)) ?_ | refine wT (by first | omega | (simp only [W1, cond_true, cond_false, isLT, grF_l, hg, hs3 (L ++ [fstT acts i]) (by omega), wrapUpN (show i ≤ 10000000000 by omega)]; first | done | omega)) ?_ | refine wF (by intro _h; first | omega | (simp only [W1, cond_true, cond_false, isLT, grF_l, hg, hs3 (L ++ [fstT acts i]) (by omega), wrapUpN (show i ≤ 10000000000 by omega)] at _h; first | done | omega)) ?_ | (refine wS ?_ ?_ <;> intro _h <;> simp only [W1, cond_true, cond_false, isLT, grF_l, hg, hs3 (L ++ [fstT acts i]) (by omega), wrapUpN (show i ≤ 10000000000 by omega)] at _h))
    all_goals simp only [W1, W2, owesN, owesX, owesR, cond_true, cond_false, isLT, grF_l, hg, hs3 (L ++ [fstT acts i]) (by omega), wrapUpN (show i ≤ 10000000000 by omega)]
    repeat' (first | apply And.intro | intro _hc)
    all_goals first | exact go12 (L := L ++ [fstT acts i]) (j := []) (j' := []) hi hg (LeL.refl _) (by simp only [S12, List.append_nil]; exact LeH.refl _) (by omega) (by omega) | ((rw [List.append_nil]; exact OLe.refl _)) | exact AV.le_refl _ | exact AV.le_any _ | exact OLe.refl _ | exact OLe.none _ | exact LeH.refl _ | exact LeL.refl _ | exact AV.le.bs _ | exact AV.le.sb _ | omega | contradiction
theorem c12b {mo : Int} {acts : List Ap} {i : Nat} {L j j' : List Tx} (hp : pre12 mo acts ⟨i, L, j, j'⟩) (hn : acts.length ≤ 60) (hi : i < acts.length) (hg : grL (acts.getD i default).l = false) (h0 : (acts.getD i default).k = 1) : RO12 mo acts ⟨i, L, j, j'⟩ := by
  obtain ⟨hp1, hp2, hp3⟩ := hp
  dsimp only at hp1 hp2 hp3
  have hgl := (gr_small hg).1
  have hL5 : L.length ≤ 100000 := by omega
  have hbl : (batF (acts.getD i default).l (acts.getD i default).n L []).length ≤ 60 := by
    have := bat_len (w := (acts.getD i default).l) (n := (acts.getD i default).n) (l := L) (out := [])
    simp only [List.length_nil] at this
    omega
  refine .of (L := Lno) (failOK fun _ _ _ => rfl) (r12b mo acts ⟨i, L, j, j'⟩ (by dsimp only; omega) (by dsimp only; omega) (by dsimp only; omega)) ?_
  have hs : ∀ l j' : List Tx, l.length ≤ 60 → smP l.length l.length (lsF Tx.c l) (l ++ j').length l.length (lsF Tx.c (l ++ j')) = True := fun l j' h => smP2 (by omega)
  have hs3 : ∀ l : List Tx, l.length ≤ 60 → smP l.length l.length (lsF Tx.c l) l.length l.length (lsF Tx.c l) = True := fun l h => smP3 (by omega)
  simp only [Nat.zero_add, Int.toNat_natCast, Int.toNat_zero]
  rcases Nat.eq_zero_or_pos (acts.getD i default).l.length with hz | hz
  · obtain ⟨f1, f2, f3, f4, f5, f6, f7⟩ := fst_nil' hz
    try simp only [f1, f2, f3, f4, f5, f6, f7]
    repeat' (first | refine wC (by first | omega | (simp only [W1, cond_true, cond_false, isLT, grF_l, hg, hs L j' (by omega), hs3 (batF (acts.getD i default).l (acts.getD i default).n L []) (by omega), wrapUpN (show i ≤ 10000000000 by omega)]; first | done | omega)) ?_ | refine wT (by first | omega | (simp only [W1, cond_true, cond_false, isLT, grF_l, hg, hs L j' (by omega), hs3 (batF (acts.getD i default).l (acts.getD i default).n L []) (by omega), wrapUpN (show i ≤ 10000000000 by omega)]; first | done | omega)) ?_ | refine wF (by intro _h; first | omega | (simp only [W1, cond_true, cond_false, isLT, grF_l, hg, hs L j' (by omega), hs3 (batF (acts.getD i default).l (acts.getD i default).n L []) (by omega), wrapUpN (show i ≤ 10000000000 by omega)] at _h; first | done | omega)) ?_ | (refine wS ?_ ?_ <;> intro _h <;> simp only [W1, cond_true, cond_false, isLT, grF_l, hg, hs L j' (by omega), hs3 (batF (acts.getD i default).l (acts.getD i default).n L []) (by omega), wrapUpN (show i ≤ 10000000000 by omega)] at _h))
    all_goals simp only [W1, W2, owesN, owesX, owesR, cond_true, cond_false, isLT, grF_l, hg, hs L j' (by omega), hs3 (batF (acts.getD i default).l (acts.getD i default).n L []) (by omega), wrapUpN (show i ≤ 10000000000 by omega)]
    repeat' (first | apply And.intro | intro _hc)
    all_goals first | exact go12 (L := L) (j := j) (j' := j') hi hg (LeL.refl _) (LeH.refl _) (by omega) hp3 | ((rw [List.append_nil]; exact OLe.refl _)) | exact AV.le_refl _ | exact AV.le_any _ | exact OLe.refl _ | exact OLe.none _ | exact LeH.refl _ | exact LeL.refl _ | exact AV.le.bs _ | exact AV.le.sb _ | omega | contradiction
  · have hf : (acts.getD i default).l.getD 0 default = fstT acts i := rfl
    try simp only [hf]
    repeat' (first | refine wC (by first | omega | (simp only [W1, cond_true, cond_false, isLT, grF_l, hg, hs L j' (by omega), hs3 (batF (acts.getD i default).l (acts.getD i default).n L []) (by omega), wrapUpN (show i ≤ 10000000000 by omega)]; first | done | omega)) ?_ | refine wT (by first | omega | (simp only [W1, cond_true, cond_false, isLT, grF_l, hg, hs L j' (by omega), hs3 (batF (acts.getD i default).l (acts.getD i default).n L []) (by omega), wrapUpN (show i ≤ 10000000000 by omega)]; first | done | omega)) ?_ | refine wF (by intro _h; first | omega | (simp only [W1, cond_true, cond_false, isLT, grF_l, hg, hs L j' (by omega), hs3 (batF (acts.getD i default).l (acts.getD i default).n L []) (by omega), wrapUpN (show i ≤ 10000000000 by omega)] at _h; first | done | omega)) ?_ | (refine wS ?_ ?_ <;> intro _h <;> simp only [W1, cond_true, cond_false, isLT, grF_l, hg, hs L j' (by omega), hs3 (batF (acts.getD i default).l (acts.getD i default).n L []) (by omega), wrapUpN (show i ≤ 10000000000 by omega)] at _h))
    all_goals simp only [W1, W2, owesN, owesX, owesR, cond_true, cond_false, isLT, grF_l, hg, hs L j' (by omega), hs3 (batF (acts.getD i default).l (acts.getD i default).n L []) (by omega), wrapUpN (show i ≤ 10000000000 by omega)]
    repeat' (first | apply And.intro | intro _hc)
    all_goals first | exact go12 (L := L) (j := j) (j' := j') hi hg (LeL.refl _) (LeH.refl _) (by omega) hp3 | ((rw [List.append_nil]; exact OLe.refl _)) | exact AV.le_refl _ | exact AV.le_any _ | exact OLe.refl _ | exact OLe.none _ | exact LeH.refl _ | exact LeL.refl _ | exact AV.le.bs _ | exact AV.le.sb _ | omega | contradiction
theorem c12d {mo : Int} {acts : List Ap} {i : Nat} {L j j' : List Tx} (hp : pre12 mo acts ⟨i, L, j, j'⟩) (hn : acts.length ≤ 60) (hi : i < acts.length) (hg : grL (acts.getD i default).l = false) (h0 : (acts.getD i default).k = 2) : RO12 mo acts ⟨i, L, j, j'⟩ := by
  obtain ⟨hp1, hp2, hp3⟩ := hp
  dsimp only at hp1 hp2 hp3
  have hgl := (gr_small hg).1
  have hL5 : L.length ≤ 100000 := by omega
  have hkl := keepL_le (hasT (acts.getD i default).l) L
  have hw : IntKind.wrap IntKind.i64 ((L.length : Int) - ((keepL (hasT (acts.getD i default).l) L).length : Int)) = (L.length : Int) - ((keepL (hasT (acts.getD i default).l) L).length : Int) := wrap64 (by omega) (by omega)
  refine .of (L := Lno) (failOK fun _ _ _ => rfl) (r12d mo acts ⟨i, L, j, j'⟩ (by dsimp only; omega) (by dsimp only; omega) (by have h := keepL_le (hasT (acts.getD i default).l) L; show (keepL (hasT (acts.getD i default).l) L).length ≤ 1000000000; omega)) ?_
  have hs : ∀ l j' : List Tx, l.length ≤ 60 → smP l.length l.length (lsF Tx.c l) (l ++ j').length l.length (lsF Tx.c (l ++ j')) = True := fun l j' h => smP2 (by omega)
  have hs3 : ∀ l : List Tx, l.length ≤ 60 → smP l.length l.length (lsF Tx.c l) l.length l.length (lsF Tx.c l) = True := fun l h => smP3 (by omega)
  simp only [Nat.zero_add, Int.toNat_natCast, Int.toNat_zero]
  rcases Nat.eq_zero_or_pos (acts.getD i default).l.length with hz | hz
  · obtain ⟨f1, f2, f3, f4, f5, f6, f7⟩ := fst_nil' hz
    try simp only [f1, f2, f3, f4, f5, f6, f7]
    repeat' (first | refine wC (by first | omega | (simp only [W1, cond_true, cond_false, isLT, grF_l, hg, hs3 (keepL (hasT (acts.getD i default).l) L) (by omega), hw, wrapUpN (show i ≤ 10000000000 by omega)]; first | done | omega)) ?_ | refine wT (by first | omega | (simp only [W1, cond_true, cond_false, isLT, grF_l, hg, hs3 (keepL (hasT (acts.getD i default).l) L) (by omega), hw, wrapUpN (show i ≤ 10000000000 by omega)]; first | done | omega)) ?_ | refine wF (by intro _h; first | omega | (simp only [W1, cond_true, cond_false, isLT, grF_l, hg, hs3 (keepL (hasT (acts.getD i default).l) L) (by omega), hw, wrapUpN (show i ≤ 10000000000 by omega)] at _h; first | done | omega)) ?_ | (refine wS ?_ ?_ <;> intro _h <;> simp only [W1, cond_true, cond_false, isLT, grF_l, hg, hs3 (keepL (hasT (acts.getD i default).l) L) (by omega), hw, wrapUpN (show i ≤ 10000000000 by omega)] at _h))
    all_goals simp only [W1, W2, owesN, owesX, owesR, cond_true, cond_false, isLT, grF_l, hg, hs3 (keepL (hasT (acts.getD i default).l) L) (by omega), hw, wrapUpN (show i ≤ 10000000000 by omega)]
    repeat' (first | apply And.intro | intro _hc)
    all_goals first | exact go12 (L := (keepL (hasT (acts.getD i default).l) L)) (j := junkL (hasT (acts.getD i default).l) L j) (j' := []) hi hg (LeL.refl _) (by simp only [S12, List.append_nil]; exact LeH.refl _) (by omega) (by omega) | ((rw [List.append_nil]; exact OLe.refl _)) | exact AV.le_refl _ | exact AV.le_any _ | exact OLe.refl _ | exact OLe.none _ | exact LeH.refl _ | exact LeL.refl _ | exact AV.le.bs _ | exact AV.le.sb _ | omega | contradiction
  · have hf : (acts.getD i default).l.getD 0 default = fstT acts i := rfl
    try simp only [hf]
    repeat' (first | refine wC (by first | omega | (simp only [W1, cond_true, cond_false, isLT, grF_l, hg, hs3 (keepL (hasT (acts.getD i default).l) L) (by omega), hw, wrapUpN (show i ≤ 10000000000 by omega)]; first | done | omega)) ?_ | refine wT (by first | omega | (simp only [W1, cond_true, cond_false, isLT, grF_l, hg, hs3 (keepL (hasT (acts.getD i default).l) L) (by omega), hw, wrapUpN (show i ≤ 10000000000 by omega)]; first | done | omega)) ?_ | refine wF (by intro _h; first | omega | (simp only [W1, cond_true, cond_false, isLT, grF_l, hg, hs3 (keepL (hasT (acts.getD i default).l) L) (by omega), hw, wrapUpN (show i ≤ 10000000000 by omega)] at _h; first | done | omega)) ?_ | (refine wS ?_ ?_ <;> intro _h <;> simp only [W1, cond_true, cond_false, isLT, grF_l, hg, hs3 (keepL (hasT (acts.getD i default).l) L) (by omega), hw, wrapUpN (show i ≤ 10000000000 by omega)] at _h))
    all_goals simp only [W1, W2, owesN, owesX, owesR, cond_true, cond_false, isLT, grF_l, hg, hs3 (keepL (hasT (acts.getD i default).l) L) (by omega), hw, wrapUpN (show i ≤ 10000000000 by omega)]
    repeat' (first | apply And.intro | intro _hc)
    all_goals first | exact go12 (L := (keepL (hasT (acts.getD i default).l) L)) (j := junkL (hasT (acts.getD i default).l) L j) (j' := []) hi hg (LeL.refl _) (by simp only [S12, List.append_nil]; exact LeH.refl _) (by omega) (by omega) | ((rw [List.append_nil]; exact OLe.refl _)) | exact AV.le_refl _ | exact AV.le_any _ | exact OLe.refl _ | exact OLe.none _ | exact LeH.refl _ | exact LeL.refl _ | exact AV.le.bs _ | exact AV.le.sb _ | omega | contradiction
theorem c12p {mo : Int} {acts : List Ap} {i : Nat} {L j j' : List Tx} (hp : pre12 mo acts ⟨i, L, j, j'⟩) (hn : acts.length ≤ 60) (hi : i < acts.length) (hg : grL (acts.getD i default).l = false) (h0 : (acts.getD i default).k = 3) : RO12 mo acts ⟨i, L, j, j'⟩ := by
  obtain ⟨hp1, hp2, hp3⟩ := hp
  dsimp only at hp1 hp2 hp3
  have hgl := (gr_small hg).1
  have hL5 : L.length ≤ 100000 := by omega
  have hkl := keepL_le (pastB (fstT acts i).fr (acts.getD i default).n) L
  have hw : IntKind.wrap IntKind.i64 ((L.length : Int) - ((keepL (pastB (fstT acts i).fr (acts.getD i default).n) L).length : Int)) = (L.length : Int) - ((keepL (pastB (fstT acts i).fr (acts.getD i default).n) L).length : Int) := wrap64 (by omega) (by omega)
  refine .of (L := Lno) (failOK fun _ _ _ => rfl) (r12p mo acts ⟨i, L, j, j'⟩ (by dsimp only; omega) (by have h := keepL_le (pastB (fstT acts i).fr (acts.getD i default).n) L; show (keepL (pastB (fstT acts i).fr (acts.getD i default).n) L).length ≤ 1000000000; omega)) ?_
  have hs : ∀ l j' : List Tx, l.length ≤ 60 → smP l.length l.length (lsF Tx.c l) (l ++ j').length l.length (lsF Tx.c (l ++ j')) = True := fun l j' h => smP2 (by omega)
  have hs3 : ∀ l : List Tx, l.length ≤ 60 → smP l.length l.length (lsF Tx.c l) l.length l.length (lsF Tx.c l) = True := fun l h => smP3 (by omega)
  simp only [Nat.zero_add, Int.toNat_natCast, Int.toNat_zero]
  rcases Nat.eq_zero_or_pos (acts.getD i default).l.length with hz | hz
  · obtain ⟨f1, f2, f3, f4, f5, f6, f7⟩ := fst_nil' hz
    try simp only [f1, ← f2, f3, f4, f5, f6, f7]
    repeat' (first | refine wC (by first | omega | (simp only [W1, cond_true, cond_false, isLT, grF_l, hg, hs3 (keepL (pastB (fstT acts i).fr (acts.getD i default).n) L) (by omega), hw, wrapUpN (show i ≤ 10000000000 by omega)]; first | done | omega)) ?_ | refine wT (by first | omega | (simp only [W1, cond_true, cond_false, isLT, grF_l, hg, hs3 (keepL (pastB (fstT acts i).fr (acts.getD i default).n) L) (by omega), hw, wrapUpN (show i ≤ 10000000000 by omega)]; first | done | omega)) ?_ | refine wF (by intro _h; first | omega | (simp only [W1, cond_true, cond_false, isLT, grF_l, hg, hs3 (keepL (pastB (fstT acts i).fr (acts.getD i default).n) L) (by omega), hw, wrapUpN (show i ≤ 10000000000 by omega)] at _h; first | done | omega)) ?_ | (refine wS ?_ ?_ <;> intro _h <;> simp only [W1, cond_true, cond_false, isLT, grF_l, hg, hs3 (keepL (pastB (fstT acts i).fr (acts.getD i default).n) L) (by omega), hw, wrapUpN (show i ≤ 10000000000 by omega)] at _h))
    all_goals simp only [W1, W2, owesN, owesX, owesR, cond_true, cond_false, isLT, grF_l, hg, hs3 (keepL (pastB (fstT acts i).fr (acts.getD i default).n) L) (by omega), hw, wrapUpN (show i ≤ 10000000000 by omega)]
    repeat' (first | apply And.intro | intro _hc)
    all_goals first | exact go12 (L := (keepL (pastB (fstT acts i).fr (acts.getD i default).n) L)) (j := junkL (pastB (fstT acts i).fr (acts.getD i default).n) L j) (j' := []) hi hg (LeL.refl _) (by simp only [S12, List.append_nil]; exact LeH.refl _) (by omega) (by omega) | ((rw [List.append_nil]; exact OLe.refl _)) | exact AV.le_refl _ | exact AV.le_any _ | exact OLe.refl _ | exact OLe.none _ | exact LeH.refl _ | exact LeL.refl _ | exact AV.le.bs _ | exact AV.le.sb _ | omega | contradiction
  · have hf : (acts.getD i default).l.getD 0 default = fstT acts i := rfl
    try simp only [hf]
    repeat' (first | refine wC (by first | omega | (simp only [W1, cond_true, cond_false, isLT, grF_l, hg, hs3 (keepL (pastB (fstT acts i).fr (acts.getD i default).n) L) (by omega), hw, wrapUpN (show i ≤ 10000000000 by omega)]; first | done | omega)) ?_ | refine wT (by first | omega | (simp only [W1, cond_true, cond_false, isLT, grF_l, hg, hs3 (keepL (pastB (fstT acts i).fr (acts.getD i default).n) L) (by omega), hw, wrapUpN (show i ≤ 10000000000 by omega)]; first | done | omega)) ?_ | refine wF (by intro _h; first | omega | (simp only [W1, cond_true, cond_false, isLT, grF_l, hg, hs3 (keepL (pastB (fstT acts i).fr (acts.getD i default).n) L) (by omega), hw, wrapUpN (show i ≤ 10000000000 by omega)] at _h; first | done | omega)) ?_ | (refine wS ?_ ?_ <;> intro _h <;> simp only [W1, cond_true, cond_false, isLT, grF_l, hg, hs3 (keepL (pastB (fstT acts i).fr (acts.getD i default).n) L) (by omega), hw, wrapUpN (show i ≤ 10000000000 by omega)] at _h))
    all_goals simp only [W1, W2, owesN, owesX, owesR, cond_true, cond_false, isLT, grF_l, hg, hs3 (keepL (pastB (fstT acts i).fr (acts.getD i default).n) L) (by omega), hw, wrapUpN (show i ≤ 10000000000 by omega)]
    repeat' (first | apply And.intro | intro _hc)
    all_goals first | exact go12 (L := (keepL (pastB (fstT acts i).fr (acts.getD i default).n) L)) (j := junkL (pastB (fstT acts i).fr (acts.getD i default).n) L j) (j' := []) hi hg (LeL.refl _) (by simp only [S12, List.append_nil]; exact LeH.refl _) (by omega) (by omega) | ((rw [List.append_nil]; exact OLe.refl _)) | exact AV.le_refl _ | exact AV.le_any _ | exact OLe.refl _ | exact OLe.none _ | exact LeH.refl _ | exact LeL.refl _ | exact AV.le.bs _ | exact AV.le.sb _ | omega | contradiction
end Go.Eng.TA

/- PoolPlays: the law. -/
namespace Go.Eng.TA
open Go Go.Eng Go.Eng.M Go.Lib Go.Proofs Go.ChangeShapes
set_option linter.unusedSimpArgs false
set_option linter.unusedVariables false
theorem loop12 {mo : Int} {acts : List Ap} (hn : acts.length ≤ 60) : ∀ x, pre12 mo acts x → LoopOK Tryd.prog Γm 0 151 lp12 (LSpec.at lv12 nl12 (S12 mo acts x) (O12 acts x.i)) := by
  refine loop_at (S := S12 mo acts) (O := fun x => O12 acts x.i) (k := 0) (fun x => acts.length - x.i) fun x hp => ?_
  obtain ⟨i, L, j, j'⟩ := x
  show RO12 mo acts ⟨i, L, j, j'⟩
  rcases Nat.lt_or_ge i acts.length with hi | hi
  case inr => exact c12end hp hi
  cases hg : grL (acts.getD i default).l with
  | true => exact c12far hp hi hg
  | false =>
  have hm : (L.length : Int) ≤ mo := hp.m
  by_cases k0 : (acts.getD i default).k = 0
  · cases ht : txB (fstT acts i) with
    | false => exact c12a hp hn hi hg 80 k0 (.inl ⟨ht, rfl⟩)
    | true =>
      cases hh : hasT L (fstT acts i) with
      | true => exact c12a hp hn hi hg 100 k0 (.inr (.inl ⟨ht, hh, rfl⟩))
      | false =>
        by_cases h3 : (L.length : Int) = mo
        · exact c12a hp hn hi hg 101 k0 (.inr (.inr ⟨ht, hh, h3, rfl⟩))
        · exact c12n hp hn hi hg k0 ht hh h3
  by_cases k1 : (acts.getD i default).k = 1
  · exact c12b hp hn hi hg k1
  by_cases k2 : (acts.getD i default).k = 2
  · exact c12d hp hn hi hg k2
  by_cases k3 : (acts.getD i default).k = 3
  · exact c12p hp hn hi hg k3
  exact c12o hp hn hi hg k0 k1 k2 k3
def A12 (y : Int × List Ap) : List AV := [.v (.int .i64 y.1), .sl 3 y.2.length (lsF Ap.c y.2)]
noncomputable abbrev T12 : List (CT Tryd.prog Γm) := [z44', kNewP]
theorem law12a (y : Int × List Ap) : bodyE (P := Tryd.prog) (Γ := Γm) T12 Lno false 151 [.tmp 4] (bodyOf Tryd.f12) (A12 y) [] =
  Tree.br (decide ((60 : Int) < (↑(List.length y.snd) : Int))) (Tree.leaf (Ans.mk (AV.v (Value.bool true)) [])) (Tree.br (bif decide (y.fst < (1 : Int)) then true else decide ((64 : Int) <
    y.fst)) (Tree.br (bif decide (y.fst < (1 : Int)) then true else decide ((64 : Int) < y.fst)) (Tree.leaf (Ans.mk (AV.sb true) [])) (Tree.br true (Tree.leaf (Ans.mk (AV.v (Value.bool
    false)) [])) Tree.fail)) (Tree.br (bif decide (y.fst < (1 : Int)) then true else decide ((64 : Int) < y.fst)) (Tree.leaf (Ans.mk (AV.v (Value.bool false)) [])) (Tree.br false (Tree.leaf
    (Ans.mk (AV.v (Value.bool false)) [])) Tree.fail))) := by kernel_rfl
theorem law12r (y : Int × List Ap) : bodyE (P := Tryd.prog) (Γ := Γm) T12 (fun _ => LSpec.at lv12 nl12 (S12 y.1 y.2 ⟨0, [], [], []⟩) ret12) false 151 [.tmp 4] (bodyOf Tryd.f12) (A12 y) [] =
  Tree.br (decide ((60 : Int) < (↑(List.length y.snd) : Int))) (Tree.leaf (Ans.mk (AV.v (Value.bool true)) [])) (Tree.br (bif decide (y.fst < (1 : Int)) then true else decide ((64 : Int) <
    y.fst)) (Tree.br (bif decide (y.fst < (1 : Int)) then true else decide ((64 : Int) < y.fst)) (Tree.leaf (Ans.mk (AV.sb true) [])) (Tree.br true (Tree.leaf (Ans.mk (AV.v (Value.bool
    false)) [])) (Tree.chk (cl (LeL [AV.sl (3 : Nat) (List.length y.snd) (lsF Ap.c y.snd), AV.v (Value.pointer none), AV.ptr (0 : Nat) (0 : Nat), AV.v (Value.int IntKind.i64 (0 : Int)), AV.v
    (Value.bool false)] [AV.sl (3 : Nat) (List.length y.snd) (lsF Ap.c y.snd), AV.ptr (0 : Nat) (0 : Nat), AV.ptr (2 : Nat) (0 : Nat), AV.v (Value.int IntKind.i64 (↑(0 : Nat) : Int)),
    AV.any] ∧ LeH [some (Blk.row [AV.v (Value.int IntKind.i64 y.fst), AV.hs (1 : Nat) (0 : Nat) (0 : Nat)]), some (Blk.arr (7 : Nat) (0 : Nat) fun x => [AV.v (Value.int IntKind.i64 (0 :
    Int)), AV.v (Value.string (ByteArray.mk #[])), AV.v (Value.string (ByteArray.mk #[])), AV.v (Value.string (ByteArray.mk #[])), AV.v (Value.string (ByteArray.mk #[])), AV.v (Value.int
    IntKind.i64 (0 : Int)), AV.v (Value.int IntKind.i64 (0 : Int))])] [some (Blk.row [AV.v (Value.int IntKind.i64 y.fst), AV.hs (1 : Nat) (0 : Nat) (0 : Nat)]), some (Blk.arr (7 : Nat) (0 :
    Nat) (lsF Tx.c ((X12.mk (0 : Nat) [] [] []).L ++ (X12.mk (0 : Nat) [] [] []).j))), some (Blk.row [AV.v (Value.int IntKind.i64 y.fst), AV.hs (3 : Nat) (0 : Nat) (0 : Nat)]), some (Blk.arr
    (7 : Nat) (0 : Nat) (lsF Tx.c ((X12.mk (0 : Nat) [] [] []).L ++ (X12.mk (0 : Nat) [] [] []).j')))])) (Tree.leaf (Ans.mk (AV.v (Value.bool true)) []))))) (Tree.br (bif decide (y.fst < (1
    : Int)) then true else decide ((64 : Int) < y.fst)) (Tree.leaf (Ans.mk (AV.v (Value.bool false)) [])) (Tree.br false (Tree.leaf (Ans.mk (AV.v (Value.bool false)) [])) (Tree.chk (cl (LeL
    [AV.sl (3 : Nat) (List.length y.snd) (lsF Ap.c y.snd), AV.ptr (0 : Nat) (0 : Nat), AV.ptr (2 : Nat) (0 : Nat), AV.v (Value.int IntKind.i64 (0 : Int)), AV.v (Value.bool false)] [AV.sl (3
    : Nat) (List.length y.snd) (lsF Ap.c y.snd), AV.ptr (0 : Nat) (0 : Nat), AV.ptr (2 : Nat) (0 : Nat), AV.v (Value.int IntKind.i64 (↑(0 : Nat) : Int)), AV.any] ∧ LeH [some (Blk.row [AV.v
    (Value.int IntKind.i64 y.fst), AV.hs (1 : Nat) (0 : Nat) (0 : Nat)]), some (Blk.arr (7 : Nat) (0 : Nat) fun x => [AV.v (Value.int IntKind.i64 (0 : Int)), AV.v (Value.string (ByteArray.mk
    #[])), AV.v (Value.string (ByteArray.mk #[])), AV.v (Value.string (ByteArray.mk #[])), AV.v (Value.string (ByteArray.mk #[])), AV.v (Value.int IntKind.i64 (0 : Int)), AV.v (Value.int
    IntKind.i64 (0 : Int))]), some (Blk.row [AV.v (Value.int IntKind.i64 y.fst), AV.hs (3 : Nat) (0 : Nat) (0 : Nat)]), some (Blk.arr (7 : Nat) (0 : Nat) fun x => [AV.v (Value.int
    IntKind.i64 (0 : Int)), AV.v (Value.string (ByteArray.mk #[])), AV.v (Value.string (ByteArray.mk #[])), AV.v (Value.string (ByteArray.mk #[])), AV.v (Value.string (ByteArray.mk #[])),
    AV.v (Value.int IntKind.i64 (0 : Int)), AV.v (Value.int IntKind.i64 (0 : Int))])] [some (Blk.row [AV.v (Value.int IntKind.i64 y.fst), AV.hs (1 : Nat) (0 : Nat) (0 : Nat)]), some (Blk.arr
    (7 : Nat) (0 : Nat) (lsF Tx.c ((X12.mk (0 : Nat) [] [] []).L ++ (X12.mk (0 : Nat) [] [] []).j))), some (Blk.row [AV.v (Value.int IntKind.i64 y.fst), AV.hs (3 : Nat) (0 : Nat) (0 :
    Nat)]), some (Blk.arr (7 : Nat) (0 : Nat) (lsF Tx.c ((X12.mk (0 : Nat) [] [] []).L ++ (X12.mk (0 : Nat) [] [] []).j')))])) (Tree.leaf (Ans.mk (AV.v (Value.bool true)) [])))))) := by kernel_rfl
theorem law12e (y : Int × List Ap) : bodyE (P := Tryd.prog) (Γ := Γm) T12 (fun _ => LSpec.at lv12 nl12 (S12 y.1 y.2 ⟨0, [], [], []⟩) end12) false 151 [.tmp 4] (bodyOf Tryd.f12) (A12 y) [] =
  Tree.br (decide ((60 : Int) < (↑(List.length y.snd) : Int))) (Tree.leaf (Ans.mk (AV.v (Value.bool true)) [])) (Tree.br (bif decide (y.fst < (1 : Int)) then true else decide ((64 : Int) <
    y.fst)) (Tree.br (bif decide (y.fst < (1 : Int)) then true else decide ((64 : Int) < y.fst)) (Tree.leaf (Ans.mk (AV.sb true) [])) (Tree.br true (Tree.leaf (Ans.mk (AV.v (Value.bool
    false)) [])) (Tree.chk (cl (LeL [AV.sl (3 : Nat) (List.length y.snd) (lsF Ap.c y.snd), AV.v (Value.pointer none), AV.ptr (0 : Nat) (0 : Nat), AV.v (Value.int IntKind.i64 (0 : Int)), AV.v
    (Value.bool false)] [AV.sl (3 : Nat) (List.length y.snd) (lsF Ap.c y.snd), AV.ptr (0 : Nat) (0 : Nat), AV.ptr (2 : Nat) (0 : Nat), AV.v (Value.int IntKind.i64 (↑(0 : Nat) : Int)),
    AV.any] ∧ LeH [some (Blk.row [AV.v (Value.int IntKind.i64 y.fst), AV.hs (1 : Nat) (0 : Nat) (0 : Nat)]), some (Blk.arr (7 : Nat) (0 : Nat) fun x => [AV.v (Value.int IntKind.i64 (0 :
    Int)), AV.v (Value.string (ByteArray.mk #[])), AV.v (Value.string (ByteArray.mk #[])), AV.v (Value.string (ByteArray.mk #[])), AV.v (Value.string (ByteArray.mk #[])), AV.v (Value.int
    IntKind.i64 (0 : Int)), AV.v (Value.int IntKind.i64 (0 : Int))])] [some (Blk.row [AV.v (Value.int IntKind.i64 y.fst), AV.hs (1 : Nat) (0 : Nat) (0 : Nat)]), some (Blk.arr (7 : Nat) (0 :
    Nat) (lsF Tx.c ((X12.mk (0 : Nat) [] [] []).L ++ (X12.mk (0 : Nat) [] [] []).j))), some (Blk.row [AV.v (Value.int IntKind.i64 y.fst), AV.hs (3 : Nat) (0 : Nat) (0 : Nat)]), some (Blk.arr
    (7 : Nat) (0 : Nat) (lsF Tx.c ((X12.mk (0 : Nat) [] [] []).L ++ (X12.mk (0 : Nat) [] [] []).j')))])) (Tree.leaf (Ans.mk (AV.v (Value.bool true)) []))))) (Tree.br (bif decide (y.fst < (1
    : Int)) then true else decide ((64 : Int) < y.fst)) (Tree.leaf (Ans.mk (AV.v (Value.bool false)) [])) (Tree.br false (Tree.leaf (Ans.mk (AV.v (Value.bool false)) [])) (Tree.chk (cl (LeL
    [AV.sl (3 : Nat) (List.length y.snd) (lsF Ap.c y.snd), AV.ptr (0 : Nat) (0 : Nat), AV.ptr (2 : Nat) (0 : Nat), AV.v (Value.int IntKind.i64 (0 : Int)), AV.v (Value.bool false)] [AV.sl (3
    : Nat) (List.length y.snd) (lsF Ap.c y.snd), AV.ptr (0 : Nat) (0 : Nat), AV.ptr (2 : Nat) (0 : Nat), AV.v (Value.int IntKind.i64 (↑(0 : Nat) : Int)), AV.any] ∧ LeH [some (Blk.row [AV.v
    (Value.int IntKind.i64 y.fst), AV.hs (1 : Nat) (0 : Nat) (0 : Nat)]), some (Blk.arr (7 : Nat) (0 : Nat) fun x => [AV.v (Value.int IntKind.i64 (0 : Int)), AV.v (Value.string (ByteArray.mk
    #[])), AV.v (Value.string (ByteArray.mk #[])), AV.v (Value.string (ByteArray.mk #[])), AV.v (Value.string (ByteArray.mk #[])), AV.v (Value.int IntKind.i64 (0 : Int)), AV.v (Value.int
    IntKind.i64 (0 : Int))]), some (Blk.row [AV.v (Value.int IntKind.i64 y.fst), AV.hs (3 : Nat) (0 : Nat) (0 : Nat)]), some (Blk.arr (7 : Nat) (0 : Nat) fun x => [AV.v (Value.int
    IntKind.i64 (0 : Int)), AV.v (Value.string (ByteArray.mk #[])), AV.v (Value.string (ByteArray.mk #[])), AV.v (Value.string (ByteArray.mk #[])), AV.v (Value.string (ByteArray.mk #[])),
    AV.v (Value.int IntKind.i64 (0 : Int)), AV.v (Value.int IntKind.i64 (0 : Int))])] [some (Blk.row [AV.v (Value.int IntKind.i64 y.fst), AV.hs (1 : Nat) (0 : Nat) (0 : Nat)]), some (Blk.arr
    (7 : Nat) (0 : Nat) (lsF Tx.c ((X12.mk (0 : Nat) [] [] []).L ++ (X12.mk (0 : Nat) [] [] []).j))), some (Blk.row [AV.v (Value.int IntKind.i64 y.fst), AV.hs (3 : Nat) (0 : Nat) (0 :
    Nat)]), some (Blk.arr (7 : Nat) (0 : Nat) (lsF Tx.c ((X12.mk (0 : Nat) [] [] []).L ++ (X12.mk (0 : Nat) [] [] []).j')))])) (Tree.leaf (Ans.mk (AV.v (Value.bool true)) [])))))) := by kernel_rfl
theorem lawPP (y : Int × List Ap) : LawOK Tryd.prog Γm 151 [.tmp 4] (bodyOf Tryd.f12) (A12 y) := by
  by_cases hm : y.1 < 1 ∨ 64 < y.1
  · refine .mk' (T := T12) (ip := false) (L := Lno) (failOK fun _ _ _ => rfl) (Right.of (law12a y) ?_)
    repeat' (first | refine wC (by first | omega | (simp only [W1, cond_true, cond_false]; first | done | omega)) ?_ | refine wT (by first | omega | (simp only [W1, cond_true, cond_false]; first | done | omega)) ?_ | refine wF (by intro _h; first | omega | (simp only [W1, cond_true, cond_false] at _h; first | done | omega)) ?_ | (refine wS ?_ ?_ <;> intro _h <;> simp only [W1, cond_true, cond_false] at _h))
    all_goals simp only [W1, W2, owesN, owesX, owesR, cond_true, cond_false]
    repeat' (first | apply And.intro | intro _hc)
    all_goals first | exact AV.le_refl _ | exact AV.le_any _ | exact OLe.refl _ | exact OLe.none _ | exact LeH.refl _ | exact LeL.refl _ | exact AV.le.bs _ | exact AV.le.sb _ | omega | contradiction
  by_cases hn : 60 < y.2.length
  · refine .mk' (T := T12) (ip := false) (L := Lno) (failOK fun _ _ _ => rfl) (Right.of (law12a y) ?_)
    repeat' (first | refine wC (by first | omega | (simp only [W1, cond_true, cond_false]; first | done | omega)) ?_ | refine wT (by first | omega | (simp only [W1, cond_true, cond_false]; first | done | omega)) ?_ | refine wF (by intro _h; first | omega | (simp only [W1, cond_true, cond_false] at _h; first | done | omega)) ?_ | (refine wS ?_ ?_ <;> intro _h <;> simp only [W1, cond_true, cond_false] at _h))
    all_goals simp only [W1, W2, owesN, owesX, owesR, cond_true, cond_false]
    repeat' (first | apply And.intro | intro _hc)
    all_goals first | exact AV.le_refl _ | exact AV.le_any _ | exact OLe.refl _ | exact OLe.none _ | exact LeH.refl _ | exact LeL.refl _ | exact AV.le.bs _ | exact AV.le.sb _ | omega | contradiction
  have hp : pre12 y.1 y.2 ⟨0, [], [], []⟩ := ⟨Nat.zero_le _, Nat.le_refl _, by show ((0 : Nat) : Int) ≤ _; omega⟩
  have hl := loop12 (mo := y.1) (acts := y.2) (by omega) _ hp
  have hO : O12 y.2 0 = ret12 ∨ O12 y.2 0 = end12 := by
    unfold O12
    by_cases hf : far12 y.2 0
    · exact .inl (if_pos hf)
    · exact .inr (if_neg hf)
  have hN : OLe (some (.arr 7 0 fun _ => [AV.v (Value.int IntKind.i64 0), AV.v (Value.string ⟨#[]⟩), AV.v (Value.string ⟨#[]⟩), AV.v (Value.string ⟨#[]⟩), AV.v (Value.string ⟨#[]⟩), AV.v (Value.int IntKind.i64 0), AV.v (Value.int IntKind.i64 0)])) (some (txB' ([] ++ []))) := OLe.arr rfl (fun e he => absurd he (Nat.not_lt_zero e)) (fun _ => rfl)
  rcases hO with hO | hO <;> rw [show (X12.mk 0 [] [] []).i = 0 from rfl, hO] at hl
  · refine .mk' (T := T12) (ip := false) (oneLoop (b := lp12) (by kernel_rfl) hl) (Right.of (law12r y) ?_)
    repeat' (first | refine wC (by first | omega | (simp only [W1, cond_true, cond_false]; first | done | omega)) ?_ | refine wT (by first | omega | (simp only [W1, cond_true, cond_false]; first | done | omega)) ?_ | refine wF (by intro _h; first | omega | (simp only [W1, cond_true, cond_false] at _h; first | done | omega)) ?_ | (refine wS ?_ ?_ <;> intro _h <;> simp only [W1, cond_true, cond_false] at _h))
    all_goals simp only [W1, W2, owesN, owesX, owesR, cond_true, cond_false]
    repeat' (first | apply And.intro | intro _hc)
    all_goals first | exact hN | exact AV.le_refl _ | exact AV.le_any _ | exact OLe.refl _ | exact OLe.none _ | exact LeH.refl _ | exact LeL.refl _ | exact AV.le.bs _ | exact AV.le.sb _ | omega | contradiction
  · refine .mk' (T := T12) (ip := false) (oneLoop (b := lp12) (by kernel_rfl) hl) (Right.of (law12e y) ?_)
    repeat' (first | refine wC (by first | omega | (simp only [W1, cond_true, cond_false]; first | done | omega)) ?_ | refine wT (by first | omega | (simp only [W1, cond_true, cond_false]; first | done | omega)) ?_ | refine wF (by intro _h; first | omega | (simp only [W1, cond_true, cond_false] at _h; first | done | omega)) ?_ | (refine wS ?_ ?_ <;> intro _h <;> simp only [W1, cond_true, cond_false] at _h))
    all_goals simp only [W1, W2, owesN, owesX, owesR, cond_true, cond_false]
    repeat' (first | apply And.intro | intro _hc)
    all_goals first | exact hN | exact AV.le_refl _ | exact AV.le_any _ | exact OLe.refl _ | exact OLe.none _ | exact LeH.refl _ | exact LeL.refl _ | exact AV.le.bs _ | exact AV.le.sb _ | omega | contradiction
noncomputable def c12L : CT Tryd.prog Γm := CT.lawE A12 (fun _ => True) 12 Tryd.f12 (bodyOf Tryd.f12) 151 [.tmp 4] Tryd.func12 (by kernel_rfl) (by kernel_rfl) (by kernel_rfl) (by kernel_rfl) (fun _ _ => by simp [A12]) (fun x _ => lawPP x)
end Go.Eng.TA

/- PoolPlays: the argument. -/
namespace Go.Eng.TA
open Go Go.Eng Go.Eng.M Go.Lib Go.Proofs Go.ChangeShapes
set_option linter.unusedSimpArgs false
set_option linter.unusedVariables false
section
variable {H : Type} {enc : TypeId × Value → H} {w : World} {base : Nat} {sp : Nat → Bool} {held : Bool}
def txKs : List Cel := [.int .i64, .str, .str, .str, .str, .int .i64, .int .i64]
theorem open_txs {fuel : Nat} {cs : List Value} {x : DataW H × List MemPlace} (h : DataW.trod enc Tryd.prog w base sp held fuel 62 cs = some x) :
    ∃ (v : Value) (l : List Tx), cs = [v] ∧ V0 (σof w) (.sl 7 l.length (lsF Tx.c l)) v ∧ v.oneCell' = true := by
  obtain ⟨v, l, h1, h2, h3, _⟩ := trod_sl (enc := enc) (P := Tryd.prog) Tx.c (sz := 7) (fun a cs => cs = Tx.cells a ∧ GoodVs txKs cs) (e := 40) (by decide) (by kernel_rfl) rfl (fun _ => rfl)
    (fun fuel cs x hx => by
      have hg := trod_good 9 fuel (ks := txKs) hx (by kernel_rfl)
      obtain ⟨a, ha⟩ := Tx.dec cs hg
      exact ⟨a, ha, hg⟩)
    (fun a cs h j x y => flatE_V (cells := Tx.cells) (fun _ => rfl) a cs h j x y) Tryd.underlying62 h
  exact ⟨v, l, h1, h2, h3⟩
def apE (w : World) (a : Ap) (cs : List Value) : Prop := ∃ v, cs = [.int .i64 a.k, .int .i64 a.n, v] ∧ V0 (σof w) (.sl 7 a.l.length (lsF Tx.c a.l)) v ∧ v.oneCell' = true
theorem open_ap {fuel : Nat} {cs : List Value} {x : DataW H × List MemPlace} (h : DataW.trod enc Tryd.prog w base sp held fuel 76 cs = some x) : ∃ a, apE w a cs := by
  obtain ⟨p0, p1, p2, fu, y0, y1, y2, rfl, h0, h1, h2⟩ := trod_three (n0 := 1) (n1 := 1) (n2 := 1) Tryd.underlying76 rfl rfl rfl rfl (by kernel_rfl) (by kernel_rfl) (by kernel_rfl) (by kernel_rfl) h
  have g0 := trod_good 9 fu (ks := [.int .i64]) h0 (by kernel_rfl)
  have g1 := trod_good 9 fu (ks := [.int .i64]) h1 (by kernel_rfl)
  obtain ⟨_, _, rfl, ⟨a0, rfl, _⟩, k0⟩ := g0.cons
  obtain rfl := k0.nil
  obtain ⟨_, _, rfl, ⟨a1, rfl, _⟩, k1⟩ := g1.cons
  obtain rfl := k1.nil
  obtain ⟨v, l, rfl, hv, ho⟩ := open_txs h2
  exact ⟨⟨a0, a1, l⟩, v, rfl, hv, ho⟩
theorem apE_V (w : World) (a : Ap) (cs : List Value) (h : apE w a cs) (j : Nat) (x : AV) (y : Value) (hx : (Ap.c a)[j]? = some x) (hy : cs[j]? = some y) : V0 (σof w) x y ∧ y.oneCell' = true := by
  obtain ⟨v, rfl, hv, ho⟩ := h
  match j, hx, hy with
  | 0, hx, hy => cases hx; cases hy; exact ⟨.v _, rfl⟩
  | 1, hx, hy => cases hx; cases hy; exact ⟨.v _, rfl⟩
  | 2, hx, hy => cases hx; cases hy; exact ⟨hv, ho⟩
theorem slice_ok {P : Program} {t e : TypeId} {r : Reach} {b0 : Nat} {v : Value} (ht : P.underlying t = some (.slice e)) (hval : Value.okWide P w r b0 t v) : ∃ a n c, v = .slice a n c := by
  unfold Value.okWide at hval
  rw [ht] at hval
  simp only at hval
  unfold Cell.okWide at hval
  rw [ht] at hval
  unfold Cell.ok at hval
  rw [ht] at hval
  cases v with
  | slice a len cap => exact ⟨_, _, _, rfl⟩
  | _ => exact hval.elim
set_option maxRecDepth 100000 in
theorem open_aps {v : Value} {d : DataW H} {ps : List MemPlace} {r : Reach} {b0 : Nat} (hval : Value.okWide Tryd.prog w r b0 72 v) (h : DataW.Trod enc Tryd.prog w base sp held 72 v d ps) : ∃ l : List Ap, V0 (σof w) (.sl 3 l.length (lsF Ap.c l)) v := by
  obtain ⟨fuel, h⟩ := h
  obtain ⟨v', l, h1, h2, _, _⟩ := trod_sl (enc := enc) (P := Tryd.prog) Ap.c (sz := 3) (apE w) (e := 76) (by decide) (by kernel_rfl) rfl (fun _ => rfl)
    (fun fuel cs x hx => open_ap hx) (fun a cs h j x y => apE_V w a cs h j x y) (fuel := fuel) Tryd.underlying72 h
  obtain ⟨a, n, c, hs⟩ := slice_ok Tryd.underlying72 hval
  subst hs
  have h1 : [Value.slice a n c] = [v'] := h1
  have h1 := (List.cons.inj h1).1
  subst h1
  exact ⟨l, h2⟩
end
end Go.Eng.TA

/- The tables that the rows name: what the rows' condition gives. -/
namespace Go.Proofs.YtmjbindplgpjjaaDoor
open Go Go.ChangeShapes Go.WideShapes Go.ChangeAt Go.WideMaps Go.WideElems Go.RowKit Go.Eng Go.Eng.TA
set_option linter.unusedSimpArgs false
set_option linter.unusedVariables false
theorem own : ownKnob Tryd.prog.godebug = none := by kernel_rfl
abbrev laidL : List (String × DataW Unit) := [("unicode/utf8.acceptRanges", Rows.laid_unicode_utf8_acceptRanges), ("unicode/utf8.first", Rows.laid_unicode_utf8_first)]
def ren8 : Go.Shelf.Ren := ⟨id, fun t => if t = 5 then 5 else if t = 119 then 192 else if t = 138 then 194 else 195, fun g => if g = 3 then 0 else 1⟩
theorem ren8T : U8Types Tryd.prog ren8 where
  t5 := Tryd.underlying5
  t119 := Tryd.underlying192
  t138 := Tryd.underlying194
  t139 := Tryd.underlying195
theorem ren8X : U8Extra Tryd.prog ren8 where
  n3 := by kernel_rfl
  n4 := by kernel_rfl
  y3 := by kernel_rfl
  y4 := by kernel_rfl
  c5 := by kernel_rfl
  c119 := by kernel_rfl
  c138 := by kernel_rfl
theorem data8 : Rows.laid_unicode_utf8_first = Lib.firstData ∧ (Rows.laid_unicode_utf8_acceptRanges : DataW Unit) = Lib.acceptData := ⟨by kernel_rfl, by kernel_rfl⟩
theorem globals_ok {W : World} (h : laidMetH Tryd.prog laidL W) : Globals Γm (σof W) := by
  rw [MakeChecks.laidMetH_plain _ _ _ (by kernel_rfl)] at h
  have h1 := Go.Lib.laidMet.reads h (n := "unicode/utf8.first") (d := Lib.firstData) (by rw [← data8.1]; exact List.mem_cons_of_mem _ (List.mem_cons_self ..))
  have h2 := Go.Lib.laidMet.reads h (n := "unicode/utf8.acceptRanges") (d := Lib.acceptData) (by rw [← data8.2]; exact List.mem_cons_self ..)
  have hT : Lib.Utf8Tabs 0 1 W := utf8Tabs_of_readsT ren8T ren8X h1 h2
  intro g
  unfold Γm
  split
  · rename_i hg
    obtain rfl := Nat.eq_of_beq_eq_true hg
    refine .pa 1 256 _ ⟨0, 0, none⟩ (fun e j => .int .u8 (Lib.firstT e : Int)) rfl (fun _ => rfl) (fun e j c he hc => ?_) (fun e j c he hc => ?_)
    · cases j with
      | zero => simpa using σof_of (hT.1 e he)
      | succ j => simp [fstF] at hc
    · cases j with
      | zero => simp [fstF] at hc; subst hc; exact .v _
      | succ j => simp [fstF] at hc
  · split
    · rename_i hg
      obtain rfl := Nat.eq_of_beq_eq_true hg
      refine .pa 2 16 _ ⟨1, 0, none⟩ (fun e j => .int .u8 (if j = 0 then (Lib.accLo e : Int) else (Lib.accHi e : Int))) rfl (fun _ => rfl) (fun e j c he hc => ?_) (fun e j c he hc => ?_)
      · match j with
        | 0 => simpa [Nat.mul_comm] using σof_of (hT.2 e he).1
        | 1 => simpa [Nat.mul_comm] using σof_of (hT.2 e he).2
        | j + 2 => simp [accF] at hc
      · match j with
        | 0 => simp [accF] at hc; subst hc; exact .v _
        | 1 => simp [accF] at hc; subst hc; exact .v _
        | j + 2 => simp [accF] at hc
    · exact .any _
end Go.Proofs.YtmjbindplgpjjaaDoor

/- PoolPlays holds at every input: the tables unicode/utf8.first and unicode/utf8.acceptRanges as the program lays them (tied). -/
namespace Go.Proofs.YtmjbindplgpjjaaDoor
open Go Go.ChangeShapes Go.WideShapes Go.ChangeAt Go.WideMaps Go.WideElems Go.RowKit Go.Eng Go.Eng.TA
set_option linter.unusedSimpArgs false
set_option linter.unusedVariables false

set_option maxRecDepth 100000 in
theorem poolPlays_lifted (os : Os) (started : os.Started) (H : Type) (enc : TypeId × Value → H) :
    ReturnsInHanded {} Tryd.checked os 12 .any (fun w args => (Rows.poolPlaysSpec.pre enc Tryd.prog Tryd.f12 [] false w args ∧ laidMetH Tryd.prog laidL w) ∧ sizedMet enc Tryd.prog Tryd.f12 (OpenSpec.ofChange Rows.poolPlaysSpec) false w args)
      (Rows.poolPlaysSpec.post enc Tryd.prog Tryd.f12 false true false false) := by
  refine returnsInHanded_of_change_and (C := Tryd.checked) (X := fun w _ => laidMetH Tryd.prog laidL w) (fun _ _ _ hh h => h.of_heap hh) own started (by kernel_rfl) Tryd.func12
    (ChangeSpec.witness_shaped (enc := enc) (C := Tryd.checked) (os := os) (X := fun w _ => laidMetH Tryd.prog laidL w) false (World.laidAll Tryd.prog os laidL) #[.int .i64 1, .slice none 0 0] 8 (World.laidAll_os _ _ _) (World.shaped_of_ZipB (by kernel_rfl) (by kernel_rfl)) (by kernel_rfl) (by kernel_rfl) (by kernel_rfl)
      (by rw [MakeChecks.laidMetH_plain _ _ _ (by kernel_rfl)]; exact laidMet_laidAll _ (by kernel_rfl) (by kernel_rfl))) ?_
  intro W base args ds gs before hval0 hW _ _ hL _
  have hval : ∀ (j : Nat) t v, Tryd.f12.params[j]? = some t → args[j]? = some v → Value.okWide Tryd.prog W .any base t v := hval0
  have hW' := hW
  obtain ⟨p, q, hA0, hV, rfl, hfz, hnd⟩ := hW
  have hA : DataW.TrodAll enc Tryd.prog W 0 (fun _ => true) true Tryd.f12.params.toList args.toList ds p := hA0
  rw [Tryd.params12] at hA hval
  obtain ⟨v0, v1, d0, d1, p0, p1, rfl, rfl, rfl, h0, h1⟩ := trodAll_two hA
  obtain ⟨rfl, rfl⟩ := trodVars_none hV
  obtain ⟨n0, rfl, rfl, rfl, w0⟩ := open_int Tryd.underlying3 (hval 0 3 v0 rfl rfl) h0
  obtain ⟨n1, s1⟩ := open_aps (hval 1 72 v1 rfl rfl) h1
  refine (calls_true c12L (xs := [.v (.int .i64 n0), .sl 3 n1.length (lsF TA.Ap.c n1)]) (law_in (A := A12) (pre := fun _ => True) (x := (n0, n1)) trivial (.refl _)) (globals_ok hL) (.one (V_v _) (.one (.base s1) .none))).mono fun e W' ⟨he, ho⟩ => ?_
  subst he
  exact ⟨_, rfl, post_true (tb := 4) (by kernel_rfl) (by kernel_rfl) (by kernel_rfl) (by kernel_rfl) (by kernel_rfl) Tryd.underlying4 hW' rfl rfl ho⟩

theorem poolPlays_holds : Rows.PoolPlaysSaid :=
  OpenClaim.holds_of_wide 12 Tryd.f12 rfl rfl rfl rfl rfl rfl rfl ⟨rfl, rfl, rfl, rfl, rfl⟩ rfl rfl rfl rfl rfl (by kernel_rfl) Tryd.func12 (by kernel_rfl)
    (of_decide_eq_true (by kernel_rfl)) (by unfold Func.isWrapper; first | (rw [if_pos (by decide +kernel)]; kernel_rfl) | (rw [if_neg (by decide +kernel)]; exact ⟨rfl, rfl⟩))
    (fun os started H enc _ => poolPlays_lifted os started H enc)
theorem poolPlays_card : Rows.PoolPlaysCardSaid :=
  Claim7.holds_tied_plain_at .later [] [.data, .pinned] true (true, "04bf13180d5c01f5cefcb13e3375edc3305cec317436f21bd83698835d5e56cf") false
    poolPlays_holds (fun _ h => by cases h) (by kernel_rfl) (fun _ h => by cases h) poolPlays_row_tie rfl ⟨rfl, rfl⟩ (by kernel_rfl) rfl
    (fun f fn hf hfn => by
      obtain rfl : f = 12 := Option.some.inj ((show Tryd.prog.funcNamed "hallmoot/hallmootlaw10.PoolPlays" = some 12 by kernel_rfl).symm.trans hf) |>.symm
      obtain rfl : fn = Tryd.f12 := (Option.some.inj (Tryd.func12.symm.trans hfn)).symm
      exact ⟨by kernel_rfl, fun j t ht => by
        rw [Tryd.params12] at ht
        have hm : t ∈ [3, 72] := by simpa using Array.mem_of_getElem? ht
        have hall : ([3, 72].all fun u => !Tryd.prog.wantsStandIn u) = true := by kernel_rfl
        exact (show Tryd.prog.wantsStandIn t = false by simpa using List.all_eq_true.1 hall t hm)⟩)
    (by kernel_rfl)
#print axioms poolPlays_card
end Go.Proofs.YtmjbindplgpjjaaDoor
