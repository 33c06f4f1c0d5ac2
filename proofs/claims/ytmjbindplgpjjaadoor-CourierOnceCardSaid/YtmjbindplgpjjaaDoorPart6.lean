/- CourierOnce holds at every input: the tables unicode/utf8.first and unicode/utf8.acceptRanges as the program lays them (tied). -/
import Derived.Test.YtmjbindplgpjjaaDoorPart5
import Derived.OpenShut
import Derived.Test.YtmjbindplgpjjaaDoorRows
import Derived.Test.YtmjbindplgpjjaaDoorTie
import Derived.Test.YtmjbindplgpjjaaDoorCards
import Derived.ProofKit
import Derived.LaidMore
import Derived.Stop.Joined
import Derived.SevenTiedAt
import Derived.Lib.LaidU8T
import Derived.Lay
set_option linter.unnecessarySimpa false
set_option linter.unusedSectionVars false
set_option linter.unusedSimpArgs false
set_option linter.unusedVariables false
namespace Go.Eng.TA.C
open Go Go.Eng Go.Eng.M Go.Lib Go.Proofs
structure Sb where
  b : Bool
instance : Inhabited Sb := ⟨⟨false⟩⟩
def Sb.c (x : Sb) : List AV := [.sb x.b]
theorem Sb.cod : Cod Sb.c 1 := ⟨fun _ => rfl, fun b x y => by cases b <;> rfl⟩
abbrev lsB (l : List Sb) : Blk := .arr 1 l.length (lsF Sb.c l)
def markT (sn : List Sb) (t : Tx) : List Sb := if t.nn ≤ (sn.length : Int) then sn.set (kO t) ⟨true⟩ else sn
theorem mark_len (sn : List Sb) (t : Tx) : (markT sn t).length = sn.length := by
  unfold markT
  split
  · exact List.length_set ..
  · rfl
theorem marks_len : ∀ (xs : List Tx) (sn : List Sb), (xs.foldl markT sn).length = sn.length
  | [], _ => rfl
  | t :: xs, sn => by rw [List.foldl_cons, marks_len xs, mark_len]
theorem marks_at {k : Nat} : ∀ (xs : List Tx) (sn : List Sb), (∀ t ∈ xs, 1 ≤ t.nn) → k < sn.length → (((xs.foldl markT sn).getD k default).b = true ↔ (sn.getD k default).b = true ∨ ∃ t ∈ xs, kO t = k)
  | [], sn, _, _ => by simp
  | t :: xs, sn, h, hk => by
    rw [List.foldl_cons, marks_at xs _ (fun u hu => h u (List.mem_cons_of_mem _ hu)) (by rw [mark_len]; exact hk)]
    have h1 := h t (List.mem_cons_self ..)
    have hm : (((markT sn t).getD k default).b = true ↔ (sn.getD k default).b = true ∨ kO t = k) := by
      unfold markT
      by_cases hn : t.nn ≤ (sn.length : Int)
      · have hkl : kO t < sn.length := by unfold kO; omega
        rw [if_pos hn, getD_setI hkl]
        by_cases e : k = kO t
        · rw [if_pos e]; simp [e]
        · rw [if_neg e]
          have : ¬ kO t = k := fun h => e h.symm
          simp [this]
      · rw [if_neg hn]
        have : ¬ kO t = k := by unfold kO; omega
        simp [this]
    rw [hm]
    simp only [List.mem_cons, exists_eq_or_imp, or_assoc]
abbrev lv4 : List Nat := [5, 8, 16, 17, 18, 19]
def S4 (c : Cs) (l : List Pc) (ol : List Od) (i : Nat) (xs : List Tx) (sn : List Sb) (k : Nat) : List AV × Heap := ([.ptr 0 0, .hs 2 0 ol.length, .hs 3 0 sn.length, .v (.int .i64 (i : Int)), .hs 4 0 xs.length, .v (.int .i64 (k : Int))], (c.bl l ++ [lsO ol, lsB sn, lsT xs]).map some)
def O4 (c : Cs) (l : List Pc) (ol : List Od) (i : Nat) (R : List Sb) : Out := ⟨.exit 9, [.ptr 0 0, .hs 2 0 ol.length, .hs 3 0 R.length, .v (.int .i64 (i : Int)), .any, .any], (c.bl l ++ [lsO ol, lsB R]).map some ++ [none]⟩
theorem r4 (c : Cs) (l : List Pc) (ol : List Od) (i : Nat) (xs : List Tx) (sn : List Sb) (k : Nat) : roundE (P := Tryd.prog) (Γ := Γm) [] Lno false 0 0 (lq 4) lv4 [] 228 (S4 c l ol i xs sn k).1 (S4 c l ol i xs sn k).2 =
  Tree.br (decide ((↑k : Int) < (↑(List.length xs) : Int))) (Tree.chk (decide ((0 : Int) ≤ (↑k : Int)) && decide ((↑k : Int) < (↑(List.length xs) : Int))) (Tree.br (decide ((List.getD xs ((0 :
    Nat) + k) default).nn ≤ (↑(List.length sn) : Int))) (Tree.chk (decide ((0 : Int) ≤ (↑k : Int)) && decide ((↑k : Int) < (↑(List.length xs) : Int))) (Tree.chk (decide ((0 : Int) ≤
    IntKind.wrap IntKind.i64 ((List.getD xs ((0 : Nat) + k) default).nn - (1 : Int))) && decide (IntKind.wrap IntKind.i64 ((List.getD xs ((0 : Nat) + k) default).nn - (1 : Int)) <
    (↑(List.length sn) : Int))) (Tree.leaf (Out.mk AEx.normal [AV.ptr (0 : Nat) (0 : Nat), AV.hs (2 : Nat) (0 : Nat) (List.length ol), AV.hs (3 : Nat) (0 : Nat) (List.length sn), AV.v
    (Value.int IntKind.i64 (↑i : Int)), AV.hs (4 : Nat) (0 : Nat) (List.length xs), AV.v (Value.int IntKind.i64 (IntKind.wrap IntKind.i64 ((↑k : Int) + (1 : Int))))] [some (Blk.row [AV.v
    (Value.string c.who), AV.v (Value.int IntKind.i64 c.most), AV.hs (1 : Nat) (0 : Nat) (List.length l), AV.v (Value.int IntKind.i64 c.now), AV.v (Value.int IntKind.i64 c.heard), AV.v
    (Value.int IntKind.i64 c.wt), AV.v (Value.int IntKind.i64 c.en), AV.v (Value.int IntKind.i64 c.go)]), some (Blk.arr (10 : Nat) (List.length l) (lsF Pc.c l)), some (Blk.arr (8 : Nat)
    (List.length ol) (lsF Od.c ol)), some (Blk.arr (1 : Nat) (List.length sn) fun k_1 => mixL (Nat.beq k_1 ((0 : Nat) + Int.toNat (IntKind.wrap IntKind.i64 ((List.getD xs ((0 : Nat) + k)
    default).nn - (1 : Int))))) [AV.v (Value.bool true)] (lsF Sb.c sn k_1)), some (Blk.arr (7 : Nat) (List.length xs) (lsF Tx.c xs))])))) (Tree.leaf (Out.mk AEx.normal [AV.ptr (0 : Nat) (0 :
    Nat), AV.hs (2 : Nat) (0 : Nat) (List.length ol), AV.hs (3 : Nat) (0 : Nat) (List.length sn), AV.v (Value.int IntKind.i64 (↑i : Int)), AV.hs (4 : Nat) (0 : Nat) (List.length xs), AV.v
    (Value.int IntKind.i64 (IntKind.wrap IntKind.i64 ((↑k : Int) + (1 : Int))))] [some (Blk.row [AV.v (Value.string c.who), AV.v (Value.int IntKind.i64 c.most), AV.hs (1 : Nat) (0 : Nat)
    (List.length l), AV.v (Value.int IntKind.i64 c.now), AV.v (Value.int IntKind.i64 c.heard), AV.v (Value.int IntKind.i64 c.wt), AV.v (Value.int IntKind.i64 c.en), AV.v (Value.int
    IntKind.i64 c.go)]), some (Blk.arr (10 : Nat) (List.length l) (lsF Pc.c l)), some (Blk.arr (8 : Nat) (List.length ol) (lsF Od.c ol)), some (Blk.arr (1 : Nat) (List.length sn) (lsF Sb.c
    sn)), some (Blk.arr (7 : Nat) (List.length xs) (lsF Tx.c xs))])))) (Tree.leaf (Out.mk (AEx.exit (9 : Nat)) [AV.ptr (0 : Nat) (0 : Nat), AV.hs (2 : Nat) (0 : Nat) (List.length ol), AV.hs
    (3 : Nat) (0 : Nat) (List.length sn), AV.v (Value.int IntKind.i64 (↑i : Int)), AV.hs (4 : Nat) (0 : Nat) (List.length xs), AV.v (Value.int IntKind.i64 (↑k : Int))] [some (Blk.row [AV.v
    (Value.string c.who), AV.v (Value.int IntKind.i64 c.most), AV.hs (1 : Nat) (0 : Nat) (List.length l), AV.v (Value.int IntKind.i64 c.now), AV.v (Value.int IntKind.i64 c.heard), AV.v
    (Value.int IntKind.i64 c.wt), AV.v (Value.int IntKind.i64 c.en), AV.v (Value.int IntKind.i64 c.go)]), some (Blk.arr (10 : Nat) (List.length l) (lsF Pc.c l)), some (Blk.arr (8 : Nat)
    (List.length ol) (lsF Od.c ol)), some (Blk.arr (1 : Nat) (List.length sn) (lsF Sb.c sn)), some (Blk.arr (7 : Nat) (List.length xs) (lsF Tx.c xs))])) := by kernel_rfl
theorem loop4 {c : Cs} {l : List Pc} {ol : List Od} {i : Nat} {xs : List Tx} {R : List Sb} (hx : xs.length ≤ 100000) (hR : R.length ≤ 100000) (h1 : ∀ k, k < xs.length → 1 ≤ (xs.getD k default).nn) :
    ∀ y : List Sb × Nat, (y.2 ≤ xs.length ∧ (xs.drop y.2).foldl markT y.1 = R) → LoopOK Tryd.prog Γm 0 228 (lq 4) (LSpec.at lv4 [] (S4 c l ol i xs y.1 y.2) (O4 c l ol i R)) := by
  refine loop_at (S := fun y : List Sb × Nat => S4 c l ol i xs y.1 y.2) (pre := fun y => y.2 ≤ xs.length ∧ (xs.drop y.2).foldl markT y.1 = R) (O := fun _ => O4 c l ol i R) (k := 0) (fun y => xs.length - y.2) fun y hy => ?_
  obtain ⟨sn, k⟩ := y
  obtain ⟨hk, hr⟩ := hy
  dsimp only at hk hr ⊢
  refine .of (noLoops (by kernel_rfl)) (r4 c l ol i xs sn k) ?_
  rcases Nat.lt_or_ge k xs.length with hl | hl
  · have e1 : IntKind.i64.wrap ((k : Int) + 1) = ((k + 1 : Nat) : Int) := wrapUpN (by omega)
    have hd : xs.drop k = xs.getD k default :: xs.drop (k + 1) := by rw [List.drop_eq_getElem_cons hl, getD_get hl]
    have hlen : sn.length = R.length := by rw [← hr, marks_len]
    rw [hd, List.foldl_cons] at hr
    have hn1 := h1 k hl
    have hlt : xs.length - (k + 1) < xs.length - k := by omega
    simp only [Nat.zero_add, Int.toNat_natCast, e1]
    generalize xs.getD k default = t at *
    by_cases hn : t.nn ≤ (sn.length : Int)
    · have hm : markT sn t = sn.set (kO t) ⟨true⟩ := if_pos hn
      rw [hm] at hr
      have hkl : kO t < sn.length := by unfold kO; omega
      have e2 : IntKind.i64.wrap (t.nn - 1) = t.nn - 1 := wrap64 (by omega) (by omega)
      have e3 : (t.nn - 1).toNat = kO t := rfl
      have hO : OLe (some (.arr 1 sn.length fun j => mixL (Nat.beq j (kO t)) [.v (.bool true)] (lsF Sb.c sn j))) (some (lsB (sn.set (kO t) ⟨true⟩))) := by
        have h0 := Sb.cod.set sn ⟨true⟩ hkl (N := sn.length) rfl
        have he : (fun j => mixL (Nat.beq j (kO t)) [.v (.bool true)] (lsF Sb.c sn j)) = fun j => mixL (Nat.beq j (kO t)) (Sb.c ⟨true⟩) (lsF Sb.c sn j) := by
          funext j
          cases Nat.beq j (kO t) <;> rfl
        rw [he]; exact h0
      have hz : (sn.set (kO t) (⟨true⟩ : Sb)).length = sn.length := List.length_set ..
      simp only [e2, e3]
      repeat' (first | refine wC (by first | omega | (simp only [W1, cond_true, cond_false]; first | done | omega)) ?_ | refine wT (by first | omega | (simp only [W1, cond_true, cond_false]; first | done | omega)) ?_ | refine wF (by intro _h; first | omega | (simp only [W1, cond_true, cond_false] at _h; first | done | omega)) ?_ | (refine wS ?_ ?_ <;> intro _h <;> simp only [W1, cond_true, cond_false] at _h))
      all_goals simp only [W1, W2, owesN, owesX, owesR, cond_true, cond_false]
      repeat' (first | apply And.intro | intro _hc)
      all_goals first | ((refine ⟨(sn.set (kO t) ⟨true⟩, k + 1), ⟨.refl _, .refl _, ?_, .refl _, .refl _, .refl _, trivial⟩, ⟨.refl _, .refl _, .refl _, hO, .refl _, trivial⟩, ⟨hl, hr⟩, hlt⟩; rw [hz]; exact .refl _)) | exact AV.le_refl _ | exact AV.le_any _ | exact OLe.refl _ | exact OLe.none _ | exact LeH.refl _ | exact LeL.refl _ | exact AV.le.bs _ | exact AV.le.sb _ | omega | contradiction
    · have hm : markT sn t = sn := if_neg hn
      rw [hm] at hr
      repeat' (first | refine wC (by first | omega | (simp only [W1, cond_true, cond_false]; first | done | omega)) ?_ | refine wT (by first | omega | (simp only [W1, cond_true, cond_false]; first | done | omega)) ?_ | refine wF (by intro _h; first | omega | (simp only [W1, cond_true, cond_false] at _h; first | done | omega)) ?_ | (refine wS ?_ ?_ <;> intro _h <;> simp only [W1, cond_true, cond_false] at _h))
      all_goals simp only [W1, W2, owesN, owesX, owesR, cond_true, cond_false]
      repeat' (first | apply And.intro | intro _hc)
      all_goals first | exact ⟨(sn, k + 1), LeL.refl _, LeH.refl _, ⟨hl, hr⟩, hlt⟩ | exact AV.le_refl _ | exact AV.le_any _ | exact OLe.refl _ | exact OLe.none _ | exact LeH.refl _ | exact LeL.refl _ | exact AV.le.bs _ | exact AV.le.sb _ | omega | contradiction
  · rw [List.drop_eq_nil_of_le hl] at hr
    have hr : sn = R := hr
    subst hr
    repeat' (first | refine wC (by first | omega | (simp only [W1, cond_true, cond_false]; first | done | omega)) ?_ | refine wT (by first | omega | (simp only [W1, cond_true, cond_false]; first | done | omega)) ?_ | refine wF (by intro _h; first | omega | (simp only [W1, cond_true, cond_false] at _h; first | done | omega)) ?_ | (refine wS ?_ ?_ <;> intro _h <;> simp only [W1, cond_true, cond_false] at _h))
    all_goals simp only [W1, W2, owesN, owesX, owesR, cond_true, cond_false]
    repeat' (first | apply And.intro | intro _hc)
    all_goals first | exact rfl | exact ⟨.refl _, .refl _, .refl _, .refl _, .any _, .any _, trivial⟩ | exact ⟨.refl _, .refl _, .refl _, .refl _, .none _, trivial⟩ | exact AV.le_refl _ | exact AV.le_any _ | exact OLe.refl _ | exact OLe.none _ | exact LeH.refl _ | exact LeL.refl _ | exact AV.le.bs _ | exact AV.le.sb _ | omega | contradiction
structure X3 where
  c : Cs
  l : List Pc
  sn : List Sb
def step3 (x : X3) : X3 := ⟨{ x.c with now := x.c.now + 1 }, x.l.map (tk (x.c.now + 1)), (outT (x.c.now + 1) x.l x.l.length).foldl markT x.sn⟩
def it3 : Nat → X3 → X3
  | 0, x => x
  | k + 1, x => it3 k (step3 x)
abbrev lv3 : List Nat := [5, 8, 16, 17]
def S3 (ol : List Od) (x : X3) (i : Nat) : List AV × Heap := ([.ptr 0 0, .hs 2 0 ol.length, .hs 3 0 x.sn.length, .v (.int .i64 (i : Int))], (x.c.bl x.l ++ [lsO ol, lsB x.sn]).map some)
def O3 (ol : List Od) (R : X3) : Out := ⟨.exit 7, [.any, .hs 2 0 ol.length, .hs 3 0 R.sn.length, .any], [none, none] ++ [lsO ol, lsB R.sn].map some⟩
theorem r3e (ol : List Od) (x : X3) (i : Nat) : roundE (P := Tryd.prog) (Γ := Γm) [] Lno false 0 0 (lq 3) lv3 [] 228 (S3 ol x i).1 (S3 ol x i).2 =
  Tree.br (decide ((↑i : Int) < (16 : Int))) Tree.fail (Tree.leaf (Out.mk (AEx.exit (7 : Nat)) [AV.ptr (0 : Nat) (0 : Nat), AV.hs (2 : Nat) (0 : Nat) (List.length ol), AV.hs (3 : Nat) (0 :
    Nat) (List.length x.sn), AV.v (Value.int IntKind.i64 (↑i : Int))] [some (Blk.row [AV.v (Value.string x.c.who), AV.v (Value.int IntKind.i64 x.c.most), AV.hs (1 : Nat) (0 : Nat)
    (List.length x.l), AV.v (Value.int IntKind.i64 x.c.now), AV.v (Value.int IntKind.i64 x.c.heard), AV.v (Value.int IntKind.i64 x.c.wt), AV.v (Value.int IntKind.i64 x.c.en), AV.v (Value.int
    IntKind.i64 x.c.go)]), some (Blk.arr (10 : Nat) (List.length x.l) (lsF Pc.c x.l)), some (Blk.arr (8 : Nat) (List.length ol) (lsF Od.c ol)), some (Blk.arr (1 : Nat) (List.length x.sn)
    (lsF Sb.c x.sn))])) := by kernel_rfl
theorem r3 (ol : List Od) (x : X3) (i : Nat) (c' : Cs) (l' : List Pc) (xs : List Tx) (R : List Sb) (hT : Answers Tryd.prog Γm 63 [.ptr 0 0] (x.c.bl x.l) (.hs 2 0 xs.length) ((c'.bl l').map some) [lsT xs]) : roundE (P := Tryd.prog) (Γ := Γm) [CT.at 63 hT] (fun _ => LSpec.at lv4 [] (S4 c' l' ol i xs x.sn 0) (O4 c' l' ol i R)) false 0 0 (lq 3) lv3 [] 228 (S3 ol x i).1 (S3 ol x i).2 =
  Tree.br (decide ((↑i : Int) < (16 : Int))) (Tree.chk (cl (LeL [AV.ptr (0 : Nat) (0 : Nat)] [AV.ptr (0 : Nat) (0 : Nat)] ∧ LeH [some (Blk.row [AV.v (Value.string x.c.who), AV.v (Value.int
    IntKind.i64 x.c.most), AV.hs (1 : Nat) (0 : Nat) (List.length x.l), AV.v (Value.int IntKind.i64 x.c.now), AV.v (Value.int IntKind.i64 x.c.heard), AV.v (Value.int IntKind.i64 x.c.wt),
    AV.v (Value.int IntKind.i64 x.c.en), AV.v (Value.int IntKind.i64 x.c.go)]), some (Blk.arr (10 : Nat) (List.length x.l) (lsF Pc.c x.l))] [some (Blk.row [AV.v (Value.string x.c.who), AV.v
    (Value.int IntKind.i64 x.c.most), AV.hs (1 : Nat) (0 : Nat) (List.length x.l), AV.v (Value.int IntKind.i64 x.c.now), AV.v (Value.int IntKind.i64 x.c.heard), AV.v (Value.int IntKind.i64
    x.c.wt), AV.v (Value.int IntKind.i64 x.c.en), AV.v (Value.int IntKind.i64 x.c.go)]), some (Blk.arr (10 : Nat) (List.length x.l) (lsF Pc.c x.l))])) (Tree.chk (cl (LeL [AV.ptr (0 : Nat) (0
    : Nat), AV.hs (2 : Nat) (0 : Nat) (List.length ol), AV.hs (3 : Nat) (0 : Nat) (List.length x.sn), AV.v (Value.int IntKind.i64 (↑i : Int)), AV.hs (4 : Nat) (0 : Nat) (List.length xs),
    AV.v (Value.int IntKind.i64 (0 : Int))] [AV.ptr (0 : Nat) (0 : Nat), AV.hs (2 : Nat) (0 : Nat) (List.length ol), AV.hs (3 : Nat) (0 : Nat) (List.length x.sn), AV.v (Value.int IntKind.i64
    (↑i : Int)), AV.hs (4 : Nat) (0 : Nat) (List.length xs), AV.v (Value.int IntKind.i64 (↑(0 : Nat) : Int))] ∧ LeH [some (Blk.row [AV.v (Value.string c'.who), AV.v (Value.int IntKind.i64
    c'.most), AV.hs (1 : Nat) (0 : Nat) (List.length l'), AV.v (Value.int IntKind.i64 c'.now), AV.v (Value.int IntKind.i64 c'.heard), AV.v (Value.int IntKind.i64 c'.wt), AV.v (Value.int
    IntKind.i64 c'.en), AV.v (Value.int IntKind.i64 c'.go)]), some (Blk.arr (10 : Nat) (List.length l') (lsF Pc.c l')), some (Blk.arr (8 : Nat) (List.length ol) (lsF Od.c ol)), some (Blk.arr
    (1 : Nat) (List.length x.sn) (lsF Sb.c x.sn)), some (Blk.arr (7 : Nat) (List.length xs) (lsF Tx.c xs))] [some (Blk.row [AV.v (Value.string c'.who), AV.v (Value.int IntKind.i64 c'.most),
    AV.hs (1 : Nat) (0 : Nat) (List.length l'), AV.v (Value.int IntKind.i64 c'.now), AV.v (Value.int IntKind.i64 c'.heard), AV.v (Value.int IntKind.i64 c'.wt), AV.v (Value.int IntKind.i64
    c'.en), AV.v (Value.int IntKind.i64 c'.go)]), some (Blk.arr (10 : Nat) (List.length l') (lsF Pc.c l')), some (Blk.arr (8 : Nat) (List.length ol) (lsF Od.c ol)), some (Blk.arr (1 : Nat)
    (List.length x.sn) (lsF Sb.c x.sn)), some (Blk.arr (7 : Nat) (List.length xs) (lsF Tx.c xs))])) (Tree.leaf (Out.mk AEx.normal [AV.ptr (0 : Nat) (0 : Nat), AV.hs (2 : Nat) (0 : Nat)
    (List.length ol), AV.hs (3 : Nat) (0 : Nat) (List.length R), AV.v (Value.int IntKind.i64 (IntKind.wrap IntKind.i64 ((↑i : Int) + (1 : Int))))] [some (Blk.row [AV.v (Value.string c'.who),
    AV.v (Value.int IntKind.i64 c'.most), AV.hs (1 : Nat) (0 : Nat) (List.length l'), AV.v (Value.int IntKind.i64 c'.now), AV.v (Value.int IntKind.i64 c'.heard), AV.v (Value.int IntKind.i64
    c'.wt), AV.v (Value.int IntKind.i64 c'.en), AV.v (Value.int IntKind.i64 c'.go)]), some (Blk.arr (10 : Nat) (List.length l') (lsF Pc.c l')), some (Blk.arr (8 : Nat) (List.length ol) (lsF
    Od.c ol)), some (Blk.arr (1 : Nat) (List.length R) (lsF Sb.c R))])))) (Tree.leaf (Out.mk (AEx.exit (7 : Nat)) [AV.ptr (0 : Nat) (0 : Nat), AV.hs (2 : Nat) (0 : Nat) (List.length ol),
    AV.hs (3 : Nat) (0 : Nat) (List.length x.sn), AV.v (Value.int IntKind.i64 (↑i : Int))] [some (Blk.row [AV.v (Value.string x.c.who), AV.v (Value.int IntKind.i64 x.c.most), AV.hs (1 : Nat)
    (0 : Nat) (List.length x.l), AV.v (Value.int IntKind.i64 x.c.now), AV.v (Value.int IntKind.i64 x.c.heard), AV.v (Value.int IntKind.i64 x.c.wt), AV.v (Value.int IntKind.i64 x.c.en), AV.v
    (Value.int IntKind.i64 x.c.go)]), some (Blk.arr (10 : Nat) (List.length x.l) (lsF Pc.c x.l)), some (Blk.arr (8 : Nat) (List.length ol) (lsF Od.c ol)), some (Blk.arr (1 : Nat)
    (List.length x.sn) (lsF Sb.c x.sn))])) := by kernel_rfl
structure pre3 (who : ByteArray) (x : X3) (i : Nat) : Prop where
  fi : i ≤ 16
  inv : Inv who x.c.now x.l
  n0 : 0 ≤ x.c.now
  n1 : x.c.now ≤ 60 + (i : Int)
  ll : x.l.length ≤ 60
  sn : x.sn.length ≤ 60
theorem loop3 {who : ByteArray} {ol : List Od} {R : X3} : ∀ y : X3 × Nat, (pre3 who y.1 y.2 ∧ it3 (16 - y.2) y.1 = R) → LoopOK Tryd.prog Γm 0 228 (lq 3) (LSpec.at lv3 [] (S3 ol y.1 y.2) (O3 ol R)) := by
  refine loop_at (S := fun y : X3 × Nat => S3 ol y.1 y.2) (pre := fun y => pre3 who y.1 y.2 ∧ it3 (16 - y.2) y.1 = R) (O := fun _ => O3 ol R) (k := 0) (fun y => 16 - y.2) fun y hy => ?_
  obtain ⟨x, i⟩ := y
  obtain ⟨hp, hr⟩ := hy
  dsimp only at hp hr ⊢
  obtain ⟨p1, p2, p3, p4, p5, p6⟩ := hp
  rcases Nat.lt_or_ge i 16 with hl | hl
  · have hgap : ∀ j, okP (x.l.getD j default) := fun j => by
      rcases Nat.lt_or_ge j x.l.length with hj | hj
      · exact (p2 j hj).gap
      · rw [List.getD_eq_getElem?_getD, List.getElem?_eq_none hj]; show (0 : Int) ≤ 0 ∧ (0 : Int) ≤ 16; omega
    have hT := ansT (c := x.c) (l := x.l) (by omega) p3 (by omega) hgap
    have hle := out_le (n := x.c.now + 1) (l := x.l) (i := x.l.length)
    have hml := marks_len (outT (x.c.now + 1) x.l x.l.length) x.sn
    have h4 := loop4 (c := { x.c with now := x.c.now + 1 }) (l := x.l.map (tk (x.c.now + 1))) (ol := ol) (i := i) (xs := outT (x.c.now + 1) x.l x.l.length) (R := (outT (x.c.now + 1) x.l x.l.length).foldl markT x.sn) (by omega) (by omega)
      (fun k hk => by
        obtain ⟨j, hj, e1, e2, e3, _⟩ := out_mem p2 (n := x.c.now + 1) (t := (outT (x.c.now + 1) x.l x.l.length).getD k default) (by rw [getD_get hk]; exact List.getElem_mem hk)
        omega) (x.sn, 0) ⟨Nat.zero_le _, rfl⟩
    refine .of (oneLoop (b := lq 4) (by kernel_rfl) h4) (r3 ol x i _ _ _ _ hT) ?_
    have e1 : IntKind.i64.wrap ((i : Int) + 1) = ((i + 1 : Nat) : Int) := wrapUpN (by omega)
    have hk : 16 - i = (16 - (i + 1)) + 1 := by omega
    rw [hk] at hr
    have hr : it3 (16 - (i + 1)) (step3 x) = R := hr
    have hq : pre3 who (step3 x) (i + 1) := ⟨hl, (inv_tick p2).1, by show 0 ≤ x.c.now + 1; omega, by show x.c.now + 1 ≤ _; omega, by show (x.l.map _).length ≤ _; rw [List.length_map]; exact p5, by show (List.foldl markT x.sn _).length ≤ _; omega⟩
    have hz : (x.l.map (tk (x.c.now + 1))).length = x.l.length := List.length_map ..
    simp only [e1]
    repeat' (first | refine wC (by first | omega | (simp only [W1, cond_true, cond_false]; first | done | omega)) ?_ | refine wT (by first | omega | (simp only [W1, cond_true, cond_false]; first | done | omega)) ?_ | refine wF (by intro _h; first | omega | (simp only [W1, cond_true, cond_false] at _h; first | done | omega)) ?_ | (refine wS ?_ ?_ <;> intro _h <;> simp only [W1, cond_true, cond_false] at _h))
    all_goals simp only [W1, W2, owesN, owesX, owesR, cond_true, cond_false]
    repeat' (first | apply And.intro | intro _hc)
    all_goals first | exact ⟨(step3 x, i + 1), LeL.refl _, LeH.refl _, ⟨hq, hr⟩, by show 16 - (i + 1) < 16 - i; omega⟩ | exact AV.le_refl _ | exact AV.le_any _ | exact OLe.refl _ | exact OLe.none _ | exact LeH.refl _ | exact LeL.refl _ | exact AV.le.bs _ | exact AV.le.sb _ | omega | contradiction
  · rw [show 16 - i = 0 by omega] at hr
    have hr : x = R := hr
    subst hr
    refine .of (L := Lno) (failOK fun _ _ _ => rfl) (r3e ol x i) ?_
    repeat' (first | refine wC (by first | omega | (simp only [W1, cond_true, cond_false]; first | done | omega)) ?_ | refine wT (by first | omega | (simp only [W1, cond_true, cond_false]; first | done | omega)) ?_ | refine wF (by intro _h; first | omega | (simp only [W1, cond_true, cond_false] at _h; first | done | omega)) ?_ | (refine wS ?_ ?_ <;> intro _h <;> simp only [W1, cond_true, cond_false] at _h))
    all_goals simp only [W1, W2, owesN, owesX, owesR, cond_true, cond_false]
    repeat' (first | apply And.intro | intro _hc)
    all_goals first | exact rfl | exact ⟨.any _, .refl _, .refl _, .any _, trivial⟩ | exact ⟨.none _, .none _, .refl _, .refl _, trivial⟩ | exact AV.le_refl _ | exact AV.le_any _ | exact OLe.refl _ | exact OLe.none _ | exact LeH.refl _ | exact LeL.refl _ | exact AV.le.bs _ | exact AV.le.sb _ | omega | contradiction
abbrev lv5 : List Nat := [8, 16, 20]
def S5 (ol : List Od) (sn : List Sb) (k : Nat) : List AV × Heap := ([.hs 0 0 ol.length, .hs 1 0 sn.length, .v (.int .i64 (k : Int))], [lsO ol, lsB sn].map some)
def O5 : Out := ⟨.exit 11, [.any, .any, .any], [none, none]⟩
theorem r5 (ol : List Od) (sn : List Sb) (k : Nat) : roundE (P := Tryd.prog) (Γ := Γm) [] Lno false 0 0 (lq 5) lv5 [] 228 (S5 ol sn k).1 (S5 ol sn k).2 =
  Tree.br (decide ((↑k : Int) < (↑(List.length ol) : Int))) (Tree.chk (decide ((0 : Int) ≤ (↑k : Int)) && decide ((↑k : Int) < (↑(List.length sn) : Int)) && (decide ((0 : Int) ≤ (↑k : Int)) &&
    decide ((↑k : Int) < (↑(List.length ol) : Int)))) (Tree.br (!(List.getD sn ((0 : Nat) + k) default).b == decide ((List.getD ol ((0 : Nat) + k) default).st = (0 : Int))) (Tree.leaf
    (Out.mk AEx.ret [AV.hs (0 : Nat) (0 : Nat) (List.length ol), AV.hs (1 : Nat) (0 : Nat) (List.length sn), AV.v (Value.int IntKind.i64 (↑k : Int))] [some (Blk.arr (8 : Nat) (List.length
    ol) (lsF Od.c ol)), some (Blk.arr (1 : Nat) (List.length sn) (lsF Sb.c sn))])) (Tree.leaf (Out.mk AEx.normal [AV.hs (0 : Nat) (0 : Nat) (List.length ol), AV.hs (1 : Nat) (0 : Nat)
    (List.length sn), AV.v (Value.int IntKind.i64 (IntKind.wrap IntKind.i64 ((↑k : Int) + (1 : Int))))] [some (Blk.arr (8 : Nat) (List.length ol) (lsF Od.c ol)), some (Blk.arr (1 : Nat)
    (List.length sn) (lsF Sb.c sn))])))) (Tree.leaf (Out.mk (AEx.exit (11 : Nat)) [AV.hs (0 : Nat) (0 : Nat) (List.length ol), AV.hs (1 : Nat) (0 : Nat) (List.length sn), AV.v (Value.int
    IntKind.i64 (↑k : Int))] [some (Blk.arr (8 : Nat) (List.length ol) (lsF Od.c ol)), some (Blk.arr (1 : Nat) (List.length sn) (lsF Sb.c sn))])) := by kernel_rfl
theorem loop5 {ol : List Od} {sn : List Sb} (ho : ol.length ≤ 100000) (hs : sn.length = ol.length) (h : ∀ k, k < ol.length → (sn.getD k default).b = decide ((ol.getD k default).st = 0)) : ∀ k : Nat, k ≤ ol.length → LoopOK Tryd.prog Γm 0 228 (lq 5) (LSpec.at lv5 [] (S5 ol sn k) O5) := by
  refine loop_at (S := S5 ol sn) (pre := fun k => k ≤ ol.length) (O := fun _ => O5) (k := 0) (fun k => ol.length - k) fun k hk => .of (noLoops (by kernel_rfl)) (r5 ol sn k) ?_
  rcases Nat.lt_or_ge k ol.length with hl | hl
  · have e1 : IntKind.i64.wrap ((k : Int) + 1) = ((k + 1 : Nat) : Int) := wrapUpN (by omega)
    have hb := h k hl
    have hbb : ∀ b : Bool, (b == b) = true := fun b => by cases b <;> rfl
    simp only [Nat.zero_add, Int.toNat_natCast, e1, hb, hbb, Bool.not_true]
    repeat' (first | refine wC (by first | omega | (simp only [W1, cond_true, cond_false]; first | done | omega)) ?_ | refine wT (by first | omega | (simp only [W1, cond_true, cond_false]; first | done | omega)) ?_ | refine wF (by intro _h; first | omega | (simp only [W1, cond_true, cond_false] at _h; first | done | omega)) ?_ | (refine wS ?_ ?_ <;> intro _h <;> simp only [W1, cond_true, cond_false] at _h))
    all_goals simp only [W1, W2, owesN, owesX, owesR, cond_true, cond_false]
    repeat' (first | apply And.intro | intro _hc)
    all_goals first | exact ⟨k + 1, LeL.refl _, LeH.refl _, hl, by omega⟩ | exact AV.le_refl _ | exact AV.le_any _ | exact OLe.refl _ | exact OLe.none _ | exact LeH.refl _ | exact LeL.refl _ | exact AV.le.bs _ | exact AV.le.sb _ | omega | contradiction
  · repeat' (first | refine wC (by first | omega | (simp only [W1, cond_true, cond_false]; first | done | omega)) ?_ | refine wT (by first | omega | (simp only [W1, cond_true, cond_false]; first | done | omega)) ?_ | refine wF (by intro _h; first | omega | (simp only [W1, cond_true, cond_false] at _h; first | done | omega)) ?_ | (refine wS ?_ ?_ <;> intro _h <;> simp only [W1, cond_true, cond_false] at _h))
    all_goals simp only [W1, W2, owesN, owesX, owesR, cond_true, cond_false]
    repeat' (first | apply And.intro | intro _hc)
    all_goals first | exact rfl | exact ⟨.any _, .any _, .any _, trivial⟩ | exact ⟨.none _, .none _, trivial⟩ | exact AV.le_refl _ | exact AV.le_any _ | exact OLe.refl _ | exact OLe.none _ | exact LeH.refl _ | exact LeL.refl _ | exact AV.le.bs _ | exact AV.le.sb _ | omega | contradiction
end Go.Eng.TA.C

namespace Go.Eng.TA.C
open Go Go.Eng Go.Eng.M Go.Lib Go.Proofs
structure J3 (who : ByteArray) (n : Int) (l0 : List Pc) (x : X3) (i : Nat) : Prop where
  now : x.c.now = n + (i : Int)
  len : x.l.length = l0.length
  sl : x.sn.length = l0.length
  inv : Inv who x.c.now x.l
  st : ∀ k, k < l0.length → (x.l.getD k default).st = (l0.getD k default).st
  due : ∀ k, k < l0.length → (n + (i : Int) < (l0.getD k default).due ∨ i = 0) → (x.l.getD k default).due = (l0.getD k default).due
  seen : ∀ k, k < l0.length → ((x.sn.getD k default).b = true ↔ (l0.getD k default).st = 0 ∧ (l0.getD k default).due ≤ n + (i : Int) ∧ 1 ≤ i)
theorem j3_step {who : ByteArray} {n : Int} {l0 : List Pc} {x : X3} {i : Nat} (h : J3 who n l0 x i) : J3 who n l0 (step3 x) (i + 1) := by
  obtain ⟨h1, h2, h3, h4, h5, h6, h7⟩ := h
  have hnow : x.c.now + 1 = n + ((i + 1 : Nat) : Int) := by omega
  refine ⟨hnow, by show (x.l.map _).length = _; rw [List.length_map, h2], by show (List.foldl markT x.sn _).length = _; rw [marks_len, h3], (inv_tick h4).1, fun k hk => ?_, fun k hk hd => ?_, fun k hk => ?_⟩
  · show ((x.l.map (tk (x.c.now + 1))).getD k default).st = _
    rw [getD_map (by omega), (tk_tx _ _).2, h5 k hk]
  · show ((x.l.map (tk (x.c.now + 1))).getD k default).due = _
    rw [getD_map (by omega)]
    have hd : n + ((i + 1 : Nat) : Int) < (l0.getD k default).due := by omega
    have e := h6 k hk (.inl (by omega))
    have hnd : due (x.c.now + 1) (x.l.getD k default) = false := by
      unfold C.due
      rw [decide_eq_false (show ¬ (x.l.getD k default).due ≤ x.c.now + 1 by omega), Bool.and_false]
    unfold tk
    rw [hnd]
    exact e
  · show ((List.foldl markT x.sn (outT (x.c.now + 1) x.l x.l.length)).getD k default).b = true ↔ _
    rw [marks_at _ _ (fun t ht => by obtain ⟨j, _, _, _, e, _⟩ := out_mem h4 ht; omega) (by omega), h7 k hk]
    have hkl : k < x.l.length := by omega
    constructor
    · rintro (⟨a1, a2, a3⟩ | ⟨t, ht, hk'⟩)
      · exact ⟨a1, by omega, by omega⟩
      · obtain ⟨j, hj, e1, e2, e3, e4⟩ := out_mem h4 ht
        have : j = k := by unfold kO at hk'; omega
        subst this
        refine ⟨by rw [← h5 j hk]; exact e2, ?_, by omega⟩
        by_cases hc : (l0.getD j default).due ≤ n + ((i + 1 : Nat) : Int)
        · exact hc
        · have := h6 j hk (.inl (by omega)); omega
    · rintro ⟨a1, a2, _⟩
      by_cases hc : (l0.getD k default).due ≤ n + (i : Int) ∧ 1 ≤ i
      · exact .inl ⟨a1, hc.1, hc.2⟩
      · have hd := h6 k hk (by omega)
        refine .inr ⟨_, out_has hkl (by rw [h5 k hk]; exact a1) (show (x.l.getD k default).due ≤ x.c.now + 1 by omega), ?_⟩
        have := (h4 k hkl).nn
        unfold kO; omega
theorem j3_all {who : ByteArray} {n : Int} {l0 : List Pc} : ∀ (k i : Nat) (x : X3), J3 who n l0 x i → J3 who n l0 (it3 k x) (i + k)
  | 0, i, x, h => h
  | k + 1, i, x, h => by
    have := j3_all k (i + 1) (step3 x) (j3_step h)
    rw [show i + (k + 1) = i + 1 + k by omega]
    exact this
theorem seen_all {who : ByteArray} {c : Cs} {l : List Pc} (h : Inv who c.now l) : (it3 16 ⟨c, l, List.replicate l.length ⟨false⟩⟩).sn.length = (l.map od).length ∧
    ∀ k, k < (l.map od).length → ((it3 16 ⟨c, l, List.replicate l.length ⟨false⟩⟩).sn.getD k default).b = decide (((l.map od).getD k default).st = 0) := by
  have h0 : J3 who c.now l ⟨c, l, List.replicate l.length ⟨false⟩⟩ 0 := ⟨by simp, rfl, List.length_replicate .., h, fun k hk => rfl, fun k hk _ => rfl, fun k hk => by
    show ((List.replicate l.length (⟨false⟩ : Sb)).getD k default).b = true ↔ _
    rw [List.getD_eq_getElem?_getD, List.getElem?_replicate, if_pos hk]
    simp⟩
  have hJ := j3_all 16 0 _ h0
  refine ⟨by rw [hJ.sl, List.length_map], fun k hk => ?_⟩
  rw [List.length_map] at hk
  rw [getD_map hk, Bool.eq_iff_iff, hJ.seen k hk, decide_eq_true_eq]
  have hd := (h k hk).due
  show _ ↔ (l.getD k default).st = 0
  constructor
  · exact fun h => h.1
  · exact fun h => ⟨h, by omega, by omega⟩
end Go.Eng.TA.C

namespace Go.Eng.TA
open Go Go.Eng Go.Proofs
noncomputable def z25 : CT Tryd.prog Γm := CT.auto true 100 3 [] 109 Tryd.f109 (bodyOf Tryd.f109) false 21 [.tmp 4] Tryd.func109 (by kernel_rfl) (by kernel_rfl) (by kernel_rfl) (by kernel_rfl)
noncomputable def z26 : CT Tryd.prog Γm := CT.auto true 100 3 [z25] 112 Tryd.f112 (bodyOf Tryd.f112) false 16 [.tmp 2] Tryd.func112 (by kernel_rfl) (by kernel_rfl) (by kernel_rfl) (by kernel_rfl)
noncomputable def z12 : CT Tryd.prog Γm := CT.auto true 100 3 [z26] 77 Tryd.f77 (bodyOf Tryd.f77) false 8 [.tmp 2] Tryd.func77 (by kernel_rfl) (by kernel_rfl) (by kernel_rfl) (by kernel_rfl)
noncomputable def z10 : CT Tryd.prog Γm := CT.auto true 100 3 [z25] 73 Tryd.f73 (bodyOf Tryd.f73) false 19 [.tmp 2] Tryd.func73 (by kernel_rfl) (by kernel_rfl) (by kernel_rfl) (by kernel_rfl)
noncomputable def z28 : CT Tryd.prog Γm := CT.auto true 100 3 [] 75 Tryd.f75 (bodyOf Tryd.f75) false 20 [.tmp 6] Tryd.func75 (by kernel_rfl) (by kernel_rfl) (by kernel_rfl) (by kernel_rfl)
noncomputable def z34 : CT Tryd.prog Γm := CT.auto true 100 3 [] 111 Tryd.f111 (bodyOf Tryd.f111) false 78 [.tmp 4] Tryd.func111 (by kernel_rfl) (by kernel_rfl) (by kernel_rfl) (by kernel_rfl)
noncomputable def z29 : CT Tryd.prog Γm := CT.auto true 100 3 [z34] 76 Tryd.f76 (bodyOf Tryd.f76) false 16 [.tmp 4] Tryd.func76 (by kernel_rfl) (by kernel_rfl) (by kernel_rfl) (by kernel_rfl)
noncomputable def z17 : CT Tryd.prog Γm := CT.auto true 100 3 [z10] 20 Tryd.f20 (bodyOf Tryd.f20) false 41 [.tmp 2] Tryd.func20 (by kernel_rfl) (by kernel_rfl) (by kernel_rfl) (by kernel_rfl)
noncomputable def z21 : CT Tryd.prog Γm := CT.auto true 100 3 [z28, z29, z12, z17] 24 Tryd.f24 (bodyOf Tryd.f24) false 30 [.tmp 2, .tmp 3] Tryd.func24 (by kernel_rfl) (by kernel_rfl) (by kernel_rfl) (by kernel_rfl)
noncomputable def z14 : CT Tryd.prog Γm := CT.auto true 100 3 [] 17 Tryd.f17 (bodyOf Tryd.f17) false 25 [.tmp 4, .tmp 5] Tryd.func17 (by kernel_rfl) (by kernel_rfl) (by kernel_rfl) (by kernel_rfl)
theorem run8 : (bodyE (P := Tryd.prog) (Γ := Γm) [z21, z14, z17] (autoL true 100 [z21, z14, z17] false 0 35 (loopBodies (bodyOf Tryd.f15)) 3) false 35 [.tmp 0] (bodyOf Tryd.f15) [] []).get = some ⟨.sb true, []⟩ := by kernel_rfl
noncomputable def z8 : CT Tryd.prog Γm := CT.fact 15 Tryd.f15 (bodyOf Tryd.f15) [z21, z14, z17] (autoL true 100 [z21, z14, z17] false 0 35 (loopBodies (bodyOf Tryd.f15)) 3) false 35 [.tmp 0] Tryd.func15 (by kernel_rfl) (by kernel_rfl) (by kernel_rfl) (by kernel_rfl) (autoL_ok 3) (.sb true) (.sb true) run8
end Go.Eng.TA

namespace Go.Eng.TA
open Go Go.Eng Go.Proofs
noncomputable def z61x : CT Tryd.prog Γm := CT.auto true 100 3 [z17] 61 Tryd.f61 (bodyOf Tryd.f61) false 21 [.tmp 4, .tmp 5] Tryd.func61 (by kernel_rfl) (by kernel_rfl) (by kernel_rfl) (by kernel_rfl)
noncomputable def z85x : CT Tryd.prog Γm := CT.auto true 100 3 [] 85 Tryd.f85 (bodyOf Tryd.f85) false 15 [.tmp 6] Tryd.func85 (by kernel_rfl) (by kernel_rfl) (by kernel_rfl) (by kernel_rfl)
noncomputable def z120x : CT Tryd.prog Γm := CT.auto true 100 3 [] 120 Tryd.f120 (bodyOf Tryd.f120) false 117 [.tmp 2, .tmp 3] Tryd.func120 (by kernel_rfl) (by kernel_rfl) (by kernel_rfl) (by kernel_rfl)
noncomputable def z110x : CT Tryd.prog Γm := CT.auto true 100 3 [z120x] 110 Tryd.f110 (bodyOf Tryd.f110) false 19 [.tmp 2, .tmp 3] Tryd.func110 (by kernel_rfl) (by kernel_rfl) (by kernel_rfl) (by kernel_rfl)
noncomputable def z22x : CT Tryd.prog Γm := CT.auto true 100 3 [z28] 22 Tryd.f22 (bodyOf Tryd.f22) false 28 [.tmp 2] Tryd.func22 (by kernel_rfl) (by kernel_rfl) (by kernel_rfl) (by kernel_rfl)
noncomputable def z32x : CT Tryd.prog Γm := CT.auto true 100 3 [z17, z85x, z22x] 32 Tryd.f32 (bodyOf Tryd.f32) false 66 [.tmp 2] Tryd.func32 (by kernel_rfl) (by kernel_rfl) (by kernel_rfl) (by kernel_rfl)
noncomputable def z62x : CT Tryd.prog Γm := CT.auto true 100 3 [z32x] 62 Tryd.f62 (bodyOf Tryd.f62) false 65 [.cell 4 40, .tmp 5] Tryd.func62 (by kernel_rfl) (by kernel_rfl) (by kernel_rfl) (by kernel_rfl)
noncomputable def z63x : CT Tryd.prog Γm := CT.auto true 100 3 [] 63 Tryd.f63 (bodyOf Tryd.f63) false 77 [.tmp 2] Tryd.func63 (by kernel_rfl) (by kernel_rfl) (by kernel_rfl) (by kernel_rfl)
noncomputable def z106x : CT Tryd.prog Γm := CT.auto true 100 3 [] 106 Tryd.f106 (bodyOf Tryd.f106) false 78 [.tmp 4] Tryd.func106 (by kernel_rfl) (by kernel_rfl) (by kernel_rfl) (by kernel_rfl)
noncomputable def z64x : CT Tryd.prog Γm := CT.auto true 100 3 [z106x] 64 Tryd.f64 (bodyOf Tryd.f64) false 48 [.tmp 4] Tryd.func64 (by kernel_rfl) (by kernel_rfl) (by kernel_rfl) (by kernel_rfl)
theorem zrun59 : (bodyE (P := Tryd.prog) (Γ := Γm) [z61x, z62x, z63x, z64x] (autoL true 100 [z61x, z62x, z63x, z64x] false 0 54 (loopBodies (bodyOf Tryd.f59)) 3) false 54 [.tmp 0] (bodyOf Tryd.f59) [] []).get = some ⟨.sb true, []⟩ := by kernel_rfl
noncomputable def z59' : CT Tryd.prog Γm := CT.fact 59 Tryd.f59 (bodyOf Tryd.f59) [z61x, z62x, z63x, z64x] (autoL true 100 [z61x, z62x, z63x, z64x] false 0 54 (loopBodies (bodyOf Tryd.f59)) 3) false 54 [.tmp 0] Tryd.func59 (by kernel_rfl) (by kernel_rfl) (by kernel_rfl) (by kernel_rfl) (autoL_ok 3) (.sb true) (.sb true) zrun59
end Go.Eng.TA

namespace Go.Eng.TA.C
open Go Go.Eng Go.Eng.M Go.Lib Go.Proofs
def A13 (y : ByteArray × List Ac) : List AV := [.v (.string y.1), slA y.2]
def goodN (acts : List Ac) : Prop := ∀ i, i < acts.length → ∀ j, -9223372036854775808 ≤ ((acts.getD i default).os.getD j default).tx.nn ∧ ((acts.getD i default).os.getD j default).tx.nn ≤ 9223372036854775807
noncomputable def L13 (who : ByteArray) (acts : List Ac) (c0 : Cs) (R : XS) (R3 : X3) : Nat → LSpec
  | 0 => LSpec.at lv0 nl0 (S0 who acts ⟨c0, [], []⟩ 0) (O0 R)
  | 3 => LSpec.at lv3 [] (S3 (R.l.map od) ⟨R.c, R.l, List.replicate R.l.length ⟨false⟩⟩ 0) (O3 (R.l.map od) R3)
  | 5 => LSpec.at lv5 [] (S5 (R.l.map od) R3.sn 0) O5
  | _ => Lno 0
def c0 (who : ByteArray) : Cs := ⟨who, 8, 0, 0, 0, 0, 0⟩
theorem law13a (who : ByteArray) (acts : List Ac) (b : Bool) (hF : Answers Tryd.prog Γm 60 [slA acts] [] (.sb b) [] []) : bodyE (P := Tryd.prog) (Γ := Γm) [z59', CT.at 60 hF] Lno false 228 [.tmp 4] (bodyOf Tryd.f13) (A13 (who, acts)) [] =
  Tree.chk (bif decide ((1000 : Int) < (↑(ByteArray.size who) : Int)) then true else cl (LeL [AV.sl (9 : Nat) (List.length (who, acts).snd) (lsF Ac.c (who, acts).snd)] [AV.sl (9 : Nat)
    (List.length acts) (lsF Ac.c acts)] ∧ LeH [] [])) (Tree.br (bif decide ((1000 : Int) < (↑(ByteArray.size who) : Int)) then true else b) (Tree.leaf (Ans.mk (AV.v (Value.bool true)) []))
    Tree.fail) := by kernel_rfl
theorem law13n (who : ByteArray) (acts : List Ac) (hF : Answers Tryd.prog Γm 60 [slA acts] [] (.sb false) [] []) (hN : Answers Tryd.prog Γm 61 [.v (.string who), .v (.int .i64 8)] [] (.tup [.v (.pointer none), .v (.int .i64 20)]) [] []) : bodyE (P := Tryd.prog) (Γ := Γm) [z59', CT.at 60 hF, CT.at 61 hN] Lno false 228 [.tmp 4] (bodyOf Tryd.f13) (A13 (who, acts)) [] =
  Tree.chk (bif decide ((1000 : Int) < (↑(ByteArray.size who) : Int)) then true else cl (LeL [AV.sl (9 : Nat) (List.length (who, acts).snd) (lsF Ac.c (who, acts).snd)] [AV.sl (9 : Nat)
    (List.length acts) (lsF Ac.c acts)] ∧ LeH [] [])) (Tree.br (bif decide ((1000 : Int) < (↑(ByteArray.size who) : Int)) then true else false) (Tree.leaf (Ans.mk (AV.v (Value.bool true))
    [])) (Tree.chk (cl (LeL [AV.v (Value.string who), AV.v (Value.int IntKind.i64 (8 : Int))] [AV.v (Value.string who), AV.v (Value.int IntKind.i64 (8 : Int))] ∧ LeH [] [])) (Tree.br true
    (Tree.leaf (Ans.mk (AV.v (Value.bool true)) [])) Tree.fail))) := by kernel_rfl
theorem law13 (who : ByteArray) (acts : List Ac) (R : XS) (R3 : X3) (hF : Answers Tryd.prog Γm 60 [slA acts] [] (.sb false) [] []) (hN : Answers Tryd.prog Γm 61 [.v (.string who), .v (.int .i64 8)] [] (.tup [.ptr 0 0, .v (.int .i64 0)]) [] [newC who 8]) : bodyE (P := Tryd.prog) (Γ := Γm) [z59', CT.at 60 hF, CT.at 61 hN] (L13 who acts (c0 who) R R3) false 228 [.tmp 4] (bodyOf Tryd.f13) (A13 (who, acts)) [] =
  Tree.chk (bif decide ((1000 : Int) < (↑(ByteArray.size who) : Int)) then true else cl (LeL [AV.sl (9 : Nat) (List.length (who, acts).snd) (lsF Ac.c (who, acts).snd)] [AV.sl (9 : Nat)
    (List.length acts) (lsF Ac.c acts)] ∧ LeH [] [])) (Tree.br (bif decide ((1000 : Int) < (↑(ByteArray.size who) : Int)) then true else false) (Tree.leaf (Ans.mk (AV.v (Value.bool true))
    [])) (Tree.chk (cl (LeL [AV.v (Value.string who), AV.v (Value.int IntKind.i64 (8 : Int))] [AV.v (Value.string who), AV.v (Value.int IntKind.i64 (8 : Int))] ∧ LeH [] [])) (Tree.br false
    (Tree.leaf (Ans.mk (AV.v (Value.bool true)) [])) (Tree.chk (cl (LeL [AV.ptr (0 : Nat) (0 : Nat), AV.hs (2 : Nat) (0 : Nat) (0 : Nat), AV.hs (3 : Nat) (0 : Nat) (0 : Nat), AV.v (Value.int
    IntKind.i64 (0 : Int)), AV.v (Value.string who), AV.sl (9 : Nat) (List.length (who, acts).snd) (lsF Ac.c (who, acts).snd)] [AV.ptr (0 : Nat) (0 : Nat), AV.hs (2 : Nat) (0 : Nat) (0 :
    Nat), AV.hs (3 : Nat) (0 : Nat) (0 : Nat), AV.v (Value.int IntKind.i64 (↑(0 : Nat) : Int)), AV.v (Value.string who), AV.sl (9 : Nat) (List.length acts) (lsF Ac.c acts)] ∧ LeH [some
    (Blk.row [AV.v (Value.string who), AV.v (Value.int IntKind.i64 (8 : Int)), AV.hs (1 : Nat) (0 : Nat) (0 : Nat), AV.v (Value.int IntKind.i64 (0 : Int)), AV.v (Value.int IntKind.i64 (0 :
    Int)), AV.v (Value.int IntKind.i64 (0 : Int)), AV.v (Value.int IntKind.i64 (0 : Int)), AV.v (Value.int IntKind.i64 (0 : Int))]), some (Blk.arr (10 : Nat) (0 : Nat) fun x => [AV.v
    (Value.int IntKind.i64 (0 : Int)), AV.v (Value.string (ByteArray.mk #[])), AV.v (Value.string (ByteArray.mk #[])), AV.v (Value.string (ByteArray.mk #[])), AV.v (Value.string
    (ByteArray.mk #[])), AV.v (Value.int IntKind.i64 (0 : Int)), AV.v (Value.int IntKind.i64 (0 : Int)), AV.v (Value.int IntKind.i64 (0 : Int)), AV.v (Value.int IntKind.i64 (0 : Int)), AV.v
    (Value.int IntKind.i64 (0 : Int))]), some (Blk.arr (10 : Nat) (0 : Nat) fun x => [AV.v (Value.int IntKind.i64 (0 : Int)), AV.v (Value.int IntKind.i64 (0 : Int)), AV.v (Value.int
    IntKind.i64 (0 : Int)), AV.v (Value.string (ByteArray.mk #[])), AV.v (Value.string (ByteArray.mk #[])), AV.v (Value.string (ByteArray.mk #[])), AV.v (Value.string (ByteArray.mk #[])),
    AV.v (Value.int IntKind.i64 (0 : Int)), AV.v (Value.int IntKind.i64 (0 : Int)), AV.v (Value.int IntKind.i64 (0 : Int))]), some (Blk.arr (8 : Nat) (0 : Nat) fun x => [AV.v (Value.int
    IntKind.i64 (0 : Int)), AV.v (Value.string (ByteArray.mk #[])), AV.v (Value.string (ByteArray.mk #[])), AV.v (Value.string (ByteArray.mk #[])), AV.v (Value.string (ByteArray.mk #[])),
    AV.v (Value.int IntKind.i64 (0 : Int)), AV.v (Value.int IntKind.i64 (0 : Int)), AV.v (Value.int IntKind.i64 (0 : Int))])] [some (Blk.row [AV.v (Value.string who), AV.v (Value.int
    IntKind.i64 (8 : Int)), AV.hs (1 : Nat) (0 : Nat) (0 : Nat), AV.v (Value.int IntKind.i64 (0 : Int)), AV.v (Value.int IntKind.i64 (0 : Int)), AV.v (Value.int IntKind.i64 (0 : Int)), AV.v
    (Value.int IntKind.i64 (0 : Int)), AV.v (Value.int IntKind.i64 (0 : Int))]), some (Blk.arr (10 : Nat) (0 : Nat) (lsF Pc.c (XS.mk (c0 who) [] []).l)), some (Blk.arr (10 : Nat) (0 : Nat)
    (lsF Oc.c (XS.mk (c0 who) [] []).os)), some (Blk.arr (8 : Nat) (0 : Nat) (lsF Od.c (List.map od (XS.mk (c0 who) [] []).l)))])) (Tree.chk (decide ((0 : Int) ≤ (↑(List.length (List.map od
    R.l)) : Int)) && decide ((↑(List.length (List.map od R.l)) : Int) ≤ (↑(List.length (List.map od R.l)) : Int)) && roomOk (1 : Nat) (List.length (List.map od R.l))) (Tree.chk (cl (LeL
    [AV.ptr (0 : Nat) (0 : Nat), AV.hs (2 : Nat) (0 : Nat) (List.length (List.map od R.l)), AV.hs (3 : Nat) (0 : Nat) (List.length (List.map od R.l)), AV.v (Value.int IntKind.i64 (0 : Int))]
    [AV.ptr (0 : Nat) (0 : Nat), AV.hs (2 : Nat) (0 : Nat) (List.length (List.map od R.l)), AV.hs (3 : Nat) (0 : Nat) (List.length (X3.mk R.c R.l (List.replicate (List.length R.l) (Sb.mk
    false))).sn), AV.v (Value.int IntKind.i64 (↑(0 : Nat) : Int))] ∧ LeH [some (Blk.row [AV.v (Value.string R.c.who), AV.v (Value.int IntKind.i64 R.c.most), AV.hs (1 : Nat) (0 : Nat)
    (List.length R.l), AV.v (Value.int IntKind.i64 R.c.now), AV.v (Value.int IntKind.i64 R.c.heard), AV.v (Value.int IntKind.i64 R.c.wt), AV.v (Value.int IntKind.i64 R.c.en), AV.v (Value.int
    IntKind.i64 R.c.go)]), some (Blk.arr (10 : Nat) (List.length R.l) (lsF Pc.c R.l)), some (Blk.arr (8 : Nat) (List.length (List.map od R.l)) (lsF Od.c (List.map od R.l))), some (Blk.arr (1
    : Nat) (List.length (List.map od R.l)) fun x => [AV.v (Value.bool false)])] [some (Blk.row [AV.v (Value.string R.c.who), AV.v (Value.int IntKind.i64 R.c.most), AV.hs (1 : Nat) (0 : Nat)
    (List.length (X3.mk R.c R.l (List.replicate (List.length R.l) (Sb.mk false))).l), AV.v (Value.int IntKind.i64 R.c.now), AV.v (Value.int IntKind.i64 R.c.heard), AV.v (Value.int
    IntKind.i64 R.c.wt), AV.v (Value.int IntKind.i64 R.c.en), AV.v (Value.int IntKind.i64 R.c.go)]), some (Blk.arr (10 : Nat) (List.length (X3.mk R.c R.l (List.replicate (List.length R.l)
    (Sb.mk false))).l) (lsF Pc.c (X3.mk R.c R.l (List.replicate (List.length R.l) (Sb.mk false))).l)), some (Blk.arr (8 : Nat) (List.length (List.map od R.l)) (lsF Od.c (List.map od R.l))),
    some (Blk.arr (1 : Nat) (List.length (X3.mk R.c R.l (List.replicate (List.length R.l) (Sb.mk false))).sn) (lsF Sb.c (X3.mk R.c R.l (List.replicate (List.length R.l) (Sb.mk
    false))).sn))])) (Tree.chk (cl (LeL [AV.hs (0 : Nat) (0 : Nat) (List.length (List.map od R.l)), AV.hs (1 : Nat) (0 : Nat) (List.length R3.sn), AV.v (Value.int IntKind.i64 (0 : Int))]
    [AV.hs (0 : Nat) (0 : Nat) (List.length (List.map od R.l)), AV.hs (1 : Nat) (0 : Nat) (List.length R3.sn), AV.v (Value.int IntKind.i64 (↑(0 : Nat) : Int))] ∧ LeH [some (Blk.arr (8 : Nat)
    (List.length (List.map od R.l)) (lsF Od.c (List.map od R.l))), some (Blk.arr (1 : Nat) (List.length R3.sn) (lsF Sb.c R3.sn))] [some (Blk.arr (8 : Nat) (List.length (List.map od R.l))
    (lsF Od.c (List.map od R.l))), some (Blk.arr (1 : Nat) (List.length R3.sn) (lsF Sb.c R3.sn))])) (Tree.leaf (Ans.mk (AV.v (Value.bool true)) []))))))))) := by kernel_rfl
theorem pre_step {who : ByteArray} {acts : List Ac} {x : XS} {i : Nat} (hp : pre0 who acts x i) (ha : okActs who acts) (hi : i < acts.length) : pre0 who acts (stepA x (acts.getD i default)) (i + 1) := by
  obtain ⟨p1, p2, p3, p4, p5, p6, p7, p8, p9⟩ := hp
  have ho := ha.o i hi
  unfold stepA
  by_cases k0 : (acts.getD i default).k = 0
  · rw [if_pos k0]
    by_cases hg : okG x.c x.l (acts.getD i default).tx = true
    · rw [if_pos hg]
      have hz : (addL x.c x.l (acts.getD i default).tx).length = x.l.length + 1 := by unfold addL; rw [List.length_append]; rfl
      exact ⟨hi, p2, (inv_give p2 p3).1, p4, by show x.c.now ≤ _; omega, by show (addL _ _ _).length ≤ _; omega, by show x.os.length ≤ _; omega, p8, p9⟩
    · rw [if_neg hg]; exact ⟨hi, p2, p3, p4, by omega, by omega, by omega, p8, p9⟩
  · rw [if_neg k0]
    by_cases k1 : (acts.getD i default).k = 1
    · rw [if_pos k1]
      exact ⟨hi, p2, (inv_tick p3).1, by show 0 ≤ x.c.now + 1; omega, by show x.c.now + 1 ≤ _; omega, by show (x.l.map _).length ≤ _; rw [List.length_map]; omega, by show x.os.length ≤ _; omega, p8, p9⟩
    · rw [if_neg k1]
      by_cases k2 : (acts.getD i default).k = 2
      · rw [if_pos k2]
        have hz : (x.os ++ (acts.getD i default).os).length = x.os.length + (acts.getD i default).os.length := List.length_append
        have hnn : ∀ j, -9223372036854775808 ≤ ((x.os ++ (acts.getD i default).os).getD j default).tx.nn ∧ ((x.os ++ (acts.getD i default).os).getD j default).tx.nn ≤ 9223372036854775807 := fun j => by
          rcases Nat.lt_or_ge j x.os.length with hj | hj
          · rw [getD_app hj]; exact p9 j
          · rw [getD_app' hj]; exact ha.nn i hi _
        obtain ⟨v1, v2, v3, v4, v5, v6, v7⟩ := inv_hear (os := x.os ++ (acts.getD i default).os) p3
        exact ⟨hi, v4.trans p2, by show Inv who (hearF _ _ _).c.now _; rw [v3]; exact v1, by show 0 ≤ (hearF _ _ _).c.now; rw [v3]; exact p4, by show (hearF _ _ _).c.now ≤ _; rw [v3]; omega, by show (hearF _ _ _).l.length ≤ _; rw [v6]; omega, by show (x.os ++ _).length ≤ _; omega, v7 p8, hnn⟩
      · rw [if_neg k2]; exact ⟨hi, p2, p3, p4, by omega, by omega, by omega, p8, p9⟩
theorem fin_ok {who : ByteArray} {acts : List Ac} (ha : okActs who acts) : ∀ (n : Nat) (x : XS) (i : Nat), n = acts.length - i → pre0 who acts x i → pre0 who acts (fin acts x i) acts.length
  | 0, x, i, hn, hp => by
    have h := hp.fi
    rw [fin_end (by omega)]
    have : i = acts.length := by omega
    rw [this] at hp; exact hp
  | n + 1, x, i, hn, hp => by
    have hi : i < acts.length := by omega
    rw [fin_next hi]
    exact fin_ok ha n _ (i + 1) (by omega) (pre_step hp ha hi)
theorem gr_sz {x : Tx} (g : grT x = false) : x.fr.size ≤ 1000 ∧ x.to.size ≤ 1000 ∧ x.ky.size ≤ 1000 ∧ x.vl.size ≤ 1000 := by
  unfold grT at g
  have := of_decide_eq_false g
  omega
theorem okActs_of {who : ByteArray} {acts : List Ac} (hw : who.size ≤ 1000) (hf : farB acts = false) (hg : goodN acts) : okActs who acts := by
  unfold farB at hf
  rw [Bool.or_eq_false_iff] at hf
  obtain ⟨h1, h2⟩ := hf
  have h1 := of_decide_eq_false h1
  have hA : ∀ i, i < acts.length → grA (acts.getD i default) = false := fun i hi => by
    rw [getD_get hi]
    have := List.any_eq_false.1 h2 acts[i] (List.getElem_mem hi)
    exact Bool.eq_false_iff.2 this
  refine ⟨by omega, by omega, fun i hi => ?_, fun i hi => ?_, hg⟩
  · have h := hA i hi
    unfold grA at h
    rw [Bool.or_eq_false_iff] at h
    obtain ⟨s1, s2, s3, s4⟩ := gr_sz h.1
    exact ⟨by omega, by omega, by omega, by omega⟩
  · have h := hA i hi
    unfold grA at h
    rw [Bool.or_eq_false_iff, Bool.or_eq_false_iff] at h
    have := of_decide_eq_false h.2.1
    omega
theorem room1 {n : Nat} (h : n ≤ 1000000) : roomOk 1 n = true := by
  unfold roomOk
  exact decide_eq_true (by omega)
theorem sixLoops {P : Program} {Γ : Nat → AV} {m N : Nat} {c a0 a1 a2 a3 a4 a5 : Code} {L : Nat → LSpec} (h : loopBodies c = [a0, a1, a2, a3, a4, a5]) (h0 : LoopOK P Γ m N a0 (L 0)) (h1 : LoopOK P Γ m N a1 (L 1)) (h2 : LoopOK P Γ m N a2 (L 2)) (h3 : LoopOK P Γ m N a3 (L 3)) (h4 : LoopOK P Γ m N a4 (L 4)) (h5 : LoopOK P Γ m N a5 (L 5)) : ∀ (j : Nat) (b : Code), (loopBodies c)[j]? = some b → LoopOK P Γ m N b (L j) := by
  intro j b hj
  rw [h] at hj
  match j, hj with
  | 0, hj => simp at hj; subst hj; exact h0
  | 1, hj => simp at hj; subst hj; exact h1
  | 2, hj => simp at hj; subst hj; exact h2
  | 3, hj => simp at hj; subst hj; exact h3
  | 4, hj => simp at hj; subst hj; exact h4
  | 5, hj => simp at hj; subst hj; exact h5
  | j + 6, hj => simp at hj
theorem lawCO (y : ByteArray × List Ac) (hg : goodN y.2) : LawOK Tryd.prog Γm 228 [.tmp 4] (bodyOf Tryd.f13) (A13 y) := by
  obtain ⟨who, acts⟩ := y
  have hF := ansF (l := acts)
  by_cases hw : 1000 < who.size
  · refine .mk' (T := [z59', CT.at 60 hF]) (ip := false) (L := Lno) (failOK fun _ _ _ => rfl) (Right.of (law13a who acts (farB acts) hF) ?_)
    have hq : decide ((1000 : Int) < (who.size : Int)) = true := decide_eq_true (by omega)
    simp only [hq, cond_true]
    repeat' (first | refine wC (by first | omega | (simp only [W1, cond_true, cond_false]; first | done | omega)) ?_ | refine wT (by first | omega | (simp only [W1, cond_true, cond_false]; first | done | omega)) ?_ | refine wF (by intro _h; first | omega | (simp only [W1, cond_true, cond_false] at _h; first | done | omega)) ?_ | (refine wS ?_ ?_ <;> intro _h <;> simp only [W1, cond_true, cond_false] at _h))
    all_goals simp only [W1, W2, owesN, owesX, owesR, cond_true, cond_false]
    repeat' (first | apply And.intro | intro _hc)
    all_goals first | exact AV.le_refl _ | exact AV.le_any _ | exact OLe.refl _ | exact OLe.none _ | exact LeH.refl _ | exact LeL.refl _ | exact AV.le.bs _ | exact AV.le.sb _ | omega | contradiction
  · have hq : decide ((1000 : Int) < (who.size : Int)) = false := decide_eq_false (by omega)
    cases hf : farB acts with
    | true =>
      rw [hf] at hF
      refine .mk' (T := [z59', CT.at 60 hF]) (ip := false) (L := Lno) (failOK fun _ _ _ => rfl) (Right.of (law13a who acts true hF) ?_)
      simp only [hq, cond_false]
      repeat' (first | refine wC (by first | omega | (simp only [W1, cond_true, cond_false]; first | done | omega)) ?_ | refine wT (by first | omega | (simp only [W1, cond_true, cond_false]; first | done | omega)) ?_ | refine wF (by intro _h; first | omega | (simp only [W1, cond_true, cond_false] at _h; first | done | omega)) ?_ | (refine wS ?_ ?_ <;> intro _h <;> simp only [W1, cond_true, cond_false] at _h))
      all_goals simp only [W1, W2, owesN, owesX, owesR, cond_true, cond_false]
      repeat' (first | apply And.intro | intro _hc)
      all_goals first | exact AV.le_refl _ | exact AV.le_any _ | exact OLe.refl _ | exact OLe.none _ | exact LeH.refl _ | exact LeL.refl _ | exact AV.le.bs _ | exact AV.le.sb _ | omega | contradiction
    | false =>
      rw [hf] at hF
      have ha := okActs_of (who := who) (by omega) hf hg
      cases hb : nameB who with
      | false =>
        have hN := ansN0 (who := who) (most := 8) (by omega) hb
        refine .mk' (T := [z59', CT.at 60 hF, CT.at 61 hN]) (ip := false) (L := Lno) (failOK fun _ _ _ => rfl) (Right.of (law13n who acts hF hN) ?_)
        simp only [hq, cond_false]
        repeat' (first | refine wC (by first | omega | (simp only [W1, cond_true, cond_false]; first | done | omega)) ?_ | refine wT (by first | omega | (simp only [W1, cond_true, cond_false]; first | done | omega)) ?_ | refine wF (by intro _h; first | omega | (simp only [W1, cond_true, cond_false] at _h; first | done | omega)) ?_ | (refine wS ?_ ?_ <;> intro _h <;> simp only [W1, cond_true, cond_false] at _h))
        all_goals simp only [W1, W2, owesN, owesX, owesR, cond_true, cond_false]
        repeat' (first | apply And.intro | intro _hc)
        all_goals first | exact AV.le_refl _ | exact AV.le_any _ | exact OLe.refl _ | exact OLe.none _ | exact LeH.refl _ | exact LeL.refl _ | exact AV.le.bs _ | exact AV.le.sb _ | omega | contradiction
      | true =>
        have hN := ansN (who := who) (most := 8) (by omega) hb (by omega) (by omega)
        have hp0 : pre0 who acts ⟨c0 who, [], []⟩ 0 := ⟨Nat.zero_le _, rfl, fun j hj => absurd hj (Nat.not_lt_zero j), by show (0 : Int) ≤ 0; omega, by show (0 : Int) ≤ 0; omega, Nat.zero_le _, Nat.zero_le _, by show (0 : Int) ≤ 0; omega, fun j => by
          show _ ≤ (0 : Int) ∧ (0 : Int) ≤ _; omega⟩
        have hl0 := loop0 ha (⟨c0 who, [], []⟩, 0) hp0
        obtain ⟨q1, q2, q3, q4, q5, q6, q7, q8, q9⟩ := fin_ok ha acts.length ⟨c0 who, [], []⟩ 0 (by omega) hp0
        have hn := ha.n
        obtain ⟨s1, s2⟩ := seen_all q3
        dsimp only at hl0
        generalize hR : fin acts ⟨c0 who, [], []⟩ 0 = R at *
        have hl3 := loop3 (who := who) (ol := R.l.map od) (R := it3 16 ⟨R.c, R.l, List.replicate R.l.length ⟨false⟩⟩) (⟨R.c, R.l, List.replicate R.l.length ⟨false⟩⟩, 0) ⟨⟨by show 0 ≤ 16; omega, q3, q4, by show R.c.now ≤ 60 + ((0 : Nat) : Int); omega, by show R.l.length ≤ 60; omega, by show (List.replicate _ _).length ≤ 60; rw [List.length_replicate]; omega⟩, rfl⟩
        have hl5 := loop5 (ol := R.l.map od) (sn := (it3 16 ⟨R.c, R.l, List.replicate R.l.length ⟨false⟩⟩).sn) (by rw [List.length_map]; omega) s1 s2 0 (Nat.zero_le _)
        refine .mk' (T := [z59', CT.at 60 hF, CT.at 61 hN]) (ip := false) (L := L13 who acts (c0 who) R (it3 16 ⟨R.c, R.l, List.replicate R.l.length ⟨false⟩⟩)) (sixLoops (a0 := lq 0) (a1 := lq 1) (a2 := lq 2) (a3 := lq 3) (a4 := lq 4) (a5 := lq 5) (by kernel_rfl) hl0 fail_ok fail_ok hl3 fail_ok hl5) (Right.of (law13 who acts R _ hF hN) ?_)
        have hr : roomOk 1 (R.l.map od).length = true := room1 (by rw [List.length_map]; omega)
        have hrl : (List.replicate R.l.length (⟨false⟩ : Sb)).length = (R.l.map od).length := by rw [List.length_replicate, List.length_map]
        generalize it3 16 ⟨R.c, R.l, List.replicate R.l.length ⟨false⟩⟩ = R3 at *
        have hS : OLe (some (.arr 1 (R.l.map od).length fun _ => [AV.v (Value.bool false)])) (some (.arr 1 (List.replicate R.l.length (⟨false⟩ : Sb)).length (lsF Sb.c (List.replicate R.l.length ⟨false⟩)))) := by
          rw [hrl]
          exact .some (.arr (fun e he => by
            rw [lsF_at, List.getD_eq_getElem?_getD, List.getElem?_replicate]
            rw [List.length_map] at he
            rw [if_pos he]
            exact ⟨.bs _, trivial⟩) (fun e => rfl))
        have h0 : ∀ {sz : Nat} {f g : Nat → List AV}, (∀ e, (g e).length = sz) → (∀ e, (f e).length = sz) → OLe (some (.arr sz 0 f)) (some (.arr sz 0 g)) := fun h1 h2 => .some (.arr (fun e he => absurd he (Nat.not_lt_zero e)) h1)
        have hx1 : OLe (some (.arr 10 0 fun _ => [AV.v (Value.int IntKind.i64 0), AV.v (Value.string ⟨#[]⟩), AV.v (Value.string ⟨#[]⟩), AV.v (Value.string ⟨#[]⟩), AV.v (Value.string ⟨#[]⟩), AV.v (Value.int IntKind.i64 0), AV.v (Value.int IntKind.i64 0), AV.v (Value.int IntKind.i64 0), AV.v (Value.int IntKind.i64 0), AV.v (Value.int IntKind.i64 0)])) (some (.arr 10 0 (lsF Pc.c []))) := h0 (fun e => rfl) (fun e => rfl)
        have hx2 : OLe (some (.arr 10 0 fun _ => [AV.v (Value.int IntKind.i64 0), AV.v (Value.int IntKind.i64 0), AV.v (Value.int IntKind.i64 0), AV.v (Value.string ⟨#[]⟩), AV.v (Value.string ⟨#[]⟩), AV.v (Value.string ⟨#[]⟩), AV.v (Value.string ⟨#[]⟩), AV.v (Value.int IntKind.i64 0), AV.v (Value.int IntKind.i64 0), AV.v (Value.int IntKind.i64 0)])) (some (.arr 10 0 (lsF Oc.c []))) := h0 (fun e => rfl) (fun e => rfl)
        simp only [hq, cond_false]
        refine wC (cl_iff.2 ⟨LeL.refl _, trivial⟩) (wF (by decide) (wC (cl_iff.2 ⟨LeL.refl _, trivial⟩) (wF (by decide) (wC (cl_iff.2 ⟨LeL.refl _, ⟨.refl _, hx1, hx2, hOd, trivial⟩⟩) (wC ?_ (wC (cl_iff.2 ⟨?_, ?_⟩) (wC (cl_iff.2 ⟨LeL.refl _, LeH.refl _⟩) ⟨.refl _, trivial⟩)))))))
        · rw [hr, decide_eq_true (show (0 : Int) ≤ ((R.l.map od).length : Int) by omega), decide_eq_true (Int.le_refl _)]; rfl
        · exact ⟨.refl _, .refl _, by show AV.le (.hs 3 0 _) (.hs 3 0 (List.replicate R.l.length (⟨false⟩ : Sb)).length); rw [hrl]; exact .refl _, .refl _, trivial⟩
        · exact ⟨.refl _, .refl _, .refl _, hS, trivial⟩
noncomputable def c13L : CT Tryd.prog Γm := CT.lawE A13 (fun y => goodN y.2) 13 Tryd.f13 (bodyOf Tryd.f13) 228 [.tmp 4] Tryd.func13 (by kernel_rfl) (by kernel_rfl) (by kernel_rfl) (by kernel_rfl) (fun _ _ => by simp [A13]) (fun y h => lawCO y h)
end Go.Eng.TA.C

namespace Go.Eng.TA.C
open Go Go.Eng Go.Eng.M Go.Lib Go.Proofs Go.ChangeShapes
section
variable {H : Type} {enc : TypeId × Value → H} {w : World} {base : Nat} {sp : Nat → Bool} {held : Bool}
def nnOk (n : Int) : Prop := -9223372036854775808 ≤ n ∧ n ≤ 9223372036854775807
theorem oc_nn {a : Oc} (h : GoodVs Oc.ks a.cells) : nnOk a.tx.nn := by
  obtain ⟨n, h1, h2⟩ := h.2.2.2.2.2.2.2.2.1
  cases h1
  have := bounds_i64 h2
  exact ⟨this.1, this.2⟩
theorem open_ocs {fuel : Nat} {cs : List Value} {x : DataW H × List MemPlace} (h : DataW.trod enc Tryd.prog w base sp held fuel 89 cs = some x) :
    ∃ (v : Value) (l : List Oc), cs = [v] ∧ V0 (σof w) (.sl 10 l.length (lsF Oc.c l)) v ∧ v.oneCell' = true ∧ ∀ i, i < l.length → nnOk (l.getD i default).tx.nn := by
  obtain ⟨v, l, h1, h2, h3, h4⟩ := trod_sl (enc := enc) (P := Tryd.prog) Oc.c (sz := 10) (fun a cs => cs = Oc.cells a ∧ GoodVs Oc.ks cs) (e := 107) (by decide) (by kernel_rfl) rfl (fun _ => rfl)
    (fun fuel cs x hx => by
      have hg := trod_good 9 fuel (ks := Oc.ks) hx (by kernel_rfl)
      obtain ⟨a, ha⟩ := Oc.dec cs hg
      exact ⟨a, ha, hg⟩)
    (fun a cs h j x y => flatE_V (cells := Oc.cells) (fun _ => rfl) a cs h j x y) Tryd.underlying89 h
  refine ⟨v, l, h1, h2, h3, fun i hi => ?_⟩
  obtain ⟨vs, rfl, hg⟩ := h4 i hi
  exact oc_nn hg
def acE (w : World) (a : Ac) (cs : List Value) : Prop := ∃ v, cs = [.int .i64 a.k, .int .i64 a.tx.k, .string a.tx.fr, .string a.tx.to, .string a.tx.ky, .string a.tx.vl, .int .i64 a.tx.am, .int .i64 a.tx.nn, v] ∧ V0 (σof w) (.sl 10 a.os.length (lsF Oc.c a.os)) v ∧ v.oneCell' = true ∧ ∀ i, i < a.os.length → nnOk (a.os.getD i default).tx.nn
theorem open_ac {fuel : Nat} {cs : List Value} {x : DataW H × List MemPlace} (h : DataW.trod enc Tryd.prog w base sp held fuel 92 cs = some x) : ∃ a, acE w a cs := by
  obtain ⟨p0, p1, p2, fu, y0, y1, y2, rfl, h0, h1, h2⟩ := trod_three (n0 := 1) (n1 := 7) (n2 := 1) Tryd.underlying92 rfl rfl rfl rfl (by kernel_rfl) (by kernel_rfl) (by kernel_rfl) (by kernel_rfl) h
  have g0 := trod_good 9 fu (ks := [.int .i64]) h0 (by kernel_rfl)
  have g1 := trod_good 9 fu (ks := Tx.ks) h1 (by kernel_rfl)
  obtain ⟨_, _, rfl, ⟨a0, rfl, _⟩, k0⟩ := g0.cons
  obtain rfl := k0.nil
  obtain ⟨t, rfl⟩ := Tx.dec p1 g1
  obtain ⟨v, l, rfl, hv, ho, hn⟩ := open_ocs h2
  exact ⟨⟨a0, t, l⟩, v, rfl, hv, ho, hn⟩
theorem acE_V (w : World) (a : Ac) (cs : List Value) (h : acE w a cs) (j : Nat) (x : AV) (y : Value) (hx : (Ac.c a)[j]? = some x) (hy : cs[j]? = some y) : V0 (σof w) x y ∧ y.oneCell' = true := by
  obtain ⟨v, rfl, hv, ho, _⟩ := h
  match j, hx, hy with
  | 0, hx, hy => cases hx; cases hy; exact ⟨.v _, rfl⟩
  | 1, hx, hy => cases hx; cases hy; exact ⟨.v _, rfl⟩
  | 2, hx, hy => cases hx; cases hy; exact ⟨.v _, rfl⟩
  | 3, hx, hy => cases hx; cases hy; exact ⟨.v _, rfl⟩
  | 4, hx, hy => cases hx; cases hy; exact ⟨.v _, rfl⟩
  | 5, hx, hy => cases hx; cases hy; exact ⟨.v _, rfl⟩
  | 6, hx, hy => cases hx; cases hy; exact ⟨.v _, rfl⟩
  | 7, hx, hy => cases hx; cases hy; exact ⟨.v _, rfl⟩
  | 8, hx, hy => cases hx; cases hy; exact ⟨hv, ho⟩
theorem slice_ok {P : Program} {t e : TypeId} {r : Reach} {b0 : Nat} {v : Value} (ht : P.underlying t = some (.slice e)) (hval : Value.okWide P w r b0 t v) : ∃ a n c, v = .slice a n c := by
  unfold Value.okWide at hval
  rw [ht] at hval
  simp only at hval
  unfold Cell.okWide at hval
  rw [ht] at hval
  unfold Cell.ok at hval
  rw [ht] at hval
  cases v with
  | slice a len cap => exact ⟨_, _, _, rfl⟩
  | _ => exact hval.elim
set_option maxRecDepth 100000 in
theorem open_acs {v : Value} {d : DataW H} {ps : List MemPlace} {r : Reach} {b0 : Nat} (hval : Value.okWide Tryd.prog w r b0 84 v) (h : DataW.Trod enc Tryd.prog w base sp held 84 v d ps) : ∃ l : List Ac, V0 (σof w) (.sl 9 l.length (lsF Ac.c l)) v ∧ goodN l := by
  obtain ⟨fuel, h⟩ := h
  obtain ⟨v', l, h1, h2, _, h4⟩ := trod_sl (enc := enc) (P := Tryd.prog) Ac.c (sz := 9) (acE w) (e := 92) (by decide) (by kernel_rfl) rfl (fun _ => rfl)
    (fun fuel cs x hx => open_ac hx) (fun a cs h j x y => acE_V w a cs h j x y) (fuel := fuel) Tryd.underlying84 h
  obtain ⟨a, n, c, hs⟩ := slice_ok Tryd.underlying84 hval
  subst hs
  have h1 : [Value.slice a n c] = [v'] := h1
  have h1 := (List.cons.inj h1).1
  subst h1
  refine ⟨l, h2, fun i hi j => ?_⟩
  obtain ⟨vs, v, _, _, _, hn⟩ := h4 i hi
  rcases Nat.lt_or_ge j (l.getD i default).os.length with hj | hj
  · exact hn j hj
  · rw [List.getD_eq_getElem?_getD, List.getElem?_eq_none hj]
    show _ ≤ (0 : Int) ∧ (0 : Int) ≤ _
    omega
end
end Go.Eng.TA.C

namespace Go.Proofs.YtmjbindplgpjjaaDoor
open Go Go.ChangeShapes Go.WideShapes Go.ChangeAt Go.WideMaps Go.WideElems Go.RowKit Go.Eng Go.Eng.TA
theorem own : ownKnob Tryd.prog.godebug = none := by kernel_rfl
abbrev laidL : List (String × DataW Unit) := [("unicode/utf8.acceptRanges", Rows.laid_unicode_utf8_acceptRanges), ("unicode/utf8.first", Rows.laid_unicode_utf8_first)]
def ren8 : Go.Shelf.Ren := ⟨id, fun t => if t = 5 then 5 else if t = 119 then 192 else if t = 138 then 194 else 195, fun g => if g = 3 then 0 else 1⟩
theorem ren8T : U8Types Tryd.prog ren8 where
  t5 := Tryd.underlying5
  t119 := Tryd.underlying192
  t138 := Tryd.underlying194
  t139 := Tryd.underlying195
theorem ren8X : U8Extra Tryd.prog ren8 where
  n3 := by kernel_rfl
  n4 := by kernel_rfl
  y3 := by kernel_rfl
  y4 := by kernel_rfl
  c5 := by kernel_rfl
  c119 := by kernel_rfl
  c138 := by kernel_rfl
theorem data8 : Rows.laid_unicode_utf8_first = Lib.firstData ∧ (Rows.laid_unicode_utf8_acceptRanges : DataW Unit) = Lib.acceptData := ⟨by kernel_rfl, by kernel_rfl⟩
theorem globals_ok {W : World} (h : laidMetH Tryd.prog laidL W) : Globals Γm (σof W) := by
  rw [MakeChecks.laidMetH_plain _ _ _ (by kernel_rfl)] at h
  have h1 := Go.Lib.laidMet.reads h (n := "unicode/utf8.first") (d := Lib.firstData) (by rw [← data8.1]; exact List.mem_cons_of_mem _ (List.mem_cons_self ..))
  have h2 := Go.Lib.laidMet.reads h (n := "unicode/utf8.acceptRanges") (d := Lib.acceptData) (by rw [← data8.2]; exact List.mem_cons_self ..)
  have hT : Lib.Utf8Tabs 0 1 W := utf8Tabs_of_readsT ren8T ren8X h1 h2
  intro g
  unfold Γm
  split
  · rename_i hg
    obtain rfl := Nat.eq_of_beq_eq_true hg
    refine .pa 1 256 _ ⟨0, 0, none⟩ (fun e j => .int .u8 (Lib.firstT e : Int)) rfl (fun _ => rfl) (fun e j c he hc => ?_) (fun e j c he hc => ?_)
    · cases j with
      | zero => simpa using σof_of (hT.1 e he)
      | succ j => simp [fstF] at hc
    · cases j with
      | zero => simp [fstF] at hc; subst hc; exact .v _
      | succ j => simp [fstF] at hc
  · split
    · rename_i hg
      obtain rfl := Nat.eq_of_beq_eq_true hg
      refine .pa 2 16 _ ⟨1, 0, none⟩ (fun e j => .int .u8 (if j = 0 then (Lib.accLo e : Int) else (Lib.accHi e : Int))) rfl (fun _ => rfl) (fun e j c he hc => ?_) (fun e j c he hc => ?_)
      · match j with
        | 0 => simpa [Nat.mul_comm] using σof_of (hT.2 e he).1
        | 1 => simpa [Nat.mul_comm] using σof_of (hT.2 e he).2
        | j + 2 => simp [accF] at hc
      · match j with
        | 0 => simp [accF] at hc; subst hc; exact .v _
        | 1 => simp [accF] at hc; subst hc; exact .v _
        | j + 2 => simp [accF] at hc
    · exact .any _
end Go.Proofs.YtmjbindplgpjjaaDoor

/- CourierOnce holds at every input: the tables unicode/utf8.first and unicode/utf8.acceptRanges as the program lays them (tied). -/
namespace Go.Proofs.YtmjbindplgpjjaaDoor
open Go Go.ChangeShapes Go.WideShapes Go.ChangeAt Go.WideMaps Go.WideElems Go.RowKit Go.Eng Go.Eng.TA Go.Eng.TA.C

set_option maxRecDepth 100000 in
theorem courierOnce_lifted (os : Os) (started : os.Started) (H : Type) (enc : TypeId × Value → H) :
    ReturnsInHanded {} Tryd.checked os 13 .any (fun w args => (Rows.courierOnceSpec.pre enc Tryd.prog Tryd.f13 [] false w args ∧ laidMetH Tryd.prog laidL w) ∧ sizedMet enc Tryd.prog Tryd.f13 (OpenSpec.ofChange Rows.courierOnceSpec) false w args)
      (Rows.courierOnceSpec.post enc Tryd.prog Tryd.f13 false true false false) := by
  refine returnsInHanded_of_change_and (C := Tryd.checked) (X := fun w _ => laidMetH Tryd.prog laidL w) (fun _ _ _ hh h => h.of_heap hh) own started (by kernel_rfl) Tryd.func13
    (ChangeSpec.witness_shaped (enc := enc) (C := Tryd.checked) (os := os) (X := fun w _ => laidMetH Tryd.prog laidL w) false (World.laidAll Tryd.prog os laidL) #[.string ⟨#[]⟩, .slice none 0 0] 8 (World.laidAll_os _ _ _) (World.shaped_of_ZipB (by kernel_rfl) (by kernel_rfl)) (by kernel_rfl) (by kernel_rfl) (by kernel_rfl)
      (by rw [MakeChecks.laidMetH_plain _ _ _ (by kernel_rfl)]; exact laidMet_laidAll _ (by kernel_rfl) (by kernel_rfl))) ?_
  intro W base args ds gs before hval0 hW _ _ hL _
  have hval : ∀ (j : Nat) t v, Tryd.f13.params[j]? = some t → args[j]? = some v → Value.okWide Tryd.prog W .any base t v := hval0
  have hW' := hW
  obtain ⟨p, q, hA0, hV, rfl, hfz, hnd⟩ := hW
  have hA : DataW.TrodAll enc Tryd.prog W 0 (fun _ => true) true Tryd.f13.params.toList args.toList ds p := hA0
  rw [Tryd.params13] at hA hval
  obtain ⟨v0, v1, d0, d1, p0, p1, rfl, rfl, rfl, h0, h1⟩ := trodAll_two hA
  obtain ⟨rfl, rfl⟩ := trodVars_none hV
  obtain ⟨n0, rfl, rfl, rfl, w0⟩ := Go.ChangeMaps.open_string Tryd.underlying9 (hval 0 9 v0 rfl rfl) h0
  obtain ⟨n1, s1, w1⟩ := open_acs (hval 1 84 v1 rfl rfl) h1
  refine (calls_true c13L (xs := [.v (.string n0), .sl 9 n1.length (lsF Ac.c n1)]) (law_in (A := A13) (pre := fun y => goodN y.2) (x := (n0, n1)) w1 (.refl _)) (globals_ok hL) (.one (V_v _) (.one (.base s1) .none))).mono fun e W' ⟨he, ho⟩ => ?_
  subst he
  exact ⟨_, rfl, post_true (tb := 4) (by kernel_rfl) (by kernel_rfl) (by kernel_rfl) (by kernel_rfl) (by kernel_rfl) Tryd.underlying4 hW' rfl rfl ho⟩

theorem courierOnce_holds : Rows.CourierOnceSaid :=
  OpenClaim.holds_of_wide 13 Tryd.f13 rfl rfl rfl rfl rfl rfl rfl ⟨rfl, rfl, rfl, rfl, rfl⟩ rfl rfl rfl rfl rfl (by kernel_rfl) Tryd.func13 (by kernel_rfl)
    (of_decide_eq_true (by kernel_rfl)) (by unfold Func.isWrapper; first | (rw [if_pos (by decide +kernel)]; kernel_rfl) | (rw [if_neg (by decide +kernel)]; exact ⟨rfl, rfl⟩))
    (fun os started H enc _ => courierOnce_lifted os started H enc)
theorem courierOnce_card : Rows.CourierOnceCardSaid :=
  Claim7.holds_tied_plain_at .later [] [.data, .pinned] true (true, "04bf13180d5c01f5cefcb13e3375edc3305cec317436f21bd83698835d5e56cf") false
    courierOnce_holds (fun _ h => by cases h) (by kernel_rfl) (fun _ h => by cases h) courierOnce_row_tie rfl ⟨rfl, rfl⟩ (by kernel_rfl) rfl
    (fun f fn hf hfn => by
      obtain rfl : f = 13 := Option.some.inj ((show Tryd.prog.funcNamed "hallmoot/hallmootlaw32.CourierOnce" = some 13 by kernel_rfl).symm.trans hf) |>.symm
      obtain rfl : fn = Tryd.f13 := (Option.some.inj (Tryd.func13.symm.trans hfn)).symm
      exact ⟨by kernel_rfl, fun j t ht => by
        rw [Tryd.params13] at ht
        have hm : t ∈ [9, 84] := by simpa using Array.mem_of_getElem? ht
        have hall : ([9, 84].all fun u => !Tryd.prog.wantsStandIn u) = true := by kernel_rfl
        exact (show Tryd.prog.wantsStandIn t = false by simpa using List.all_eq_true.1 hall t hm)⟩)
    (by kernel_rfl)
#print axioms courierOnce_card
end Go.Proofs.YtmjbindplgpjjaaDoor
