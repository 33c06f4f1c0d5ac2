/- pool: what is let go of: the contracts and what follows it. -/
import Derived.Test.YtmjbindplgpjjaaDoorPart5
/- pool: what is let go of: the contracts. -/
namespace Go.Eng.TA
open Go Go.Eng Go.Eng.M Go.Lib Go.Proofs
set_option linter.unusedSimpArgs false
set_option linter.unusedVariables false
def keepL (p : Tx → Bool) (l : List Tx) : List Tx := l.filter fun t => !p t
def junkL (p : Tx → Bool) (l j : List Tx) : List Tx := List.replicate (l.length - (keepL p l).length) default ++ j
theorem keep_none {p : Tx → Bool} {l : List Tx} (h : ¬ fD p l < l.length) : keepL p l = l := by
  have h1 := fD_le p l
  have h2 := fD_filter p l
  rw [show fD p l = l.length by omega, List.take_length] at h2
  exact h2.symm
theorem keep_some {p : Tx → Bool} {l j : List Tx} (h : fD p l < l.length) : keepL p l = (l ++ j).take (fD p l) ++ (l.drop (fD p l + 1)).filter fun t => !p t := by
  have h1 : l = l.take (fD p l) ++ l.getD (fD p l) default :: l.drop (fD p l + 1) := by
    rw [getD_get h, ← List.drop_eq_getElem_cons h, List.take_append_drop]
  have h2 := fD_filter p l
  have h3 := fD_at p l h
  unfold keepL
  rw [List.take_append_of_le_length (by omega)]
  conv => lhs; rw [h1]
  rw [List.filter_append, ← h2, List.filter_cons_of_neg (by rw [h3]; decide)]
theorem keepL_le (p : Tx → Bool) (l : List Tx) : (keepL p l).length ≤ l.length := List.length_filter_le _ _
def SDfD (n : Nat) (d : List Tx) (x : XD) : List AV × Heap := ([.hs 0 0 n, .fn 119 [] [.ptr 1 0], .v (.int .i64 (x.i : Int)), .v (.int .i64 (x.j : Int))], (txB' x.L :: HCD d).map some)
def ODfD (n : Nat) (d : List Tx) (r : Nat × List Tx) : Out := ⟨.exit 0, [.hs 0 0 n, .any, .v (.int .i64 (r.1 : Int)), .any], (txB' r.2 :: HCD d).map some⟩
theorem rDfD (n : Nat) (d : List Tx) (x : XD) : roundE (P := Tryd.prog) (Γ := Γm) [k119] Lno false 3 0 lpDf lvDf [] 42 (SDfD n d x).1 (SDfD n d x).2 =
  Tree.br (decide ((↑x.j : Int) < (↑n : Int))) (.chk (decide ((0 : Int) ≤ (↑x.j : Int)) && decide ((↑x.j : Int) < (↑n : Int))) (.chk (cl ((isTx (lsF Tx.c d) ∧ List.length d ≤ (1000000000 : 
    Nat)) ∧ LeL [.sl 7 (List.length d) (lsF Tx.c d), .agg [.v (.int .i64 (List.getD x.L ((0 : Nat) + x.j) default).k), .v (.string (List.getD x.L ((0 : Nat) + x.j) default).fr), .v 
    (.string (List.getD x.L ((0 : Nat) + x.j) default).to), .v (.string (List.getD x.L ((0 : Nat) + x.j) default).ky), .v (.string (List.getD x.L ((0 : Nat) + x.j) default).vl), .v 
    (.int .i64 (List.getD x.L ((0 : Nat) + x.j) default).am), .v (.int .i64 (List.getD x.L ((0 : Nat) + x.j) default).nn)]] [.sl 7 (List.length d) (lsF Tx.c d), .agg [.v (.int .i64 
    (List.getD x.L ((0 : Nat) + x.j) default).k), .v (.string (List.getD x.L ((0 : Nat) + x.j) default).fr), .v (.string (List.getD x.L ((0 : Nat) + x.j) default).to), .v (.string 
    (List.getD x.L ((0 : Nat) + x.j) default).ky), .v (.string (List.getD x.L ((0 : Nat) + x.j) default).vl), .v (.int .i64 (List.getD x.L ((0 : Nat) + x.j) default).am), .v (.int .i64 
    (List.getD x.L ((0 : Nat) + x.j) default).nn)]] ∧ LeH [] [])) (.br (!!!hasF (List.length d) (lsF Tx.c d) (Tx.mk (List.getD x.L ((0 : Nat) + x.j) default).k (List.getD x.L ((0 : 
    Nat) + x.j) default).fr (List.getD x.L ((0 : Nat) + x.j) default).to (List.getD x.L ((0 : Nat) + x.j) default).ky (List.getD x.L ((0 : Nat) + x.j) default).vl (List.getD x.L ((0 : 
    Nat) + x.j) default).am (List.getD x.L ((0 : Nat) + x.j) default).nn)) (.chk (decide ((0 : Int) ≤ (↑x.i : Int)) && decide ((↑x.i : Int) < (↑n : Int))) (.leaf (.mk .normal [.hs 0 0 
    n, .fn (119 : FuncId) [] [.ptr 1 0], .v (.int .i64 (IntKind.wrap IntKind.i64 ((↑x.i : Int) + (1 : Int)))), .v (.int .i64 (IntKind.wrap IntKind.i64 ((↑x.j : Int) + (1 : Int))))] 
    [some (.arr 7 (List.length x.L) fun k => mixL (Nat.beq k ((0 : Nat) + x.i)) [.v (.int .i64 (List.getD x.L ((0 : Nat) + x.j) default).k), .v (.string (List.getD x.L ((0 : Nat) + 
    x.j) default).fr), .v (.string (List.getD x.L ((0 : Nat) + x.j) default).to), .v (.string (List.getD x.L ((0 : Nat) + x.j) default).ky), .v (.string (List.getD x.L ((0 : Nat) + 
    x.j) default).vl), .v (.int .i64 (List.getD x.L ((0 : Nat) + x.j) default).am), .v (.int .i64 (List.getD x.L ((0 : Nat) + x.j) default).nn)] (lsF Tx.c x.L k)), some (.row [.fn (104 
    : FuncId) [] [.ptr 2 0]]), some (.row [.sl 7 (List.length d) (lsF Tx.c d)])]))) (.leaf (.mk .normal [.hs 0 0 n, .fn (119 : FuncId) [] [.ptr 1 0], .v (.int .i64 (↑x.i : Int)), .v 
    (.int .i64 (IntKind.wrap IntKind.i64 ((↑x.j : Int) + (1 : Int))))] [some (.arr 7 (List.length x.L) (lsF Tx.c x.L)), some (.row [.fn (104 : FuncId) [] [.ptr 2 0]]), some (.row [.sl 
    7 (List.length d) (lsF Tx.c d)])]))))) (.leaf (.mk (.exit 0) [.hs 0 0 n, .fn (119 : FuncId) [] [.ptr 1 0], .v (.int .i64 (↑x.i : Int)), .v (.int .i64 (↑x.j : Int))] [some (.arr 7 
    (List.length x.L) (lsF Tx.c x.L)), some (.row [.fn (104 : FuncId) [] [.ptr 2 0]]), some (.row [.sl 7 (List.length d) (lsF Tx.c d)])])) := by kernel_rfl
theorem loopDfD {l : List Tx} {d : List Tx} (hd : d.length ≤ 100000) (hl : l.length ≤ 100000) {r : Nat × List Tx} : ∀ x : XD, (x.i < x.j ∧ x.j ≤ l.length ∧ l.length ≤ x.L.length ∧ (∀ e, x.j ≤ e → e < l.length → x.L.getD e default = l.getD e default) ∧ dRun (hasT d) (l.drop x.j) x.i x.L = r) → LoopOK Tryd.prog Γm 3 42 lpDf (LSpec.at lvDf [] (SDfD l.length d x) (ODfD l.length d r)) := by
  refine loop_at (S := SDfD l.length d) (O := fun _ => ODfD l.length d r) (k := 0) (fun x => l.length - x.j) fun x hp => .of (L := Lno) (failOK fun _ _ _ => rfl) (rDfD l.length d x) ?_
  obtain ⟨i, j, L⟩ := x
  obtain ⟨h1, h2, h3, h4, h5⟩ := hp
  dsimp only at h1 h2 h3 h4 h5
  rcases Nat.lt_or_ge j l.length with hj | hj
  · have hd0 : l.drop j = l.getD j default :: l.drop (j + 1) := by rw [List.drop_eq_getElem_cons hj, getD_get hj]
    have hg := h4 j (Nat.le_refl _) hj
    rw [hd0, dRun] at h5
    simp only [Nat.zero_add, Int.toNat_natCast, hg]
    have h4' : ∀ (L' : List Tx), (∀ e, j + 1 ≤ e → L'.getD e default = L.getD e default) → ∀ e, j + 1 ≤ e → e < l.length → L'.getD e default = l.getD e default := fun L' h e a b => by rw [h e a]; exact h4 e (by omega) b
    have hgd : isTx (lsF Tx.c d) := isTx_ls d
    generalize l.getD j default = t at *
    have hx : Tx.mk t.k t.fr t.to t.ky t.vl t.am t.nn = t := rfl
    cases hd : hasT d t with
    | true =>
      rw [hd, cond_true] at h5
      repeat' (first | refine wC (by first | omega | (simp only [W1, cond_true, cond_false, hx, hasF_l, hgd, nn2, hd, wrapUpN (show j ≤ 10000000000 by omega)]; first | done | omega)) ?_ | refine wT (by first | omega | (simp only [W1, cond_true, cond_false, hx, hasF_l, hgd, nn2, hd, wrapUpN (show j ≤ 10000000000 by omega)]; first | done | omega)) ?_ | refine wF (by intro _h; first | omega | (simp only [W1, cond_true, cond_false, hx, hasF_l, hgd, nn2, hd, wrapUpN (show j ≤ 10000000000 by omega)] at _h; first | done | omega)) ?_ | (refine wS ?_ ?_ <;> intro _h <;> simp only [W1, cond_true, cond_false, hx, hasF_l, hgd, nn2, hd, wrapUpN (show j ≤ 10000000000 by omega)] at _h))
      all_goals simp only [W1, W2, owesN, owesX, owesR, cond_true, cond_false, hx, hasF_l, hgd, nn2, hd, wrapUpN (show j ≤ 10000000000 by omega)]
      repeat' (first | apply And.intro | intro _hc)
      all_goals first | exact ⟨⟨i, j + 1, L⟩, LeL.refl _, LeH.refl _, ⟨by dsimp only; omega, hj, h3, h4' L fun _ _ => rfl, h5⟩, by dsimp only; omega⟩ | exact AV.le_refl _ | exact AV.le_any _ | exact OLe.refl _ | exact OLe.none _ | exact LeH.refl _ | exact LeL.refl _ | exact AV.le.bs _ | exact AV.le.sb _ | omega | contradiction
    | false =>
      rw [hd, cond_false] at h5
      have hs := Tx.cod.set L t (show i < L.length by omega) rfl
      repeat' (first | refine wC (by first | omega | (simp only [W1, cond_true, cond_false, hx, hasF_l, hgd, nn2, hd, wrapUpN (show j ≤ 10000000000 by omega), wrapUpN (show i ≤ 10000000000 by omega)]; first | done | omega)) ?_ | refine wT (by first | omega | (simp only [W1, cond_true, cond_false, hx, hasF_l, hgd, nn2, hd, wrapUpN (show j ≤ 10000000000 by omega), wrapUpN (show i ≤ 10000000000 by omega)]; first | done | omega)) ?_ | refine wF (by intro _h; first | omega | (simp only [W1, cond_true, cond_false, hx, hasF_l, hgd, nn2, hd, wrapUpN (show j ≤ 10000000000 by omega), wrapUpN (show i ≤ 10000000000 by omega)] at _h; first | done | omega)) ?_ | (refine wS ?_ ?_ <;> intro _h <;> simp only [W1, cond_true, cond_false, hx, hasF_l, hgd, nn2, hd, wrapUpN (show j ≤ 10000000000 by omega), wrapUpN (show i ≤ 10000000000 by omega)] at _h))
      all_goals simp only [W1, W2, owesN, owesX, owesR, cond_true, cond_false, hx, hasF_l, hgd, nn2, hd, wrapUpN (show j ≤ 10000000000 by omega), wrapUpN (show i ≤ 10000000000 by omega)]
      repeat' (first | apply And.intro | intro _hc)
      all_goals first | exact ⟨⟨i + 1, j + 1, L.set i t⟩, LeL.refl _, ⟨hs, OLe.refl _, OLe.refl _, trivial⟩, ⟨by dsimp only; omega, hj, by dsimp only; rw [List.length_set]; exact h3, h4' _ fun e he => by rw [getD_setI (by omega), if_neg (by omega)], h5⟩, by dsimp only; omega⟩ | exact AV.le_refl _ | exact AV.le_any _ | exact OLe.refl _ | exact OLe.none _ | exact LeH.refl _ | exact LeL.refl _ | exact AV.le.bs _ | exact AV.le.sb _ | omega | contradiction
  · rw [List.drop_eq_nil_of_le hj, dRun] at h5
    subst h5
    repeat' (first | refine wC (by first | omega | (simp only [W1, cond_true, cond_false]; first | done | omega)) ?_ | refine wT (by first | omega | (simp only [W1, cond_true, cond_false]; first | done | omega)) ?_ | refine wF (by intro _h; first | omega | (simp only [W1, cond_true, cond_false] at _h; first | done | omega)) ?_ | (refine wS ?_ ?_ <;> intro _h <;> simp only [W1, cond_true, cond_false] at _h))
    all_goals simp only [W1, W2, owesN, owesX, owesR, cond_true, cond_false]
    repeat' (first | apply And.intro | intro _hc)
    all_goals first | exact rfl | exact AV.le_refl _ | exact AV.le_any _ | exact OLe.refl _ | exact OLe.none _ | exact LeH.refl _ | exact LeL.refl _ | exact AV.le.bs _ | exact AV.le.sb _ | omega | contradiction
theorem runDfND (l j : List Tx) (d : List Tx) (h : Answers Tryd.prog Γm 121 [.hs 0 0 l.length, .fn 119 [] [.ptr 1 0]] (txB' (l ++ j) :: HCD d) (.v (.int .i64 (-1))) ((txB' (l ++ j) :: HCD d).map some) []) : bodyE (P := Tryd.prog) (Γ := Γm) [CT.at 121 h] Lno false 42 [.tmp 4] (bodyOf Tryd.f118) [.hs 0 0 l.length, .fn 119 [] [.ptr 1 0]] (txB' (l ++ j) :: HCD d) =
  Tree.chk (cl (LeL [.hs 0 0 (List.length l), .fn (119 : FuncId) [] [.ptr 1 0]] [.hs 0 0 (List.length l), .fn (119 : FuncId) [] [.ptr 1 0]] ∧ LeH [some (.arr 7 (List.length (l ++ j)) (lsF 
    Tx.c (l ++ j))), some (.row [.fn (104 : FuncId) [] [.ptr 2 0]]), some (.row [.sl 7 (List.length d) (lsF Tx.c d)])] [some (.arr 7 (List.length (l ++ j)) (lsF Tx.c (l ++ j))), some 
    (.row [.fn (104 : FuncId) [] [.ptr 2 0]]), some (.row [.sl 7 (List.length d) (lsF Tx.c d)])])) (.br true (.leaf (Ans.mk (.hs 0 0 (List.length l)) [some (.arr 7 (List.length (l ++ 
    j)) (lsF Tx.c (l ++ j))), some (.row [.fn (104 : FuncId) [] [.ptr 2 0]]), some (.row [.sl 7 (List.length d) (lsF Tx.c d)])])) .fail) := by kernel_rfl
theorem runDfYD (l j : List Tx) (d : List Tx) (q : Nat) (r : Nat × List Tx) (h : Answers Tryd.prog Γm 121 [.hs 0 0 l.length, .fn 119 [] [.ptr 1 0]] (txB' (l ++ j) :: HCD d) (.v (.int .i64 (q : Int))) ((txB' (l ++ j) :: HCD d).map some) []) : bodyE (P := Tryd.prog) (Γ := Γm) [CT.at 121 h] (fun _ => LSpec.at lvDf [] (SDfD l.length d ⟨q, q + 1, l ++ j⟩) (ODfD l.length d r)) false 42 [.tmp 4] (bodyOf Tryd.f118) [.hs 0 0 l.length, .fn 119 [] [.ptr 1 0]] (txB' (l ++ j) :: HCD d) =
  Tree.chk (cl (LeL [.hs 0 0 (List.length l), .fn (119 : FuncId) [] [.ptr 1 0]] [.hs 0 0 (List.length l), .fn (119 : FuncId) [] [.ptr 1 0]] ∧ LeH [some (.arr 7 (List.length (l ++ j)) (lsF 
    Tx.c (l ++ j))), some (.row [.fn (104 : FuncId) [] [.ptr 2 0]]), some (.row [.sl 7 (List.length d) (lsF Tx.c d)])] [some (.arr 7 (List.length (l ++ j)) (lsF Tx.c (l ++ j))), some 
    (.row [.fn (104 : FuncId) [] [.ptr 2 0]]), some (.row [.sl 7 (List.length d) (lsF Tx.c d)])])) (.br (decide ((↑q : Int) = (-1 : Int))) (.leaf (Ans.mk (.hs 0 0 (List.length l)) 
    [some (.arr 7 (List.length (l ++ j)) (lsF Tx.c (l ++ j))), some (.row [.fn (104 : FuncId) [] [.ptr 2 0]]), some (.row [.sl 7 (List.length d) (lsF Tx.c d)])])) (.chk (cl (LeL [.hs 0 
    0 (List.length l), .fn (119 : FuncId) [] [.ptr 1 0], .v (.int .i64 (↑q : Int)), .v (.int .i64 (IntKind.wrap IntKind.i64 ((↑q : Int) + (1 : Int))))] [.hs 0 0 (List.length l), .fn 
    (119 : FuncId) [] [.ptr 1 0], .v (.int .i64 (↑q : Int)), .v (.int .i64 (↑(q + (1 : Nat)) : Int))] ∧ LeH [some (.arr 7 (List.length (l ++ j)) (lsF Tx.c (l ++ j))), some (.row [.fn 
    (104 : FuncId) [] [.ptr 2 0]]), some (.row [.sl 7 (List.length d) (lsF Tx.c d)])] [some (.arr 7 (List.length (XD.mk q (q + (1 : Nat)) (l ++ j)).L) (lsF Tx.c (XD.mk q (q + (1 : 
    Nat)) (l ++ j)).L)), some (.row [.fn (104 : FuncId) [] [.ptr 2 0]]), some (.row [.sl 7 (List.length d) (lsF Tx.c d)])])) (.chk (decide ((0 : Int) ≤ (↑r.fst : Int)) && decide 
    ((↑r.fst : Int) ≤ (↑(List.length l) : Int)) && decide ((↑(List.length l) : Int) ≤ (↑(List.length l) : Int))) (.chk (decide ((↑(0 : Nat) : Int) ≤ (↑r.fst : Int)) && decide ((↑r.fst 
    : Int) ≤ (↑(List.length l) : Int))) (.leaf (Ans.mk (.hs 0 0 r.fst) [some (.arr 7 (List.length r.snd) fun j => mixL (decide ((0 : Nat) + r.fst ≤ j) && decide (j < (0 : Nat) + r.fst 
    + (List.length l - r.fst))) [.v (.int .i64 (0 : Int)), .v (.string (ByteArray.mk #[])), .v (.string (ByteArray.mk #[])), .v (.string (ByteArray.mk #[])), .v (.string (ByteArray.mk 
    #[])), .v (.int .i64 (0 : Int)), .v (.int .i64 (0 : Int))] (lsF Tx.c r.snd j)), some (.row [.fn (104 : FuncId) [] [.ptr 2 0]]), some (.row [.sl 7 (List.length d) (lsF Tx.c 
    d)])])))))) := by kernel_rfl
theorem ansDfD {l j : List Tx} {d : List Tx} (hd : d.length ≤ 100000) (hl : l.length ≤ 100000) : Answers Tryd.prog Γm 118 [.hs 0 0 l.length, .fn 119 [] [.ptr 1 0]] (txB' (l ++ j) :: HCD d) (.hs 0 0 (keepL (hasT d) l).length) ((txB' (keepL (hasT d) l ++ junkL (hasT d) l j) :: HCD d).map some) [] := by
  have hX := ansXfD (l := l) (j := j) (d := d) hd hl
  unfold xfV at hX
  have hL : (l ++ j).length = l.length + j.length := List.length_append
  by_cases hq : fD (hasT d) l < l.length
  · rw [if_pos hq] at hX
    have hr := loopDfD (l := l) (d := d) hd hl (r := dRun (hasT d) (l.drop (fD (hasT d) l + 1)) (fD (hasT d) l) (l ++ j)) ⟨fD (hasT d) l, fD (hasT d) l + 1, l ++ j⟩ ⟨Nat.lt_succ_self _, hq, by dsimp only; omega, fun e _ he => getD_app he, rfl⟩
    obtain ⟨d1, d2, d3, d4⟩ := dRun_ok (hasT d) (l.drop (fD (hasT d) l + 1)) (fD (hasT d) l) (fD (hasT d) l + 1) (l ++ j) (by omega) (by rw [List.length_drop]; omega)
    have hK := keep_some (p := hasT d) (l := l) (j := j) hq
    rw [← hK] at d3
    rw [show fD (hasT d) l + 1 + (l.drop (fD (hasT d) l + 1)).length = l.length by rw [List.length_drop]; omega, List.drop_left] at d4
    have hKl := keepL_le (hasT d) l
    generalize hR : dRun (hasT d) (l.drop (fD (hasT d) l + 1)) (fD (hasT d) l) (l ++ j) = r at *
    obtain ⟨iF, LF⟩ := r
    dsimp only at d1 d2 d3 d4
    have hiF : (keepL (hasT d) l).length = iF := by
      rw [← d3, List.length_take]
      have := List.length_filter_le (fun t => !(hasT d) t) (l.drop (fD (hasT d) l + 1))
      rw [List.length_drop] at this
      omega
    have hc := Tx.cod.clr LF default (i := iF) (n := l.length) (N := LF.length) (m := l.length - iF) rfl (by omega) (by omega) rfl
    rw [d3, d4, ← hiF] at hc
    refine answers (fn := Tryd.f118) (c := bodyOf Tryd.f118) (ntmps := 42) (results := [.tmp 4]) [CT.at 121 hX] (fun _ => LSpec.at lvDf [] (SDfD l.length d ⟨fD (hasT d) l, fD (hasT d) l + 1, l ++ j⟩) (ODfD l.length d (iF, LF))) false Tryd.func118 (by kernel_rfl) (by kernel_rfl) (by kernel_rfl) (by kernel_rfl) (by simp) rfl (oneLoop (b := lpDf) (by kernel_rfl) hr) <| Meets.of (runDfYD l j d (fD (hasT d) l) (iF, LF) hX) <| ?_
    subst hiF
    have hw : IntKind.wrap IntKind.i64 ((fD (hasT d) l : Int) + 1) = ((fD (hasT d) l + 1 : Nat) : Int) := wrapUpN (by omega)
    repeat' (first | refine wC (by first | omega | (simp only [W1, cond_true, cond_false, hw]; first | done | omega)) ?_ | refine wT (by first | omega | (simp only [W1, cond_true, cond_false, hw]; first | done | omega)) ?_ | refine wF (by intro _h; first | omega | (simp only [W1, cond_true, cond_false, hw] at _h; first | done | omega)) ?_ | (refine wS ?_ ?_ <;> intro _h <;> simp only [W1, cond_true, cond_false, hw] at _h))
    all_goals simp only [W1, W2, owesN, owesX, owesR, cond_true, cond_false, hw]
    repeat' (first | apply And.intro | intro _hc)
    all_goals first | exact hc | exact AV.le_refl _ | exact AV.le_any _ | exact OLe.refl _ | exact OLe.none _ | exact LeH.refl _ | exact LeL.refl _ | exact AV.le.bs _ | exact AV.le.sb _ | omega | contradiction
  · rw [if_neg hq] at hX
    have hK := keep_none hq
    unfold junkL
    rw [hK, Nat.sub_self, List.replicate_zero, List.nil_append]
    refine answers (fn := Tryd.f118) (c := bodyOf Tryd.f118) (ntmps := 42) (results := [.tmp 4]) [CT.at 121 hX] (Lno) false Tryd.func118 (by kernel_rfl) (by kernel_rfl) (by kernel_rfl) (by kernel_rfl) (by simp) rfl (failOK fun _ _ _ => rfl) <| Meets.of (runDfND l j d hX) <| ?_
    repeat' (first | refine wC (by first | omega | (simp only [W1, cond_true, cond_false]; first | done | omega)) ?_ | refine wT (by first | omega | (simp only [W1, cond_true, cond_false]; first | done | omega)) ?_ | refine wF (by intro _h; first | omega | (simp only [W1, cond_true, cond_false] at _h; first | done | omega)) ?_ | (refine wS ?_ ?_ <;> intro _h <;> simp only [W1, cond_true, cond_false] at _h))
    all_goals simp only [W1, W2, owesN, owesX, owesR, cond_true, cond_false]
    repeat' (first | apply And.intro | intro _hc)
    all_goals first | exact AV.le_refl _ | exact AV.le_any _ | exact OLe.refl _ | exact OLe.none _ | exact LeH.refl _ | exact LeL.refl _ | exact AV.le.bs _ | exact AV.le.sb _ | omega | contradiction
def SDfP (n : Nat) (w : ByteArray) (m : Int) (x : XD) : List AV × Heap := ([.hs 0 0 n, .fn 119 [] [.ptr 1 0], .v (.int .i64 (x.i : Int)), .v (.int .i64 (x.j : Int))], (txB' x.L :: HCP w m).map some)
def ODfP (n : Nat) (w : ByteArray) (m : Int) (r : Nat × List Tx) : Out := ⟨.exit 0, [.hs 0 0 n, .any, .v (.int .i64 (r.1 : Int)), .any], (txB' r.2 :: HCP w m).map some⟩
theorem rDfP (n : Nat) (w : ByteArray) (m : Int) (x : XD) : roundE (P := Tryd.prog) (Γ := Γm) [k119] Lno false 4 0 lpDf lvDf [] 42 (SDfP n w m x).1 (SDfP n w m x).2 =
  Tree.br (decide ((↑x.j : Int) < (↑n : Int))) (.chk (decide ((0 : Int) ≤ (↑x.j : Int)) && decide ((↑x.j : Int) < (↑n : Int))) (.br (!!bif !decide ((List.getD x.L ((0 : Nat) + x.j) 
    default).fr = w) then true else decide (m < (List.getD x.L ((0 : Nat) + x.j) default).nn)) (.chk (decide ((0 : Int) ≤ (↑x.i : Int)) && decide ((↑x.i : Int) < (↑n : Int))) (.leaf 
    (.mk .normal [.hs 0 0 n, .fn (119 : FuncId) [] [.ptr 1 0], .v (.int .i64 (IntKind.wrap IntKind.i64 ((↑x.i : Int) + (1 : Int)))), .v (.int .i64 (IntKind.wrap IntKind.i64 ((↑x.j : 
    Int) + (1 : Int))))] [some (.arr 7 (List.length x.L) fun k => mixL (Nat.beq k ((0 : Nat) + x.i)) [.v (.int .i64 (List.getD x.L ((0 : Nat) + x.j) default).k), .v (.string (List.getD 
    x.L ((0 : Nat) + x.j) default).fr), .v (.string (List.getD x.L ((0 : Nat) + x.j) default).to), .v (.string (List.getD x.L ((0 : Nat) + x.j) default).ky), .v (.string (List.getD x.L 
    ((0 : Nat) + x.j) default).vl), .v (.int .i64 (List.getD x.L ((0 : Nat) + x.j) default).am), .v (.int .i64 (List.getD x.L ((0 : Nat) + x.j) default).nn)] (lsF Tx.c x.L k)), some 
    (.row [.fn (105 : FuncId) [] [.ptr 2 0, .ptr 3 0]]), some (.row [.v (.string w)]), some (.row [.v (.int .i64 m)])]))) (.leaf (.mk .normal [.hs 0 0 n, .fn (119 : FuncId) [] [.ptr 1 
    0], .v (.int .i64 (↑x.i : Int)), .v (.int .i64 (IntKind.wrap IntKind.i64 ((↑x.j : Int) + (1 : Int))))] [some (.arr 7 (List.length x.L) (lsF Tx.c x.L)), some (.row [.fn (105 : 
    FuncId) [] [.ptr 2 0, .ptr 3 0]]), some (.row [.v (.string w)]), some (.row [.v (.int .i64 m)])])))) (.leaf (.mk (.exit 0) [.hs 0 0 n, .fn (119 : FuncId) [] [.ptr 1 0], .v (.int 
    .i64 (↑x.i : Int)), .v (.int .i64 (↑x.j : Int))] [some (.arr 7 (List.length x.L) (lsF Tx.c x.L)), some (.row [.fn (105 : FuncId) [] [.ptr 2 0, .ptr 3 0]]), some (.row [.v (.string 
    w)]), some (.row [.v (.int .i64 m)])])) := by kernel_rfl
theorem loopDfP {l : List Tx} {w : ByteArray} {m : Int} (hl : l.length ≤ 100000) {r : Nat × List Tx} : ∀ x : XD, (x.i < x.j ∧ x.j ≤ l.length ∧ l.length ≤ x.L.length ∧ (∀ e, x.j ≤ e → e < l.length → x.L.getD e default = l.getD e default) ∧ dRun (pastB w m) (l.drop x.j) x.i x.L = r) → LoopOK Tryd.prog Γm 4 42 lpDf (LSpec.at lvDf [] (SDfP l.length w m x) (ODfP l.length w m r)) := by
  refine loop_at (S := SDfP l.length w m) (O := fun _ => ODfP l.length w m r) (k := 0) (fun x => l.length - x.j) fun x hp => .of (L := Lno) (failOK fun _ _ _ => rfl) (rDfP l.length w m x) ?_
  obtain ⟨i, j, L⟩ := x
  obtain ⟨h1, h2, h3, h4, h5⟩ := hp
  dsimp only at h1 h2 h3 h4 h5
  rcases Nat.lt_or_ge j l.length with hj | hj
  · have hd0 : l.drop j = l.getD j default :: l.drop (j + 1) := by rw [List.drop_eq_getElem_cons hj, getD_get hj]
    have hg := h4 j (Nat.le_refl _) hj
    rw [hd0, dRun] at h5
    simp only [Nat.zero_add, Int.toNat_natCast, hg, pastE]
    have h4' : ∀ (L' : List Tx), (∀ e, j + 1 ≤ e → L'.getD e default = L.getD e default) → ∀ e, j + 1 ≤ e → e < l.length → L'.getD e default = l.getD e default := fun L' h e a b => by rw [h e a]; exact h4 e (by omega) b
    generalize l.getD j default = t at *
    have hx : Tx.mk t.k t.fr t.to t.ky t.vl t.am t.nn = t := rfl
    cases hd : pastB w m t with
    | true =>
      rw [hd, cond_true] at h5
      repeat' (first | refine wC (by first | omega | (simp only [W1, cond_true, cond_false, hx, nn2, hd, wrapUpN (show j ≤ 10000000000 by omega)]; first | done | omega)) ?_ | refine wT (by first | omega | (simp only [W1, cond_true, cond_false, hx, nn2, hd, wrapUpN (show j ≤ 10000000000 by omega)]; first | done | omega)) ?_ | refine wF (by intro _h; first | omega | (simp only [W1, cond_true, cond_false, hx, nn2, hd, wrapUpN (show j ≤ 10000000000 by omega)] at _h; first | done | omega)) ?_ | (refine wS ?_ ?_ <;> intro _h <;> simp only [W1, cond_true, cond_false, hx, nn2, hd, wrapUpN (show j ≤ 10000000000 by omega)] at _h))
      all_goals simp only [W1, W2, owesN, owesX, owesR, cond_true, cond_false, hx, nn2, hd, wrapUpN (show j ≤ 10000000000 by omega)]
      repeat' (first | apply And.intro | intro _hc)
      all_goals first | exact ⟨⟨i, j + 1, L⟩, LeL.refl _, LeH.refl _, ⟨by dsimp only; omega, hj, h3, h4' L fun _ _ => rfl, h5⟩, by dsimp only; omega⟩ | exact AV.le_refl _ | exact AV.le_any _ | exact OLe.refl _ | exact OLe.none _ | exact LeH.refl _ | exact LeL.refl _ | exact AV.le.bs _ | exact AV.le.sb _ | omega | contradiction
    | false =>
      rw [hd, cond_false] at h5
      have hs := Tx.cod.set L t (show i < L.length by omega) rfl
      repeat' (first | refine wC (by first | omega | (simp only [W1, cond_true, cond_false, hx, nn2, hd, wrapUpN (show j ≤ 10000000000 by omega), wrapUpN (show i ≤ 10000000000 by omega)]; first | done | omega)) ?_ | refine wT (by first | omega | (simp only [W1, cond_true, cond_false, hx, nn2, hd, wrapUpN (show j ≤ 10000000000 by omega), wrapUpN (show i ≤ 10000000000 by omega)]; first | done | omega)) ?_ | refine wF (by intro _h; first | omega | (simp only [W1, cond_true, cond_false, hx, nn2, hd, wrapUpN (show j ≤ 10000000000 by omega), wrapUpN (show i ≤ 10000000000 by omega)] at _h; first | done | omega)) ?_ | (refine wS ?_ ?_ <;> intro _h <;> simp only [W1, cond_true, cond_false, hx, nn2, hd, wrapUpN (show j ≤ 10000000000 by omega), wrapUpN (show i ≤ 10000000000 by omega)] at _h))
      all_goals simp only [W1, W2, owesN, owesX, owesR, cond_true, cond_false, hx, nn2, hd, wrapUpN (show j ≤ 10000000000 by omega), wrapUpN (show i ≤ 10000000000 by omega)]
      repeat' (first | apply And.intro | intro _hc)
      all_goals first | exact ⟨⟨i + 1, j + 1, L.set i t⟩, LeL.refl _, ⟨hs, OLe.refl _, OLe.refl _, OLe.refl _, trivial⟩, ⟨by dsimp only; omega, hj, by dsimp only; rw [List.length_set]; exact h3, h4' _ fun e he => by rw [getD_setI (by omega), if_neg (by omega)], h5⟩, by dsimp only; omega⟩ | exact AV.le_refl _ | exact AV.le_any _ | exact OLe.refl _ | exact OLe.none _ | exact LeH.refl _ | exact LeL.refl _ | exact AV.le.bs _ | exact AV.le.sb _ | omega | contradiction
  · rw [List.drop_eq_nil_of_le hj, dRun] at h5
    subst h5
    repeat' (first | refine wC (by first | omega | (simp only [W1, cond_true, cond_false]; first | done | omega)) ?_ | refine wT (by first | omega | (simp only [W1, cond_true, cond_false]; first | done | omega)) ?_ | refine wF (by intro _h; first | omega | (simp only [W1, cond_true, cond_false] at _h; first | done | omega)) ?_ | (refine wS ?_ ?_ <;> intro _h <;> simp only [W1, cond_true, cond_false] at _h))
    all_goals simp only [W1, W2, owesN, owesX, owesR, cond_true, cond_false]
    repeat' (first | apply And.intro | intro _hc)
    all_goals first | exact rfl | exact AV.le_refl _ | exact AV.le_any _ | exact OLe.refl _ | exact OLe.none _ | exact LeH.refl _ | exact LeL.refl _ | exact AV.le.bs _ | exact AV.le.sb _ | omega | contradiction
theorem runDfNP (l j : List Tx) (w : ByteArray) (m : Int) (h : Answers Tryd.prog Γm 121 [.hs 0 0 l.length, .fn 119 [] [.ptr 1 0]] (txB' (l ++ j) :: HCP w m) (.v (.int .i64 (-1))) ((txB' (l ++ j) :: HCP w m).map some) []) : bodyE (P := Tryd.prog) (Γ := Γm) [CT.at 121 h] Lno false 42 [.tmp 4] (bodyOf Tryd.f118) [.hs 0 0 l.length, .fn 119 [] [.ptr 1 0]] (txB' (l ++ j) :: HCP w m) =
  Tree.chk (cl (LeL [.hs 0 0 (List.length l), .fn (119 : FuncId) [] [.ptr 1 0]] [.hs 0 0 (List.length l), .fn (119 : FuncId) [] [.ptr 1 0]] ∧ LeH [some (.arr 7 (List.length (l ++ j)) (lsF 
    Tx.c (l ++ j))), some (.row [.fn (105 : FuncId) [] [.ptr 2 0, .ptr 3 0]]), some (.row [.v (.string w)]), some (.row [.v (.int .i64 m)])] [some (.arr 7 (List.length (l ++ j)) (lsF 
    Tx.c (l ++ j))), some (.row [.fn (105 : FuncId) [] [.ptr 2 0, .ptr 3 0]]), some (.row [.v (.string w)]), some (.row [.v (.int .i64 m)])])) (.br true (.leaf (Ans.mk (.hs 0 0 
    (List.length l)) [some (.arr 7 (List.length (l ++ j)) (lsF Tx.c (l ++ j))), some (.row [.fn (105 : FuncId) [] [.ptr 2 0, .ptr 3 0]]), some (.row [.v (.string w)]), some (.row [.v 
    (.int .i64 m)])])) .fail) := by kernel_rfl
theorem runDfYP (l j : List Tx) (w : ByteArray) (m : Int) (q : Nat) (r : Nat × List Tx) (h : Answers Tryd.prog Γm 121 [.hs 0 0 l.length, .fn 119 [] [.ptr 1 0]] (txB' (l ++ j) :: HCP w m) (.v (.int .i64 (q : Int))) ((txB' (l ++ j) :: HCP w m).map some) []) : bodyE (P := Tryd.prog) (Γ := Γm) [CT.at 121 h] (fun _ => LSpec.at lvDf [] (SDfP l.length w m ⟨q, q + 1, l ++ j⟩) (ODfP l.length w m r)) false 42 [.tmp 4] (bodyOf Tryd.f118) [.hs 0 0 l.length, .fn 119 [] [.ptr 1 0]] (txB' (l ++ j) :: HCP w m) =
  Tree.chk (cl (LeL [.hs 0 0 (List.length l), .fn (119 : FuncId) [] [.ptr 1 0]] [.hs 0 0 (List.length l), .fn (119 : FuncId) [] [.ptr 1 0]] ∧ LeH [some (.arr 7 (List.length (l ++ j)) (lsF 
    Tx.c (l ++ j))), some (.row [.fn (105 : FuncId) [] [.ptr 2 0, .ptr 3 0]]), some (.row [.v (.string w)]), some (.row [.v (.int .i64 m)])] [some (.arr 7 (List.length (l ++ j)) (lsF 
    Tx.c (l ++ j))), some (.row [.fn (105 : FuncId) [] [.ptr 2 0, .ptr 3 0]]), some (.row [.v (.string w)]), some (.row [.v (.int .i64 m)])])) (.br (decide ((↑q : Int) = (-1 : Int))) 
    (.leaf (Ans.mk (.hs 0 0 (List.length l)) [some (.arr 7 (List.length (l ++ j)) (lsF Tx.c (l ++ j))), some (.row [.fn (105 : FuncId) [] [.ptr 2 0, .ptr 3 0]]), some (.row [.v 
    (.string w)]), some (.row [.v (.int .i64 m)])])) (.chk (cl (LeL [.hs 0 0 (List.length l), .fn (119 : FuncId) [] [.ptr 1 0], .v (.int .i64 (↑q : Int)), .v (.int .i64 (IntKind.wrap 
    IntKind.i64 ((↑q : Int) + (1 : Int))))] [.hs 0 0 (List.length l), .fn (119 : FuncId) [] [.ptr 1 0], .v (.int .i64 (↑q : Int)), .v (.int .i64 (↑(q + (1 : Nat)) : Int))] ∧ LeH [some 
    (.arr 7 (List.length (l ++ j)) (lsF Tx.c (l ++ j))), some (.row [.fn (105 : FuncId) [] [.ptr 2 0, .ptr 3 0]]), some (.row [.v (.string w)]), some (.row [.v (.int .i64 m)])] [some 
    (.arr 7 (List.length (XD.mk q (q + (1 : Nat)) (l ++ j)).L) (lsF Tx.c (XD.mk q (q + (1 : Nat)) (l ++ j)).L)), some (.row [.fn (105 : FuncId) [] [.ptr 2 0, .ptr 3 0]]), some (.row 
    [.v (.string w)]), some (.row [.v (.int .i64 m)])])) (.chk (decide ((0 : Int) ≤ (↑r.fst : Int)) && decide ((↑r.fst : Int) ≤ (↑(List.length l) : Int)) && decide ((↑(List.length l) : 
    Int) ≤ (↑(List.length l) : Int))) (.chk (decide ((↑(0 : Nat) : Int) ≤ (↑r.fst : Int)) && decide ((↑r.fst : Int) ≤ (↑(List.length l) : Int))) (.leaf (Ans.mk (.hs 0 0 r.fst) [some 
    (.arr 7 (List.length r.snd) fun j => mixL (decide ((0 : Nat) + r.fst ≤ j) && decide (j < (0 : Nat) + r.fst + (List.length l - r.fst))) [.v (.int .i64 (0 : Int)), .v (.string 
    (ByteArray.mk #[])), .v (.string (ByteArray.mk #[])), .v (.string (ByteArray.mk #[])), .v (.string (ByteArray.mk #[])), .v (.int .i64 (0 : Int)), .v (.int .i64 (0 : Int))] (lsF 
    Tx.c r.snd j)), some (.row [.fn (105 : FuncId) [] [.ptr 2 0, .ptr 3 0]]), some (.row [.v (.string w)]), some (.row [.v (.int .i64 m)])])))))) := by kernel_rfl
theorem ansDfP {l j : List Tx} {w : ByteArray} {m : Int} (hl : l.length ≤ 100000) : Answers Tryd.prog Γm 118 [.hs 0 0 l.length, .fn 119 [] [.ptr 1 0]] (txB' (l ++ j) :: HCP w m) (.hs 0 0 (keepL (pastB w m) l).length) ((txB' (keepL (pastB w m) l ++ junkL (pastB w m) l j) :: HCP w m).map some) [] := by
  have hX := ansXfP (l := l) (j := j) (w := w) (m := m) hl
  unfold xfV at hX
  have hL : (l ++ j).length = l.length + j.length := List.length_append
  by_cases hq : fD (pastB w m) l < l.length
  · rw [if_pos hq] at hX
    have hr := loopDfP (l := l) (w := w) (m := m) hl (r := dRun (pastB w m) (l.drop (fD (pastB w m) l + 1)) (fD (pastB w m) l) (l ++ j)) ⟨fD (pastB w m) l, fD (pastB w m) l + 1, l ++ j⟩ ⟨Nat.lt_succ_self _, hq, by dsimp only; omega, fun e _ he => getD_app he, rfl⟩
    obtain ⟨d1, d2, d3, d4⟩ := dRun_ok (pastB w m) (l.drop (fD (pastB w m) l + 1)) (fD (pastB w m) l) (fD (pastB w m) l + 1) (l ++ j) (by omega) (by rw [List.length_drop]; omega)
    have hK := keep_some (p := pastB w m) (l := l) (j := j) hq
    rw [← hK] at d3
    rw [show fD (pastB w m) l + 1 + (l.drop (fD (pastB w m) l + 1)).length = l.length by rw [List.length_drop]; omega, List.drop_left] at d4
    have hKl := keepL_le (pastB w m) l
    generalize hR : dRun (pastB w m) (l.drop (fD (pastB w m) l + 1)) (fD (pastB w m) l) (l ++ j) = r at *
    obtain ⟨iF, LF⟩ := r
    dsimp only at d1 d2 d3 d4
    have hiF : (keepL (pastB w m) l).length = iF := by
      rw [← d3, List.length_take]
      have := List.length_filter_le (fun t => !(pastB w m) t) (l.drop (fD (pastB w m) l + 1))
      rw [List.length_drop] at this
      omega
    have hc := Tx.cod.clr LF default (i := iF) (n := l.length) (N := LF.length) (m := l.length - iF) rfl (by omega) (by omega) rfl
    rw [d3, d4, ← hiF] at hc
    refine answers (fn := Tryd.f118) (c := bodyOf Tryd.f118) (ntmps := 42) (results := [.tmp 4]) [CT.at 121 hX] (fun _ => LSpec.at lvDf [] (SDfP l.length w m ⟨fD (pastB w m) l, fD (pastB w m) l + 1, l ++ j⟩) (ODfP l.length w m (iF, LF))) false Tryd.func118 (by kernel_rfl) (by kernel_rfl) (by kernel_rfl) (by kernel_rfl) (by simp) rfl (oneLoop (b := lpDf) (by kernel_rfl) hr) <| Meets.of (runDfYP l j w m (fD (pastB w m) l) (iF, LF) hX) <| ?_
    subst hiF
    have hw : IntKind.wrap IntKind.i64 ((fD (pastB w m) l : Int) + 1) = ((fD (pastB w m) l + 1 : Nat) : Int) := wrapUpN (by omega)
    repeat' (first | refine wC (by first | omega | (simp only [W1, cond_true, cond_false, hw]; first | done | omega)) ?_ | refine wT (by first | omega | (simp only [W1, cond_true, cond_false, hw]; first | done | omega)) ?_ | refine wF (by intro _h; first | omega | (simp only [W1, cond_true, cond_false, hw] at _h; first | done | omega)) ?_ | (refine wS ?_ ?_ <;> intro _h <;> simp only [W1, cond_true, cond_false, hw] at _h))
    all_goals simp only [W1, W2, owesN, owesX, owesR, cond_true, cond_false, hw]
    repeat' (first | apply And.intro | intro _hc)
    all_goals first | exact hc | exact AV.le_refl _ | exact AV.le_any _ | exact OLe.refl _ | exact OLe.none _ | exact LeH.refl _ | exact LeL.refl _ | exact AV.le.bs _ | exact AV.le.sb _ | omega | contradiction
  · rw [if_neg hq] at hX
    have hK := keep_none hq
    unfold junkL
    rw [hK, Nat.sub_self, List.replicate_zero, List.nil_append]
    refine answers (fn := Tryd.f118) (c := bodyOf Tryd.f118) (ntmps := 42) (results := [.tmp 4]) [CT.at 121 hX] (Lno) false Tryd.func118 (by kernel_rfl) (by kernel_rfl) (by kernel_rfl) (by kernel_rfl) (by simp) rfl (failOK fun _ _ _ => rfl) <| Meets.of (runDfNP l j w m hX) <| ?_
    repeat' (first | refine wC (by first | omega | (simp only [W1, cond_true, cond_false]; first | done | omega)) ?_ | refine wT (by first | omega | (simp only [W1, cond_true, cond_false]; first | done | omega)) ?_ | refine wF (by intro _h; first | omega | (simp only [W1, cond_true, cond_false] at _h; first | done | omega)) ?_ | (refine wS ?_ ?_ <;> intro _h <;> simp only [W1, cond_true, cond_false] at _h))
    all_goals simp only [W1, W2, owesN, owesX, owesR, cond_true, cond_false]
    repeat' (first | apply And.intro | intro _hc)
    all_goals first | exact AV.le_refl _ | exact AV.le_any _ | exact OLe.refl _ | exact OLe.none _ | exact LeH.refl _ | exact LeL.refl _ | exact AV.le.bs _ | exact AV.le.sb _ | omega | contradiction

end Go.Eng.TA

/- pool: each call; the document's pool. -/
namespace Go.Eng.TA
open Go Go.Eng Go.Eng.M Go.Lib Go.Proofs
set_option linter.unusedSimpArgs false
set_option linter.unusedVariables false
theorem runKpD (mo : Int) (l j d : List Tx) (h : Answers Tryd.prog Γm 118 [.hs 0 0 l.length, .fn 119 [] [.ptr 1 0]] (txB' (l ++ j) :: HCD d) (.hs 0 0 (keepL (hasT d) l).length) ((txB' (keepL (hasT d) l ++ junkL (hasT d) l j) :: HCD d).map some) []) : bodyE (P := Tryd.prog) (Γ := Γm) [CT.at 118 h] Lno false 29 [.tmp 4] (bodyOf Tryd.f103) [.ptr 0 0, .fn 104 [] [.ptr 2 0]] [plR 1 mo l.length, txB' (l ++ j), .row [.sl 7 d.length (lsF Tx.c d)]] =
  Tree.chk (cl (LeL [.hs 0 0 (List.length l), .fn (119 : Nat) [] [.ptr 1 0]] [.hs 0 0 (List.length l), .fn (119 : FuncId) [] [.ptr 1 0]] ∧ LeH [some (.arr 7 (List.length (l ++ j)) (lsF Tx.c 
    (l ++ j))), some (.row [.fn (104 : FuncId) [] [.ptr 2 0]]), some (.row [.sl 7 (List.length d) (lsF Tx.c d)])] [some (.arr 7 (List.length (l ++ j)) (lsF Tx.c (l ++ j))), some (.row 
    [.fn (104 : FuncId) [] [.ptr 2 0]]), some (.row [.sl 7 (List.length d) (lsF Tx.c d)])])) (.leaf (Ans.mk (.v (.int .i64 (IntKind.wrap IntKind.i64 ((↑(List.length l) : Int) - 
    (↑(List.length (keepL (hasT d) l)) : Int))))) [some (.row [.v (.int .i64 mo), .hs 1 0 (List.length (keepL (hasT d) l))]), some (.arr 7 (List.length (keepL (hasT d) l ++ junkL (hasT 
    d) l j)) (lsF Tx.c (keepL (hasT d) l ++ junkL (hasT d) l j))), some (.row [.sl 7 (List.length d) (lsF Tx.c d)])])) := by kernel_rfl
theorem ansKpD {mo : Int} {l j d : List Tx} (hd : d.length ≤ 100000) (hl : l.length ≤ 100000) : Answers Tryd.prog Γm 103 [.ptr 0 0, .fn 104 [] [.ptr 2 0]] [plR 1 mo l.length, txB' (l ++ j), .row [.sl 7 d.length (lsF Tx.c d)]] (.v (.int .i64 ((l.length : Int) - ((keepL (hasT d) l).length : Int)))) [some (plR 1 mo (keepL (hasT d) l).length), some (txB' (keepL (hasT d) l ++ junkL (hasT d) l j)), some (.row [.sl 7 d.length (lsF Tx.c d)])] [] :=
  answers (fn := Tryd.f103) (c := bodyOf Tryd.f103) (ntmps := 29) (results := [.tmp 4]) [CT.at 118 (ansDfD (l := l) (j := j) (d := d) hd hl)] Lno false Tryd.func103 (by kernel_rfl) (by kernel_rfl) (by kernel_rfl) (by kernel_rfl) (by simp) rfl (noLoops (by kernel_rfl)) <| Meets.of (runKpD mo l j d (ansDfD (l := l) (j := j) (d := d) hd hl)) <| by
    have hk := keepL_le (hasT d) l
    have hw : IntKind.wrap IntKind.i64 ((l.length : Int) - ((keepL (hasT d) l).length : Int)) = (l.length : Int) - ((keepL (hasT d) l).length : Int) := wrap64 (by omega) (by omega)
    repeat' (first | refine wC (by first | omega | (simp only [W1, cond_true, cond_false, hw]; first | done | omega)) ?_ | refine wT (by first | omega | (simp only [W1, cond_true, cond_false, hw]; first | done | omega)) ?_ | refine wF (by intro _h; first | omega | (simp only [W1, cond_true, cond_false, hw] at _h; first | done | omega)) ?_ | (refine wS ?_ ?_ <;> intro _h <;> simp only [W1, cond_true, cond_false, hw] at _h))
    all_goals simp only [W1, W2, owesN, owesX, owesR, cond_true, cond_false, hw]
    repeat' (first | apply And.intro | intro _hc)
    all_goals first | exact AV.le_refl _ | exact AV.le_any _ | exact OLe.refl _ | exact OLe.none _ | exact LeH.refl _ | exact LeL.refl _ | exact AV.le.bs _ | exact AV.le.sb _ | omega | contradiction
theorem runDr (mo : Int) (l j d : List Tx) (hd : d.length ≤ 100000) (hl : l.length ≤ 100000) : bodyE (P := Tryd.prog) (Γ := Γm) [CT.at 103 (ansKpD (mo := mo) (l := l) (j := j) (d := d) hd hl)] Lno false 8 [.tmp 4] (bodyOf Tryd.f56) [.ptr 0 0, .sl 7 d.length (lsF Tx.c d)] [plR 1 mo l.length, txB' (l ++ j)] =
  Tree.chk (cl (LeL [.ptr 0 0, .fn (104 : Nat) [] [.ptr 2 0]] [.ptr 0 0, .fn (104 : FuncId) [] [.ptr 2 0]] ∧ LeH [some (.row [.v (.int .i64 mo), .hs 1 0 (List.length l)]), some (.arr 7 
    (List.length (l ++ j)) (lsF Tx.c (l ++ j))), some (.row [.sl 7 (List.length d) (lsF Tx.c d)])] [some (.row [.v (.int .i64 mo), .hs 1 0 (List.length l)]), some (.arr 7 (List.length 
    (l ++ j)) (lsF Tx.c (l ++ j))), some (.row [.sl 7 (List.length d) (lsF Tx.c d)])])) (.leaf (Ans.mk (.v (.int .i64 ((↑(List.length l) : Int) - (↑(List.length (keepL (hasT d) l)) : 
    Int)))) [some (.row [.v (.int .i64 mo), .hs 1 0 (List.length (keepL (hasT d) l))]), some (.arr 7 (List.length (keepL (hasT d) l ++ junkL (hasT d) l j)) (lsF Tx.c (keepL (hasT d) l 
    ++ junkL (hasT d) l j)))])) := by kernel_rfl
theorem ansDr {mo : Int} {l j d : List Tx} (hd : d.length ≤ 100000) (hl : l.length ≤ 100000) : Answers Tryd.prog Γm 56 [.ptr 0 0, .sl 7 d.length (lsF Tx.c d)] [plR 1 mo l.length, txB' (l ++ j)] (.v (.int .i64 ((l.length : Int) - ((keepL (hasT d) l).length : Int)))) [some (plR 1 mo (keepL (hasT d) l).length), some (txB' (keepL (hasT d) l ++ junkL (hasT d) l j))] [] :=
  answers (fn := Tryd.f56) (c := bodyOf Tryd.f56) (ntmps := 8) (results := [.tmp 4]) [CT.at 103 (ansKpD (mo := mo) (l := l) (j := j) (d := d) hd hl)] Lno false Tryd.func56 (by kernel_rfl) (by kernel_rfl) (by kernel_rfl) (by kernel_rfl) (by simp) rfl (noLoops (by kernel_rfl)) <| Meets.of (runDr mo l j d hd hl) <| by
    repeat' (first | refine wC (by first | omega | (simp only [W1, cond_true, cond_false]; first | done | omega)) ?_ | refine wT (by first | omega | (simp only [W1, cond_true, cond_false]; first | done | omega)) ?_ | refine wF (by intro _h; first | omega | (simp only [W1, cond_true, cond_false] at _h; first | done | omega)) ?_ | (refine wS ?_ ?_ <;> intro _h <;> simp only [W1, cond_true, cond_false] at _h))
    all_goals simp only [W1, W2, owesN, owesX, owesR, cond_true, cond_false]
    repeat' (first | apply And.intro | intro _hc)
    all_goals first | exact AV.le_refl _ | exact AV.le_any _ | exact OLe.refl _ | exact OLe.none _ | exact LeH.refl _ | exact LeL.refl _ | exact AV.le.bs _ | exact AV.le.sb _ | omega | contradiction
theorem runKpP (mo : Int) (l j : List Tx) (w : ByteArray) (m : Int) (hl : l.length ≤ 100000) : bodyE (P := Tryd.prog) (Γ := Γm) [CT.at 118 (ansDfP (l := l) (j := j) (w := w) (m := m) hl)] Lno false 29 [.tmp 4] (bodyOf Tryd.f103) [.ptr 0 0, .fn 105 [] [.ptr 2 0, .ptr 3 0]] [plR 1 mo l.length, txB' (l ++ j), .row [.v (.string w)], .row [.v (.int .i64 m)]] =
  Tree.chk (cl (LeL [.hs 0 0 (List.length l), .fn (119 : Nat) [] [.ptr 1 0]] [.hs 0 0 (List.length l), .fn (119 : FuncId) [] [.ptr 1 0]] ∧ LeH [some (.arr 7 (List.length (l ++ j)) (lsF Tx.c 
    (l ++ j))), some (.row [.fn (105 : FuncId) [] [.ptr 2 0, .ptr 3 0]]), some (.row [.v (.string w)]), some (.row [.v (.int .i64 m)])] [some (.arr 7 (List.length (l ++ j)) (lsF Tx.c 
    (l ++ j))), some (.row [.fn (105 : FuncId) [] [.ptr 2 0, .ptr 3 0]]), some (.row [.v (.string w)]), some (.row [.v (.int .i64 m)])])) (.leaf (Ans.mk (.v (.int .i64 (IntKind.wrap 
    IntKind.i64 ((↑(List.length l) : Int) - (↑(List.length (keepL (pastB w m) l)) : Int))))) [some (.row [.v (.int .i64 mo), .hs 1 0 (List.length (keepL (pastB w m) l))]), some (.arr 7 
    (List.length (keepL (pastB w m) l ++ junkL (pastB w m) l j)) (lsF Tx.c (keepL (pastB w m) l ++ junkL (pastB w m) l j))), some (.row [.v (.string w)]), some (.row [.v (.int .i64 
    m)])])) := by kernel_rfl
theorem ansKpP {mo : Int} {l j : List Tx} {w : ByteArray} {m : Int} (hl : l.length ≤ 100000) : Answers Tryd.prog Γm 103 [.ptr 0 0, .fn 105 [] [.ptr 2 0, .ptr 3 0]] [plR 1 mo l.length, txB' (l ++ j), .row [.v (.string w)], .row [.v (.int .i64 m)]] (.v (.int .i64 ((l.length : Int) - ((keepL (pastB w m) l).length : Int)))) [some (plR 1 mo (keepL (pastB w m) l).length), some (txB' (keepL (pastB w m) l ++ junkL (pastB w m) l j)), some (.row [.v (.string w)]), some (.row [.v (.int .i64 m)])] [] :=
  answers (fn := Tryd.f103) (c := bodyOf Tryd.f103) (ntmps := 29) (results := [.tmp 4]) [CT.at 118 (ansDfP (l := l) (j := j) (w := w) (m := m) hl)] Lno false Tryd.func103 (by kernel_rfl) (by kernel_rfl) (by kernel_rfl) (by kernel_rfl) (by simp) rfl (noLoops (by kernel_rfl)) <| Meets.of (runKpP mo l j w m hl) <| by
    have hk := keepL_le (pastB w m) l
    have hw : IntKind.wrap IntKind.i64 ((l.length : Int) - ((keepL (pastB w m) l).length : Int)) = (l.length : Int) - ((keepL (pastB w m) l).length : Int) := wrap64 (by omega) (by omega)
    repeat' (first | refine wC (by first | omega | (simp only [W1, cond_true, cond_false, hw]; first | done | omega)) ?_ | refine wT (by first | omega | (simp only [W1, cond_true, cond_false, hw]; first | done | omega)) ?_ | refine wF (by intro _h; first | omega | (simp only [W1, cond_true, cond_false, hw] at _h; first | done | omega)) ?_ | (refine wS ?_ ?_ <;> intro _h <;> simp only [W1, cond_true, cond_false, hw] at _h))
    all_goals simp only [W1, W2, owesN, owesX, owesR, cond_true, cond_false, hw]
    repeat' (first | apply And.intro | intro _hc)
    all_goals first | exact AV.le_refl _ | exact AV.le_any _ | exact OLe.refl _ | exact OLe.none _ | exact LeH.refl _ | exact LeL.refl _ | exact AV.le.bs _ | exact AV.le.sb _ | omega | contradiction
theorem runPa (mo : Int) (l j : List Tx) (w : ByteArray) (m : Int) (hl : l.length ≤ 100000) : bodyE (P := Tryd.prog) (Γ := Γm) [CT.at 103 (ansKpP (mo := mo) (l := l) (j := j) (w := w) (m := m) hl)] Lno false 10 [.tmp 6] (bodyOf Tryd.f58) [.ptr 0 0, .v (.string w), .v (.int .i64 m)] [plR 1 mo l.length, txB' (l ++ j)] =
  Tree.chk (cl (LeL [.ptr 0 0, .fn (105 : Nat) [] [.ptr 2 0, .ptr 3 0]] [.ptr 0 0, .fn (105 : FuncId) [] [.ptr 2 0, .ptr 3 0]] ∧ LeH [some (.row [.v (.int .i64 mo), .hs 1 0 (List.length l)]), 
    some (.arr 7 (List.length (l ++ j)) (lsF Tx.c (l ++ j))), some (.row [.v (.string w)]), some (.row [.v (.int .i64 m)])] [some (.row [.v (.int .i64 mo), .hs 1 0 (List.length l)]), 
    some (.arr 7 (List.length (l ++ j)) (lsF Tx.c (l ++ j))), some (.row [.v (.string w)]), some (.row [.v (.int .i64 m)])])) (.leaf (Ans.mk (.v (.int .i64 ((↑(List.length l) : Int) - 
    (↑(List.length (keepL (pastB w m) l)) : Int)))) [some (.row [.v (.int .i64 mo), .hs 1 0 (List.length (keepL (pastB w m) l))]), some (.arr 7 (List.length (keepL (pastB w m) l ++ 
    junkL (pastB w m) l j)) (lsF Tx.c (keepL (pastB w m) l ++ junkL (pastB w m) l j)))])) := by kernel_rfl
theorem ansPa {mo : Int} {l j : List Tx} {w : ByteArray} {m : Int} (hl : l.length ≤ 100000) : Answers Tryd.prog Γm 58 [.ptr 0 0, .v (.string w), .v (.int .i64 m)] [plR 1 mo l.length, txB' (l ++ j)] (.v (.int .i64 ((l.length : Int) - ((keepL (pastB w m) l).length : Int)))) [some (plR 1 mo (keepL (pastB w m) l).length), some (txB' (keepL (pastB w m) l ++ junkL (pastB w m) l j))] [] :=
  answers (fn := Tryd.f58) (c := bodyOf Tryd.f58) (ntmps := 10) (results := [.tmp 6]) [CT.at 103 (ansKpP (mo := mo) (l := l) (j := j) (w := w) (m := m) hl)] Lno false Tryd.func58 (by kernel_rfl) (by kernel_rfl) (by kernel_rfl) (by kernel_rfl) (by simp) rfl (noLoops (by kernel_rfl)) <| Meets.of (runPa mo l j w m hl) <| by
    repeat' (first | refine wC (by first | omega | (simp only [W1, cond_true, cond_false]; first | done | omega)) ?_ | refine wT (by first | omega | (simp only [W1, cond_true, cond_false]; first | done | omega)) ?_ | refine wF (by intro _h; first | omega | (simp only [W1, cond_true, cond_false] at _h; first | done | omega)) ?_ | (refine wS ?_ ?_ <;> intro _h <;> simp only [W1, cond_true, cond_false] at _h))
    all_goals simp only [W1, W2, owesN, owesX, owesR, cond_true, cond_false]
    repeat' (first | apply And.intro | intro _hc)
    all_goals first | exact AV.le_refl _ | exact AV.le_any _ | exact OLe.refl _ | exact OLe.none _ | exact LeH.refl _ | exact LeL.refl _ | exact AV.le.bs _ | exact AV.le.sb _ | omega | contradiction
/-! ### the document's -/
def plV (i : Nat) (mo : Int) (n : Nat) : AV := .agg [.v (.int .i64 mo), .hs i 0 n]
noncomputable def kAddR : CT Tryd.prog Γm := CT.auto false 3 3 [kTxR, kHs] 53 Tryd.f53 (bodyOf Tryd.f53) false 32 [.cell 4 74, .tmp 5] Tryd.func53 (by kernel_rfl) (by kernel_rfl) (by kernel_rfl) (by kernel_rfl)
noncomputable abbrev lpRd : Code := loopOf (bodyOf Tryd.f55) 0
abbrev lvRd : List Nat := [1, 2, 4, 5, 6]
structure XO where
  i : Nat
  out : List Tx
def SRd (mo : Int) (l j d : List Tx) (x : XO) : List AV × Heap := ([.sl 7 d.length (lsF Tx.c d), .ptr 1 0, .ptr 2 0, .hs 3 0 x.out.length, .v (.int .i64 (x.i : Int))], [some (txB' (l ++ j)), some (plR 0 mo l.length), some (.row [.any, .any]), some (txB' x.out)])
theorem rRd (mo : Int) (l j d : List Tx) (x : XO) : roundE (P := Tryd.prog) (Γ := Γm) [kHs] Lno false 1 0 lpRd lvRd [(3, 40)] 34 (SRd mo l j d x).1 (SRd mo l j d x).2 =
  Tree.br (decide ((↑x.i : Int) < (↑(List.length l) : Int))) (.chk (decide ((0 : Int) ≤ (↑x.i : Int)) && decide ((↑x.i : Int) < (↑(List.length l) : Int)) && cl ((isTx (lsF Tx.c d) ∧ 
    List.length d ≤ (1000000000 : Nat)) ∧ LeL [.sl 7 (List.length d) (lsF Tx.c d), .agg [.v (.int .i64 (List.getD (l ++ j) ((0 : Nat) + x.i) default).k), .v (.string (List.getD (l ++ 
    j) ((0 : Nat) + x.i) default).fr), .v (.string (List.getD (l ++ j) ((0 : Nat) + x.i) default).to), .v (.string (List.getD (l ++ j) ((0 : Nat) + x.i) default).ky), .v (.string 
    (List.getD (l ++ j) ((0 : Nat) + x.i) default).vl), .v (.int .i64 (List.getD (l ++ j) ((0 : Nat) + x.i) default).am), .v (.int .i64 (List.getD (l ++ j) ((0 : Nat) + x.i) 
    default).nn)]] [.sl 7 (List.length d) (lsF Tx.c d), .agg [.v (.int .i64 (List.getD (l ++ j) ((0 : Nat) + x.i) default).k), .v (.string (List.getD (l ++ j) ((0 : Nat) + x.i) 
    default).fr), .v (.string (List.getD (l ++ j) ((0 : Nat) + x.i) default).to), .v (.string (List.getD (l ++ j) ((0 : Nat) + x.i) default).ky), .v (.string (List.getD (l ++ j) ((0 : 
    Nat) + x.i) default).vl), .v (.int .i64 (List.getD (l ++ j) ((0 : Nat) + x.i) default).am), .v (.int .i64 (List.getD (l ++ j) ((0 : Nat) + x.i) default).nn)]] ∧ LeH [] [])) (.br 
    (!hasF (List.length d) (lsF Tx.c d) (Tx.mk (List.getD (l ++ j) ((0 : Nat) + x.i) default).k (List.getD (l ++ j) ((0 : Nat) + x.i) default).fr (List.getD (l ++ j) ((0 : Nat) + x.i) 
    default).to (List.getD (l ++ j) ((0 : Nat) + x.i) default).ky (List.getD (l ++ j) ((0 : Nat) + x.i) default).vl (List.getD (l ++ j) ((0 : Nat) + x.i) default).am (List.getD (l ++ 
    j) ((0 : Nat) + x.i) default).nn)) (.chk (decide ((0 : Int) ≤ (↑x.i : Int)) && decide ((↑x.i : Int) < (↑(List.length l) : Int))) (.chk (roomOk (88 : Nat) (List.length x.out + (1 : 
    Nat))) (.leaf (.mk .normal [.sl 7 (List.length d) (lsF Tx.c d), .ptr 1 0, .ptr 2 0, .hs 3 0 (List.length x.out + (1 : Nat)), .v (.int .i64 (IntKind.wrap IntKind.i64 ((↑x.i : Int) + 
    (1 : Int))))] [some (.arr 7 (List.length (l ++ j)) (lsF Tx.c (l ++ j))), some (.row [.v (.int .i64 mo), .hs 0 0 (List.length l)]), some (.row [.any, .any]), some (.arr 7 
    (List.length x.out + (1 : Nat)) fun j_1 => mixL (decide (j_1 < List.length x.out)) (lsF Tx.c x.out ((0 : Nat) + j_1)) (chain [.v (.int .i64 (0 : Int)), .v (.string (ByteArray.mk 
    #[])), .v (.string (ByteArray.mk #[])), .v (.string (ByteArray.mk #[])), .v (.string (ByteArray.mk #[])), .v (.int .i64 (0 : Int)), .v (.int .i64 (0 : Int))] (0 : Nat) [[.v (.int 
    .i64 (List.getD (l ++ j) ((0 : Nat) + x.i) default).k), .v (.string (List.getD (l ++ j) ((0 : Nat) + x.i) default).fr), .v (.string (List.getD (l ++ j) ((0 : Nat) + x.i) 
    default).to), .v (.string (List.getD (l ++ j) ((0 : Nat) + x.i) default).ky), .v (.string (List.getD (l ++ j) ((0 : Nat) + x.i) default).vl), .v (.int .i64 (List.getD (l ++ j) ((0 
    : Nat) + x.i) default).am), .v (.int .i64 (List.getD (l ++ j) ((0 : Nat) + x.i) default).nn)]] ((0 : Nat) + (j_1 - List.length x.out))))])))) (.leaf (.mk .normal [.sl 7 
    (List.length d) (lsF Tx.c d), .ptr 1 0, .ptr 2 0, .hs 3 0 (List.length x.out), .v (.int .i64 (IntKind.wrap IntKind.i64 ((↑x.i : Int) + (1 : Int))))] [some (.arr 7 (List.length (l 
    ++ j)) (lsF Tx.c (l ++ j))), some (.row [.v (.int .i64 mo), .hs 0 0 (List.length l)]), some (.row [.any, .any]), some (.arr 7 (List.length x.out) (lsF Tx.c x.out))])))) (.leaf (.mk 
    (.exit 0) [.sl 7 (List.length d) (lsF Tx.c d), .ptr 1 0, .ptr 2 0, .hs 3 0 (List.length x.out), .v (.int .i64 (↑x.i : Int))] [some (.arr 7 (List.length (l ++ j)) (lsF Tx.c (l ++ 
    j))), some (.row [.v (.int .i64 mo), .hs 0 0 (List.length l)]), some (.row [.any, .any]), some (.arr 7 (List.length x.out) (lsF Tx.c x.out))])) := by kernel_rfl
end Go.Eng.TA

/- PoolBatch: the law. -/
namespace Go.Eng.TA
open Go Go.Eng Go.Eng.M Go.Lib Go.Proofs
set_option linter.unusedSimpArgs false
set_option linter.unusedVariables false
/-! ### what a batch is -/
def sameTurn (a b : Tx) : Prop := a.fr = b.fr ∧ a.nn = b.nn
structure BaOK (w : List Tx) (n : Int) (P out : List Tx) (done : List Tx) : Prop where
  mem : ∀ u ∈ out, u ∈ P ∧ hasT w u = false
  two : ∀ k i, k < i → i < out.length → ¬ sameTurn (out.getD k default) (out.getD i default)
  few : (out.length : Int) ≤ max n 0
  all : (out.length : Int) < n → ∀ u ∈ done, hasT w u = true ∨ turnB out u.fr u.nn = true
theorem turnB_iff {out : List Tx} {w : ByteArray} {n : Int} : turnB out w n = true ↔ ∃ u ∈ out, u.fr = w ∧ u.nn = n := by
  unfold turnB
  rw [List.any_eq_true]
  simp
theorem bstep_ok {w : List Tx} {n : Int} {P out done : List Tx} {t : Tx} (h : BaOK w n P out done) (ht : t ∈ P) : BaOK w n P (bstep w n out t) (done ++ [t]) := by
  obtain ⟨h1, h2, h3, h4⟩ := h
  unfold bstep
  by_cases hc : turnB out t.fr t.nn = true ∨ hasT w t = true ∨ n ≤ out.length
  · rw [if_pos hc]
    refine ⟨h1, h2, h3, fun hl u hu => ?_⟩
    rcases List.mem_append.1 hu with hu | hu
    · exact h4 hl u hu
    · obtain rfl := List.mem_singleton.1 hu
      rcases hc with hc | hc | hc
      · exact .inr hc
      · exact .inl hc
      · omega
  · rw [if_neg hc]
    have c1 : ¬ turnB out t.fr t.nn = true := fun e => hc (.inl e)
    have c2 : ¬ hasT w t = true := fun e => hc (.inr (.inl e))
    have c3 : ¬ n ≤ out.length := fun e => hc (.inr (.inr e))
    refine ⟨fun u hu => ?_, fun k i hk hi hs => ?_, by simp; omega, fun hl u hu => ?_⟩
    · rcases List.mem_append.1 hu with hu | hu
      · exact h1 u hu
      · obtain rfl := List.mem_singleton.1 hu
        exact ⟨ht, by simpa using c2⟩
    · rw [List.length_append, List.length_singleton] at hi
      have hk' : k < out.length := by omega
      rw [getD_app hk'] at hs
      rcases Nat.lt_or_ge i out.length with hi' | hi'
      · rw [getD_app hi'] at hs
        exact h2 k i hk hi' hs
      · obtain rfl : i = out.length := by omega
        rw [getD_app' (Nat.le_refl _), Nat.sub_self] at hs
        exact c1 (turnB_iff.2 ⟨_, by rw [getD_get hk']; exact List.getElem_mem hk', hs.1, hs.2⟩)
    · rw [List.length_append, List.length_singleton] at hl
      rw [turnB_app]
      rcases List.mem_append.1 hu with hu | hu
      · rcases h4 (by omega) u hu with h | h
        · exact .inl h
        · exact .inr (by rw [h]; rfl)
      · obtain rfl := List.mem_singleton.1 hu
        exact .inr (by simp)
theorem bat_ok {w : List Tx} {n : Int} {P : List Tx} : ∀ {l out done : List Tx}, (∀ t ∈ l, t ∈ P) → BaOK w n P out done → BaOK w n P (batF w n l out) (done ++ l) := by
  intro l
  induction l with
  | nil => intro out done _ h; rw [List.append_nil]; exact h
  | cons t l ih =>
    intro out done hm h
    have := ih (fun u hu => hm u (List.mem_cons_of_mem _ hu)) (bstep_ok h (hm t (List.mem_cons_self ..)))
    rw [List.append_assoc] at this
    exact this
theorem bat_all (w : List Tx) (n : Int) (P : List Tx) : BaOK w n P (batF w n P []) P := by
  have := bat_ok (w := w) (n := n) (P := P) (l := P) (out := []) (done := []) (fun _ h => h) ⟨fun u hu => absurd hu List.not_mem_nil, fun k i _ hi => absurd hi (Nat.not_lt_zero _), by show ((0 : Nat) : Int) ≤ _; omega, fun _ u hu => absurd hu List.not_mem_nil⟩
  rw [List.nil_append] at this
  exact this
/-! ### the law's loops -/
noncomputable abbrev lp11 (j : Nat) : Code := loopOf (bodyOf Tryd.f11) j
structure X11 where
  mo : Int
  l : List Tx
  w : List Tx
  n : Int
def addP (mo : Int) (P : List Tx) (t : Tx) : List Tx := if txB t = false ∨ hasT P t = true ∨ (P.length : Int) = mo then P else P ++ [t]
def addsP (mo : Int) (l P : List Tx) : List Tx := l.foldl (addP mo) P
abbrev lvA0 : List Nat := [0, 1, 2, 3, 9, 11]
abbrev nlA0 : List (Nat × TypeId) := [(204, 40)]
structure XA where
  i : Nat
  P : List Tx
def SA0 (y : X11) (x : XA) : List AV × Heap := ([.v (.int .i64 y.mo), .sl 7 y.l.length (lsF Tx.c y.l), .sl 7 y.w.length (lsF Tx.c y.w), .v (.int .i64 y.n), .ptr 0 0, .v (.int .i64 (x.i : Int))], [some (plR 1 y.mo x.P.length), some (txB' x.P)])
def OA0 (y : X11) (P : List Tx) : Out := ⟨.exit 0, [.v (.int .i64 y.mo), .any, .sl 7 y.w.length (lsF Tx.c y.w), .v (.int .i64 y.n), .ptr 0 0, .any], [some (plR 1 y.mo P.length), some (txB' P)]⟩
theorem rA0 (y : X11) (x : XA) : roundE (P := Tryd.prog) (Γ := Γm) [kAddP] Lno false 0 0 (lp11 0) lvA0 nlA0 174 (SA0 y x).1 (SA0 y x).2 =
  Tree.br (decide ((↑x.i : Int) < (↑(List.length y.l) : Int))) (Tree.chk (decide ((0 : Int) ≤ (↑x.i : Int)) && decide ((↑x.i : Int) < (↑(List.length y.l) : Int))) (Tree.chk (cl (smallT (Tx.mk
    (List.getD y.l x.i default).k (List.getD y.l x.i default).fr (List.getD y.l x.i default).to (List.getD y.l x.i default).ky (List.getD y.l x.i default).vl (List.getD y.l x.i default).am
    (List.getD y.l x.i default).nn) ∧ LeL [AV.agg [AV.v (Value.int IntKind.i64 (List.getD y.l x.i default).k), AV.v (Value.string (List.getD y.l x.i default).fr), AV.v (Value.string
    (List.getD y.l x.i default).to), AV.v (Value.string (List.getD y.l x.i default).ky), AV.v (Value.string (List.getD y.l x.i default).vl), AV.v (Value.int IntKind.i64 (List.getD y.l x.i
    default).am), AV.v (Value.int IntKind.i64 (List.getD y.l x.i default).nn)]] [AV.agg [AV.v (Value.int IntKind.i64 (List.getD y.l x.i default).k), AV.v (Value.string (List.getD y.l x.i
    default).fr), AV.v (Value.string (List.getD y.l x.i default).to), AV.v (Value.string (List.getD y.l x.i default).ky), AV.v (Value.string (List.getD y.l x.i default).vl), AV.v (Value.int
    IntKind.i64 (List.getD y.l x.i default).am), AV.v (Value.int IntKind.i64 (List.getD y.l x.i default).nn)]] ∧ LeH [] [])) (Tree.br (!decide (erT (txB (Tx.mk (List.getD y.l x.i default).k
    (List.getD y.l x.i default).fr (List.getD y.l x.i default).to (List.getD y.l x.i default).ky (List.getD y.l x.i default).vl (List.getD y.l x.i default).am (List.getD y.l x.i
    default).nn)) = (0 : Int))) (Tree.leaf (Out.mk AEx.normal [AV.v (Value.int IntKind.i64 y.mo), AV.sl (7 : Nat) (List.length y.l) (lsF Tx.c y.l), AV.sl (7 : Nat) (List.length y.w) (lsF
    Tx.c y.w), AV.v (Value.int IntKind.i64 y.n), AV.ptr (0 : Nat) (0 : Nat), AV.v (Value.int IntKind.i64 (IntKind.wrap IntKind.i64 ((↑x.i : Int) + (1 : Int))))] [some (Blk.row [AV.v
    (Value.int IntKind.i64 y.mo), AV.hs (1 : Nat) (0 : Nat) (List.length x.P)]), some (Blk.arr (7 : Nat) (List.length x.P) (lsF Tx.c x.P))])) (Tree.chk (cl ((isTx (lsF Tx.c x.P) ∧
    List.length x.P ≤ List.length x.P ∧ List.length x.P ≤ (1000000000 : Nat)) ∧ LeL [AV.hs (0 : Nat) (0 : Nat) (List.length x.P), AV.agg [AV.v (Value.int IntKind.i64 (List.getD y.l x.i
    default).k), AV.v (Value.string (List.getD y.l x.i default).fr), AV.v (Value.string (List.getD y.l x.i default).to), AV.v (Value.string (List.getD y.l x.i default).ky), AV.v
    (Value.string (List.getD y.l x.i default).vl), AV.v (Value.int IntKind.i64 (List.getD y.l x.i default).am), AV.v (Value.int IntKind.i64 (List.getD y.l x.i default).nn)]] [AV.hs (0 : Nat)
    (0 : Nat) (List.length x.P), AV.agg [AV.v (Value.int IntKind.i64 (List.getD y.l x.i default).k), AV.v (Value.string (List.getD y.l x.i default).fr), AV.v (Value.string (List.getD y.l x.i
    default).to), AV.v (Value.string (List.getD y.l x.i default).ky), AV.v (Value.string (List.getD y.l x.i default).vl), AV.v (Value.int IntKind.i64 (List.getD y.l x.i default).am), AV.v
    (Value.int IntKind.i64 (List.getD y.l x.i default).nn)]] ∧ LeH [some (Blk.arr (7 : Nat) (List.length x.P) (lsF Tx.c x.P))] [some (Blk.arr (7 : Nat) (List.length x.P) (lsF Tx.c x.P))]))
    (Tree.br (hasF (List.length x.P) (lsF Tx.c x.P) (Tx.mk (List.getD y.l x.i default).k (List.getD y.l x.i default).fr (List.getD y.l x.i default).to (List.getD y.l x.i default).ky
    (List.getD y.l x.i default).vl (List.getD y.l x.i default).am (List.getD y.l x.i default).nn)) (Tree.leaf (Out.mk AEx.normal [AV.v (Value.int IntKind.i64 y.mo), AV.sl (7 : Nat)
    (List.length y.l) (lsF Tx.c y.l), AV.sl (7 : Nat) (List.length y.w) (lsF Tx.c y.w), AV.v (Value.int IntKind.i64 y.n), AV.ptr (0 : Nat) (0 : Nat), AV.v (Value.int IntKind.i64
    (IntKind.wrap IntKind.i64 ((↑x.i : Int) + (1 : Int))))] [some (Blk.row [AV.v (Value.int IntKind.i64 y.mo), AV.hs (1 : Nat) (0 : Nat) (List.length x.P)]), some (Blk.arr (7 : Nat)
    (List.length x.P) (lsF Tx.c x.P))])) (Tree.br (decide ((↑(List.length x.P) : Int) = y.mo)) (Tree.leaf (Out.mk AEx.normal [AV.v (Value.int IntKind.i64 y.mo), AV.sl (7 : Nat) (List.length
    y.l) (lsF Tx.c y.l), AV.sl (7 : Nat) (List.length y.w) (lsF Tx.c y.w), AV.v (Value.int IntKind.i64 y.n), AV.ptr (0 : Nat) (0 : Nat), AV.v (Value.int IntKind.i64 (IntKind.wrap IntKind.i64
    ((↑x.i : Int) + (1 : Int))))] [some (Blk.row [AV.v (Value.int IntKind.i64 y.mo), AV.hs (1 : Nat) (0 : Nat) (List.length x.P)]), some (Blk.arr (7 : Nat) (List.length x.P) (lsF Tx.c
    x.P))])) (Tree.chk (roomOk (88 : Nat) (List.length x.P + (1 : Nat))) (Tree.leaf (Out.mk AEx.normal [AV.v (Value.int IntKind.i64 y.mo), AV.sl (7 : Nat) (List.length y.l) (lsF Tx.c y.l),
    AV.sl (7 : Nat) (List.length y.w) (lsF Tx.c y.w), AV.v (Value.int IntKind.i64 y.n), AV.ptr (0 : Nat) (0 : Nat), AV.v (Value.int IntKind.i64 (IntKind.wrap IntKind.i64 ((↑x.i : Int) + (1 :
    Int))))] [some (Blk.row [AV.v (Value.int IntKind.i64 y.mo), AV.hs (1 : Nat) (0 : Nat) (List.length x.P + (1 : Nat))]), some (Blk.arr (7 : Nat) (List.length x.P + (1 : Nat)) fun j => mixL
    (decide (j < List.length x.P)) (lsF Tx.c x.P ((0 : Nat) + j)) (chain [AV.v (Value.int IntKind.i64 (0 : Int)), AV.v (Value.string (ByteArray.mk #[])), AV.v (Value.string (ByteArray.mk
    #[])), AV.v (Value.string (ByteArray.mk #[])), AV.v (Value.string (ByteArray.mk #[])), AV.v (Value.int IntKind.i64 (0 : Int)), AV.v (Value.int IntKind.i64 (0 : Int))] (0 : Nat) [[AV.v
    (Value.int IntKind.i64 (List.getD y.l x.i default).k), AV.v (Value.string (List.getD y.l x.i default).fr), AV.v (Value.string (List.getD y.l x.i default).to), AV.v (Value.string
    (List.getD y.l x.i default).ky), AV.v (Value.string (List.getD y.l x.i default).vl), AV.v (Value.int IntKind.i64 (List.getD y.l x.i default).am), AV.v (Value.int IntKind.i64 (List.getD
    y.l x.i default).nn)]] ((0 : Nat) + (j - List.length x.P))))]))))))))) (Tree.leaf (Out.mk (AEx.exit (0 : Nat)) [AV.v (Value.int IntKind.i64 y.mo), AV.sl (7 : Nat) (List.length y.l) (lsF
    Tx.c y.l), AV.sl (7 : Nat) (List.length y.w) (lsF Tx.c y.w), AV.v (Value.int IntKind.i64 y.n), AV.ptr (0 : Nat) (0 : Nat), AV.v (Value.int IntKind.i64 (↑x.i : Int))] [some (Blk.row [AV.v
    (Value.int IntKind.i64 y.mo), AV.hs (1 : Nat) (0 : Nat) (List.length x.P)]), some (Blk.arr (7 : Nat) (List.length x.P) (lsF Tx.c x.P))])) := by kernel_rfl
theorem erT0 (b : Bool) : decide (erT b = 0) = b := by cases b <;> rfl
theorem gr_small {l : List Tx} (h : grL l = false) : l.length ≤ 60 ∧ ∀ i, i < l.length → smallT (l.getD i default) := by
  unfold grL at h
  rw [Bool.or_eq_false_iff] at h
  refine ⟨by have := of_decide_eq_false h.1; omega, fun i hi => ?_⟩
  have h2 := h.2
  rw [List.any_eq_false] at h2
  have h3 := h2 _ (List.getElem_mem hi)
  rw [← getD_get hi] at h3
  unfold grT at h3
  simp only [decide_eq_true_eq] at h3
  unfold smallT
  omega
theorem loopA0 {y : X11} (hl : y.l.length ≤ 60) (hsm : ∀ i, i < y.l.length → smallT (y.l.getD i default)) {res : List Tx} : ∀ x : XA, (x.i ≤ y.l.length ∧ x.P.length ≤ x.i ∧ addsP y.mo (y.l.drop x.i) x.P = res) → LoopOK Tryd.prog Γm 0 174 (lp11 0) (LSpec.at lvA0 nlA0 (SA0 y x) (OA0 y res)) := by
  refine loop_at (S := SA0 y) (O := fun _ => OA0 y res) (k := 0) (fun x => y.l.length - x.i) fun x hp => .of (L := Lno) (failOK fun _ _ _ => rfl) (rA0 y x) ?_
  obtain ⟨i, P⟩ := x
  obtain ⟨h1, h2, h3⟩ := hp
  dsimp only at h1 h2 h3
  rcases Nat.lt_or_ge i y.l.length with hi | hi
  · have hd : y.l.drop i = y.l.getD i default :: y.l.drop (i + 1) := by rw [List.drop_eq_getElem_cons hi, getD_get hi]
    rw [hd] at h3
    have h3 : addsP y.mo (y.l.drop (i + 1)) (addP y.mo P (y.l.getD i default)) = res := h3
    have hs := hsm i hi
    have hx : Tx.mk (y.l.getD i default).k (y.l.getD i default).fr (y.l.getD i default).to (y.l.getD i default).ky (y.l.getD i default).vl (y.l.getD i default).am (y.l.getD i default).nn = y.l.getD i default := rfl
    have hg : isTx (lsF Tx.c P) := isTx_ls P
    simp only [Nat.zero_add, Int.toNat_natCast]
    generalize y.l.getD i default = t at *
    cases hb : txB t with
    | false =>
      have he : addP y.mo P t = P := if_pos (.inl hb)
      rw [he] at h3
      repeat' (first | refine wC (by first | omega | (simp only [W1, cond_true, cond_false, hx, erT0, hb, hs, wrapUpN (show i ≤ 10000000000 by omega)]; first | done | omega)) ?_ | refine wT (by first | omega | (simp only [W1, cond_true, cond_false, hx, erT0, hb, hs, wrapUpN (show i ≤ 10000000000 by omega)]; first | done | omega)) ?_ | refine wF (by intro _h; first | omega | (simp only [W1, cond_true, cond_false, hx, erT0, hb, hs, wrapUpN (show i ≤ 10000000000 by omega)] at _h; first | done | omega)) ?_ | (refine wS ?_ ?_ <;> intro _h <;> simp only [W1, cond_true, cond_false, hx, erT0, hb, hs, wrapUpN (show i ≤ 10000000000 by omega)] at _h))
      all_goals simp only [W1, W2, owesN, owesX, owesR, cond_true, cond_false, hx, erT0, hb, hs, wrapUpN (show i ≤ 10000000000 by omega)]
      repeat' (first | apply And.intro | intro _hc)
      all_goals first | exact ⟨⟨i + 1, P⟩, LeL.refl _, LeH.refl _, ⟨hi, by dsimp only; omega, h3⟩, by dsimp only; omega⟩ | exact AV.le_refl _ | exact AV.le_any _ | exact OLe.refl _ | exact OLe.none _ | exact LeH.refl _ | exact LeL.refl _ | exact AV.le.bs _ | exact AV.le.sb _ | omega | contradiction
    | true =>
      cases hh : hasT P t with
      | true =>
        have he : addP y.mo P t = P := if_pos (.inr (.inl hh))
        rw [he] at h3
        repeat' (first | refine wC (by first | omega | (simp only [W1, cond_true, cond_false, hx, erT0, hb, hs, hg, hasF_l, hh, wrapUpN (show i ≤ 10000000000 by omega)]; first | done | omega)) ?_ | refine wT (by first | omega | (simp only [W1, cond_true, cond_false, hx, erT0, hb, hs, hg, hasF_l, hh, wrapUpN (show i ≤ 10000000000 by omega)]; first | done | omega)) ?_ | refine wF (by intro _h; first | omega | (simp only [W1, cond_true, cond_false, hx, erT0, hb, hs, hg, hasF_l, hh, wrapUpN (show i ≤ 10000000000 by omega)] at _h; first | done | omega)) ?_ | (refine wS ?_ ?_ <;> intro _h <;> simp only [W1, cond_true, cond_false, hx, erT0, hb, hs, hg, hasF_l, hh, wrapUpN (show i ≤ 10000000000 by omega)] at _h))
        all_goals simp only [W1, W2, owesN, owesX, owesR, cond_true, cond_false, hx, erT0, hb, hs, hg, hasF_l, hh, wrapUpN (show i ≤ 10000000000 by omega)]
        repeat' (first | apply And.intro | intro _hc)
        all_goals first | exact ⟨⟨i + 1, P⟩, LeL.refl _, LeH.refl _, ⟨hi, by dsimp only; omega, h3⟩, by dsimp only; omega⟩ | exact AV.le_refl _ | exact AV.le_any _ | exact OLe.refl _ | exact OLe.none _ | exact LeH.refl _ | exact LeL.refl _ | exact AV.le.bs _ | exact AV.le.sb _ | omega | contradiction
      | false =>
        by_cases hm : (P.length : Int) = y.mo
        · have he : addP y.mo P t = P := if_pos (.inr (.inr hm))
          rw [he] at h3
          repeat' (first | refine wC (by first | omega | (simp only [W1, cond_true, cond_false, hx, erT0, hb, hs, hg, hasF_l, hh, wrapUpN (show i ≤ 10000000000 by omega)]; first | done | omega)) ?_ | refine wT (by first | omega | (simp only [W1, cond_true, cond_false, hx, erT0, hb, hs, hg, hasF_l, hh, wrapUpN (show i ≤ 10000000000 by omega)]; first | done | omega)) ?_ | refine wF (by intro _h; first | omega | (simp only [W1, cond_true, cond_false, hx, erT0, hb, hs, hg, hasF_l, hh, wrapUpN (show i ≤ 10000000000 by omega)] at _h; first | done | omega)) ?_ | (refine wS ?_ ?_ <;> intro _h <;> simp only [W1, cond_true, cond_false, hx, erT0, hb, hs, hg, hasF_l, hh, wrapUpN (show i ≤ 10000000000 by omega)] at _h))
          all_goals simp only [W1, W2, owesN, owesX, owesR, cond_true, cond_false, hx, erT0, hb, hs, hg, hasF_l, hh, wrapUpN (show i ≤ 10000000000 by omega)]
          repeat' (first | apply And.intro | intro _hc)
          all_goals first | exact ⟨⟨i + 1, P⟩, LeL.refl _, LeH.refl _, ⟨hi, by dsimp only; omega, h3⟩, by dsimp only; omega⟩ | exact AV.le_refl _ | exact AV.le_any _ | exact OLe.refl _ | exact OLe.none _ | exact LeH.refl _ | exact LeL.refl _ | exact AV.le.bs _ | exact AV.le.sb _ | omega | contradiction
        · have he : addP y.mo P t = P ++ [t] := if_neg (by rw [hb, hh]; simp; exact hm)
          rw [he] at h3
          have ha := Tx.cod.app0 P t default rfl (N := P.length + 1) rfl
          have hR : plR 1 y.mo (P ++ [t]).length = .row [.v (.int .i64 y.mo), .hs 1 0 (P.length + 1)] := by unfold plR; rw [List.length_append]; rfl
          repeat' (first | refine wC (by first | omega | (simp only [W1, cond_true, cond_false, hx, erT0, hb, hs, hg, hasF_l, hh, wrapUpN (show i ≤ 10000000000 by omega)]; first | done | omega)) ?_ | refine wT (by first | omega | (simp only [W1, cond_true, cond_false, hx, erT0, hb, hs, hg, hasF_l, hh, wrapUpN (show i ≤ 10000000000 by omega)]; first | done | omega)) ?_ | refine wF (by intro _h; first | omega | (simp only [W1, cond_true, cond_false, hx, erT0, hb, hs, hg, hasF_l, hh, wrapUpN (show i ≤ 10000000000 by omega)] at _h; first | done | omega)) ?_ | (refine wS ?_ ?_ <;> intro _h <;> simp only [W1, cond_true, cond_false, hx, erT0, hb, hs, hg, hasF_l, hh, wrapUpN (show i ≤ 10000000000 by omega)] at _h))
          all_goals simp only [W1, W2, owesN, owesX, owesR, cond_true, cond_false, hx, erT0, hb, hs, hg, hasF_l, hh, wrapUpN (show i ≤ 10000000000 by omega)]
          repeat' (first | apply And.intro | intro _hc)
          all_goals first | exact cl7_room (by omega) | exact ⟨⟨i + 1, P ++ [t]⟩, LeL.refl _, ⟨by (unfold plR; rw [List.length_append]; exact OLe.refl _), ha, trivial⟩, ⟨hi, by dsimp only; simp; omega, h3⟩, by dsimp only; omega⟩ | exact AV.le_refl _ | exact AV.le_any _ | exact OLe.refl _ | exact OLe.none _ | exact LeH.refl _ | exact LeL.refl _ | exact AV.le.bs _ | exact AV.le.sb _ | omega | contradiction
  · rw [List.drop_eq_nil_of_le hi] at h3
    have h3 : P = res := h3
    subst h3
    repeat' (first | refine wC (by first | omega | (simp only [W1, cond_true, cond_false]; first | done | omega)) ?_ | refine wT (by first | omega | (simp only [W1, cond_true, cond_false]; first | done | omega)) ?_ | refine wF (by intro _h; first | omega | (simp only [W1, cond_true, cond_false] at _h; first | done | omega)) ?_ | (refine wS ?_ ?_ <;> intro _h <;> simp only [W1, cond_true, cond_false] at _h))
    all_goals simp only [W1, W2, owesN, owesX, owesR, cond_true, cond_false]
    repeat' (first | apply And.intro | intro _hc)
    all_goals first | exact rfl | exact AV.le_refl _ | exact AV.le_any _ | exact OLe.refl _ | exact OLe.none _ | exact LeH.refl _ | exact LeL.refl _ | exact AV.le.bs _ | exact AV.le.sb _ | omega | contradiction
theorem adds_len {mo : Int} (h0 : 0 ≤ mo) : ∀ {l P : List Tx}, (P.length : Int) ≤ mo → ((addsP mo l P).length : Int) ≤ mo ∧ (addsP mo l P).length ≤ P.length + l.length := by
  intro l
  induction l with
  | nil => intro P h; exact ⟨h, Nat.le_refl _⟩
  | cons t l ih =>
    intro P h
    have hs : ((addP mo P t).length : Int) ≤ mo ∧ (addP mo P t).length ≤ P.length + 1 := by
      unfold addP
      split
      · exact ⟨h, by omega⟩
      · rename_i hc
        have : ¬ (P.length : Int) = mo := fun e => hc (.inr (.inr e))
        simp; omega
    have := ih (P := addP mo P t) hs.1
    show ((addsP mo l (addP mo P t)).length : Int) ≤ mo ∧ _ ≤ P.length + (l.length + 1)
    exact ⟨this.1, by show (addsP mo l (addP mo P t)).length ≤ _; omega⟩
end Go.Eng.TA

/- lists as arguments. -/
namespace Go.Eng.TA
open Go Go.Eng Go.Eng.M Go.Lib Go.Proofs
set_option linter.unusedSimpArgs false
set_option linter.unusedVariables false
def isL (n : Nat) (F : Nat → List AV) (l : List Tx) : Prop := n = l.length ∧ F = lsF Tx.c l
theorem isL_inj {n : Nat} {F : Nat → List AV} {l m : List Tx} (h : isL n F l) (k : isL n F m) : l = m := by
  obtain ⟨h1, h2⟩ := h
  obtain ⟨k1, k2⟩ := k
  refine List.ext_getElem (by omega) fun i hi hj => ?_
  have : lsF Tx.c l i = lsF Tx.c m i := by rw [← h2, ← k2]
  rw [lsF_at, lsF_at] at this
  have := Tx.c_inj this
  rw [getD_get hi, getD_get hj] at this
  exact this
noncomputable def grF (n : Nat) (F : Nat → List AV) : Bool := cl (∃ l, isL n F l ∧ grL l = true)
theorem grF_l {l : List Tx} : grF l.length (lsF Tx.c l) = grL l := by
  rw [Bool.eq_iff_iff]
  unfold grF
  rw [cl_iff]
  exact ⟨fun ⟨m, h1, h2⟩ => by rw [isL_inj (l := l) ⟨rfl, rfl⟩ h1]; exact h2, fun h => ⟨l, ⟨rfl, rfl⟩, h⟩⟩
def ofLs : List AV → List Blk → Option (Nat × (Nat → List AV))
  | [.sl _ n f], [] => some (n, f)
  | _, _ => none
noncomputable def kGrL : CT Tryd.prog Γm := CT.par 46 ofLs (fun | (n, F) => ∃ l, isL n F l) (fun | (n, F) => [.sl 7 n F]) (fun _ => []) (fun | (n, F) => .sb (grF n F)) (fun _ => []) (fun _ => []) (callFunc_enters Tryd.func46 (by kernel_rfl) (by kernel_rfl)) fun ⟨n, F⟩ ⟨l, h⟩ => by
  obtain ⟨rfl, rfl⟩ := h
  show Answers _ _ _ [.sl 7 l.length (lsF Tx.c l)] [] (.sb (grF l.length (lsF Tx.c l))) [] []
  rw [grF_l]
  exact ansGrL
theorem isL_l (l : List Tx) : ∃ m, isL l.length (lsF Tx.c l) m := ⟨l, rfl, rfl⟩
theorem bat_len {w : List Tx} {n : Int} : ∀ {l out : List Tx}, (batF w n l out).length ≤ out.length + l.length := by
  intro l
  induction l with
  | nil => intro out; exact Nat.le_refl _
  | cons t l ih =>
    intro out
    have h1 := ih (out := bstep w n out t)
    have h2 : (bstep w n out t).length ≤ out.length + 1 := by
      unfold bstep
      split
      · omega
      · simp
    show (batF w n l (bstep w n out t)).length ≤ out.length + (l.length + 1)
    omega
end Go.Eng.TA

/- pool: the document's calls. -/
namespace Go.Eng.TA
open Go Go.Eng Go.Eng.M Go.Lib Go.Proofs
set_option linter.unusedSimpArgs false
set_option linter.unusedVariables false
theorem keep_drop {p : Tx → Bool} {l : List Tx} {i : Nat} (h : i < l.length) : keepL p (l.drop i) = (bif p (l.getD i default) then [] else [l.getD i default]) ++ keepL p (l.drop (i + 1)) := by
  unfold keepL
  rw [List.drop_eq_getElem_cons h, List.filter_cons, getD_get h]
  cases p l[i] <;> rfl
def ORd (mo : Int) (l j res : List Tx) : Out := ⟨.exit 0, [.any, .ptr 1 0, .ptr 2 0, .hs 3 0 res.length, .any], [some (txB' (l ++ j)), some (plR 0 mo l.length), some (.row [.any, .any]), some (txB' res)]⟩
theorem loopRd {mo : Int} {l j d : List Tx} (hd : d.length ≤ 100000) (hl : l.length ≤ 100000) : ∀ x : XO, (x.i ≤ l.length ∧ x.out.length ≤ x.i ∧ x.out ++ keepL (hasT d) (l.drop x.i) = keepL (hasT d) l) → LoopOK Tryd.prog Γm 1 34 lpRd (LSpec.at lvRd [(3, 40)] (SRd mo l j d x) (ORd mo l j (keepL (hasT d) l))) := by
  refine loop_at (S := SRd mo l j d) (O := fun _ => ORd mo l j (keepL (hasT d) l)) (k := 0) (fun x => l.length - x.i) fun x hp => .of (L := Lno) (failOK fun _ _ _ => rfl) (rRd mo l j d x) ?_
  obtain ⟨i, out⟩ := x
  obtain ⟨h1, h2, h3⟩ := hp
  dsimp only at h1 h2 h3
  have hg : isTx (lsF Tx.c d) := isTx_ls d
  rcases Nat.lt_or_ge i l.length with hi | hi
  · rw [keep_drop hi, ← List.append_assoc] at h3
    simp only [Nat.zero_add, Int.toNat_natCast, getD_app hi]
    generalize l.getD i default = t at *
    have hx : Tx.mk t.k t.fr t.to t.ky t.vl t.am t.nn = t := rfl
    cases hh : hasT d t with
    | true =>
      rw [hh, cond_true, List.append_nil] at h3
      repeat' (first | refine wC (by first | omega | (simp only [W1, cond_true, cond_false, hx, hg, hasF_l, hh, wrapUpN (show i ≤ 10000000000 by omega)]; first | done | omega)) ?_ | refine wT (by first | omega | (simp only [W1, cond_true, cond_false, hx, hg, hasF_l, hh, wrapUpN (show i ≤ 10000000000 by omega)]; first | done | omega)) ?_ | refine wF (by intro _h; first | omega | (simp only [W1, cond_true, cond_false, hx, hg, hasF_l, hh, wrapUpN (show i ≤ 10000000000 by omega)] at _h; first | done | omega)) ?_ | (refine wS ?_ ?_ <;> intro _h <;> simp only [W1, cond_true, cond_false, hx, hg, hasF_l, hh, wrapUpN (show i ≤ 10000000000 by omega)] at _h))
      all_goals simp only [W1, W2, owesN, owesX, owesR, cond_true, cond_false, hx, hg, hasF_l, hh, wrapUpN (show i ≤ 10000000000 by omega)]
      repeat' (first | apply And.intro | intro _hc)
      all_goals first | exact ⟨⟨i + 1, out⟩, LeL.refl _, LeH.refl _, ⟨hi, by dsimp only; omega, h3⟩, by dsimp only; omega⟩ | exact AV.le_refl _ | exact AV.le_any _ | exact OLe.refl _ | exact OLe.none _ | exact LeH.refl _ | exact LeL.refl _ | exact AV.le.bs _ | exact AV.le.sb _ | omega | contradiction
    | false =>
      rw [hh, cond_false] at h3
      have ha := Tx.cod.app0 out t default rfl (N := out.length + 1) rfl
      repeat' (first | refine wC (by first | omega | (simp only [W1, cond_true, cond_false, hx, hg, hasF_l, hh, wrapUpN (show i ≤ 10000000000 by omega)]; first | done | omega)) ?_ | refine wT (by first | omega | (simp only [W1, cond_true, cond_false, hx, hg, hasF_l, hh, wrapUpN (show i ≤ 10000000000 by omega)]; first | done | omega)) ?_ | refine wF (by intro _h; first | omega | (simp only [W1, cond_true, cond_false, hx, hg, hasF_l, hh, wrapUpN (show i ≤ 10000000000 by omega)] at _h; first | done | omega)) ?_ | (refine wS ?_ ?_ <;> intro _h <;> simp only [W1, cond_true, cond_false, hx, hg, hasF_l, hh, wrapUpN (show i ≤ 10000000000 by omega)] at _h))
      all_goals simp only [W1, W2, owesN, owesX, owesR, cond_true, cond_false, hx, hg, hasF_l, hh, wrapUpN (show i ≤ 10000000000 by omega)]
      repeat' (first | apply And.intro | intro _hc)
      all_goals first | exact cl7_room (by omega) | exact ⟨⟨i + 1, out ++ [t]⟩, ⟨.refl _, .refl _, .refl _, by (rw [List.length_append]; exact AV.le_refl _), .refl _, trivial⟩, ⟨OLe.refl _, OLe.refl _, OLe.refl _, ha, trivial⟩, ⟨hi, by dsimp only; simp; omega, h3⟩, by dsimp only; omega⟩ | exact AV.le_refl _ | exact AV.le_any _ | exact OLe.refl _ | exact OLe.none _ | exact LeH.refl _ | exact LeL.refl _ | exact AV.le.bs _ | exact AV.le.sb _ | omega | contradiction
  · rw [List.drop_eq_nil_of_le hi] at h3
    have h3 : out = keepL (hasT d) l := by rw [← h3]; simp [keepL]
    rw [← h3]
    repeat' (first | refine wC (by first | omega | (simp only [W1, cond_true, cond_false]; first | done | omega)) ?_ | refine wT (by first | omega | (simp only [W1, cond_true, cond_false]; first | done | omega)) ?_ | refine wF (by intro _h; first | omega | (simp only [W1, cond_true, cond_false] at _h; first | done | omega)) ?_ | (refine wS ?_ ?_ <;> intro _h <;> simp only [W1, cond_true, cond_false] at _h))
    all_goals simp only [W1, W2, owesN, owesX, owesR, cond_true, cond_false]
    repeat' (first | apply And.intro | intro _hc)
    all_goals first | exact rfl | exact AV.le_refl _ | exact AV.le_any _ | exact OLe.refl _ | exact OLe.none _ | exact LeH.refl _ | exact LeL.refl _ | exact AV.le.bs _ | exact AV.le.sb _ | omega | contradiction
theorem runRd (mo : Int) (l j d : List Tx) : bodyE (P := Tryd.prog) (Γ := Γm) [] (fun _ => LSpec.at lvRd [(3, 40)] (SRd mo l j d ⟨0, []⟩) (ORd mo l j (keepL (hasT d) l))) false 34 [.cell 4 74] (bodyOf Tryd.f55) [plV 0 mo l.length, .sl 7 d.length (lsF Tx.c d)] [txB' (l ++ j)] =
  Tree.chk (cl (LeL [.sl 7 (List.length d) (lsF Tx.c d), .ptr 1 0, .ptr 2 0, .hs 3 0 (0 : Nat), .v (.int .i64 (0 : Int))] [.sl 7 (List.length d) (lsF Tx.c d), .ptr 1 0, .ptr 2 0, .hs 3 0 (0 : 
    Nat), .v (.int .i64 (↑(0 : Nat) : Int))] ∧ LeH [some (.arr 7 (List.length (l ++ j)) (lsF Tx.c (l ++ j))), some (.row [.v (.int .i64 mo), .hs 0 0 (List.length l)]), some (.row [.v 
    (.int .i64 (0 : Int)), .v (.slice none (0 : Nat) (0 : Nat))]), some (.arr 7 (0 : Nat) fun x => [.v (.int .i64 (0 : Int)), .v (.string (ByteArray.mk #[])), .v (.string (ByteArray.mk 
    #[])), .v (.string (ByteArray.mk #[])), .v (.string (ByteArray.mk #[])), .v (.int .i64 (0 : Int)), .v (.int .i64 (0 : Int))])] [some (.arr 7 (List.length (l ++ j)) (lsF Tx.c (l ++ 
    j))), some (.row [.v (.int .i64 mo), .hs 0 0 (List.length l)]), some (.row [.any, .any]), some (.arr 7 (0 : Nat) (lsF Tx.c (XO.mk (0 : Nat) []).out))])) (.leaf (Ans.mk (.agg [.v 
    (.int .i64 mo), .hs 1 0 (List.length (keepL (hasT d) l))]) [some (.arr 7 (List.length (l ++ j)) (lsF Tx.c (l ++ j))), some (.arr 7 (List.length (keepL (hasT d) l)) (lsF Tx.c (keepL 
    (hasT d) l)))])) := by kernel_rfl
theorem ansRd {mo : Int} {l j d : List Tx} (hd : d.length ≤ 100000) (hl : l.length ≤ 100000) : Answers Tryd.prog Γm 55 [plV 0 mo l.length, .sl 7 d.length (lsF Tx.c d)] [txB' (l ++ j)] (plV 1 mo (keepL (hasT d) l).length) [some (txB' (l ++ j))] [txB' (keepL (hasT d) l)] :=
  answers (fn := Tryd.f55) (c := bodyOf Tryd.f55) (ntmps := 34) (results := [.cell 4 74]) [] (fun _ => LSpec.at lvRd [(3, 40)] (SRd mo l j d ⟨0, []⟩) (ORd mo l j (keepL (hasT d) l))) false Tryd.func55 (by kernel_rfl) (by kernel_rfl) (by kernel_rfl) (by kernel_rfl) (by simp) rfl (oneLoop (b := lpRd) (by kernel_rfl) (loopRd hd hl ⟨0, []⟩ ⟨Nat.zero_le _, Nat.le_refl _, rfl⟩)) <| Meets.of (runRd mo l j d) <| by
    repeat' (first | refine wC (by first | omega | (simp only [W1, cond_true, cond_false]; first | done | omega)) ?_ | refine wT (by first | omega | (simp only [W1, cond_true, cond_false]; first | done | omega)) ?_ | refine wF (by intro _h; first | omega | (simp only [W1, cond_true, cond_false] at _h; first | done | omega)) ?_ | (refine wS ?_ ?_ <;> intro _h <;> simp only [W1, cond_true, cond_false] at _h))
    all_goals simp only [W1, W2, owesN, owesX, owesR, cond_true, cond_false]
    repeat' (first | apply And.intro | intro _hc)
    all_goals first | exact OLe.arr rfl (fun e he => absurd he (Nat.not_lt_zero e)) (fun _ => rfl) | exact OLe.row ⟨.any _, .any _, trivial⟩ | exact AV.le_refl _ | exact AV.le_any _ | exact OLe.refl _ | exact OLe.none _ | exact LeH.refl _ | exact LeL.refl _ | exact AV.le.bs _ | exact AV.le.sb _ | omega | contradiction
/-! ### Past -/
noncomputable abbrev lpRp : Code := loopOf (bodyOf Tryd.f57) 0
abbrev lvRp : List Nat := [1, 2, 3, 6, 7, 8]
def SRp (mo : Int) (l j : List Tx) (w : ByteArray) (m : Int) (x : XO) : List AV × Heap := ([.v (.string w), .v (.int .i64 m), .ptr 1 0, .ptr 2 0, .hs 3 0 x.out.length, .v (.int .i64 (x.i : Int))], [some (txB' (l ++ j)), some (plR 0 mo l.length), some (.row [.any, .any]), some (txB' x.out)])
def ORp (mo : Int) (l j res : List Tx) : Out := ⟨.exit 0, [.any, .any, .ptr 1 0, .ptr 2 0, .hs 3 0 res.length, .any], [some (txB' (l ++ j)), some (plR 0 mo l.length), some (.row [.any, .any]), some (txB' res)]⟩
theorem rRp (mo : Int) (l j : List Tx) (w : ByteArray) (m : Int) (x : XO) : roundE (P := Tryd.prog) (Γ := Γm) [] Lno false 1 0 lpRp lvRp [(4, 40)] 46 (SRp mo l j w m x).1 (SRp mo l j w m x).2 =
  Tree.br (decide ((↑x.i : Int) < (↑(List.length l) : Int))) (.chk (decide ((0 : Int) ≤ (↑x.i : Int)) && decide ((↑x.i : Int) < (↑(List.length l) : Int)) && bif !decide ((List.getD (l ++ j) 
    ((0 : Nat) + x.i) default).fr = w) then true else decide ((0 : Int) ≤ (↑x.i : Int)) && decide ((↑x.i : Int) < (↑(List.length l) : Int))) (.br (bif !decide ((List.getD (l ++ j) ((0 
    : Nat) + x.i) default).fr = w) then true else decide (m < (List.getD (l ++ j) ((0 : Nat) + x.i) default).nn)) (.chk (decide ((0 : Int) ≤ (↑x.i : Int)) && decide ((↑x.i : Int) < 
    (↑(List.length l) : Int))) (.chk (roomOk (88 : Nat) (List.length x.out + (1 : Nat))) (.leaf (.mk .normal [.v (.string w), .v (.int .i64 m), .ptr 1 0, .ptr 2 0, .hs 3 0 (List.length 
    x.out + (1 : Nat)), .v (.int .i64 (IntKind.wrap IntKind.i64 ((↑x.i : Int) + (1 : Int))))] [some (.arr 7 (List.length (l ++ j)) (lsF Tx.c (l ++ j))), some (.row [.v (.int .i64 mo), 
    .hs 0 0 (List.length l)]), some (.row [.any, .any]), some (.arr 7 (List.length x.out + (1 : Nat)) fun j_1 => mixL (decide (j_1 < List.length x.out)) (lsF Tx.c x.out ((0 : Nat) + 
    j_1)) (chain [.v (.int .i64 (0 : Int)), .v (.string (ByteArray.mk #[])), .v (.string (ByteArray.mk #[])), .v (.string (ByteArray.mk #[])), .v (.string (ByteArray.mk #[])), .v (.int 
    .i64 (0 : Int)), .v (.int .i64 (0 : Int))] (0 : Nat) [[.v (.int .i64 (List.getD (l ++ j) ((0 : Nat) + x.i) default).k), .v (.string (List.getD (l ++ j) ((0 : Nat) + x.i) 
    default).fr), .v (.string (List.getD (l ++ j) ((0 : Nat) + x.i) default).to), .v (.string (List.getD (l ++ j) ((0 : Nat) + x.i) default).ky), .v (.string (List.getD (l ++ j) ((0 : 
    Nat) + x.i) default).vl), .v (.int .i64 (List.getD (l ++ j) ((0 : Nat) + x.i) default).am), .v (.int .i64 (List.getD (l ++ j) ((0 : Nat) + x.i) default).nn)]] ((0 : Nat) + (j_1 - 
    List.length x.out))))])))) (.leaf (.mk .normal [.v (.string w), .v (.int .i64 m), .ptr 1 0, .ptr 2 0, .hs 3 0 (List.length x.out), .v (.int .i64 (IntKind.wrap IntKind.i64 ((↑x.i : 
    Int) + (1 : Int))))] [some (.arr 7 (List.length (l ++ j)) (lsF Tx.c (l ++ j))), some (.row [.v (.int .i64 mo), .hs 0 0 (List.length l)]), some (.row [.any, .any]), some (.arr 7 
    (List.length x.out) (lsF Tx.c x.out))])))) (.leaf (.mk (.exit 0) [.v (.string w), .v (.int .i64 m), .ptr 1 0, .ptr 2 0, .hs 3 0 (List.length x.out), .v (.int .i64 (↑x.i : Int))] 
    [some (.arr 7 (List.length (l ++ j)) (lsF Tx.c (l ++ j))), some (.row [.v (.int .i64 mo), .hs 0 0 (List.length l)]), some (.row [.any, .any]), some (.arr 7 (List.length x.out) (lsF 
    Tx.c x.out))])) := by kernel_rfl
theorem pastN (w : ByteArray) (m : Int) (t : Tx) : (bif !decide (t.fr = w) then true else decide (m < t.nn)) = !pastB w m t := by
  unfold pastB; rw [Bool.not_not]
theorem loopRp {mo : Int} {l j : List Tx} {w : ByteArray} {m : Int} (hl : l.length ≤ 100000) : ∀ x : XO, (x.i ≤ l.length ∧ x.out.length ≤ x.i ∧ x.out ++ keepL (pastB w m) (l.drop x.i) = keepL (pastB w m) l) → LoopOK Tryd.prog Γm 1 46 lpRp (LSpec.at lvRp [(4, 40)] (SRp mo l j w m x) (ORp mo l j (keepL (pastB w m) l))) := by
  refine loop_at (S := SRp mo l j w m) (O := fun _ => ORp mo l j (keepL (pastB w m) l)) (k := 0) (fun x => l.length - x.i) fun x hp => .of (L := Lno) (failOK fun _ _ _ => rfl) (rRp mo l j w m x) ?_
  obtain ⟨i, out⟩ := x
  obtain ⟨h1, h2, h3⟩ := hp
  dsimp only at h1 h2 h3
  rcases Nat.lt_or_ge i l.length with hi | hi
  · rw [keep_drop hi, ← List.append_assoc] at h3
    have b1 : decide ((0 : Int) ≤ (i : Int)) = true := decide_eq_true (by omega)
    have b2 : decide ((i : Int) < (l.length : Int)) = true := decide_eq_true (by omega)
    simp only [Nat.zero_add, Int.toNat_natCast, getD_app hi, pastN, b1, b2, Bool.and_true, condSelf]
    generalize l.getD i default = t at *
    cases hh : pastB w m t with
    | true =>
      rw [hh, cond_true, List.append_nil] at h3
      repeat' (first | refine wC (by first | omega | (simp only [W1, cond_true, cond_false, hh, wrapUpN (show i ≤ 10000000000 by omega)]; first | done | omega)) ?_ | refine wT (by first | omega | (simp only [W1, cond_true, cond_false, hh, wrapUpN (show i ≤ 10000000000 by omega)]; first | done | omega)) ?_ | refine wF (by intro _h; first | omega | (simp only [W1, cond_true, cond_false, hh, wrapUpN (show i ≤ 10000000000 by omega)] at _h; first | done | omega)) ?_ | (refine wS ?_ ?_ <;> intro _h <;> simp only [W1, cond_true, cond_false, hh, wrapUpN (show i ≤ 10000000000 by omega)] at _h))
      all_goals simp only [W1, W2, owesN, owesX, owesR, cond_true, cond_false, hh, wrapUpN (show i ≤ 10000000000 by omega)]
      repeat' (first | apply And.intro | intro _hc)
      all_goals first | exact ⟨⟨i + 1, out⟩, LeL.refl _, LeH.refl _, ⟨hi, by dsimp only; omega, h3⟩, by dsimp only; omega⟩ | exact AV.le_refl _ | exact AV.le_any _ | exact OLe.refl _ | exact OLe.none _ | exact LeH.refl _ | exact LeL.refl _ | exact AV.le.bs _ | exact AV.le.sb _ | omega | contradiction
    | false =>
      rw [hh, cond_false] at h3
      have ha := Tx.cod.app0 out t default rfl (N := out.length + 1) rfl
      repeat' (first | refine wC (by first | omega | (simp only [W1, cond_true, cond_false, hh, wrapUpN (show i ≤ 10000000000 by omega)]; first | done | omega)) ?_ | refine wT (by first | omega | (simp only [W1, cond_true, cond_false, hh, wrapUpN (show i ≤ 10000000000 by omega)]; first | done | omega)) ?_ | refine wF (by intro _h; first | omega | (simp only [W1, cond_true, cond_false, hh, wrapUpN (show i ≤ 10000000000 by omega)] at _h; first | done | omega)) ?_ | (refine wS ?_ ?_ <;> intro _h <;> simp only [W1, cond_true, cond_false, hh, wrapUpN (show i ≤ 10000000000 by omega)] at _h))
      all_goals simp only [W1, W2, owesN, owesX, owesR, cond_true, cond_false, hh, wrapUpN (show i ≤ 10000000000 by omega)]
      repeat' (first | apply And.intro | intro _hc)
      all_goals first | exact cl7_room (by omega) | exact ⟨⟨i + 1, out ++ [t]⟩, ⟨.refl _, .refl _, .refl _, .refl _, by (rw [List.length_append]; exact AV.le_refl _), .refl _, trivial⟩, ⟨OLe.refl _, OLe.refl _, OLe.refl _, ha, trivial⟩, ⟨hi, by dsimp only; simp; omega, h3⟩, by dsimp only; omega⟩ | exact AV.le_refl _ | exact AV.le_any _ | exact OLe.refl _ | exact OLe.none _ | exact LeH.refl _ | exact LeL.refl _ | exact AV.le.bs _ | exact AV.le.sb _ | omega | contradiction
  · rw [List.drop_eq_nil_of_le hi] at h3
    have h3 : out = keepL (pastB w m) l := by rw [← h3]; simp [keepL]
    rw [← h3]
    repeat' (first | refine wC (by first | omega | (simp only [W1, cond_true, cond_false]; first | done | omega)) ?_ | refine wT (by first | omega | (simp only [W1, cond_true, cond_false]; first | done | omega)) ?_ | refine wF (by intro _h; first | omega | (simp only [W1, cond_true, cond_false] at _h; first | done | omega)) ?_ | (refine wS ?_ ?_ <;> intro _h <;> simp only [W1, cond_true, cond_false] at _h))
    all_goals simp only [W1, W2, owesN, owesX, owesR, cond_true, cond_false]
    repeat' (first | apply And.intro | intro _hc)
    all_goals first | exact rfl | exact AV.le_refl _ | exact AV.le_any _ | exact OLe.refl _ | exact OLe.none _ | exact LeH.refl _ | exact LeL.refl _ | exact AV.le.bs _ | exact AV.le.sb _ | omega | contradiction
theorem runRp (mo : Int) (l j : List Tx) (w : ByteArray) (m : Int) : bodyE (P := Tryd.prog) (Γ := Γm) [] (fun _ => LSpec.at lvRp [(4, 40)] (SRp mo l j w m ⟨0, []⟩) (ORp mo l j (keepL (pastB w m) l))) false 46 [.cell 6 74] (bodyOf Tryd.f57) [plV 0 mo l.length, .v (.string w), .v (.int .i64 m)] [txB' (l ++ j)] =
  Tree.chk (cl (LeL [.v (.string w), .v (.int .i64 m), .ptr 1 0, .ptr 2 0, .hs 3 0 (0 : Nat), .v (.int .i64 (0 : Int))] [.v (.string w), .v (.int .i64 m), .ptr 1 0, .ptr 2 0, .hs 3 0 (0 : 
    Nat), .v (.int .i64 (↑(0 : Nat) : Int))] ∧ LeH [some (.arr 7 (List.length (l ++ j)) (lsF Tx.c (l ++ j))), some (.row [.v (.int .i64 mo), .hs 0 0 (List.length l)]), some (.row [.v 
    (.int .i64 (0 : Int)), .v (.slice none (0 : Nat) (0 : Nat))]), some (.arr 7 (0 : Nat) fun x => [.v (.int .i64 (0 : Int)), .v (.string (ByteArray.mk #[])), .v (.string (ByteArray.mk 
    #[])), .v (.string (ByteArray.mk #[])), .v (.string (ByteArray.mk #[])), .v (.int .i64 (0 : Int)), .v (.int .i64 (0 : Int))])] [some (.arr 7 (List.length (l ++ j)) (lsF Tx.c (l ++ 
    j))), some (.row [.v (.int .i64 mo), .hs 0 0 (List.length l)]), some (.row [.any, .any]), some (.arr 7 (0 : Nat) (lsF Tx.c (XO.mk (0 : Nat) []).out))])) (.leaf (Ans.mk (.agg [.v 
    (.int .i64 mo), .hs 1 0 (List.length (keepL (pastB w m) l))]) [some (.arr 7 (List.length (l ++ j)) (lsF Tx.c (l ++ j))), some (.arr 7 (List.length (keepL (pastB w m) l)) (lsF Tx.c 
    (keepL (pastB w m) l)))])) := by kernel_rfl
theorem ansRp {mo : Int} {l j : List Tx} {w : ByteArray} {m : Int} (hl : l.length ≤ 100000) : Answers Tryd.prog Γm 57 [plV 0 mo l.length, .v (.string w), .v (.int .i64 m)] [txB' (l ++ j)] (plV 1 mo (keepL (pastB w m) l).length) [some (txB' (l ++ j))] [txB' (keepL (pastB w m) l)] :=
  answers (fn := Tryd.f57) (c := bodyOf Tryd.f57) (ntmps := 46) (results := [.cell 6 74]) [] (fun _ => LSpec.at lvRp [(4, 40)] (SRp mo l j w m ⟨0, []⟩) (ORp mo l j (keepL (pastB w m) l))) false Tryd.func57 (by kernel_rfl) (by kernel_rfl) (by kernel_rfl) (by kernel_rfl) (by simp) rfl (oneLoop (b := lpRp) (by kernel_rfl) (loopRp hl ⟨0, []⟩ ⟨Nat.zero_le _, Nat.le_refl _, rfl⟩)) <| Meets.of (runRp mo l j w m) <| by
    repeat' (first | refine wC (by first | omega | (simp only [W1, cond_true, cond_false]; first | done | omega)) ?_ | refine wT (by first | omega | (simp only [W1, cond_true, cond_false]; first | done | omega)) ?_ | refine wF (by intro _h; first | omega | (simp only [W1, cond_true, cond_false] at _h; first | done | omega)) ?_ | (refine wS ?_ ?_ <;> intro _h <;> simp only [W1, cond_true, cond_false] at _h))
    all_goals simp only [W1, W2, owesN, owesX, owesR, cond_true, cond_false]
    repeat' (first | apply And.intro | intro _hc)
    all_goals first | exact OLe.arr rfl (fun e he => absurd he (Nat.not_lt_zero e)) (fun _ => rfl) | exact OLe.row ⟨.any _, .any _, trivial⟩ | exact AV.le_refl _ | exact AV.le_any _ | exact OLe.refl _ | exact OLe.none _ | exact LeH.refl _ | exact LeL.refl _ | exact AV.le.bs _ | exact AV.le.sb _ | omega | contradiction
end Go.Eng.TA

/- pool: the document's batch; acts. -/
namespace Go.Eng.TA
open Go Go.Eng Go.Eng.M Go.Lib Go.Proofs
set_option linter.unusedSimpArgs false
set_option linter.unusedVariables false
noncomputable abbrev lpRb (j : Nat) : Code := loopOf (bodyOf Tryd.f54) j
abbrev lvRb : List Nat := [1, 2, 3, 7, 8]
abbrev lvRc : List Nat := [1, 2, 3, 7, 8, 9, 10]
def vRb (n : Int) (w : List Tx) (x : XO) : List AV := [.v (.int .i64 n), .sl 7 w.length (lsF Tx.c w), .ptr 1 0, .hs 2 0 x.out.length, .v (.int .i64 (x.i : Int))]
def HRb (mo : Int) (l j : List Tx) (x : XO) : Heap := [some (txB' (l ++ j)), some (plR 0 mo l.length), some (txB' x.out)]
def SRb (mo : Int) (l j : List Tx) (n : Int) (w : List Tx) (x : XO) : List AV × Heap := (vRb n w x, HRb mo l j x)
def SRc (mo : Int) (l j : List Tx) (n : Int) (w : List Tx) (x : XO) (o : Bool) (k : Nat) : List AV × Heap := (vRb n w x ++ [.sb o, .v (.int .i64 (k : Int))], HRb mo l j x)
def ORc (mo : Int) (l j : List Tx) (n : Int) (w : List Tx) (x : XO) (o : Bool) : Out := ⟨.exit 2, vRb n w x ++ [.sb o, .any], HRb mo l j x⟩
def ORb (mo : Int) (l j res : List Tx) : Out := ⟨.exit 0, [.any, .any, .any, .hs 2 0 res.length, .any], [some (txB' (l ++ j)), none, some (txB' res)]⟩
theorem rRc (mo : Int) (l j : List Tx) (n : Int) (w : List Tx) (x : XO) (o : Bool) (k : Nat) : roundE (P := Tryd.prog) (Γ := Γm) [] Lno false 1 0 (lpRb 1) lvRc [] 77 (SRc mo l j n w x o k).1 (SRc mo l j n w x o k).2 =
  Tree.br (decide ((↑k : Int) < (↑(List.length x.out) : Int))) (.chk (bif o then true else decide ((0 : Int) ≤ (↑k : Int)) && decide ((↑k : Int) < (↑(List.length x.out) : Int)) && (decide 
    ((0 : Int) ≤ (↑x.i : Int)) && decide ((↑x.i : Int) < (↑(List.length l) : Int)) && bif decide ((List.getD x.out ((0 : Nat) + k) default).fr = (List.getD (l ++ j) ((0 : Nat) + x.i) 
    default).fr) then decide ((0 : Int) ≤ (↑k : Int)) && decide ((↑k : Int) < (↑(List.length x.out) : Int)) && (decide ((0 : Int) ≤ (↑x.i : Int)) && decide ((↑x.i : Int) < 
    (↑(List.length l) : Int))) else true)) (.leaf (.mk .normal [.v (.int .i64 n), .sl 7 (List.length w) (lsF Tx.c w), .ptr 1 0, .hs 2 0 (List.length x.out), .v (.int .i64 (↑x.i : 
    Int)), .sb (bif o then true else bif decide ((List.getD x.out ((0 : Nat) + k) default).fr = (List.getD (l ++ j) ((0 : Nat) + x.i) default).fr) then decide ((List.getD x.out ((0 : 
    Nat) + k) default).nn = (List.getD (l ++ j) ((0 : Nat) + x.i) default).nn) else false), .v (.int .i64 (IntKind.wrap IntKind.i64 ((↑k : Int) + (1 : Int))))] [some (.arr 7 
    (List.length (l ++ j)) (lsF Tx.c (l ++ j))), some (.row [.v (.int .i64 mo), .hs 0 0 (List.length l)]), some (.arr 7 (List.length x.out) (lsF Tx.c x.out))]))) (.leaf (.mk (.exit 2) 
    [.v (.int .i64 n), .sl 7 (List.length w) (lsF Tx.c w), .ptr 1 0, .hs 2 0 (List.length x.out), .v (.int .i64 (↑x.i : Int)), .sb o, .v (.int .i64 (↑k : Int))] [some (.arr 7 
    (List.length (l ++ j)) (lsF Tx.c (l ++ j))), some (.row [.v (.int .i64 mo), .hs 0 0 (List.length l)]), some (.arr 7 (List.length x.out) (lsF Tx.c x.out))])) := by kernel_rfl
theorem rRb (mo : Int) (l j : List Tx) (n : Int) (w : List Tx) (x : XO) (o0 o : Bool) : roundE (P := Tryd.prog) (Γ := Γm) [kHs] (fun _ => LSpec.at lvRc [] (SRc mo l j n w x o0 0) (ORc mo l j n w x o)) false 1 0 (lpRb 0) lvRb [(3, 40)] 77 (SRb mo l j n w x).1 (SRb mo l j n w x).2 =
  Tree.br (bif decide ((↑x.i : Int) < (↑(List.length l) : Int)) then decide ((↑(List.length x.out) : Int) < n) else false) (.chk (decide ((0 : Int) ≤ (↑x.i : Int)) && decide ((↑x.i : Int) < 
    (↑(List.length l) : Int)) && cl ((isTx (lsF Tx.c w) ∧ List.length w ≤ (1000000000 : Nat)) ∧ LeL [.sl 7 (List.length w) (lsF Tx.c w), .agg [.v (.int .i64 (List.getD (l ++ j) ((0 : 
    Nat) + x.i) default).k), .v (.string (List.getD (l ++ j) ((0 : Nat) + x.i) default).fr), .v (.string (List.getD (l ++ j) ((0 : Nat) + x.i) default).to), .v (.string (List.getD (l 
    ++ j) ((0 : Nat) + x.i) default).ky), .v (.string (List.getD (l ++ j) ((0 : Nat) + x.i) default).vl), .v (.int .i64 (List.getD (l ++ j) ((0 : Nat) + x.i) default).am), .v (.int 
    .i64 (List.getD (l ++ j) ((0 : Nat) + x.i) default).nn)]] [.sl 7 (List.length w) (lsF Tx.c w), .agg [.v (.int .i64 (List.getD (l ++ j) ((0 : Nat) + x.i) default).k), .v (.string 
    (List.getD (l ++ j) ((0 : Nat) + x.i) default).fr), .v (.string (List.getD (l ++ j) ((0 : Nat) + x.i) default).to), .v (.string (List.getD (l ++ j) ((0 : Nat) + x.i) default).ky), 
    .v (.string (List.getD (l ++ j) ((0 : Nat) + x.i) default).vl), .v (.int .i64 (List.getD (l ++ j) ((0 : Nat) + x.i) default).am), .v (.int .i64 (List.getD (l ++ j) ((0 : Nat) + 
    x.i) default).nn)]] ∧ LeH [] [])) (.chk (cl (LeL [.v (.int .i64 n), .sl 7 (List.length w) (lsF Tx.c w), .ptr 1 0, .hs 2 0 (List.length x.out), .v (.int .i64 (↑x.i : Int)), .sb 
    (hasF (List.length w) (lsF Tx.c w) (Tx.mk (List.getD (l ++ j) ((0 : Nat) + x.i) default).k (List.getD (l ++ j) ((0 : Nat) + x.i) default).fr (List.getD (l ++ j) ((0 : Nat) + x.i) 
    default).to (List.getD (l ++ j) ((0 : Nat) + x.i) default).ky (List.getD (l ++ j) ((0 : Nat) + x.i) default).vl (List.getD (l ++ j) ((0 : Nat) + x.i) default).am (List.getD (l ++ 
    j) ((0 : Nat) + x.i) default).nn)), .v (.int .i64 (0 : Int))] [.v (.int .i64 n), .sl 7 (List.length w) (lsF Tx.c w), .ptr 1 0, .hs 2 0 (List.length x.out), .v (.int .i64 (↑x.i : 
    Int)), .sb o0, .v (.int .i64 (↑(0 : Nat) : Int))] ∧ LeH [some (.arr 7 (List.length (l ++ j)) (lsF Tx.c (l ++ j))), some (.row [.v (.int .i64 mo), .hs 0 0 (List.length l)]), some 
    (.arr 7 (List.length x.out) (lsF Tx.c x.out))] [some (.arr 7 (List.length (l ++ j)) (lsF Tx.c (l ++ j))), some (.row [.v (.int .i64 mo), .hs 0 0 (List.length l)]), some (.arr 7 
    (List.length x.out) (lsF Tx.c x.out))])) (.br (!o) (.chk (decide ((0 : Int) ≤ (↑x.i : Int)) && decide ((↑x.i : Int) < (↑(List.length l) : Int))) (.chk (roomOk (88 : Nat) 
    (List.length x.out + (1 : Nat))) (.leaf (.mk .normal [.v (.int .i64 n), .sl 7 (List.length w) (lsF Tx.c w), .ptr 1 0, .hs 2 0 (List.length x.out + (1 : Nat)), .v (.int .i64 
    (IntKind.wrap IntKind.i64 ((↑x.i : Int) + (1 : Int))))] [some (.arr 7 (List.length (l ++ j)) (lsF Tx.c (l ++ j))), some (.row [.v (.int .i64 mo), .hs 0 0 (List.length l)]), some 
    (.arr 7 (List.length x.out + (1 : Nat)) fun j_1 => mixL (decide (j_1 < List.length x.out)) (lsF Tx.c x.out ((0 : Nat) + j_1)) (chain [.v (.int .i64 (0 : Int)), .v (.string 
    (ByteArray.mk #[])), .v (.string (ByteArray.mk #[])), .v (.string (ByteArray.mk #[])), .v (.string (ByteArray.mk #[])), .v (.int .i64 (0 : Int)), .v (.int .i64 (0 : Int))] (0 : 
    Nat) [[.v (.int .i64 (List.getD (l ++ j) ((0 : Nat) + x.i) default).k), .v (.string (List.getD (l ++ j) ((0 : Nat) + x.i) default).fr), .v (.string (List.getD (l ++ j) ((0 : Nat) + 
    x.i) default).to), .v (.string (List.getD (l ++ j) ((0 : Nat) + x.i) default).ky), .v (.string (List.getD (l ++ j) ((0 : Nat) + x.i) default).vl), .v (.int .i64 (List.getD (l ++ j) 
    ((0 : Nat) + x.i) default).am), .v (.int .i64 (List.getD (l ++ j) ((0 : Nat) + x.i) default).nn)]] ((0 : Nat) + (j_1 - List.length x.out))))])))) (.leaf (.mk .normal [.v (.int .i64 
    n), .sl 7 (List.length w) (lsF Tx.c w), .ptr 1 0, .hs 2 0 (List.length x.out), .v (.int .i64 (IntKind.wrap IntKind.i64 ((↑x.i : Int) + (1 : Int))))] [some (.arr 7 (List.length (l 
    ++ j)) (lsF Tx.c (l ++ j))), some (.row [.v (.int .i64 mo), .hs 0 0 (List.length l)]), some (.arr 7 (List.length x.out) (lsF Tx.c x.out))]))))) (.leaf (.mk (.exit 0) [.v (.int .i64 
    n), .sl 7 (List.length w) (lsF Tx.c w), .ptr 1 0, .hs 2 0 (List.length x.out), .v (.int .i64 (↑x.i : Int))] [some (.arr 7 (List.length (l ++ j)) (lsF Tx.c (l ++ j))), some (.row 
    [.v (.int .i64 mo), .hs 0 0 (List.length l)]), some (.arr 7 (List.length x.out) (lsF Tx.c x.out))])) := by kernel_rfl
theorem rRbe (mo : Int) (l j : List Tx) (n : Int) (w : List Tx) (x : XO) : roundE (P := Tryd.prog) (Γ := Γm) [] Lno false 1 0 (lpRb 0) lvRb [(3, 40)] 77 (SRb mo l j n w x).1 (SRb mo l j n w x).2 =
  Tree.br (bif decide ((↑x.i : Int) < (↑(List.length l) : Int)) then decide ((↑(List.length x.out) : Int) < n) else false) (.chk (decide ((0 : Int) ≤ (↑x.i : Int)) && decide ((↑x.i : Int) < 
    (↑(List.length l) : Int))) .fail) (.leaf (.mk (.exit 0) [.v (.int .i64 n), .sl 7 (List.length w) (lsF Tx.c w), .ptr 1 0, .hs 2 0 (List.length x.out), .v (.int .i64 (↑x.i : Int))] 
    [some (.arr 7 (List.length (l ++ j)) (lsF Tx.c (l ++ j))), some (.row [.v (.int .i64 mo), .hs 0 0 (List.length l)]), some (.arr 7 (List.length x.out) (lsF Tx.c x.out))])) := by kernel_rfl
theorem loopRc {mo : Int} {l j : List Tx} {n : Int} {w : List Tx} {x : XO} (hi : x.i < l.length) (hl : l.length ≤ 100000) (ho : x.out.length ≤ 100000) {o : Bool} : ∀ y : Bool × Nat, (y.2 ≤ x.out.length ∧ (y.1 || turnB (x.out.drop y.2) (l.getD x.i default).fr (l.getD x.i default).nn) = o) → LoopOK Tryd.prog Γm 1 77 (lpRb 1) (LSpec.at lvRc [] (SRc mo l j n w x y.1 y.2) (ORc mo l j n w x o)) := by
  refine loop_at (S := fun y : Bool × Nat => SRc mo l j n w x y.1 y.2) (O := fun _ => ORc mo l j n w x o) (k := 0) (fun y => x.out.length - y.2) fun y hp => .of (L := Lno) (failOK fun _ _ _ => rfl) (rRc mo l j n w x y.1 y.2) ?_
  obtain ⟨a, k⟩ := y
  obtain ⟨i, out⟩ := x
  obtain ⟨h1, h2⟩ := hp
  dsimp only at h1 h2 hi ho
  simp only [Nat.zero_add, getD_app hi]
  rcases Nat.lt_or_ge k out.length with hk | hk
  · have hd : out.drop k = out.getD k default :: out.drop (k + 1) := by rw [List.drop_eq_getElem_cons hk, getD_get hk]
    rw [hd] at h2
    have h2 : (a || ((decide ((out.getD k default).fr = (l.getD i default).fr) && decide ((out.getD k default).nn = (l.getD i default).nn)) || turnB (out.drop (k + 1)) (l.getD i default).fr (l.getD i default).nn)) = o := h2
    rw [← Bool.or_assoc] at h2
    have hc : ∀ a b c : Bool, (bif a then true else bif b then c else false) = (a || (b && c)) := by decide
    simp only [hc]
    have d1 : decide ((0 : Int) ≤ (k : Int)) = true := decide_eq_true (by omega)
    have d2 : decide ((k : Int) < (out.length : Int)) = true := decide_eq_true (by omega)
    have d3 : decide ((0 : Int) ≤ (i : Int)) = true := decide_eq_true (by omega)
    have d4 : decide ((i : Int) < (l.length : Int)) = true := decide_eq_true (by omega)
    simp only [d1, d2, d3, d4, Bool.and_true, condSelf]
    generalize (decide ((out.getD k default).fr = (l.getD i default).fr) && decide ((out.getD k default).nn = (l.getD i default).nn)) = d at *
    repeat' (first | refine wC (by first | omega | (simp only [W1, cond_true, cond_false, wrapUpN (show k ≤ 10000000000 by omega)]; first | done | omega)) ?_ | refine wT (by first | omega | (simp only [W1, cond_true, cond_false, wrapUpN (show k ≤ 10000000000 by omega)]; first | done | omega)) ?_ | refine wF (by intro _h; first | omega | (simp only [W1, cond_true, cond_false, wrapUpN (show k ≤ 10000000000 by omega)] at _h; first | done | omega)) ?_ | (refine wS ?_ ?_ <;> intro _h <;> simp only [W1, cond_true, cond_false, wrapUpN (show k ≤ 10000000000 by omega)] at _h))
    all_goals simp only [W1, W2, owesN, owesX, owesR, cond_true, cond_false, wrapUpN (show k ≤ 10000000000 by omega)]
    repeat' (first | apply And.intro | intro _hc)
    all_goals first | exact ⟨(or a d, k + 1), LeL.refl _, LeH.refl _, ⟨hk, h2⟩, by dsimp only; omega⟩ | exact AV.le_refl _ | exact AV.le_any _ | exact OLe.refl _ | exact OLe.none _ | exact LeH.refl _ | exact LeL.refl _ | exact AV.le.bs _ | exact AV.le.sb _ | omega | contradiction
  · rw [List.drop_eq_nil_of_le hk] at h2
    have h2 : a = o := by simpa [turnB] using h2
    subst h2
    repeat' (first | refine wC (by first | omega | (simp only [W1, cond_true, cond_false]; first | done | omega)) ?_ | refine wT (by first | omega | (simp only [W1, cond_true, cond_false]; first | done | omega)) ?_ | refine wF (by intro _h; first | omega | (simp only [W1, cond_true, cond_false] at _h; first | done | omega)) ?_ | (refine wS ?_ ?_ <;> intro _h <;> simp only [W1, cond_true, cond_false] at _h))
    all_goals simp only [W1, W2, owesN, owesX, owesR, cond_true, cond_false]
    repeat' (first | apply And.intro | intro _hc)
    all_goals first | exact rfl | exact AV.le_refl _ | exact AV.le_any _ | exact OLe.refl _ | exact OLe.none _ | exact LeH.refl _ | exact LeL.refl _ | exact AV.le.bs _ | exact AV.le.sb _ | omega | contradiction
theorem bat_full {w : List Tx} {n : Int} : ∀ {l out : List Tx}, n ≤ out.length → batF w n l out = out := by
  intro l
  induction l with
  | nil => intro out _; rfl
  | cons t l ih =>
    intro out h
    have hb : bstep w n out t = out := if_pos (.inr (.inr h))
    show batF w n l (bstep w n out t) = out
    rw [hb]
    exact ih h
theorem loopRb {mo : Int} {l j : List Tx} {n : Int} {w : List Tx} (hw : w.length ≤ 100000) (hl : l.length ≤ 100000) {res : List Tx} : ∀ x : XO, (x.i ≤ l.length ∧ x.out.length ≤ x.i ∧ batF w n (l.drop x.i) x.out = res) → LoopOK Tryd.prog Γm 1 77 (lpRb 0) (LSpec.at lvRb [(3, 40)] (SRb mo l j n w x) (ORb mo l j res)) := by
  refine loop_at (S := SRb mo l j n w) (O := fun _ => ORb mo l j res) (k := 0) (fun x => l.length - x.i) fun x hp => ?_
  obtain ⟨i, out⟩ := x
  obtain ⟨h1, h2, h3⟩ := hp
  dsimp only at h1 h2 h3
  have hg : isTx (lsF Tx.c w) := isTx_ls w
  by_cases hc : i < l.length ∧ (out.length : Int) < n
  · obtain ⟨hi, hn⟩ := hc
    have hd : l.drop i = l.getD i default :: l.drop (i + 1) := by rw [List.drop_eq_getElem_cons hi, getD_get hi]
    rw [hd] at h3
    have h3 : batF w n (l.drop (i + 1)) (bstep w n out (l.getD i default)) = res := h3
    have hc := loopRc (mo := mo) (l := l) (j := j) (n := n) (w := w) (x := ⟨i, out⟩) hi hl (by dsimp only; omega) (o := hasT w (l.getD i default) || turnB out (l.getD i default).fr (l.getD i default).nn) (hasT w (l.getD i default), 0) ⟨Nat.zero_le _, by rw [List.drop_zero]⟩
    refine .of (oneLoop (b := lpRb 1) (by kernel_rfl) hc) (rRb mo l j n w ⟨i, out⟩ _ _) ?_
    simp only [Nat.zero_add, Int.toNat_natCast, getD_app hi]
    generalize l.getD i default = t at *
    have hx : Tx.mk t.k t.fr t.to t.ky t.vl t.am t.nn = t := rfl
    cases hh : hasT w t || turnB out t.fr t.nn with
    | true =>
      have hb : bstep w n out t = out := if_pos (by rw [Bool.or_eq_true] at hh; rcases hh with h | h; exact .inr (.inl h); exact .inl h)
      rw [hb] at h3
      repeat' (first | refine wC (by first | omega | (simp only [W1, cond_true, cond_false, hx, hg, hasF_l, hh, wrapUpN (show i ≤ 10000000000 by omega)]; first | done | omega)) ?_ | refine wT (by first | omega | (simp only [W1, cond_true, cond_false, hx, hg, hasF_l, hh, wrapUpN (show i ≤ 10000000000 by omega)]; first | done | omega)) ?_ | refine wF (by intro _h; first | omega | (simp only [W1, cond_true, cond_false, hx, hg, hasF_l, hh, wrapUpN (show i ≤ 10000000000 by omega)] at _h; first | done | omega)) ?_ | (refine wS ?_ ?_ <;> intro _h <;> simp only [W1, cond_true, cond_false, hx, hg, hasF_l, hh, wrapUpN (show i ≤ 10000000000 by omega)] at _h))
      all_goals simp only [W1, W2, owesN, owesX, owesR, cond_true, cond_false, hx, hg, hasF_l, hh, wrapUpN (show i ≤ 10000000000 by omega)]
      repeat' (first | apply And.intro | intro _hc)
      all_goals first | exact ⟨⟨i + 1, out⟩, LeL.refl _, LeH.refl _, ⟨hi, by dsimp only; omega, h3⟩, by dsimp only; omega⟩ | exact AV.le_refl _ | exact AV.le_any _ | exact OLe.refl _ | exact OLe.none _ | exact LeH.refl _ | exact LeL.refl _ | exact AV.le.bs _ | exact AV.le.sb _ | omega | contradiction
    | false =>
      have hb : bstep w n out t = out ++ [t] := if_neg (by rw [Bool.or_eq_false_iff] at hh; rw [hh.1, hh.2]; simp; omega)
      rw [hb] at h3
      have ha := Tx.cod.app0 out t default rfl (N := out.length + 1) rfl
      repeat' (first | refine wC (by first | omega | (simp only [W1, cond_true, cond_false, hx, hg, hasF_l, hh, wrapUpN (show i ≤ 10000000000 by omega)]; first | done | omega)) ?_ | refine wT (by first | omega | (simp only [W1, cond_true, cond_false, hx, hg, hasF_l, hh, wrapUpN (show i ≤ 10000000000 by omega)]; first | done | omega)) ?_ | refine wF (by intro _h; first | omega | (simp only [W1, cond_true, cond_false, hx, hg, hasF_l, hh, wrapUpN (show i ≤ 10000000000 by omega)] at _h; first | done | omega)) ?_ | (refine wS ?_ ?_ <;> intro _h <;> simp only [W1, cond_true, cond_false, hx, hg, hasF_l, hh, wrapUpN (show i ≤ 10000000000 by omega)] at _h))
      all_goals simp only [W1, W2, owesN, owesX, owesR, cond_true, cond_false, hx, hg, hasF_l, hh, wrapUpN (show i ≤ 10000000000 by omega)]
      repeat' (first | apply And.intro | intro _hc)
      all_goals first | exact cl7_room (by omega) | exact ⟨⟨i + 1, out ++ [t]⟩, ⟨.refl _, .refl _, .refl _, by (rw [List.length_append]; exact AV.le_refl _), .refl _, trivial⟩, ⟨OLe.refl _, OLe.refl _, ha, trivial⟩, ⟨hi, by dsimp only; simp; omega, h3⟩, by dsimp only; omega⟩ | exact AV.le_refl _ | exact AV.le_any _ | exact OLe.refl _ | exact OLe.none _ | exact LeH.refl _ | exact LeL.refl _ | exact AV.le.bs _ | exact AV.le.sb _ | omega | contradiction
  · have h3 : out = res := by
      by_cases hi : i < l.length
      · rw [bat_full (by omega)] at h3; exact h3
      · rw [List.drop_eq_nil_of_le (by omega)] at h3; exact h3
    subst h3
    refine .of (L := Lno) (failOK fun _ _ _ => rfl) (rRbe mo l j n w ⟨i, out⟩) ?_
    repeat' (first | refine wC (by first | omega | (simp only [W1, cond_true, cond_false]; first | done | omega)) ?_ | refine wT (by first | omega | (simp only [W1, cond_true, cond_false]; first | done | omega)) ?_ | refine wF (by intro _h; first | omega | (simp only [W1, cond_true, cond_false] at _h; first | done | omega)) ?_ | (refine wS ?_ ?_ <;> intro _h <;> simp only [W1, cond_true, cond_false] at _h))
    all_goals simp only [W1, W2, owesN, owesX, owesR, cond_true, cond_false]
    repeat' (first | apply And.intro | intro _hc)
    all_goals first | exact rfl | exact AV.le_refl _ | exact AV.le_any _ | exact OLe.refl _ | exact OLe.none _ | exact LeH.refl _ | exact LeL.refl _ | exact AV.le.bs _ | exact AV.le.sb _ | omega | contradiction
theorem runRb (mo : Int) (l j : List Tx) (n : Int) (w res : List Tx) : bodyE (P := Tryd.prog) (Γ := Γm) [] (fun _ => LSpec.at lvRb [(3, 40)] (SRb mo l j n w ⟨0, []⟩) (ORb mo l j res)) false 77 [.tmp 6] (bodyOf Tryd.f54) [plV 0 mo l.length, .v (.int .i64 n), .sl 7 w.length (lsF Tx.c w)] [txB' (l ++ j)] =
  Tree.chk (cl (LeL [.v (.int .i64 n), .sl 7 (List.length w) (lsF Tx.c w), .ptr 1 0, .hs 2 0 (0 : Nat), .v (.int .i64 (0 : Int))] [.v (.int .i64 n), .sl 7 (List.length w) (lsF Tx.c w), .ptr 1 
    0, .hs 2 0 (0 : Nat), .v (.int .i64 (↑(0 : Nat) : Int))] ∧ LeH [some (.arr 7 (List.length (l ++ j)) (lsF Tx.c (l ++ j))), some (.row [.v (.int .i64 mo), .hs 0 0 (List.length l)]), 
    some (.arr 7 (0 : Nat) fun x => [.v (.int .i64 (0 : Int)), .v (.string (ByteArray.mk #[])), .v (.string (ByteArray.mk #[])), .v (.string (ByteArray.mk #[])), .v (.string 
    (ByteArray.mk #[])), .v (.int .i64 (0 : Int)), .v (.int .i64 (0 : Int))])] [some (.arr 7 (List.length (l ++ j)) (lsF Tx.c (l ++ j))), some (.row [.v (.int .i64 mo), .hs 0 0 
    (List.length l)]), some (.arr 7 (0 : Nat) (lsF Tx.c (XO.mk (0 : Nat) []).out))])) (.leaf (Ans.mk (.hs 1 0 (List.length res)) [some (.arr 7 (List.length (l ++ j)) (lsF Tx.c (l ++ 
    j))), some (.arr 7 (List.length res) (lsF Tx.c res))])) := by kernel_rfl
noncomputable def LRb (mo : Int) (l j : List Tx) (n : Int) (w res : List Tx) : Nat → LSpec
  | 0 => LSpec.at lvRb [(3, 40)] (SRb mo l j n w ⟨0, []⟩) (ORb mo l j res)
  | _ => ⟨[], [], fun _ _ => .fail⟩
theorem runRb2 (mo : Int) (l j : List Tx) (n : Int) (w res : List Tx) : bodyE (P := Tryd.prog) (Γ := Γm) [] (LRb mo l j n w res) false 77 [.tmp 6] (bodyOf Tryd.f54) [plV 0 mo l.length, .v (.int .i64 n), .sl 7 w.length (lsF Tx.c w)] [txB' (l ++ j)] =
  Tree.chk (cl (LeL [.v (.int .i64 n), .sl 7 (List.length w) (lsF Tx.c w), .ptr 1 0, .hs 2 0 (0 : Nat), .v (.int .i64 (0 : Int))] [.v (.int .i64 n), .sl 7 (List.length w) (lsF Tx.c w), .ptr 1 
    0, .hs 2 0 (0 : Nat), .v (.int .i64 (↑(0 : Nat) : Int))] ∧ LeH [some (.arr 7 (List.length (l ++ j)) (lsF Tx.c (l ++ j))), some (.row [.v (.int .i64 mo), .hs 0 0 (List.length l)]), 
    some (.arr 7 (0 : Nat) fun x => [.v (.int .i64 (0 : Int)), .v (.string (ByteArray.mk #[])), .v (.string (ByteArray.mk #[])), .v (.string (ByteArray.mk #[])), .v (.string 
    (ByteArray.mk #[])), .v (.int .i64 (0 : Int)), .v (.int .i64 (0 : Int))])] [some (.arr 7 (List.length (l ++ j)) (lsF Tx.c (l ++ j))), some (.row [.v (.int .i64 mo), .hs 0 0 
    (List.length l)]), some (.arr 7 (0 : Nat) (lsF Tx.c (XO.mk (0 : Nat) []).out))])) (.leaf (Ans.mk (.hs 1 0 (List.length res)) [some (.arr 7 (List.length (l ++ j)) (lsF Tx.c (l ++ 
    j))), some (.arr 7 (List.length res) (lsF Tx.c res))])) := by kernel_rfl
theorem ansRb {mo : Int} {l j : List Tx} {n : Int} {w : List Tx} (hw : w.length ≤ 100000) (hl : l.length ≤ 100000) : Answers Tryd.prog Γm 54 [plV 0 mo l.length, .v (.int .i64 n), .sl 7 w.length (lsF Tx.c w)] [txB' (l ++ j)] (.hs 1 0 (batF w n l []).length) [some (txB' (l ++ j))] [txB' (batF w n l [])] :=
  answers (fn := Tryd.f54) (c := bodyOf Tryd.f54) (ntmps := 77) (results := [.tmp 6]) [] (LRb mo l j n w (batF w n l [])) false Tryd.func54 (by kernel_rfl) (by kernel_rfl) (by kernel_rfl) (by kernel_rfl) (by simp) rfl (twoLoops (b := lpRb 0) (b' := lpRb 1) (by kernel_rfl) (loopRb hw hl ⟨0, []⟩ ⟨Nat.zero_le _, Nat.le_refl _, rfl⟩) (fun _ _ _ h => by simp [LRb, Tree.get] at h)) <| Meets.of (runRb2 mo l j n w (batF w n l [])) <| by
    repeat' (first | refine wC (by first | omega | (simp only [W1, cond_true, cond_false]; first | done | omega)) ?_ | refine wT (by first | omega | (simp only [W1, cond_true, cond_false]; first | done | omega)) ?_ | refine wF (by intro _h; first | omega | (simp only [W1, cond_true, cond_false] at _h; first | done | omega)) ?_ | (refine wS ?_ ?_ <;> intro _h <;> simp only [W1, cond_true, cond_false] at _h))
    all_goals simp only [W1, W2, owesN, owesX, owesR, cond_true, cond_false]
    repeat' (first | apply And.intro | intro _hc)
    all_goals first | exact OLe.arr rfl (fun e he => absurd he (Nat.not_lt_zero e)) (fun _ => rfl) | exact AV.le_refl _ | exact AV.le_any _ | exact OLe.refl _ | exact OLe.none _ | exact LeH.refl _ | exact LeL.refl _ | exact AV.le.bs _ | exact AV.le.sb _ | omega | contradiction
end Go.Eng.TA

/- PoolPlays: the rounds. -/
namespace Go.Eng.TA
open Go Go.Eng Go.Eng.M Go.Lib Go.Proofs
set_option linter.unusedSimpArgs false
set_option linter.unusedVariables false
/-- two rows show one list -/
def smP (N n : Nat) (f : Nat → List AV) (M m : Nat) (g : Nat → List AV) : Prop := ∃ l j j' : List Tx, l.length ≤ 100000 ∧ n = l.length ∧ m = l.length ∧ N = (l ++ j).length ∧ M = (l ++ j').length ∧ f = lsF Tx.c (l ++ j) ∧ g = lsF Tx.c (l ++ j')
theorem smP1 {l j j' : List Tx} (h : l.length ≤ 100000) : smP (l ++ j).length l.length (lsF Tx.c (l ++ j)) (l ++ j').length l.length (lsF Tx.c (l ++ j')) = True := eq_true ⟨l, j, j', h, rfl, rfl, rfl, rfl, rfl, rfl⟩
theorem smP2 {l j' : List Tx} (h : l.length ≤ 100000) : smP l.length l.length (lsF Tx.c l) (l ++ j').length l.length (lsF Tx.c (l ++ j')) = True := by
  have := smP1 (l := l) (j := []) (j' := j') h
  simpa using this
theorem smP3 {l : List Tx} (h : l.length ≤ 100000) : smP l.length l.length (lsF Tx.c l) l.length l.length (lsF Tx.c l) = True := by
  have := smP1 (l := l) (j := []) (j' := []) h
  simpa using this
def ofSm : List AV → List Blk → Option (Nat × Nat × (Nat → List AV) × Nat × Nat × (Nat → List AV))
  | [.hs _ _ n, .hs _ _ m], [.arr _ N f, .arr _ M g] => some (N, n, f, M, m, g)
  | _, _ => none
noncomputable def kSm : CT Tryd.prog Γm := CT.par 51 ofSm (fun | (N, n, f, M, m, g) => smP N n f M m g) (fun | (_, n, _, _, m, _) => [.hs 0 0 n, .hs 1 0 m]) (fun | (N, _, f, M, _, g) => [.arr 7 N f, .arr 7 M g]) (fun _ => .v (.bool true)) (fun | (N, _, f, M, _, g) => [some (.arr 7 N f), some (.arr 7 M g)]) (fun _ => []) (callFunc_enters Tryd.func51 (by kernel_rfl) (by kernel_rfl)) fun ⟨N, n, f, M, m, g⟩ h => by
  obtain ⟨l, j, j', h0, rfl, rfl, rfl, rfl, rfl, rfl⟩ := h
  exact ansSm (by omega)
structure Ap where
  k : Int
  n : Int
  l : List Tx
instance : Inhabited Ap := ⟨⟨0, 0, []⟩⟩
def Ap.c (x : Ap) : List AV := [.v (.int .i64 x.k), .v (.int .i64 x.n), .sl 7 x.l.length (lsF Tx.c x.l)]
noncomputable abbrev lp12 : Code := loopOf (bodyOf Tryd.f12) 0
abbrev lv12 : List Nat := [1, 5, 7, 8, 4]
abbrev nl12 : List (Nat × TypeId) := [(201, 40), (202, 40)]
structure X12 where
  i : Nat
  L : List Tx
  j : List Tx
  j' : List Tx
def S12 (mo : Int) (acts : List Ap) (x : X12) : List AV × Heap := ([.sl 3 acts.length (lsF Ap.c acts), .ptr 0 0, .ptr 2 0, .v (.int .i64 (x.i : Int)), .any], [some (plR 1 mo x.L.length), some (txB' (x.L ++ x.j)), some (plR 3 mo x.L.length), some (txB' (x.L ++ x.j'))])
theorem r12e (mo : Int) (acts : List Ap) (x : X12) : roundE (P := Tryd.prog) (Γ := Γm) [kGrL] Lno false 0 0 lp12 lv12 nl12 151 (S12 mo acts x).1 (S12 mo acts x).2 =
  Tree.br (decide ((↑x.i : Int) < (↑(List.length acts) : Int))) (.chk (decide ((0 : Int) ≤ (↑x.i : Int)) && decide ((↑x.i : Int) < (↑(List.length acts) : Int))) (.chk (cl ((∃ l, isL 
    (List.length (List.getD acts (Int.toNat ↑x.i) default).l) (lsF Tx.c (List.getD acts (Int.toNat ↑x.i) default).l) l) ∧ LeL [.sl 7 (List.length (List.getD acts (Int.toNat ↑x.i) 
    default).l) (lsF Tx.c (List.getD acts (Int.toNat ↑x.i) default).l)] [.sl 7 (List.length (List.getD acts (Int.toNat ↑x.i) default).l) (lsF Tx.c (List.getD acts (Int.toNat ↑x.i) 
    default).l)] ∧ LeH [] [])) (.br (grF (List.length (List.getD acts (Int.toNat ↑x.i) default).l) (lsF Tx.c (List.getD acts (Int.toNat ↑x.i) default).l)) (.leaf (.mk .ret [.sl 3 
    (List.length acts) (lsF Ap.c acts), .ptr 0 0, .ptr 2 0, .v (.int .i64 (↑x.i : Int)), .v (.bool true)] [some (.row [.v (.int .i64 mo), .hs 1 0 (List.length x.L)]), some (.arr 7 
    (List.length (x.L ++ x.j)) (lsF Tx.c (x.L ++ x.j))), some (.row [.v (.int .i64 mo), .hs 3 0 (List.length x.L)]), some (.arr 7 (List.length (x.L ++ x.j')) (lsF Tx.c (x.L ++ 
    x.j')))])) (.br (decide ((0 : Int) < (↑(List.length (List.getD acts (Int.toNat ↑x.i) default).l) : Int))) (.chk (decide ((0 : Int) < (↑(List.length (List.getD acts (Int.toNat ↑x.i) 
    default).l) : Int))) (.br (decide ((List.getD acts x.i default).k = (0 : Int))) .fail (.br (decide ((List.getD acts x.i default).k = (1 : Int))) .fail (.br (decide ((List.getD acts 
    x.i default).k = (2 : Int))) .fail (.br (decide ((List.getD acts x.i default).k = (3 : Int))) .fail .fail))))) (.br (decide ((List.getD acts x.i default).k = (0 : Int))) .fail (.br 
    (decide ((List.getD acts x.i default).k = (1 : Int))) .fail (.br (decide ((List.getD acts x.i default).k = (2 : Int))) .fail (.br (decide ((List.getD acts x.i default).k = (3 : 
    Int))) .fail .fail)))))))) (.leaf (.mk (.exit 0) [.sl 3 (List.length acts) (lsF Ap.c acts), .ptr 0 0, .ptr 2 0, .v (.int .i64 (↑x.i : Int)), .any] [some (.row [.v (.int .i64 mo), 
    .hs 1 0 (List.length x.L)]), some (.arr 7 (List.length (x.L ++ x.j)) (lsF Tx.c (x.L ++ x.j))), some (.row [.v (.int .i64 mo), .hs 3 0 (List.length x.L)]), some (.arr 7 (List.length 
    (x.L ++ x.j')) (lsF Tx.c (x.L ++ x.j')))])) := by kernel_rfl
def fstT (acts : List Ap) (i : Nat) : Tx := (acts.getD i default).l.getD 0 default
theorem r12o (mo : Int) (acts : List Ap) (x : X12) (hL : x.L.length ≤ 1000000000) : roundE (P := Tryd.prog) (Γ := Γm) [kGrL, CT.at 48 (ansAll (mo := mo) (l := x.L) (j := x.j) hL), kSm, kLenP] Lno false 0 0 lp12 lv12 nl12 151 (S12 mo acts x).1 (S12 mo acts x).2 =
  Tree.br (decide ((↑x.i : Int) < (↑(List.length acts) : Int))) (.chk (decide ((0 : Int) ≤ (↑x.i : Int)) && decide ((↑x.i : Int) < (↑(List.length acts) : Int))) (.chk (cl ((∃ l, isL 
    (List.length (List.getD acts (Int.toNat ↑x.i) default).l) (lsF Tx.c (List.getD acts (Int.toNat ↑x.i) default).l) l) ∧ LeL [.sl 7 (List.length (List.getD acts (Int.toNat ↑x.i) 
    default).l) (lsF Tx.c (List.getD acts (Int.toNat ↑x.i) default).l)] [.sl 7 (List.length (List.getD acts (Int.toNat ↑x.i) default).l) (lsF Tx.c (List.getD acts (Int.toNat ↑x.i) 
    default).l)] ∧ LeH [] [])) (.br (grF (List.length (List.getD acts (Int.toNat ↑x.i) default).l) (lsF Tx.c (List.getD acts (Int.toNat ↑x.i) default).l)) (.leaf (.mk .ret [.sl 3 
    (List.length acts) (lsF Ap.c acts), .ptr 0 0, .ptr 2 0, .v (.int .i64 (↑x.i : Int)), .v (.bool true)] [some (.row [.v (.int .i64 mo), .hs 1 0 (List.length x.L)]), some (.arr 7 
    (List.length (x.L ++ x.j)) (lsF Tx.c (x.L ++ x.j))), some (.row [.v (.int .i64 mo), .hs 3 0 (List.length x.L)]), some (.arr 7 (List.length (x.L ++ x.j')) (lsF Tx.c (x.L ++ 
    x.j')))])) (.br (decide ((0 : Int) < (↑(List.length (List.getD acts (Int.toNat ↑x.i) default).l) : Int))) (.chk (decide ((0 : Int) < (↑(List.length (List.getD acts (Int.toNat ↑x.i) 
    default).l) : Int))) (.br (decide ((List.getD acts x.i default).k = (0 : Int))) .fail (.br (decide ((List.getD acts x.i default).k = (1 : Int))) .fail (.br (decide ((List.getD acts 
    x.i default).k = (2 : Int))) .fail (.br (decide ((List.getD acts x.i default).k = (3 : Int))) .fail (.chk (cl (LeL [.ptr 0 0] [.ptr 0 0] ∧ LeH [some (.row [.v (.int .i64 mo), .hs 1 
    0 (List.length x.L)]), some (.arr 7 (List.length (x.L ++ x.j)) (lsF Tx.c (x.L ++ x.j)))] [some (.row [.v (.int .i64 mo), .hs 1 0 (List.length x.L)]), some (.arr 7 (List.length (x.L 
    ++ x.j)) (lsF Tx.c (x.L ++ x.j)))])) (.chk (cl (smP (List.length x.L) (List.length x.L) (lsF Tx.c x.L) (List.length (x.L ++ x.j')) (List.length x.L) (lsF Tx.c (x.L ++ x.j')) ∧ LeL 
    [.hs 0 0 (List.length x.L), .hs 1 0 (List.length x.L)] [.hs 0 0 (List.length x.L), .hs 1 0 (List.length x.L)] ∧ LeH [some (.arr 7 (List.length x.L) (lsF Tx.c x.L)), some (.arr 7 
    (List.length (x.L ++ x.j')) (lsF Tx.c (x.L ++ x.j')))] [some (.arr 7 (List.length x.L) (lsF Tx.c x.L)), some (.arr 7 (List.length (x.L ++ x.j')) (lsF Tx.c (x.L ++ x.j')))])) (.br 
    (!decide ((↑(List.length x.L) : Int) = (↑(List.length x.L) : Int))) (.leaf (.mk .ret [.sl 3 (List.length acts) (lsF Ap.c acts), .ptr 0 0, .ptr 2 0, .v (.int .i64 (↑x.i : Int)), .v 
    (.bool false)] [some (.row [.v (.int .i64 mo), .hs 1 0 (List.length x.L)]), some (.arr 7 (List.length (x.L ++ x.j)) (lsF Tx.c (x.L ++ x.j))), some (.row [.v (.int .i64 mo), .hs 3 0 
    (List.length x.L)]), some (.arr 7 (List.length (x.L ++ x.j')) (lsF Tx.c (x.L ++ x.j')))])) (.leaf (.mk .normal [.sl 3 (List.length acts) (lsF Ap.c acts), .ptr 0 0, .ptr 2 0, .v 
    (.int .i64 (IntKind.wrap IntKind.i64 ((↑x.i : Int) + (1 : Int)))), .any] [some (.row [.v (.int .i64 mo), .hs 1 0 (List.length x.L)]), some (.arr 7 (List.length (x.L ++ x.j)) (lsF 
    Tx.c (x.L ++ x.j))), some (.row [.v (.int .i64 mo), .hs 3 0 (List.length x.L)]), some (.arr 7 (List.length (x.L ++ x.j')) (lsF Tx.c (x.L ++ x.j')))])))))))))) (.br (decide 
    ((List.getD acts x.i default).k = (0 : Int))) .fail (.br (decide ((List.getD acts x.i default).k = (1 : Int))) .fail (.br (decide ((List.getD acts x.i default).k = (2 : Int))) 
    .fail (.br (decide ((List.getD acts x.i default).k = (3 : Int))) .fail (.chk (cl (LeL [.ptr 0 0] [.ptr 0 0] ∧ LeH [some (.row [.v (.int .i64 mo), .hs 1 0 (List.length x.L)]), some 
    (.arr 7 (List.length (x.L ++ x.j)) (lsF Tx.c (x.L ++ x.j)))] [some (.row [.v (.int .i64 mo), .hs 1 0 (List.length x.L)]), some (.arr 7 (List.length (x.L ++ x.j)) (lsF Tx.c (x.L ++ 
    x.j)))])) (.chk (cl (smP (List.length x.L) (List.length x.L) (lsF Tx.c x.L) (List.length (x.L ++ x.j')) (List.length x.L) (lsF Tx.c (x.L ++ x.j')) ∧ LeL [.hs 0 0 (List.length x.L), 
    .hs 1 0 (List.length x.L)] [.hs 0 0 (List.length x.L), .hs 1 0 (List.length x.L)] ∧ LeH [some (.arr 7 (List.length x.L) (lsF Tx.c x.L)), some (.arr 7 (List.length (x.L ++ x.j')) 
    (lsF Tx.c (x.L ++ x.j')))] [some (.arr 7 (List.length x.L) (lsF Tx.c x.L)), some (.arr 7 (List.length (x.L ++ x.j')) (lsF Tx.c (x.L ++ x.j')))])) (.br (!decide ((↑(List.length x.L) 
    : Int) = (↑(List.length x.L) : Int))) (.leaf (.mk .ret [.sl 3 (List.length acts) (lsF Ap.c acts), .ptr 0 0, .ptr 2 0, .v (.int .i64 (↑x.i : Int)), .v (.bool false)] [some (.row [.v 
    (.int .i64 mo), .hs 1 0 (List.length x.L)]), some (.arr 7 (List.length (x.L ++ x.j)) (lsF Tx.c (x.L ++ x.j))), some (.row [.v (.int .i64 mo), .hs 3 0 (List.length x.L)]), some 
    (.arr 7 (List.length (x.L ++ x.j')) (lsF Tx.c (x.L ++ x.j')))])) (.leaf (.mk .normal [.sl 3 (List.length acts) (lsF Ap.c acts), .ptr 0 0, .ptr 2 0, .v (.int .i64 (IntKind.wrap 
    IntKind.i64 ((↑x.i : Int) + (1 : Int)))), .any] [some (.row [.v (.int .i64 mo), .hs 1 0 (List.length x.L)]), some (.arr 7 (List.length (x.L ++ x.j)) (lsF Tx.c (x.L ++ x.j))), some 
    (.row [.v (.int .i64 mo), .hs 3 0 (List.length x.L)]), some (.arr 7 (List.length (x.L ++ x.j')) (lsF Tx.c (x.L ++ x.j')))]))))))))))))) (.leaf (.mk (.exit 0) [.sl 3 (List.length 
    acts) (lsF Ap.c acts), .ptr 0 0, .ptr 2 0, .v (.int .i64 (↑x.i : Int)), .any] [some (.row [.v (.int .i64 mo), .hs 1 0 (List.length x.L)]), some (.arr 7 (List.length (x.L ++ x.j)) 
    (lsF Tx.c (x.L ++ x.j))), some (.row [.v (.int .i64 mo), .hs 3 0 (List.length x.L)]), some (.arr 7 (List.length (x.L ++ x.j')) (lsF Tx.c (x.L ++ x.j')))])) := by kernel_rfl
end Go.Eng.TA

/- PoolPlays: one more, the rounds. -/
namespace Go.Eng.TA
open Go Go.Eng Go.Eng.M Go.Lib Go.Proofs
set_option linter.unusedSimpArgs false
set_option linter.unusedVariables false
theorem runAd (mo : Int) (L j : List Tx) (t : Tx) : bodyE (P := Tryd.prog) (Γ := Γm) [kTx, kCo] Lno false 41 [.tmp 4] (bodyOf Tryd.f47) [.ptr 0 0, txV t] [plR 1 mo L.length, txB' (L ++ j)] =
  Tree.chk (cl (smallT (Tx.mk t.k t.fr t.to t.ky t.vl t.am t.nn) ∧ LeL [.agg [.v (.int .i64 t.k), .v (.string t.fr), .v (.string t.to), .v (.string t.ky), .v (.string t.vl), .v (.int .i64 
    t.am), .v (.int .i64 t.nn)]] [.agg [.v (.int .i64 t.k), .v (.string t.fr), .v (.string t.to), .v (.string t.ky), .v (.string t.vl), .v (.int .i64 t.am), .v (.int .i64 t.nn)]] ∧ LeH 
    [] [])) (.br (!decide (erT (txB (Tx.mk t.k t.fr t.to t.ky t.vl t.am t.nn)) = (0 : Int))) (.leaf (Ans.mk (.v (.int .i64 (erT (txB (Tx.mk t.k t.fr t.to t.ky t.vl t.am t.nn))))) [some 
    (.row [.v (.int .i64 mo), .hs 1 0 (List.length L)]), some (.arr 7 (List.length (L ++ j)) (lsF Tx.c (L ++ j)))])) (.chk (cl ((isTx (lsF Tx.c (L ++ j)) ∧ List.length L ≤ List.length 
    (L ++ j) ∧ List.length L ≤ (1000000000 : Nat)) ∧ LeL [.hs 0 0 (List.length L), .agg [.v (.int .i64 t.k), .v (.string t.fr), .v (.string t.to), .v (.string t.ky), .v (.string t.vl), 
    .v (.int .i64 t.am), .v (.int .i64 t.nn)]] [.hs 0 0 (List.length L), .agg [.v (.int .i64 t.k), .v (.string t.fr), .v (.string t.to), .v (.string t.ky), .v (.string t.vl), .v (.int 
    .i64 t.am), .v (.int .i64 t.nn)]] ∧ LeH [some (.arr 7 (List.length (L ++ j)) (lsF Tx.c (L ++ j)))] [some (.arr 7 (List.length (L ++ j)) (lsF Tx.c (L ++ j)))])) (.br (hasF 
    (List.length L) (lsF Tx.c (L ++ j)) (Tx.mk t.k t.fr t.to t.ky t.vl t.am t.nn)) (.leaf (Ans.mk (.v (.int .i64 (100 : Int))) [some (.row [.v (.int .i64 mo), .hs 1 0 (List.length 
    L)]), some (.arr 7 (List.length (L ++ j)) (lsF Tx.c (L ++ j)))])) (.br (decide ((↑(List.length L) : Int) = mo)) (.leaf (Ans.mk (.v (.int .i64 (101 : Int))) [some (.row [.v (.int 
    .i64 mo), .hs 1 0 (List.length L)]), some (.arr 7 (List.length (L ++ j)) (lsF Tx.c (L ++ j)))])) (.chk (roomOk (88 : Nat) (List.length L + (1 : Nat))) (.leaf (Ans.mk (.v (.int .i64 
    (0 : Int))) [some (.row [.v (.int .i64 mo), .hs 2 0 (List.length L + (1 : Nat))]), none, some (.arr 7 (List.length L + (1 : Nat)) fun j_1 => mixL (decide (j_1 < List.length L)) 
    (lsF Tx.c (L ++ j) ((0 : Nat) + j_1)) (chain [.v (.int .i64 (0 : Int)), .v (.string (ByteArray.mk #[])), .v (.string (ByteArray.mk #[])), .v (.string (ByteArray.mk #[])), .v 
    (.string (ByteArray.mk #[])), .v (.int .i64 (0 : Int)), .v (.int .i64 (0 : Int))] (0 : Nat) [[.v (.int .i64 t.k), .v (.string t.fr), .v (.string t.to), .v (.string t.ky), .v 
    (.string t.vl), .v (.int .i64 t.am), .v (.int .i64 t.nn)]] ((0 : Nat) + (j_1 - List.length L))))]))))))) := by kernel_rfl
theorem runAdR (mo : Int) (L j : List Tx) (t : Tx) : bodyE (P := Tryd.prog) (Γ := Γm) [kTxR, kHs] Lno false 32 [.cell 4 74, .tmp 5] (bodyOf Tryd.f53) [plV 0 mo L.length, txV t] [txB' (L ++ j)] =
  Tree.chk (cl (smallT (Tx.mk t.k t.fr t.to t.ky t.vl t.am t.nn) ∧ LeL [.agg [.v (.int .i64 t.k), .v (.string t.fr), .v (.string t.to), .v (.string t.ky), .v (.string t.vl), .v (.int .i64 
    t.am), .v (.int .i64 t.nn)]] [.agg [.v (.int .i64 t.k), .v (.string t.fr), .v (.string t.to), .v (.string t.ky), .v (.string t.vl), .v (.int .i64 t.am), .v (.int .i64 t.nn)]] ∧ LeH 
    [] [])) (.br (!txB (Tx.mk t.k t.fr t.to t.ky t.vl t.am t.nn)) (.leaf (Ans.mk (.tup [.agg [.v (.int .i64 mo), .hs 0 0 (List.length L)], .v (.int .i64 (80 : Int))]) [some (.arr 7 
    (List.length (L ++ j)) (lsF Tx.c (L ++ j)))])) (.chk (cl ((isTx (lsF Tx.c (L ++ j)) ∧ List.length L ≤ List.length (L ++ j) ∧ List.length L ≤ (1000000000 : Nat)) ∧ LeL [.hs 0 0 
    (List.length L), .agg [.v (.int .i64 t.k), .v (.string t.fr), .v (.string t.to), .v (.string t.ky), .v (.string t.vl), .v (.int .i64 t.am), .v (.int .i64 t.nn)]] [.hs 0 0 
    (List.length L), .agg [.v (.int .i64 t.k), .v (.string t.fr), .v (.string t.to), .v (.string t.ky), .v (.string t.vl), .v (.int .i64 t.am), .v (.int .i64 t.nn)]] ∧ LeH [some (.arr 
    7 (List.length (L ++ j)) (lsF Tx.c (L ++ j)))] [some (.arr 7 (List.length (L ++ j)) (lsF Tx.c (L ++ j)))])) (.br (hasF (List.length L) (lsF Tx.c (L ++ j)) (Tx.mk t.k t.fr t.to t.ky 
    t.vl t.am t.nn)) (.leaf (Ans.mk (.tup [.agg [.v (.int .i64 mo), .hs 0 0 (List.length L)], .v (.int .i64 (100 : Int))]) [some (.arr 7 (List.length (L ++ j)) (lsF Tx.c (L ++ j)))])) 
    (.br (decide (mo ≤ (↑(List.length L) : Int))) (.leaf (Ans.mk (.tup [.agg [.v (.int .i64 mo), .hs 0 0 (List.length L)], .v (.int .i64 (101 : Int))]) [some (.arr 7 (List.length (L ++ 
    j)) (lsF Tx.c (L ++ j)))])) (.chk (roomOk (88 : Nat) ((0 : Nat) + List.length L)) (.chk (roomOk (88 : Nat) ((0 : Nat) + List.length L + (1 : Nat))) (.leaf (Ans.mk (.tup [.agg [.v 
    (.int .i64 mo), .hs 1 0 ((0 : Nat) + List.length L + (1 : Nat))], .v (.int .i64 (0 : Int))]) [some (.arr 7 (List.length (L ++ j)) (lsF Tx.c (L ++ j))), some (.arr 7 ((0 : Nat) + 
    List.length L + (1 : Nat)) fun j_1 => mixL (decide (j_1 < (0 : Nat) + List.length L)) (mixL (decide ((0 : Nat) + j_1 < (0 : Nat))) (chain [.v (.int .i64 (0 : Int)), .v (.string 
    (ByteArray.mk #[])), .v (.string (ByteArray.mk #[])), .v (.string (ByteArray.mk #[])), .v (.string (ByteArray.mk #[])), .v (.int .i64 (0 : Int)), .v (.int .i64 (0 : Int))] (0 : 
    Nat) [] ((0 : Nat) + ((0 : Nat) + j_1))) (lsF Tx.c (L ++ j) ((0 : Nat) + ((0 : Nat) + j_1)))) (chain [.v (.int .i64 (0 : Int)), .v (.string (ByteArray.mk #[])), .v (.string 
    (ByteArray.mk #[])), .v (.string (ByteArray.mk #[])), .v (.string (ByteArray.mk #[])), .v (.int .i64 (0 : Int)), .v (.int .i64 (0 : Int))] (0 : Nat) [[.v (.int .i64 t.k), .v 
    (.string t.fr), .v (.string t.to), .v (.string t.ky), .v (.string t.vl), .v (.int .i64 t.am), .v (.int .i64 t.nn)]] ((0 : Nat) + (j_1 - ((0 : Nat) + List.length L)))))])))))))) := by kernel_rfl
def addE (mo : Int) (L : List Tx) (t : Tx) (e : Int) : Prop := (txB t = false ∧ e = 80) ∨ (txB t = true ∧ hasT L t = true ∧ e = 100) ∨ (txB t = true ∧ hasT L t = false ∧ (L.length : Int) = mo ∧ e = 101)
theorem ansAd {mo : Int} {L j : List Tx} {t : Tx} {e : Int} (hs : smallT t) (hL : L.length ≤ 100000) (h : addE mo L t e) : Answers Tryd.prog Γm 47 [.ptr 0 0, txV t] [plR 1 mo L.length, txB' (L ++ j)] (.v (.int .i64 e)) [some (plR 1 mo L.length), some (txB' (L ++ j))] [] :=
  answers (fn := Tryd.f47) (c := bodyOf Tryd.f47) (ntmps := 41) (results := [.tmp 4]) [kTx, kCo] Lno false Tryd.func47 (by kernel_rfl) (by kernel_rfl) (by kernel_rfl) (by kernel_rfl) (by simp) rfl (noLoops (by kernel_rfl)) <| Meets.of (runAd mo L j t) <| by
    have hx : Tx.mk t.k t.fr t.to t.ky t.vl t.am t.nn = t := rfl
    have hg : isTx (lsF Tx.c (L ++ j)) := isTx_ls _
    have hl : (L ++ j).length = L.length + j.length := List.length_append
    rcases h with ⟨h1, rfl⟩ | ⟨h1, h2, rfl⟩ | ⟨h1, h2, h3, rfl⟩
    · have e80 : erT false = 80 := rfl
      repeat' (first | refine wC (by first | omega | (simp only [W1, cond_true, cond_false, hx, hs, h1, e80, hg, hasF_ls]; first | done | omega)) ?_ | refine wT (by first | omega | (simp only [W1, cond_true, cond_false, hx, hs, h1, e80, hg, hasF_ls]; first | done | omega)) ?_ | refine wF (by intro _h; first | omega | (simp only [W1, cond_true, cond_false, hx, hs, h1, e80, hg, hasF_ls] at _h; first | done | omega)) ?_ | (refine wS ?_ ?_ <;> intro _h <;> simp only [W1, cond_true, cond_false, hx, hs, h1, e80, hg, hasF_ls] at _h))
      all_goals simp only [W1, W2, owesN, owesX, owesR, cond_true, cond_false, hx, hs, h1, e80, hg, hasF_ls]
      repeat' (first | apply And.intro | intro _hc)
      all_goals first | exact AV.le_refl _ | exact AV.le_any _ | exact OLe.refl _ | exact OLe.none _ | exact LeH.refl _ | exact LeL.refl _ | exact AV.le.bs _ | exact AV.le.sb _ | omega | contradiction
    · have e0 : erT true = 0 := rfl
      repeat' (first | refine wC (by first | omega | (simp only [W1, cond_true, cond_false, hx, hs, h1, h2, e0, hg, hasF_ls]; first | done | omega)) ?_ | refine wT (by first | omega | (simp only [W1, cond_true, cond_false, hx, hs, h1, h2, e0, hg, hasF_ls]; first | done | omega)) ?_ | refine wF (by intro _h; first | omega | (simp only [W1, cond_true, cond_false, hx, hs, h1, h2, e0, hg, hasF_ls] at _h; first | done | omega)) ?_ | (refine wS ?_ ?_ <;> intro _h <;> simp only [W1, cond_true, cond_false, hx, hs, h1, h2, e0, hg, hasF_ls] at _h))
      all_goals simp only [W1, W2, owesN, owesX, owesR, cond_true, cond_false, hx, hs, h1, h2, e0, hg, hasF_ls]
      repeat' (first | apply And.intro | intro _hc)
      all_goals first | exact AV.le_refl _ | exact AV.le_any _ | exact OLe.refl _ | exact OLe.none _ | exact LeH.refl _ | exact LeL.refl _ | exact AV.le.bs _ | exact AV.le.sb _ | omega | contradiction
    · have e0 : erT true = 0 := rfl
      repeat' (first | refine wC (by first | omega | (simp only [W1, cond_true, cond_false, hx, hs, h1, h2, e0, hg, hasF_ls]; first | done | omega)) ?_ | refine wT (by first | omega | (simp only [W1, cond_true, cond_false, hx, hs, h1, h2, e0, hg, hasF_ls]; first | done | omega)) ?_ | refine wF (by intro _h; first | omega | (simp only [W1, cond_true, cond_false, hx, hs, h1, h2, e0, hg, hasF_ls] at _h; first | done | omega)) ?_ | (refine wS ?_ ?_ <;> intro _h <;> simp only [W1, cond_true, cond_false, hx, hs, h1, h2, e0, hg, hasF_ls] at _h))
      all_goals simp only [W1, W2, owesN, owesX, owesR, cond_true, cond_false, hx, hs, h1, h2, e0, hg, hasF_ls]
      repeat' (first | apply And.intro | intro _hc)
      all_goals first | exact AV.le_refl _ | exact AV.le_any _ | exact OLe.refl _ | exact OLe.none _ | exact LeH.refl _ | exact LeL.refl _ | exact AV.le.bs _ | exact AV.le.sb _ | omega | contradiction
theorem ansAdN {mo : Int} {L j : List Tx} {t : Tx} (hs : smallT t) (hL : L.length ≤ 100000) (h1 : txB t = true) (h2 : hasT L t = false) (h3 : ¬ (L.length : Int) = mo) : Answers Tryd.prog Γm 47 [.ptr 0 0, txV t] [plR 1 mo L.length, txB' (L ++ j)] (.v (.int .i64 0)) [some (plR 2 mo (L ++ [t]).length), none] [txB' (L ++ [t])] :=
  answers (fn := Tryd.f47) (c := bodyOf Tryd.f47) (ntmps := 41) (results := [.tmp 4]) [kTx, kCo] Lno false Tryd.func47 (by kernel_rfl) (by kernel_rfl) (by kernel_rfl) (by kernel_rfl) (by simp) rfl (noLoops (by kernel_rfl)) <| Meets.of (runAd mo L j t) <| by
    have hx : Tx.mk t.k t.fr t.to t.ky t.vl t.am t.nn = t := rfl
    have hg : isTx (lsF Tx.c (L ++ j)) := isTx_ls _
    have hl : (L ++ j).length = L.length + j.length := List.length_append
    have e0 : erT true = 0 := rfl
    repeat' (first | refine wC (by first | omega | (simp only [W1, cond_true, cond_false, hx, hs, h1, h2, e0, hg, hasF_ls]; first | done | omega)) ?_ | refine wT (by first | omega | (simp only [W1, cond_true, cond_false, hx, hs, h1, h2, e0, hg, hasF_ls]; first | done | omega)) ?_ | refine wF (by intro _h; first | omega | (simp only [W1, cond_true, cond_false, hx, hs, h1, h2, e0, hg, hasF_ls] at _h; first | done | omega)) ?_ | (refine wS ?_ ?_ <;> intro _h <;> simp only [W1, cond_true, cond_false, hx, hs, h1, h2, e0, hg, hasF_ls] at _h))
    all_goals simp only [W1, W2, owesN, owesX, owesR, cond_true, cond_false, hx, hs, h1, h2, e0, hg, hasF_ls]
    repeat' (first | apply And.intro | intro _hc)
    all_goals first | exact cl7_room (by omega) | ((rw [List.length_append]; exact OLe.refl _)) | exact Tx.cod.app1 L j t default rfl rfl | exact AV.le_refl _ | exact AV.le_any _ | exact OLe.refl _ | exact OLe.none _ | exact LeH.refl _ | exact LeL.refl _ | exact AV.le.bs _ | exact AV.le.sb _ | omega | contradiction
theorem ansAdR {mo : Int} {L j : List Tx} {t : Tx} {e : Int} (hs : smallT t) (hL : L.length ≤ 100000) (h : addE mo L t e) : Answers Tryd.prog Γm 53 [plV 0 mo L.length, txV t] [txB' (L ++ j)] (.tup [plV 0 mo L.length, .v (.int .i64 e)]) [some (txB' (L ++ j))] [] :=
  answers (fn := Tryd.f53) (c := bodyOf Tryd.f53) (ntmps := 32) (results := [.cell 4 74, .tmp 5]) [kTxR, kHs] Lno false Tryd.func53 (by kernel_rfl) (by kernel_rfl) (by kernel_rfl) (by kernel_rfl) (by simp) rfl (noLoops (by kernel_rfl)) <| Meets.of (runAdR mo L j t) <| by
    have hx : Tx.mk t.k t.fr t.to t.ky t.vl t.am t.nn = t := rfl
    have hg : isTx (lsF Tx.c (L ++ j)) := isTx_ls _
    have hl : (L ++ j).length = L.length + j.length := List.length_append
    rcases h with ⟨h1, rfl⟩ | ⟨h1, h2, rfl⟩ | ⟨h1, h2, h3, rfl⟩
    · repeat' (first | refine wC (by first | omega | (simp only [W1, cond_true, cond_false, hx, hs, h1, hg, hasF_ls]; first | done | omega)) ?_ | refine wT (by first | omega | (simp only [W1, cond_true, cond_false, hx, hs, h1, hg, hasF_ls]; first | done | omega)) ?_ | refine wF (by intro _h; first | omega | (simp only [W1, cond_true, cond_false, hx, hs, h1, hg, hasF_ls] at _h; first | done | omega)) ?_ | (refine wS ?_ ?_ <;> intro _h <;> simp only [W1, cond_true, cond_false, hx, hs, h1, hg, hasF_ls] at _h))
      all_goals simp only [W1, W2, owesN, owesX, owesR, cond_true, cond_false, hx, hs, h1, hg, hasF_ls]
      repeat' (first | apply And.intro | intro _hc)
      all_goals first | exact AV.le_refl _ | exact AV.le_any _ | exact OLe.refl _ | exact OLe.none _ | exact LeH.refl _ | exact LeL.refl _ | exact AV.le.bs _ | exact AV.le.sb _ | omega | contradiction
    · repeat' (first | refine wC (by first | omega | (simp only [W1, cond_true, cond_false, hx, hs, h1, h2, hg, hasF_ls]; first | done | omega)) ?_ | refine wT (by first | omega | (simp only [W1, cond_true, cond_false, hx, hs, h1, h2, hg, hasF_ls]; first | done | omega)) ?_ | refine wF (by intro _h; first | omega | (simp only [W1, cond_true, cond_false, hx, hs, h1, h2, hg, hasF_ls] at _h; first | done | omega)) ?_ | (refine wS ?_ ?_ <;> intro _h <;> simp only [W1, cond_true, cond_false, hx, hs, h1, h2, hg, hasF_ls] at _h))
      all_goals simp only [W1, W2, owesN, owesX, owesR, cond_true, cond_false, hx, hs, h1, h2, hg, hasF_ls]
      repeat' (first | apply And.intro | intro _hc)
      all_goals first | exact AV.le_refl _ | exact AV.le_any _ | exact OLe.refl _ | exact OLe.none _ | exact LeH.refl _ | exact LeL.refl _ | exact AV.le.bs _ | exact AV.le.sb _ | omega | contradiction
    · repeat' (first | refine wC (by first | omega | (simp only [W1, cond_true, cond_false, hx, hs, h1, h2, hg, hasF_ls]; first | done | omega)) ?_ | refine wT (by first | omega | (simp only [W1, cond_true, cond_false, hx, hs, h1, h2, hg, hasF_ls]; first | done | omega)) ?_ | refine wF (by intro _h; first | omega | (simp only [W1, cond_true, cond_false, hx, hs, h1, h2, hg, hasF_ls] at _h; first | done | omega)) ?_ | (refine wS ?_ ?_ <;> intro _h <;> simp only [W1, cond_true, cond_false, hx, hs, h1, h2, hg, hasF_ls] at _h))
      all_goals simp only [W1, W2, owesN, owesX, owesR, cond_true, cond_false, hx, hs, h1, h2, hg, hasF_ls]
      repeat' (first | apply And.intro | intro _hc)
      all_goals first | exact AV.le_refl _ | exact AV.le_any _ | exact OLe.refl _ | exact OLe.none _ | exact LeH.refl _ | exact LeL.refl _ | exact AV.le.bs _ | exact AV.le.sb _ | omega | contradiction
theorem ansAdRN {mo : Int} {L j : List Tx} {t : Tx} (hs : smallT t) (hL : L.length ≤ 100000) (h1 : txB t = true) (h2 : hasT L t = false) (h3 : (L.length : Int) < mo) : Answers Tryd.prog Γm 53 [plV 0 mo L.length, txV t] [txB' (L ++ j)] (.tup [plV 1 mo (L ++ [t]).length, .v (.int .i64 0)]) [some (txB' (L ++ j))] [txB' (L ++ [t])] :=
  answers (fn := Tryd.f53) (c := bodyOf Tryd.f53) (ntmps := 32) (results := [.cell 4 74, .tmp 5]) [kTxR, kHs] Lno false Tryd.func53 (by kernel_rfl) (by kernel_rfl) (by kernel_rfl) (by kernel_rfl) (by simp) rfl (noLoops (by kernel_rfl)) <| Meets.of (runAdR mo L j t) <| by
    have hx : Tx.mk t.k t.fr t.to t.ky t.vl t.am t.nn = t := rfl
    have hg : isTx (lsF Tx.c (L ++ j)) := isTx_ls _
    have hl : (L ++ j).length = L.length + j.length := List.length_append
    repeat' (first | refine wC (by first | omega | (simp only [W1, cond_true, cond_false, hx, hs, h1, h2, hg, hasF_ls]; first | done | omega)) ?_ | refine wT (by first | omega | (simp only [W1, cond_true, cond_false, hx, hs, h1, h2, hg, hasF_ls]; first | done | omega)) ?_ | refine wF (by intro _h; first | omega | (simp only [W1, cond_true, cond_false, hx, hs, h1, h2, hg, hasF_ls] at _h; first | done | omega)) ?_ | (refine wS ?_ ?_ <;> intro _h <;> simp only [W1, cond_true, cond_false, hx, hs, h1, h2, hg, hasF_ls] at _h))
    all_goals simp only [W1, W2, owesN, owesX, owesR, cond_true, cond_false, hx, hs, h1, h2, hg, hasF_ls]
    repeat' (first | apply And.intro | intro _hc)
    all_goals first | exact cl7_room (by omega) | ((rw [List.length_append]; exact AV.le_refl _)) | exact Tx.cod.app2 L j t default default rfl rfl | exact AV.le_refl _ | exact AV.le_any _ | exact OLe.refl _ | exact OLe.none _ | exact LeH.refl _ | exact LeL.refl _ | exact AV.le.bs _ | exact AV.le.sb _ | omega | contradiction
end Go.Eng.TA

/- PoolPlays: the rounds' prints. -/
namespace Go.Eng.TA
open Go Go.Eng Go.Eng.M Go.Lib Go.Proofs
set_option linter.unusedSimpArgs false
set_option linter.unusedVariables false
noncomputable abbrev RE12 (T : List (CT Tryd.prog Γm)) (mo : Int) (acts : List Ap) (x : X12) : Tree Out := roundE (P := Tryd.prog) (Γ := Γm) T Lno false 0 0 lp12 lv12 nl12 151 (S12 mo acts x).1 (S12 mo acts x).2
theorem r12a (mo : Int) (acts : List Ap) (x : X12) (e : Int) (hL : x.L.length ≤ 1000000000) (h1 : Answers Tryd.prog Γm 47 [.ptr 0 0, txV (fstT acts x.i)] [plR 1 mo x.L.length, txB' (x.L ++ x.j)] (.v (.int .i64 e)) [some (plR 1 mo x.L.length), some (txB' (x.L ++ x.j))] []) (h2 : Answers Tryd.prog Γm 53 [plV 0 mo x.L.length, txV (fstT acts x.i)] [txB' (x.L ++ x.j')] (.tup [plV 0 mo x.L.length, .v (.int .i64 e)]) [some (txB' (x.L ++ x.j'))] []) : RE12 [kGrL, CT.at 47 h1, CT.at 53 h2, CT.at 48 (ansAll (mo := mo) (l := x.L) (j := x.j) hL), kSm, kLenP] mo acts x =
  Tree.br (decide ((↑x.i : Int) < (↑(List.length acts) : Int))) (.chk (decide ((0 : Int) ≤ (↑x.i : Int)) && decide ((↑x.i : Int) < (↑(List.length acts) : Int))) (.chk (cl ((∃ l, isL 
    (List.length (List.getD acts (Int.toNat ↑x.i) default).l) (lsF Tx.c (List.getD acts (Int.toNat ↑x.i) default).l) l) ∧ LeL [.sl 7 (List.length (List.getD acts (Int.toNat ↑x.i) 
    default).l) (lsF Tx.c (List.getD acts (Int.toNat ↑x.i) default).l)] [.sl 7 (List.length (List.getD acts (Int.toNat ↑x.i) default).l) (lsF Tx.c (List.getD acts (Int.toNat ↑x.i) 
    default).l)] ∧ LeH [] [])) (.br (grF (List.length (List.getD acts (Int.toNat ↑x.i) default).l) (lsF Tx.c (List.getD acts (Int.toNat ↑x.i) default).l)) (.leaf (.mk .ret [.sl 3 
    (List.length acts) (lsF Ap.c acts), .ptr 0 0, .ptr 2 0, .v (.int .i64 (↑x.i : Int)), .v (.bool true)] [some (.row [.v (.int .i64 mo), .hs 1 0 (List.length x.L)]), some (.arr 7 
    (List.length (x.L ++ x.j)) (lsF Tx.c (x.L ++ x.j))), some (.row [.v (.int .i64 mo), .hs 3 0 (List.length x.L)]), some (.arr 7 (List.length (x.L ++ x.j')) (lsF Tx.c (x.L ++ 
    x.j')))])) (.br (decide ((0 : Int) < (↑(List.length (List.getD acts (Int.toNat ↑x.i) default).l) : Int))) (.chk (decide ((0 : Int) < (↑(List.length (List.getD acts (Int.toNat ↑x.i) 
    default).l) : Int))) (.br (decide ((List.getD acts x.i default).k = (0 : Int))) (.chk (cl (LeL [.agg [.v (.int .i64 mo), .hs 0 0 (List.length x.L)], .agg [.v (.int .i64 (List.getD 
    (List.getD acts (Int.toNat ↑x.i) default).l (Int.toNat (0 : Int)) default).k), .v (.string (List.getD (List.getD acts (Int.toNat ↑x.i) default).l (Int.toNat (0 : Int)) 
    default).fr), .v (.string (List.getD (List.getD acts (Int.toNat ↑x.i) default).l (Int.toNat (0 : Int)) default).to), .v (.string (List.getD (List.getD acts (Int.toNat ↑x.i) 
    default).l (Int.toNat (0 : Int)) default).ky), .v (.string (List.getD (List.getD acts (Int.toNat ↑x.i) default).l (Int.toNat (0 : Int)) default).vl), .v (.int .i64 (List.getD 
    (List.getD acts (Int.toNat ↑x.i) default).l (Int.toNat (0 : Int)) default).am), .v (.int .i64 (List.getD (List.getD acts (Int.toNat ↑x.i) default).l (Int.toNat (0 : Int)) 
    default).nn)]] [.agg [.v (.int .i64 mo), .hs 0 0 (List.length x.L)], .agg [.v (.int .i64 (fstT acts x.i).k), .v (.string (fstT acts x.i).fr), .v (.string (fstT acts x.i).to), .v 
    (.string (fstT acts x.i).ky), .v (.string (fstT acts x.i).vl), .v (.int .i64 (fstT acts x.i).am), .v (.int .i64 (fstT acts x.i).nn)]] ∧ LeH [some (.arr 7 (List.length (x.L ++ 
    x.j')) (lsF Tx.c (x.L ++ x.j')))] [some (.arr 7 (List.length (x.L ++ x.j')) (lsF Tx.c (x.L ++ x.j')))])) (.chk (cl (LeL [.ptr 0 0, .agg [.v (.int .i64 (List.getD (List.getD acts 
    (Int.toNat ↑x.i) default).l (Int.toNat (0 : Int)) default).k), .v (.string (List.getD (List.getD acts (Int.toNat ↑x.i) default).l (Int.toNat (0 : Int)) default).fr), .v (.string 
    (List.getD (List.getD acts (Int.toNat ↑x.i) default).l (Int.toNat (0 : Int)) default).to), .v (.string (List.getD (List.getD acts (Int.toNat ↑x.i) default).l (Int.toNat (0 : Int)) 
    default).ky), .v (.string (List.getD (List.getD acts (Int.toNat ↑x.i) default).l (Int.toNat (0 : Int)) default).vl), .v (.int .i64 (List.getD (List.getD acts (Int.toNat ↑x.i) 
    default).l (Int.toNat (0 : Int)) default).am), .v (.int .i64 (List.getD (List.getD acts (Int.toNat ↑x.i) default).l (Int.toNat (0 : Int)) default).nn)]] [.ptr 0 0, .agg [.v (.int 
    .i64 (fstT acts x.i).k), .v (.string (fstT acts x.i).fr), .v (.string (fstT acts x.i).to), .v (.string (fstT acts x.i).ky), .v (.string (fstT acts x.i).vl), .v (.int .i64 (fstT 
    acts x.i).am), .v (.int .i64 (fstT acts x.i).nn)]] ∧ LeH [some (.row [.v (.int .i64 mo), .hs 1 0 (List.length x.L)]), some (.arr 7 (List.length (x.L ++ x.j)) (lsF Tx.c (x.L ++ 
    x.j)))] [some (.row [.v (.int .i64 mo), .hs 1 0 (List.length x.L)]), some (.arr 7 (List.length (x.L ++ x.j)) (lsF Tx.c (x.L ++ x.j)))])) (.br (!decide (e = e)) (.leaf (.mk .ret 
    [.sl 3 (List.length acts) (lsF Ap.c acts), .ptr 0 0, .ptr 2 0, .v (.int .i64 (↑x.i : Int)), .v (.bool false)] [some (.row [.v (.int .i64 mo), .hs 1 0 (List.length x.L)]), some 
    (.arr 7 (List.length (x.L ++ x.j)) (lsF Tx.c (x.L ++ x.j))), some (.row [.v (.int .i64 mo), .hs 3 0 (List.length x.L)]), some (.arr 7 (List.length (x.L ++ x.j')) (lsF Tx.c (x.L ++ 
    x.j')))])) (.chk (cl (LeL [.ptr 0 0] [.ptr 0 0] ∧ LeH [some (.row [.v (.int .i64 mo), .hs 1 0 (List.length x.L)]), some (.arr 7 (List.length (x.L ++ x.j)) (lsF Tx.c (x.L ++ x.j)))] 
    [some (.row [.v (.int .i64 mo), .hs 1 0 (List.length x.L)]), some (.arr 7 (List.length (x.L ++ x.j)) (lsF Tx.c (x.L ++ x.j)))])) (.chk (cl (smP (List.length x.L) (List.length x.L) 
    (lsF Tx.c x.L) (List.length (x.L ++ x.j')) (List.length x.L) (lsF Tx.c (x.L ++ x.j')) ∧ LeL [.hs 0 0 (List.length x.L), .hs 1 0 (List.length x.L)] [.hs 0 0 (List.length x.L), .hs 1 
    0 (List.length x.L)] ∧ LeH [some (.arr 7 (List.length x.L) (lsF Tx.c x.L)), some (.arr 7 (List.length (x.L ++ x.j')) (lsF Tx.c (x.L ++ x.j')))] [some (.arr 7 (List.length x.L) (lsF 
    Tx.c x.L)), some (.arr 7 (List.length (x.L ++ x.j')) (lsF Tx.c (x.L ++ x.j')))])) (.br (!decide ((↑(List.length x.L) : Int) = (↑(List.length x.L) : Int))) (.leaf (.mk .ret [.sl 3 
    (List.length acts) (lsF Ap.c acts), .ptr 0 0, .ptr 2 0, .v (.int .i64 (↑x.i : Int)), .v (.bool false)] [some (.row [.v (.int .i64 mo), .hs 1 0 (List.length x.L)]), some (.arr 7 
    (List.length (x.L ++ x.j)) (lsF Tx.c (x.L ++ x.j))), some (.row [.v (.int .i64 mo), .hs 3 0 (List.length x.L)]), some (.arr 7 (List.length (x.L ++ x.j')) (lsF Tx.c (x.L ++ 
    x.j')))])) (.leaf (.mk .normal [.sl 3 (List.length acts) (lsF Ap.c acts), .ptr 0 0, .ptr 2 0, .v (.int .i64 (IntKind.wrap IntKind.i64 ((↑x.i : Int) + (1 : Int)))), .any] [some 
    (.row [.v (.int .i64 mo), .hs 1 0 (List.length x.L)]), some (.arr 7 (List.length (x.L ++ x.j)) (lsF Tx.c (x.L ++ x.j))), some (.row [.v (.int .i64 mo), .hs 3 0 (List.length x.L)]), 
    some (.arr 7 (List.length (x.L ++ x.j')) (lsF Tx.c (x.L ++ x.j')))])))))))) (.br (decide ((List.getD acts x.i default).k = (1 : Int))) .fail (.br (decide ((List.getD acts x.i 
    default).k = (2 : Int))) .fail (.br (decide ((List.getD acts x.i default).k = (3 : Int))) .fail (.chk (cl (LeL [.ptr 0 0] [.ptr 0 0] ∧ LeH [some (.row [.v (.int .i64 mo), .hs 1 0 
    (List.length x.L)]), some (.arr 7 (List.length (x.L ++ x.j)) (lsF Tx.c (x.L ++ x.j)))] [some (.row [.v (.int .i64 mo), .hs 1 0 (List.length x.L)]), some (.arr 7 (List.length (x.L 
    ++ x.j)) (lsF Tx.c (x.L ++ x.j)))])) (.chk (cl (smP (List.length x.L) (List.length x.L) (lsF Tx.c x.L) (List.length (x.L ++ x.j')) (List.length x.L) (lsF Tx.c (x.L ++ x.j')) ∧ LeL 
    [.hs 0 0 (List.length x.L), .hs 1 0 (List.length x.L)] [.hs 0 0 (List.length x.L), .hs 1 0 (List.length x.L)] ∧ LeH [some (.arr 7 (List.length x.L) (lsF Tx.c x.L)), some (.arr 7 
    (List.length (x.L ++ x.j')) (lsF Tx.c (x.L ++ x.j')))] [some (.arr 7 (List.length x.L) (lsF Tx.c x.L)), some (.arr 7 (List.length (x.L ++ x.j')) (lsF Tx.c (x.L ++ x.j')))])) (.br 
    (!decide ((↑(List.length x.L) : Int) = (↑(List.length x.L) : Int))) (.leaf (.mk .ret [.sl 3 (List.length acts) (lsF Ap.c acts), .ptr 0 0, .ptr 2 0, .v (.int .i64 (↑x.i : Int)), .v 
    (.bool false)] [some (.row [.v (.int .i64 mo), .hs 1 0 (List.length x.L)]), some (.arr 7 (List.length (x.L ++ x.j)) (lsF Tx.c (x.L ++ x.j))), some (.row [.v (.int .i64 mo), .hs 3 0 
    (List.length x.L)]), some (.arr 7 (List.length (x.L ++ x.j')) (lsF Tx.c (x.L ++ x.j')))])) (.leaf (.mk .normal [.sl 3 (List.length acts) (lsF Ap.c acts), .ptr 0 0, .ptr 2 0, .v 
    (.int .i64 (IntKind.wrap IntKind.i64 ((↑x.i : Int) + (1 : Int)))), .any] [some (.row [.v (.int .i64 mo), .hs 1 0 (List.length x.L)]), some (.arr 7 (List.length (x.L ++ x.j)) (lsF 
    Tx.c (x.L ++ x.j))), some (.row [.v (.int .i64 mo), .hs 3 0 (List.length x.L)]), some (.arr 7 (List.length (x.L ++ x.j')) (lsF Tx.c (x.L ++ x.j')))])))))))))) (.br (decide 
    ((List.getD acts x.i default).k = (0 : Int))) (.chk (cl (LeL [.agg [.v (.int .i64 mo), .hs 0 0 (List.length x.L)], .agg [.v (.int .i64 (0 : Int)), .v (.string (ByteArray.mk #[])), 
    .v (.string (ByteArray.mk #[])), .v (.string (ByteArray.mk #[])), .v (.string (ByteArray.mk #[])), .v (.int .i64 (0 : Int)), .v (.int .i64 (0 : Int))]] [.agg [.v (.int .i64 mo), 
    .hs 0 0 (List.length x.L)], .agg [.v (.int .i64 (fstT acts x.i).k), .v (.string (fstT acts x.i).fr), .v (.string (fstT acts x.i).to), .v (.string (fstT acts x.i).ky), .v (.string 
    (fstT acts x.i).vl), .v (.int .i64 (fstT acts x.i).am), .v (.int .i64 (fstT acts x.i).nn)]] ∧ LeH [some (.arr 7 (List.length (x.L ++ x.j')) (lsF Tx.c (x.L ++ x.j')))] [some (.arr 7 
    (List.length (x.L ++ x.j')) (lsF Tx.c (x.L ++ x.j')))])) (.chk (cl (LeL [.ptr 0 0, .agg [.v (.int .i64 (0 : Int)), .v (.string (ByteArray.mk #[])), .v (.string (ByteArray.mk #[])), 
    .v (.string (ByteArray.mk #[])), .v (.string (ByteArray.mk #[])), .v (.int .i64 (0 : Int)), .v (.int .i64 (0 : Int))]] [.ptr 0 0, .agg [.v (.int .i64 (fstT acts x.i).k), .v 
    (.string (fstT acts x.i).fr), .v (.string (fstT acts x.i).to), .v (.string (fstT acts x.i).ky), .v (.string (fstT acts x.i).vl), .v (.int .i64 (fstT acts x.i).am), .v (.int .i64 
    (fstT acts x.i).nn)]] ∧ LeH [some (.row [.v (.int .i64 mo), .hs 1 0 (List.length x.L)]), some (.arr 7 (List.length (x.L ++ x.j)) (lsF Tx.c (x.L ++ x.j)))] [some (.row [.v (.int 
    .i64 mo), .hs 1 0 (List.length x.L)]), some (.arr 7 (List.length (x.L ++ x.j)) (lsF Tx.c (x.L ++ x.j)))])) (.br (!decide (e = e)) (.leaf (.mk .ret [.sl 3 (List.length acts) (lsF 
    Ap.c acts), .ptr 0 0, .ptr 2 0, .v (.int .i64 (↑x.i : Int)), .v (.bool false)] [some (.row [.v (.int .i64 mo), .hs 1 0 (List.length x.L)]), some (.arr 7 (List.length (x.L ++ x.j)) 
    (lsF Tx.c (x.L ++ x.j))), some (.row [.v (.int .i64 mo), .hs 3 0 (List.length x.L)]), some (.arr 7 (List.length (x.L ++ x.j')) (lsF Tx.c (x.L ++ x.j')))])) (.chk (cl (LeL [.ptr 0 
    0] [.ptr 0 0] ∧ LeH [some (.row [.v (.int .i64 mo), .hs 1 0 (List.length x.L)]), some (.arr 7 (List.length (x.L ++ x.j)) (lsF Tx.c (x.L ++ x.j)))] [some (.row [.v (.int .i64 mo), 
    .hs 1 0 (List.length x.L)]), some (.arr 7 (List.length (x.L ++ x.j)) (lsF Tx.c (x.L ++ x.j)))])) (.chk (cl (smP (List.length x.L) (List.length x.L) (lsF Tx.c x.L) (List.length (x.L 
    ++ x.j')) (List.length x.L) (lsF Tx.c (x.L ++ x.j')) ∧ LeL [.hs 0 0 (List.length x.L), .hs 1 0 (List.length x.L)] [.hs 0 0 (List.length x.L), .hs 1 0 (List.length x.L)] ∧ LeH [some 
    (.arr 7 (List.length x.L) (lsF Tx.c x.L)), some (.arr 7 (List.length (x.L ++ x.j')) (lsF Tx.c (x.L ++ x.j')))] [some (.arr 7 (List.length x.L) (lsF Tx.c x.L)), some (.arr 7 
    (List.length (x.L ++ x.j')) (lsF Tx.c (x.L ++ x.j')))])) (.br (!decide ((↑(List.length x.L) : Int) = (↑(List.length x.L) : Int))) (.leaf (.mk .ret [.sl 3 (List.length acts) (lsF 
    Ap.c acts), .ptr 0 0, .ptr 2 0, .v (.int .i64 (↑x.i : Int)), .v (.bool false)] [some (.row [.v (.int .i64 mo), .hs 1 0 (List.length x.L)]), some (.arr 7 (List.length (x.L ++ x.j)) 
    (lsF Tx.c (x.L ++ x.j))), some (.row [.v (.int .i64 mo), .hs 3 0 (List.length x.L)]), some (.arr 7 (List.length (x.L ++ x.j')) (lsF Tx.c (x.L ++ x.j')))])) (.leaf (.mk .normal [.sl 
    3 (List.length acts) (lsF Ap.c acts), .ptr 0 0, .ptr 2 0, .v (.int .i64 (IntKind.wrap IntKind.i64 ((↑x.i : Int) + (1 : Int)))), .any] [some (.row [.v (.int .i64 mo), .hs 1 0 
    (List.length x.L)]), some (.arr 7 (List.length (x.L ++ x.j)) (lsF Tx.c (x.L ++ x.j))), some (.row [.v (.int .i64 mo), .hs 3 0 (List.length x.L)]), some (.arr 7 (List.length (x.L ++ 
    x.j')) (lsF Tx.c (x.L ++ x.j')))])))))))) (.br (decide ((List.getD acts x.i default).k = (1 : Int))) .fail (.br (decide ((List.getD acts x.i default).k = (2 : Int))) .fail (.br 
    (decide ((List.getD acts x.i default).k = (3 : Int))) .fail (.chk (cl (LeL [.ptr 0 0] [.ptr 0 0] ∧ LeH [some (.row [.v (.int .i64 mo), .hs 1 0 (List.length x.L)]), some (.arr 7 
    (List.length (x.L ++ x.j)) (lsF Tx.c (x.L ++ x.j)))] [some (.row [.v (.int .i64 mo), .hs 1 0 (List.length x.L)]), some (.arr 7 (List.length (x.L ++ x.j)) (lsF Tx.c (x.L ++ 
    x.j)))])) (.chk (cl (smP (List.length x.L) (List.length x.L) (lsF Tx.c x.L) (List.length (x.L ++ x.j')) (List.length x.L) (lsF Tx.c (x.L ++ x.j')) ∧ LeL [.hs 0 0 (List.length x.L), 
    .hs 1 0 (List.length x.L)] [.hs 0 0 (List.length x.L), .hs 1 0 (List.length x.L)] ∧ LeH [some (.arr 7 (List.length x.L) (lsF Tx.c x.L)), some (.arr 7 (List.length (x.L ++ x.j')) 
    (lsF Tx.c (x.L ++ x.j')))] [some (.arr 7 (List.length x.L) (lsF Tx.c x.L)), some (.arr 7 (List.length (x.L ++ x.j')) (lsF Tx.c (x.L ++ x.j')))])) (.br (!decide ((↑(List.length x.L) 
    : Int) = (↑(List.length x.L) : Int))) (.leaf (.mk .ret [.sl 3 (List.length acts) (lsF Ap.c acts), .ptr 0 0, .ptr 2 0, .v (.int .i64 (↑x.i : Int)), .v (.bool false)] [some (.row [.v 
    (.int .i64 mo), .hs 1 0 (List.length x.L)]), some (.arr 7 (List.length (x.L ++ x.j)) (lsF Tx.c (x.L ++ x.j))), some (.row [.v (.int .i64 mo), .hs 3 0 (List.length x.L)]), some 
    (.arr 7 (List.length (x.L ++ x.j')) (lsF Tx.c (x.L ++ x.j')))])) (.leaf (.mk .normal [.sl 3 (List.length acts) (lsF Ap.c acts), .ptr 0 0, .ptr 2 0, .v (.int .i64 (IntKind.wrap 
    IntKind.i64 ((↑x.i : Int) + (1 : Int)))), .any] [some (.row [.v (.int .i64 mo), .hs 1 0 (List.length x.L)]), some (.arr 7 (List.length (x.L ++ x.j)) (lsF Tx.c (x.L ++ x.j))), some 
    (.row [.v (.int .i64 mo), .hs 3 0 (List.length x.L)]), some (.arr 7 (List.length (x.L ++ x.j')) (lsF Tx.c (x.L ++ x.j')))]))))))))))))) (.leaf (.mk (.exit 0) [.sl 3 (List.length 
    acts) (lsF Ap.c acts), .ptr 0 0, .ptr 2 0, .v (.int .i64 (↑x.i : Int)), .any] [some (.row [.v (.int .i64 mo), .hs 1 0 (List.length x.L)]), some (.arr 7 (List.length (x.L ++ x.j)) 
    (lsF Tx.c (x.L ++ x.j))), some (.row [.v (.int .i64 mo), .hs 3 0 (List.length x.L)]), some (.arr 7 (List.length (x.L ++ x.j')) (lsF Tx.c (x.L ++ x.j')))])) := by kernel_rfl
theorem r12n (mo : Int) (acts : List Ap) (x : X12) (hL : (x.L ++ [fstT acts x.i]).length ≤ 1000000000) (h1 : Answers Tryd.prog Γm 47 [.ptr 0 0, txV (fstT acts x.i)] [plR 1 mo x.L.length, txB' (x.L ++ x.j)] (.v (.int .i64 0)) [some (plR 2 mo (x.L ++ [fstT acts x.i]).length), none] [txB' (x.L ++ [fstT acts x.i])]) (h2 : Answers Tryd.prog Γm 53 [plV 0 mo x.L.length, txV (fstT acts x.i)] [txB' (x.L ++ x.j')] (.tup [plV 1 mo (x.L ++ [fstT acts x.i]).length, .v (.int .i64 0)]) [some (txB' (x.L ++ x.j'))] [txB' (x.L ++ [fstT acts x.i])]) : RE12 [kGrL, CT.at 47 h1, CT.at 53 h2, CT.at 48 (ansAll (mo := mo) (l := x.L ++ [fstT acts x.i]) (j := []) hL), kSm, kLenP] mo acts x =
  Tree.br (decide ((↑x.i : Int) < (↑(List.length acts) : Int))) (.chk (decide ((0 : Int) ≤ (↑x.i : Int)) && decide ((↑x.i : Int) < (↑(List.length acts) : Int))) (.chk (cl ((∃ l, isL 
    (List.length (List.getD acts (Int.toNat ↑x.i) default).l) (lsF Tx.c (List.getD acts (Int.toNat ↑x.i) default).l) l) ∧ LeL [.sl 7 (List.length (List.getD acts (Int.toNat ↑x.i) 
    default).l) (lsF Tx.c (List.getD acts (Int.toNat ↑x.i) default).l)] [.sl 7 (List.length (List.getD acts (Int.toNat ↑x.i) default).l) (lsF Tx.c (List.getD acts (Int.toNat ↑x.i) 
    default).l)] ∧ LeH [] [])) (.br (grF (List.length (List.getD acts (Int.toNat ↑x.i) default).l) (lsF Tx.c (List.getD acts (Int.toNat ↑x.i) default).l)) (.leaf (.mk .ret [.sl 3 
    (List.length acts) (lsF Ap.c acts), .ptr 0 0, .ptr 2 0, .v (.int .i64 (↑x.i : Int)), .v (.bool true)] [some (.row [.v (.int .i64 mo), .hs 1 0 (List.length x.L)]), some (.arr 7 
    (List.length (x.L ++ x.j)) (lsF Tx.c (x.L ++ x.j))), some (.row [.v (.int .i64 mo), .hs 3 0 (List.length x.L)]), some (.arr 7 (List.length (x.L ++ x.j')) (lsF Tx.c (x.L ++ 
    x.j')))])) (.br (decide ((0 : Int) < (↑(List.length (List.getD acts (Int.toNat ↑x.i) default).l) : Int))) (.chk (decide ((0 : Int) < (↑(List.length (List.getD acts (Int.toNat ↑x.i) 
    default).l) : Int))) (.br (decide ((List.getD acts x.i default).k = (0 : Int))) (.chk (cl (LeL [.agg [.v (.int .i64 mo), .hs 0 0 (List.length x.L)], .agg [.v (.int .i64 (List.getD 
    (List.getD acts (Int.toNat ↑x.i) default).l (Int.toNat (0 : Int)) default).k), .v (.string (List.getD (List.getD acts (Int.toNat ↑x.i) default).l (Int.toNat (0 : Int)) 
    default).fr), .v (.string (List.getD (List.getD acts (Int.toNat ↑x.i) default).l (Int.toNat (0 : Int)) default).to), .v (.string (List.getD (List.getD acts (Int.toNat ↑x.i) 
    default).l (Int.toNat (0 : Int)) default).ky), .v (.string (List.getD (List.getD acts (Int.toNat ↑x.i) default).l (Int.toNat (0 : Int)) default).vl), .v (.int .i64 (List.getD 
    (List.getD acts (Int.toNat ↑x.i) default).l (Int.toNat (0 : Int)) default).am), .v (.int .i64 (List.getD (List.getD acts (Int.toNat ↑x.i) default).l (Int.toNat (0 : Int)) 
    default).nn)]] [.agg [.v (.int .i64 mo), .hs 0 0 (List.length x.L)], .agg [.v (.int .i64 (fstT acts x.i).k), .v (.string (fstT acts x.i).fr), .v (.string (fstT acts x.i).to), .v 
    (.string (fstT acts x.i).ky), .v (.string (fstT acts x.i).vl), .v (.int .i64 (fstT acts x.i).am), .v (.int .i64 (fstT acts x.i).nn)]] ∧ LeH [some (.arr 7 (List.length (x.L ++ 
    x.j')) (lsF Tx.c (x.L ++ x.j')))] [some (.arr 7 (List.length (x.L ++ x.j')) (lsF Tx.c (x.L ++ x.j')))])) (.chk (cl (LeL [.ptr 0 0, .agg [.v (.int .i64 (List.getD (List.getD acts 
    (Int.toNat ↑x.i) default).l (Int.toNat (0 : Int)) default).k), .v (.string (List.getD (List.getD acts (Int.toNat ↑x.i) default).l (Int.toNat (0 : Int)) default).fr), .v (.string 
    (List.getD (List.getD acts (Int.toNat ↑x.i) default).l (Int.toNat (0 : Int)) default).to), .v (.string (List.getD (List.getD acts (Int.toNat ↑x.i) default).l (Int.toNat (0 : Int)) 
    default).ky), .v (.string (List.getD (List.getD acts (Int.toNat ↑x.i) default).l (Int.toNat (0 : Int)) default).vl), .v (.int .i64 (List.getD (List.getD acts (Int.toNat ↑x.i) 
    default).l (Int.toNat (0 : Int)) default).am), .v (.int .i64 (List.getD (List.getD acts (Int.toNat ↑x.i) default).l (Int.toNat (0 : Int)) default).nn)]] [.ptr 0 0, .agg [.v (.int 
    .i64 (fstT acts x.i).k), .v (.string (fstT acts x.i).fr), .v (.string (fstT acts x.i).to), .v (.string (fstT acts x.i).ky), .v (.string (fstT acts x.i).vl), .v (.int .i64 (fstT 
    acts x.i).am), .v (.int .i64 (fstT acts x.i).nn)]] ∧ LeH [some (.row [.v (.int .i64 mo), .hs 1 0 (List.length x.L)]), some (.arr 7 (List.length (x.L ++ x.j)) (lsF Tx.c (x.L ++ 
    x.j)))] [some (.row [.v (.int .i64 mo), .hs 1 0 (List.length x.L)]), some (.arr 7 (List.length (x.L ++ x.j)) (lsF Tx.c (x.L ++ x.j)))])) (.br false (.leaf (.mk .ret [.sl 3 
    (List.length acts) (lsF Ap.c acts), .ptr 0 0, .ptr 2 0, .v (.int .i64 (↑x.i : Int)), .v (.bool false)] [some (.row [.v (.int .i64 mo), .hs 1 0 (List.length (x.L ++ [fstT acts 
    x.i]))]), some (.arr 7 (List.length (x.L ++ [fstT acts x.i])) (lsF Tx.c (x.L ++ [fstT acts x.i]))), some (.row [.v (.int .i64 mo), .hs 3 0 (List.length (x.L ++ [fstT acts x.i]))]), 
    some (.arr 7 (List.length (x.L ++ [fstT acts x.i])) (lsF Tx.c (x.L ++ [fstT acts x.i])))])) (.chk (cl (LeL [.ptr 0 0] [.ptr 0 0] ∧ LeH [some (.row [.v (.int .i64 mo), .hs 1 0 
    (List.length (x.L ++ [fstT acts x.i]))]), some (.arr 7 (List.length (x.L ++ [fstT acts x.i])) (lsF Tx.c (x.L ++ [fstT acts x.i])))] [some (.row [.v (.int .i64 mo), .hs 1 0 
    (List.length (x.L ++ [fstT acts x.i]))]), some (.arr 7 (List.length (x.L ++ [fstT acts x.i] ++ [])) (lsF Tx.c (x.L ++ [fstT acts x.i] ++ [])))])) (.chk (cl (smP (List.length (x.L 
    ++ [fstT acts x.i])) (List.length (x.L ++ [fstT acts x.i])) (lsF Tx.c (x.L ++ [fstT acts x.i])) (List.length (x.L ++ [fstT acts x.i])) (List.length (x.L ++ [fstT acts x.i])) (lsF 
    Tx.c (x.L ++ [fstT acts x.i])) ∧ LeL [.hs 0 0 (List.length (x.L ++ [fstT acts x.i])), .hs 1 0 (List.length (x.L ++ [fstT acts x.i]))] [.hs 0 0 (List.length (x.L ++ [fstT acts 
    x.i])), .hs 1 0 (List.length (x.L ++ [fstT acts x.i]))] ∧ LeH [some (.arr 7 (List.length (x.L ++ [fstT acts x.i])) (lsF Tx.c (x.L ++ [fstT acts x.i]))), some (.arr 7 (List.length 
    (x.L ++ [fstT acts x.i])) (lsF Tx.c (x.L ++ [fstT acts x.i])))] [some (.arr 7 (List.length (x.L ++ [fstT acts x.i])) (lsF Tx.c (x.L ++ [fstT acts x.i]))), some (.arr 7 (List.length 
    (x.L ++ [fstT acts x.i])) (lsF Tx.c (x.L ++ [fstT acts x.i])))])) (.br (!decide ((↑(List.length (x.L ++ [fstT acts x.i])) : Int) = (↑(List.length (x.L ++ [fstT acts x.i])) : Int))) 
    (.leaf (.mk .ret [.sl 3 (List.length acts) (lsF Ap.c acts), .ptr 0 0, .ptr 2 0, .v (.int .i64 (↑x.i : Int)), .v (.bool false)] [some (.row [.v (.int .i64 mo), .hs 1 0 (List.length 
    (x.L ++ [fstT acts x.i]))]), some (.arr 7 (List.length (x.L ++ [fstT acts x.i] ++ [])) (lsF Tx.c (x.L ++ [fstT acts x.i] ++ []))), some (.row [.v (.int .i64 mo), .hs 3 0 
    (List.length (x.L ++ [fstT acts x.i]))]), some (.arr 7 (List.length (x.L ++ [fstT acts x.i])) (lsF Tx.c (x.L ++ [fstT acts x.i])))])) (.leaf (.mk .normal [.sl 3 (List.length acts) 
    (lsF Ap.c acts), .ptr 0 0, .ptr 2 0, .v (.int .i64 (IntKind.wrap IntKind.i64 ((↑x.i : Int) + (1 : Int)))), .any] [some (.row [.v (.int .i64 mo), .hs 1 0 (List.length (x.L ++ [fstT 
    acts x.i]))]), some (.arr 7 (List.length (x.L ++ [fstT acts x.i] ++ [])) (lsF Tx.c (x.L ++ [fstT acts x.i] ++ []))), some (.row [.v (.int .i64 mo), .hs 3 0 (List.length (x.L ++ 
    [fstT acts x.i]))]), some (.arr 7 (List.length (x.L ++ [fstT acts x.i])) (lsF Tx.c (x.L ++ [fstT acts x.i])))])))))))) (.br (decide ((List.getD acts x.i default).k = (1 : Int))) 
    .fail (.br (decide ((List.getD acts x.i default).k = (2 : Int))) .fail (.br (decide ((List.getD acts x.i default).k = (3 : Int))) .fail (.chk (cl (LeL [.ptr 0 0] [.ptr 0 0] ∧ LeH 
    [some (.row [.v (.int .i64 mo), .hs 1 0 (List.length x.L)]), some (.arr 7 (List.length (x.L ++ x.j)) (lsF Tx.c (x.L ++ x.j)))] [some (.row [.v (.int .i64 mo), .hs 1 0 (List.length 
    (x.L ++ [fstT acts x.i]))]), some (.arr 7 (List.length (x.L ++ [fstT acts x.i] ++ [])) (lsF Tx.c (x.L ++ [fstT acts x.i] ++ [])))])) (.chk (cl (smP (List.length (x.L ++ [fstT acts 
    x.i])) (List.length (x.L ++ [fstT acts x.i])) (lsF Tx.c (x.L ++ [fstT acts x.i])) (List.length (x.L ++ x.j')) (List.length x.L) (lsF Tx.c (x.L ++ x.j')) ∧ LeL [.hs 0 0 (List.length 
    (x.L ++ [fstT acts x.i])), .hs 1 0 (List.length x.L)] [.hs 0 0 (List.length (x.L ++ [fstT acts x.i])), .hs 1 0 (List.length x.L)] ∧ LeH [some (.arr 7 (List.length (x.L ++ [fstT 
    acts x.i])) (lsF Tx.c (x.L ++ [fstT acts x.i]))), some (.arr 7 (List.length (x.L ++ x.j')) (lsF Tx.c (x.L ++ x.j')))] [some (.arr 7 (List.length (x.L ++ [fstT acts x.i])) (lsF Tx.c 
    (x.L ++ [fstT acts x.i]))), some (.arr 7 (List.length (x.L ++ x.j')) (lsF Tx.c (x.L ++ x.j')))])) (.br (!decide ((↑(List.length (x.L ++ [fstT acts x.i])) : Int) = (↑(List.length 
    x.L) : Int))) (.leaf (.mk .ret [.sl 3 (List.length acts) (lsF Ap.c acts), .ptr 0 0, .ptr 2 0, .v (.int .i64 (↑x.i : Int)), .v (.bool false)] [some (.row [.v (.int .i64 mo), .hs 1 0 
    (List.length (x.L ++ [fstT acts x.i]))]), some (.arr 7 (List.length (x.L ++ [fstT acts x.i] ++ [])) (lsF Tx.c (x.L ++ [fstT acts x.i] ++ []))), some (.row [.v (.int .i64 mo), .hs 3 
    0 (List.length x.L)]), some (.arr 7 (List.length (x.L ++ x.j')) (lsF Tx.c (x.L ++ x.j')))])) (.leaf (.mk .normal [.sl 3 (List.length acts) (lsF Ap.c acts), .ptr 0 0, .ptr 2 0, .v 
    (.int .i64 (IntKind.wrap IntKind.i64 ((↑x.i : Int) + (1 : Int)))), .any] [some (.row [.v (.int .i64 mo), .hs 1 0 (List.length (x.L ++ [fstT acts x.i]))]), some (.arr 7 (List.length 
    (x.L ++ [fstT acts x.i] ++ [])) (lsF Tx.c (x.L ++ [fstT acts x.i] ++ []))), some (.row [.v (.int .i64 mo), .hs 3 0 (List.length x.L)]), some (.arr 7 (List.length (x.L ++ x.j')) 
    (lsF Tx.c (x.L ++ x.j')))])))))))))) (.br (decide ((List.getD acts x.i default).k = (0 : Int))) (.chk (cl (LeL [.agg [.v (.int .i64 mo), .hs 0 0 (List.length x.L)], .agg [.v (.int 
    .i64 (0 : Int)), .v (.string (ByteArray.mk #[])), .v (.string (ByteArray.mk #[])), .v (.string (ByteArray.mk #[])), .v (.string (ByteArray.mk #[])), .v (.int .i64 (0 : Int)), .v 
    (.int .i64 (0 : Int))]] [.agg [.v (.int .i64 mo), .hs 0 0 (List.length x.L)], .agg [.v (.int .i64 (fstT acts x.i).k), .v (.string (fstT acts x.i).fr), .v (.string (fstT acts 
    x.i).to), .v (.string (fstT acts x.i).ky), .v (.string (fstT acts x.i).vl), .v (.int .i64 (fstT acts x.i).am), .v (.int .i64 (fstT acts x.i).nn)]] ∧ LeH [some (.arr 7 (List.length 
    (x.L ++ x.j')) (lsF Tx.c (x.L ++ x.j')))] [some (.arr 7 (List.length (x.L ++ x.j')) (lsF Tx.c (x.L ++ x.j')))])) (.chk (cl (LeL [.ptr 0 0, .agg [.v (.int .i64 (0 : Int)), .v 
    (.string (ByteArray.mk #[])), .v (.string (ByteArray.mk #[])), .v (.string (ByteArray.mk #[])), .v (.string (ByteArray.mk #[])), .v (.int .i64 (0 : Int)), .v (.int .i64 (0 : 
    Int))]] [.ptr 0 0, .agg [.v (.int .i64 (fstT acts x.i).k), .v (.string (fstT acts x.i).fr), .v (.string (fstT acts x.i).to), .v (.string (fstT acts x.i).ky), .v (.string (fstT acts 
    x.i).vl), .v (.int .i64 (fstT acts x.i).am), .v (.int .i64 (fstT acts x.i).nn)]] ∧ LeH [some (.row [.v (.int .i64 mo), .hs 1 0 (List.length x.L)]), some (.arr 7 (List.length (x.L 
    ++ x.j)) (lsF Tx.c (x.L ++ x.j)))] [some (.row [.v (.int .i64 mo), .hs 1 0 (List.length x.L)]), some (.arr 7 (List.length (x.L ++ x.j)) (lsF Tx.c (x.L ++ x.j)))])) (.br false 
    (.leaf (.mk .ret [.sl 3 (List.length acts) (lsF Ap.c acts), .ptr 0 0, .ptr 2 0, .v (.int .i64 (↑x.i : Int)), .v (.bool false)] [some (.row [.v (.int .i64 mo), .hs 1 0 (List.length 
    (x.L ++ [fstT acts x.i]))]), some (.arr 7 (List.length (x.L ++ [fstT acts x.i])) (lsF Tx.c (x.L ++ [fstT acts x.i]))), some (.row [.v (.int .i64 mo), .hs 3 0 (List.length (x.L ++ 
    [fstT acts x.i]))]), some (.arr 7 (List.length (x.L ++ [fstT acts x.i])) (lsF Tx.c (x.L ++ [fstT acts x.i])))])) (.chk (cl (LeL [.ptr 0 0] [.ptr 0 0] ∧ LeH [some (.row [.v (.int 
    .i64 mo), .hs 1 0 (List.length (x.L ++ [fstT acts x.i]))]), some (.arr 7 (List.length (x.L ++ [fstT acts x.i])) (lsF Tx.c (x.L ++ [fstT acts x.i])))] [some (.row [.v (.int .i64 
    mo), .hs 1 0 (List.length (x.L ++ [fstT acts x.i]))]), some (.arr 7 (List.length (x.L ++ [fstT acts x.i] ++ [])) (lsF Tx.c (x.L ++ [fstT acts x.i] ++ [])))])) (.chk (cl (smP 
    (List.length (x.L ++ [fstT acts x.i])) (List.length (x.L ++ [fstT acts x.i])) (lsF Tx.c (x.L ++ [fstT acts x.i])) (List.length (x.L ++ [fstT acts x.i])) (List.length (x.L ++ [fstT 
    acts x.i])) (lsF Tx.c (x.L ++ [fstT acts x.i])) ∧ LeL [.hs 0 0 (List.length (x.L ++ [fstT acts x.i])), .hs 1 0 (List.length (x.L ++ [fstT acts x.i]))] [.hs 0 0 (List.length (x.L ++ 
    [fstT acts x.i])), .hs 1 0 (List.length (x.L ++ [fstT acts x.i]))] ∧ LeH [some (.arr 7 (List.length (x.L ++ [fstT acts x.i])) (lsF Tx.c (x.L ++ [fstT acts x.i]))), some (.arr 7 
    (List.length (x.L ++ [fstT acts x.i])) (lsF Tx.c (x.L ++ [fstT acts x.i])))] [some (.arr 7 (List.length (x.L ++ [fstT acts x.i])) (lsF Tx.c (x.L ++ [fstT acts x.i]))), some (.arr 7 
    (List.length (x.L ++ [fstT acts x.i])) (lsF Tx.c (x.L ++ [fstT acts x.i])))])) (.br (!decide ((↑(List.length (x.L ++ [fstT acts x.i])) : Int) = (↑(List.length (x.L ++ [fstT acts 
    x.i])) : Int))) (.leaf (.mk .ret [.sl 3 (List.length acts) (lsF Ap.c acts), .ptr 0 0, .ptr 2 0, .v (.int .i64 (↑x.i : Int)), .v (.bool false)] [some (.row [.v (.int .i64 mo), .hs 1 
    0 (List.length (x.L ++ [fstT acts x.i]))]), some (.arr 7 (List.length (x.L ++ [fstT acts x.i] ++ [])) (lsF Tx.c (x.L ++ [fstT acts x.i] ++ []))), some (.row [.v (.int .i64 mo), .hs 
    3 0 (List.length (x.L ++ [fstT acts x.i]))]), some (.arr 7 (List.length (x.L ++ [fstT acts x.i])) (lsF Tx.c (x.L ++ [fstT acts x.i])))])) (.leaf (.mk .normal [.sl 3 (List.length 
    acts) (lsF Ap.c acts), .ptr 0 0, .ptr 2 0, .v (.int .i64 (IntKind.wrap IntKind.i64 ((↑x.i : Int) + (1 : Int)))), .any] [some (.row [.v (.int .i64 mo), .hs 1 0 (List.length (x.L ++ 
    [fstT acts x.i]))]), some (.arr 7 (List.length (x.L ++ [fstT acts x.i] ++ [])) (lsF Tx.c (x.L ++ [fstT acts x.i] ++ []))), some (.row [.v (.int .i64 mo), .hs 3 0 (List.length (x.L 
    ++ [fstT acts x.i]))]), some (.arr 7 (List.length (x.L ++ [fstT acts x.i])) (lsF Tx.c (x.L ++ [fstT acts x.i])))])))))))) (.br (decide ((List.getD acts x.i default).k = (1 : Int))) 
    .fail (.br (decide ((List.getD acts x.i default).k = (2 : Int))) .fail (.br (decide ((List.getD acts x.i default).k = (3 : Int))) .fail (.chk (cl (LeL [.ptr 0 0] [.ptr 0 0] ∧ LeH 
    [some (.row [.v (.int .i64 mo), .hs 1 0 (List.length x.L)]), some (.arr 7 (List.length (x.L ++ x.j)) (lsF Tx.c (x.L ++ x.j)))] [some (.row [.v (.int .i64 mo), .hs 1 0 (List.length 
    (x.L ++ [fstT acts x.i]))]), some (.arr 7 (List.length (x.L ++ [fstT acts x.i] ++ [])) (lsF Tx.c (x.L ++ [fstT acts x.i] ++ [])))])) (.chk (cl (smP (List.length (x.L ++ [fstT acts 
    x.i])) (List.length (x.L ++ [fstT acts x.i])) (lsF Tx.c (x.L ++ [fstT acts x.i])) (List.length (x.L ++ x.j')) (List.length x.L) (lsF Tx.c (x.L ++ x.j')) ∧ LeL [.hs 0 0 (List.length 
    (x.L ++ [fstT acts x.i])), .hs 1 0 (List.length x.L)] [.hs 0 0 (List.length (x.L ++ [fstT acts x.i])), .hs 1 0 (List.length x.L)] ∧ LeH [some (.arr 7 (List.length (x.L ++ [fstT 
    acts x.i])) (lsF Tx.c (x.L ++ [fstT acts x.i]))), some (.arr 7 (List.length (x.L ++ x.j')) (lsF Tx.c (x.L ++ x.j')))] [some (.arr 7 (List.length (x.L ++ [fstT acts x.i])) (lsF Tx.c 
    (x.L ++ [fstT acts x.i]))), some (.arr 7 (List.length (x.L ++ x.j')) (lsF Tx.c (x.L ++ x.j')))])) (.br (!decide ((↑(List.length (x.L ++ [fstT acts x.i])) : Int) = (↑(List.length 
    x.L) : Int))) (.leaf (.mk .ret [.sl 3 (List.length acts) (lsF Ap.c acts), .ptr 0 0, .ptr 2 0, .v (.int .i64 (↑x.i : Int)), .v (.bool false)] [some (.row [.v (.int .i64 mo), .hs 1 0 
    (List.length (x.L ++ [fstT acts x.i]))]), some (.arr 7 (List.length (x.L ++ [fstT acts x.i] ++ [])) (lsF Tx.c (x.L ++ [fstT acts x.i] ++ []))), some (.row [.v (.int .i64 mo), .hs 3 
    0 (List.length x.L)]), some (.arr 7 (List.length (x.L ++ x.j')) (lsF Tx.c (x.L ++ x.j')))])) (.leaf (.mk .normal [.sl 3 (List.length acts) (lsF Ap.c acts), .ptr 0 0, .ptr 2 0, .v 
    (.int .i64 (IntKind.wrap IntKind.i64 ((↑x.i : Int) + (1 : Int)))), .any] [some (.row [.v (.int .i64 mo), .hs 1 0 (List.length (x.L ++ [fstT acts x.i]))]), some (.arr 7 (List.length 
    (x.L ++ [fstT acts x.i] ++ [])) (lsF Tx.c (x.L ++ [fstT acts x.i] ++ []))), some (.row [.v (.int .i64 mo), .hs 3 0 (List.length x.L)]), some (.arr 7 (List.length (x.L ++ x.j')) 
    (lsF Tx.c (x.L ++ x.j')))]))))))))))))) (.leaf (.mk (.exit 0) [.sl 3 (List.length acts) (lsF Ap.c acts), .ptr 0 0, .ptr 2 0, .v (.int .i64 (↑x.i : Int)), .any] [some (.row [.v 
    (.int .i64 mo), .hs 1 0 (List.length x.L)]), some (.arr 7 (List.length (x.L ++ x.j)) (lsF Tx.c (x.L ++ x.j))), some (.row [.v (.int .i64 mo), .hs 3 0 (List.length x.L)]), some 
    (.arr 7 (List.length (x.L ++ x.j')) (lsF Tx.c (x.L ++ x.j')))])) := by kernel_rfl
theorem r12b (mo : Int) (acts : List Ap) (x : X12) (hL : x.L.length ≤ 100000) (hL' : x.L.length ≤ 1000000000) (hw : (acts.getD x.i default).l.length ≤ 100000) : RE12 [kGrL, CT.at 49 (ansBa (mo := mo) (P := x.L) (j := x.j) (w := (acts.getD x.i default).l) (n := (acts.getD x.i default).n) hL hw), CT.at 54 (ansRb (mo := mo) (l := x.L) (j := x.j') (n := (acts.getD x.i default).n) (w := (acts.getD x.i default).l) hw hL), CT.at 48 (ansAll (mo := mo) (l := x.L) (j := x.j) hL'), kSm, kLenP] mo acts x =
  Tree.br (decide ((↑x.i : Int) < (↑(List.length acts) : Int))) (.chk (decide ((0 : Int) ≤ (↑x.i : Int)) && decide ((↑x.i : Int) < (↑(List.length acts) : Int))) (.chk (cl ((∃ l, isL 
    (List.length (List.getD acts (Int.toNat ↑x.i) default).l) (lsF Tx.c (List.getD acts (Int.toNat ↑x.i) default).l) l) ∧ LeL [.sl 7 (List.length (List.getD acts (Int.toNat ↑x.i) 
    default).l) (lsF Tx.c (List.getD acts (Int.toNat ↑x.i) default).l)] [.sl 7 (List.length (List.getD acts (Int.toNat ↑x.i) default).l) (lsF Tx.c (List.getD acts (Int.toNat ↑x.i) 
    default).l)] ∧ LeH [] [])) (.br (grF (List.length (List.getD acts (Int.toNat ↑x.i) default).l) (lsF Tx.c (List.getD acts (Int.toNat ↑x.i) default).l)) (.leaf (.mk .ret [.sl 3 
    (List.length acts) (lsF Ap.c acts), .ptr 0 0, .ptr 2 0, .v (.int .i64 (↑x.i : Int)), .v (.bool true)] [some (.row [.v (.int .i64 mo), .hs 1 0 (List.length x.L)]), some (.arr 7 
    (List.length (x.L ++ x.j)) (lsF Tx.c (x.L ++ x.j))), some (.row [.v (.int .i64 mo), .hs 3 0 (List.length x.L)]), some (.arr 7 (List.length (x.L ++ x.j')) (lsF Tx.c (x.L ++ 
    x.j')))])) (.br (decide ((0 : Int) < (↑(List.length (List.getD acts (Int.toNat ↑x.i) default).l) : Int))) (.chk (decide ((0 : Int) < (↑(List.length (List.getD acts (Int.toNat ↑x.i) 
    default).l) : Int))) (.br (decide ((List.getD acts x.i default).k = (0 : Int))) .fail (.br (decide ((List.getD acts x.i default).k = (1 : Int))) (.chk (cl (LeL [.ptr 0 0, .v (.int 
    .i64 (List.getD acts x.i default).n), .sl 7 (List.length (List.getD acts (Int.toNat ↑x.i) default).l) (lsF Tx.c (List.getD acts (Int.toNat ↑x.i) default).l)] [.ptr 0 0, .v (.int 
    .i64 (List.getD acts x.i default).n), .sl 7 (List.length (List.getD acts x.i default).l) (lsF Tx.c (List.getD acts x.i default).l)] ∧ LeH [some (.row [.v (.int .i64 mo), .hs 1 0 
    (List.length x.L)]), some (.arr 7 (List.length (x.L ++ x.j)) (lsF Tx.c (x.L ++ x.j)))] [some (.row [.v (.int .i64 mo), .hs 1 0 (List.length x.L)]), some (.arr 7 (List.length (x.L 
    ++ x.j)) (lsF Tx.c (x.L ++ x.j)))])) (.chk (cl (LeL [.agg [.v (.int .i64 mo), .hs 0 0 (List.length x.L)], .v (.int .i64 (List.getD acts x.i default).n), .sl 7 (List.length 
    (List.getD acts (Int.toNat ↑x.i) default).l) (lsF Tx.c (List.getD acts (Int.toNat ↑x.i) default).l)] [.agg [.v (.int .i64 mo), .hs 0 0 (List.length x.L)], .v (.int .i64 (List.getD 
    acts x.i default).n), .sl 7 (List.length (List.getD acts x.i default).l) (lsF Tx.c (List.getD acts x.i default).l)] ∧ LeH [some (.arr 7 (List.length (x.L ++ x.j')) (lsF Tx.c (x.L 
    ++ x.j')))] [some (.arr 7 (List.length (x.L ++ x.j')) (lsF Tx.c (x.L ++ x.j')))])) (.chk (cl (smP (List.length (batF (List.getD acts x.i default).l (List.getD acts x.i default).n 
    x.L [])) (List.length (batF (List.getD acts x.i default).l (List.getD acts x.i default).n x.L [])) (lsF Tx.c (batF (List.getD acts x.i default).l (List.getD acts x.i default).n x.L 
    [])) (List.length (batF (List.getD acts x.i default).l (List.getD acts x.i default).n x.L [])) (List.length (batF (List.getD acts x.i default).l (List.getD acts x.i default).n x.L 
    [])) (lsF Tx.c (batF (List.getD acts x.i default).l (List.getD acts x.i default).n x.L [])) ∧ LeL [.hs 0 0 (List.length (batF (List.getD acts x.i default).l (List.getD acts x.i 
    default).n x.L [])), .hs 1 0 (List.length (batF (List.getD acts x.i default).l (List.getD acts x.i default).n x.L []))] [.hs 0 0 (List.length (batF (List.getD acts x.i default).l 
    (List.getD acts x.i default).n x.L [])), .hs 1 0 (List.length (batF (List.getD acts x.i default).l (List.getD acts x.i default).n x.L []))] ∧ LeH [some (.arr 7 (List.length (batF 
    (List.getD acts x.i default).l (List.getD acts x.i default).n x.L [])) (lsF Tx.c (batF (List.getD acts x.i default).l (List.getD acts x.i default).n x.L []))), some (.arr 7 
    (List.length (batF (List.getD acts x.i default).l (List.getD acts x.i default).n x.L [])) (lsF Tx.c (batF (List.getD acts x.i default).l (List.getD acts x.i default).n x.L [])))] 
    [some (.arr 7 (List.length (batF (List.getD acts x.i default).l (List.getD acts x.i default).n x.L [])) (lsF Tx.c (batF (List.getD acts x.i default).l (List.getD acts x.i 
    default).n x.L []))), some (.arr 7 (List.length (batF (List.getD acts x.i default).l (List.getD acts x.i default).n x.L [])) (lsF Tx.c (batF (List.getD acts x.i default).l 
    (List.getD acts x.i default).n x.L [])))])) (.chk (cl (LeL [.ptr 0 0] [.ptr 0 0] ∧ LeH [some (.row [.v (.int .i64 mo), .hs 1 0 (List.length x.L)]), some (.arr 7 (List.length (x.L 
    ++ x.j)) (lsF Tx.c (x.L ++ x.j)))] [some (.row [.v (.int .i64 mo), .hs 1 0 (List.length x.L)]), some (.arr 7 (List.length (x.L ++ x.j)) (lsF Tx.c (x.L ++ x.j)))])) (.chk (cl (smP 
    (List.length x.L) (List.length x.L) (lsF Tx.c x.L) (List.length (x.L ++ x.j')) (List.length x.L) (lsF Tx.c (x.L ++ x.j')) ∧ LeL [.hs 0 0 (List.length x.L), .hs 1 0 (List.length 
    x.L)] [.hs 0 0 (List.length x.L), .hs 1 0 (List.length x.L)] ∧ LeH [some (.arr 7 (List.length x.L) (lsF Tx.c x.L)), some (.arr 7 (List.length (x.L ++ x.j')) (lsF Tx.c (x.L ++ 
    x.j')))] [some (.arr 7 (List.length x.L) (lsF Tx.c x.L)), some (.arr 7 (List.length (x.L ++ x.j')) (lsF Tx.c (x.L ++ x.j')))])) (.br (!decide ((↑(List.length x.L) : Int) = 
    (↑(List.length x.L) : Int))) (.leaf (.mk .ret [.sl 3 (List.length acts) (lsF Ap.c acts), .ptr 0 0, .ptr 2 0, .v (.int .i64 (↑x.i : Int)), .v (.bool false)] [some (.row [.v (.int 
    .i64 mo), .hs 1 0 (List.length x.L)]), some (.arr 7 (List.length (x.L ++ x.j)) (lsF Tx.c (x.L ++ x.j))), some (.row [.v (.int .i64 mo), .hs 3 0 (List.length x.L)]), some (.arr 7 
    (List.length (x.L ++ x.j')) (lsF Tx.c (x.L ++ x.j')))])) (.leaf (.mk .normal [.sl 3 (List.length acts) (lsF Ap.c acts), .ptr 0 0, .ptr 2 0, .v (.int .i64 (IntKind.wrap IntKind.i64 
    ((↑x.i : Int) + (1 : Int)))), .any] [some (.row [.v (.int .i64 mo), .hs 1 0 (List.length x.L)]), some (.arr 7 (List.length (x.L ++ x.j)) (lsF Tx.c (x.L ++ x.j))), some (.row [.v 
    (.int .i64 mo), .hs 3 0 (List.length x.L)]), some (.arr 7 (List.length (x.L ++ x.j')) (lsF Tx.c (x.L ++ x.j')))])))))))) (.br (decide ((List.getD acts x.i default).k = (2 : Int))) 
    .fail (.br (decide ((List.getD acts x.i default).k = (3 : Int))) .fail (.chk (cl (LeL [.ptr 0 0] [.ptr 0 0] ∧ LeH [some (.row [.v (.int .i64 mo), .hs 1 0 (List.length x.L)]), some 
    (.arr 7 (List.length (x.L ++ x.j)) (lsF Tx.c (x.L ++ x.j)))] [some (.row [.v (.int .i64 mo), .hs 1 0 (List.length x.L)]), some (.arr 7 (List.length (x.L ++ x.j)) (lsF Tx.c (x.L ++ 
    x.j)))])) (.chk (cl (smP (List.length x.L) (List.length x.L) (lsF Tx.c x.L) (List.length (x.L ++ x.j')) (List.length x.L) (lsF Tx.c (x.L ++ x.j')) ∧ LeL [.hs 0 0 (List.length x.L), 
    .hs 1 0 (List.length x.L)] [.hs 0 0 (List.length x.L), .hs 1 0 (List.length x.L)] ∧ LeH [some (.arr 7 (List.length x.L) (lsF Tx.c x.L)), some (.arr 7 (List.length (x.L ++ x.j')) 
    (lsF Tx.c (x.L ++ x.j')))] [some (.arr 7 (List.length x.L) (lsF Tx.c x.L)), some (.arr 7 (List.length (x.L ++ x.j')) (lsF Tx.c (x.L ++ x.j')))])) (.br (!decide ((↑(List.length x.L) 
    : Int) = (↑(List.length x.L) : Int))) (.leaf (.mk .ret [.sl 3 (List.length acts) (lsF Ap.c acts), .ptr 0 0, .ptr 2 0, .v (.int .i64 (↑x.i : Int)), .v (.bool false)] [some (.row [.v 
    (.int .i64 mo), .hs 1 0 (List.length x.L)]), some (.arr 7 (List.length (x.L ++ x.j)) (lsF Tx.c (x.L ++ x.j))), some (.row [.v (.int .i64 mo), .hs 3 0 (List.length x.L)]), some 
    (.arr 7 (List.length (x.L ++ x.j')) (lsF Tx.c (x.L ++ x.j')))])) (.leaf (.mk .normal [.sl 3 (List.length acts) (lsF Ap.c acts), .ptr 0 0, .ptr 2 0, .v (.int .i64 (IntKind.wrap 
    IntKind.i64 ((↑x.i : Int) + (1 : Int)))), .any] [some (.row [.v (.int .i64 mo), .hs 1 0 (List.length x.L)]), some (.arr 7 (List.length (x.L ++ x.j)) (lsF Tx.c (x.L ++ x.j))), some 
    (.row [.v (.int .i64 mo), .hs 3 0 (List.length x.L)]), some (.arr 7 (List.length (x.L ++ x.j')) (lsF Tx.c (x.L ++ x.j')))])))))))))) (.br (decide ((List.getD acts x.i default).k = 
    (0 : Int))) .fail (.br (decide ((List.getD acts x.i default).k = (1 : Int))) (.chk (cl (LeL [.ptr 0 0, .v (.int .i64 (List.getD acts x.i default).n), .sl 7 (List.length (List.getD 
    acts (Int.toNat ↑x.i) default).l) (lsF Tx.c (List.getD acts (Int.toNat ↑x.i) default).l)] [.ptr 0 0, .v (.int .i64 (List.getD acts x.i default).n), .sl 7 (List.length (List.getD 
    acts x.i default).l) (lsF Tx.c (List.getD acts x.i default).l)] ∧ LeH [some (.row [.v (.int .i64 mo), .hs 1 0 (List.length x.L)]), some (.arr 7 (List.length (x.L ++ x.j)) (lsF Tx.c 
    (x.L ++ x.j)))] [some (.row [.v (.int .i64 mo), .hs 1 0 (List.length x.L)]), some (.arr 7 (List.length (x.L ++ x.j)) (lsF Tx.c (x.L ++ x.j)))])) (.chk (cl (LeL [.agg [.v (.int .i64 
    mo), .hs 0 0 (List.length x.L)], .v (.int .i64 (List.getD acts x.i default).n), .sl 7 (List.length (List.getD acts (Int.toNat ↑x.i) default).l) (lsF Tx.c (List.getD acts (Int.toNat 
    ↑x.i) default).l)] [.agg [.v (.int .i64 mo), .hs 0 0 (List.length x.L)], .v (.int .i64 (List.getD acts x.i default).n), .sl 7 (List.length (List.getD acts x.i default).l) (lsF Tx.c 
    (List.getD acts x.i default).l)] ∧ LeH [some (.arr 7 (List.length (x.L ++ x.j')) (lsF Tx.c (x.L ++ x.j')))] [some (.arr 7 (List.length (x.L ++ x.j')) (lsF Tx.c (x.L ++ x.j')))])) 
    (.chk (cl (smP (List.length (batF (List.getD acts x.i default).l (List.getD acts x.i default).n x.L [])) (List.length (batF (List.getD acts x.i default).l (List.getD acts x.i 
    default).n x.L [])) (lsF Tx.c (batF (List.getD acts x.i default).l (List.getD acts x.i default).n x.L [])) (List.length (batF (List.getD acts x.i default).l (List.getD acts x.i 
    default).n x.L [])) (List.length (batF (List.getD acts x.i default).l (List.getD acts x.i default).n x.L [])) (lsF Tx.c (batF (List.getD acts x.i default).l (List.getD acts x.i 
    default).n x.L [])) ∧ LeL [.hs 0 0 (List.length (batF (List.getD acts x.i default).l (List.getD acts x.i default).n x.L [])), .hs 1 0 (List.length (batF (List.getD acts x.i 
    default).l (List.getD acts x.i default).n x.L []))] [.hs 0 0 (List.length (batF (List.getD acts x.i default).l (List.getD acts x.i default).n x.L [])), .hs 1 0 (List.length (batF 
    (List.getD acts x.i default).l (List.getD acts x.i default).n x.L []))] ∧ LeH [some (.arr 7 (List.length (batF (List.getD acts x.i default).l (List.getD acts x.i default).n x.L 
    [])) (lsF Tx.c (batF (List.getD acts x.i default).l (List.getD acts x.i default).n x.L []))), some (.arr 7 (List.length (batF (List.getD acts x.i default).l (List.getD acts x.i 
    default).n x.L [])) (lsF Tx.c (batF (List.getD acts x.i default).l (List.getD acts x.i default).n x.L [])))] [some (.arr 7 (List.length (batF (List.getD acts x.i default).l 
    (List.getD acts x.i default).n x.L [])) (lsF Tx.c (batF (List.getD acts x.i default).l (List.getD acts x.i default).n x.L []))), some (.arr 7 (List.length (batF (List.getD acts x.i 
    default).l (List.getD acts x.i default).n x.L [])) (lsF Tx.c (batF (List.getD acts x.i default).l (List.getD acts x.i default).n x.L [])))])) (.chk (cl (LeL [.ptr 0 0] [.ptr 0 0] ∧ 
    LeH [some (.row [.v (.int .i64 mo), .hs 1 0 (List.length x.L)]), some (.arr 7 (List.length (x.L ++ x.j)) (lsF Tx.c (x.L ++ x.j)))] [some (.row [.v (.int .i64 mo), .hs 1 0 
    (List.length x.L)]), some (.arr 7 (List.length (x.L ++ x.j)) (lsF Tx.c (x.L ++ x.j)))])) (.chk (cl (smP (List.length x.L) (List.length x.L) (lsF Tx.c x.L) (List.length (x.L ++ 
    x.j')) (List.length x.L) (lsF Tx.c (x.L ++ x.j')) ∧ LeL [.hs 0 0 (List.length x.L), .hs 1 0 (List.length x.L)] [.hs 0 0 (List.length x.L), .hs 1 0 (List.length x.L)] ∧ LeH [some 
    (.arr 7 (List.length x.L) (lsF Tx.c x.L)), some (.arr 7 (List.length (x.L ++ x.j')) (lsF Tx.c (x.L ++ x.j')))] [some (.arr 7 (List.length x.L) (lsF Tx.c x.L)), some (.arr 7 
    (List.length (x.L ++ x.j')) (lsF Tx.c (x.L ++ x.j')))])) (.br (!decide ((↑(List.length x.L) : Int) = (↑(List.length x.L) : Int))) (.leaf (.mk .ret [.sl 3 (List.length acts) (lsF 
    Ap.c acts), .ptr 0 0, .ptr 2 0, .v (.int .i64 (↑x.i : Int)), .v (.bool false)] [some (.row [.v (.int .i64 mo), .hs 1 0 (List.length x.L)]), some (.arr 7 (List.length (x.L ++ x.j)) 
    (lsF Tx.c (x.L ++ x.j))), some (.row [.v (.int .i64 mo), .hs 3 0 (List.length x.L)]), some (.arr 7 (List.length (x.L ++ x.j')) (lsF Tx.c (x.L ++ x.j')))])) (.leaf (.mk .normal [.sl 
    3 (List.length acts) (lsF Ap.c acts), .ptr 0 0, .ptr 2 0, .v (.int .i64 (IntKind.wrap IntKind.i64 ((↑x.i : Int) + (1 : Int)))), .any] [some (.row [.v (.int .i64 mo), .hs 1 0 
    (List.length x.L)]), some (.arr 7 (List.length (x.L ++ x.j)) (lsF Tx.c (x.L ++ x.j))), some (.row [.v (.int .i64 mo), .hs 3 0 (List.length x.L)]), some (.arr 7 (List.length (x.L ++ 
    x.j')) (lsF Tx.c (x.L ++ x.j')))])))))))) (.br (decide ((List.getD acts x.i default).k = (2 : Int))) .fail (.br (decide ((List.getD acts x.i default).k = (3 : Int))) .fail (.chk 
    (cl (LeL [.ptr 0 0] [.ptr 0 0] ∧ LeH [some (.row [.v (.int .i64 mo), .hs 1 0 (List.length x.L)]), some (.arr 7 (List.length (x.L ++ x.j)) (lsF Tx.c (x.L ++ x.j)))] [some (.row [.v 
    (.int .i64 mo), .hs 1 0 (List.length x.L)]), some (.arr 7 (List.length (x.L ++ x.j)) (lsF Tx.c (x.L ++ x.j)))])) (.chk (cl (smP (List.length x.L) (List.length x.L) (lsF Tx.c x.L) 
    (List.length (x.L ++ x.j')) (List.length x.L) (lsF Tx.c (x.L ++ x.j')) ∧ LeL [.hs 0 0 (List.length x.L), .hs 1 0 (List.length x.L)] [.hs 0 0 (List.length x.L), .hs 1 0 (List.length 
    x.L)] ∧ LeH [some (.arr 7 (List.length x.L) (lsF Tx.c x.L)), some (.arr 7 (List.length (x.L ++ x.j')) (lsF Tx.c (x.L ++ x.j')))] [some (.arr 7 (List.length x.L) (lsF Tx.c x.L)), 
    some (.arr 7 (List.length (x.L ++ x.j')) (lsF Tx.c (x.L ++ x.j')))])) (.br (!decide ((↑(List.length x.L) : Int) = (↑(List.length x.L) : Int))) (.leaf (.mk .ret [.sl 3 (List.length 
    acts) (lsF Ap.c acts), .ptr 0 0, .ptr 2 0, .v (.int .i64 (↑x.i : Int)), .v (.bool false)] [some (.row [.v (.int .i64 mo), .hs 1 0 (List.length x.L)]), some (.arr 7 (List.length 
    (x.L ++ x.j)) (lsF Tx.c (x.L ++ x.j))), some (.row [.v (.int .i64 mo), .hs 3 0 (List.length x.L)]), some (.arr 7 (List.length (x.L ++ x.j')) (lsF Tx.c (x.L ++ x.j')))])) (.leaf 
    (.mk .normal [.sl 3 (List.length acts) (lsF Ap.c acts), .ptr 0 0, .ptr 2 0, .v (.int .i64 (IntKind.wrap IntKind.i64 ((↑x.i : Int) + (1 : Int)))), .any] [some (.row [.v (.int .i64 
    mo), .hs 1 0 (List.length x.L)]), some (.arr 7 (List.length (x.L ++ x.j)) (lsF Tx.c (x.L ++ x.j))), some (.row [.v (.int .i64 mo), .hs 3 0 (List.length x.L)]), some (.arr 7 
    (List.length (x.L ++ x.j')) (lsF Tx.c (x.L ++ x.j')))]))))))))))))) (.leaf (.mk (.exit 0) [.sl 3 (List.length acts) (lsF Ap.c acts), .ptr 0 0, .ptr 2 0, .v (.int .i64 (↑x.i : 
    Int)), .any] [some (.row [.v (.int .i64 mo), .hs 1 0 (List.length x.L)]), some (.arr 7 (List.length (x.L ++ x.j)) (lsF Tx.c (x.L ++ x.j))), some (.row [.v (.int .i64 mo), .hs 3 0 
    (List.length x.L)]), some (.arr 7 (List.length (x.L ++ x.j')) (lsF Tx.c (x.L ++ x.j')))])) := by kernel_rfl
theorem r12d (mo : Int) (acts : List Ap) (x : X12) (hL : x.L.length ≤ 100000) (hw : (acts.getD x.i default).l.length ≤ 100000) (hK : (keepL (hasT (acts.getD x.i default).l) x.L).length ≤ 1000000000) : RE12 [kGrL, CT.at 56 (ansDr (mo := mo) (l := x.L) (j := x.j) (d := (acts.getD x.i default).l) hw hL), CT.at 55 (ansRd (mo := mo) (l := x.L) (j := x.j') (d := (acts.getD x.i default).l) hw hL), CT.at 48 (ansAll (mo := mo) (l := keepL (hasT (acts.getD x.i default).l) x.L) (j := junkL (hasT (acts.getD x.i default).l) x.L x.j) hK), kSm, kLenP] mo acts x =
  Tree.br (decide ((↑x.i : Int) < (↑(List.length acts) : Int))) (.chk (decide ((0 : Int) ≤ (↑x.i : Int)) && decide ((↑x.i : Int) < (↑(List.length acts) : Int))) (.chk (cl ((∃ l, isL 
    (List.length (List.getD acts (Int.toNat ↑x.i) default).l) (lsF Tx.c (List.getD acts (Int.toNat ↑x.i) default).l) l) ∧ LeL [.sl 7 (List.length (List.getD acts (Int.toNat ↑x.i) 
    default).l) (lsF Tx.c (List.getD acts (Int.toNat ↑x.i) default).l)] [.sl 7 (List.length (List.getD acts (Int.toNat ↑x.i) default).l) (lsF Tx.c (List.getD acts (Int.toNat ↑x.i) 
    default).l)] ∧ LeH [] [])) (.br (grF (List.length (List.getD acts (Int.toNat ↑x.i) default).l) (lsF Tx.c (List.getD acts (Int.toNat ↑x.i) default).l)) (.leaf (.mk .ret [.sl 3 
    (List.length acts) (lsF Ap.c acts), .ptr 0 0, .ptr 2 0, .v (.int .i64 (↑x.i : Int)), .v (.bool true)] [some (.row [.v (.int .i64 mo), .hs 1 0 (List.length x.L)]), some (.arr 7 
    (List.length (x.L ++ x.j)) (lsF Tx.c (x.L ++ x.j))), some (.row [.v (.int .i64 mo), .hs 3 0 (List.length x.L)]), some (.arr 7 (List.length (x.L ++ x.j')) (lsF Tx.c (x.L ++ 
    x.j')))])) (.br (decide ((0 : Int) < (↑(List.length (List.getD acts (Int.toNat ↑x.i) default).l) : Int))) (.chk (decide ((0 : Int) < (↑(List.length (List.getD acts (Int.toNat ↑x.i) 
    default).l) : Int))) (.br (decide ((List.getD acts x.i default).k = (0 : Int))) .fail (.br (decide ((List.getD acts x.i default).k = (1 : Int))) .fail (.br (decide ((List.getD acts 
    x.i default).k = (2 : Int))) (.chk (cl (LeL [.agg [.v (.int .i64 mo), .hs 0 0 (List.length x.L)], .sl 7 (List.length (List.getD acts (Int.toNat ↑x.i) default).l) (lsF Tx.c 
    (List.getD acts (Int.toNat ↑x.i) default).l)] [.agg [.v (.int .i64 mo), .hs 0 0 (List.length x.L)], .sl 7 (List.length (List.getD acts x.i default).l) (lsF Tx.c (List.getD acts x.i 
    default).l)] ∧ LeH [some (.arr 7 (List.length (x.L ++ x.j')) (lsF Tx.c (x.L ++ x.j')))] [some (.arr 7 (List.length (x.L ++ x.j')) (lsF Tx.c (x.L ++ x.j')))])) (.chk (cl (LeL [.ptr 
    0 0, .sl 7 (List.length (List.getD acts (Int.toNat ↑x.i) default).l) (lsF Tx.c (List.getD acts (Int.toNat ↑x.i) default).l)] [.ptr 0 0, .sl 7 (List.length (List.getD acts x.i 
    default).l) (lsF Tx.c (List.getD acts x.i default).l)] ∧ LeH [some (.row [.v (.int .i64 mo), .hs 1 0 (List.length x.L)]), some (.arr 7 (List.length (x.L ++ x.j)) (lsF Tx.c (x.L ++ 
    x.j)))] [some (.row [.v (.int .i64 mo), .hs 1 0 (List.length x.L)]), some (.arr 7 (List.length (x.L ++ x.j)) (lsF Tx.c (x.L ++ x.j)))])) (.br (!decide ((↑(List.length x.L) : Int) - 
    (↑(List.length (keepL (hasT (List.getD acts x.i default).l) x.L)) : Int) = IntKind.wrap IntKind.i64 ((↑(List.length x.L) : Int) - (↑(List.length (keepL (hasT (List.getD acts x.i 
    default).l) x.L)) : Int)))) (.leaf (.mk .ret [.sl 3 (List.length acts) (lsF Ap.c acts), .ptr 0 0, .ptr 2 0, .v (.int .i64 (↑x.i : Int)), .v (.bool false)] [some (.row [.v (.int 
    .i64 mo), .hs 1 0 (List.length (keepL (hasT (List.getD acts x.i default).l) x.L))]), some (.arr 7 (List.length (keepL (hasT (List.getD acts x.i default).l) x.L ++ junkL (hasT 
    (List.getD acts x.i default).l) x.L x.j)) (lsF Tx.c (keepL (hasT (List.getD acts x.i default).l) x.L ++ junkL (hasT (List.getD acts x.i default).l) x.L x.j))), some (.row [.v (.int 
    .i64 mo), .hs 3 0 (List.length (keepL (hasT (List.getD acts x.i default).l) x.L))]), some (.arr 7 (List.length (keepL (hasT (List.getD acts x.i default).l) x.L)) (lsF Tx.c (keepL 
    (hasT (List.getD acts x.i default).l) x.L)))])) (.chk (cl (LeL [.ptr 0 0] [.ptr 0 0] ∧ LeH [some (.row [.v (.int .i64 mo), .hs 1 0 (List.length (keepL (hasT (List.getD acts x.i 
    default).l) x.L))]), some (.arr 7 (List.length (keepL (hasT (List.getD acts x.i default).l) x.L ++ junkL (hasT (List.getD acts x.i default).l) x.L x.j)) (lsF Tx.c (keepL (hasT 
    (List.getD acts x.i default).l) x.L ++ junkL (hasT (List.getD acts x.i default).l) x.L x.j)))] [some (.row [.v (.int .i64 mo), .hs 1 0 (List.length (keepL (hasT (List.getD acts x.i 
    default).l) x.L))]), some (.arr 7 (List.length (keepL (hasT (List.getD acts x.i default).l) x.L ++ junkL (hasT (List.getD acts x.i default).l) x.L x.j)) (lsF Tx.c (keepL (hasT 
    (List.getD acts x.i default).l) x.L ++ junkL (hasT (List.getD acts x.i default).l) x.L x.j)))])) (.chk (cl (smP (List.length (keepL (hasT (List.getD acts x.i default).l) x.L)) 
    (List.length (keepL (hasT (List.getD acts x.i default).l) x.L)) (lsF Tx.c (keepL (hasT (List.getD acts x.i default).l) x.L)) (List.length (keepL (hasT (List.getD acts x.i 
    default).l) x.L)) (List.length (keepL (hasT (List.getD acts x.i default).l) x.L)) (lsF Tx.c (keepL (hasT (List.getD acts x.i default).l) x.L)) ∧ LeL [.hs 0 0 (List.length (keepL 
    (hasT (List.getD acts x.i default).l) x.L)), .hs 1 0 (List.length (keepL (hasT (List.getD acts x.i default).l) x.L))] [.hs 0 0 (List.length (keepL (hasT (List.getD acts x.i 
    default).l) x.L)), .hs 1 0 (List.length (keepL (hasT (List.getD acts x.i default).l) x.L))] ∧ LeH [some (.arr 7 (List.length (keepL (hasT (List.getD acts x.i default).l) x.L)) (lsF 
    Tx.c (keepL (hasT (List.getD acts x.i default).l) x.L))), some (.arr 7 (List.length (keepL (hasT (List.getD acts x.i default).l) x.L)) (lsF Tx.c (keepL (hasT (List.getD acts x.i 
    default).l) x.L)))] [some (.arr 7 (List.length (keepL (hasT (List.getD acts x.i default).l) x.L)) (lsF Tx.c (keepL (hasT (List.getD acts x.i default).l) x.L))), some (.arr 7 
    (List.length (keepL (hasT (List.getD acts x.i default).l) x.L)) (lsF Tx.c (keepL (hasT (List.getD acts x.i default).l) x.L)))])) (.br (!decide ((↑(List.length (keepL (hasT 
    (List.getD acts x.i default).l) x.L)) : Int) = (↑(List.length (keepL (hasT (List.getD acts x.i default).l) x.L)) : Int))) (.leaf (.mk .ret [.sl 3 (List.length acts) (lsF Ap.c 
    acts), .ptr 0 0, .ptr 2 0, .v (.int .i64 (↑x.i : Int)), .v (.bool false)] [some (.row [.v (.int .i64 mo), .hs 1 0 (List.length (keepL (hasT (List.getD acts x.i default).l) x.L))]), 
    some (.arr 7 (List.length (keepL (hasT (List.getD acts x.i default).l) x.L ++ junkL (hasT (List.getD acts x.i default).l) x.L x.j)) (lsF Tx.c (keepL (hasT (List.getD acts x.i 
    default).l) x.L ++ junkL (hasT (List.getD acts x.i default).l) x.L x.j))), some (.row [.v (.int .i64 mo), .hs 3 0 (List.length (keepL (hasT (List.getD acts x.i default).l) x.L))]), 
    some (.arr 7 (List.length (keepL (hasT (List.getD acts x.i default).l) x.L)) (lsF Tx.c (keepL (hasT (List.getD acts x.i default).l) x.L)))])) (.leaf (.mk .normal [.sl 3 
    (List.length acts) (lsF Ap.c acts), .ptr 0 0, .ptr 2 0, .v (.int .i64 (IntKind.wrap IntKind.i64 ((↑x.i : Int) + (1 : Int)))), .any] [some (.row [.v (.int .i64 mo), .hs 1 0 
    (List.length (keepL (hasT (List.getD acts x.i default).l) x.L))]), some (.arr 7 (List.length (keepL (hasT (List.getD acts x.i default).l) x.L ++ junkL (hasT (List.getD acts x.i 
    default).l) x.L x.j)) (lsF Tx.c (keepL (hasT (List.getD acts x.i default).l) x.L ++ junkL (hasT (List.getD acts x.i default).l) x.L x.j))), some (.row [.v (.int .i64 mo), .hs 3 0 
    (List.length (keepL (hasT (List.getD acts x.i default).l) x.L))]), some (.arr 7 (List.length (keepL (hasT (List.getD acts x.i default).l) x.L)) (lsF Tx.c (keepL (hasT (List.getD 
    acts x.i default).l) x.L)))])))))))) (.br (decide ((List.getD acts x.i default).k = (3 : Int))) .fail (.chk (cl (LeL [.ptr 0 0] [.ptr 0 0] ∧ LeH [some (.row [.v (.int .i64 mo), .hs 
    1 0 (List.length x.L)]), some (.arr 7 (List.length (x.L ++ x.j)) (lsF Tx.c (x.L ++ x.j)))] [some (.row [.v (.int .i64 mo), .hs 1 0 (List.length (keepL (hasT (List.getD acts x.i 
    default).l) x.L))]), some (.arr 7 (List.length (keepL (hasT (List.getD acts x.i default).l) x.L ++ junkL (hasT (List.getD acts x.i default).l) x.L x.j)) (lsF Tx.c (keepL (hasT 
    (List.getD acts x.i default).l) x.L ++ junkL (hasT (List.getD acts x.i default).l) x.L x.j)))])) (.chk (cl (smP (List.length (keepL (hasT (List.getD acts x.i default).l) x.L)) 
    (List.length (keepL (hasT (List.getD acts x.i default).l) x.L)) (lsF Tx.c (keepL (hasT (List.getD acts x.i default).l) x.L)) (List.length (x.L ++ x.j')) (List.length x.L) (lsF Tx.c 
    (x.L ++ x.j')) ∧ LeL [.hs 0 0 (List.length (keepL (hasT (List.getD acts x.i default).l) x.L)), .hs 1 0 (List.length x.L)] [.hs 0 0 (List.length (keepL (hasT (List.getD acts x.i 
    default).l) x.L)), .hs 1 0 (List.length x.L)] ∧ LeH [some (.arr 7 (List.length (keepL (hasT (List.getD acts x.i default).l) x.L)) (lsF Tx.c (keepL (hasT (List.getD acts x.i 
    default).l) x.L))), some (.arr 7 (List.length (x.L ++ x.j')) (lsF Tx.c (x.L ++ x.j')))] [some (.arr 7 (List.length (keepL (hasT (List.getD acts x.i default).l) x.L)) (lsF Tx.c 
    (keepL (hasT (List.getD acts x.i default).l) x.L))), some (.arr 7 (List.length (x.L ++ x.j')) (lsF Tx.c (x.L ++ x.j')))])) (.br (!decide ((↑(List.length (keepL (hasT (List.getD 
    acts x.i default).l) x.L)) : Int) = (↑(List.length x.L) : Int))) (.leaf (.mk .ret [.sl 3 (List.length acts) (lsF Ap.c acts), .ptr 0 0, .ptr 2 0, .v (.int .i64 (↑x.i : Int)), .v 
    (.bool false)] [some (.row [.v (.int .i64 mo), .hs 1 0 (List.length (keepL (hasT (List.getD acts x.i default).l) x.L))]), some (.arr 7 (List.length (keepL (hasT (List.getD acts x.i 
    default).l) x.L ++ junkL (hasT (List.getD acts x.i default).l) x.L x.j)) (lsF Tx.c (keepL (hasT (List.getD acts x.i default).l) x.L ++ junkL (hasT (List.getD acts x.i default).l) 
    x.L x.j))), some (.row [.v (.int .i64 mo), .hs 3 0 (List.length x.L)]), some (.arr 7 (List.length (x.L ++ x.j')) (lsF Tx.c (x.L ++ x.j')))])) (.leaf (.mk .normal [.sl 3 
    (List.length acts) (lsF Ap.c acts), .ptr 0 0, .ptr 2 0, .v (.int .i64 (IntKind.wrap IntKind.i64 ((↑x.i : Int) + (1 : Int)))), .any] [some (.row [.v (.int .i64 mo), .hs 1 0 
    (List.length (keepL (hasT (List.getD acts x.i default).l) x.L))]), some (.arr 7 (List.length (keepL (hasT (List.getD acts x.i default).l) x.L ++ junkL (hasT (List.getD acts x.i 
    default).l) x.L x.j)) (lsF Tx.c (keepL (hasT (List.getD acts x.i default).l) x.L ++ junkL (hasT (List.getD acts x.i default).l) x.L x.j))), some (.row [.v (.int .i64 mo), .hs 3 0 
    (List.length x.L)]), some (.arr 7 (List.length (x.L ++ x.j')) (lsF Tx.c (x.L ++ x.j')))])))))))))) (.br (decide ((List.getD acts x.i default).k = (0 : Int))) .fail (.br (decide 
    ((List.getD acts x.i default).k = (1 : Int))) .fail (.br (decide ((List.getD acts x.i default).k = (2 : Int))) (.chk (cl (LeL [.agg [.v (.int .i64 mo), .hs 0 0 (List.length x.L)], 
    .sl 7 (List.length (List.getD acts (Int.toNat ↑x.i) default).l) (lsF Tx.c (List.getD acts (Int.toNat ↑x.i) default).l)] [.agg [.v (.int .i64 mo), .hs 0 0 (List.length x.L)], .sl 7 
    (List.length (List.getD acts x.i default).l) (lsF Tx.c (List.getD acts x.i default).l)] ∧ LeH [some (.arr 7 (List.length (x.L ++ x.j')) (lsF Tx.c (x.L ++ x.j')))] [some (.arr 7 
    (List.length (x.L ++ x.j')) (lsF Tx.c (x.L ++ x.j')))])) (.chk (cl (LeL [.ptr 0 0, .sl 7 (List.length (List.getD acts (Int.toNat ↑x.i) default).l) (lsF Tx.c (List.getD acts 
    (Int.toNat ↑x.i) default).l)] [.ptr 0 0, .sl 7 (List.length (List.getD acts x.i default).l) (lsF Tx.c (List.getD acts x.i default).l)] ∧ LeH [some (.row [.v (.int .i64 mo), .hs 1 0 
    (List.length x.L)]), some (.arr 7 (List.length (x.L ++ x.j)) (lsF Tx.c (x.L ++ x.j)))] [some (.row [.v (.int .i64 mo), .hs 1 0 (List.length x.L)]), some (.arr 7 (List.length (x.L 
    ++ x.j)) (lsF Tx.c (x.L ++ x.j)))])) (.br (!decide ((↑(List.length x.L) : Int) - (↑(List.length (keepL (hasT (List.getD acts x.i default).l) x.L)) : Int) = IntKind.wrap IntKind.i64 
    ((↑(List.length x.L) : Int) - (↑(List.length (keepL (hasT (List.getD acts x.i default).l) x.L)) : Int)))) (.leaf (.mk .ret [.sl 3 (List.length acts) (lsF Ap.c acts), .ptr 0 0, .ptr 
    2 0, .v (.int .i64 (↑x.i : Int)), .v (.bool false)] [some (.row [.v (.int .i64 mo), .hs 1 0 (List.length (keepL (hasT (List.getD acts x.i default).l) x.L))]), some (.arr 7 
    (List.length (keepL (hasT (List.getD acts x.i default).l) x.L ++ junkL (hasT (List.getD acts x.i default).l) x.L x.j)) (lsF Tx.c (keepL (hasT (List.getD acts x.i default).l) x.L ++ 
    junkL (hasT (List.getD acts x.i default).l) x.L x.j))), some (.row [.v (.int .i64 mo), .hs 3 0 (List.length (keepL (hasT (List.getD acts x.i default).l) x.L))]), some (.arr 7 
    (List.length (keepL (hasT (List.getD acts x.i default).l) x.L)) (lsF Tx.c (keepL (hasT (List.getD acts x.i default).l) x.L)))])) (.chk (cl (LeL [.ptr 0 0] [.ptr 0 0] ∧ LeH [some 
    (.row [.v (.int .i64 mo), .hs 1 0 (List.length (keepL (hasT (List.getD acts x.i default).l) x.L))]), some (.arr 7 (List.length (keepL (hasT (List.getD acts x.i default).l) x.L ++ 
    junkL (hasT (List.getD acts x.i default).l) x.L x.j)) (lsF Tx.c (keepL (hasT (List.getD acts x.i default).l) x.L ++ junkL (hasT (List.getD acts x.i default).l) x.L x.j)))] [some 
    (.row [.v (.int .i64 mo), .hs 1 0 (List.length (keepL (hasT (List.getD acts x.i default).l) x.L))]), some (.arr 7 (List.length (keepL (hasT (List.getD acts x.i default).l) x.L ++ 
    junkL (hasT (List.getD acts x.i default).l) x.L x.j)) (lsF Tx.c (keepL (hasT (List.getD acts x.i default).l) x.L ++ junkL (hasT (List.getD acts x.i default).l) x.L x.j)))])) (.chk 
    (cl (smP (List.length (keepL (hasT (List.getD acts x.i default).l) x.L)) (List.length (keepL (hasT (List.getD acts x.i default).l) x.L)) (lsF Tx.c (keepL (hasT (List.getD acts x.i 
    default).l) x.L)) (List.length (keepL (hasT (List.getD acts x.i default).l) x.L)) (List.length (keepL (hasT (List.getD acts x.i default).l) x.L)) (lsF Tx.c (keepL (hasT (List.getD 
    acts x.i default).l) x.L)) ∧ LeL [.hs 0 0 (List.length (keepL (hasT (List.getD acts x.i default).l) x.L)), .hs 1 0 (List.length (keepL (hasT (List.getD acts x.i default).l) x.L))] 
    [.hs 0 0 (List.length (keepL (hasT (List.getD acts x.i default).l) x.L)), .hs 1 0 (List.length (keepL (hasT (List.getD acts x.i default).l) x.L))] ∧ LeH [some (.arr 7 (List.length 
    (keepL (hasT (List.getD acts x.i default).l) x.L)) (lsF Tx.c (keepL (hasT (List.getD acts x.i default).l) x.L))), some (.arr 7 (List.length (keepL (hasT (List.getD acts x.i 
    default).l) x.L)) (lsF Tx.c (keepL (hasT (List.getD acts x.i default).l) x.L)))] [some (.arr 7 (List.length (keepL (hasT (List.getD acts x.i default).l) x.L)) (lsF Tx.c (keepL 
    (hasT (List.getD acts x.i default).l) x.L))), some (.arr 7 (List.length (keepL (hasT (List.getD acts x.i default).l) x.L)) (lsF Tx.c (keepL (hasT (List.getD acts x.i default).l) 
    x.L)))])) (.br (!decide ((↑(List.length (keepL (hasT (List.getD acts x.i default).l) x.L)) : Int) = (↑(List.length (keepL (hasT (List.getD acts x.i default).l) x.L)) : Int))) 
    (.leaf (.mk .ret [.sl 3 (List.length acts) (lsF Ap.c acts), .ptr 0 0, .ptr 2 0, .v (.int .i64 (↑x.i : Int)), .v (.bool false)] [some (.row [.v (.int .i64 mo), .hs 1 0 (List.length 
    (keepL (hasT (List.getD acts x.i default).l) x.L))]), some (.arr 7 (List.length (keepL (hasT (List.getD acts x.i default).l) x.L ++ junkL (hasT (List.getD acts x.i default).l) x.L 
    x.j)) (lsF Tx.c (keepL (hasT (List.getD acts x.i default).l) x.L ++ junkL (hasT (List.getD acts x.i default).l) x.L x.j))), some (.row [.v (.int .i64 mo), .hs 3 0 (List.length 
    (keepL (hasT (List.getD acts x.i default).l) x.L))]), some (.arr 7 (List.length (keepL (hasT (List.getD acts x.i default).l) x.L)) (lsF Tx.c (keepL (hasT (List.getD acts x.i 
    default).l) x.L)))])) (.leaf (.mk .normal [.sl 3 (List.length acts) (lsF Ap.c acts), .ptr 0 0, .ptr 2 0, .v (.int .i64 (IntKind.wrap IntKind.i64 ((↑x.i : Int) + (1 : Int)))), .any] 
    [some (.row [.v (.int .i64 mo), .hs 1 0 (List.length (keepL (hasT (List.getD acts x.i default).l) x.L))]), some (.arr 7 (List.length (keepL (hasT (List.getD acts x.i default).l) 
    x.L ++ junkL (hasT (List.getD acts x.i default).l) x.L x.j)) (lsF Tx.c (keepL (hasT (List.getD acts x.i default).l) x.L ++ junkL (hasT (List.getD acts x.i default).l) x.L x.j))), 
    some (.row [.v (.int .i64 mo), .hs 3 0 (List.length (keepL (hasT (List.getD acts x.i default).l) x.L))]), some (.arr 7 (List.length (keepL (hasT (List.getD acts x.i default).l) 
    x.L)) (lsF Tx.c (keepL (hasT (List.getD acts x.i default).l) x.L)))])))))))) (.br (decide ((List.getD acts x.i default).k = (3 : Int))) .fail (.chk (cl (LeL [.ptr 0 0] [.ptr 0 0] ∧ 
    LeH [some (.row [.v (.int .i64 mo), .hs 1 0 (List.length x.L)]), some (.arr 7 (List.length (x.L ++ x.j)) (lsF Tx.c (x.L ++ x.j)))] [some (.row [.v (.int .i64 mo), .hs 1 0 
    (List.length (keepL (hasT (List.getD acts x.i default).l) x.L))]), some (.arr 7 (List.length (keepL (hasT (List.getD acts x.i default).l) x.L ++ junkL (hasT (List.getD acts x.i 
    default).l) x.L x.j)) (lsF Tx.c (keepL (hasT (List.getD acts x.i default).l) x.L ++ junkL (hasT (List.getD acts x.i default).l) x.L x.j)))])) (.chk (cl (smP (List.length (keepL 
    (hasT (List.getD acts x.i default).l) x.L)) (List.length (keepL (hasT (List.getD acts x.i default).l) x.L)) (lsF Tx.c (keepL (hasT (List.getD acts x.i default).l) x.L)) 
    (List.length (x.L ++ x.j')) (List.length x.L) (lsF Tx.c (x.L ++ x.j')) ∧ LeL [.hs 0 0 (List.length (keepL (hasT (List.getD acts x.i default).l) x.L)), .hs 1 0 (List.length x.L)] 
    [.hs 0 0 (List.length (keepL (hasT (List.getD acts x.i default).l) x.L)), .hs 1 0 (List.length x.L)] ∧ LeH [some (.arr 7 (List.length (keepL (hasT (List.getD acts x.i default).l) 
    x.L)) (lsF Tx.c (keepL (hasT (List.getD acts x.i default).l) x.L))), some (.arr 7 (List.length (x.L ++ x.j')) (lsF Tx.c (x.L ++ x.j')))] [some (.arr 7 (List.length (keepL (hasT 
    (List.getD acts x.i default).l) x.L)) (lsF Tx.c (keepL (hasT (List.getD acts x.i default).l) x.L))), some (.arr 7 (List.length (x.L ++ x.j')) (lsF Tx.c (x.L ++ x.j')))])) (.br 
    (!decide ((↑(List.length (keepL (hasT (List.getD acts x.i default).l) x.L)) : Int) = (↑(List.length x.L) : Int))) (.leaf (.mk .ret [.sl 3 (List.length acts) (lsF Ap.c acts), .ptr 0 
    0, .ptr 2 0, .v (.int .i64 (↑x.i : Int)), .v (.bool false)] [some (.row [.v (.int .i64 mo), .hs 1 0 (List.length (keepL (hasT (List.getD acts x.i default).l) x.L))]), some (.arr 7 
    (List.length (keepL (hasT (List.getD acts x.i default).l) x.L ++ junkL (hasT (List.getD acts x.i default).l) x.L x.j)) (lsF Tx.c (keepL (hasT (List.getD acts x.i default).l) x.L ++ 
    junkL (hasT (List.getD acts x.i default).l) x.L x.j))), some (.row [.v (.int .i64 mo), .hs 3 0 (List.length x.L)]), some (.arr 7 (List.length (x.L ++ x.j')) (lsF Tx.c (x.L ++ 
    x.j')))])) (.leaf (.mk .normal [.sl 3 (List.length acts) (lsF Ap.c acts), .ptr 0 0, .ptr 2 0, .v (.int .i64 (IntKind.wrap IntKind.i64 ((↑x.i : Int) + (1 : Int)))), .any] [some 
    (.row [.v (.int .i64 mo), .hs 1 0 (List.length (keepL (hasT (List.getD acts x.i default).l) x.L))]), some (.arr 7 (List.length (keepL (hasT (List.getD acts x.i default).l) x.L ++ 
    junkL (hasT (List.getD acts x.i default).l) x.L x.j)) (lsF Tx.c (keepL (hasT (List.getD acts x.i default).l) x.L ++ junkL (hasT (List.getD acts x.i default).l) x.L x.j))), some 
    (.row [.v (.int .i64 mo), .hs 3 0 (List.length x.L)]), some (.arr 7 (List.length (x.L ++ x.j')) (lsF Tx.c (x.L ++ x.j')))]))))))))))))) (.leaf (.mk (.exit 0) [.sl 3 (List.length 
    acts) (lsF Ap.c acts), .ptr 0 0, .ptr 2 0, .v (.int .i64 (↑x.i : Int)), .any] [some (.row [.v (.int .i64 mo), .hs 1 0 (List.length x.L)]), some (.arr 7 (List.length (x.L ++ x.j)) 
    (lsF Tx.c (x.L ++ x.j))), some (.row [.v (.int .i64 mo), .hs 3 0 (List.length x.L)]), some (.arr 7 (List.length (x.L ++ x.j')) (lsF Tx.c (x.L ++ x.j')))])) := by kernel_rfl
theorem r12p (mo : Int) (acts : List Ap) (x : X12) (hL : x.L.length ≤ 100000) (hK : (keepL (pastB (fstT acts x.i).fr (acts.getD x.i default).n) x.L).length ≤ 1000000000) : RE12 [kGrL, CT.at 58 (ansPa (mo := mo) (l := x.L) (j := x.j) (w := (fstT acts x.i).fr) (m := (acts.getD x.i default).n) hL), CT.at 57 (ansRp (mo := mo) (l := x.L) (j := x.j') (w := (fstT acts x.i).fr) (m := (acts.getD x.i default).n) hL), CT.at 48 (ansAll (mo := mo) (l := keepL (pastB (fstT acts x.i).fr (acts.getD x.i default).n) x.L) (j := junkL (pastB (fstT acts x.i).fr (acts.getD x.i default).n) x.L x.j) hK), kSm, kLenP] mo acts x =
  Tree.br (decide ((↑x.i : Int) < (↑(List.length acts) : Int))) (.chk (decide ((0 : Int) ≤ (↑x.i : Int)) && decide ((↑x.i : Int) < (↑(List.length acts) : Int))) (.chk (cl ((∃ l, isL 
    (List.length (List.getD acts (Int.toNat ↑x.i) default).l) (lsF Tx.c (List.getD acts (Int.toNat ↑x.i) default).l) l) ∧ LeL [.sl 7 (List.length (List.getD acts (Int.toNat ↑x.i) 
    default).l) (lsF Tx.c (List.getD acts (Int.toNat ↑x.i) default).l)] [.sl 7 (List.length (List.getD acts (Int.toNat ↑x.i) default).l) (lsF Tx.c (List.getD acts (Int.toNat ↑x.i) 
    default).l)] ∧ LeH [] [])) (.br (grF (List.length (List.getD acts (Int.toNat ↑x.i) default).l) (lsF Tx.c (List.getD acts (Int.toNat ↑x.i) default).l)) (.leaf (.mk .ret [.sl 3 
    (List.length acts) (lsF Ap.c acts), .ptr 0 0, .ptr 2 0, .v (.int .i64 (↑x.i : Int)), .v (.bool true)] [some (.row [.v (.int .i64 mo), .hs 1 0 (List.length x.L)]), some (.arr 7 
    (List.length (x.L ++ x.j)) (lsF Tx.c (x.L ++ x.j))), some (.row [.v (.int .i64 mo), .hs 3 0 (List.length x.L)]), some (.arr 7 (List.length (x.L ++ x.j')) (lsF Tx.c (x.L ++ 
    x.j')))])) (.br (decide ((0 : Int) < (↑(List.length (List.getD acts (Int.toNat ↑x.i) default).l) : Int))) (.chk (decide ((0 : Int) < (↑(List.length (List.getD acts (Int.toNat ↑x.i) 
    default).l) : Int))) (.br (decide ((List.getD acts x.i default).k = (0 : Int))) .fail (.br (decide ((List.getD acts x.i default).k = (1 : Int))) .fail (.br (decide ((List.getD acts 
    x.i default).k = (2 : Int))) .fail (.br (decide ((List.getD acts x.i default).k = (3 : Int))) (.chk (cl (LeL [.agg [.v (.int .i64 mo), .hs 0 0 (List.length x.L)], .v (.string 
    (List.getD (List.getD acts (Int.toNat ↑x.i) default).l (Int.toNat (0 : Int)) default).fr), .v (.int .i64 (List.getD acts x.i default).n)] [.agg [.v (.int .i64 mo), .hs 0 0 
    (List.length x.L)], .v (.string (fstT acts x.i).fr), .v (.int .i64 (List.getD acts x.i default).n)] ∧ LeH [some (.arr 7 (List.length (x.L ++ x.j')) (lsF Tx.c (x.L ++ x.j')))] [some 
    (.arr 7 (List.length (x.L ++ x.j')) (lsF Tx.c (x.L ++ x.j')))])) (.chk (cl (LeL [.ptr 0 0, .v (.string (List.getD (List.getD acts (Int.toNat ↑x.i) default).l (Int.toNat (0 : Int)) 
    default).fr), .v (.int .i64 (List.getD acts x.i default).n)] [.ptr 0 0, .v (.string (fstT acts x.i).fr), .v (.int .i64 (List.getD acts x.i default).n)] ∧ LeH [some (.row [.v (.int 
    .i64 mo), .hs 1 0 (List.length x.L)]), some (.arr 7 (List.length (x.L ++ x.j)) (lsF Tx.c (x.L ++ x.j)))] [some (.row [.v (.int .i64 mo), .hs 1 0 (List.length x.L)]), some (.arr 7 
    (List.length (x.L ++ x.j)) (lsF Tx.c (x.L ++ x.j)))])) (.br (!decide ((↑(List.length x.L) : Int) - (↑(List.length (keepL (pastB (fstT acts x.i).fr (List.getD acts x.i default).n) 
    x.L)) : Int) = IntKind.wrap IntKind.i64 ((↑(List.length x.L) : Int) - (↑(List.length (keepL (pastB (fstT acts x.i).fr (List.getD acts x.i default).n) x.L)) : Int)))) (.leaf (.mk 
    .ret [.sl 3 (List.length acts) (lsF Ap.c acts), .ptr 0 0, .ptr 2 0, .v (.int .i64 (↑x.i : Int)), .v (.bool false)] [some (.row [.v (.int .i64 mo), .hs 1 0 (List.length (keepL 
    (pastB (fstT acts x.i).fr (List.getD acts x.i default).n) x.L))]), some (.arr 7 (List.length (keepL (pastB (fstT acts x.i).fr (List.getD acts x.i default).n) x.L ++ junkL (pastB 
    (fstT acts x.i).fr (List.getD acts x.i default).n) x.L x.j)) (lsF Tx.c (keepL (pastB (fstT acts x.i).fr (List.getD acts x.i default).n) x.L ++ junkL (pastB (fstT acts x.i).fr 
    (List.getD acts x.i default).n) x.L x.j))), some (.row [.v (.int .i64 mo), .hs 3 0 (List.length (keepL (pastB (fstT acts x.i).fr (List.getD acts x.i default).n) x.L))]), some (.arr 
    7 (List.length (keepL (pastB (fstT acts x.i).fr (List.getD acts x.i default).n) x.L)) (lsF Tx.c (keepL (pastB (fstT acts x.i).fr (List.getD acts x.i default).n) x.L)))])) (.chk (cl 
    (LeL [.ptr 0 0] [.ptr 0 0] ∧ LeH [some (.row [.v (.int .i64 mo), .hs 1 0 (List.length (keepL (pastB (fstT acts x.i).fr (List.getD acts x.i default).n) x.L))]), some (.arr 7 
    (List.length (keepL (pastB (fstT acts x.i).fr (List.getD acts x.i default).n) x.L ++ junkL (pastB (fstT acts x.i).fr (List.getD acts x.i default).n) x.L x.j)) (lsF Tx.c (keepL 
    (pastB (fstT acts x.i).fr (List.getD acts x.i default).n) x.L ++ junkL (pastB (fstT acts x.i).fr (List.getD acts x.i default).n) x.L x.j)))] [some (.row [.v (.int .i64 mo), .hs 1 0 
    (List.length (keepL (pastB (fstT acts x.i).fr (List.getD acts x.i default).n) x.L))]), some (.arr 7 (List.length (keepL (pastB (fstT acts x.i).fr (List.getD acts x.i default).n) 
    x.L ++ junkL (pastB (fstT acts x.i).fr (List.getD acts x.i default).n) x.L x.j)) (lsF Tx.c (keepL (pastB (fstT acts x.i).fr (List.getD acts x.i default).n) x.L ++ junkL (pastB 
    (fstT acts x.i).fr (List.getD acts x.i default).n) x.L x.j)))])) (.chk (cl (smP (List.length (keepL (pastB (fstT acts x.i).fr (List.getD acts x.i default).n) x.L)) (List.length 
    (keepL (pastB (fstT acts x.i).fr (List.getD acts x.i default).n) x.L)) (lsF Tx.c (keepL (pastB (fstT acts x.i).fr (List.getD acts x.i default).n) x.L)) (List.length (keepL (pastB 
    (fstT acts x.i).fr (List.getD acts x.i default).n) x.L)) (List.length (keepL (pastB (fstT acts x.i).fr (List.getD acts x.i default).n) x.L)) (lsF Tx.c (keepL (pastB (fstT acts 
    x.i).fr (List.getD acts x.i default).n) x.L)) ∧ LeL [.hs 0 0 (List.length (keepL (pastB (fstT acts x.i).fr (List.getD acts x.i default).n) x.L)), .hs 1 0 (List.length (keepL (pastB 
    (fstT acts x.i).fr (List.getD acts x.i default).n) x.L))] [.hs 0 0 (List.length (keepL (pastB (fstT acts x.i).fr (List.getD acts x.i default).n) x.L)), .hs 1 0 (List.length (keepL 
    (pastB (fstT acts x.i).fr (List.getD acts x.i default).n) x.L))] ∧ LeH [some (.arr 7 (List.length (keepL (pastB (fstT acts x.i).fr (List.getD acts x.i default).n) x.L)) (lsF Tx.c 
    (keepL (pastB (fstT acts x.i).fr (List.getD acts x.i default).n) x.L))), some (.arr 7 (List.length (keepL (pastB (fstT acts x.i).fr (List.getD acts x.i default).n) x.L)) (lsF Tx.c 
    (keepL (pastB (fstT acts x.i).fr (List.getD acts x.i default).n) x.L)))] [some (.arr 7 (List.length (keepL (pastB (fstT acts x.i).fr (List.getD acts x.i default).n) x.L)) (lsF Tx.c 
    (keepL (pastB (fstT acts x.i).fr (List.getD acts x.i default).n) x.L))), some (.arr 7 (List.length (keepL (pastB (fstT acts x.i).fr (List.getD acts x.i default).n) x.L)) (lsF Tx.c 
    (keepL (pastB (fstT acts x.i).fr (List.getD acts x.i default).n) x.L)))])) (.br (!decide ((↑(List.length (keepL (pastB (fstT acts x.i).fr (List.getD acts x.i default).n) x.L)) : 
    Int) = (↑(List.length (keepL (pastB (fstT acts x.i).fr (List.getD acts x.i default).n) x.L)) : Int))) (.leaf (.mk .ret [.sl 3 (List.length acts) (lsF Ap.c acts), .ptr 0 0, .ptr 2 
    0, .v (.int .i64 (↑x.i : Int)), .v (.bool false)] [some (.row [.v (.int .i64 mo), .hs 1 0 (List.length (keepL (pastB (fstT acts x.i).fr (List.getD acts x.i default).n) x.L))]), 
    some (.arr 7 (List.length (keepL (pastB (fstT acts x.i).fr (List.getD acts x.i default).n) x.L ++ junkL (pastB (fstT acts x.i).fr (List.getD acts x.i default).n) x.L x.j)) (lsF 
    Tx.c (keepL (pastB (fstT acts x.i).fr (List.getD acts x.i default).n) x.L ++ junkL (pastB (fstT acts x.i).fr (List.getD acts x.i default).n) x.L x.j))), some (.row [.v (.int .i64 
    mo), .hs 3 0 (List.length (keepL (pastB (fstT acts x.i).fr (List.getD acts x.i default).n) x.L))]), some (.arr 7 (List.length (keepL (pastB (fstT acts x.i).fr (List.getD acts x.i 
    default).n) x.L)) (lsF Tx.c (keepL (pastB (fstT acts x.i).fr (List.getD acts x.i default).n) x.L)))])) (.leaf (.mk .normal [.sl 3 (List.length acts) (lsF Ap.c acts), .ptr 0 0, .ptr 
    2 0, .v (.int .i64 (IntKind.wrap IntKind.i64 ((↑x.i : Int) + (1 : Int)))), .any] [some (.row [.v (.int .i64 mo), .hs 1 0 (List.length (keepL (pastB (fstT acts x.i).fr (List.getD 
    acts x.i default).n) x.L))]), some (.arr 7 (List.length (keepL (pastB (fstT acts x.i).fr (List.getD acts x.i default).n) x.L ++ junkL (pastB (fstT acts x.i).fr (List.getD acts x.i 
    default).n) x.L x.j)) (lsF Tx.c (keepL (pastB (fstT acts x.i).fr (List.getD acts x.i default).n) x.L ++ junkL (pastB (fstT acts x.i).fr (List.getD acts x.i default).n) x.L x.j))), 
    some (.row [.v (.int .i64 mo), .hs 3 0 (List.length (keepL (pastB (fstT acts x.i).fr (List.getD acts x.i default).n) x.L))]), some (.arr 7 (List.length (keepL (pastB (fstT acts 
    x.i).fr (List.getD acts x.i default).n) x.L)) (lsF Tx.c (keepL (pastB (fstT acts x.i).fr (List.getD acts x.i default).n) x.L)))])))))))) (.chk (cl (LeL [.ptr 0 0] [.ptr 0 0] ∧ LeH 
    [some (.row [.v (.int .i64 mo), .hs 1 0 (List.length x.L)]), some (.arr 7 (List.length (x.L ++ x.j)) (lsF Tx.c (x.L ++ x.j)))] [some (.row [.v (.int .i64 mo), .hs 1 0 (List.length 
    (keepL (pastB (fstT acts x.i).fr (List.getD acts x.i default).n) x.L))]), some (.arr 7 (List.length (keepL (pastB (fstT acts x.i).fr (List.getD acts x.i default).n) x.L ++ junkL 
    (pastB (fstT acts x.i).fr (List.getD acts x.i default).n) x.L x.j)) (lsF Tx.c (keepL (pastB (fstT acts x.i).fr (List.getD acts x.i default).n) x.L ++ junkL (pastB (fstT acts 
    x.i).fr (List.getD acts x.i default).n) x.L x.j)))])) (.chk (cl (smP (List.length (keepL (pastB (fstT acts x.i).fr (List.getD acts x.i default).n) x.L)) (List.length (keepL (pastB 
    (fstT acts x.i).fr (List.getD acts x.i default).n) x.L)) (lsF Tx.c (keepL (pastB (fstT acts x.i).fr (List.getD acts x.i default).n) x.L)) (List.length (x.L ++ x.j')) (List.length 
    x.L) (lsF Tx.c (x.L ++ x.j')) ∧ LeL [.hs 0 0 (List.length (keepL (pastB (fstT acts x.i).fr (List.getD acts x.i default).n) x.L)), .hs 1 0 (List.length x.L)] [.hs 0 0 (List.length 
    (keepL (pastB (fstT acts x.i).fr (List.getD acts x.i default).n) x.L)), .hs 1 0 (List.length x.L)] ∧ LeH [some (.arr 7 (List.length (keepL (pastB (fstT acts x.i).fr (List.getD acts 
    x.i default).n) x.L)) (lsF Tx.c (keepL (pastB (fstT acts x.i).fr (List.getD acts x.i default).n) x.L))), some (.arr 7 (List.length (x.L ++ x.j')) (lsF Tx.c (x.L ++ x.j')))] [some 
    (.arr 7 (List.length (keepL (pastB (fstT acts x.i).fr (List.getD acts x.i default).n) x.L)) (lsF Tx.c (keepL (pastB (fstT acts x.i).fr (List.getD acts x.i default).n) x.L))), some 
    (.arr 7 (List.length (x.L ++ x.j')) (lsF Tx.c (x.L ++ x.j')))])) (.br (!decide ((↑(List.length (keepL (pastB (fstT acts x.i).fr (List.getD acts x.i default).n) x.L)) : Int) = 
    (↑(List.length x.L) : Int))) (.leaf (.mk .ret [.sl 3 (List.length acts) (lsF Ap.c acts), .ptr 0 0, .ptr 2 0, .v (.int .i64 (↑x.i : Int)), .v (.bool false)] [some (.row [.v (.int 
    .i64 mo), .hs 1 0 (List.length (keepL (pastB (fstT acts x.i).fr (List.getD acts x.i default).n) x.L))]), some (.arr 7 (List.length (keepL (pastB (fstT acts x.i).fr (List.getD acts 
    x.i default).n) x.L ++ junkL (pastB (fstT acts x.i).fr (List.getD acts x.i default).n) x.L x.j)) (lsF Tx.c (keepL (pastB (fstT acts x.i).fr (List.getD acts x.i default).n) x.L ++ 
    junkL (pastB (fstT acts x.i).fr (List.getD acts x.i default).n) x.L x.j))), some (.row [.v (.int .i64 mo), .hs 3 0 (List.length x.L)]), some (.arr 7 (List.length (x.L ++ x.j')) 
    (lsF Tx.c (x.L ++ x.j')))])) (.leaf (.mk .normal [.sl 3 (List.length acts) (lsF Ap.c acts), .ptr 0 0, .ptr 2 0, .v (.int .i64 (IntKind.wrap IntKind.i64 ((↑x.i : Int) + (1 : 
    Int)))), .any] [some (.row [.v (.int .i64 mo), .hs 1 0 (List.length (keepL (pastB (fstT acts x.i).fr (List.getD acts x.i default).n) x.L))]), some (.arr 7 (List.length (keepL 
    (pastB (fstT acts x.i).fr (List.getD acts x.i default).n) x.L ++ junkL (pastB (fstT acts x.i).fr (List.getD acts x.i default).n) x.L x.j)) (lsF Tx.c (keepL (pastB (fstT acts 
    x.i).fr (List.getD acts x.i default).n) x.L ++ junkL (pastB (fstT acts x.i).fr (List.getD acts x.i default).n) x.L x.j))), some (.row [.v (.int .i64 mo), .hs 3 0 (List.length 
    x.L)]), some (.arr 7 (List.length (x.L ++ x.j')) (lsF Tx.c (x.L ++ x.j')))])))))))))) (.br (decide ((List.getD acts x.i default).k = (0 : Int))) .fail (.br (decide ((List.getD acts 
    x.i default).k = (1 : Int))) .fail (.br (decide ((List.getD acts x.i default).k = (2 : Int))) .fail (.br (decide ((List.getD acts x.i default).k = (3 : Int))) (.chk (cl (LeL [.agg 
    [.v (.int .i64 mo), .hs 0 0 (List.length x.L)], .v (.string (ByteArray.mk #[])), .v (.int .i64 (List.getD acts x.i default).n)] [.agg [.v (.int .i64 mo), .hs 0 0 (List.length 
    x.L)], .v (.string (fstT acts x.i).fr), .v (.int .i64 (List.getD acts x.i default).n)] ∧ LeH [some (.arr 7 (List.length (x.L ++ x.j')) (lsF Tx.c (x.L ++ x.j')))] [some (.arr 7 
    (List.length (x.L ++ x.j')) (lsF Tx.c (x.L ++ x.j')))])) (.chk (cl (LeL [.ptr 0 0, .v (.string (ByteArray.mk #[])), .v (.int .i64 (List.getD acts x.i default).n)] [.ptr 0 0, .v 
    (.string (fstT acts x.i).fr), .v (.int .i64 (List.getD acts x.i default).n)] ∧ LeH [some (.row [.v (.int .i64 mo), .hs 1 0 (List.length x.L)]), some (.arr 7 (List.length (x.L ++ 
    x.j)) (lsF Tx.c (x.L ++ x.j)))] [some (.row [.v (.int .i64 mo), .hs 1 0 (List.length x.L)]), some (.arr 7 (List.length (x.L ++ x.j)) (lsF Tx.c (x.L ++ x.j)))])) (.br (!decide 
    ((↑(List.length x.L) : Int) - (↑(List.length (keepL (pastB (fstT acts x.i).fr (List.getD acts x.i default).n) x.L)) : Int) = IntKind.wrap IntKind.i64 ((↑(List.length x.L) : Int) - 
    (↑(List.length (keepL (pastB (fstT acts x.i).fr (List.getD acts x.i default).n) x.L)) : Int)))) (.leaf (.mk .ret [.sl 3 (List.length acts) (lsF Ap.c acts), .ptr 0 0, .ptr 2 0, .v 
    (.int .i64 (↑x.i : Int)), .v (.bool false)] [some (.row [.v (.int .i64 mo), .hs 1 0 (List.length (keepL (pastB (fstT acts x.i).fr (List.getD acts x.i default).n) x.L))]), some 
    (.arr 7 (List.length (keepL (pastB (fstT acts x.i).fr (List.getD acts x.i default).n) x.L ++ junkL (pastB (fstT acts x.i).fr (List.getD acts x.i default).n) x.L x.j)) (lsF Tx.c 
    (keepL (pastB (fstT acts x.i).fr (List.getD acts x.i default).n) x.L ++ junkL (pastB (fstT acts x.i).fr (List.getD acts x.i default).n) x.L x.j))), some (.row [.v (.int .i64 mo), 
    .hs 3 0 (List.length (keepL (pastB (fstT acts x.i).fr (List.getD acts x.i default).n) x.L))]), some (.arr 7 (List.length (keepL (pastB (fstT acts x.i).fr (List.getD acts x.i 
    default).n) x.L)) (lsF Tx.c (keepL (pastB (fstT acts x.i).fr (List.getD acts x.i default).n) x.L)))])) (.chk (cl (LeL [.ptr 0 0] [.ptr 0 0] ∧ LeH [some (.row [.v (.int .i64 mo), 
    .hs 1 0 (List.length (keepL (pastB (fstT acts x.i).fr (List.getD acts x.i default).n) x.L))]), some (.arr 7 (List.length (keepL (pastB (fstT acts x.i).fr (List.getD acts x.i 
    default).n) x.L ++ junkL (pastB (fstT acts x.i).fr (List.getD acts x.i default).n) x.L x.j)) (lsF Tx.c (keepL (pastB (fstT acts x.i).fr (List.getD acts x.i default).n) x.L ++ junkL 
    (pastB (fstT acts x.i).fr (List.getD acts x.i default).n) x.L x.j)))] [some (.row [.v (.int .i64 mo), .hs 1 0 (List.length (keepL (pastB (fstT acts x.i).fr (List.getD acts x.i 
    default).n) x.L))]), some (.arr 7 (List.length (keepL (pastB (fstT acts x.i).fr (List.getD acts x.i default).n) x.L ++ junkL (pastB (fstT acts x.i).fr (List.getD acts x.i 
    default).n) x.L x.j)) (lsF Tx.c (keepL (pastB (fstT acts x.i).fr (List.getD acts x.i default).n) x.L ++ junkL (pastB (fstT acts x.i).fr (List.getD acts x.i default).n) x.L 
    x.j)))])) (.chk (cl (smP (List.length (keepL (pastB (fstT acts x.i).fr (List.getD acts x.i default).n) x.L)) (List.length (keepL (pastB (fstT acts x.i).fr (List.getD acts x.i 
    default).n) x.L)) (lsF Tx.c (keepL (pastB (fstT acts x.i).fr (List.getD acts x.i default).n) x.L)) (List.length (keepL (pastB (fstT acts x.i).fr (List.getD acts x.i default).n) 
    x.L)) (List.length (keepL (pastB (fstT acts x.i).fr (List.getD acts x.i default).n) x.L)) (lsF Tx.c (keepL (pastB (fstT acts x.i).fr (List.getD acts x.i default).n) x.L)) ∧ LeL 
    [.hs 0 0 (List.length (keepL (pastB (fstT acts x.i).fr (List.getD acts x.i default).n) x.L)), .hs 1 0 (List.length (keepL (pastB (fstT acts x.i).fr (List.getD acts x.i default).n) 
    x.L))] [.hs 0 0 (List.length (keepL (pastB (fstT acts x.i).fr (List.getD acts x.i default).n) x.L)), .hs 1 0 (List.length (keepL (pastB (fstT acts x.i).fr (List.getD acts x.i 
    default).n) x.L))] ∧ LeH [some (.arr 7 (List.length (keepL (pastB (fstT acts x.i).fr (List.getD acts x.i default).n) x.L)) (lsF Tx.c (keepL (pastB (fstT acts x.i).fr (List.getD 
    acts x.i default).n) x.L))), some (.arr 7 (List.length (keepL (pastB (fstT acts x.i).fr (List.getD acts x.i default).n) x.L)) (lsF Tx.c (keepL (pastB (fstT acts x.i).fr (List.getD 
    acts x.i default).n) x.L)))] [some (.arr 7 (List.length (keepL (pastB (fstT acts x.i).fr (List.getD acts x.i default).n) x.L)) (lsF Tx.c (keepL (pastB (fstT acts x.i).fr (List.getD 
    acts x.i default).n) x.L))), some (.arr 7 (List.length (keepL (pastB (fstT acts x.i).fr (List.getD acts x.i default).n) x.L)) (lsF Tx.c (keepL (pastB (fstT acts x.i).fr (List.getD 
    acts x.i default).n) x.L)))])) (.br (!decide ((↑(List.length (keepL (pastB (fstT acts x.i).fr (List.getD acts x.i default).n) x.L)) : Int) = (↑(List.length (keepL (pastB (fstT acts 
    x.i).fr (List.getD acts x.i default).n) x.L)) : Int))) (.leaf (.mk .ret [.sl 3 (List.length acts) (lsF Ap.c acts), .ptr 0 0, .ptr 2 0, .v (.int .i64 (↑x.i : Int)), .v (.bool 
    false)] [some (.row [.v (.int .i64 mo), .hs 1 0 (List.length (keepL (pastB (fstT acts x.i).fr (List.getD acts x.i default).n) x.L))]), some (.arr 7 (List.length (keepL (pastB (fstT 
    acts x.i).fr (List.getD acts x.i default).n) x.L ++ junkL (pastB (fstT acts x.i).fr (List.getD acts x.i default).n) x.L x.j)) (lsF Tx.c (keepL (pastB (fstT acts x.i).fr (List.getD 
    acts x.i default).n) x.L ++ junkL (pastB (fstT acts x.i).fr (List.getD acts x.i default).n) x.L x.j))), some (.row [.v (.int .i64 mo), .hs 3 0 (List.length (keepL (pastB (fstT acts 
    x.i).fr (List.getD acts x.i default).n) x.L))]), some (.arr 7 (List.length (keepL (pastB (fstT acts x.i).fr (List.getD acts x.i default).n) x.L)) (lsF Tx.c (keepL (pastB (fstT acts 
    x.i).fr (List.getD acts x.i default).n) x.L)))])) (.leaf (.mk .normal [.sl 3 (List.length acts) (lsF Ap.c acts), .ptr 0 0, .ptr 2 0, .v (.int .i64 (IntKind.wrap IntKind.i64 ((↑x.i 
    : Int) + (1 : Int)))), .any] [some (.row [.v (.int .i64 mo), .hs 1 0 (List.length (keepL (pastB (fstT acts x.i).fr (List.getD acts x.i default).n) x.L))]), some (.arr 7 
    (List.length (keepL (pastB (fstT acts x.i).fr (List.getD acts x.i default).n) x.L ++ junkL (pastB (fstT acts x.i).fr (List.getD acts x.i default).n) x.L x.j)) (lsF Tx.c (keepL 
    (pastB (fstT acts x.i).fr (List.getD acts x.i default).n) x.L ++ junkL (pastB (fstT acts x.i).fr (List.getD acts x.i default).n) x.L x.j))), some (.row [.v (.int .i64 mo), .hs 3 0 
    (List.length (keepL (pastB (fstT acts x.i).fr (List.getD acts x.i default).n) x.L))]), some (.arr 7 (List.length (keepL (pastB (fstT acts x.i).fr (List.getD acts x.i default).n) 
    x.L)) (lsF Tx.c (keepL (pastB (fstT acts x.i).fr (List.getD acts x.i default).n) x.L)))])))))))) (.chk (cl (LeL [.ptr 0 0] [.ptr 0 0] ∧ LeH [some (.row [.v (.int .i64 mo), .hs 1 0 
    (List.length x.L)]), some (.arr 7 (List.length (x.L ++ x.j)) (lsF Tx.c (x.L ++ x.j)))] [some (.row [.v (.int .i64 mo), .hs 1 0 (List.length (keepL (pastB (fstT acts x.i).fr 
    (List.getD acts x.i default).n) x.L))]), some (.arr 7 (List.length (keepL (pastB (fstT acts x.i).fr (List.getD acts x.i default).n) x.L ++ junkL (pastB (fstT acts x.i).fr 
    (List.getD acts x.i default).n) x.L x.j)) (lsF Tx.c (keepL (pastB (fstT acts x.i).fr (List.getD acts x.i default).n) x.L ++ junkL (pastB (fstT acts x.i).fr (List.getD acts x.i 
    default).n) x.L x.j)))])) (.chk (cl (smP (List.length (keepL (pastB (fstT acts x.i).fr (List.getD acts x.i default).n) x.L)) (List.length (keepL (pastB (fstT acts x.i).fr 
    (List.getD acts x.i default).n) x.L)) (lsF Tx.c (keepL (pastB (fstT acts x.i).fr (List.getD acts x.i default).n) x.L)) (List.length (x.L ++ x.j')) (List.length x.L) (lsF Tx.c (x.L 
    ++ x.j')) ∧ LeL [.hs 0 0 (List.length (keepL (pastB (fstT acts x.i).fr (List.getD acts x.i default).n) x.L)), .hs 1 0 (List.length x.L)] [.hs 0 0 (List.length (keepL (pastB (fstT 
    acts x.i).fr (List.getD acts x.i default).n) x.L)), .hs 1 0 (List.length x.L)] ∧ LeH [some (.arr 7 (List.length (keepL (pastB (fstT acts x.i).fr (List.getD acts x.i default).n) 
    x.L)) (lsF Tx.c (keepL (pastB (fstT acts x.i).fr (List.getD acts x.i default).n) x.L))), some (.arr 7 (List.length (x.L ++ x.j')) (lsF Tx.c (x.L ++ x.j')))] [some (.arr 7 
    (List.length (keepL (pastB (fstT acts x.i).fr (List.getD acts x.i default).n) x.L)) (lsF Tx.c (keepL (pastB (fstT acts x.i).fr (List.getD acts x.i default).n) x.L))), some (.arr 7 
    (List.length (x.L ++ x.j')) (lsF Tx.c (x.L ++ x.j')))])) (.br (!decide ((↑(List.length (keepL (pastB (fstT acts x.i).fr (List.getD acts x.i default).n) x.L)) : Int) = 
    (↑(List.length x.L) : Int))) (.leaf (.mk .ret [.sl 3 (List.length acts) (lsF Ap.c acts), .ptr 0 0, .ptr 2 0, .v (.int .i64 (↑x.i : Int)), .v (.bool false)] [some (.row [.v (.int 
    .i64 mo), .hs 1 0 (List.length (keepL (pastB (fstT acts x.i).fr (List.getD acts x.i default).n) x.L))]), some (.arr 7 (List.length (keepL (pastB (fstT acts x.i).fr (List.getD acts 
    x.i default).n) x.L ++ junkL (pastB (fstT acts x.i).fr (List.getD acts x.i default).n) x.L x.j)) (lsF Tx.c (keepL (pastB (fstT acts x.i).fr (List.getD acts x.i default).n) x.L ++ 
    junkL (pastB (fstT acts x.i).fr (List.getD acts x.i default).n) x.L x.j))), some (.row [.v (.int .i64 mo), .hs 3 0 (List.length x.L)]), some (.arr 7 (List.length (x.L ++ x.j')) 
    (lsF Tx.c (x.L ++ x.j')))])) (.leaf (.mk .normal [.sl 3 (List.length acts) (lsF Ap.c acts), .ptr 0 0, .ptr 2 0, .v (.int .i64 (IntKind.wrap IntKind.i64 ((↑x.i : Int) + (1 : 
    Int)))), .any] [some (.row [.v (.int .i64 mo), .hs 1 0 (List.length (keepL (pastB (fstT acts x.i).fr (List.getD acts x.i default).n) x.L))]), some (.arr 7 (List.length (keepL 
    (pastB (fstT acts x.i).fr (List.getD acts x.i default).n) x.L ++ junkL (pastB (fstT acts x.i).fr (List.getD acts x.i default).n) x.L x.j)) (lsF Tx.c (keepL (pastB (fstT acts 
    x.i).fr (List.getD acts x.i default).n) x.L ++ junkL (pastB (fstT acts x.i).fr (List.getD acts x.i default).n) x.L x.j))), some (.row [.v (.int .i64 mo), .hs 3 0 (List.length 
    x.L)]), some (.arr 7 (List.length (x.L ++ x.j')) (lsF Tx.c (x.L ++ x.j')))]))))))))))))) (.leaf (.mk (.exit 0) [.sl 3 (List.length acts) (lsF Ap.c acts), .ptr 0 0, .ptr 2 0, .v 
    (.int .i64 (↑x.i : Int)), .any] [some (.row [.v (.int .i64 mo), .hs 1 0 (List.length x.L)]), some (.arr 7 (List.length (x.L ++ x.j)) (lsF Tx.c (x.L ++ x.j))), some (.row [.v (.int 
    .i64 mo), .hs 3 0 (List.length x.L)]), some (.arr 7 (List.length (x.L ++ x.j')) (lsF Tx.c (x.L ++ x.j')))])) := by kernel_rfl
end Go.Eng.TA
