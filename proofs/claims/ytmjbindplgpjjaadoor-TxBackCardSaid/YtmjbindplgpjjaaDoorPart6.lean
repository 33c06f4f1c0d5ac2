/- Texts that TB4r needs: NR12 and what follows it. -/
import Derived.Test.YtmjbindplgpjjaaDoorPart5
set_option linter.unnecessarySimpa false
set_option linter.unusedSectionVars false
set_option linter.unusedSimpArgs false
set_option linter.unusedVariables false
namespace Go.Eng.TA
open Go Go.Eng Go.Eng.M Go.Lib Go.Proofs
noncomputable abbrev lpPr : Code := loopOf (bodyOf Tryd.f89) 0
def SPr (v : Nat) (s : ByteArray) : List AV × Heap := ([.v (.int .i64 (v : Int)), .v (.string s), .any], [])
def OPr (s : ByteArray) : Out := ⟨.ret, [.any, .any, .v (.string s)], []⟩
theorem rPr (v : Nat) (s : ByteArray) : roundE (P := Tryd.prog) (Γ := Γm) [] Lno false 0 0 lpPr [0, 3, 2] [] 25 (SPr v s).1 (SPr v s).2 =
  Tree.chk true (.chk (allBytes (1 : Nat) fun j => chain [.v (.int IntKind.u8 (0 : Int))] (0 : Nat) [[.v (.int IntKind.u8 (IntKind.wrap IntKind.u8 (IntKind.wrap IntKind.i64 ((48 : Int) + 
    Int.tmod (↑v : Int) (10 : Int)))))]] ((0 : Nat) + j)) (.chk (decide ((1 : Nat) + ByteArray.size s ≤ (9223372036854775807 : Nat))) (.chk true (.br (decide (IntKind.wrap IntKind.i64 
    (Int.tdiv (↑v : Int) (10 : Int)) = (0 : Int))) (.leaf (.mk .ret [.v (.int .i64 (IntKind.wrap IntKind.i64 (Int.tdiv (↑v : Int) (10 : Int)))), .v (.string ((textOf (1 : Nat) fun j => 
    chain [.v (.int IntKind.u8 (0 : Int))] (0 : Nat) [[.v (.int IntKind.u8 (IntKind.wrap IntKind.u8 (IntKind.wrap IntKind.i64 ((48 : Int) + Int.tmod (↑v : Int) (10 : Int)))))]] ((0 : 
    Nat) + j)) ++ s)), .v (.string ((textOf (1 : Nat) fun j => chain [.v (.int IntKind.u8 (0 : Int))] (0 : Nat) [[.v (.int IntKind.u8 (IntKind.wrap IntKind.u8 (IntKind.wrap IntKind.i64 
    ((48 : Int) + Int.tmod (↑v : Int) (10 : Int)))))]] ((0 : Nat) + j)) ++ s))] [])) (.leaf (.mk .normal [.v (.int .i64 (IntKind.wrap IntKind.i64 (Int.tdiv (↑v : Int) (10 : Int)))), .v 
    (.string ((textOf (1 : Nat) fun j => chain [.v (.int IntKind.u8 (0 : Int))] (0 : Nat) [[.v (.int IntKind.u8 (IntKind.wrap IntKind.u8 (IntKind.wrap IntKind.i64 ((48 : Int) + 
    Int.tmod (↑v : Int) (10 : Int)))))]] ((0 : Nat) + j)) ++ s)), .any] [])))))) := by kernel_rfl
theorem dgT {v : Nat} : textOf (1 : Nat) (fun j => chain [AV.v (Value.int IntKind.u8 (0 : Int))] (0 : Nat) [[AV.v (Value.int IntKind.u8 (IntKind.wrap IntKind.u8 (IntKind.wrap IntKind.i64 ((48 : Int) + Int.tmod (v : Int) (10 : Int)))))]] ((0 : Nat) + j)) = ⟨⟨[b8 (48 + v % 10)]⟩⟩ := by
  rw [Int.tmod_eq_emod_of_nonneg (by omega)]
  have h1 : IntKind.wrap IntKind.i64 ((48 : Int) + (v : Int) % 10) = (48 : Int) + (v : Int) % 10 := wrap64 (by omega) (by omega)
  have h2 : IntKind.wrap IntKind.u8 ((48 : Int) + (v : Int) % 10) = ((48 + v % 10 : Nat) : Int) := by rw [wrapU8]; omega
  rw [h1, h2]
  rfl
theorem dgA {v : Nat} : allBytes (1 : Nat) (fun j => chain [AV.v (Value.int IntKind.u8 (0 : Int))] (0 : Nat) [[AV.v (Value.int IntKind.u8 (IntKind.wrap IntKind.u8 (IntKind.wrap IntKind.i64 ((48 : Int) + Int.tmod (v : Int) (10 : Int)))))]] ((0 : Nat) + j)) = true := rfl
theorem mk_app (l m : List UInt8) : (⟨⟨l⟩⟩ : ByteArray) ++ ⟨⟨m⟩⟩ = ⟨⟨l ++ m⟩⟩ := by
  apply ByteArray.ext
  rw [ByteArray.data_append]
  simp
theorem loopPr {tgt : List UInt8} (ht : tgt.length ≤ 100) : ∀ x : Nat × List UInt8, (x.1 ≤ 9223372036854775807 ∧ prL x.1 ++ x.2 = tgt) → LoopOK Tryd.prog Γm 0 25 lpPr (LSpec.at [0, 3, 2] [] (SPr x.1 ⟨⟨x.2⟩⟩) (OPr ⟨⟨tgt⟩⟩)) := by
  refine loop_at (S := fun x : Nat × List UInt8 => SPr x.1 ⟨⟨x.2⟩⟩) (O := fun _ => OPr ⟨⟨tgt⟩⟩) (k := 0) (fun x => x.1) fun x hp => .of (noLoops (by kernel_rfl)) (rPr x.1 ⟨⟨x.2⟩⟩) ?_
  obtain ⟨v, t⟩ := x
  obtain ⟨h1, h2⟩ := hp
  dsimp only at h1 h2
  have hl := congrArg List.length h2
  rw [List.length_append] at hl
  have hq : IntKind.wrap IntKind.i64 (Int.tdiv (v : Int) (10 : Int)) = ((v / 10 : Nat) : Int) := by
    rw [Int.tdiv_eq_ediv_of_nonneg (by omega), wrap64 (by omega) (by omega)]; omega
  have hz : ByteArray.size ⟨⟨t⟩⟩ = t.length := rfl
  simp only [dgA, dgT, hq, mk_app, hz, List.cons_append, List.nil_append]
  rcases Nat.lt_or_ge v 10 with c | c
  · rw [prL_small c] at h2
    have e : b8 (48 + v % 10) :: t = tgt := by rw [show v % 10 = v by omega]; exact h2
    rw [e]
    repeat' (first | refine wC (by first | omega | (simp only [W1, cond_true, cond_false]; first | done | omega)) ?_ | refine wT (by first | omega | (simp only [W1, cond_true, cond_false]; first | done | omega)) ?_ | refine wF (by intro _h; first | omega | (simp only [W1, cond_true, cond_false] at _h; first | done | omega)) ?_ | (refine wS ?_ ?_ <;> intro _h <;> simp only [W1, cond_true, cond_false] at _h))
    all_goals simp only [W1, W2, owesN, owesX, owesR, cond_true, cond_false]
    repeat' (first | apply And.intro | intro _hc)
    all_goals first | exact rfl | exact AV.le_refl _ | exact AV.le_any _ | exact OLe.refl _ | exact OLe.none _ | exact LeH.refl _ | exact LeL.refl _ | exact AV.le.bs _ | exact AV.le.sb _ | omega | contradiction
  · rw [prL_step c, List.append_assoc] at h2
    repeat' (first | refine wC (by first | omega | (simp only [W1, cond_true, cond_false]; first | done | omega)) ?_ | refine wT (by first | omega | (simp only [W1, cond_true, cond_false]; first | done | omega)) ?_ | refine wF (by intro _h; first | omega | (simp only [W1, cond_true, cond_false] at _h; first | done | omega)) ?_ | (refine wS ?_ ?_ <;> intro _h <;> simp only [W1, cond_true, cond_false] at _h))
    all_goals simp only [W1, W2, owesN, owesX, owesR, cond_true, cond_false]
    repeat' (first | apply And.intro | intro _hc)
    all_goals first | exact ⟨(v / 10, b8 (48 + v % 10) :: t), LeL.refl _, LeH.refl _, ⟨by dsimp only; omega, h2⟩, by dsimp only; omega⟩ | exact AV.le_refl _ | exact AV.le_any _ | exact OLe.refl _ | exact OLe.none _ | exact LeH.refl _ | exact LeL.refl _ | exact AV.le.bs _ | exact AV.le.sb _ | omega | contradiction
theorem runPo (v : Nat) (T : ByteArray) : bodyE (P := Tryd.prog) (Γ := Γm) [] (fun _ => LSpec.at [0, 3, 2] [] (SPr v ⟨⟨[]⟩⟩) (OPr T)) false 25 [.tmp 2] (bodyOf Tryd.f89) [.v (.int .i64 (v : Int))] [] =
  Tree.br (decide ((↑v : Int) = (-9223372036854775808 : Int))) (.leaf (Ans.mk (.v (.string (ByteArray.mk #[(45 : UInt8), (57 : UInt8), (50 : UInt8), (50 : UInt8), (51 : UInt8), (51 : UInt8), 
    (55 : UInt8), (50 : UInt8), (48 : UInt8), (51 : UInt8), (54 : UInt8), (56 : UInt8), (53 : UInt8), (52 : UInt8), (55 : UInt8), (55 : UInt8), (53 : UInt8), (56 : UInt8), (48 : 
    UInt8), (56 : UInt8)]))) [])) (.br (decide ((↑v : Int) < (0 : Int))) .fail (.chk (cl (LeL [.v (.int .i64 (↑v : Int)), .v (.string (ByteArray.mk #[])), .v (.string (ByteArray.mk 
    #[]))] [.v (.int .i64 (↑v : Int)), .v (.string (ByteArray.mk (Array.mk []))), .any] ∧ LeH [] [])) (.leaf (Ans.mk (.v (.string T)) [])))) := by kernel_rfl
theorem ansPo {v : Nat} (h : v ≤ 9223372036854775807) : Answers Tryd.prog Γm 89 [.v (.int .i64 (v : Int))] [] (.v (.string (prS (v : Int)))) [] [] := by
  have hlen : (prL v).length ≤ 19 := prL_len 18 _ (by omega)
  have hl := loopPr (tgt := prL v) (by omega) (v, []) ⟨h, List.append_nil _⟩
  have he : prS (v : Int) = ⟨⟨prL v⟩⟩ := by unfold prS prU; rw [if_neg (by omega), Int.natAbs_natCast]
  rw [he]
  refine answers (fn := Tryd.f89) (c := bodyOf Tryd.f89) (ntmps := 25) (results := [.tmp 2]) [] (fun _ => LSpec.at [0, 3, 2] [] (SPr v ⟨⟨[]⟩⟩) (OPr ⟨⟨prL v⟩⟩)) false Tryd.func89 (by kernel_rfl) (by kernel_rfl) (by kernel_rfl) (by kernel_rfl) (by simp) rfl (oneLoop (b := lpPr) (by kernel_rfl) hl) <| Meets.of (runPo v ⟨⟨prL v⟩⟩) <| ?_
  repeat' (first | refine wC (by first | omega | (simp only [W1, cond_true, cond_false]; first | done | omega)) ?_ | refine wT (by first | omega | (simp only [W1, cond_true, cond_false]; first | done | omega)) ?_ | refine wF (by intro _h; first | omega | (simp only [W1, cond_true, cond_false] at _h; first | done | omega)) ?_ | (refine wS ?_ ?_ <;> intro _h <;> simp only [W1, cond_true, cond_false] at _h))
  all_goals simp only [W1, W2, owesN, owesX, owesR, cond_true, cond_false]
  repeat' (first | apply And.intro | intro _hc)
  all_goals first | exact AV.le_refl _ | exact AV.le_any _ | exact OLe.refl _ | exact OLe.none _ | exact LeH.refl _ | exact LeL.refl _ | exact AV.le.bs _ | exact AV.le.sb _ | omega | contradiction
theorem runPa (v : Int) (k : Nat) (h : Answers Tryd.prog Γm 89 [.v (.int .i64 (k : Int))] [] (.v (.string (prS (k : Int)))) [] []) : bodyE (P := Tryd.prog) (Γ := Γm) [CT.at 89 h] Lno false 25 [.tmp 2] (bodyOf Tryd.f89) [.v (.int .i64 v)] [] =
  Tree.br (decide (v = (-9223372036854775808 : Int))) (.leaf (Ans.mk (.v (.string (ByteArray.mk #[(45 : UInt8), (57 : UInt8), (50 : UInt8), (50 : UInt8), (51 : UInt8), (51 : UInt8), (55 : 
    UInt8), (50 : UInt8), (48 : UInt8), (51 : UInt8), (54 : UInt8), (56 : UInt8), (53 : UInt8), (52 : UInt8), (55 : UInt8), (55 : UInt8), (53 : UInt8), (56 : UInt8), (48 : UInt8), (56 
    : UInt8)]))) [])) (.br (decide (v < (0 : Int))) (.chk (cl (LeL [.v (.int .i64 (IntKind.wrap IntKind.i64 ((0 : Int) - v)))] [.v (.int .i64 (↑k : Int))] ∧ LeH [] []) && decide ((1 : 
    Nat) + ByteArray.size (prS (↑k : Int)) ≤ (9223372036854775807 : Nat))) (.leaf (Ans.mk (.v (.string (ByteArray.mk #[(45 : UInt8)] ++ prS (↑k : Int)))) []))) .fail) := by kernel_rfl
theorem ansPrR {v : Int} (h : inI64 v) : Answers Tryd.prog Γm 89 [.v (.int .i64 v)] [] (.v (.string (prS v))) [] [] := by
  obtain ⟨h1, h2⟩ := h
  rcases Int.lt_or_le v 0 with c | c
  · by_cases hm : v = -9223372036854775808
    · subst hm
      have h0 := ansPo (v := 0) (by omega)
      refine answers (fn := Tryd.f89) (c := bodyOf Tryd.f89) (ntmps := 25) (results := [.tmp 2]) [CT.at 89 h0] (Lno) false Tryd.func89 (by kernel_rfl) (by kernel_rfl) (by kernel_rfl) (by kernel_rfl) (by simp) rfl (failOK fun _ _ _ => rfl) <| Meets.of (runPa (-9223372036854775808) 0 h0) <| ?_
      have e : prS (-9223372036854775808) = ⟨#[45, 57, 50, 50, 51, 51, 55, 50, 48, 51, 54, 56, 53, 52, 55, 55, 53, 56, 48, 56]⟩ := by
        unfold prS prU
        rw [if_pos (by decide)]
        have : prL 9223372036854775808 = [57, 50, 50, 51, 51, 55, 50, 48, 51, 54, 56, 53, 52, 55, 55, 53, 56, 48, 56] := by
          simp only [prL, Nat.reduceDiv, Nat.reduceMod, Nat.reduceAdd, Nat.reduceLT, if_true, if_false, ↓reduceIte, List.cons_append, List.nil_append]
          rfl
        exact congrArg (fun l => (⟨⟨45 :: l⟩⟩ : ByteArray)) this
      rw [e]
      repeat' (first | refine wC (by first | omega | (simp only [W1, cond_true, cond_false]; first | done | omega)) ?_ | refine wT (by first | omega | (simp only [W1, cond_true, cond_false]; first | done | omega)) ?_ | refine wF (by intro _h; first | omega | (simp only [W1, cond_true, cond_false] at _h; first | done | omega)) ?_ | (refine wS ?_ ?_ <;> intro _h <;> simp only [W1, cond_true, cond_false] at _h))
      all_goals simp only [W1, W2, owesN, owesX, owesR, cond_true, cond_false]
      repeat' (first | apply And.intro | intro _hc)
      all_goals first | exact AV.le_refl _ | exact AV.le_any _ | exact OLe.refl _ | exact OLe.none _ | exact LeH.refl _ | exact LeL.refl _ | exact AV.le.bs _ | exact AV.le.sb _ | omega | contradiction
    · have h0 := ansPo (v := v.natAbs) (by omega)
      refine answers (fn := Tryd.f89) (c := bodyOf Tryd.f89) (ntmps := 25) (results := [.tmp 2]) [CT.at 89 h0] (Lno) false Tryd.func89 (by kernel_rfl) (by kernel_rfl) (by kernel_rfl) (by kernel_rfl) (by simp) rfl (failOK fun _ _ _ => rfl) <| Meets.of (runPa v v.natAbs h0) <| ?_
      have w : IntKind.wrap IntKind.i64 ((0 : Int) - v) = ((v.natAbs : Nat) : Int) := by rw [wrap64 (by omega) (by omega)]; omega
      have e : (⟨#[45]⟩ : ByteArray) ++ prS ((v.natAbs : Nat) : Int) = prS v := by
        unfold prS prU
        rw [if_neg (by omega), if_pos c, Int.natAbs_natCast]
        exact mk_app [45] _
      have hlen : (prL v.natAbs).length ≤ 19 := prL_len 18 _ (by omega)
      have hz : (prS ((v.natAbs : Nat) : Int)).size ≤ 19 := by
        unfold prS prU; rw [if_neg (by omega), Int.natAbs_natCast]; exact hlen
      repeat' (first | refine wC (by first | omega | (simp only [W1, cond_true, cond_false, w, e]; first | done | omega)) ?_ | refine wT (by first | omega | (simp only [W1, cond_true, cond_false, w, e]; first | done | omega)) ?_ | refine wF (by intro _h; first | omega | (simp only [W1, cond_true, cond_false, w, e] at _h; first | done | omega)) ?_ | (refine wS ?_ ?_ <;> intro _h <;> simp only [W1, cond_true, cond_false, w, e] at _h))
      all_goals simp only [W1, W2, owesN, owesX, owesR, cond_true, cond_false, w, e]
      repeat' (first | apply And.intro | intro _hc)
      all_goals first | exact AV.le_refl _ | exact AV.le_any _ | exact OLe.refl _ | exact OLe.none _ | exact LeH.refl _ | exact LeL.refl _ | exact AV.le.bs _ | exact AV.le.sb _ | omega | contradiction
  · obtain ⟨k, rfl⟩ := Int.eq_ofNat_of_zero_le c
    exact ansPo (by omega)
noncomputable def kPrR : CT Tryd.prog Γm := CT.oI 89 .i64 Tryd.func89 (by kernel_rfl) (by kernel_rfl) (fun v => inI64 v) (fun v => .v (.string (prS v))) (fun _ => []) (fun v h => ansPrR h)
end Go.Eng.TA

namespace Go.Eng.TA
open Go Go.Eng Go.Eng.M Go.Lib Go.Proofs
theorem prL_ind {P : Nat → Prop} (h1 : ∀ n, n < 10 → P n) (h2 : ∀ n, 10 ≤ n → P (n / 10) → P n) (n : Nat) : P n := by
  induction n using Nat.strongRecOn with
  | ind n ih =>
    rcases Nat.lt_or_ge n 10 with h | h
    · exact h1 n h
    · exact h2 n h (ih _ (by omega))
theorem prL_dL (n : Nat) : dL (prL n) := by
  refine prL_ind (P := fun n => dL (prL n)) (fun n h => ?_) (fun n h ih => ?_) n
  · rw [prL_small h]
    intro x hx
    rw [List.mem_singleton.1 hx, b8_nat (by omega)]; omega
  · rw [prL_step h]
    intro x hx
    rcases List.mem_append.1 hx with hx | hx
    · exact ih x hx
    · rw [List.mem_singleton.1 hx, b8_nat (by omega)]; omega
theorem prL_vL (n : Nat) : vL (prL n) 0 = n := by
  refine prL_ind (P := fun n => vL (prL n) 0 = n) (fun n h => ?_) (fun n h ih => ?_) n
  · rw [prL_small h]
    show 10 * 0 + ((b8 (48 + n)).toNat - 48) = n
    rw [b8_nat (by omega)]; omega
  · rw [prL_step h, vL_app, ih, b8_nat (by omega)]; omega
theorem prL_head (n : Nat) : 1 ≤ n → 49 ≤ bN ⟨⟨prL n⟩⟩ 0 := by
  refine prL_ind (P := fun n => 1 ≤ n → 49 ≤ bN ⟨⟨prL n⟩⟩ 0) (fun n h h1 => ?_) (fun n h ih h1 => ?_) n
  · rw [prL_small h, bN_cons0, b8_nat (by omega)]; omega
  · have := ih (by omega)
    have hp := prL_pos (n / 10)
    rw [prL_step h]
    have e : bN ⟨⟨prL (n / 10) ++ [b8 (48 + n % 10)]⟩⟩ 0 = bN ⟨⟨prL (n / 10)⟩⟩ 0 := by
      rw [bN_list _ 0 (by rw [List.length_append]; omega), bN_list _ 0 (by omega), List.getElem_append_left (by omega)]
    rw [e]; exact this
theorem dL_allD {l : List UInt8} (h : dL l) : allD ⟨⟨l⟩⟩ := fun i hi => by
  rw [bN_list l i hi]
  exact h _ (List.getElem_mem _)
theorem pr_neg {v : Int} (h : v < 0) : ngB (prS v) = true ∧ bdS (prS v) = ⟨⟨prL v.natAbs⟩⟩ := by
  have e : prS v = ⟨⟨45 :: prL v.natAbs⟩⟩ := by unfold prS prU; rw [if_pos h]
  have hz : (prS v).size = (prL v.natAbs).length + 1 := by rw [e]; rfl
  have h1 : ngB (prS v) = true := by
    unfold ngB
    rw [decide_eq_true (by omega), decide_eq_true (show bN (prS v) 0 = 45 by rw [e]; rfl)]; rfl
  have hlo : loS (prS v) = 1 := by unfold loS; rw [if_pos h1]
  have hb : (bdS (prS v)).size = (prL v.natAbs).length := by rw [bd_size, hlo, hz]; omega
  refine ⟨h1, bN_eq hb fun j hj => ?_⟩
  rw [bd_at hj, hlo, e, Nat.add_comm, bN_consS]
theorem pr_pos {v : Int} (h : 0 ≤ v) : ngB (prS v) = false ∧ bdS (prS v) = ⟨⟨prL v.natAbs⟩⟩ := by
  have e : prS v = ⟨⟨prL v.natAbs⟩⟩ := by unfold prS prU; rw [if_neg (by omega)]
  have hp := prL_pos v.natAbs
  have hd := dL_allD (prL_dL v.natAbs) 0 hp
  have h1 : ngB (prS v) = false := by
    unfold ngB
    rw [decide_eq_false (show ¬ bN (prS v) 0 = 45 by rw [e]; unfold isD at hd; omega), Bool.and_false]
  exact ⟨h1, by rw [bd_pos h1, e]⟩
theorem pr_read {v : Int} (h : inI64 v) : fmB (prS v) = true ∧ okV (prS v) = true ∧ sgV (ngB (prS v)) (vS (prS v)) = v := by
  obtain ⟨i1, i2⟩ := h
  have hp := prL_pos v.natAbs
  have hv : vN ⟨⟨prL v.natAbs⟩⟩ (prL v.natAbs).length = v.natAbs := by
    have := vN_size ⟨⟨prL v.natAbs⟩⟩
    rw [show (⟨⟨prL v.natAbs⟩⟩ : ByteArray).data.toList = prL v.natAbs from rfl, prL_vL] at this
    exact this
  rcases Int.lt_or_le v 0 with c | c
  · obtain ⟨h1, h2⟩ := pr_neg c
    have hh := prL_head v.natAbs (by omega)
    have hV : vS (prS v) = v.natAbs := by unfold vS; rw [h2]; exact hv
    refine ⟨cl_iff.2 ⟨aD_all.2 (by rw [h2]; exact dL_allD (prL_dL _)), by rw [h2]; exact hp, .inl (by rw [h2]; omega)⟩, ?_, ?_⟩
    · unfold okV; rw [hV, h1]; exact decide_eq_true (by rw [if_pos rfl]; omega)
    · rw [hV, h1]; unfold sgV; rw [if_pos rfl]; omega
  · obtain ⟨h1, h2⟩ := pr_pos c
    have hV : vS (prS v) = v.natAbs := by unfold vS; rw [h2]; exact hv
    refine ⟨cl_iff.2 ⟨aD_all.2 (by rw [h2]; exact dL_allD (prL_dL _)), by rw [h2]; exact hp, ?_⟩, ?_, ?_⟩
    · rw [h2]
      by_cases hz : v = 0
      · subst hz
        exact .inr ⟨by rw [show (0 : Int).natAbs = 0 from rfl, prL_small (by omega)]; rfl, h1⟩
      · have := prL_head v.natAbs (by omega)
        exact .inl (by omega)
    · unfold okV; rw [hV, h1]; exact decide_eq_true (by rw [if_neg Bool.false_ne_true]; omega)
    · rw [hV, h1]; unfold sgV; rw [if_neg Bool.false_ne_true]; omega
theorem pr_rd {v lo hi : Int} (h : inI64 v) (h1 : lo ≤ v) (h2 : v ≤ hi) : rdN (prS v) lo hi = v ∧ rdE (prS v) lo hi = 0 := by
  obtain ⟨a, b, c⟩ := pr_read h
  have hi' : inV (prS v) lo hi = true := by unfold inV; rw [b, c, decide_eq_true h1, decide_eq_true h2]; rfl
  unfold rdN rdE
  rw [a, hi', c]
  exact ⟨rfl, rfl⟩
theorem pr_size {v : Int} (h : inI64 v) : (prS v).size ≤ 20 := by
  obtain ⟨i1, i2⟩ := h
  have := prL_len 18 v.natAbs (by omega)
  unfold prS prU
  split
  · show (45 :: prL v.natAbs).length ≤ 20
    rw [List.length_cons]; omega
  · show (prL v.natAbs).length ≤ 20
    omega
end Go.Eng.TA

namespace Go.Eng.TA
open Go Go.Eng Go.Eng.M Go.Lib Go.Proofs
def spF (s : ByteArray) : Nat → Nat → Nat
  | 0, p => p
  | k + 1, p => if bN s p = 32 then p else spF s k (p + 1)
def spA (s : ByteArray) (p : Nat) : Nat := spF s (s.size - p) p
theorem sp_end {s : ByteArray} {p : Nat} (h : s.size ≤ p) : spA s p = p := by
  unfold spA; rw [show s.size - p = 0 by omega]; rfl
theorem sp_here {s : ByteArray} {p : Nat} (h : p < s.size) (hb : bN s p = 32) : spA s p = p := by
  unfold spA; rw [show s.size - p = (s.size - (p + 1)) + 1 by omega, spF, if_pos hb]
theorem sp_next {s : ByteArray} {p : Nat} (h : p < s.size) (hb : ¬ bN s p = 32) : spA s p = spA s (p + 1) := by
  unfold spA; rw [show s.size - p = (s.size - (p + 1)) + 1 by omega, spF, if_neg hb]
theorem sp_ge {s : ByteArray} : ∀ (k p : Nat), p ≤ spF s k p ∧ spF s k p ≤ p + k := by
  intro k
  induction k with
  | zero => intro p; exact ⟨Nat.le_refl _, Nat.le_refl _⟩
  | succ k ih =>
    intro p
    rw [spF]
    split
    · omega
    · have := ih (p + 1); omega
theorem sp_le {s : ByteArray} {p : Nat} (h : p ≤ s.size) : p ≤ spA s p ∧ spA s p ≤ s.size := by
  have := sp_ge (s := s) (s.size - p) p
  unfold spA; omega
theorem sp_rune {s : ByteArray} {p : Nat} (h : p < s.size) (hc : (Utf8.decode s p).1 ≠ 32) : spA s p = spA s (p + (Utf8.decode s p).2) := by
  have hne : ¬ bN s p = 32 := fun e => hc (by rw [dec_asc (by omega), e])
  have h1 : ∀ j, 1 ≤ j → j < (Utf8.decode s p).2 → ¬ bN s (p + j) = 32 ∧ p + j < s.size := by
    have hle := dec_le h
    intro j a b
    refine ⟨?_, by omega⟩
    rw [decode_bN] at b
    rcases shapeN (s.size - p) (bN s p) (bN s (p + 1)) (bN s (p + 2)) (bN s (p + 3)) with ⟨_, e⟩ | ⟨_, _, k1, _, e⟩ | ⟨_, _, k1, k2, _, _, e⟩ | ⟨_, _, k1, k2, k3, _, _, e⟩ | ⟨e, _⟩ <;> rw [e] at b <;> dsimp only at b
    · omega
    · obtain rfl : j = 1 := by omega
      omega
    · obtain rfl | rfl : j = 1 ∨ j = 2 := by omega
      · omega
      · omega
    · obtain rfl | rfl | rfl : j = 1 ∨ j = 2 ∨ j = 3 := by omega
      · omega
      · omega
      · omega
    · omega
  have h2 : ∀ j, 1 ≤ j → j ≤ (Utf8.decode s p).2 → spA s p = spA s (p + j) := by
    intro j
    induction j with
    | zero => intro a; omega
    | succ j ih =>
      intro a b
      rcases Nat.eq_zero_or_pos j with rfl | hj
      · exact sp_next h hne
      · obtain ⟨k1, k2⟩ := h1 j hj (by omega)
        rw [ih hj (by omega), sp_next k2 k1, Nat.add_assoc]
  exact h2 _ (dec_pos s p) (Nat.le_refl _)
noncomputable abbrev lpWd : Code := loopOf (bodyOf Tryd.f92) 0
def SWd (s : ByteArray) (i : Nat) : List AV × Heap := ([.v (.string s), .v (.int .i64 (i : Int)), .any, .any, .any], [])
theorem rWd (s : ByteArray) (i : Nat) : roundE (P := Tryd.prog) (Γ := Γm) [] Lno false 0 0 lpWd [0, 5, 2, 3, 4] [] 23 (SWd s i).1 (SWd s i).2 =
  Tree.br (decide ((↑i : Int) < (↑(ByteArray.size s) : Int))) (.chk (decide ((0 : Int) ≤ (↑i : Int)) && decide ((↑i : Int) < (↑(ByteArray.size s) : Int))) (.br (decide (sbyte s i = (32 : 
    Int))) (.chk (decide ((↑(0 : Nat) : Int) ≤ (↑i : Int)) && decide ((↑i : Int) ≤ (↑(ByteArray.size s) : Int)) && (decide ((0 : Int) ≤ IntKind.wrap IntKind.i64 ((↑i : Int) + (1 : 
    Int))) && decide (IntKind.wrap IntKind.i64 ((↑i : Int) + (1 : Int)) ≤ (↑(ByteArray.size s) : Int)) && decide ((↑(ByteArray.size s) : Int) ≤ (↑(ByteArray.size s) : Int)))) (.leaf 
    (.mk .ret [.v (.string s), .v (.int .i64 (↑i : Int)), .v (.string (ByteArray.extract s (0 : Nat) i)), .v (.string (ByteArray.extract s (Int.toNat (IntKind.wrap IntKind.i64 ((↑i : 
    Int) + (1 : Int)))) (ByteArray.size s))), .v (.bool true)] []))) (.leaf (.mk .normal [.v (.string s), .v (.int .i64 (IntKind.wrap IntKind.i64 ((↑i : Int) + (1 : Int)))), .any, 
    .any, .any] [])))) (.leaf (.mk (.exit 0) [.v (.string s), .v (.int .i64 (↑i : Int)), .any, .any, .any] [])) := by kernel_rfl
def retWd (s : ByteArray) (q : Nat) : Out := ⟨.ret, [.any, .any, .v (.string (s.extract 0 q)), .v (.string (s.extract (q + 1) s.size)), .sb true], []⟩
def endWd : Out := ⟨.exit 0, [.any, .any, .any, .any, .any], []⟩
def OWd (s : ByteArray) : Out := if spA s 0 < s.size then retWd s (spA s 0) else endWd
theorem loopWd {s : ByteArray} (hs : s.size ≤ 1000000000) : ∀ i : Nat, (i ≤ s.size ∧ spA s i = spA s 0) → LoopOK Tryd.prog Γm 0 23 lpWd (LSpec.at [0, 5, 2, 3, 4] [] (SWd s i) (OWd s)) := by
  refine loop_at (S := SWd s) (O := fun _ => OWd s) (k := 0) (fun i => s.size - i) fun i hp => .of (noLoops (by kernel_rfl)) (rWd s i) ?_
  obtain ⟨h1, h2⟩ := hp
  have hb : sbyte s i = (bN s i : Int) := rfl
  simp only [hb]
  rcases Nat.lt_or_ge i s.size with hi | hi
  · by_cases hc : bN s i = 32
    · rw [sp_here hi hc] at h2
      have hO : OWd s = retWd s i := by unfold OWd; rw [← h2, if_pos hi]
      rw [hO]
      repeat' (first | refine wC (by first | omega | (simp only [W1, cond_true, cond_false, wrapUpN (show i ≤ 10000000000 by omega)]; first | done | omega)) ?_ | refine wT (by first | omega | (simp only [W1, cond_true, cond_false, wrapUpN (show i ≤ 10000000000 by omega)]; first | done | omega)) ?_ | refine wF (by intro _h; first | omega | (simp only [W1, cond_true, cond_false, wrapUpN (show i ≤ 10000000000 by omega)] at _h; first | done | omega)) ?_ | (refine wS ?_ ?_ <;> intro _h <;> simp only [W1, cond_true, cond_false, wrapUpN (show i ≤ 10000000000 by omega)] at _h))
      all_goals simp only [W1, W2, owesN, owesX, owesR, cond_true, cond_false, wrapUpN (show i ≤ 10000000000 by omega)]
      repeat' (first | apply And.intro | intro _hc)
      all_goals first | exact rfl | exact AV.le_refl _ | exact AV.le_any _ | exact OLe.refl _ | exact OLe.none _ | exact LeH.refl _ | exact LeL.refl _ | exact AV.le.bs _ | exact AV.le.sb _ | omega | contradiction
    · rw [sp_next hi hc] at h2
      repeat' (first | refine wC (by first | omega | (simp only [W1, cond_true, cond_false, wrapUpN (show i ≤ 10000000000 by omega)]; first | done | omega)) ?_ | refine wT (by first | omega | (simp only [W1, cond_true, cond_false, wrapUpN (show i ≤ 10000000000 by omega)]; first | done | omega)) ?_ | refine wF (by intro _h; first | omega | (simp only [W1, cond_true, cond_false, wrapUpN (show i ≤ 10000000000 by omega)] at _h; first | done | omega)) ?_ | (refine wS ?_ ?_ <;> intro _h <;> simp only [W1, cond_true, cond_false, wrapUpN (show i ≤ 10000000000 by omega)] at _h))
      all_goals simp only [W1, W2, owesN, owesX, owesR, cond_true, cond_false, wrapUpN (show i ≤ 10000000000 by omega)]
      repeat' (first | apply And.intro | intro _hc)
      all_goals first | exact ⟨i + 1, LeL.refl _, LeH.refl _, ⟨hi, h2⟩, by omega⟩ | exact AV.le_refl _ | exact AV.le_any _ | exact OLe.refl _ | exact OLe.none _ | exact LeH.refl _ | exact LeL.refl _ | exact AV.le.bs _ | exact AV.le.sb _ | omega | contradiction
  · rw [sp_end hi] at h2
    have hO : OWd s = endWd := by unfold OWd; rw [← h2, if_neg (by omega)]
    rw [hO]
    repeat' (first | refine wC (by first | omega | (simp only [W1, cond_true, cond_false]; first | done | omega)) ?_ | refine wT (by first | omega | (simp only [W1, cond_true, cond_false]; first | done | omega)) ?_ | refine wF (by intro _h; first | omega | (simp only [W1, cond_true, cond_false] at _h; first | done | omega)) ?_ | (refine wS ?_ ?_ <;> intro _h <;> simp only [W1, cond_true, cond_false] at _h))
    all_goals simp only [W1, W2, owesN, owesX, owesR, cond_true, cond_false]
    repeat' (first | apply And.intro | intro _hc)
    all_goals first | exact rfl | exact AV.le_refl _ | exact AV.le_any _ | exact OLe.refl _ | exact OLe.none _ | exact LeH.refl _ | exact LeL.refl _ | exact AV.le.bs _ | exact AV.le.sb _ | omega | contradiction
theorem runWdR (s : ByteArray) (q : Nat) : bodyE (P := Tryd.prog) (Γ := Γm) [] (fun _ => LSpec.at [0, 5, 2, 3, 4] [] (SWd s 0) (retWd s q)) false 23 [.tmp 2, .tmp 3, .tmp 4] (bodyOf Tryd.f92) [.v (.string s)] [] =
  Tree.chk (cl (LeL [.v (.string s), .v (.int .i64 (0 : Int)), .v (.string (ByteArray.mk #[])), .v (.string (ByteArray.mk #[])), .v (.bool false)] [.v (.string s), .v (.int .i64 (↑(0 : Nat) : 
    Int)), .any, .any, .any] ∧ LeH [] [])) (.leaf (Ans.mk (.tup [.v (.string (ByteArray.extract s (0 : Nat) q)), .v (.string (ByteArray.extract s (q + (1 : Nat)) (ByteArray.size s))), 
    .sb true]) [])) := by kernel_rfl
theorem runWdE (s : ByteArray) : bodyE (P := Tryd.prog) (Γ := Γm) [] (fun _ => LSpec.at [0, 5, 2, 3, 4] [] (SWd s 0) endWd) false 23 [.tmp 2, .tmp 3, .tmp 4] (bodyOf Tryd.f92) [.v (.string s)] [] =
  Tree.chk (cl (LeL [.v (.string s), .v (.int .i64 (0 : Int)), .v (.string (ByteArray.mk #[])), .v (.string (ByteArray.mk #[])), .v (.bool false)] [.v (.string s), .v (.int .i64 (↑(0 : Nat) : 
    Int)), .any, .any, .any] ∧ LeH [] [])) (.leaf (Ans.mk (.tup [.v (.string (ByteArray.mk #[])), .v (.string (ByteArray.mk #[])), .v (.bool false)]) [])) := by kernel_rfl
def wd1 (s : ByteArray) : ByteArray := if spA s 0 < s.size then s.extract 0 (spA s 0) else ⟨#[]⟩
def wd2 (s : ByteArray) : ByteArray := if spA s 0 < s.size then s.extract (spA s 0 + 1) s.size else ⟨#[]⟩
def wd3 (s : ByteArray) : Bool := decide (spA s 0 < s.size)
theorem ansWd {s : ByteArray} (hs : s.size ≤ 1000000000) : Answers Tryd.prog Γm 92 [.v (.string s)] [] (.tup [.v (.string (wd1 s)), .v (.string (wd2 s)), .sb (wd3 s)]) [] [] := by
  have hl := loopWd hs 0 ⟨Nat.zero_le _, rfl⟩
  unfold OWd at hl
  unfold wd1 wd2 wd3
  by_cases hq : spA s 0 < s.size
  · rw [if_pos hq] at hl
    rw [if_pos hq, if_pos hq, decide_eq_true hq]
    refine answers (fn := Tryd.f92) (c := bodyOf Tryd.f92) (ntmps := 23) (results := [.tmp 2, .tmp 3, .tmp 4]) [] (fun _ => LSpec.at [0, 5, 2, 3, 4] [] (SWd s 0) (retWd s (spA s 0))) false Tryd.func92 (by kernel_rfl) (by kernel_rfl) (by kernel_rfl) (by kernel_rfl) (by simp) rfl (oneLoop (b := lpWd) (by kernel_rfl) hl) <| Meets.of (runWdR s (spA s 0)) <| ?_
    repeat' (first | refine wC (by first | omega | (simp only [W1, cond_true, cond_false]; first | done | omega)) ?_ | refine wT (by first | omega | (simp only [W1, cond_true, cond_false]; first | done | omega)) ?_ | refine wF (by intro _h; first | omega | (simp only [W1, cond_true, cond_false] at _h; first | done | omega)) ?_ | (refine wS ?_ ?_ <;> intro _h <;> simp only [W1, cond_true, cond_false] at _h))
    all_goals simp only [W1, W2, owesN, owesX, owesR, cond_true, cond_false]
    repeat' (first | apply And.intro | intro _hc)
    all_goals first | exact AV.le_refl _ | exact AV.le_any _ | exact OLe.refl _ | exact OLe.none _ | exact LeH.refl _ | exact LeL.refl _ | exact AV.le.bs _ | exact AV.le.sb _ | omega | contradiction
  · rw [if_neg hq] at hl
    rw [if_neg hq, if_neg hq, decide_eq_false hq]
    refine answers (fn := Tryd.f92) (c := bodyOf Tryd.f92) (ntmps := 23) (results := [.tmp 2, .tmp 3, .tmp 4]) [] (fun _ => LSpec.at [0, 5, 2, 3, 4] [] (SWd s 0) endWd) false Tryd.func92 (by kernel_rfl) (by kernel_rfl) (by kernel_rfl) (by kernel_rfl) (by simp) rfl (oneLoop (b := lpWd) (by kernel_rfl) hl) <| Meets.of (runWdE s) <| ?_
    repeat' (first | refine wC (by first | omega | (simp only [W1, cond_true, cond_false]; first | done | omega)) ?_ | refine wT (by first | omega | (simp only [W1, cond_true, cond_false]; first | done | omega)) ?_ | refine wF (by intro _h; first | omega | (simp only [W1, cond_true, cond_false] at _h; first | done | omega)) ?_ | (refine wS ?_ ?_ <;> intro _h <;> simp only [W1, cond_true, cond_false] at _h))
    all_goals simp only [W1, W2, owesN, owesX, owesR, cond_true, cond_false]
    repeat' (first | apply And.intro | intro _hc)
    all_goals first | exact tup3 (leS rfl) (leS rfl) (leB rfl) | exact AV.le_refl _ | exact AV.le_any _ | exact OLe.refl _ | exact OLe.none _ | exact LeH.refl _ | exact LeL.refl _ | exact AV.le.bs _ | exact AV.le.sb _ | omega | contradiction
noncomputable def kWd : CT Tryd.prog Γm := CT.oS 92 Tryd.func92 (by kernel_rfl) (by kernel_rfl) (fun s => s.size ≤ 1000000000) (fun s => .tup [.v (.string (wd1 s)), .v (.string (wd2 s)), .sb (wd3 s)]) (fun _ => []) (fun s h => ansWd h)
structure Wo where
  s : ByteArray
instance : Inhabited Wo := ⟨⟨⟨#[]⟩⟩⟩
def Wo.c (x : Wo) : List AV := [.v (.string x.s)]
def Wo.cells (x : Wo) : List Value := [.string x.s]
theorem Wo.cod : Cod Wo.c 1 := ⟨fun _ => rfl, fun b x y => by cases b <;> rfl⟩
theorem Wo.dec (vs : List Value) (h0 : GoodVs [.str] vs) : ∃ a : Wo, vs = a.cells := by
  obtain ⟨_, _, rfl, ⟨a0, rfl, _⟩, h1⟩ := h0.cons
  obtain rfl := h1.nil
  exact ⟨⟨a0⟩, rfl⟩
abbrev Wo.ks : List Cel := [.str]
noncomputable abbrev lpWs : Code := loopOf (bodyOf Tryd.f90) 0
abbrev lvWs : List Nat := [0, 1, 4, 7, 11, 5, 6]
abbrev nlWs : List (Nat × TypeId) := [(2, 9)]
structure XW where
  p : Nat
  f : Nat
  L : List Wo
def SWs (s : ByteArray) (n : Int) (x : XW) : List AV × Heap := ([.v (.string s), .v (.int .i64 n), .hs 0 0 x.L.length, .v (.int .i64 (x.f : Int)), .its 1, .any, .any], [some (.arr 1 x.L.length (lsF Wo.c x.L)), some (.sit s x.p)])
theorem rWs (s : ByteArray) (n : Int) (x : XW) : roundE (P := Tryd.prog) (Γ := Γm) [] Lno false 0 0 lpWs lvWs nlWs 35 (SWs s n x).1 (SWs s n x).2 =
  Tree.br (decide (x.p < ByteArray.size s)) (.br (!decide ((↑(Utf8.decode s x.p).fst : Int) = (32 : Int))) (.leaf (.mk .normal [.v (.string s), .v (.int .i64 n), .hs 0 0 (List.length x.L), 
    .v (.int .i64 (↑x.f : Int)), AV.its (1 : Nat), .any, .any] [some (.arr 1 (List.length x.L) (lsF Wo.c x.L)), some (Blk.sit s (x.p + (Utf8.decode s x.p).snd))])) (.chk (decide ((0 : 
    Int) ≤ (↑x.f : Int)) && decide ((↑x.f : Int) ≤ (↑x.p : Int)) && decide ((↑x.p : Int) ≤ (↑(ByteArray.size s) : Int))) (.chk (roomOk (16 : Nat) (List.length x.L + (1 : Nat))) (.br 
    (decide ((↑(List.length x.L + (1 : Nat)) : Int) = n)) (.chk (decide ((0 : Int) ≤ IntKind.wrap IntKind.i64 ((↑x.p : Int) + (1 : Int))) && decide (IntKind.wrap IntKind.i64 ((↑x.p : 
    Int) + (1 : Int)) ≤ (↑(ByteArray.size s) : Int)) && decide ((↑(ByteArray.size s) : Int) ≤ (↑(ByteArray.size s) : Int))) (.leaf (.mk .ret [.v (.string s), .v (.int .i64 n), .hs 0 0 
    (List.length x.L + (1 : Nat)), .v (.int .i64 (IntKind.wrap IntKind.i64 ((↑x.p : Int) + (1 : Int)))), AV.its (1 : Nat), .v (.string (ByteArray.extract s (Int.toNat (IntKind.wrap 
    IntKind.i64 ((↑x.p : Int) + (1 : Int)))) (ByteArray.size s))), .v (.bool true)] [some (.arr 1 (List.length x.L + (1 : Nat)) fun j => mixL (decide (j < List.length x.L)) (lsF Wo.c 
    x.L ((0 : Nat) + j)) (chain [.v (.string (ByteArray.mk #[]))] (0 : Nat) [[.v (.string (ByteArray.extract s x.f x.p))]] ((0 : Nat) + (j - List.length x.L)))), some (Blk.sit s (x.p + 
    (Utf8.decode s x.p).snd))]))) (.leaf (.mk .normal [.v (.string s), .v (.int .i64 n), .hs 0 0 (List.length x.L + (1 : Nat)), .v (.int .i64 (IntKind.wrap IntKind.i64 ((↑x.p : Int) + 
    (1 : Int)))), AV.its (1 : Nat), .any, .any] [some (.arr 1 (List.length x.L + (1 : Nat)) fun j => mixL (decide (j < List.length x.L)) (lsF Wo.c x.L ((0 : Nat) + j)) (chain [.v 
    (.string (ByteArray.mk #[]))] (0 : Nat) [[.v (.string (ByteArray.extract s x.f x.p))]] ((0 : Nat) + (j - List.length x.L)))), some (Blk.sit s (x.p + (Utf8.decode s 
    x.p).snd))])))))) (.leaf (.mk (.exit 0) [.v (.string s), .v (.int .i64 n), .hs 0 0 (List.length x.L), .v (.int .i64 (↑x.f : Int)), AV.its (1 : Nat), .any, .any] [some (.arr 1 
    (List.length x.L) (lsF Wo.c x.L)), some (Blk.sit s x.p)])) := by kernel_rfl
end Go.Eng.TA

namespace Go.Eng.TA
open Go Go.Eng Go.Eng.M Go.Lib Go.Proofs
def wl (s : ByteArray) : Nat → Nat → Option (List Wo × Nat)
  | 0, p => some ([], p)
  | k + 1, p => if spA s p < s.size then (wl s k (spA s p + 1)).map (fun r => (⟨s.extract p (spA s p)⟩ :: r.1, r.2)) else none
def preL (L : List Wo) (o : Option (List Wo × Nat)) : Option (List Wo × Nat) := o.map fun r => (L ++ r.1, r.2)
theorem preL_step {s : ByteArray} {L : List Wo} {k f : Nat} (h : spA s f < s.size) : preL L (wl s (k + 1) f) = preL (L ++ [⟨s.extract f (spA s f)⟩]) (wl s k (spA s f + 1)) := by
  unfold preL
  rw [wl, if_pos h]
  cases wl s k (spA s f + 1) with
  | none => rfl
  | some r => simp
def OWs (s : ByteArray) : Option (List Wo × Nat) → Out
  | some (L, q) => ⟨.ret, [.any, .any, .hs 0 0 L.length, .any, .any, .v (.string (s.extract q s.size)), .sb true], [some (.arr 1 L.length (lsF Wo.c L)), none]⟩
  | none => ⟨.exit 0, [.any, .any, .any, .any, .any, .any, .any], [none, none]⟩
theorem room16 {n : Nat} (h : n ≤ 1000000000) : roomOk 16 n = true := by
  unfold roomOk
  exact decide_eq_true (by omega)
set_option maxRecDepth 100000 in
theorem loopWs {s : ByteArray} (hs : s.size ≤ 1000000) {R : Option (List Wo × Nat)} : ∀ x : XW, (x.p ≤ s.size ∧ x.f ≤ x.p ∧ x.L.length < 6 ∧ spA s x.p = spA s x.f ∧ preL x.L (wl s (6 - x.L.length) x.f) = R) → LoopOK Tryd.prog Γm 0 35 lpWs (LSpec.at lvWs nlWs (SWs s 6 x) (OWs s R)) := by
  refine loop_at (S := SWs s 6) (O := fun _ => OWs s R) (k := 0) (fun x => s.size - x.p) fun x hp => .of (noLoops (by kernel_rfl)) (rWs s 6 x) ?_
  obtain ⟨p, f, L⟩ := x
  obtain ⟨h1, h2, h3, h4, h5⟩ := hp
  dsimp only at h1 h2 h3 h4 h5
  rcases Nat.lt_or_ge p s.size with hi | hi
  · by_cases hc : (Utf8.decode s p).1 = 32
    · have hb : bN s p = 32 := by
        rcases Nat.lt_or_ge (bN s p) 128 with c | c
        · rw [dec_asc c] at hc; exact hc
        · have := dec_high c; omega
      have hd : Utf8.decode s p = (32, 1) := by rw [dec_asc (by omega), hb]
      rw [sp_here hi hb] at h4
      have hk : 6 - L.length = (5 - L.length) + 1 := by omega
      rw [hk, preL_step (by omega), ← h4] at h5
      have ha := Wo.cod.app0 L ⟨s.extract f p⟩ default rfl (N := L.length + 1) rfl
      have hroom : roomOk 16 (L.length + 1) = true := room16 (by omega)
      have hd1 : (Utf8.decode s p).1 = 32 := hc
      have hd2 : (Utf8.decode s p).2 = 1 := by rw [hd]
      have hx : (!decide (((32 : Nat) : Int) = (32 : Int))) = false := by decide
      simp only [hd1, hd2, hx]
      clear hd hd1 hd2 hx hc
      by_cases h6 : L.length = 5
      · have hR : R = some (L ++ [⟨s.extract f p⟩], p + 1) := by
          rw [← h5, show 5 - L.length = 0 by omega, wl]; unfold preL; simp
        have hll : (L ++ [(⟨s.extract f p⟩ : Wo)]).length = L.length + 1 := by simp
        rw [hR]
        repeat' (first | refine wC (by first | omega | (simp only [W1, cond_true, cond_false, wrapUpN (show p ≤ 10000000000 by omega), Int.toNat_natCast]; first | done | omega)) ?_ | refine wT (by first | omega | (simp only [W1, cond_true, cond_false, wrapUpN (show p ≤ 10000000000 by omega), Int.toNat_natCast]; first | done | omega)) ?_ | refine wF (by intro _h; first | omega | (simp only [W1, cond_true, cond_false, wrapUpN (show p ≤ 10000000000 by omega), Int.toNat_natCast] at _h; first | done | omega)) ?_ | (refine wS ?_ ?_ <;> intro _h <;> simp only [W1, cond_true, cond_false, wrapUpN (show p ≤ 10000000000 by omega), Int.toNat_natCast] at _h))
        all_goals simp only [W1, W2, owesN, owesX, owesR, cond_true, cond_false, wrapUpN (show p ≤ 10000000000 by omega), Int.toNat_natCast]
        repeat' (first | apply And.intro | intro _hc)
        all_goals first | exact hroom | exact ⟨.any _, .any _, by (rw [hll]; exact AV.le_refl _), .any _, .any _, .refl _, leB rfl, trivial⟩ | exact ⟨by (rw [hll] at *; exact ha), OLe.none _, trivial⟩ | exact rfl | exact trivial | ((rw [hll]; exact AV.le_refl _)) | exact ha | exact leB rfl | exact AV.le_refl _ | exact AV.le_any _ | exact OLe.refl _ | exact OLe.none _ | exact LeH.refl _ | exact LeL.refl _ | exact AV.le.bs _ | exact AV.le.sb _ | omega | contradiction
      · have hll : (L ++ [(⟨s.extract f p⟩ : Wo)]).length = L.length + 1 := by simp
        have hlt : (L ++ [(⟨s.extract f p⟩ : Wo)]).length < 6 := by omega
        have hcont : preL (L ++ [(⟨s.extract f p⟩ : Wo)]) (wl s (6 - (L ++ [(⟨s.extract f p⟩ : Wo)]).length) (p + 1)) = R := by
          rw [hll, show 6 - (L.length + 1) = 5 - L.length by omega]; exact h5
        have hv : AV.le (.hs 0 0 (L.length + 1)) (.hs 0 0 (L ++ [(⟨s.extract f p⟩ : Wo)]).length) := by rw [hll]; exact AV.le_refl _
        repeat' (first | refine wC (by first | omega | (simp only [W1, cond_true, cond_false, wrapUpN (show p ≤ 10000000000 by omega)]; first | done | omega)) ?_ | refine wT (by first | omega | (simp only [W1, cond_true, cond_false, wrapUpN (show p ≤ 10000000000 by omega)]; first | done | omega)) ?_ | refine wF (by intro _h; first | omega | (simp only [W1, cond_true, cond_false, wrapUpN (show p ≤ 10000000000 by omega)] at _h; first | done | omega)) ?_ | (refine wS ?_ ?_ <;> intro _h <;> simp only [W1, cond_true, cond_false, wrapUpN (show p ≤ 10000000000 by omega)] at _h))
        all_goals simp only [W1, W2, owesN, owesX, owesR, cond_true, cond_false, wrapUpN (show p ≤ 10000000000 by omega)]
        repeat' (first | apply And.intro | intro _hc)
        all_goals first | exact hroom | ((refine ⟨⟨p + 1, p + 1, L ++ [⟨s.extract f p⟩]⟩, ?_, ?_, ?_, ?_⟩; exact ⟨.refl _, .refl _, hv, .refl _, .refl _, .refl _, .refl _, trivial⟩; exact ⟨ha, OLe.refl _, trivial⟩; exact ⟨hi, Nat.le_refl _, hlt, rfl, hcont⟩; exact Nat.sub_lt_sub_left hi (Nat.lt_succ_self _))) | exact AV.le_refl _ | exact AV.le_any _ | exact OLe.refl _ | exact OLe.none _ | exact LeH.refl _ | exact LeL.refl _ | exact AV.le.bs _ | exact AV.le.sb _ | omega | contradiction
    · have hle := dec_le hi
      have hpos := dec_pos s p
      have hn := sp_rune hi hc
      repeat' (first | refine wC (by first | omega | (simp only [W1, cond_true, cond_false]; first | done | omega)) ?_ | refine wT (by first | omega | (simp only [W1, cond_true, cond_false]; first | done | omega)) ?_ | refine wF (by intro _h; first | omega | (simp only [W1, cond_true, cond_false] at _h; first | done | omega)) ?_ | (refine wS ?_ ?_ <;> intro _h <;> simp only [W1, cond_true, cond_false] at _h))
      all_goals simp only [W1, W2, owesN, owesX, owesR, cond_true, cond_false]
      repeat' (first | apply And.intro | intro _hc)
      all_goals first | exact ⟨⟨p + (Utf8.decode s p).2, f, L⟩, LeL.refl _, LeH.refl _, ⟨hle, by (dsimp only; omega), h3, by (dsimp only; rw [← hn]; exact h4), h5⟩, by dsimp only; omega⟩ | exact AV.le_refl _ | exact AV.le_any _ | exact OLe.refl _ | exact OLe.none _ | exact LeH.refl _ | exact LeL.refl _ | exact AV.le.bs _ | exact AV.le.sb _ | omega | contradiction
  · have hR : R = none := by
      rw [← h5, show 6 - L.length = (5 - L.length) + 1 by omega, wl, if_neg (by rw [← h4, sp_end hi]; omega)]; rfl
    rw [hR]
    repeat' (first | refine wC (by first | omega | (simp only [W1, cond_true, cond_false]; first | done | omega)) ?_ | refine wT (by first | omega | (simp only [W1, cond_true, cond_false]; first | done | omega)) ?_ | refine wF (by intro _h; first | omega | (simp only [W1, cond_true, cond_false] at _h; first | done | omega)) ?_ | (refine wS ?_ ?_ <;> intro _h <;> simp only [W1, cond_true, cond_false] at _h))
    all_goals simp only [W1, W2, owesN, owesX, owesR, cond_true, cond_false]
    repeat' (first | apply And.intro | intro _hc)
    all_goals first | exact rfl | exact AV.le_refl _ | exact AV.le_any _ | exact OLe.refl _ | exact OLe.none _ | exact LeH.refl _ | exact LeL.refl _ | exact AV.le.bs _ | exact AV.le.sb _ | omega | contradiction
end Go.Eng.TA

namespace Go.Eng.TA
open Go Go.Eng Go.Eng.M Go.Lib Go.Proofs
theorem runWsR (s : ByteArray) (L : List Wo) (q : Nat) : bodyE (P := Tryd.prog) (Γ := Γm) [] (fun _ => LSpec.at lvWs nlWs (SWs s 6 ⟨0, 0, []⟩) (OWs s (some (L, q)))) false 35 [.tmp 4, .tmp 5, .tmp 6] (bodyOf Tryd.f90) [.v (.string s), .v (.int .i64 6)] [] =
  Tree.chk (cl (LeL [.v (.string s), .v (.int .i64 (6 : Int)), .hs 0 0 (0 : Nat), .v (.int .i64 (0 : Int)), AV.its (1 : Nat), .v (.string (ByteArray.mk #[])), .v (.bool false)] [.v (.string 
    s), .v (.int .i64 (6 : Int)), .hs 0 0 (0 : Nat), .v (.int .i64 (↑(0 : Nat) : Int)), AV.its (1 : Nat), .any, .any] ∧ LeH [some (.arr 1 (0 : Nat) fun x => [.v (.string (ByteArray.mk 
    #[]))]), some (Blk.sit s (0 : Nat))] [some (.arr 1 (0 : Nat) (lsF Wo.c (XW.mk (0 : Nat) (0 : Nat) []).L)), some (Blk.sit s (0 : Nat))])) (.leaf (Ans.mk (.tup [.hs 0 0 (List.length 
    L), .v (.string (ByteArray.extract s q (ByteArray.size s))), .sb true]) [some (.arr 1 (List.length L) (lsF Wo.c L))])) := by kernel_rfl
theorem runWsE (s : ByteArray) : bodyE (P := Tryd.prog) (Γ := Γm) [] (fun _ => LSpec.at lvWs nlWs (SWs s 6 ⟨0, 0, []⟩) (OWs s none)) false 35 [.tmp 4, .tmp 5, .tmp 6] (bodyOf Tryd.f90) [.v (.string s), .v (.int .i64 6)] [] =
  Tree.chk (cl (LeL [.v (.string s), .v (.int .i64 (6 : Int)), .hs 0 0 (0 : Nat), .v (.int .i64 (0 : Int)), AV.its (1 : Nat), .v (.string (ByteArray.mk #[])), .v (.bool false)] [.v (.string 
    s), .v (.int .i64 (6 : Int)), .hs 0 0 (0 : Nat), .v (.int .i64 (↑(0 : Nat) : Int)), AV.its (1 : Nat), .any, .any] ∧ LeH [some (.arr 1 (0 : Nat) fun x => [.v (.string (ByteArray.mk 
    #[]))]), some (Blk.sit s (0 : Nat))] [some (.arr 1 (0 : Nat) (lsF Wo.c (XW.mk (0 : Nat) (0 : Nat) []).L)), some (Blk.sit s (0 : Nat))])) (.leaf (Ans.mk (.tup [.v (.slice none (0 : 
    Nat) (0 : Nat)), .v (.string (ByteArray.mk #[])), .v (.bool false)]) [])) := by kernel_rfl
theorem hNW : OLe (some (.arr 1 0 fun _ => [AV.v (Value.string ⟨#[]⟩)])) (some (.arr 1 0 (lsF Wo.c []))) := OLe.arr rfl (fun e he => absurd he (Nat.not_lt_zero e)) (fun _ => rfl)
theorem ansWsR {s : ByteArray} (hs : s.size ≤ 1000000) {L : List Wo} {q : Nat} (h : wl s 6 0 = some (L, q)) : Answers Tryd.prog Γm 90 [.v (.string s), .v (.int .i64 6)] [] (.tup [.hs 0 0 L.length, .v (.string (s.extract q s.size)), .sb true]) [] [.arr 1 L.length (lsF Wo.c L)] := by
  have hl := loopWs hs (R := some (L, q)) ⟨0, 0, []⟩ ⟨Nat.zero_le _, Nat.le_refl _, by show (0 : Nat) < 6; omega, rfl, by show preL [] (wl s 6 0) = _; rw [h]; rfl⟩
  refine answers (fn := Tryd.f90) (c := bodyOf Tryd.f90) (ntmps := 35) (results := [.tmp 4, .tmp 5, .tmp 6]) [] (fun _ => LSpec.at lvWs nlWs (SWs s 6 ⟨0, 0, []⟩) (OWs s (some (L, q)))) false Tryd.func90 (by kernel_rfl) (by kernel_rfl) (by kernel_rfl) (by kernel_rfl) (by simp) rfl (oneLoop (b := lpWs) (by kernel_rfl) hl) <| Meets.of (runWsR s L q) <| ?_
  repeat' (first | refine wC (by first | omega | (simp only [W1, cond_true, cond_false]; first | done | omega)) ?_ | refine wT (by first | omega | (simp only [W1, cond_true, cond_false]; first | done | omega)) ?_ | refine wF (by intro _h; first | omega | (simp only [W1, cond_true, cond_false] at _h; first | done | omega)) ?_ | (refine wS ?_ ?_ <;> intro _h <;> simp only [W1, cond_true, cond_false] at _h))
  all_goals simp only [W1, W2, owesN, owesX, owesR, cond_true, cond_false]
  repeat' (first | apply And.intro | intro _hc)
  all_goals first | exact hNW | exact ⟨hNW, OLe.refl _, trivial⟩ | exact AV.le_refl _ | exact AV.le_any _ | exact OLe.refl _ | exact OLe.none _ | exact LeH.refl _ | exact LeL.refl _ | exact AV.le.bs _ | exact AV.le.sb _ | omega | contradiction
theorem ansWsE {s : ByteArray} (hs : s.size ≤ 1000000) (h : wl s 6 0 = none) : Answers Tryd.prog Γm 90 [.v (.string s), .v (.int .i64 6)] [] (.tup [.v (.slice none 0 0), .v (.string ⟨#[]⟩), .sb false]) [] [] := by
  have hl := loopWs hs (R := none) ⟨0, 0, []⟩ ⟨Nat.zero_le _, Nat.le_refl _, by show (0 : Nat) < 6; omega, rfl, by show preL [] (wl s 6 0) = _; rw [h]; rfl⟩
  refine answers (fn := Tryd.f90) (c := bodyOf Tryd.f90) (ntmps := 35) (results := [.tmp 4, .tmp 5, .tmp 6]) [] (fun _ => LSpec.at lvWs nlWs (SWs s 6 ⟨0, 0, []⟩) (OWs s none)) false Tryd.func90 (by kernel_rfl) (by kernel_rfl) (by kernel_rfl) (by kernel_rfl) (by simp) rfl (oneLoop (b := lpWs) (by kernel_rfl) hl) <| Meets.of (runWsE s) <| ?_
  repeat' (first | refine wC (by first | omega | (simp only [W1, cond_true, cond_false]; first | done | omega)) ?_ | refine wT (by first | omega | (simp only [W1, cond_true, cond_false]; first | done | omega)) ?_ | refine wF (by intro _h; first | omega | (simp only [W1, cond_true, cond_false] at _h; first | done | omega)) ?_ | (refine wS ?_ ?_ <;> intro _h <;> simp only [W1, cond_true, cond_false] at _h))
  all_goals simp only [W1, W2, owesN, owesX, owesR, cond_true, cond_false]
  repeat' (first | apply And.intro | intro _hc)
  all_goals first | exact hNW | exact ⟨hNW, OLe.refl _, trivial⟩ | exact tup3 (.refl _) (leS rfl) (leB rfl) | exact AV.le_refl _ | exact AV.le_any _ | exact OLe.refl _ | exact OLe.none _ | exact LeH.refl _ | exact LeL.refl _ | exact AV.le.bs _ | exact AV.le.sb _ | omega | contradiction
noncomputable abbrev lpP6 : Code := loopOf (bodyOf Tryd.f37) 0
abbrev lvP6 : List Nat := [0, 2, 3, 4, 5]
structure X6 where
  i : Nat
  r : ByteArray
  L : List Wo
def S6w (x : X6) : List AV × Heap := ([.v (.string x.r), .ptr 0 0, .any, .ap 1, .v (.int .i64 (x.i : Int))], [some (.row [.v (.int .i64 0), .v (.string ⟨#[]⟩), .v (.string ⟨#[]⟩), .v (.string ⟨#[]⟩), .v (.string ⟨#[]⟩), .v (.int .i64 0), .v (.int .i64 0)]), some (.arr 1 6 (lsF Wo.c x.L))])
theorem r6w (x : X6) : roundE (P := Tryd.prog) (Γ := Γm) [kWd] Lno false 0 0 lpP6 lvP6 [] 110 (S6w x).1 (S6w x).2 =
  Tree.br (decide ((↑x.i : Int) < (6 : Int))) (.chk (cl (ByteArray.size x.r ≤ (1000000000 : Nat) ∧ LeL [.v (.string x.r)] [.v (.string x.r)] ∧ LeH [] [])) (.br (!wd3 x.r) (.leaf (.mk .ret 
    [.v (.string x.r), .ptr 0 0, .v (.bool false), AV.ap (1 : Nat), .v (.int .i64 (↑x.i : Int))] [some (.row [.v (.int .i64 (0 : Int)), .v (.string (ByteArray.mk #[])), .v (.string 
    (ByteArray.mk #[])), .v (.string (ByteArray.mk #[])), .v (.string (ByteArray.mk #[])), .v (.int .i64 (0 : Int)), .v (.int .i64 (0 : Int))]), some (.arr 1 (6 : Nat) (lsF Wo.c 
    x.L))])) (.chk (decide ((0 : Int) ≤ (↑x.i : Int)) && decide ((↑x.i : Int) < (↑(6 : Nat) : Int))) (.leaf (.mk .normal [.v (.string (wd2 x.r)), .ptr 0 0, .any, AV.ap (1 : Nat), .v 
    (.int .i64 (IntKind.wrap IntKind.i64 ((↑x.i : Int) + (1 : Int))))] [some (.row [.v (.int .i64 (0 : Int)), .v (.string (ByteArray.mk #[])), .v (.string (ByteArray.mk #[])), .v 
    (.string (ByteArray.mk #[])), .v (.string (ByteArray.mk #[])), .v (.int .i64 (0 : Int)), .v (.int .i64 (0 : Int))]), some (.arr 1 (6 : Nat) fun k => mixL (Nat.beq k x.i) [.v 
    (.string (wd1 x.r))] (lsF Wo.c x.L k))]))))) (.leaf (.mk (.exit 0) [.v (.string x.r), .ptr 0 0, .any, AV.ap (1 : Nat), .v (.int .i64 (↑x.i : Int))] [some (.row [.v (.int .i64 (0 : 
    Int)), .v (.string (ByteArray.mk #[])), .v (.string (ByteArray.mk #[])), .v (.string (ByteArray.mk #[])), .v (.string (ByteArray.mk #[])), .v (.int .i64 (0 : Int)), .v (.int .i64 
    (0 : Int))]), some (.arr 1 (6 : Nat) (lsF Wo.c x.L))])) := by kernel_rfl
theorem sp_ext {s : ByteArray} {q : Nat} (hq : q ≤ s.size) : ∀ k p, p + k = s.size - q → spF (s.extract q s.size) k p + q = spF s k (p + q) := by
  intro k
  induction k with
  | zero => intro p _; rfl
  | succ k ih =>
    intro p h
    have hb : bN (s.extract q s.size) p = bN s (p + q) := by
      rw [bN_extract _ _ _ _ (Nat.le_refl _), if_pos (by omega), Nat.add_comm]
    rw [spF, spF, hb]
    by_cases hc : bN s (p + q) = 32
    · rw [if_pos hc, if_pos hc]
    · rw [if_neg hc, if_neg hc, ih (p + 1) (by omega), show p + 1 + q = p + q + 1 by omega]
theorem sp_ext0 {s : ByteArray} {q : Nat} (hq : q ≤ s.size) : spA (s.extract q s.size) 0 + q = spA s q := by
  have h := sp_ext hq (s.size - q) 0 (by omega)
  unfold spA
  rw [ext_size _ _ _ (Nat.le_refl _), Nat.sub_zero, h, Nat.zero_add]
theorem wd_ext {s : ByteArray} {q : Nat} (hq : q ≤ s.size) : wd3 (s.extract q s.size) = decide (spA s q < s.size) ∧ (spA s q < s.size → wd1 (s.extract q s.size) = s.extract q (spA s q) ∧ wd2 (s.extract q s.size) = s.extract (spA s q + 1) s.size) := by
  have h0 := sp_ext0 hq
  have hz := ext_size s q s.size (Nat.le_refl _)
  have hlt : (spA (s.extract q s.size) 0 < (s.extract q s.size).size) ↔ spA s q < s.size := by omega
  refine ⟨?_, fun h => ?_⟩
  · unfold wd3; rw [Bool.eq_iff_iff, decide_eq_true_iff, decide_eq_true_iff]; exact hlt
  · unfold wd1 wd2
    rw [if_pos (hlt.2 h), if_pos (hlt.2 h)]
    refine ⟨?_, ?_⟩
    · refine bN_eq ?_ fun j hj => ?_
      · rw [ext_size _ _ _ (by omega), ext_size _ _ _ (by omega)]; omega
      · rw [ext_size _ _ _ (by omega)] at hj
        rw [bN_extract _ _ _ _ (by omega), if_pos (by omega), bN_extract _ _ _ _ (by omega), if_pos (by omega), bN_extract _ _ _ _ (by omega), if_pos (by omega), Nat.zero_add]
    · rw [ext_ext (by omega) rfl, show q + (spA (s.extract q s.size) 0 + 1) = spA s q + 1 by omega]
def z6 : AV × AV := (.any, .any)
abbrev zRow : Blk := .row [.v (.int .i64 0), .v (.string ⟨#[]⟩), .v (.string ⟨#[]⟩), .v (.string ⟨#[]⟩), .v (.string ⟨#[]⟩), .v (.int .i64 0), .v (.int .i64 0)]
def O6w (s : ByteArray) : Option (List Wo × Nat) → Out
  | some (D, q) => ⟨.exit 0, [.v (.string (s.extract q s.size)), .ptr 0 0, .any, .ap 1, .any], [some zRow, some (.arr 1 6 (lsF Wo.c D))]⟩
  | none => ⟨.ret, [.any, .ptr 0 0, .v (.bool false), .any, .any], [some zRow, none]⟩
structure Y6 where
  D : List Wo
  q : Nat
def S6 (s : ByteArray) (y : Y6) : List AV × Heap := S6w ⟨y.D.length, s.extract y.q s.size, y.D ++ List.replicate (6 - y.D.length) default⟩
theorem set_next (D : List Wo) (w : Wo) (h : D.length < 6) : (D ++ List.replicate (6 - D.length) default).set D.length w = (D ++ [w]) ++ List.replicate (6 - (D ++ [w]).length) default := by
  have e : 6 - D.length = (6 - (D ++ [w]).length) + 1 := by rw [List.length_append, List.length_singleton]; omega
  rw [e, List.replicate_succ, List.set_append_right _ _ (Nat.le_refl _), Nat.sub_self, List.set_cons_zero, List.append_assoc]
  rfl
theorem loop6w {s : ByteArray} (hs : s.size ≤ 1000000) {R : Option (List Wo × Nat)} : ∀ y : Y6, (y.D.length ≤ 6 ∧ y.q ≤ s.size ∧ preL y.D (wl s (6 - y.D.length) y.q) = R) → LoopOK Tryd.prog Γm 0 110 lpP6 (LSpec.at lvP6 [] (S6 s y) (O6w s R)) := by
  refine loop_at (S := S6 s) (O := fun _ => O6w s R) (k := 0) (fun y => 6 - y.D.length) fun y hp => .of (noLoops (by kernel_rfl)) (r6w ⟨y.D.length, s.extract y.q s.size, y.D ++ List.replicate (6 - y.D.length) default⟩) ?_
  obtain ⟨D, q⟩ := y
  obtain ⟨h1, h2, h3⟩ := hp
  dsimp only at h1 h2 h3
  have hz : (s.extract q s.size).size ≤ 1000000000 := by rw [ext_size _ _ _ (Nat.le_refl _)]; omega
  obtain ⟨w3, w12⟩ := wd_ext h2
  rcases Nat.lt_or_ge D.length 6 with hi | hi
  · have hk : 6 - D.length = (5 - D.length) + 1 := by omega
    rw [hk] at h3
    by_cases hq : spA s q < s.size
    · obtain ⟨w1, w2⟩ := w12 hq
      rw [preL_step hq] at h3
      rw [decide_eq_true hq] at w3
      have hll : (D ++ [(⟨s.extract q (spA s q)⟩ : Wo)]).length = D.length + 1 := by simp
      have hset := Wo.cod.set (D ++ List.replicate (6 - D.length) default) (i := D.length) (N := 6) ⟨s.extract q (spA s q)⟩ (by simp; omega) (by simp; omega)
      rw [set_next D _ hi] at hset
      have hl6 : (D ++ [(⟨s.extract q (spA s q)⟩ : Wo)] ++ List.replicate (6 - (D ++ [(⟨s.extract q (spA s q)⟩ : Wo)]).length) default).length = 6 := by
        rw [List.length_append, List.length_replicate, hll]; omega
      rw [hl6] at hset
      have hcont : preL (D ++ [(⟨s.extract q (spA s q)⟩ : Wo)]) (wl s (6 - (D ++ [(⟨s.extract q (spA s q)⟩ : Wo)]).length) (spA s q + 1)) = R := by
        rw [hll, show 6 - (D.length + 1) = 5 - D.length by omega]; exact h3
      simp only [w3, w1, w2]
      repeat' (first | refine wC (by first | omega | (simp only [W1, cond_true, cond_false, hz, wrapUpN (show D.length ≤ 10000000000 by omega)]; first | done | omega)) ?_ | refine wT (by first | omega | (simp only [W1, cond_true, cond_false, hz, wrapUpN (show D.length ≤ 10000000000 by omega)]; first | done | omega)) ?_ | refine wF (by intro _h; first | omega | (simp only [W1, cond_true, cond_false, hz, wrapUpN (show D.length ≤ 10000000000 by omega)] at _h; first | done | omega)) ?_ | (refine wS ?_ ?_ <;> intro _h <;> simp only [W1, cond_true, cond_false, hz, wrapUpN (show D.length ≤ 10000000000 by omega)] at _h))
      all_goals simp only [W1, W2, owesN, owesX, owesR, cond_true, cond_false, hz, wrapUpN (show D.length ≤ 10000000000 by omega)]
      repeat' (first | apply And.intro | intro _hc)
      all_goals first | ((refine ⟨⟨D ++ [⟨s.extract q (spA s q)⟩], spA s q + 1⟩, ?_, ?_, ?_, ?_⟩; exact ⟨.refl _, .refl _, .refl _, .refl _, by (rw [hll]; exact AV.le_refl _), trivial⟩; exact ⟨OLe.refl _, hset, trivial⟩; exact ⟨by (rw [hll]; omega), hq, hcont⟩; (rw [hll]; omega))) | exact AV.le_refl _ | exact AV.le_any _ | exact OLe.refl _ | exact OLe.none _ | exact LeH.refl _ | exact LeL.refl _ | exact AV.le.bs _ | exact AV.le.sb _ | omega | contradiction
    · rw [decide_eq_false hq] at w3
      have hR : R = none := by rw [← h3, wl, if_neg hq]; rfl
      rw [hR]
      simp only [w3]
      repeat' (first | refine wC (by first | omega | (simp only [W1, cond_true, cond_false, hz]; first | done | omega)) ?_ | refine wT (by first | omega | (simp only [W1, cond_true, cond_false, hz]; first | done | omega)) ?_ | refine wF (by intro _h; first | omega | (simp only [W1, cond_true, cond_false, hz] at _h; first | done | omega)) ?_ | (refine wS ?_ ?_ <;> intro _h <;> simp only [W1, cond_true, cond_false, hz] at _h))
      all_goals simp only [W1, W2, owesN, owesX, owesR, cond_true, cond_false, hz]
      repeat' (first | apply And.intro | intro _hc)
      all_goals first | exact rfl | exact AV.le_refl _ | exact AV.le_any _ | exact OLe.refl _ | exact OLe.none _ | exact LeH.refl _ | exact LeL.refl _ | exact AV.le.bs _ | exact AV.le.sb _ | omega | contradiction
  · have h6 : D.length = 6 := by omega
    have hR : R = some (D, q) := by
      rw [← h3, h6, Nat.sub_self, wl]; unfold preL; simp
    have hD : D ++ List.replicate (6 - D.length) default = D := by rw [h6, Nat.sub_self, List.replicate_zero, List.append_nil]
    rw [hR]
    simp only [hD]
    repeat' (first | refine wC (by first | omega | (simp only [W1, cond_true, cond_false]; first | done | omega)) ?_ | refine wT (by first | omega | (simp only [W1, cond_true, cond_false]; first | done | omega)) ?_ | refine wF (by intro _h; first | omega | (simp only [W1, cond_true, cond_false] at _h; first | done | omega)) ?_ | (refine wS ?_ ?_ <;> intro _h <;> simp only [W1, cond_true, cond_false] at _h))
    all_goals simp only [W1, W2, owesN, owesX, owesR, cond_true, cond_false]
    repeat' (first | apply And.intro | intro _hc)
    all_goals first | exact rfl | exact AV.le_refl _ | exact AV.le_any _ | exact OLe.refl _ | exact OLe.none _ | exact LeH.refl _ | exact LeL.refl _ | exact AV.le.bs _ | exact AV.le.sb _ | omega | contradiction
end Go.Eng.TA

namespace Go.Eng.TA
open Go Go.Eng Go.Eng.M Go.Lib Go.Proofs
def ofSII : List AV → List Blk → Option (ByteArray × Int × Int)
  | [.v (.string s), .v (.int _ a), .v (.int _ b)], [] => some (s, a, b)
  | _, _ => none
noncomputable def kRe : CT Tryd.prog Γm := CT.par 91 ofSII (fun | (s, _, _) => s.size ≤ 1000000000) (fun | (s, a, b) => [.v (.string s), .v (.int .i64 a), .v (.int .i64 b)]) (fun _ => []) (fun | (s, a, b) => .tup [.v (.int .i64 (rdN s a b)), .v (.int .i64 (rdE s a b))]) (fun _ => []) (fun _ => []) (callFunc_enters Tryd.func91 (by kernel_rfl) (by kernel_rfl)) fun ⟨s, a, b⟩ h => ansRe h
noncomputable def kRr : CT Tryd.prog Γm := CT.par 93 ofSII (fun | (s, _, _) => s.size ≤ 1000000000) (fun | (s, a, b) => [.v (.string s), .v (.int .i64 a), .v (.int .i64 b)]) (fun _ => []) (fun | (s, a, b) => .tup [.v (.int .i64 (rdN s a b)), .v (.int .i64 (rdE s a b))]) (fun _ => []) (fun _ => []) (callFunc_enters Tryd.func93 (by kernel_rfl) (by kernel_rfl)) fun ⟨s, a, b⟩ h => ansRr h
theorem runTP (s r : ByteArray) (L : List Wo) (h : Answers Tryd.prog Γm 90 [.v (.string s), .v (.int .i64 6)] [] (.tup [.hs 0 0 6, .v (.string r), .sb true]) [] [.arr 1 6 (lsF Wo.c L)]) : bodyE (P := Tryd.prog) (Γ := Γm) [CT.at 90 h, kRe, kTx] Lno false 112 [.cell 2 40, .tmp 3] (bodyOf Tryd.f36) [.v (.string s)] [] =
  Tree.chk (cl (LeL [.v (.string s), .v (.int .i64 (6 : Int))] [.v (.string s), .v (.int .i64 (6 : Int))] ∧ LeH [] [])) (.chk (bif !decide ((List.getD L (5 : Nat) default).s = ByteArray.mk 
    #[(116 : UInt8), (111 : UInt8)]) then true else bif decide ((List.getD L (1 : Nat) default).s = ByteArray.mk #[]) then true else decide ((0 : Int) ≤ IntKind.wrap IntKind.i64 
    ((↑(ByteArray.size (List.getD L (1 : Nat) default).s) : Int) - (1 : Int))) && decide (IntKind.wrap IntKind.i64 ((↑(ByteArray.size (List.getD L (1 : Nat) default).s) : Int) - (1 : 
    Int)) < (↑(ByteArray.size (List.getD L (1 : Nat) default).s) : Int))) (.br (bif !decide ((List.getD L (5 : Nat) default).s = ByteArray.mk #[(116 : UInt8), (111 : UInt8)]) then true 
    else bif decide ((List.getD L (1 : Nat) default).s = ByteArray.mk #[]) then true else !decide (sbyte (List.getD L (1 : Nat) default).s (Int.toNat (IntKind.wrap IntKind.i64 
    ((↑(ByteArray.size (List.getD L (1 : Nat) default).s) : Int) - (1 : Int)))) = (58 : Int))) (.leaf (Ans.mk (.tup [.agg [.v (.int .i64 (0 : Int)), .v (.string (ByteArray.mk #[])), .v 
    (.string (ByteArray.mk #[])), .v (.string (ByteArray.mk #[])), .v (.string (ByteArray.mk #[])), .v (.int .i64 (0 : Int)), .v (.int .i64 (0 : Int))], .v (.int .i64 (80 : Int))]) 
    [])) (.chk true (.chk true (.chk true (.chk (decide ((↑(0 : Nat) : Int) ≤ IntKind.wrap IntKind.i64 ((↑(ByteArray.size (List.getD L (1 : Nat) default).s) : Int) - (1 : Int))) && 
    decide (IntKind.wrap IntKind.i64 ((↑(ByteArray.size (List.getD L (1 : Nat) default).s) : Int) - (1 : Int)) ≤ (↑(ByteArray.size (List.getD L (1 : Nat) default).s) : Int))) (.chk (cl 
    (ByteArray.size (ByteArray.extract (List.getD L (1 : Nat) default).s (0 : Nat) (Int.toNat (IntKind.wrap IntKind.i64 ((↑(ByteArray.size (List.getD L (1 : Nat) default).s) : Int) - 
    (1 : Int))))) ≤ (1000000000 : Nat) ∧ LeL [.v (.string (ByteArray.extract (List.getD L (1 : Nat) default).s (0 : Nat) (Int.toNat (IntKind.wrap IntKind.i64 ((↑(ByteArray.size 
    (List.getD L (1 : Nat) default).s) : Int) - (1 : Int)))))), .v (.int .i64 (1 : Int)), .v (.int .i64 (4611686018427387904 : Int))] [.v (.string (ByteArray.extract (List.getD L (1 : 
    Nat) default).s (0 : Nat) (Int.toNat (IntKind.wrap IntKind.i64 ((↑(ByteArray.size (List.getD L (1 : Nat) default).s) : Int) - (1 : Int)))))), .v (.int .i64 (1 : Int)), .v (.int 
    .i64 (4611686018427387904 : Int))] ∧ LeH [] [])) (.br (!decide (rdE (ByteArray.extract (List.getD L (1 : Nat) default).s (0 : Nat) (Int.toNat (IntKind.wrap IntKind.i64 
    ((↑(ByteArray.size (List.getD L (1 : Nat) default).s) : Int) - (1 : Int))))) (1 : Int) (4611686018427387904 : Int) = (0 : Int))) (.chk (bif !decide (rdE (ByteArray.extract 
    (List.getD L (1 : Nat) default).s (0 : Nat) (Int.toNat (IntKind.wrap IntKind.i64 ((↑(ByteArray.size (List.getD L (1 : Nat) default).s) : Int) - (1 : Int))))) (1 : Int) 
    (4611686018427387904 : Int) = (0 : Int)) then true else cl (smallT (Tx.mk (0 : Int) (List.getD L (2 : Nat) default).s (ByteArray.mk #[]) (ByteArray.mk #[]) (ByteArray.mk #[]) (0 : 
    Int) (rdN (ByteArray.extract (List.getD L (1 : Nat) default).s (0 : Nat) (Int.toNat (IntKind.wrap IntKind.i64 ((↑(ByteArray.size (List.getD L (1 : Nat) default).s) : Int) - (1 : 
    Int))))) (1 : Int) (4611686018427387904 : Int))) ∧ LeL [.agg [.v (.int .i64 (0 : Int)), .v (.string (List.getD L (2 : Nat) default).s), .v (.string (ByteArray.mk #[])), .v (.string 
    (ByteArray.mk #[])), .v (.string (ByteArray.mk #[])), .v (.int .i64 (0 : Int)), .v (.int .i64 (rdN (ByteArray.extract (List.getD L (1 : Nat) default).s (0 : Nat) (Int.toNat 
    (IntKind.wrap IntKind.i64 ((↑(ByteArray.size (List.getD L (1 : Nat) default).s) : Int) - (1 : Int))))) (1 : Int) (4611686018427387904 : Int)))]] [.agg [.v (.int .i64 (0 : Int)), .v 
    (.string (List.getD L (2 : Nat) default).s), .v (.string (ByteArray.mk #[])), .v (.string (ByteArray.mk #[])), .v (.string (ByteArray.mk #[])), .v (.int .i64 (0 : Int)), .v (.int 
    .i64 (rdN (ByteArray.extract (List.getD L (1 : Nat) default).s (0 : Nat) (Int.toNat (IntKind.wrap IntKind.i64 ((↑(ByteArray.size (List.getD L (1 : Nat) default).s) : Int) - (1 : 
    Int))))) (1 : Int) (4611686018427387904 : Int)))]] ∧ LeH [] [])) (.br (bif !decide (rdE (ByteArray.extract (List.getD L (1 : Nat) default).s (0 : Nat) (Int.toNat (IntKind.wrap 
    IntKind.i64 ((↑(ByteArray.size (List.getD L (1 : Nat) default).s) : Int) - (1 : Int))))) (1 : Int) (4611686018427387904 : Int) = (0 : Int)) then true else !decide (erT (txB (Tx.mk 
    (0 : Int) (List.getD L (2 : Nat) default).s (ByteArray.mk #[]) (ByteArray.mk #[]) (ByteArray.mk #[]) (0 : Int) (rdN (ByteArray.extract (List.getD L (1 : Nat) default).s (0 : Nat) 
    (Int.toNat (IntKind.wrap IntKind.i64 ((↑(ByteArray.size (List.getD L (1 : Nat) default).s) : Int) - (1 : Int))))) (1 : Int) (4611686018427387904 : Int)))) = (0 : Int))) (.leaf 
    (Ans.mk (.tup [.agg [.v (.int .i64 (0 : Int)), .v (.string (ByteArray.mk #[])), .v (.string (ByteArray.mk #[])), .v (.string (ByteArray.mk #[])), .v (.string (ByteArray.mk #[])), 
    .v (.int .i64 (0 : Int)), .v (.int .i64 (0 : Int))], .v (.int .i64 (80 : Int))]) [])) (.leaf (Ans.mk (.tup [.agg [.v (.int .i64 (0 : Int)), .v (.string (List.getD L (2 : Nat) 
    default).s), .v (.string (ByteArray.mk #[])), .v (.string (ByteArray.mk #[])), .v (.string (ByteArray.mk #[])), .v (.int .i64 (0 : Int)), .v (.int .i64 (rdN (ByteArray.extract 
    (List.getD L (1 : Nat) default).s (0 : Nat) (Int.toNat (IntKind.wrap IntKind.i64 ((↑(ByteArray.size (List.getD L (1 : Nat) default).s) : Int) - (1 : Int))))) (1 : Int) 
    (4611686018427387904 : Int)))], .v (.int .i64 (0 : Int))]) [])))) (.chk (bif decide ((List.getD L (0 : Nat) default).s = ByteArray.mk #[(109 : UInt8), (111 : UInt8), (118 : UInt8), 
    (101 : UInt8)]) then true else true) (.br (bif decide ((List.getD L (0 : Nat) default).s = ByteArray.mk #[(109 : UInt8), (111 : UInt8), (118 : UInt8), (101 : UInt8)]) then decide 
    ((List.getD L (3 : Nat) default).s = ByteArray.mk #[(103 : UInt8), (105 : UInt8), (118 : UInt8), (101 : UInt8), (115 : UInt8)]) else false) (.chk true (.chk (cl (ByteArray.size 
    (List.getD L (4 : Nat) default).s ≤ (1000000000 : Nat) ∧ LeL [.v (.string (List.getD L (4 : Nat) default).s), .v (.int .i64 (1 : Int)), .v (.int .i64 (4611686018427387904 : Int))] 
    [.v (.string (List.getD L (4 : Nat) default).s), .v (.int .i64 (1 : Int)), .v (.int .i64 (4611686018427387904 : Int))] ∧ LeH [] [])) (.chk (bif !decide (rdE (List.getD L (4 : Nat) 
    default).s (1 : Int) (4611686018427387904 : Int) = (0 : Int)) then true else cl (smallT (Tx.mk (1 : Int) (List.getD L (2 : Nat) default).s r (ByteArray.mk #[]) (ByteArray.mk #[]) 
    (rdN (List.getD L (4 : Nat) default).s (1 : Int) (4611686018427387904 : Int)) (rdN (ByteArray.extract (List.getD L (1 : Nat) default).s (0 : Nat) (Int.toNat (IntKind.wrap 
    IntKind.i64 ((↑(ByteArray.size (List.getD L (1 : Nat) default).s) : Int) - (1 : Int))))) (1 : Int) (4611686018427387904 : Int))) ∧ LeL [.agg [.v (.int .i64 (1 : Int)), .v (.string 
    (List.getD L (2 : Nat) default).s), .v (.string r), .v (.string (ByteArray.mk #[])), .v (.string (ByteArray.mk #[])), .v (.int .i64 (rdN (List.getD L (4 : Nat) default).s (1 : Int) 
    (4611686018427387904 : Int))), .v (.int .i64 (rdN (ByteArray.extract (List.getD L (1 : Nat) default).s (0 : Nat) (Int.toNat (IntKind.wrap IntKind.i64 ((↑(ByteArray.size (List.getD 
    L (1 : Nat) default).s) : Int) - (1 : Int))))) (1 : Int) (4611686018427387904 : Int)))]] [.agg [.v (.int .i64 (1 : Int)), .v (.string (List.getD L (2 : Nat) default).s), .v 
    (.string r), .v (.string (ByteArray.mk #[])), .v (.string (ByteArray.mk #[])), .v (.int .i64 (rdN (List.getD L (4 : Nat) default).s (1 : Int) (4611686018427387904 : Int))), .v 
    (.int .i64 (rdN (ByteArray.extract (List.getD L (1 : Nat) default).s (0 : Nat) (Int.toNat (IntKind.wrap IntKind.i64 ((↑(ByteArray.size (List.getD L (1 : Nat) default).s) : Int) - 
    (1 : Int))))) (1 : Int) (4611686018427387904 : Int)))]] ∧ LeH [] [])) (.br (bif !decide (rdE (List.getD L (4 : Nat) default).s (1 : Int) (4611686018427387904 : Int) = (0 : Int)) 
    then true else !decide (erT (txB (Tx.mk (1 : Int) (List.getD L (2 : Nat) default).s r (ByteArray.mk #[]) (ByteArray.mk #[]) (rdN (List.getD L (4 : Nat) default).s (1 : Int) 
    (4611686018427387904 : Int)) (rdN (ByteArray.extract (List.getD L (1 : Nat) default).s (0 : Nat) (Int.toNat (IntKind.wrap IntKind.i64 ((↑(ByteArray.size (List.getD L (1 : Nat) 
    default).s) : Int) - (1 : Int))))) (1 : Int) (4611686018427387904 : Int)))) = (0 : Int))) (.leaf (Ans.mk (.tup [.agg [.v (.int .i64 (0 : Int)), .v (.string (ByteArray.mk #[])), .v 
    (.string (ByteArray.mk #[])), .v (.string (ByteArray.mk #[])), .v (.string (ByteArray.mk #[])), .v (.int .i64 (0 : Int)), .v (.int .i64 (0 : Int))], .v (.int .i64 (80 : Int))]) 
    [])) (.leaf (Ans.mk (.tup [.agg [.v (.int .i64 (1 : Int)), .v (.string (List.getD L (2 : Nat) default).s), .v (.string r), .v (.string (ByteArray.mk #[])), .v (.string 
    (ByteArray.mk #[])), .v (.int .i64 (rdN (List.getD L (4 : Nat) default).s (1 : Int) (4611686018427387904 : Int))), .v (.int .i64 (rdN (ByteArray.extract (List.getD L (1 : Nat) 
    default).s (0 : Nat) (Int.toNat (IntKind.wrap IntKind.i64 ((↑(ByteArray.size (List.getD L (1 : Nat) default).s) : Int) - (1 : Int))))) (1 : Int) (4611686018427387904 : Int)))], .v 
    (.int .i64 (0 : Int))]) [])))))) (.chk (bif decide ((List.getD L (0 : Nat) default).s = ByteArray.mk #[(112 : UInt8), (117 : UInt8), (116 : UInt8)]) then true else true) (.br (bif 
    decide ((List.getD L (0 : Nat) default).s = ByteArray.mk #[(112 : UInt8), (117 : UInt8), (116 : UInt8)]) then decide ((List.getD L (3 : Nat) default).s = ByteArray.mk #[(115 : 
    UInt8), (101 : UInt8), (116 : UInt8), (115 : UInt8)]) else false) (.chk true (.chk (bif !decide (rdE (ByteArray.extract (List.getD L (1 : Nat) default).s (0 : Nat) (Int.toNat 
    (IntKind.wrap IntKind.i64 ((↑(ByteArray.size (List.getD L (1 : Nat) default).s) : Int) - (1 : Int))))) (1 : Int) (4611686018427387904 : Int) = (0 : Int)) then true else cl (smallT 
    (Tx.mk (2 : Int) (List.getD L (2 : Nat) default).s (ByteArray.mk #[]) (List.getD L (4 : Nat) default).s r (0 : Int) (rdN (ByteArray.extract (List.getD L (1 : Nat) default).s (0 : 
    Nat) (Int.toNat (IntKind.wrap IntKind.i64 ((↑(ByteArray.size (List.getD L (1 : Nat) default).s) : Int) - (1 : Int))))) (1 : Int) (4611686018427387904 : Int))) ∧ LeL [.agg [.v (.int 
    .i64 (2 : Int)), .v (.string (List.getD L (2 : Nat) default).s), .v (.string (ByteArray.mk #[])), .v (.string (List.getD L (4 : Nat) default).s), .v (.string r), .v (.int .i64 (0 : 
    Int)), .v (.int .i64 (rdN (ByteArray.extract (List.getD L (1 : Nat) default).s (0 : Nat) (Int.toNat (IntKind.wrap IntKind.i64 ((↑(ByteArray.size (List.getD L (1 : Nat) default).s) 
    : Int) - (1 : Int))))) (1 : Int) (4611686018427387904 : Int)))]] [.agg [.v (.int .i64 (2 : Int)), .v (.string (List.getD L (2 : Nat) default).s), .v (.string (ByteArray.mk #[])), 
    .v (.string (List.getD L (4 : Nat) default).s), .v (.string r), .v (.int .i64 (0 : Int)), .v (.int .i64 (rdN (ByteArray.extract (List.getD L (1 : Nat) default).s (0 : Nat) 
    (Int.toNat (IntKind.wrap IntKind.i64 ((↑(ByteArray.size (List.getD L (1 : Nat) default).s) : Int) - (1 : Int))))) (1 : Int) (4611686018427387904 : Int)))]] ∧ LeH [] [])) (.br (bif 
    !decide (rdE (ByteArray.extract (List.getD L (1 : Nat) default).s (0 : Nat) (Int.toNat (IntKind.wrap IntKind.i64 ((↑(ByteArray.size (List.getD L (1 : Nat) default).s) : Int) - (1 : 
    Int))))) (1 : Int) (4611686018427387904 : Int) = (0 : Int)) then true else !decide (erT (txB (Tx.mk (2 : Int) (List.getD L (2 : Nat) default).s (ByteArray.mk #[]) (List.getD L (4 : 
    Nat) default).s r (0 : Int) (rdN (ByteArray.extract (List.getD L (1 : Nat) default).s (0 : Nat) (Int.toNat (IntKind.wrap IntKind.i64 ((↑(ByteArray.size (List.getD L (1 : Nat) 
    default).s) : Int) - (1 : Int))))) (1 : Int) (4611686018427387904 : Int)))) = (0 : Int))) (.leaf (Ans.mk (.tup [.agg [.v (.int .i64 (0 : Int)), .v (.string (ByteArray.mk #[])), .v 
    (.string (ByteArray.mk #[])), .v (.string (ByteArray.mk #[])), .v (.string (ByteArray.mk #[])), .v (.int .i64 (0 : Int)), .v (.int .i64 (0 : Int))], .v (.int .i64 (80 : Int))]) 
    [])) (.leaf (Ans.mk (.tup [.agg [.v (.int .i64 (2 : Int)), .v (.string (List.getD L (2 : Nat) default).s), .v (.string (ByteArray.mk #[])), .v (.string (List.getD L (4 : Nat) 
    default).s), .v (.string r), .v (.int .i64 (0 : Int)), .v (.int .i64 (rdN (ByteArray.extract (List.getD L (1 : Nat) default).s (0 : Nat) (Int.toNat (IntKind.wrap IntKind.i64 
    ((↑(ByteArray.size (List.getD L (1 : Nat) default).s) : Int) - (1 : Int))))) (1 : Int) (4611686018427387904 : Int)))], .v (.int .i64 (0 : Int))]) []))))) (.chk true (.br true 
    (.leaf (Ans.mk (.tup [.agg [.v (.int .i64 (0 : Int)), .v (.string (ByteArray.mk #[])), .v (.string (ByteArray.mk #[])), .v (.string (ByteArray.mk #[])), .v (.string (ByteArray.mk 
    #[])), .v (.int .i64 (0 : Int)), .v (.int .i64 (0 : Int))], .v (.int .i64 (80 : Int))]) [])) (.leaf (Ans.mk (.tup [.agg [.v (.int .i64 (0 : Int)), .v (.string (List.getD L (2 : 
    Nat) default).s), .v (.string (ByteArray.mk #[])), .v (.string (ByteArray.mk #[])), .v (.string (ByteArray.mk #[])), .v (.int .i64 (0 : Int)), .v (.int .i64 (rdN (ByteArray.extract 
    (List.getD L (1 : Nat) default).s (0 : Nat) (Int.toNat (IntKind.wrap IntKind.i64 ((↑(ByteArray.size (List.getD L (1 : Nat) default).s) : Int) - (1 : Int))))) (1 : Int) 
    (4611686018427387904 : Int)))], .v (.int .i64 (0 : Int))]) [])))))))))))))))) := by kernel_rfl
theorem runTE (s : ByteArray) (h : Answers Tryd.prog Γm 90 [.v (.string s), .v (.int .i64 6)] [] (.tup [.v (.slice none 0 0), .v (.string ⟨#[]⟩), .sb false]) [] []) : bodyE (P := Tryd.prog) (Γ := Γm) [CT.at 90 h, kRe, kTx] Lno false 112 [.cell 2 40, .tmp 3] (bodyOf Tryd.f36) [.v (.string s)] [] =
  Tree.chk (cl (LeL [.v (.string s), .v (.int .i64 (6 : Int))] [.v (.string s), .v (.int .i64 (6 : Int))] ∧ LeH [] [])) (.br true (.leaf (Ans.mk (.tup [.agg [.v (.int .i64 (0 : Int)), .v 
    (.string (ByteArray.mk #[])), .v (.string (ByteArray.mk #[])), .v (.string (ByteArray.mk #[])), .v (.string (ByteArray.mk #[])), .v (.int .i64 (0 : Int)), .v (.int .i64 (0 : 
    Int))], .v (.int .i64 (80 : Int))]) [])) .fail) := by kernel_rfl
theorem runRP (s : ByteArray) (D : List Wo) (q : Nat) : bodyE (P := Tryd.prog) (Γ := Γm) [kRr, kTxR] (fun _ => LSpec.at lvP6 [] (S6 s ⟨[], 0⟩) (O6w s (some (D, q)))) false 110 [.cell 2 40, .tmp 3] (bodyOf Tryd.f37) [.v (.string s)] [] =
  Tree.chk (cl (LeL [.v (.string s), .ptr 0 0, .v (.bool false), AV.ap (1 : Nat), .v (.int .i64 (0 : Int))] [.v (.string (ByteArray.extract s (0 : Nat) (ByteArray.size s))), .ptr 0 0, .any, 
    AV.ap (1 : Nat), .v (.int .i64 (↑(0 : Nat) : Int))] ∧ LeH [some (.row [.v (.int .i64 (0 : Int)), .v (.string (ByteArray.mk #[])), .v (.string (ByteArray.mk #[])), .v (.string 
    (ByteArray.mk #[])), .v (.string (ByteArray.mk #[])), .v (.int .i64 (0 : Int)), .v (.int .i64 (0 : Int))]), some (.arr 1 (6 : Nat) fun x => [.v (.string (bif Nat.beq x (0 : Nat) 
    then ByteArray.mk #[] else bif Nat.beq x (1 : Nat) then ByteArray.mk #[] else bif Nat.beq x (2 : Nat) then ByteArray.mk #[] else bif Nat.beq x (3 : Nat) then ByteArray.mk #[] else 
    bif Nat.beq x (4 : Nat) then ByteArray.mk #[] else bif Nat.beq x (5 : Nat) then ByteArray.mk #[] else ByteArray.mk #[]))])] [some (.row [.v (.int .i64 (0 : Int)), .v (.string 
    (ByteArray.mk #[])), .v (.string (ByteArray.mk #[])), .v (.string (ByteArray.mk #[])), .v (.string (ByteArray.mk #[])), .v (.int .i64 (0 : Int)), .v (.int .i64 (0 : Int))]), some 
    (.arr 1 (6 : Nat) (lsF Wo.c (X6.mk (List.length (Y6.mk [] (0 : Nat)).D) (ByteArray.extract s (Y6.mk [] (0 : Nat)).q (ByteArray.size s)) ((Y6.mk [] (0 : Nat)).D ++ List.replicate 
    ((6 : Nat) - List.length (Y6.mk [] (0 : Nat)).D) default)).L))])) (.chk true (.chk (bif decide ((↑(ByteArray.size (List.getD D (Int.toNat (1 : Int)) default).s) : Int) < (2 : Int)) 
    then true else decide ((0 : Int) ≤ IntKind.wrap IntKind.i64 ((↑(ByteArray.size (List.getD D (Int.toNat (1 : Int)) default).s) : Int) - (1 : Int))) && decide (IntKind.wrap 
    IntKind.i64 ((↑(ByteArray.size (List.getD D (Int.toNat (1 : Int)) default).s) : Int) - (1 : Int)) < (↑(ByteArray.size (List.getD D (Int.toNat (1 : Int)) default).s) : Int)) && bif 
    !decide (sbyte (List.getD D (Int.toNat (1 : Int)) default).s (Int.toNat (IntKind.wrap IntKind.i64 ((↑(ByteArray.size (List.getD D (Int.toNat (1 : Int)) default).s) : Int) - (1 : 
    Int)))) = (58 : Int)) then true else true) (.br (bif decide ((↑(ByteArray.size (List.getD D (Int.toNat (1 : Int)) default).s) : Int) < (2 : Int)) then true else bif !decide (sbyte 
    (List.getD D (Int.toNat (1 : Int)) default).s (Int.toNat (IntKind.wrap IntKind.i64 ((↑(ByteArray.size (List.getD D (Int.toNat (1 : Int)) default).s) : Int) - (1 : Int)))) = (58 : 
    Int)) then true else !decide ((List.getD D (Int.toNat (5 : Int)) default).s = ByteArray.mk #[(116 : UInt8), (111 : UInt8)])) (.leaf (Ans.mk (.tup [.agg [.v (.int .i64 (0 : Int)), 
    .v (.string (ByteArray.mk #[])), .v (.string (ByteArray.mk #[])), .v (.string (ByteArray.mk #[])), .v (.string (ByteArray.mk #[])), .v (.int .i64 (0 : Int)), .v (.int .i64 (0 : 
    Int))], .v (.bool false)]) [])) (.chk (decide ((↑(0 : Nat) : Int) ≤ IntKind.wrap IntKind.i64 ((↑(ByteArray.size (List.getD D (Int.toNat (1 : Int)) default).s) : Int) - (1 : Int))) 
    && decide (IntKind.wrap IntKind.i64 ((↑(ByteArray.size (List.getD D (Int.toNat (1 : Int)) default).s) : Int) - (1 : Int)) ≤ (↑(ByteArray.size (List.getD D (Int.toNat (1 : Int)) 
    default).s) : Int)) && cl (ByteArray.size (ByteArray.extract (List.getD D (Int.toNat (1 : Int)) default).s (0 : Nat) (Int.toNat (IntKind.wrap IntKind.i64 ((↑(ByteArray.size 
    (List.getD D (Int.toNat (1 : Int)) default).s) : Int) - (1 : Int))))) ≤ (1000000000 : Nat) ∧ LeL [.v (.string (ByteArray.extract (List.getD D (Int.toNat (1 : Int)) default).s (0 : 
    Nat) (Int.toNat (IntKind.wrap IntKind.i64 ((↑(ByteArray.size (List.getD D (Int.toNat (1 : Int)) default).s) : Int) - (1 : Int)))))), .v (.int .i64 (1 : Int)), .v (.int .i64 
    (4611686018427387904 : Int))] [.v (.string (ByteArray.extract (List.getD D (Int.toNat (1 : Int)) default).s (0 : Nat) (Int.toNat (IntKind.wrap IntKind.i64 ((↑(ByteArray.size 
    (List.getD D (Int.toNat (1 : Int)) default).s) : Int) - (1 : Int)))))), .v (.int .i64 (1 : Int)), .v (.int .i64 (4611686018427387904 : Int))] ∧ LeH [] [])) (.br (!decide (rdE 
    (ByteArray.extract (List.getD D (Int.toNat (1 : Int)) default).s (0 : Nat) (Int.toNat (IntKind.wrap IntKind.i64 ((↑(ByteArray.size (List.getD D (Int.toNat (1 : Int)) default).s) : 
    Int) - (1 : Int))))) (1 : Int) (4611686018427387904 : Int) = (0 : Int))) (.leaf (Ans.mk (.tup [.agg [.v (.int .i64 (0 : Int)), .v (.string (ByteArray.mk #[])), .v (.string 
    (ByteArray.mk #[])), .v (.string (ByteArray.mk #[])), .v (.string (ByteArray.mk #[])), .v (.int .i64 (0 : Int)), .v (.int .i64 (0 : Int))], .v (.bool false)]) [])) (.chk true (.chk 
    (bif decide ((List.getD D (Int.toNat (0 : Int)) default).s = ByteArray.mk #[(109 : UInt8), (111 : UInt8), (118 : UInt8), (101 : UInt8)]) then true else true) (.br (bif decide 
    ((List.getD D (Int.toNat (0 : Int)) default).s = ByteArray.mk #[(109 : UInt8), (111 : UInt8), (118 : UInt8), (101 : UInt8)]) then decide ((List.getD D (Int.toNat (3 : Int)) 
    default).s = ByteArray.mk #[(103 : UInt8), (105 : UInt8), (118 : UInt8), (101 : UInt8), (115 : UInt8)]) else false) (.chk (cl (ByteArray.size (List.getD D (Int.toNat (4 : Int)) 
    default).s ≤ (1000000000 : Nat) ∧ LeL [.v (.string (List.getD D (Int.toNat (4 : Int)) default).s), .v (.int .i64 (1 : Int)), .v (.int .i64 (4611686018427387904 : Int))] [.v 
    (.string (List.getD D (Int.toNat (4 : Int)) default).s), .v (.int .i64 (1 : Int)), .v (.int .i64 (4611686018427387904 : Int))] ∧ LeH [] [])) (.br (!decide (rdE (List.getD D 
    (Int.toNat (4 : Int)) default).s (1 : Int) (4611686018427387904 : Int) = (0 : Int))) (.leaf (Ans.mk (.tup [.agg [.v (.int .i64 (0 : Int)), .v (.string (ByteArray.mk #[])), .v 
    (.string (ByteArray.mk #[])), .v (.string (ByteArray.mk #[])), .v (.string (ByteArray.mk #[])), .v (.int .i64 (0 : Int)), .v (.int .i64 (0 : Int))], .v (.bool false)]) [])) (.chk 
    (cl (smallT (Tx.mk (1 : Int) (List.getD D (Int.toNat (2 : Int)) default).s (ByteArray.extract s q (ByteArray.size s)) (ByteArray.mk #[]) (ByteArray.mk #[]) (rdN (List.getD D 
    (Int.toNat (4 : Int)) default).s (1 : Int) (4611686018427387904 : Int)) (rdN (ByteArray.extract (List.getD D (Int.toNat (1 : Int)) default).s (0 : Nat) (Int.toNat (IntKind.wrap 
    IntKind.i64 ((↑(ByteArray.size (List.getD D (Int.toNat (1 : Int)) default).s) : Int) - (1 : Int))))) (1 : Int) (4611686018427387904 : Int))) ∧ LeL [.agg [.v (.int .i64 (1 : Int)), 
    .v (.string (List.getD D (Int.toNat (2 : Int)) default).s), .v (.string (ByteArray.extract s q (ByteArray.size s))), .v (.string (ByteArray.mk #[])), .v (.string (ByteArray.mk 
    #[])), .v (.int .i64 (rdN (List.getD D (Int.toNat (4 : Int)) default).s (1 : Int) (4611686018427387904 : Int))), .v (.int .i64 (rdN (ByteArray.extract (List.getD D (Int.toNat (1 : 
    Int)) default).s (0 : Nat) (Int.toNat (IntKind.wrap IntKind.i64 ((↑(ByteArray.size (List.getD D (Int.toNat (1 : Int)) default).s) : Int) - (1 : Int))))) (1 : Int) 
    (4611686018427387904 : Int)))]] [.agg [.v (.int .i64 (1 : Int)), .v (.string (List.getD D (Int.toNat (2 : Int)) default).s), .v (.string (ByteArray.extract s q (ByteArray.size 
    s))), .v (.string (ByteArray.mk #[])), .v (.string (ByteArray.mk #[])), .v (.int .i64 (rdN (List.getD D (Int.toNat (4 : Int)) default).s (1 : Int) (4611686018427387904 : Int))), .v 
    (.int .i64 (rdN (ByteArray.extract (List.getD D (Int.toNat (1 : Int)) default).s (0 : Nat) (Int.toNat (IntKind.wrap IntKind.i64 ((↑(ByteArray.size (List.getD D (Int.toNat (1 : 
    Int)) default).s) : Int) - (1 : Int))))) (1 : Int) (4611686018427387904 : Int)))]] ∧ LeH [] [])) (.br (!txB (Tx.mk (1 : Int) (List.getD D (Int.toNat (2 : Int)) default).s 
    (ByteArray.extract s q (ByteArray.size s)) (ByteArray.mk #[]) (ByteArray.mk #[]) (rdN (List.getD D (Int.toNat (4 : Int)) default).s (1 : Int) (4611686018427387904 : Int)) (rdN 
    (ByteArray.extract (List.getD D (Int.toNat (1 : Int)) default).s (0 : Nat) (Int.toNat (IntKind.wrap IntKind.i64 ((↑(ByteArray.size (List.getD D (Int.toNat (1 : Int)) default).s) : 
    Int) - (1 : Int))))) (1 : Int) (4611686018427387904 : Int)))) (.leaf (Ans.mk (.tup [.agg [.v (.int .i64 (0 : Int)), .v (.string (ByteArray.mk #[])), .v (.string (ByteArray.mk 
    #[])), .v (.string (ByteArray.mk #[])), .v (.string (ByteArray.mk #[])), .v (.int .i64 (0 : Int)), .v (.int .i64 (0 : Int))], .v (.bool false)]) [])) (.leaf (Ans.mk (.tup [.agg [.v 
    (.int .i64 (1 : Int)), .v (.string (List.getD D (Int.toNat (2 : Int)) default).s), .v (.string (ByteArray.extract s q (ByteArray.size s))), .v (.string (ByteArray.mk #[])), .v 
    (.string (ByteArray.mk #[])), .v (.int .i64 (rdN (List.getD D (Int.toNat (4 : Int)) default).s (1 : Int) (4611686018427387904 : Int))), .v (.int .i64 (rdN (ByteArray.extract 
    (List.getD D (Int.toNat (1 : Int)) default).s (0 : Nat) (Int.toNat (IntKind.wrap IntKind.i64 ((↑(ByteArray.size (List.getD D (Int.toNat (1 : Int)) default).s) : Int) - (1 : 
    Int))))) (1 : Int) (4611686018427387904 : Int)))], .v (.bool true)]) [])))))) (.chk (bif decide ((List.getD D (Int.toNat (0 : Int)) default).s = ByteArray.mk #[(112 : UInt8), (117 
    : UInt8), (116 : UInt8)]) then true else true) (.br (bif decide ((List.getD D (Int.toNat (0 : Int)) default).s = ByteArray.mk #[(112 : UInt8), (117 : UInt8), (116 : UInt8)]) then 
    decide ((List.getD D (Int.toNat (3 : Int)) default).s = ByteArray.mk #[(115 : UInt8), (101 : UInt8), (116 : UInt8), (115 : UInt8)]) else false) (.chk true (.chk (cl (smallT (Tx.mk 
    (2 : Int) (List.getD D (Int.toNat (2 : Int)) default).s (ByteArray.mk #[]) (List.getD D (Int.toNat (4 : Int)) default).s (ByteArray.extract s q (ByteArray.size s)) (0 : Int) (rdN 
    (ByteArray.extract (List.getD D (Int.toNat (1 : Int)) default).s (0 : Nat) (Int.toNat (IntKind.wrap IntKind.i64 ((↑(ByteArray.size (List.getD D (Int.toNat (1 : Int)) default).s) : 
    Int) - (1 : Int))))) (1 : Int) (4611686018427387904 : Int))) ∧ LeL [.agg [.v (.int .i64 (2 : Int)), .v (.string (List.getD D (Int.toNat (2 : Int)) default).s), .v (.string 
    (ByteArray.mk #[])), .v (.string (List.getD D (Int.toNat (4 : Int)) default).s), .v (.string (ByteArray.extract s q (ByteArray.size s))), .v (.int .i64 (0 : Int)), .v (.int .i64 
    (rdN (ByteArray.extract (List.getD D (Int.toNat (1 : Int)) default).s (0 : Nat) (Int.toNat (IntKind.wrap IntKind.i64 ((↑(ByteArray.size (List.getD D (Int.toNat (1 : Int)) 
    default).s) : Int) - (1 : Int))))) (1 : Int) (4611686018427387904 : Int)))]] [.agg [.v (.int .i64 (2 : Int)), .v (.string (List.getD D (Int.toNat (2 : Int)) default).s), .v 
    (.string (ByteArray.mk #[])), .v (.string (List.getD D (Int.toNat (4 : Int)) default).s), .v (.string (ByteArray.extract s q (ByteArray.size s))), .v (.int .i64 (0 : Int)), .v 
    (.int .i64 (rdN (ByteArray.extract (List.getD D (Int.toNat (1 : Int)) default).s (0 : Nat) (Int.toNat (IntKind.wrap IntKind.i64 ((↑(ByteArray.size (List.getD D (Int.toNat (1 : 
    Int)) default).s) : Int) - (1 : Int))))) (1 : Int) (4611686018427387904 : Int)))]] ∧ LeH [] [])) (.br (!txB (Tx.mk (2 : Int) (List.getD D (Int.toNat (2 : Int)) default).s 
    (ByteArray.mk #[]) (List.getD D (Int.toNat (4 : Int)) default).s (ByteArray.extract s q (ByteArray.size s)) (0 : Int) (rdN (ByteArray.extract (List.getD D (Int.toNat (1 : Int)) 
    default).s (0 : Nat) (Int.toNat (IntKind.wrap IntKind.i64 ((↑(ByteArray.size (List.getD D (Int.toNat (1 : Int)) default).s) : Int) - (1 : Int))))) (1 : Int) (4611686018427387904 : 
    Int)))) (.leaf (Ans.mk (.tup [.agg [.v (.int .i64 (0 : Int)), .v (.string (ByteArray.mk #[])), .v (.string (ByteArray.mk #[])), .v (.string (ByteArray.mk #[])), .v (.string 
    (ByteArray.mk #[])), .v (.int .i64 (0 : Int)), .v (.int .i64 (0 : Int))], .v (.bool false)]) [])) (.leaf (Ans.mk (.tup [.agg [.v (.int .i64 (2 : Int)), .v (.string (List.getD D 
    (Int.toNat (2 : Int)) default).s), .v (.string (ByteArray.mk #[])), .v (.string (List.getD D (Int.toNat (4 : Int)) default).s), .v (.string (ByteArray.extract s q (ByteArray.size 
    s))), .v (.int .i64 (0 : Int)), .v (.int .i64 (rdN (ByteArray.extract (List.getD D (Int.toNat (1 : Int)) default).s (0 : Nat) (Int.toNat (IntKind.wrap IntKind.i64 
    ((↑(ByteArray.size (List.getD D (Int.toNat (1 : Int)) default).s) : Int) - (1 : Int))))) (1 : Int) (4611686018427387904 : Int)))], .v (.bool true)]) []))))) (.chk (cl (smallT 
    (Tx.mk (0 : Int) (List.getD D (Int.toNat (2 : Int)) default).s (ByteArray.mk #[]) (ByteArray.mk #[]) (ByteArray.mk #[]) (0 : Int) (rdN (ByteArray.extract (List.getD D (Int.toNat (1 
    : Int)) default).s (0 : Nat) (Int.toNat (IntKind.wrap IntKind.i64 ((↑(ByteArray.size (List.getD D (Int.toNat (1 : Int)) default).s) : Int) - (1 : Int))))) (1 : Int) 
    (4611686018427387904 : Int))) ∧ LeL [.agg [.v (.int .i64 (0 : Int)), .v (.string (List.getD D (Int.toNat (2 : Int)) default).s), .v (.string (ByteArray.mk #[])), .v (.string 
    (ByteArray.mk #[])), .v (.string (ByteArray.mk #[])), .v (.int .i64 (0 : Int)), .v (.int .i64 (rdN (ByteArray.extract (List.getD D (Int.toNat (1 : Int)) default).s (0 : Nat) 
    (Int.toNat (IntKind.wrap IntKind.i64 ((↑(ByteArray.size (List.getD D (Int.toNat (1 : Int)) default).s) : Int) - (1 : Int))))) (1 : Int) (4611686018427387904 : Int)))]] [.agg [.v 
    (.int .i64 (0 : Int)), .v (.string (List.getD D (Int.toNat (2 : Int)) default).s), .v (.string (ByteArray.mk #[])), .v (.string (ByteArray.mk #[])), .v (.string (ByteArray.mk 
    #[])), .v (.int .i64 (0 : Int)), .v (.int .i64 (rdN (ByteArray.extract (List.getD D (Int.toNat (1 : Int)) default).s (0 : Nat) (Int.toNat (IntKind.wrap IntKind.i64 
    ((↑(ByteArray.size (List.getD D (Int.toNat (1 : Int)) default).s) : Int) - (1 : Int))))) (1 : Int) (4611686018427387904 : Int)))]] ∧ LeH [] [])) (.br (!txB (Tx.mk (0 : Int) 
    (List.getD D (Int.toNat (2 : Int)) default).s (ByteArray.mk #[]) (ByteArray.mk #[]) (ByteArray.mk #[]) (0 : Int) (rdN (ByteArray.extract (List.getD D (Int.toNat (1 : Int)) 
    default).s (0 : Nat) (Int.toNat (IntKind.wrap IntKind.i64 ((↑(ByteArray.size (List.getD D (Int.toNat (1 : Int)) default).s) : Int) - (1 : Int))))) (1 : Int) (4611686018427387904 : 
    Int)))) (.leaf (Ans.mk (.tup [.agg [.v (.int .i64 (0 : Int)), .v (.string (ByteArray.mk #[])), .v (.string (ByteArray.mk #[])), .v (.string (ByteArray.mk #[])), .v (.string 
    (ByteArray.mk #[])), .v (.int .i64 (0 : Int)), .v (.int .i64 (0 : Int))], .v (.bool false)]) [])) (.leaf (Ans.mk (.tup [.agg [.v (.int .i64 (0 : Int)), .v (.string (List.getD D 
    (Int.toNat (2 : Int)) default).s), .v (.string (ByteArray.mk #[])), .v (.string (ByteArray.mk #[])), .v (.string (ByteArray.mk #[])), .v (.int .i64 (0 : Int)), .v (.int .i64 (rdN 
    (ByteArray.extract (List.getD D (Int.toNat (1 : Int)) default).s (0 : Nat) (Int.toNat (IntKind.wrap IntKind.i64 ((↑(ByteArray.size (List.getD D (Int.toNat (1 : Int)) default).s) : 
    Int) - (1 : Int))))) (1 : Int) (4611686018427387904 : Int)))], .v (.bool true)]) [])))))))))))))) := by kernel_rfl
theorem runRE (s : ByteArray) : bodyE (P := Tryd.prog) (Γ := Γm) [kRr, kTxR] (fun _ => LSpec.at lvP6 [] (S6 s ⟨[], 0⟩) (O6w s none)) false 110 [.cell 2 40, .tmp 3] (bodyOf Tryd.f37) [.v (.string s)] [] =
  Tree.chk (cl (LeL [.v (.string s), .ptr 0 0, .v (.bool false), AV.ap (1 : Nat), .v (.int .i64 (0 : Int))] [.v (.string (ByteArray.extract s (0 : Nat) (ByteArray.size s))), .ptr 0 0, .any, 
    AV.ap (1 : Nat), .v (.int .i64 (↑(0 : Nat) : Int))] ∧ LeH [some (.row [.v (.int .i64 (0 : Int)), .v (.string (ByteArray.mk #[])), .v (.string (ByteArray.mk #[])), .v (.string 
    (ByteArray.mk #[])), .v (.string (ByteArray.mk #[])), .v (.int .i64 (0 : Int)), .v (.int .i64 (0 : Int))]), some (.arr 1 (6 : Nat) fun x => [.v (.string (bif Nat.beq x (0 : Nat) 
    then ByteArray.mk #[] else bif Nat.beq x (1 : Nat) then ByteArray.mk #[] else bif Nat.beq x (2 : Nat) then ByteArray.mk #[] else bif Nat.beq x (3 : Nat) then ByteArray.mk #[] else 
    bif Nat.beq x (4 : Nat) then ByteArray.mk #[] else bif Nat.beq x (5 : Nat) then ByteArray.mk #[] else ByteArray.mk #[]))])] [some (.row [.v (.int .i64 (0 : Int)), .v (.string 
    (ByteArray.mk #[])), .v (.string (ByteArray.mk #[])), .v (.string (ByteArray.mk #[])), .v (.string (ByteArray.mk #[])), .v (.int .i64 (0 : Int)), .v (.int .i64 (0 : Int))]), some 
    (.arr 1 (6 : Nat) (lsF Wo.c (X6.mk (List.length (Y6.mk [] (0 : Nat)).D) (ByteArray.extract s (Y6.mk [] (0 : Nat)).q (ByteArray.size s)) ((Y6.mk [] (0 : Nat)).D ++ List.replicate 
    ((6 : Nat) - List.length (Y6.mk [] (0 : Nat)).D) default)).L))])) (.leaf (Ans.mk (.tup [.agg [.v (.int .i64 (0 : Int)), .v (.string (ByteArray.mk #[])), .v (.string (ByteArray.mk 
    #[])), .v (.string (ByteArray.mk #[])), .v (.string (ByteArray.mk #[])), .v (.int .i64 (0 : Int)), .v (.int .i64 (0 : Int))], .v (.bool false)]) [])) := by kernel_rfl
end Go.Eng.TA

namespace Go.Eng.TA
open Go Go.Eng Go.Eng.M Go.Lib Go.Proofs
abbrev e0 : ByteArray := ⟨#[]⟩
def tz : Tx := ⟨0, e0, e0, e0, e0, 0, 0⟩
def n1 (w1 : ByteArray) : ByteArray := w1.extract 0 (w1.size - 1)
def hdB (w1 w5 : ByteArray) : Bool := decide (w5 = ⟨#[116, 111]⟩) && (decide (¬ w1 = e0) && decide (bN w1 (w1.size - 1) = 58))
noncomputable def t1 (w1 w2 w4 r : ByteArray) : Tx := ⟨1, w2, r, e0, e0, rdN w4 1 4611686018427387904, rdN (n1 w1) 1 4611686018427387904⟩
noncomputable def t2 (w1 w2 w4 r : ByteArray) : Tx := ⟨2, w2, e0, w4, r, 0, rdN (n1 w1) 1 4611686018427387904⟩
def mvB (w0 w3 : ByteArray) : Bool := decide (w0 = ⟨#[109, 111, 118, 101]⟩) && decide (w3 = ⟨#[103, 105, 118, 101, 115]⟩)
def ptB (w0 w3 : ByteArray) : Bool := decide (w0 = ⟨#[112, 117, 116]⟩) && decide (w3 = ⟨#[115, 101, 116, 115]⟩)
noncomputable def pT (w0 w1 w2 w3 w4 w5 r : ByteArray) : Option Tx :=
  if hdB w1 w5 = false then none else
  if ¬ rdE (n1 w1) 1 4611686018427387904 = 0 then none else
  if mvB w0 w3 = true then (if rdE w4 1 4611686018427387904 = 0 ∧ txB (t1 w1 w2 w4 r) = true then some (t1 w1 w2 w4 r) else none) else
  if ptB w0 w3 = true then (if txB (t2 w1 w2 w4 r) = true then some (t2 w1 w2 w4 r) else none) else none
def resP (o : Option Tx) : AV := .tup [txV (o.getD tz), .v (.int .i64 (if o.isSome then 0 else 80))]
def resR (o : Option Tx) : AV := .tup [txV (o.getD tz), .sb o.isSome]
theorem rd_empty (lo hi : Int) : ¬ rdE e0 lo hi = 0 := by
  have : fmB e0 = false := by
    rw [Bool.eq_false_iff]
    intro h
    have := (cl_iff.1 h).2.1
    have h2 := bd_le (s := e0)
    have h3 : e0.size = 0 := rfl
    omega
  unfold rdE
  rw [this, if_neg Bool.false_ne_true]
  omega
theorem n1_one {w : ByteArray} (h : w.size = 1) : n1 w = e0 := bN_eq (by unfold n1; rw [ext_size _ _ _ (by omega), h]; rfl) (fun j hj => by
  unfold n1 at hj; rw [ext_size _ _ _ (by omega)] at hj; omega)
theorem ansTP {s r : ByteArray} {L : List Wo} (h : Answers Tryd.prog Γm 90 [.v (.string s), .v (.int .i64 6)] [] (.tup [.hs 0 0 6, .v (.string r), .sb true]) [] [.arr 1 6 (lsF Wo.c L)]) (hr : r.size ≤ 10000000) (hL : ∀ i, (L.getD i default).s.size ≤ 10000000) :
    Answers Tryd.prog Γm 36 [.v (.string s)] [] (resP (pT (L.getD 0 default).s (L.getD 1 default).s (L.getD 2 default).s (L.getD 3 default).s (L.getD 4 default).s (L.getD 5 default).s r)) [] [] := by
  refine answers (fn := Tryd.f36) (c := bodyOf Tryd.f36) (ntmps := 112) (results := [.cell 2 40, .tmp 3]) [CT.at 90 h, kRe, kTx] (Lno) false Tryd.func36 (by kernel_rfl) (by kernel_rfl) (by kernel_rfl) (by kernel_rfl) (by simp) rfl (failOK fun _ _ _ => rfl) <| Meets.of (runTP s r L h) <| ?_
  have s1 := hL 1
  have s2 := hL 2
  have s4 := hL 4
  generalize (L.getD 0 default).s = w0 at *
  generalize (L.getD 1 default).s = w1 at *
  generalize (L.getD 2 default).s = w2 at *
  generalize (L.getD 3 default).s = w3 at *
  generalize (L.getD 4 default).s = w4 at *
  generalize (L.getD 5 default).s = w5 at *
  clear h hL
  have hE : w1 = e0 ↔ w1.size = 0 := emp_size
  have hnz : (n1 w1).size ≤ 1000000000 := by unfold n1; rw [ext_size _ _ _ (by omega)]; omega
  by_cases hd : hdB w1 w5 = true
  · have hd' := hd
    unfold hdB at hd'
    simp only [Bool.and_eq_true, decide_eq_true_eq] at hd'
    obtain ⟨d1, d2, d3⟩ := hd'
    rw [hE] at d2
    have hw : IntKind.wrap IntKind.i64 ((w1.size : Int) - 1) = ((w1.size - 1 : Nat) : Int) := by rw [wrap64 (by omega) (by omega)]; omega
    have hb : sbyte w1 (w1.size - 1) = (58 : Int) := by show ((bN w1 (w1.size - 1) : Nat) : Int) = 58; rw [d3]; rfl
    have q1 : decide (w5 = ⟨#[116, 111]⟩) = true := decide_eq_true d1
    have q2 : decide (w1 = e0) = false := decide_eq_false (by rw [hE]; exact d2)
    have hn : w1.extract 0 (w1.size - 1) = n1 w1 := rfl
    simp only [hw, Int.toNat_natCast, hb, q1, q2, hn]
    have g1 : smallT (t1 w1 w2 w4 r) := ⟨s2, hr, Nat.zero_le _, Nat.zero_le _⟩
    have g2 : smallT (t2 w1 w2 w4 r) := ⟨s2, Nat.zero_le _, s4, hr⟩
    have s4 : w4.size ≤ 1000000000 := by omega
    have et : erT true = 0 := rfl
    have ef : erT false = 80 := rfl
    have x1 : (Tx.mk 1 w2 r e0 e0 (rdN w4 1 4611686018427387904) (rdN (n1 w1) 1 4611686018427387904)) = t1 w1 w2 w4 r := rfl
    have x2 : (Tx.mk 2 w2 e0 w4 r 0 (rdN (n1 w1) 1 4611686018427387904)) = t2 w1 w2 w4 r := rfl
    simp only [x1, x2, condSelf]
    by_cases k1 : rdE (n1 w1) 1 4611686018427387904 = 0
    · have mE : (bif decide (w0 = ⟨#[109, 111, 118, 101]⟩) then decide (w3 = ⟨#[103, 105, 118, 101, 115]⟩) else false) = mvB w0 w3 := by unfold mvB; cases decide (w0 = ⟨#[109, 111, 118, 101]⟩) <;> rfl
      have pE : (bif decide (w0 = ⟨#[112, 117, 116]⟩) then decide (w3 = ⟨#[115, 101, 116, 115]⟩) else false) = ptB w0 w3 := by unfold ptB; cases decide (w0 = ⟨#[112, 117, 116]⟩) <;> rfl
      simp only [mE, pE]
      cases k2 : mvB w0 w3 with
      | true =>
        by_cases k3 : rdE w4 1 4611686018427387904 = 0
        · cases k4 : txB (t1 w1 w2 w4 r) with
          | true =>
            have hp : pT w0 w1 w2 w3 w4 w5 r = some (t1 w1 w2 w4 r) := by unfold pT; simp [hd, k1, k2, k3, k4]
            rw [hp]
            repeat' (first | refine wC (by first | omega | (simp only [W1, cond_true, cond_false, k1, k3, k4, hnz, s4, g1, g2, et, ef]; first | done | omega)) ?_ | refine wT (by first | omega | (simp only [W1, cond_true, cond_false, k1, k3, k4, hnz, s4, g1, g2, et, ef]; first | done | omega)) ?_ | refine wF (by intro _h; first | omega | (simp only [W1, cond_true, cond_false, k1, k3, k4, hnz, s4, g1, g2, et, ef] at _h; first | done | omega)) ?_ | (refine wS ?_ ?_ <;> intro _h <;> simp only [W1, cond_true, cond_false, k1, k3, k4, hnz, s4, g1, g2, et, ef] at _h))
            all_goals simp only [W1, W2, owesN, owesX, owesR, cond_true, cond_false, k1, k3, k4, hnz, s4, g1, g2, et, ef]
            repeat' (first | apply And.intro | intro _hc)
            all_goals first | exact tup2 (.refl _) (leI rfl) | exact AV.le_refl _ | exact AV.le_any _ | exact OLe.refl _ | exact OLe.none _ | exact LeH.refl _ | exact LeL.refl _ | exact AV.le.bs _ | exact AV.le.sb _ | omega | contradiction
          | false =>
            have hp : pT w0 w1 w2 w3 w4 w5 r = none := by unfold pT; simp [hd, k1, k2, k3, k4]
            rw [hp]
            repeat' (first | refine wC (by first | omega | (simp only [W1, cond_true, cond_false, k1, k3, k4, hnz, s4, g1, g2, et, ef]; first | done | omega)) ?_ | refine wT (by first | omega | (simp only [W1, cond_true, cond_false, k1, k3, k4, hnz, s4, g1, g2, et, ef]; first | done | omega)) ?_ | refine wF (by intro _h; first | omega | (simp only [W1, cond_true, cond_false, k1, k3, k4, hnz, s4, g1, g2, et, ef] at _h; first | done | omega)) ?_ | (refine wS ?_ ?_ <;> intro _h <;> simp only [W1, cond_true, cond_false, k1, k3, k4, hnz, s4, g1, g2, et, ef] at _h))
            all_goals simp only [W1, W2, owesN, owesX, owesR, cond_true, cond_false, k1, k3, k4, hnz, s4, g1, g2, et, ef]
            repeat' (first | apply And.intro | intro _hc)
            all_goals first | exact tup2 (.refl _) (leI rfl) | exact AV.le_refl _ | exact AV.le_any _ | exact OLe.refl _ | exact OLe.none _ | exact LeH.refl _ | exact LeL.refl _ | exact AV.le.bs _ | exact AV.le.sb _ | omega | contradiction
        · have hp : pT w0 w1 w2 w3 w4 w5 r = none := by unfold pT; simp [hd, k1, k2, k3]
          rw [hp]
          repeat' (first | refine wC (by first | omega | (simp only [W1, cond_true, cond_false, k1, k3, hnz, s4, g1, g2, et, ef]; first | done | omega)) ?_ | refine wT (by first | omega | (simp only [W1, cond_true, cond_false, k1, k3, hnz, s4, g1, g2, et, ef]; first | done | omega)) ?_ | refine wF (by intro _h; first | omega | (simp only [W1, cond_true, cond_false, k1, k3, hnz, s4, g1, g2, et, ef] at _h; first | done | omega)) ?_ | (refine wS ?_ ?_ <;> intro _h <;> simp only [W1, cond_true, cond_false, k1, k3, hnz, s4, g1, g2, et, ef] at _h))
          all_goals simp only [W1, W2, owesN, owesX, owesR, cond_true, cond_false, k1, k3, hnz, s4, g1, g2, et, ef]
          repeat' (first | apply And.intro | intro _hc)
          all_goals first | exact tup2 (.refl _) (leI rfl) | exact AV.le_refl _ | exact AV.le_any _ | exact OLe.refl _ | exact OLe.none _ | exact LeH.refl _ | exact LeL.refl _ | exact AV.le.bs _ | exact AV.le.sb _ | omega | contradiction
      | false =>
        cases k5 : ptB w0 w3 with
        | true =>
          cases k4 : txB (t2 w1 w2 w4 r) with
          | true =>
            have hp : pT w0 w1 w2 w3 w4 w5 r = some (t2 w1 w2 w4 r) := by unfold pT; simp [hd, k1, k2, k5, k4]
            rw [hp]
            repeat' (first | refine wC (by first | omega | (simp only [W1, cond_true, cond_false, k1, k4, hnz, s4, g1, g2, et, ef]; first | done | omega)) ?_ | refine wT (by first | omega | (simp only [W1, cond_true, cond_false, k1, k4, hnz, s4, g1, g2, et, ef]; first | done | omega)) ?_ | refine wF (by intro _h; first | omega | (simp only [W1, cond_true, cond_false, k1, k4, hnz, s4, g1, g2, et, ef] at _h; first | done | omega)) ?_ | (refine wS ?_ ?_ <;> intro _h <;> simp only [W1, cond_true, cond_false, k1, k4, hnz, s4, g1, g2, et, ef] at _h))
            all_goals simp only [W1, W2, owesN, owesX, owesR, cond_true, cond_false, k1, k4, hnz, s4, g1, g2, et, ef]
            repeat' (first | apply And.intro | intro _hc)
            all_goals first | exact tup2 (.refl _) (leI rfl) | exact AV.le_refl _ | exact AV.le_any _ | exact OLe.refl _ | exact OLe.none _ | exact LeH.refl _ | exact LeL.refl _ | exact AV.le.bs _ | exact AV.le.sb _ | omega | contradiction
          | false =>
            have hp : pT w0 w1 w2 w3 w4 w5 r = none := by unfold pT; simp [hd, k1, k2, k5, k4]
            rw [hp]
            repeat' (first | refine wC (by first | omega | (simp only [W1, cond_true, cond_false, k1, k4, hnz, s4, g1, g2, et, ef]; first | done | omega)) ?_ | refine wT (by first | omega | (simp only [W1, cond_true, cond_false, k1, k4, hnz, s4, g1, g2, et, ef]; first | done | omega)) ?_ | refine wF (by intro _h; first | omega | (simp only [W1, cond_true, cond_false, k1, k4, hnz, s4, g1, g2, et, ef] at _h; first | done | omega)) ?_ | (refine wS ?_ ?_ <;> intro _h <;> simp only [W1, cond_true, cond_false, k1, k4, hnz, s4, g1, g2, et, ef] at _h))
            all_goals simp only [W1, W2, owesN, owesX, owesR, cond_true, cond_false, k1, k4, hnz, s4, g1, g2, et, ef]
            repeat' (first | apply And.intro | intro _hc)
            all_goals first | exact tup2 (.refl _) (leI rfl) | exact AV.le_refl _ | exact AV.le_any _ | exact OLe.refl _ | exact OLe.none _ | exact LeH.refl _ | exact LeL.refl _ | exact AV.le.bs _ | exact AV.le.sb _ | omega | contradiction
        | false =>
          have hp : pT w0 w1 w2 w3 w4 w5 r = none := by unfold pT; simp [hd, k1, k2, k5]
          rw [hp]
          repeat' (first | refine wC (by first | omega | (simp only [W1, cond_true, cond_false, k1, hnz, s4, g1, g2, et, ef]; first | done | omega)) ?_ | refine wT (by first | omega | (simp only [W1, cond_true, cond_false, k1, hnz, s4, g1, g2, et, ef]; first | done | omega)) ?_ | refine wF (by intro _h; first | omega | (simp only [W1, cond_true, cond_false, k1, hnz, s4, g1, g2, et, ef] at _h; first | done | omega)) ?_ | (refine wS ?_ ?_ <;> intro _h <;> simp only [W1, cond_true, cond_false, k1, hnz, s4, g1, g2, et, ef] at _h))
          all_goals simp only [W1, W2, owesN, owesX, owesR, cond_true, cond_false, k1, hnz, s4, g1, g2, et, ef]
          repeat' (first | apply And.intro | intro _hc)
          all_goals first | exact tup2 (.refl _) (leI rfl) | exact AV.le_refl _ | exact AV.le_any _ | exact OLe.refl _ | exact OLe.none _ | exact LeH.refl _ | exact LeL.refl _ | exact AV.le.bs _ | exact AV.le.sb _ | omega | contradiction
    · have hp : pT w0 w1 w2 w3 w4 w5 r = none := by unfold pT; simp [hd, k1]
      rw [hp]
      repeat' (first | refine wC (by first | omega | (simp only [W1, cond_true, cond_false, k1, hnz, s4, g1, g2, et, ef]; first | done | omega)) ?_ | refine wT (by first | omega | (simp only [W1, cond_true, cond_false, k1, hnz, s4, g1, g2, et, ef]; first | done | omega)) ?_ | refine wF (by intro _h; first | omega | (simp only [W1, cond_true, cond_false, k1, hnz, s4, g1, g2, et, ef] at _h; first | done | omega)) ?_ | (refine wS ?_ ?_ <;> intro _h <;> simp only [W1, cond_true, cond_false, k1, hnz, s4, g1, g2, et, ef] at _h))
      all_goals simp only [W1, W2, owesN, owesX, owesR, cond_true, cond_false, k1, hnz, s4, g1, g2, et, ef]
      repeat' (first | apply And.intro | intro _hc)
      all_goals first | exact tup2 (.refl _) (leI rfl) | exact AV.le_refl _ | exact AV.le_any _ | exact OLe.refl _ | exact OLe.none _ | exact LeH.refl _ | exact LeL.refl _ | exact AV.le.bs _ | exact AV.le.sb _ | omega | contradiction
  · have hd : hdB w1 w5 = false := by cases h : hdB w1 w5 with | true => exact absurd h hd | false => rfl
    have hp : pT w0 w1 w2 w3 w4 w5 r = none := by unfold pT; simp [hd]
    rw [hp]
    by_cases d1 : w5 = ⟨#[116, 111]⟩
    · have q1 : decide (w5 = ⟨#[116, 111]⟩) = true := decide_eq_true d1
      by_cases d2 : w1 = e0
      · have q2 : decide (w1 = e0) = true := decide_eq_true d2
        simp only [q1, q2]
        repeat' (first | refine wC (by first | omega | (simp only [W1, cond_true, cond_false]; first | done | omega)) ?_ | refine wT (by first | omega | (simp only [W1, cond_true, cond_false]; first | done | omega)) ?_ | refine wF (by intro _h; first | omega | (simp only [W1, cond_true, cond_false] at _h; first | done | omega)) ?_ | (refine wS ?_ ?_ <;> intro _h <;> simp only [W1, cond_true, cond_false] at _h))
        all_goals simp only [W1, W2, owesN, owesX, owesR, cond_true, cond_false]
        repeat' (first | apply And.intro | intro _hc)
        all_goals first | exact tup2 (.refl _) (leI rfl) | exact AV.le_refl _ | exact AV.le_any _ | exact OLe.refl _ | exact OLe.none _ | exact LeH.refl _ | exact LeL.refl _ | exact AV.le.bs _ | exact AV.le.sb _ | omega | contradiction
      · have q2 : decide (w1 = e0) = false := decide_eq_false d2
        rw [hE] at d2
        have hw : IntKind.wrap IntKind.i64 ((w1.size : Int) - 1) = ((w1.size - 1 : Nat) : Int) := by rw [wrap64 (by omega) (by omega)]; omega
        have d3 : ¬ bN w1 (w1.size - 1) = 58 := fun e => by
          unfold hdB at hd
          rw [q1, decide_eq_true e, decide_eq_true (show ¬ w1 = e0 by rw [hE]; exact d2)] at hd
          exact absurd hd (by decide)
        have hb : decide (sbyte w1 (w1.size - 1) = (58 : Int)) = false := decide_eq_false (by show ¬ ((bN w1 (w1.size - 1) : Nat) : Int) = 58; omega)
        simp only [hw, Int.toNat_natCast, hb, q1, q2]
        repeat' (first | refine wC (by first | omega | (simp only [W1, cond_true, cond_false]; first | done | omega)) ?_ | refine wT (by first | omega | (simp only [W1, cond_true, cond_false]; first | done | omega)) ?_ | refine wF (by intro _h; first | omega | (simp only [W1, cond_true, cond_false] at _h; first | done | omega)) ?_ | (refine wS ?_ ?_ <;> intro _h <;> simp only [W1, cond_true, cond_false] at _h))
        all_goals simp only [W1, W2, owesN, owesX, owesR, cond_true, cond_false]
        repeat' (first | apply And.intro | intro _hc)
        all_goals first | exact tup2 (.refl _) (leI rfl) | exact AV.le_refl _ | exact AV.le_any _ | exact OLe.refl _ | exact OLe.none _ | exact LeH.refl _ | exact LeL.refl _ | exact AV.le.bs _ | exact AV.le.sb _ | omega | contradiction
    · have q1 : decide (w5 = ⟨#[116, 111]⟩) = false := decide_eq_false d1
      simp only [q1]
      repeat' (first | refine wC (by first | omega | (simp only [W1, cond_true, cond_false]; first | done | omega)) ?_ | refine wT (by first | omega | (simp only [W1, cond_true, cond_false]; first | done | omega)) ?_ | refine wF (by intro _h; first | omega | (simp only [W1, cond_true, cond_false] at _h; first | done | omega)) ?_ | (refine wS ?_ ?_ <;> intro _h <;> simp only [W1, cond_true, cond_false] at _h))
      all_goals simp only [W1, W2, owesN, owesX, owesR, cond_true, cond_false]
      repeat' (first | apply And.intro | intro _hc)
      all_goals first | exact tup2 (.refl _) (leI rfl) | exact AV.le_refl _ | exact AV.le_any _ | exact OLe.refl _ | exact OLe.none _ | exact LeH.refl _ | exact LeL.refl _ | exact AV.le.bs _ | exact AV.le.sb _ | omega | contradiction
end Go.Eng.TA

namespace Go.Eng.TA
open Go Go.Eng Go.Proofs
noncomputable def loopR : Code := loopOf (bodyOf Tryd.f86) 0
theorem roundR (n : Nat) (t : ByteArray) : roundE (P := Tryd.prog) (Γ := Γm) [] Lno false 0 0 loopR [0, 4] [] 29 [.v (.int .i64 (n : Int)), .v (.string t)] [] =
  Tree.br (decide ((127 : Int) < (↑n : Int))) (.chk true (.chk (allBytes (1 : Nat) fun j => chain [.v (.int IntKind.u8 (0 : Int))] (0 : Nat) [[.v (.int IntKind.u8 (IntKind.wrap IntKind.u8 
    (IntKind.wrap IntKind.i64 (Int.tmod (↑n : Int) (128 : Int) + (128 : Int)))))]] ((0 : Nat) + j)) (.chk (decide (ByteArray.size t + (1 : Nat) ≤ (9223372036854775807 : Nat))) (.chk 
    true (.leaf (.mk .normal [.v (.int .i64 (IntKind.wrap IntKind.i64 (Int.tdiv (↑n : Int) (128 : Int)))), .v (.string (t ++ textOf (1 : Nat) fun j => chain [.v (.int IntKind.u8 (0 : 
    Int))] (0 : Nat) [[.v (.int IntKind.u8 (IntKind.wrap IntKind.u8 (IntKind.wrap IntKind.i64 (Int.tmod (↑n : Int) (128 : Int) + (128 : Int)))))]] ((0 : Nat) + j)))] [])))))) (.leaf 
    (.mk (.exit 0) [.v (.int .i64 (↑n : Int)), .v (.string t)] [])) := by kernel_rfl
def SR (n : Nat) (t : ByteArray) : List AV × Heap := ([.v (.int .i64 (n : Int)), .v (.string t)], [])
def OR (n : Nat) (t : ByteArray) : Out := ⟨.exit 0, [.v (.int .i64 (loN n : Int)), .v (.string (t ++ hiB n))], []⟩
theorem digitR (n : Nat) : IntKind.u8.wrap (IntKind.i64.wrap ((n : Int).tmod (128 : Int) + (128 : Int))) = ((n % 128 + 128 : Nat) : Int) := by
  rw [show (128 : Int) = ((128 : Nat) : Int) from rfl, tmod_nat, wrap64E, wrapU8]
  omega
theorem loopR_ok : ∀ x : Nat × ByteArray, preN x → LoopOK Tryd.prog Γm 0 29 loopR (LSpec.at [0, 4] [] (SR x.1 x.2) (OR x.1 x.2)) := by
  refine loop_at (S := fun x : Nat × ByteArray => SR x.1 x.2) (O := fun x => OR x.1 x.2) (k := 0) (fun x => x.1) fun x hp => ⟨[], Lno, false, noLoops (by kernel_rfl), ?_⟩
  obtain ⟨n, t⟩ := x
  show (roundE (P := Tryd.prog) (Γ := Γm) [] Lno false 0 0 loopR [0, 4] [] 29 [.v (.int .i64 (n : Int)), .v (.string t)] []).sat _
  rw [roundR]
  have hp1 : n ≤ 4611686018427387904 := hp.1
  have hp2 : t.size + (hiB n).size ≤ 1000000100 := hp.2
  refine ⟨fun hc => ?_, fun hc => ?_⟩
  · have h : (127 : Int) < (n : Int) := of_decide_eq_true hc
    have hge : ¬ n < 128 := by omega
    have e1 := hiB_ge hge
    rw [e1] at hp2
    simp only [ByteArray.size_append, oneB_size] at hp2
    have e2 : IntKind.i64.wrap ((n : Int).tdiv (128 : Int)) = ((n / 128 : Nat) : Int) := by
      rw [show (128 : Int) = ((128 : Nat) : Int) from rfl, tdiv_nat, wrap64E]
      omega
    refine ⟨rfl, rfl, decide_eq_true (by omega), rfl, (n / 128, t ++ oneB (n % 128 + 128)), ?_, trivial, ⟨?_, ?_⟩, ?_, ?_⟩
    · simp only [textOf_one, digitR, Int.toNat_natCast, e2]
      exact ⟨.refl _, .refl _, trivial⟩
    · show n / 128 ≤ _; omega
    · show (t ++ oneB (n % 128 + 128)).size + (hiB (n / 128)).size ≤ _
      simp only [ByteArray.size_append, oneB_size]; omega
    · simp only [OR]; rw [show loN (n / 128) = loN n from (loN_ge hge).symm, e1, ByteArray.append_assoc]
    · show n / 128 < n; omega
  · have h : ¬ (127 : Int) < (n : Int) := of_decide_eq_false hc
    refine ⟨rfl, ?_, trivial⟩
    simp only [OR, hiB_lt (show n < 128 by omega), loN_lt (show n < 128 by omega), append_empty]
    exact LeL.refl _
def okN (n : Int) : Bool := decide (0 ≤ n) && decide (n ≤ 4611686018427387904)
def capN (n : Int) : Nat := min n.toNat 4611686018427387904
theorem capN_nat {k : Nat} (h : k ≤ 4611686018427387904) : capN (k : Int) = k := by
  unfold capN
  rw [Int.toNat_natCast]
  exact Nat.min_eq_left h
noncomputable def LR : List KC → Nat → LSpec
  | [.i n] => fun _ => LSpec.at [0, 4] [] (SR (capN n) ⟨#[]⟩) (OR (capN n) ⟨#[]⟩)
  | _ => Lno
noncomputable def gR : List KC → AV
  | [.i n] => .tup [.v (.string (bif okN n then numB n.toNat else ⟨#[]⟩)), .sb (okN n)]
  | _ => .any
theorem runR (n : Int) : bodyE (P := Tryd.prog) (Γ := Γm) [] (LR [.i n]) false 29 [.tmp 2, .tmp 3] (bodyOf Tryd.f86) [.v (.int .i64 n)] [] =
  Tree.br (bif decide (n < (0 : Int)) then true else decide ((4611686018427387904 : Int) < n)) (.leaf (Ans.mk (.tup [.v (.string (ByteArray.mk #[])), .v (.bool false)]) [])) (.chk (cl (LeL 
    [.v (.int .i64 n), .v (.string (ByteArray.mk #[]))] [.v (.int .i64 (↑(capN n) : Int)), .v (.string (ByteArray.mk #[]))] ∧ LeH [] [])) (.chk (allBytes (1 : Nat) fun j => chain [.v 
    (.int IntKind.u8 (0 : Int))] (0 : Nat) [[.v (.int IntKind.u8 (IntKind.wrap IntKind.u8 (↑(loN (capN n)) : Int)))]] ((0 : Nat) + j)) (.chk (decide (ByteArray.size (ByteArray.mk #[] 
    ++ hiB (capN n)) + (1 : Nat) ≤ (9223372036854775807 : Nat))) (.leaf (Ans.mk (.tup [.v (.string (ByteArray.mk #[] ++ hiB (capN n) ++ textOf (1 : Nat) fun j => chain [.v (.int 
    IntKind.u8 (0 : Int))] (0 : Nat) [[.v (.int IntKind.u8 (IntKind.wrap IntKind.u8 (↑(loN (capN n)) : Int)))]] ((0 : Nat) + j))), .v (.bool true)]) []))))) := by kernel_rfl
theorem badN (n : Int) : (bif decide (n < (0 : Int)) then true else decide ((4611686018427387904 : Int) < n)) = !okN n := by
  unfold okN
  by_cases h : n < 0
  · rw [decide_eq_true h, decide_eq_false (show ¬ 0 ≤ n by omega)]; rfl
  · rw [decide_eq_false h, decide_eq_true (show 0 ≤ n by omega)]
    by_cases h2 : 4611686018427387904 < n
    · rw [decide_eq_true h2, decide_eq_false (show ¬ n ≤ 4611686018427387904 by omega)]; rfl
    · rw [decide_eq_false h2, decide_eq_true (show n ≤ 4611686018427387904 by omega)]; rfl
theorem okN_nat {n : Int} (h : okN n = true) : ∃ k : Nat, n = k ∧ k ≤ 4611686018427387904 := by
  unfold okN at h
  simp only [Bool.and_eq_true, decide_eq_true_eq] at h
  exact ⟨n.toNat, by omega, by omega⟩
theorem small_nil : small ⟨#[]⟩ := by unfold small; decide
theorem givesR (n : Int) : Gives (bodyE (P := Tryd.prog) (Γ := Γm) [] (LR [.i n]) false 29 [.tmp 2, .tmp 3] (bodyOf Tryd.f86) [.v (.int .i64 n)] []) (.tup [.v (.string (bif okN n then numB n.toNat else ⟨#[]⟩)), .sb (okN n)]) := by
  refine Gives.of (runR n) ?_
  rw [badN]
  cases hok : okN n with
  | false => exact ⟨fun _ => ⟨le_tup ⟨.refl _, .bs _, trivial⟩, trivial⟩, fun hc => by simp at hc⟩
  | true =>
    obtain ⟨k, rfl, hk⟩ := okN_nat hok
    have hl := loN_small k
    have hp : ((⟨#[]⟩ : ByteArray).size) + (hiB k).size ≤ 1000000100 := (pre_of small_nil hk).2
    have e : IntKind.u8.wrap (loN k : Int) = ((loN k : Nat) : Int) := by rw [wrapU8]; omega
    refine ⟨fun hc => by simp at hc, fun _ => ⟨cl_iff.2 ⟨by rw [capN_nat hk]; exact LeL.refl _, trivial⟩, rfl, decide_eq_true (by rw [capN_nat hk]; simp only [ByteArray.size_append] at *; omega), ?_, trivial⟩⟩
    simp only [capN_nat hk, Int.toNat_natCast, textOf_one, e, empty_append]
    exact le_tup ⟨.refl _, .bs _, trivial⟩
theorem fit1c {c : Cel} {l : List KC} (h : kFit [c] l = true) : ∃ x, l = [x] ∧ kcFit c x = true := by
  match l, h with
  | [x], h => simp only [kFit, Bool.and_true] at h; exact ⟨x, rfl, h⟩
  | [], h => simp [kFit] at h
  | _ :: _ :: _, h => simp [kFit] at h
noncomputable def Z.c86 : CT Tryd.prog Γm := CT.funL 86 Tryd.f86 (bodyOf Tryd.f86) [] LR false 29 [.tmp 2, .tmp 3] [.c (.int .i64)] (fun l => match l with | [.i n] => true | _ => false) gR Tryd.func86 (by kernel_rfl) (by kernel_rfl) (by kernel_rfl) (by kernel_rfl) (by decide)
  (fun l h _ => by
    obtain ⟨x, rfl, hx⟩ := fit1c h
    cases x <;> simp [kcFit] at hx
    rename_i n _
    exact oneLoop (b := loopR) (by kernel_rfl) (loopR_ok (capN n, ⟨#[]⟩) (pre_of small_nil (Nat.min_le_right _ _))))
  (fun l h _ => by
    obtain ⟨x, rfl, hx⟩ := fit1c h
    cases x <;> simp [kcFit] at hx
    exact givesR _)
end Go.Eng.TA

namespace Go.Eng.TA
open Go Go.Eng Go.Proofs
inductive NA where
  | nil
  | sl (m : Nat) (g : Nat → Int)
  | hs (m : Nat) (g : Nat → Int)
def NA.m : NA → Nat
  | .nil => 0
  | .sl m _ => m
  | .hs m _ => m
def NA.g : NA → Nat → Int
  | .nil => fun _ => 0
  | .sl _ g => g
  | .hs _ g => g
def i64F (g : Nat → Int) : Nat → List AV := fun j => [.v (.int .i64 (g j))]
def NA.av : NA → AV
  | .nil => .v (.slice none 0 0)
  | .sl m g => .sl 1 m (i64F g)
  | .hs m _ => .hs 0 0 m
def NA.bl : NA → List Blk
  | .hs m g => [.arr 1 m (i64F g)]
  | _ => []
def NA.k : NA → Nat
  | .hs _ _ => 1
  | _ => 0
def catN (g : Nat → Int) : Nat → ByteArray
  | 0 => ⟨#[]⟩
  | i + 1 => catN g i ++ numB (g i).toNat
def outV (k : Nat) (g : Nat → Int) : Nat → AV
  | 0 => .v (.slice none 0 0)
  | i + 1 => .hs k 0 (catN g (i + 1)).size
def outB (g : Nat → Int) : Nat → Heap
  | 0 => []
  | i + 1 => [some (.arr 1 (catN g (i + 1)).size (bsF (catN g (i + 1))))]
noncomputable def loopM : Code := loopOf (bodyOf Tryd.f81) 0
def SM (a : NA) (i : Nat) : List AV × Heap := ([.any, .any, outV a.k a.g i, a.av, .v (.int .i64 (a.m : Int)), .v (.int .i64 (i : Int))], a.bl.map some ++ outB a.g i)
def OMg (a : NA) : Out := ⟨.exit 0, [.any, .any, outV a.k a.g a.m, .any, .any, .any], a.bl.map some ++ outB a.g a.m⟩
def OMb (a : NA) : Out := ⟨.ret, [.v (.slice none 0 0), .v (.int .i64 10), .any, .any, .any, .any], a.bl.map some⟩
theorem catN_small {g : Nat → Int} : ∀ {i : Nat}, (∀ j, j < i → okN (g j) = true) → (catN g i).size ≤ 9 * i ∧ (0 < i → 0 < (catN g i).size)
  | 0, _ => ⟨Nat.zero_le _, fun h => by omega⟩
  | i + 1, h => by
    obtain ⟨h1, _⟩ := catN_small (g := g) (i := i) fun j hj => h j (by omega)
    obtain ⟨k, hk, hk2⟩ := okN_nat (h i (by omega))
    have := numB_size hk2
    simp only [catN, ByteArray.size_append, hk, Int.toNat_natCast]
    omega
theorem small_cat {g : Nat → Int} {i : Nat} (h : ∀ j, j < i → okN (g j) = true) (hi : i ≤ 100000) : small (catN g i) := by
  have := (catN_small h).1
  unfold small; omega
theorem roundMn  : roundE (P := Tryd.prog) (Γ := Γm) [] Lno false 0 0 loopM [2, 3, 4, 8, 9, 10] [] 25 [.any, .any, .v (.slice none 0 0), .v (.slice none 0 0), .v (.int .i64 (0 : Nat)), .v (.int .i64 (0 : Nat))] [] =
  Tree.br false .fail (.leaf (.mk (.exit 0) [.any, .any, .v (.slice none (0 : Nat) (0 : Nat)), .v (.slice none (0 : Nat) (0 : Nat)), .v (.int .i64 (↑(0 : Nat) : Int)), .v (.int .i64 (↑(0 : 
    Nat) : Int))] [])) := by kernel_rfl
theorem roundMs0 (m : Nat) (g : Nat → Int) (n : Nat) (h : n ≤ 4611686018427387904) : roundE (P := Tryd.prog) (Γ := Γm) [CT.at 83 (ansNum .nil n trivial h)] Lno false 0 0 loopM [2, 3, 4, 8, 9, 10] [] 25 [.any, .any, .v (.slice none 0 0), .sl 1 m (i64F g), .v (.int .i64 (m : Int)), .v (.int .i64 (0 : Nat))] [] =
  Tree.br (decide ((↑(0 : Nat) : Int) < (↑m : Int))) (.chk (decide ((↑(0 : Nat) : Int) < (↑m : Int))) (.chk (cl (LeL [.v (.slice none (0 : Nat) (0 : Nat)), .v (.int .i64 (g (Int.toNat (↑(0 : 
    Nat) : Int))))] [.v (.slice none (0 : Nat) (0 : Nat)), .v (.int .i64 (↑n : Int))] ∧ LeH [] [])) (.br false (.leaf (.mk .ret [.v (.slice none (0 : Nat) (0 : Nat)), .v (.int .i64 (0 
    : Int)), .hs 0 0 (ByteArray.size (BA.t BA.nil ++ numB n)), .sl 1 m fun j => [.v (.int .i64 (g j))], .v (.int .i64 (↑m : Int)), .v (.int .i64 (↑(0 : Nat) : Int))] [some (.arr 1 
    (ByteArray.size (BA.t BA.nil ++ numB n)) fun j => [.v (.int IntKind.u8 (sbyte (BA.t BA.nil ++ numB n) j))])])) (.leaf (.mk .normal [.any, .any, .hs 0 0 (ByteArray.size (BA.t BA.nil 
    ++ numB n)), .sl 1 m fun j => [.v (.int .i64 (g j))], .v (.int .i64 (↑m : Int)), .v (.int .i64 (IntKind.wrap IntKind.i64 ((↑(0 : Nat) : Int) + (1 : Int))))] [some (.arr 1 
    (ByteArray.size (BA.t BA.nil ++ numB n)) fun j => [.v (.int IntKind.u8 (sbyte (BA.t BA.nil ++ numB n) j))])]))))) (.leaf (.mk (.exit 0) [.any, .any, .v (.slice none (0 : Nat) (0 : 
    Nat)), .sl 1 m fun j => [.v (.int .i64 (g j))], .v (.int .i64 (↑m : Int)), .v (.int .i64 (↑(0 : Nat) : Int))] [])) := by kernel_rfl
theorem roundMs1 (m : Nat) (g : Nat → Int) (n i : Nat) (t : ByteArray) (ht : (BA.hs t).ok) (h : n ≤ 4611686018427387904) : roundE (P := Tryd.prog) (Γ := Γm) [CT.at 83 (ansNum (.hs t) n ht h)] Lno false 0 0 loopM [2, 3, 4, 8, 9, 10] [] 25 [.any, .any, .hs 0 0 t.size, .sl 1 m (i64F g), .v (.int .i64 (m : Int)), .v (.int .i64 (i : Int))] [some (.arr 1 t.size (bsF t))] =
  Tree.br (decide ((↑i : Int) < (↑m : Int))) (.chk (decide ((0 : Int) ≤ (↑i : Int)) && decide ((↑i : Int) < (↑m : Int))) (.chk (cl (LeL [.hs 0 0 (ByteArray.size t), .v (.int .i64 (g 
    (Int.toNat ↑i)))] [.hs 0 0 (ByteArray.size t), .v (.int .i64 (↑n : Int))] ∧ LeH [some (.arr 1 (ByteArray.size t) fun j => [.v (.int IntKind.u8 (sbyte t j))])] [some (.arr 1 
    (ByteArray.size t) fun j => [.v (.int IntKind.u8 (sbyte t j))])])) (.br false (.leaf (.mk .ret [.v (.slice none (0 : Nat) (0 : Nat)), .v (.int .i64 (0 : Int)), .hs 0 0 
    (ByteArray.size (BA.t (BA.hs t) ++ numB n)), .sl 1 m fun j => [.v (.int .i64 (g j))], .v (.int .i64 (↑m : Int)), .v (.int .i64 (↑i : Int))] [some (.arr 1 (ByteArray.size (BA.t 
    (BA.hs t) ++ numB n)) fun j => [.v (.int IntKind.u8 (sbyte (BA.t (BA.hs t) ++ numB n) j))])])) (.leaf (.mk .normal [.any, .any, .hs 0 0 (ByteArray.size (BA.t (BA.hs t) ++ numB n)), 
    .sl 1 m fun j => [.v (.int .i64 (g j))], .v (.int .i64 (↑m : Int)), .v (.int .i64 (IntKind.wrap IntKind.i64 ((↑i : Int) + (1 : Int))))] [some (.arr 1 (ByteArray.size (BA.t (BA.hs 
    t) ++ numB n)) fun j => [.v (.int IntKind.u8 (sbyte (BA.t (BA.hs t) ++ numB n) j))])]))))) (.leaf (.mk (.exit 0) [.any, .any, .hs 0 0 (ByteArray.size t), .sl 1 m fun j => [.v (.int 
    .i64 (g j))], .v (.int .i64 (↑m : Int)), .v (.int .i64 (↑i : Int))] [some (.arr 1 (ByteArray.size t) fun j => [.v (.int IntKind.u8 (sbyte t j))])])) := by kernel_rfl
theorem roundMh0 (m : Nat) (g : Nat → Int) (n : Nat) (h : n ≤ 4611686018427387904) : roundE (P := Tryd.prog) (Γ := Γm) [CT.at 83 (ansNum .nil n trivial h)] Lno false 1 0 loopM [2, 3, 4, 8, 9, 10] [] 25 [.any, .any, .v (.slice none 0 0), .hs 0 0 m, .v (.int .i64 (m : Int)), .v (.int .i64 (0 : Nat))] [some (.arr 1 m (i64F g))] =
  Tree.br (decide ((↑(0 : Nat) : Int) < (↑m : Int))) (.chk (decide ((↑(0 : Nat) : Int) < (↑m : Int))) (.chk (cl (LeL [.v (.slice none (0 : Nat) (0 : Nat)), .v (.int .i64 (g ((0 : Nat) + 
    Int.toNat (↑(0 : Nat) : Int))))] [.v (.slice none (0 : Nat) (0 : Nat)), .v (.int .i64 (↑n : Int))] ∧ LeH [] [])) (.br false (.leaf (.mk .ret [.v (.slice none (0 : Nat) (0 : Nat)), 
    .v (.int .i64 (0 : Int)), .hs 1 0 (ByteArray.size (BA.t BA.nil ++ numB n)), .hs 0 0 m, .v (.int .i64 (↑m : Int)), .v (.int .i64 (↑(0 : Nat) : Int))] [some (.arr 1 m fun j => [.v 
    (.int .i64 (g j))]), some (.arr 1 (ByteArray.size (BA.t BA.nil ++ numB n)) fun j => [.v (.int IntKind.u8 (sbyte (BA.t BA.nil ++ numB n) j))])])) (.leaf (.mk .normal [.any, .any, 
    .hs 1 0 (ByteArray.size (BA.t BA.nil ++ numB n)), .hs 0 0 m, .v (.int .i64 (↑m : Int)), .v (.int .i64 (IntKind.wrap IntKind.i64 ((↑(0 : Nat) : Int) + (1 : Int))))] [some (.arr 1 m 
    fun j => [.v (.int .i64 (g j))]), some (.arr 1 (ByteArray.size (BA.t BA.nil ++ numB n)) fun j => [.v (.int IntKind.u8 (sbyte (BA.t BA.nil ++ numB n) j))])]))))) (.leaf (.mk (.exit 
    0) [.any, .any, .v (.slice none (0 : Nat) (0 : Nat)), .hs 0 0 m, .v (.int .i64 (↑m : Int)), .v (.int .i64 (↑(0 : Nat) : Int))] [some (.arr 1 m fun j => [.v (.int .i64 (g j))])])) := by kernel_rfl
theorem roundMh1 (m : Nat) (g : Nat → Int) (n i : Nat) (t : ByteArray) (ht : (BA.hs t).ok) (h : n ≤ 4611686018427387904) : roundE (P := Tryd.prog) (Γ := Γm) [CT.at 83 (ansNum (.hs t) n ht h)] Lno false 1 0 loopM [2, 3, 4, 8, 9, 10] [] 25 [.any, .any, .hs 1 0 t.size, .hs 0 0 m, .v (.int .i64 (m : Int)), .v (.int .i64 (i : Int))] [some (.arr 1 m (i64F g)), some (.arr 1 t.size (bsF t))] =
  Tree.br (decide ((↑i : Int) < (↑m : Int))) (.chk (decide ((0 : Int) ≤ (↑i : Int)) && decide ((↑i : Int) < (↑m : Int))) (.chk (cl (LeL [.hs 0 0 (ByteArray.size t), .v (.int .i64 (g ((0 : 
    Nat) + Int.toNat ↑i)))] [.hs 0 0 (ByteArray.size t), .v (.int .i64 (↑n : Int))] ∧ LeH [some (.arr 1 (ByteArray.size t) fun j => [.v (.int IntKind.u8 (sbyte t j))])] [some (.arr 1 
    (ByteArray.size t) fun j => [.v (.int IntKind.u8 (sbyte t j))])])) (.br false (.leaf (.mk .ret [.v (.slice none (0 : Nat) (0 : Nat)), .v (.int .i64 (0 : Int)), .hs 1 0 
    (ByteArray.size (BA.t (BA.hs t) ++ numB n)), .hs 0 0 m, .v (.int .i64 (↑m : Int)), .v (.int .i64 (↑i : Int))] [some (.arr 1 m fun j => [.v (.int .i64 (g j))]), some (.arr 1 
    (ByteArray.size (BA.t (BA.hs t) ++ numB n)) fun j => [.v (.int IntKind.u8 (sbyte (BA.t (BA.hs t) ++ numB n) j))])])) (.leaf (.mk .normal [.any, .any, .hs 1 0 (ByteArray.size (BA.t 
    (BA.hs t) ++ numB n)), .hs 0 0 m, .v (.int .i64 (↑m : Int)), .v (.int .i64 (IntKind.wrap IntKind.i64 ((↑i : Int) + (1 : Int))))] [some (.arr 1 m fun j => [.v (.int .i64 (g j))]), 
    some (.arr 1 (ByteArray.size (BA.t (BA.hs t) ++ numB n)) fun j => [.v (.int IntKind.u8 (sbyte (BA.t (BA.hs t) ++ numB n) j))])]))))) (.leaf (.mk (.exit 0) [.any, .any, .hs 1 0 
    (ByteArray.size t), .hs 0 0 m, .v (.int .i64 (↑m : Int)), .v (.int .i64 (↑i : Int))] [some (.arr 1 m fun j => [.v (.int .i64 (g j))]), some (.arr 1 (ByteArray.size t) fun j => [.v 
    (.int IntKind.u8 (sbyte t j))])])) := by kernel_rfl
theorem roundMb0 (m : Nat) (g : Nat → Int) (n : Int) (h : n < 0 ∨ 4611686018427387904 < n) : roundE (P := Tryd.prog) (Γ := Γm) [CT.at 83 (ansBad .nil n trivial h)] Lno false 0 0 loopM [2, 3, 4, 8, 9, 10] [] 25 [.any, .any, .v (.slice none 0 0), .sl 1 m (i64F g), .v (.int .i64 (m : Int)), .v (.int .i64 (0 : Nat))] [] =
  Tree.br (decide ((↑(0 : Nat) : Int) < (↑m : Int))) (.chk (decide ((↑(0 : Nat) : Int) < (↑m : Int))) (.chk (cl (LeL [.v (.slice none (0 : Nat) (0 : Nat)), .v (.int .i64 (g (Int.toNat (↑(0 : 
    Nat) : Int))))] [.v (.slice none (0 : Nat) (0 : Nat)), .v (.int .i64 n)] ∧ LeH [] [])) (.br true (.leaf (.mk .ret [.v (.slice none (0 : Nat) (0 : Nat)), .v (.int .i64 (10 : Int)), 
    .v (.slice none (0 : Nat) (0 : Nat)), .sl 1 m fun j => [.v (.int .i64 (g j))], .v (.int .i64 (↑m : Int)), .v (.int .i64 (↑(0 : Nat) : Int))] [])) (.leaf (.mk .normal [.any, .any, 
    .v (.slice none (0 : Nat) (0 : Nat)), .sl 1 m fun j => [.v (.int .i64 (g j))], .v (.int .i64 (↑m : Int)), .v (.int .i64 (IntKind.wrap IntKind.i64 ((↑(0 : Nat) : Int) + (1 : 
    Int))))] []))))) (.leaf (.mk (.exit 0) [.any, .any, .v (.slice none (0 : Nat) (0 : Nat)), .sl 1 m fun j => [.v (.int .i64 (g j))], .v (.int .i64 (↑m : Int)), .v (.int .i64 (↑(0 : 
    Nat) : Int))] [])) := by kernel_rfl
theorem roundMb1 (m : Nat) (g : Nat → Int) (n : Int) (i : Nat) (t : ByteArray) (ht : (BA.hs t).ok) (h : n < 0 ∨ 4611686018427387904 < n) : roundE (P := Tryd.prog) (Γ := Γm) [CT.at 83 (ansBad (.hs t) n ht h)] Lno false 0 0 loopM [2, 3, 4, 8, 9, 10] [] 25 [.any, .any, .hs 0 0 t.size, .sl 1 m (i64F g), .v (.int .i64 (m : Int)), .v (.int .i64 (i : Int))] [some (.arr 1 t.size (bsF t))] =
  Tree.br (decide ((↑i : Int) < (↑m : Int))) (.chk (decide ((0 : Int) ≤ (↑i : Int)) && decide ((↑i : Int) < (↑m : Int))) (.chk (cl (LeL [.hs 0 0 (ByteArray.size t), .v (.int .i64 (g 
    (Int.toNat ↑i)))] [.hs 0 0 (ByteArray.size t), .v (.int .i64 n)] ∧ LeH [some (.arr 1 (ByteArray.size t) fun j => [.v (.int IntKind.u8 (sbyte t j))])] [some (.arr 1 (ByteArray.size 
    t) fun j => [.v (.int IntKind.u8 (sbyte t j))])])) (.br true (.leaf (.mk .ret [.v (.slice none (0 : Nat) (0 : Nat)), .v (.int .i64 (10 : Int)), .v (.slice none (0 : Nat) (0 : 
    Nat)), .sl 1 m fun j => [.v (.int .i64 (g j))], .v (.int .i64 (↑m : Int)), .v (.int .i64 (↑i : Int))] [])) (.leaf (.mk .normal [.any, .any, .v (.slice none (0 : Nat) (0 : Nat)), 
    .sl 1 m fun j => [.v (.int .i64 (g j))], .v (.int .i64 (↑m : Int)), .v (.int .i64 (IntKind.wrap IntKind.i64 ((↑i : Int) + (1 : Int))))] []))))) (.leaf (.mk (.exit 0) [.any, .any, 
    .hs 0 0 (ByteArray.size t), .sl 1 m fun j => [.v (.int .i64 (g j))], .v (.int .i64 (↑m : Int)), .v (.int .i64 (↑i : Int))] [some (.arr 1 (ByteArray.size t) fun j => [.v (.int 
    IntKind.u8 (sbyte t j))])])) := by kernel_rfl
theorem pick {g : Nat → Int} {m i : Nat} (hok : ∀ j, j < m → okN (g j) = true) : ∃ k : Nat, k ≤ 4611686018427387904 ∧ (i < m → g i = k) := by
  by_cases h : i < m
  · obtain ⟨k, h1, h2⟩ := okN_nat (hok i h)
    exact ⟨k, h2, fun _ => h1⟩
  · exact ⟨0, by decide, fun h' => absurd h' h⟩
theorem hs_ok {g : Nat → Int} {i : Nat} (h : ∀ j, j < i + 1 → okN (g j) = true) (hi : i + 1 ≤ 100000) : (BA.hs (catN g (i + 1))).ok := ⟨small_cat h hi, (catN_small h).2 (by omega)⟩
theorem loopMg_ok (a : NA) (hok : ∀ j, j < a.m → okN (a.g j) = true) (hm : a.m ≤ 100000) : ∀ i, i ≤ a.m → LoopOK Tryd.prog Γm a.bl.length 25 loopM (LSpec.at [2, 3, 4, 8, 9, 10] [] (SM a i) (OMg a)) := by
  refine loop_at (S := SM a) (pre := fun i => i ≤ a.m) (O := fun _ => OMg a) (k := 0) (fun i => a.m - i) fun i hi => ?_
  cases a with
  | nil =>
    obtain rfl : i = 0 := Nat.le_zero.1 hi
    refine ⟨[], Lno, false, noLoops (by kernel_rfl), ?_⟩
    show (roundE (P := Tryd.prog) (Γ := Γm) [] Lno false 0 0 loopM [2, 3, 4, 8, 9, 10] [] 25 [.any, .any, .v (.slice none 0 0), .v (.slice none 0 0), .v (.int .i64 (0 : Nat)), .v (.int .i64 (0 : Nat))] []).sat _
    rw [roundMn]
    exact ⟨fun h => by simp at h, fun _ => ⟨rfl, ⟨.any _, .any _, .refl _, .any _, .any _, .any _, trivial⟩, trivial⟩⟩
  | sl m g =>
    have hok : ∀ j, j < m → okN (g j) = true := hok
    have hm : m ≤ 100000 := hm
    obtain ⟨n, hn, hg⟩ := pick (i := i) hok
    cases i with
    | zero =>
      refine ⟨[CT.at 83 (ansNum .nil n trivial hn)], Lno, false, noLoops (by kernel_rfl), ?_⟩
      show (roundE (P := Tryd.prog) (Γ := Γm) [CT.at 83 (ansNum .nil n trivial hn)] Lno false 0 0 loopM [2, 3, 4, 8, 9, 10] [] 25 [.any, .any, .v (.slice none 0 0), .sl 1 m (i64F g), .v (.int .i64 (m : Int)), .v (.int .i64 (0 : Nat))] []).sat _
      rw [roundMs0 m g n hn]
      refine ⟨fun hc => ?_, fun hc => ?_⟩
      · have hlt : 0 < m := by have := of_decide_eq_true hc; omega
        have h := hg hlt
        have e : BA.nil.t ++ numB n = catN g (0 + 1) := by
          show catN g (0) ++ numB n = catN g (0) ++ numB (g (0)).toNat
          rw [h, Int.toNat_natCast]
        have e3 : IntKind.i64.wrap (((0 : Nat) : Int) + (1 : Int)) = ((0 + 1 : Nat) : Int) := by rw [wrap64E]; omega
        rw [e, e3]
        refine ⟨by first | exact hc | (rw [Bool.true_and]; exact hc), cl_iff.2 ⟨⟨.refl _, .of_eq (by simp only [Int.toNat_natCast]; rw [h]), trivial⟩, trivial⟩, fun h => by simp at h, fun _ => ⟨0 + 1, LeL.refl _, LeH.refl _, hlt, rfl, ?_⟩⟩
        show m - (0 + 1) < m - (0); omega
      · have h := of_decide_eq_false hc
        obtain rfl : m = 0 := by have h2 : 0 ≤ m := hi; omega
        exact ⟨rfl, ⟨.any _, .any _, .refl _, .any _, .any _, .any _, trivial⟩, LeH.refl _⟩
    | succ i =>
      have hb : (BA.hs (catN g (i + 1))).ok := hs_ok (fun j hj => hok j (Nat.lt_of_lt_of_le hj hi)) (Nat.le_trans hi hm)
      refine ⟨[CT.at 83 (ansNum (.hs (catN g (i + 1))) n hb hn)], Lno, false, noLoops (by kernel_rfl), ?_⟩
      show (roundE (P := Tryd.prog) (Γ := Γm) [CT.at 83 (ansNum (.hs (catN g (i + 1))) n hb hn)] Lno false 0 0 loopM [2, 3, 4, 8, 9, 10] [] 25 [.any, .any, .hs 0 0 (catN g (i + 1)).size, .sl 1 m (i64F g), .v (.int .i64 (m : Int)), .v (.int .i64 ((i + 1 : Nat) : Int))] [some (.arr 1 (catN g (i + 1)).size (bsF (catN g (i + 1))))]).sat _
      rw [roundMs1 m g n (i + 1) (catN g (i + 1)) hb hn]
      refine ⟨fun hc => ?_, fun hc => ?_⟩
      · have hlt : i + 1 < m := by have := of_decide_eq_true hc; omega
        have h := hg hlt
        have e : (BA.hs (catN g (i + 1))).t ++ numB n = catN g (i + 1 + 1) := by
          show catN g (i + 1) ++ numB n = catN g (i + 1) ++ numB (g (i + 1)).toNat
          rw [h, Int.toNat_natCast]
        have e3 : IntKind.i64.wrap (((i + 1 : Nat) : Int) + (1 : Int)) = ((i + 1 + 1 : Nat) : Int) := by rw [wrap64E]; omega
        rw [e, e3]
        refine ⟨by rw [hc]; simp; omega, cl_iff.2 ⟨⟨.refl _, .of_eq (by simp only [Int.toNat_natCast]; rw [h]), trivial⟩, LeH.refl _⟩, fun h => by simp at h, fun _ => ⟨i + 1 + 1, LeL.refl _, LeH.refl _, hlt, rfl, ?_⟩⟩
        show m - (i + 1 + 1) < m - (i + 1); omega
      · have h := of_decide_eq_false hc
        obtain rfl : m = i + 1 := by have h2 : i + 1 ≤ m := hi; omega
        exact ⟨rfl, ⟨.any _, .any _, .refl _, .any _, .any _, .any _, trivial⟩, LeH.refl _⟩
  | hs m g =>
    have hok : ∀ j, j < m → okN (g j) = true := hok
    have hm : m ≤ 100000 := hm
    obtain ⟨n, hn, hg⟩ := pick (i := i) hok
    cases i with
    | zero =>
      refine ⟨[CT.at 83 (ansNum .nil n trivial hn)], Lno, false, noLoops (by kernel_rfl), ?_⟩
      show (roundE (P := Tryd.prog) (Γ := Γm) [CT.at 83 (ansNum .nil n trivial hn)] Lno false 1 0 loopM [2, 3, 4, 8, 9, 10] [] 25 [.any, .any, .v (.slice none 0 0), .hs 0 0 m, .v (.int .i64 (m : Int)), .v (.int .i64 (0 : Nat))] [some (.arr 1 m (i64F g))]).sat _
      rw [roundMh0 m g n hn]
      refine ⟨fun hc => ?_, fun hc => ?_⟩
      · have hlt : 0 < m := by have := of_decide_eq_true hc; omega
        have h := hg hlt
        have e : BA.nil.t ++ numB n = catN g (0 + 1) := by
          show catN g (0) ++ numB n = catN g (0) ++ numB (g (0)).toNat
          rw [h, Int.toNat_natCast]
        have e3 : IntKind.i64.wrap (((0 : Nat) : Int) + (1 : Int)) = ((0 + 1 : Nat) : Int) := by rw [wrap64E]; omega
        rw [e, e3]
        refine ⟨by first | exact hc | (rw [Bool.true_and]; exact hc), cl_iff.2 ⟨⟨.refl _, .of_eq (by simp only [Int.toNat_natCast, Nat.zero_add]; rw [h]), trivial⟩, trivial⟩, fun h => by simp at h, fun _ => ⟨0 + 1, LeL.refl _, LeH.refl _, hlt, rfl, ?_⟩⟩
        show m - (0 + 1) < m - (0); omega
      · have h := of_decide_eq_false hc
        obtain rfl : m = 0 := by have h2 : 0 ≤ m := hi; omega
        exact ⟨rfl, ⟨.any _, .any _, .refl _, .any _, .any _, .any _, trivial⟩, LeH.refl _⟩
    | succ i =>
      have hb : (BA.hs (catN g (i + 1))).ok := hs_ok (fun j hj => hok j (Nat.lt_of_lt_of_le hj hi)) (Nat.le_trans hi hm)
      refine ⟨[CT.at 83 (ansNum (.hs (catN g (i + 1))) n hb hn)], Lno, false, noLoops (by kernel_rfl), ?_⟩
      show (roundE (P := Tryd.prog) (Γ := Γm) [CT.at 83 (ansNum (.hs (catN g (i + 1))) n hb hn)] Lno false 1 0 loopM [2, 3, 4, 8, 9, 10] [] 25 [.any, .any, .hs 1 0 (catN g (i + 1)).size, .hs 0 0 m, .v (.int .i64 (m : Int)), .v (.int .i64 ((i + 1 : Nat) : Int))] [some (.arr 1 m (i64F g)), some (.arr 1 (catN g (i + 1)).size (bsF (catN g (i + 1))))]).sat _
      rw [roundMh1 m g n (i + 1) (catN g (i + 1)) hb hn]
      refine ⟨fun hc => ?_, fun hc => ?_⟩
      · have hlt : i + 1 < m := by have := of_decide_eq_true hc; omega
        have h := hg hlt
        have e : (BA.hs (catN g (i + 1))).t ++ numB n = catN g (i + 1 + 1) := by
          show catN g (i + 1) ++ numB n = catN g (i + 1) ++ numB (g (i + 1)).toNat
          rw [h, Int.toNat_natCast]
        have e3 : IntKind.i64.wrap (((i + 1 : Nat) : Int) + (1 : Int)) = ((i + 1 + 1 : Nat) : Int) := by rw [wrap64E]; omega
        rw [e, e3]
        refine ⟨by rw [hc]; simp; omega, cl_iff.2 ⟨⟨.refl _, .of_eq (by simp only [Int.toNat_natCast, Nat.zero_add]; rw [h]), trivial⟩, LeH.refl _⟩, fun h => by simp at h, fun _ => ⟨i + 1 + 1, LeL.refl _, LeH.refl _, hlt, rfl, ?_⟩⟩
        show m - (i + 1 + 1) < m - (i + 1); omega
      · have h := of_decide_eq_false hc
        obtain rfl : m = i + 1 := by have h2 : i + 1 ≤ m := hi; omega
        exact ⟨rfl, ⟨.any _, .any _, .refl _, .any _, .any _, .any _, trivial⟩, LeH.refl _⟩
theorem okN_bad {n : Int} (h : okN n = false) : n < 0 ∨ 4611686018427387904 < n := by
  unfold okN at h
  by_cases h1 : n < 0
  · exact .inl h1
  · rw [decide_eq_true (show 0 ≤ n by omega), Bool.true_and, decide_eq_false_iff_not] at h
    exact .inr (by omega)
theorem loopMb_ok (m : Nat) (g : Nat → Int) (b : Nat) (hb : b < m) (hok : ∀ j, j < b → okN (g j) = true) (hbad : okN (g b) = false) (hm : m ≤ 100000) : ∀ i, i ≤ b → LoopOK Tryd.prog Γm 0 25 loopM (LSpec.at [2, 3, 4, 8, 9, 10] [] (SM (.sl m g) i) (OMb (.sl m g))) := by
  refine loop_at (S := SM (.sl m g)) (pre := fun i => i ≤ b) (O := fun _ => OMb (.sl m g)) (k := 0) (fun i => b - i) fun i hi => ?_
  rcases Nat.lt_or_ge i b with hib | hib
  · obtain ⟨n, hg, hn⟩ := okN_nat (hok i hib)
    cases i with
    | zero =>
      refine ⟨[CT.at 83 (ansNum .nil n trivial hn)], Lno, false, noLoops (by kernel_rfl), ?_⟩
      show (roundE (P := Tryd.prog) (Γ := Γm) [CT.at 83 (ansNum .nil n trivial hn)] Lno false 0 0 loopM [2, 3, 4, 8, 9, 10] [] 25 [.any, .any, .v (.slice none 0 0), .sl 1 m (i64F g), .v (.int .i64 (m : Int)), .v (.int .i64 (0 : Nat))] []).sat _
      rw [roundMs0 m g n hn]
      refine ⟨fun hc => ?_, fun hc => ?_⟩
      · have hlt : 0 < m := by have := of_decide_eq_true hc; omega
        have h := hg
        have e : BA.nil.t ++ numB n = catN g (0 + 1) := by
          show catN g (0) ++ numB n = catN g (0) ++ numB (g (0)).toNat
          rw [h, Int.toNat_natCast]
        have e3 : IntKind.i64.wrap (((0 : Nat) : Int) + (1 : Int)) = ((0 + 1 : Nat) : Int) := by rw [wrap64E]; omega
        rw [e, e3]
        refine ⟨by first | exact hc | (rw [Bool.true_and]; exact hc), cl_iff.2 ⟨⟨.refl _, .of_eq (by simp only [Int.toNat_natCast]; rw [h]), trivial⟩, trivial⟩, fun h => by simp at h, fun _ => ⟨0 + 1, LeL.refl _, LeH.refl _, Nat.succ_le_of_lt hib, rfl, ?_⟩⟩
        show b - (0 + 1) < b - (0); omega
      · have h := of_decide_eq_false hc
        omega
    | succ i =>
      have hb' : (BA.hs (catN g (i + 1))).ok := hs_ok (fun j hj => hok j (Nat.lt_of_lt_of_le hj hi)) (by omega)
      refine ⟨[CT.at 83 (ansNum (.hs (catN g (i + 1))) n hb' hn)], Lno, false, noLoops (by kernel_rfl), ?_⟩
      show (roundE (P := Tryd.prog) (Γ := Γm) [CT.at 83 (ansNum (.hs (catN g (i + 1))) n hb' hn)] Lno false 0 0 loopM [2, 3, 4, 8, 9, 10] [] 25 [.any, .any, .hs 0 0 (catN g (i + 1)).size, .sl 1 m (i64F g), .v (.int .i64 (m : Int)), .v (.int .i64 ((i + 1 : Nat) : Int))] [some (.arr 1 (catN g (i + 1)).size (bsF (catN g (i + 1))))]).sat _
      rw [roundMs1 m g n (i + 1) (catN g (i + 1)) hb' hn]
      refine ⟨fun hc => ?_, fun hc => ?_⟩
      · have hlt : i + 1 < m := by have := of_decide_eq_true hc; omega
        have h := hg
        have e : (BA.hs (catN g (i + 1))).t ++ numB n = catN g (i + 1 + 1) := by
          show catN g (i + 1) ++ numB n = catN g (i + 1) ++ numB (g (i + 1)).toNat
          rw [h, Int.toNat_natCast]
        have e3 : IntKind.i64.wrap (((i + 1 : Nat) : Int) + (1 : Int)) = ((i + 1 + 1 : Nat) : Int) := by rw [wrap64E]; omega
        rw [e, e3]
        refine ⟨by rw [hc]; simp; omega, cl_iff.2 ⟨⟨.refl _, .of_eq (by simp only [Int.toNat_natCast]; rw [h]), trivial⟩, LeH.refl _⟩, fun h => by simp at h, fun _ => ⟨i + 1 + 1, LeL.refl _, LeH.refl _, Nat.succ_le_of_lt hib, rfl, ?_⟩⟩
        show b - (i + 1 + 1) < b - (i + 1); omega
      · have h := of_decide_eq_false hc
        omega
  · obtain rfl : i = b := Nat.le_antisymm hi hib
    have hn := okN_bad hbad
    cases i with
    | zero =>
      refine ⟨[CT.at 83 (ansBad .nil (g 0) trivial hn)], Lno, false, noLoops (by kernel_rfl), ?_⟩
      show (roundE (P := Tryd.prog) (Γ := Γm) [CT.at 83 (ansBad .nil (g 0) trivial hn)] Lno false 0 0 loopM [2, 3, 4, 8, 9, 10] [] 25 [.any, .any, .v (.slice none 0 0), .sl 1 m (i64F g), .v (.int .i64 (m : Int)), .v (.int .i64 (0 : Nat))] []).sat _
      rw [roundMb0 m g (g 0) hn]
      have hc : decide (((0 : Nat) : Int) < (m : Int)) = true := decide_eq_true (by omega)
      rw [hc]
      exact ⟨fun _ => ⟨rfl, cl_iff.2 ⟨LeL.refl _, trivial⟩, fun _ => ⟨rfl, ⟨.refl _, .refl _, .any _, .any _, .any _, .any _, trivial⟩, trivial⟩, fun h => by simp at h⟩, fun h => by simp at h⟩
    | succ i =>
      have hb' : (BA.hs (catN g (i + 1))).ok := hs_ok (fun j hj => hok j hj) (by omega)
      refine ⟨[CT.at 83 (ansBad (.hs (catN g (i + 1))) (g (i + 1)) hb' hn)], Lno, false, noLoops (by kernel_rfl), ?_⟩
      show (roundE (P := Tryd.prog) (Γ := Γm) [CT.at 83 (ansBad (.hs (catN g (i + 1))) (g (i + 1)) hb' hn)] Lno false 0 0 loopM [2, 3, 4, 8, 9, 10] [] 25 [.any, .any, .hs 0 0 (catN g (i + 1)).size, .sl 1 m (i64F g), .v (.int .i64 (m : Int)), .v (.int .i64 ((i + 1 : Nat) : Int))] [some (.arr 1 (catN g (i + 1)).size (bsF (catN g (i + 1))))]).sat _
      rw [roundMb1 m g (g (i + 1)) (i + 1) (catN g (i + 1)) hb' hn]
      have hc : decide (((i + 1 : Nat) : Int) < (m : Int)) = true := decide_eq_true (by omega)
      rw [hc]
      exact ⟨fun _ => ⟨by rw [decide_eq_true (show (0 : Int) ≤ ((i + 1 : Nat) : Int) by omega)]; rfl, cl_iff.2 ⟨LeL.refl _, LeH.refl _⟩, fun _ => ⟨rfl, ⟨.refl _, .refl _, .any _, .any _, .any _, .any _, trivial⟩, trivial⟩, fun h => by simp at h⟩, fun h => by simp at h⟩
theorem runMg (a : NA) (m : Nat) (g : Nat → Int) : bodyE (P := Tryd.prog) (Γ := Γm) [] (fun _ => LSpec.at [2, 3, 4, 8, 9, 10] [] (SM (.sl (m + 1) g) 0) (OMg (.sl (m + 1) g))) false 25 [.tmp 2, .tmp 3] (bodyOf Tryd.f81) [.sl 1 (m + 1) (i64F g)] [] =
  Tree.chk (cl (LeL [.v (.slice none (0 : Nat) (0 : Nat)), .v (.int .i64 (0 : Int)), .v (.slice none (0 : Nat) (0 : Nat)), .sl 1 (m + (1 : Nat)) fun j => [.v (.int .i64 (g j))], .v (.int .i64 
    (↑(m + (1 : Nat)) : Int)), .v (.int .i64 (0 : Int))] [.any, .any, .v (.slice none (0 : Nat) (0 : Nat)), .sl 1 (m + (1 : Nat)) fun j => [.v (.int .i64 (g j))], .v (.int .i64 (↑(NA.m 
    (NA.sl (m + (1 : Nat)) g)) : Int)), .v (.int .i64 (↑(0 : Nat) : Int))] ∧ LeH [] [])) (.leaf (Ans.mk (.tup [.hs 0 0 (ByteArray.size (catN (NA.g (NA.sl (m + (1 : Nat)) g)) 
    (Nat.add._f Nat.zero PUnit.unit m + (1 : Nat)))), .v (.int .i64 (0 : Int))]) [some (.arr 1 (ByteArray.size (catN (NA.g (NA.sl (m + (1 : Nat)) g)) (Nat.add._f Nat.zero PUnit.unit m 
    + (1 : Nat)))) fun j => [.v (.int IntKind.u8 (sbyte (catN (NA.g (NA.sl (m + (1 : Nat)) g)) (Nat.add._f Nat.zero PUnit.unit m + (1 : Nat))) j))])])) := by kernel_rfl
theorem runM0 (g : Nat → Int) : bodyE (P := Tryd.prog) (Γ := Γm) [] (fun _ => LSpec.at [2, 3, 4, 8, 9, 10] [] (SM (.sl 0 g) 0) (OMg (.sl 0 g))) false 25 [.tmp 2, .tmp 3] (bodyOf Tryd.f81) [.sl 1 0 (i64F g)] [] =
  Tree.chk (cl (LeL [.v (.slice none (0 : Nat) (0 : Nat)), .v (.int .i64 (0 : Int)), .v (.slice none (0 : Nat) (0 : Nat)), .sl 1 (0 : Nat) fun j => [.v (.int .i64 (g j))], .v (.int .i64 (↑(0 
    : Nat) : Int)), .v (.int .i64 (0 : Int))] [.any, .any, .v (.slice none (0 : Nat) (0 : Nat)), .sl 1 (0 : Nat) fun j => [.v (.int .i64 (g j))], .v (.int .i64 (↑(0 : Nat) : Int)), .v 
    (.int .i64 (↑(0 : Nat) : Int))] ∧ LeH [] [])) (.leaf (Ans.mk (.tup [.v (.slice none (0 : Nat) (0 : Nat)), .v (.int .i64 (0 : Int))]) [])) := by kernel_rfl
theorem runMn  : bodyE (P := Tryd.prog) (Γ := Γm) [] (fun _ => LSpec.at [2, 3, 4, 8, 9, 10] [] (SM .nil 0) (OMg .nil)) false 25 [.tmp 2, .tmp 3] (bodyOf Tryd.f81) [.v (.slice none 0 0)] [] =
  Tree.chk (cl (LeL [.v (.slice none (0 : Nat) (0 : Nat)), .v (.int .i64 (0 : Int)), .v (.slice none (0 : Nat) (0 : Nat)), .v (.slice none (0 : Nat) (0 : Nat)), .v (.int .i64 (0 : Int)), .v 
    (.int .i64 (0 : Int))] [.any, .any, .v (.slice none (0 : Nat) (0 : Nat)), .v (.slice none (0 : Nat) (0 : Nat)), .v (.int .i64 (↑(0 : Nat) : Int)), .v (.int .i64 (↑(0 : Nat) : 
    Int))] ∧ LeH [] [])) (.leaf (Ans.mk (.tup [.v (.slice none (0 : Nat) (0 : Nat)), .v (.int .i64 (0 : Int))]) [])) := by kernel_rfl
theorem runMh (m : Nat) (g : Nat → Int) : bodyE (P := Tryd.prog) (Γ := Γm) [] (fun _ => LSpec.at [2, 3, 4, 8, 9, 10] [] (SM (.hs (m + 1) g) 0) (OMg (.hs (m + 1) g))) false 25 [.tmp 2, .tmp 3] (bodyOf Tryd.f81) [.hs 0 0 (m + 1)] [.arr 1 (m + 1) (i64F g)] =
  Tree.chk (cl (LeL [.v (.slice none (0 : Nat) (0 : Nat)), .v (.int .i64 (0 : Int)), .v (.slice none (0 : Nat) (0 : Nat)), .hs 0 0 (m + (1 : Nat)), .v (.int .i64 (↑(m + (1 : Nat)) : Int)), .v 
    (.int .i64 (0 : Int))] [.any, .any, .v (.slice none (0 : Nat) (0 : Nat)), .hs 0 0 (m + (1 : Nat)), .v (.int .i64 (↑(NA.m (NA.hs (m + (1 : Nat)) g)) : Int)), .v (.int .i64 (↑(0 : 
    Nat) : Int))] ∧ LeH [some (.arr 1 (m + (1 : Nat)) fun j => [.v (.int .i64 (g j))])] [some (.arr 1 (m + (1 : Nat)) fun j => [.v (.int .i64 (g j))])])) (.leaf (Ans.mk (.tup [.hs 1 0 
    (ByteArray.size (catN (NA.g (NA.hs (m + (1 : Nat)) g)) (Nat.add._f Nat.zero PUnit.unit m + (1 : Nat)))), .v (.int .i64 (0 : Int))]) [some (.arr 1 (m + (1 : Nat)) fun j => [.v (.int 
    .i64 (g j))]), some (.arr 1 (ByteArray.size (catN (NA.g (NA.hs (m + (1 : Nat)) g)) (Nat.add._f Nat.zero PUnit.unit m + (1 : Nat)))) fun j => [.v (.int IntKind.u8 (sbyte (catN (NA.g 
    (NA.hs (m + (1 : Nat)) g)) (Nat.add._f Nat.zero PUnit.unit m + (1 : Nat))) j))])])) := by kernel_rfl
theorem runMb (m : Nat) (g : Nat → Int) : bodyE (P := Tryd.prog) (Γ := Γm) [] (fun _ => LSpec.at [2, 3, 4, 8, 9, 10] [] (SM (.sl m g) 0) (OMb (.sl m g))) false 25 [.tmp 2, .tmp 3] (bodyOf Tryd.f81) [.sl 1 m (i64F g)] [] =
  Tree.chk (cl (LeL [.v (.slice none (0 : Nat) (0 : Nat)), .v (.int .i64 (0 : Int)), .v (.slice none (0 : Nat) (0 : Nat)), .sl 1 m fun j => [.v (.int .i64 (g j))], .v (.int .i64 (↑m : Int)), 
    .v (.int .i64 (0 : Int))] [.any, .any, .v (.slice none (0 : Nat) (0 : Nat)), .sl 1 m fun j => [.v (.int .i64 (g j))], .v (.int .i64 (↑(NA.m (NA.sl m g)) : Int)), .v (.int .i64 (↑(0 
    : Nat) : Int))] ∧ LeH [] [])) (.leaf (Ans.mk (.tup [.v (.slice none (0 : Nat) (0 : Nat)), .v (.int .i64 (10 : Int))]) [])) := by kernel_rfl
def outBl (g : Nat → Int) : Nat → List Blk
  | 0 => []
  | i + 1 => [.arr 1 (catN g (i + 1)).size (bsF (catN g (i + 1)))]
def NA.ok (a : NA) : Prop := (∀ j, j < a.m → okN (a.g j) = true) ∧ a.m ≤ 100000 ∧ (a.k = 1 → 0 < a.m)
theorem ansNums : ∀ (a : NA), a.ok → Answers Tryd.prog Γm 81 [a.av] a.bl (.tup [outV a.k a.g a.m, .v (.int .i64 0)]) (a.bl.map some) (outBl a.g a.m)
  | .nil, h => answers (fn := Tryd.f81) (c := bodyOf Tryd.f81) (ntmps := 25) (results := [.tmp 2, .tmp 3]) [] (fun _ => LSpec.at [2, 3, 4, 8, 9, 10] [] (SM .nil 0) (OMg .nil)) false Tryd.func81 (by kernel_rfl) (by kernel_rfl) (by kernel_rfl) (by kernel_rfl) (by simp) rfl
    (oneLoop (b := loopM) (by kernel_rfl) (loopMg_ok .nil h.1 h.2.1 0 (Nat.zero_le _))) (Meets.of runMn ⟨cl_iff.2 ⟨⟨.any _, .any _, .refl _, .refl _, .refl _, .refl _, trivial⟩, trivial⟩, .refl _, trivial⟩)
  | .sl 0 g, h => answers (fn := Tryd.f81) (c := bodyOf Tryd.f81) (ntmps := 25) (results := [.tmp 2, .tmp 3]) [] (fun _ => LSpec.at [2, 3, 4, 8, 9, 10] [] (SM (.sl 0 g) 0) (OMg (.sl 0 g))) false Tryd.func81 (by kernel_rfl) (by kernel_rfl) (by kernel_rfl) (by kernel_rfl) (by simp) rfl
    (oneLoop (b := loopM) (by kernel_rfl) (loopMg_ok (.sl 0 g) h.1 h.2.1 0 (Nat.zero_le _))) (Meets.of (runM0 g) ⟨cl_iff.2 ⟨⟨.any _, .any _, .refl _, .refl _, .refl _, .refl _, trivial⟩, trivial⟩, .refl _, trivial⟩)
  | .sl (m + 1) g, h => answers (fn := Tryd.f81) (c := bodyOf Tryd.f81) (ntmps := 25) (results := [.tmp 2, .tmp 3]) [] (fun _ => LSpec.at [2, 3, 4, 8, 9, 10] [] (SM (.sl (m + 1) g) 0) (OMg (.sl (m + 1) g))) false Tryd.func81 (by kernel_rfl) (by kernel_rfl) (by kernel_rfl) (by kernel_rfl) (by simp) rfl
    (oneLoop (b := loopM) (by kernel_rfl) (loopMg_ok (.sl (m + 1) g) h.1 h.2.1 0 (Nat.zero_le _))) (Meets.of (runMg .nil m g) ⟨cl_iff.2 ⟨⟨.any _, .any _, .refl _, .refl _, .refl _, .refl _, trivial⟩, trivial⟩, .refl _, .refl _, trivial⟩)
  | .hs (m + 1) g, h => answers (fn := Tryd.f81) (c := bodyOf Tryd.f81) (ntmps := 25) (results := [.tmp 2, .tmp 3]) [] (fun _ => LSpec.at [2, 3, 4, 8, 9, 10] [] (SM (.hs (m + 1) g) 0) (OMg (.hs (m + 1) g))) false Tryd.func81 (by kernel_rfl) (by kernel_rfl) (by kernel_rfl) (by kernel_rfl) (by simp) rfl
    (oneLoop (b := loopM) (by kernel_rfl) (loopMg_ok (.hs (m + 1) g) h.1 h.2.1 0 (Nat.zero_le _))) (Meets.of (runMh m g) ⟨cl_iff.2 ⟨⟨.any _, .any _, .refl _, .refl _, .refl _, .refl _, trivial⟩, LeH.refl _⟩, .refl _, .refl _, .refl _, trivial⟩)
  | .hs 0 g, h => absurd (h.2.2 rfl) (Nat.lt_irrefl _)
theorem ansNumsBad (m : Nat) (g : Nat → Int) (b : Nat) (hb : b < m) (hok : ∀ j, j < b → okN (g j) = true) (hbad : okN (g b) = false) (hm : m ≤ 100000) : Answers Tryd.prog Γm 81 [.sl 1 m (i64F g)] [] (.tup [.v (.slice none 0 0), .v (.int .i64 10)]) [] [] :=
  answers (fn := Tryd.f81) (c := bodyOf Tryd.f81) (ntmps := 25) (results := [.tmp 2, .tmp 3]) [] (fun _ => LSpec.at [2, 3, 4, 8, 9, 10] [] (SM (.sl m g) 0) (OMb (.sl m g))) false Tryd.func81 (by kernel_rfl) (by kernel_rfl) (by kernel_rfl) (by kernel_rfl) (by simp) rfl
    (oneLoop (b := loopM) (by kernel_rfl) (loopMb_ok m g b hb hok hbad hm 0 (Nat.zero_le _))) (Meets.of (runMb m g) ⟨cl_iff.2 ⟨⟨.any _, .any _, .refl _, .refl _, .refl _, .refl _, trivial⟩, trivial⟩, .refl _, trivial⟩)
theorem ansNumsS (m : Nat) (g : Nat → Int) (h : (NA.sl (m + 1) g).ok) : Answers Tryd.prog Γm 81 [.sl 1 (m + 1) (i64F g)] [] (.tup [.hs 0 0 (catN g (m + 1)).size, .v (.int .i64 0)]) [] [.arr 1 (catN g (m + 1)).size (bsF (catN g (m + 1)))] := ansNums (.sl (m + 1) g) h
theorem ansNums0 (g : Nat → Int) (h : (NA.sl 0 g).ok) : Answers Tryd.prog Γm 81 [.sl 1 0 (i64F g)] [] (.tup [.v (.slice none 0 0), .v (.int .i64 0)]) [] [] := ansNums (.sl 0 g) h
theorem ansNumsN (h : NA.nil.ok) : Answers Tryd.prog Γm 81 [.v (.slice none 0 0)] [] (.tup [.v (.slice none 0 0), .v (.int .i64 0)]) [] [] := ansNums .nil h
theorem allBytes0 (n : Nat) (t : ByteArray) : (allBytes n fun j => [AV.v (Value.int IntKind.u8 (sbyte t ((0 : Nat) + j)))]) = true := by
  simp only [Nat.zero_add]; exact allBytes_bsF n t
theorem textOf0 (t : ByteArray) : (textOf t.size fun j => [AV.v (Value.int IntKind.u8 (sbyte t ((0 : Nat) + j)))]) = t := by
  simp only [Nat.zero_add]; exact textOf_bsF t
theorem okN_of {n : Nat} (h : n ≤ 4611686018427387904) : okN (n : Int) = true := by
  unfold okN
  rw [decide_eq_true (show (0 : Int) ≤ (n : Int) by omega), decide_eq_true (show (n : Int) ≤ 4611686018427387904 by omega)]; rfl
theorem okN_not {n : Int} (h : n < 0 ∨ 4611686018427387904 < n) : okN n = false := by
  cases hh : okN n with
  | false => rfl
  | true => obtain ⟨k, rfl, hk⟩ := okN_nat hh; omega
theorem guard3 {a b c : Bool} (h : (bif a then true else bif b then true else c) = false) : a = false ∧ b = false ∧ c = false := by
  cases a <;> cases b <;> cases c <;> simp at h ⊢
theorem LeL_self (xs : List AV) : LeL xs xs = True := eq_true (LeL.refl xs)
theorem LeH_self (xs : Heap) : LeH xs xs = True := eq_true (LeH.refl xs)
theorem cl_true : cl True = true := cl_iff.2 trivial
theorem allBytesF (n : Nat) (t : ByteArray) : (allBytes n fun j => [AV.v (Value.int IntKind.u8 (sbyte t j))]) = true := allBytes_bsF n t
theorem textOfF (t : ByteArray) : (textOf t.size fun j => [AV.v (Value.int IntKind.u8 (sbyte t j))]) = t := textOf_bsF t
theorem textOfF2 (a b : ByteArray) : (textOf (a.size + b.size) fun j => [AV.v (Value.int IntKind.u8 (sbyte (a ++ b) j))]) = a ++ b := by
  have := textOfF (a ++ b)
  rwa [ByteArray.size_append] at this
theorem textOfF3 (a b c : ByteArray) : (textOf (a.size + (b.size + c.size)) fun j => [AV.v (Value.int IntKind.u8 (sbyte (a ++ (b ++ c)) j))]) = a ++ (b ++ c) := by
  have := textOfF (a ++ (b ++ c))
  rwa [ByteArray.size_append, ByteArray.size_append] at this
end Go.Eng.TA

namespace Go.Eng.TA
open Go Go.Eng Go.Proofs
theorem runTn (s : ByteArray) (h : s.size ≤ 4611686018427387904) : bodyE (P := Tryd.prog) (Γ := Γm) [CT.at 83 (ansNum .nil s.size trivial h)] Lno false 22 [.tmp 4, .tmp 5] (bodyOf Tryd.f82) [.v (.slice none 0 0), .v (.string s)] [] =
  Tree.br (decide ((65536 : Int) < (↑(ByteArray.size s) : Int))) (.leaf (Ans.mk (.tup [.v (.slice none (0 : Nat) (0 : Nat)), .v (.int .i64 (2 : Int))]) [])) (.chk (cl (LeL [.v (.slice none 
    (0 : Nat) (0 : Nat)), .v (.int .i64 (↑(ByteArray.size s) : Int))] [.v (.slice none (0 : Nat) (0 : Nat)), .v (.int .i64 (↑(ByteArray.size s) : Int))] ∧ LeH [] [])) (.chk (roomOk (1 
    : Nat) (ByteArray.size (BA.t BA.nil ++ numB (ByteArray.size s)) + ByteArray.size s)) (.leaf (Ans.mk (.tup [.hs 0 0 (ByteArray.size (BA.t BA.nil ++ numB (ByteArray.size s)) + 
    ByteArray.size s), .v (.int .i64 (0 : Int))]) [some (.arr 1 (ByteArray.size (BA.t BA.nil ++ numB (ByteArray.size s)) + ByteArray.size s) fun j => mixL (decide (j < ByteArray.size 
    (BA.t BA.nil ++ numB (ByteArray.size s)))) [.v (.int IntKind.u8 (sbyte (BA.t BA.nil ++ numB (ByteArray.size s)) ((0 : Nat) + j)))] [.v (.int IntKind.u8 (sbyte s (j - ByteArray.size 
    (BA.t BA.nil ++ numB (ByteArray.size s)))))])])))) := by kernel_rfl
theorem runTs (t : ByteArray) (s : ByteArray) (ht : (BA.sl t).ok) (h : s.size ≤ 4611686018427387904) : bodyE (P := Tryd.prog) (Γ := Γm) [CT.at 83 (ansNum (.sl t) s.size ht h)] Lno false 22 [.tmp 4, .tmp 5] (bodyOf Tryd.f82) [.sl 1 t.size (bsF t), .v (.string s)] [] =
  Tree.br (decide ((65536 : Int) < (↑(ByteArray.size s) : Int))) (.leaf (Ans.mk (.tup [.v (.slice none (0 : Nat) (0 : Nat)), .v (.int .i64 (2 : Int))]) [])) (.chk (cl (LeL [.sl 1 
    (ByteArray.size t) fun j => [.v (.int IntKind.u8 (sbyte t j))], .v (.int .i64 (↑(ByteArray.size s) : Int))] [.sl 1 (ByteArray.size t) fun j => [.v (.int IntKind.u8 (sbyte t j))], 
    .v (.int .i64 (↑(ByteArray.size s) : Int))] ∧ LeH [] [])) (.chk (roomOk (1 : Nat) (ByteArray.size (BA.t (BA.sl t) ++ numB (ByteArray.size s)) + ByteArray.size s)) (.leaf (Ans.mk 
    (.tup [.hs 0 0 (ByteArray.size (BA.t (BA.sl t) ++ numB (ByteArray.size s)) + ByteArray.size s), .v (.int .i64 (0 : Int))]) [some (.arr 1 (ByteArray.size (BA.t (BA.sl t) ++ numB 
    (ByteArray.size s)) + ByteArray.size s) fun j => mixL (decide (j < ByteArray.size (BA.t (BA.sl t) ++ numB (ByteArray.size s)))) [.v (.int IntKind.u8 (sbyte (BA.t (BA.sl t) ++ numB 
    (ByteArray.size s)) ((0 : Nat) + j)))] [.v (.int IntKind.u8 (sbyte s (j - ByteArray.size (BA.t (BA.sl t) ++ numB (ByteArray.size s)))))])])))) := by kernel_rfl
theorem runTh (t : ByteArray) (s : ByteArray) (ht : (BA.hs t).ok) (h : s.size ≤ 4611686018427387904) : bodyE (P := Tryd.prog) (Γ := Γm) [CT.at 83 (ansNum (.hs t) s.size ht h)] Lno false 22 [.tmp 4, .tmp 5] (bodyOf Tryd.f82) [.hs 0 0 t.size, .v (.string s)] [.arr 1 t.size (bsF t)] =
  Tree.br (decide ((65536 : Int) < (↑(ByteArray.size s) : Int))) (.leaf (Ans.mk (.tup [.v (.slice none (0 : Nat) (0 : Nat)), .v (.int .i64 (2 : Int))]) [some (.arr 1 (ByteArray.size t) fun j 
    => [.v (.int IntKind.u8 (sbyte t j))])])) (.chk (cl (LeL [.hs 0 0 (ByteArray.size t), .v (.int .i64 (↑(ByteArray.size s) : Int))] [.hs 0 0 (ByteArray.size t), .v (.int .i64 
    (↑(ByteArray.size s) : Int))] ∧ LeH [some (.arr 1 (ByteArray.size t) fun j => [.v (.int IntKind.u8 (sbyte t j))])] [some (.arr 1 (ByteArray.size t) fun j => [.v (.int IntKind.u8 
    (sbyte t j))])])) (.chk (roomOk (1 : Nat) (ByteArray.size (BA.t (BA.hs t) ++ numB (ByteArray.size s)) + ByteArray.size s)) (.leaf (Ans.mk (.tup [.hs 1 0 (ByteArray.size (BA.t 
    (BA.hs t) ++ numB (ByteArray.size s)) + ByteArray.size s), .v (.int .i64 (0 : Int))]) [some (.arr 1 (ByteArray.size t) fun j => [.v (.int IntKind.u8 (sbyte t j))]), some (.arr 1 
    (ByteArray.size (BA.t (BA.hs t) ++ numB (ByteArray.size s)) + ByteArray.size s) fun j => mixL (decide (j < ByteArray.size (BA.t (BA.hs t) ++ numB (ByteArray.size s)))) [.v (.int 
    IntKind.u8 (sbyte (BA.t (BA.hs t) ++ numB (ByteArray.size s)) ((0 : Nat) + j)))] [.v (.int IntKind.u8 (sbyte s (j - ByteArray.size (BA.t (BA.hs t) ++ numB (ByteArray.size 
    s)))))])])))) := by kernel_rfl
theorem joinF (a b : ByteArray) (j : Nat) : (bif decide (j < a.size) then sbyte a ((0 : Nat) + j) else sbyte b (j - a.size)) = sbyte (a ++ b) j := by
  rw [sbyte_append]
  by_cases h : j < a.size
  · rw [decide_eq_true h, if_pos h, Nat.zero_add]; rfl
  · rw [decide_eq_false h, if_neg h]; rfl
theorem join_size (a b : ByteArray) : a.size + b.size = (a ++ b).size := by simp
def textB (t s : ByteArray) : ByteArray := t ++ numB s.size ++ s
theorem ansText : ∀ (a : BA) (s : ByteArray), a.ok → a.n = 0 → s.size ≤ 65536 → Answers Tryd.prog Γm 82 [a.av, .v (.string s)] a.bl (.tup [.hs 0 0 (textB a.t s).size, .v (.int .i64 0)]) (a.bl.map some) [.arr 1 (textB a.t s).size (bsF (textB a.t s))]
  | .nil, s, ht, _, hs => by
    have h : s.size ≤ 4611686018427387904 := by omega
    exact answers (fn := Tryd.f82) (c := bodyOf Tryd.f82) (ntmps := 22) (results := [.tmp 4, .tmp 5]) [CT.at 83 (ansNum .nil s.size ht h)] Lno false Tryd.func82 (by kernel_rfl) (by kernel_rfl) (by kernel_rfl) (by kernel_rfl) (by simp) rfl (noLoops (by kernel_rfl))
      (Meets.of (runTn s h) ⟨fun hc => by have := of_decide_eq_true hc; omega, fun _ => ⟨cl_iff.2 ⟨LeL.refl _, trivial⟩, room' (by
      have h1 : (⟨#[]⟩ : ByteArray).size ≤ 1000000000 := BA.ok_small ht
      have := (numB_size h).1
      simp only [ByteArray.size_append]
      show (⟨#[]⟩ : ByteArray).size + (numB s.size).size + s.size ≤ _
      omega), by
      simp only [mixU, joinF, join_size]
      exact ⟨.refl _, .refl _, trivial⟩⟩⟩)
  | .sl t, s, ht, _, hs => by
    have h : s.size ≤ 4611686018427387904 := by omega
    exact answers (fn := Tryd.f82) (c := bodyOf Tryd.f82) (ntmps := 22) (results := [.tmp 4, .tmp 5]) [CT.at 83 (ansNum (.sl t) s.size ht h)] Lno false Tryd.func82 (by kernel_rfl) (by kernel_rfl) (by kernel_rfl) (by kernel_rfl) (by simp) rfl (noLoops (by kernel_rfl))
      (Meets.of (runTs t s ht h) ⟨fun hc => by have := of_decide_eq_true hc; omega, fun _ => ⟨cl_iff.2 ⟨LeL.refl _, trivial⟩, room' (by
      have h1 : (t).size ≤ 1000000000 := BA.ok_small ht
      have := (numB_size h).1
      simp only [ByteArray.size_append]
      show (t).size + (numB s.size).size + s.size ≤ _
      omega), by
      simp only [mixU, joinF, join_size]
      exact ⟨.refl _, .refl _, trivial⟩⟩⟩)
  | .hs t, s, _, h0, _ => absurd h0 (by simp [BA.n])
theorem ansTextH (t s : ByteArray) (ht : (BA.hs t).ok) (hs : s.size ≤ 65536) : Answers Tryd.prog Γm 82 [.hs 0 0 t.size, .v (.string s)] [.arr 1 t.size (bsF t)] (.tup [.hs 1 0 (textB t s).size, .v (.int .i64 0)]) [some (.arr 1 t.size (bsF t))] [.arr 1 (textB t s).size (bsF (textB t s))] := by
    have h : s.size ≤ 4611686018427387904 := by omega
    exact answers (fn := Tryd.f82) (c := bodyOf Tryd.f82) (ntmps := 22) (results := [.tmp 4, .tmp 5]) [CT.at 83 (ansNum (.hs t) s.size ht h)] Lno false Tryd.func82 (by kernel_rfl) (by kernel_rfl) (by kernel_rfl) (by kernel_rfl) (by simp) rfl (noLoops (by kernel_rfl))
      (Meets.of (runTh t s ht h) ⟨fun hc => by have := of_decide_eq_true hc; omega, fun _ => ⟨cl_iff.2 ⟨LeL.refl _, LeH.refl _⟩, room' (by
      have h1 : (t).size ≤ 1000000000 := BA.ok_small ht
      have := (numB_size h).1
      simp only [ByteArray.size_append]
      show (t).size + (numB s.size).size + s.size ≤ _
      omega), by
      simp only [mixU, joinF, join_size]
      exact ⟨.refl _, .refl _, .refl _, trivial⟩⟩⟩)
theorem ansTextHBad (t s : ByteArray) (ht : (BA.hs t).ok) (hs : 65536 < s.size) (h : s.size ≤ 4611686018427387904) : Answers Tryd.prog Γm 82 [.hs 0 0 t.size, .v (.string s)] [.arr 1 t.size (bsF t)] (.tup [.v (.slice none 0 0), .v (.int .i64 2)]) [some (.arr 1 t.size (bsF t))] [] :=
  answers (fn := Tryd.f82) (c := bodyOf Tryd.f82) (ntmps := 22) (results := [.tmp 4, .tmp 5]) [CT.at 83 (ansNum (.hs t) s.size ht h)] Lno false Tryd.func82 (by kernel_rfl) (by kernel_rfl) (by kernel_rfl) (by kernel_rfl) (by simp) rfl (noLoops (by kernel_rfl))
      (Meets.of (runTh t s ht h) ⟨fun _ => ⟨.refl _, .refl _, trivial⟩, fun hc => by have := of_decide_eq_false hc; omega⟩)
theorem ansTextBad : ∀ (a : BA) (s : ByteArray), a.ok → a.n = 0 → 65536 < s.size → s.size ≤ 4611686018427387904 → Answers Tryd.prog Γm 82 [a.av, .v (.string s)] a.bl (.tup [.v (.slice none 0 0), .v (.int .i64 2)]) (a.bl.map some) []
  | .nil, s, ht, _, hs, h => answers (fn := Tryd.f82) (c := bodyOf Tryd.f82) (ntmps := 22) (results := [.tmp 4, .tmp 5]) [CT.at 83 (ansNum .nil s.size ht h)] Lno false Tryd.func82 (by kernel_rfl) (by kernel_rfl) (by kernel_rfl) (by kernel_rfl) (by simp) rfl (noLoops (by kernel_rfl))
      (Meets.of (runTn s h) ⟨fun _ => ⟨.refl _, trivial⟩, fun hc => by have := of_decide_eq_false hc; omega⟩)
  | .sl t, s, ht, _, hs, h => answers (fn := Tryd.f82) (c := bodyOf Tryd.f82) (ntmps := 22) (results := [.tmp 4, .tmp 5]) [CT.at 83 (ansNum (.sl t) s.size ht h)] Lno false Tryd.func82 (by kernel_rfl) (by kernel_rfl) (by kernel_rfl) (by kernel_rfl) (by simp) rfl (noLoops (by kernel_rfl))
      (Meets.of (runTs t s ht h) ⟨fun _ => ⟨.refl _, trivial⟩, fun hc => by have := of_decide_eq_false hc; omega⟩)
  | .hs t, s, _, h0, _, _ => absurd h0 (by simp [BA.n])
end Go.Eng.TA

namespace Go.Eng.TA
open Go Go.Eng Go.Eng.M Go.Lib Go.Proofs
theorem runPP (x : Tx) : bodyE (P := Tryd.prog) (Γ := Γm) [kTx, kPr] Lno false 42 [.tmp 2, .tmp 3] (bodyOf Tryd.f31) [txV x] [] =
  Tree.chk (cl (smallT (Tx.mk x.k x.fr x.to x.ky x.vl x.am x.nn) ∧ LeL [.agg [.v (.int .i64 x.k), .v (.string x.fr), .v (.string x.to), .v (.string x.ky), .v (.string x.vl), .v (.int .i64 
    x.am), .v (.int .i64 x.nn)]] [.agg [.v (.int .i64 x.k), .v (.string x.fr), .v (.string x.to), .v (.string x.ky), .v (.string x.vl), .v (.int .i64 x.am), .v (.int .i64 x.nn)]] ∧ LeH 
    [] [])) (.br (!decide (erT (txB (Tx.mk x.k x.fr x.to x.ky x.vl x.am x.nn)) = (0 : Int))) (.leaf (Ans.mk (.tup [.v (.string (ByteArray.mk #[])), .v (.int .i64 (erT (txB (Tx.mk x.k 
    x.fr x.to x.ky x.vl x.am x.nn))))]) [])) (.chk (cl (inI64 x.nn ∧ LeL [.v (.int .i64 x.nn)] [.v (.int .i64 x.nn)] ∧ LeH [] []) && (decide (ByteArray.size (prS x.nn) + (2 : Nat) ≤ 
    (9223372036854775807 : Nat)) && decide (ByteArray.size (prS x.nn ++ ByteArray.mk #[(58 : UInt8), (32 : UInt8)]) + ByteArray.size x.fr ≤ (9223372036854775807 : Nat)))) (.br (decide 
    (x.k = (1 : Int))) (.chk (decide ((5 : Nat) + ByteArray.size (prS x.nn ++ ByteArray.mk #[(58 : UInt8), (32 : UInt8)] ++ x.fr) ≤ (9223372036854775807 : Nat)) && (decide 
    (ByteArray.size (ByteArray.mk #[(109 : UInt8), (111 : UInt8), (118 : UInt8), (101 : UInt8), (32 : UInt8)] ++ (prS x.nn ++ ByteArray.mk #[(58 : UInt8), (32 : UInt8)] ++ x.fr)) + (7 
    : Nat) ≤ (9223372036854775807 : Nat)) && (cl (inI64 x.am ∧ LeL [.v (.int .i64 x.am)] [.v (.int .i64 x.am)] ∧ LeH [] []) && (decide (ByteArray.size (ByteArray.mk #[(109 : UInt8), 
    (111 : UInt8), (118 : UInt8), (101 : UInt8), (32 : UInt8)] ++ (prS x.nn ++ ByteArray.mk #[(58 : UInt8), (32 : UInt8)] ++ x.fr) ++ ByteArray.mk #[(32 : UInt8), (103 : UInt8), (105 : 
    UInt8), (118 : UInt8), (101 : UInt8), (115 : UInt8), (32 : UInt8)]) + ByteArray.size (prS x.am) ≤ (9223372036854775807 : Nat)) && (decide (ByteArray.size (ByteArray.mk #[(109 : 
    UInt8), (111 : UInt8), (118 : UInt8), (101 : UInt8), (32 : UInt8)] ++ (prS x.nn ++ ByteArray.mk #[(58 : UInt8), (32 : UInt8)] ++ x.fr) ++ ByteArray.mk #[(32 : UInt8), (103 : 
    UInt8), (105 : UInt8), (118 : UInt8), (101 : UInt8), (115 : UInt8), (32 : UInt8)] ++ prS x.am) + (4 : Nat) ≤ (9223372036854775807 : Nat)) && decide (ByteArray.size (ByteArray.mk 
    #[(109 : UInt8), (111 : UInt8), (118 : UInt8), (101 : UInt8), (32 : UInt8)] ++ (prS x.nn ++ ByteArray.mk #[(58 : UInt8), (32 : UInt8)] ++ x.fr) ++ ByteArray.mk #[(32 : UInt8), (103 
    : UInt8), (105 : UInt8), (118 : UInt8), (101 : UInt8), (115 : UInt8), (32 : UInt8)] ++ prS x.am ++ ByteArray.mk #[(32 : UInt8), (116 : UInt8), (111 : UInt8), (32 : UInt8)]) + 
    ByteArray.size x.to ≤ (9223372036854775807 : Nat))))))) (.leaf (Ans.mk (.tup [.v (.string (ByteArray.mk #[(109 : UInt8), (111 : UInt8), (118 : UInt8), (101 : UInt8), (32 : UInt8)] 
    ++ (prS x.nn ++ ByteArray.mk #[(58 : UInt8), (32 : UInt8)] ++ x.fr) ++ ByteArray.mk #[(32 : UInt8), (103 : UInt8), (105 : UInt8), (118 : UInt8), (101 : UInt8), (115 : UInt8), (32 : 
    UInt8)] ++ prS x.am ++ ByteArray.mk #[(32 : UInt8), (116 : UInt8), (111 : UInt8), (32 : UInt8)] ++ x.to)), .v (.int .i64 (0 : Int))]) []))) (.chk (decide ((4 : Nat) + 
    ByteArray.size (prS x.nn ++ ByteArray.mk #[(58 : UInt8), (32 : UInt8)] ++ x.fr) ≤ (9223372036854775807 : Nat)) && (decide (ByteArray.size (ByteArray.mk #[(112 : UInt8), (117 : 
    UInt8), (116 : UInt8), (32 : UInt8)] ++ (prS x.nn ++ ByteArray.mk #[(58 : UInt8), (32 : UInt8)] ++ x.fr)) + (6 : Nat) ≤ (9223372036854775807 : Nat)) && (decide (ByteArray.size 
    (ByteArray.mk #[(112 : UInt8), (117 : UInt8), (116 : UInt8), (32 : UInt8)] ++ (prS x.nn ++ ByteArray.mk #[(58 : UInt8), (32 : UInt8)] ++ x.fr) ++ ByteArray.mk #[(32 : UInt8), (115 
    : UInt8), (101 : UInt8), (116 : UInt8), (115 : UInt8), (32 : UInt8)]) + ByteArray.size x.ky ≤ (9223372036854775807 : Nat)) && (decide (ByteArray.size (ByteArray.mk #[(112 : UInt8), 
    (117 : UInt8), (116 : UInt8), (32 : UInt8)] ++ (prS x.nn ++ ByteArray.mk #[(58 : UInt8), (32 : UInt8)] ++ x.fr) ++ ByteArray.mk #[(32 : UInt8), (115 : UInt8), (101 : UInt8), (116 : 
    UInt8), (115 : UInt8), (32 : UInt8)] ++ x.ky) + (4 : Nat) ≤ (9223372036854775807 : Nat)) && decide (ByteArray.size (ByteArray.mk #[(112 : UInt8), (117 : UInt8), (116 : UInt8), (32 
    : UInt8)] ++ (prS x.nn ++ ByteArray.mk #[(58 : UInt8), (32 : UInt8)] ++ x.fr) ++ ByteArray.mk #[(32 : UInt8), (115 : UInt8), (101 : UInt8), (116 : UInt8), (115 : UInt8), (32 : 
    UInt8)] ++ x.ky ++ ByteArray.mk #[(32 : UInt8), (116 : UInt8), (111 : UInt8), (32 : UInt8)]) + ByteArray.size x.vl ≤ (9223372036854775807 : Nat)))))) (.leaf (Ans.mk (.tup [.v 
    (.string (ByteArray.mk #[(112 : UInt8), (117 : UInt8), (116 : UInt8), (32 : UInt8)] ++ (prS x.nn ++ ByteArray.mk #[(58 : UInt8), (32 : UInt8)] ++ x.fr) ++ ByteArray.mk #[(32 : 
    UInt8), (115 : UInt8), (101 : UInt8), (116 : UInt8), (115 : UInt8), (32 : UInt8)] ++ x.ky ++ ByteArray.mk #[(32 : UInt8), (116 : UInt8), (111 : UInt8), (32 : UInt8)] ++ x.vl)), .v 
    (.int .i64 (0 : Int))]) [])))))) := by kernel_rfl
theorem runPQ (x : Tx) : bodyE (P := Tryd.prog) (Γ := Γm) [kPrR] Lno false 35 [.tmp 2] (bodyOf Tryd.f35) [txV x] [] =
  Tree.chk (cl (inI64 x.nn ∧ LeL [.v (.int .i64 x.nn)] [.v (.int .i64 x.nn)] ∧ LeH [] []) && (decide (ByteArray.size (prS x.nn) + (2 : Nat) ≤ (9223372036854775807 : Nat)) && decide 
    (ByteArray.size (prS x.nn ++ ByteArray.mk #[(58 : UInt8), (32 : UInt8)]) + ByteArray.size x.fr ≤ (9223372036854775807 : Nat)))) (.br (decide (x.k = (1 : Int))) (.chk (decide ((5 : 
    Nat) + ByteArray.size (prS x.nn ++ ByteArray.mk #[(58 : UInt8), (32 : UInt8)] ++ x.fr) ≤ (9223372036854775807 : Nat)) && (decide (ByteArray.size (ByteArray.mk #[(109 : UInt8), (111 
    : UInt8), (118 : UInt8), (101 : UInt8), (32 : UInt8)] ++ (prS x.nn ++ ByteArray.mk #[(58 : UInt8), (32 : UInt8)] ++ x.fr)) + (7 : Nat) ≤ (9223372036854775807 : Nat)) && (cl (inI64 
    x.am ∧ LeL [.v (.int .i64 x.am)] [.v (.int .i64 x.am)] ∧ LeH [] []) && (decide (ByteArray.size (ByteArray.mk #[(109 : UInt8), (111 : UInt8), (118 : UInt8), (101 : UInt8), (32 : 
    UInt8)] ++ (prS x.nn ++ ByteArray.mk #[(58 : UInt8), (32 : UInt8)] ++ x.fr) ++ ByteArray.mk #[(32 : UInt8), (103 : UInt8), (105 : UInt8), (118 : UInt8), (101 : UInt8), (115 : 
    UInt8), (32 : UInt8)]) + ByteArray.size (prS x.am) ≤ (9223372036854775807 : Nat)) && (decide (ByteArray.size (ByteArray.mk #[(109 : UInt8), (111 : UInt8), (118 : UInt8), (101 : 
    UInt8), (32 : UInt8)] ++ (prS x.nn ++ ByteArray.mk #[(58 : UInt8), (32 : UInt8)] ++ x.fr) ++ ByteArray.mk #[(32 : UInt8), (103 : UInt8), (105 : UInt8), (118 : UInt8), (101 : 
    UInt8), (115 : UInt8), (32 : UInt8)] ++ prS x.am) + (4 : Nat) ≤ (9223372036854775807 : Nat)) && decide (ByteArray.size (ByteArray.mk #[(109 : UInt8), (111 : UInt8), (118 : UInt8), 
    (101 : UInt8), (32 : UInt8)] ++ (prS x.nn ++ ByteArray.mk #[(58 : UInt8), (32 : UInt8)] ++ x.fr) ++ ByteArray.mk #[(32 : UInt8), (103 : UInt8), (105 : UInt8), (118 : UInt8), (101 : 
    UInt8), (115 : UInt8), (32 : UInt8)] ++ prS x.am ++ ByteArray.mk #[(32 : UInt8), (116 : UInt8), (111 : UInt8), (32 : UInt8)]) + ByteArray.size x.to ≤ (9223372036854775807 : 
    Nat))))))) (.leaf (Ans.mk (.v (.string (ByteArray.mk #[(109 : UInt8), (111 : UInt8), (118 : UInt8), (101 : UInt8), (32 : UInt8)] ++ (prS x.nn ++ ByteArray.mk #[(58 : UInt8), (32 : 
    UInt8)] ++ x.fr) ++ ByteArray.mk #[(32 : UInt8), (103 : UInt8), (105 : UInt8), (118 : UInt8), (101 : UInt8), (115 : UInt8), (32 : UInt8)] ++ prS x.am ++ ByteArray.mk #[(32 : 
    UInt8), (116 : UInt8), (111 : UInt8), (32 : UInt8)] ++ x.to))) []))) (.chk (decide ((4 : Nat) + ByteArray.size (prS x.nn ++ ByteArray.mk #[(58 : UInt8), (32 : UInt8)] ++ x.fr) ≤ 
    (9223372036854775807 : Nat)) && (decide (ByteArray.size (ByteArray.mk #[(112 : UInt8), (117 : UInt8), (116 : UInt8), (32 : UInt8)] ++ (prS x.nn ++ ByteArray.mk #[(58 : UInt8), (32 
    : UInt8)] ++ x.fr)) + (6 : Nat) ≤ (9223372036854775807 : Nat)) && (decide (ByteArray.size (ByteArray.mk #[(112 : UInt8), (117 : UInt8), (116 : UInt8), (32 : UInt8)] ++ (prS x.nn ++ 
    ByteArray.mk #[(58 : UInt8), (32 : UInt8)] ++ x.fr) ++ ByteArray.mk #[(32 : UInt8), (115 : UInt8), (101 : UInt8), (116 : UInt8), (115 : UInt8), (32 : UInt8)]) + ByteArray.size x.ky 
    ≤ (9223372036854775807 : Nat)) && (decide (ByteArray.size (ByteArray.mk #[(112 : UInt8), (117 : UInt8), (116 : UInt8), (32 : UInt8)] ++ (prS x.nn ++ ByteArray.mk #[(58 : UInt8), 
    (32 : UInt8)] ++ x.fr) ++ ByteArray.mk #[(32 : UInt8), (115 : UInt8), (101 : UInt8), (116 : UInt8), (115 : UInt8), (32 : UInt8)] ++ x.ky) + (4 : Nat) ≤ (9223372036854775807 : Nat)) 
    && decide (ByteArray.size (ByteArray.mk #[(112 : UInt8), (117 : UInt8), (116 : UInt8), (32 : UInt8)] ++ (prS x.nn ++ ByteArray.mk #[(58 : UInt8), (32 : UInt8)] ++ x.fr) ++ 
    ByteArray.mk #[(32 : UInt8), (115 : UInt8), (101 : UInt8), (116 : UInt8), (115 : UInt8), (32 : UInt8)] ++ x.ky ++ ByteArray.mk #[(32 : UInt8), (116 : UInt8), (111 : UInt8), (32 : 
    UInt8)]) + ByteArray.size x.vl ≤ (9223372036854775807 : Nat)))))) (.leaf (Ans.mk (.v (.string (ByteArray.mk #[(112 : UInt8), (117 : UInt8), (116 : UInt8), (32 : UInt8)] ++ (prS 
    x.nn ++ ByteArray.mk #[(58 : UInt8), (32 : UInt8)] ++ x.fr) ++ ByteArray.mk #[(32 : UInt8), (115 : UInt8), (101 : UInt8), (116 : UInt8), (115 : UInt8), (32 : UInt8)] ++ x.ky ++ 
    ByteArray.mk #[(32 : UInt8), (116 : UInt8), (111 : UInt8), (32 : UInt8)] ++ x.vl))) [])))) := by kernel_rfl
def hdS (x : Tx) : ByteArray := prS x.nn ++ ⟨#[58, 32]⟩ ++ x.fr
def mvS (x : Tx) : ByteArray := ⟨#[109, 111, 118, 101, 32]⟩ ++ (prS x.nn ++ ⟨#[58, 32]⟩ ++ x.fr) ++ ⟨#[32, 103, 105, 118, 101, 115, 32]⟩ ++ prS x.am ++ ⟨#[32, 116, 111, 32]⟩ ++ x.to
def ptS (x : Tx) : ByteArray := ⟨#[112, 117, 116, 32]⟩ ++ (prS x.nn ++ ⟨#[58, 32]⟩ ++ x.fr) ++ ⟨#[32, 115, 101, 116, 115, 32]⟩ ++ x.ky ++ ⟨#[32, 116, 111, 32]⟩ ++ x.vl
def prT (x : Tx) : ByteArray := if x.k = 1 then mvS x else ptS x
def okI (x : Tx) : Prop := smallT x ∧ inI64 x.nn ∧ inI64 x.am
theorem szM (l : List UInt8) : ByteArray.size ⟨⟨l⟩⟩ = l.length := rfl
theorem ansPP {x : Tx} (h : okI x) : Answers Tryd.prog Γm 31 [txV x] [] (.tup [.v (.string (if txB x then prT x else ⟨#[]⟩)), .v (.int .i64 (if txB x then 0 else 80))]) [] [] :=
  answers (fn := Tryd.f31) (c := bodyOf Tryd.f31) (ntmps := 42) (results := [.tmp 2, .tmp 3]) [kTx, kPr] Lno false Tryd.func31 (by kernel_rfl) (by kernel_rfl) (by kernel_rfl) (by kernel_rfl) (by simp) rfl (noLoops (by kernel_rfl)) <| Meets.of (runPP x) <| by
    obtain ⟨hs, hn, ha⟩ := h
    have hx : Tx.mk x.k x.fr x.to x.ky x.vl x.am x.nn = x := rfl
    have z1 := pr_size hn
    have z2 := pr_size ha
    have s1 := hs.1
    have s2 := hs.2.1
    have s3 := hs.2.2.1
    have s4 := hs.2.2.2
    cases hb : txB x with
    | false =>
      have et : erT false = 80 := rfl
      repeat' (first | refine wC (by first | omega | (simp only [W1, cond_true, cond_false, hx, hs, hb, et]; first | done | omega)) ?_ | refine wT (by first | omega | (simp only [W1, cond_true, cond_false, hx, hs, hb, et]; first | done | omega)) ?_ | refine wF (by intro _h; first | omega | (simp only [W1, cond_true, cond_false, hx, hs, hb, et] at _h; first | done | omega)) ?_ | (refine wS ?_ ?_ <;> intro _h <;> simp only [W1, cond_true, cond_false, hx, hs, hb, et] at _h))
      all_goals simp only [W1, W2, owesN, owesX, owesR, cond_true, cond_false, hx, hs, hb, et]
      repeat' (first | apply And.intro | intro _hc)
      all_goals first | exact tup2 (leS rfl) (leI rfl) | exact AV.le_refl _ | exact AV.le_any _ | exact OLe.refl _ | exact OLe.none _ | exact LeH.refl _ | exact LeL.refl _ | exact AV.le.bs _ | exact AV.le.sb _ | omega | contradiction
    | true =>
      have et : erT true = 0 := rfl
      simp only [ByteArray.size_append, szM, List.length_cons, List.length_nil]
      by_cases hk : x.k = 1
      · have hp : prT x = mvS x := if_pos hk
        repeat' (first | refine wC (by first | omega | (simp only [W1, cond_true, cond_false, hx, hs, hb, et, hn, ha, hp]; first | done | omega)) ?_ | refine wT (by first | omega | (simp only [W1, cond_true, cond_false, hx, hs, hb, et, hn, ha, hp]; first | done | omega)) ?_ | refine wF (by intro _h; first | omega | (simp only [W1, cond_true, cond_false, hx, hs, hb, et, hn, ha, hp] at _h; first | done | omega)) ?_ | (refine wS ?_ ?_ <;> intro _h <;> simp only [W1, cond_true, cond_false, hx, hs, hb, et, hn, ha, hp] at _h))
        all_goals simp only [W1, W2, owesN, owesX, owesR, cond_true, cond_false, hx, hs, hb, et, hn, ha, hp]
        repeat' (first | apply And.intro | intro _hc)
        all_goals first | exact tup2 (leS rfl) (leI rfl) | exact AV.le_refl _ | exact AV.le_any _ | exact OLe.refl _ | exact OLe.none _ | exact LeH.refl _ | exact LeL.refl _ | exact AV.le.bs _ | exact AV.le.sb _ | omega | contradiction
      · have hp : prT x = ptS x := if_neg hk
        repeat' (first | refine wC (by first | omega | (simp only [W1, cond_true, cond_false, hx, hs, hb, et, hn, ha, hp]; first | done | omega)) ?_ | refine wT (by first | omega | (simp only [W1, cond_true, cond_false, hx, hs, hb, et, hn, ha, hp]; first | done | omega)) ?_ | refine wF (by intro _h; first | omega | (simp only [W1, cond_true, cond_false, hx, hs, hb, et, hn, ha, hp] at _h; first | done | omega)) ?_ | (refine wS ?_ ?_ <;> intro _h <;> simp only [W1, cond_true, cond_false, hx, hs, hb, et, hn, ha, hp] at _h))
        all_goals simp only [W1, W2, owesN, owesX, owesR, cond_true, cond_false, hx, hs, hb, et, hn, ha, hp]
        repeat' (first | apply And.intro | intro _hc)
        all_goals first | exact tup2 (leS rfl) (leI rfl) | exact AV.le_refl _ | exact AV.le_any _ | exact OLe.refl _ | exact OLe.none _ | exact LeH.refl _ | exact LeL.refl _ | exact AV.le.bs _ | exact AV.le.sb _ | omega | contradiction
theorem ansPQ {x : Tx} (h : okI x) : Answers Tryd.prog Γm 35 [txV x] [] (.v (.string (prT x))) [] [] :=
  answers (fn := Tryd.f35) (c := bodyOf Tryd.f35) (ntmps := 35) (results := [.tmp 2]) [kPrR] Lno false Tryd.func35 (by kernel_rfl) (by kernel_rfl) (by kernel_rfl) (by kernel_rfl) (by simp) rfl (noLoops (by kernel_rfl)) <| Meets.of (runPQ x) <| by
    obtain ⟨hs, hn, ha⟩ := h
    have z1 := pr_size hn
    have z2 := pr_size ha
    have s1 := hs.1
    have s2 := hs.2.1
    have s3 := hs.2.2.1
    have s4 := hs.2.2.2
    simp only [ByteArray.size_append, szM, List.length_cons, List.length_nil]
    by_cases hk : x.k = 1
    · have hp : prT x = mvS x := if_pos hk
      repeat' (first | refine wC (by first | omega | (simp only [W1, cond_true, cond_false, hn, ha, hp]; first | done | omega)) ?_ | refine wT (by first | omega | (simp only [W1, cond_true, cond_false, hn, ha, hp]; first | done | omega)) ?_ | refine wF (by intro _h; first | omega | (simp only [W1, cond_true, cond_false, hn, ha, hp] at _h; first | done | omega)) ?_ | (refine wS ?_ ?_ <;> intro _h <;> simp only [W1, cond_true, cond_false, hn, ha, hp] at _h))
      all_goals simp only [W1, W2, owesN, owesX, owesR, cond_true, cond_false, hn, ha, hp]
      repeat' (first | apply And.intro | intro _hc)
      all_goals first | exact leS rfl | exact AV.le_refl _ | exact AV.le_any _ | exact OLe.refl _ | exact OLe.none _ | exact LeH.refl _ | exact LeL.refl _ | exact AV.le.bs _ | exact AV.le.sb _ | omega | contradiction
    · have hp : prT x = ptS x := if_neg hk
      repeat' (first | refine wC (by first | omega | (simp only [W1, cond_true, cond_false, hn, ha, hp]; first | done | omega)) ?_ | refine wT (by first | omega | (simp only [W1, cond_true, cond_false, hn, ha, hp]; first | done | omega)) ?_ | refine wF (by intro _h; first | omega | (simp only [W1, cond_true, cond_false, hn, ha, hp] at _h; first | done | omega)) ?_ | (refine wS ?_ ?_ <;> intro _h <;> simp only [W1, cond_true, cond_false, hn, ha, hp] at _h))
      all_goals simp only [W1, W2, owesN, owesX, owesR, cond_true, cond_false, hn, ha, hp]
      repeat' (first | apply And.intro | intro _hc)
      all_goals first | exact leS rfl | exact AV.le_refl _ | exact AV.le_any _ | exact OLe.refl _ | exact OLe.none _ | exact LeH.refl _ | exact LeL.refl _ | exact AV.le.bs _ | exact AV.le.sb _ | omega | contradiction
end Go.Eng.TA

namespace Go.Eng.TA
open Go Go.Eng Go.Eng.M Go.Lib Go.Proofs
noncomputable def kRN : CT Tryd.prog Γm := CT.auto false 3 3 [Z.c86] 87 Tryd.f87 (bodyOf Tryd.f87) false 11 [.tmp 2] Tryd.func87 (by kernel_rfl) (by kernel_rfl) (by kernel_rfl) (by kernel_rfl)
noncomputable def kRT : CT Tryd.prog Γm := CT.auto false 3 3 [kRN] 88 Tryd.f88 (bodyOf Tryd.f88) false 8 [.tmp 2] Tryd.func88 (by kernel_rfl) (by kernel_rfl) (by kernel_rfl) (by kernel_rfl)
theorem runRB (x : Tx) : bodyE (P := Tryd.prog) (Γ := Γm) [Z.c86, kRN, kRT] Lno false 48 [.tmp 2] (bodyOf Tryd.f34) [txV x] [] =
  Tree.chk true (.chk (decide (ByteArray.size (bif okN x.k then numB (Int.toNat x.k) else ByteArray.mk #[]) + ByteArray.size (bif okN x.nn then numB (Int.toNat x.nn) else ByteArray.mk #[]) ≤ 
    (9223372036854775807 : Nat)) && (decide (ByteArray.size (bif okN (↑(ByteArray.size x.fr) : Int) then numB (ByteArray.size x.fr) else ByteArray.mk #[]) + ByteArray.size x.fr ≤ 
    (9223372036854775807 : Nat)) && decide (ByteArray.size ((bif okN x.k then numB (Int.toNat x.k) else ByteArray.mk #[]) ++ bif okN x.nn then numB (Int.toNat x.nn) else ByteArray.mk 
    #[]) + ByteArray.size ((bif okN (↑(ByteArray.size x.fr) : Int) then numB (ByteArray.size x.fr) else ByteArray.mk #[]) ++ x.fr) ≤ (9223372036854775807 : Nat)))) (.br (decide (x.k = 
    (1 : Int))) (.chk true (.chk (decide (ByteArray.size (bif okN (↑(ByteArray.size x.to) : Int) then numB (ByteArray.size x.to) else ByteArray.mk #[]) + ByteArray.size x.to ≤ 
    (9223372036854775807 : Nat)) && (decide (ByteArray.size (((bif okN x.k then numB (Int.toNat x.k) else ByteArray.mk #[]) ++ bif okN x.nn then numB (Int.toNat x.nn) else ByteArray.mk 
    #[]) ++ ((bif okN (↑(ByteArray.size x.fr) : Int) then numB (ByteArray.size x.fr) else ByteArray.mk #[]) ++ x.fr)) + ByteArray.size ((bif okN (↑(ByteArray.size x.to) : Int) then 
    numB (ByteArray.size x.to) else ByteArray.mk #[]) ++ x.to) ≤ (9223372036854775807 : Nat)) && decide (ByteArray.size (((bif okN x.k then numB (Int.toNat x.k) else ByteArray.mk #[]) 
    ++ bif okN x.nn then numB (Int.toNat x.nn) else ByteArray.mk #[]) ++ ((bif okN (↑(ByteArray.size x.fr) : Int) then numB (ByteArray.size x.fr) else ByteArray.mk #[]) ++ x.fr) ++ 
    ((bif okN (↑(ByteArray.size x.to) : Int) then numB (ByteArray.size x.to) else ByteArray.mk #[]) ++ x.to)) + ByteArray.size (bif okN x.am then numB (Int.toNat x.am) else 
    ByteArray.mk #[]) ≤ (9223372036854775807 : Nat)))) (.leaf (Ans.mk (.v (.string (((bif okN x.k then numB (Int.toNat x.k) else ByteArray.mk #[]) ++ bif okN x.nn then numB (Int.toNat 
    x.nn) else ByteArray.mk #[]) ++ ((bif okN (↑(ByteArray.size x.fr) : Int) then numB (ByteArray.size x.fr) else ByteArray.mk #[]) ++ x.fr) ++ ((bif okN (↑(ByteArray.size x.to) : Int) 
    then numB (ByteArray.size x.to) else ByteArray.mk #[]) ++ x.to) ++ bif okN x.am then numB (Int.toNat x.am) else ByteArray.mk #[]))) [])))) (.chk (decide (ByteArray.size (bif okN 
    (↑(ByteArray.size x.ky) : Int) then numB (ByteArray.size x.ky) else ByteArray.mk #[]) + ByteArray.size x.ky ≤ (9223372036854775807 : Nat)) && (decide (ByteArray.size (((bif okN x.k 
    then numB (Int.toNat x.k) else ByteArray.mk #[]) ++ bif okN x.nn then numB (Int.toNat x.nn) else ByteArray.mk #[]) ++ ((bif okN (↑(ByteArray.size x.fr) : Int) then numB 
    (ByteArray.size x.fr) else ByteArray.mk #[]) ++ x.fr)) + ByteArray.size ((bif okN (↑(ByteArray.size x.ky) : Int) then numB (ByteArray.size x.ky) else ByteArray.mk #[]) ++ x.ky) ≤ 
    (9223372036854775807 : Nat)) && (decide (ByteArray.size (bif okN (↑(ByteArray.size x.vl) : Int) then numB (ByteArray.size x.vl) else ByteArray.mk #[]) + ByteArray.size x.vl ≤ 
    (9223372036854775807 : Nat)) && decide (ByteArray.size (((bif okN x.k then numB (Int.toNat x.k) else ByteArray.mk #[]) ++ bif okN x.nn then numB (Int.toNat x.nn) else ByteArray.mk 
    #[]) ++ ((bif okN (↑(ByteArray.size x.fr) : Int) then numB (ByteArray.size x.fr) else ByteArray.mk #[]) ++ x.fr) ++ ((bif okN (↑(ByteArray.size x.ky) : Int) then numB 
    (ByteArray.size x.ky) else ByteArray.mk #[]) ++ x.ky)) + ByteArray.size ((bif okN (↑(ByteArray.size x.vl) : Int) then numB (ByteArray.size x.vl) else ByteArray.mk #[]) ++ x.vl) ≤ 
    (9223372036854775807 : Nat))))) (.leaf (Ans.mk (.v (.string (((bif okN x.k then numB (Int.toNat x.k) else ByteArray.mk #[]) ++ bif okN x.nn then numB (Int.toNat x.nn) else 
    ByteArray.mk #[]) ++ ((bif okN (↑(ByteArray.size x.fr) : Int) then numB (ByteArray.size x.fr) else ByteArray.mk #[]) ++ x.fr) ++ ((bif okN (↑(ByteArray.size x.ky) : Int) then numB 
    (ByteArray.size x.ky) else ByteArray.mk #[]) ++ x.ky) ++ ((bif okN (↑(ByteArray.size x.vl) : Int) then numB (ByteArray.size x.vl) else ByteArray.mk #[]) ++ x.vl)))) []))))) := by kernel_rfl
theorem txB_facts {x : Tx} (h : txB x = true) : 1 ≤ x.nn ∧ x.nn ≤ 4611686018427387904 ∧ ((x.k = 1 ∧ 1 ≤ x.am ∧ x.am ≤ 4611686018427387904) ∨ x.k = 2) := by
  unfold txB at h
  by_cases k1 : x.k = 1
  · rw [if_pos k1] at h
    unfold okM at h
    simp only [Bool.and_eq_true, decide_eq_true_eq] at h
    exact ⟨h.1.2.1, h.1.2.2, .inl ⟨k1, h.2.2.1.1, h.2.2.1.2⟩⟩
  · rw [if_neg k1] at h
    by_cases k2 : x.k = 2
    · rw [if_pos k2] at h
      simp only [Bool.and_eq_true, decide_eq_true_eq] at h
      exact ⟨h.1.2.1, h.1.2.2, .inr k2⟩
    · rw [if_neg k2, Bool.and_false] at h; cases h
def tS (s : ByteArray) : ByteArray := numB s.size ++ s
def byS (x : Tx) : ByteArray := if x.k = 1 then numB x.k.toNat ++ numB x.nn.toNat ++ tS x.fr ++ tS x.to ++ numB x.am.toNat else numB x.k.toNat ++ numB x.nn.toNat ++ tS x.fr ++ tS x.ky ++ tS x.vl
theorem okN_size {s : ByteArray} (h : s.size ≤ 10000000) : okN ((s.size : Nat) : Int) = true := by
  unfold okN; rw [decide_eq_true (by omega), decide_eq_true (by omega)]; rfl
theorem ansRB {x : Tx} (h : okI x) (hb : txB x = true) : Answers Tryd.prog Γm 34 [txV x] [] (.v (.string (byS x))) [] [] :=
  answers (fn := Tryd.f34) (c := bodyOf Tryd.f34) (ntmps := 48) (results := [.tmp 2]) [Z.c86, kRN, kRT] Lno false Tryd.func34 (by kernel_rfl) (by kernel_rfl) (by kernel_rfl) (by kernel_rfl) (by simp) rfl (noLoops (by kernel_rfl)) <| Meets.of (runRB x) <| by
    obtain ⟨hs, hn, ha⟩ := h
    obtain ⟨s1, s2, s3, s4⟩ := hs
    obtain ⟨f1, f2, f3⟩ := txB_facts hb
    have o1 := okN_size s1
    have o2 := okN_size s2
    have o3 := okN_size s3
    have o4 := okN_size s4
    have o5 : okN x.nn = true := by unfold okN; rw [decide_eq_true (by omega), decide_eq_true (by omega)]; rfl
    have o6 : okN x.k = true := by unfold okN; rw [decide_eq_true (by omega), decide_eq_true (by omega)]; rfl
    have z1 := (numB_size (n := x.fr.size) (by omega)).1
    have z2 := (numB_size (n := x.to.size) (by omega)).1
    have z3 := (numB_size (n := x.ky.size) (by omega)).1
    have z4 := (numB_size (n := x.vl.size) (by omega)).1
    have z5 := (numB_size (n := x.nn.toNat) (by omega)).1
    have z6 := (numB_size (n := x.k.toNat) (by omega)).1
    simp only [o1, o2, o3, o4, o5, o6, cond_true]
    rcases f3 with ⟨hk, a1, a2⟩ | hk
    · have o7 : okN x.am = true := by unfold okN; rw [decide_eq_true (by omega), decide_eq_true (by omega)]; rfl
      have z7 := (numB_size (n := x.am.toNat) (by omega)).1
      have hp : byS x = numB x.k.toNat ++ numB x.nn.toNat ++ tS x.fr ++ tS x.to ++ numB x.am.toNat := if_pos hk
      rw [hp]
      simp only [o7, cond_true, ByteArray.size_append]
      repeat' (first | refine wC (by first | omega | (simp only [W1, cond_true, cond_false]; first | done | omega)) ?_ | refine wT (by first | omega | (simp only [W1, cond_true, cond_false]; first | done | omega)) ?_ | refine wF (by intro _h; first | omega | (simp only [W1, cond_true, cond_false] at _h; first | done | omega)) ?_ | (refine wS ?_ ?_ <;> intro _h <;> simp only [W1, cond_true, cond_false] at _h))
      all_goals simp only [W1, W2, owesN, owesX, owesR, cond_true, cond_false]
      repeat' (first | apply And.intro | intro _hc)
      all_goals first | exact leS rfl | exact AV.le_refl _ | exact AV.le_any _ | exact OLe.refl _ | exact OLe.none _ | exact LeH.refl _ | exact LeL.refl _ | exact AV.le.bs _ | exact AV.le.sb _ | omega | contradiction
    · have hp : byS x = numB x.k.toNat ++ numB x.nn.toNat ++ tS x.fr ++ tS x.ky ++ tS x.vl := if_neg (by omega)
      rw [hp]
      simp only [ByteArray.size_append]
      repeat' (first | refine wC (by first | omega | (simp only [W1, cond_true, cond_false]; first | done | omega)) ?_ | refine wT (by first | omega | (simp only [W1, cond_true, cond_false]; first | done | omega)) ?_ | refine wF (by intro _h; first | omega | (simp only [W1, cond_true, cond_false] at _h; first | done | omega)) ?_ | (refine wS ?_ ?_ <;> intro _h <;> simp only [W1, cond_true, cond_false] at _h))
      all_goals simp only [W1, W2, owesN, owesX, owesR, cond_true, cond_false]
      repeat' (first | apply And.intro | intro _hc)
      all_goals first | exact leS rfl | exact AV.le_refl _ | exact AV.le_any _ | exact OLe.refl _ | exact OLe.none _ | exact LeH.refl _ | exact LeL.refl _ | exact AV.le.bs _ | exact AV.le.sb _ | omega | contradiction
end Go.Eng.TA

namespace Go.Eng.TA
open Go Go.Eng Go.Eng.M Go.Lib Go.Proofs
def ofHS : List AV → List Blk → Option (ByteArray × ByteArray)
  | [.hs 0 0 _, .v (.string s)], [.arr 1 n f] => some (textOf n f, s)
  | _, _ => none
def ofHI : List AV → List Blk → Option (ByteArray × Int)
  | [.hs 0 0 _, .v (.int _ n)], [.arr 1 m f] => some (textOf m f, n)
  | _, _ => none
noncomputable def kTxt : CT Tryd.prog Γm := CT.par 82 ofHS (fun | (t, s) => (BA.hs t).ok ∧ s.size ≤ 65536) (fun | (t, s) => [.hs 0 0 t.size, .v (.string s)]) (fun | (t, s) => [.arr 1 t.size (bsF t)])
  (fun | (t, s) => .tup [.hs 1 0 (textB t s).size, .v (.int .i64 0)]) (fun | (t, s) => [some (.arr 1 t.size (bsF t))]) (fun | (t, s) => [.arr 1 (textB t s).size (bsF (textB t s))])
  (callFunc_enters Tryd.func82 (by kernel_rfl) (by kernel_rfl)) (fun | (t, s), h => ansTextH t s h.1 h.2)
theorem kNum_ok (t : ByteArray) (n : Int) (h : (BA.hs t).ok) (h1 : 0 ≤ n) (h2 : n ≤ 4611686018427387904) : Answers Tryd.prog Γm 83 [.hs 0 0 t.size, .v (.int .i64 n)] [.arr 1 t.size (bsF t)] (.tup [.hs 1 0 (t ++ numB n.toNat).size, .v (.int .i64 0)]) [some (.arr 1 t.size (bsF t))] [.arr 1 (t ++ numB n.toNat).size (bsF (t ++ numB n.toNat))] := by
  have := ansNum (.hs t) n.toNat h (by omega)
  rw [Int.toNat_of_nonneg h1] at this
  exact this
noncomputable def kNum : CT Tryd.prog Γm := CT.par 83 ofHI (fun | (t, n) => (BA.hs t).ok ∧ 0 ≤ n ∧ n ≤ 4611686018427387904) (fun | (t, n) => [.hs 0 0 t.size, .v (.int .i64 n)]) (fun | (t, n) => [.arr 1 t.size (bsF t)])
  (fun | (t, n) => .tup [.hs 1 0 (t ++ numB n.toNat).size, .v (.int .i64 0)]) (fun | (t, n) => [some (.arr 1 t.size (bsF t))]) (fun | (t, n) => [.arr 1 (t ++ numB n.toNat).size (bsF (t ++ numB n.toNat))])
  (callFunc_enters Tryd.func83 (by kernel_rfl) (by kernel_rfl)) (fun | (t, n), h => kNum_ok t n h.1 h.2.1 h.2.2)
def kn (x : Tx) : Nat → Int := fun j => match j with
  | 0 => x.k
  | _ => x.nn
theorem runTB0 (x : Tx) : bodyE (P := Tryd.prog) (Γ := Γm) [kTx] Lno false 57 [.tmp 2, .tmp 3] (bodyOf Tryd.f30) [txV x] [] =
  Tree.chk (cl (smallT (Tx.mk x.k x.fr x.to x.ky x.vl x.am x.nn) ∧ LeL [.agg [.v (.int .i64 x.k), .v (.string x.fr), .v (.string x.to), .v (.string x.ky), .v (.string x.vl), .v (.int .i64 
    x.am), .v (.int .i64 x.nn)]] [.agg [.v (.int .i64 x.k), .v (.string x.fr), .v (.string x.to), .v (.string x.ky), .v (.string x.vl), .v (.int .i64 x.am), .v (.int .i64 x.nn)]] ∧ LeH 
    [] [])) (.br (!decide (erT (txB (Tx.mk x.k x.fr x.to x.ky x.vl x.am x.nn)) = (0 : Int))) (.leaf (Ans.mk (.tup [.v (.slice none (0 : Nat) (0 : Nat)), .v (.int .i64 (erT (txB (Tx.mk 
    x.k x.fr x.to x.ky x.vl x.am x.nn))))]) [])) .fail) := by kernel_rfl
theorem runTB (x : Tx) (t : ByteArray) (h : Answers Tryd.prog Γm 81 [.hs 0 0 2] [.arr 1 2 (i64F (kn x))] (.tup [.hs 1 0 t.size, .v (.int .i64 0)]) [some (.arr 1 2 (i64F (kn x)))] [.arr 1 t.size (bsF t)]) : bodyE (P := Tryd.prog) (Γ := Γm) [kTx, CT.at 81 h, kTxt, kNum] Lno false 57 [.tmp 2, .tmp 3] (bodyOf Tryd.f30) [txV x] [] =
  Tree.chk (cl (smallT (Tx.mk x.k x.fr x.to x.ky x.vl x.am x.nn) ∧ LeL [.agg [.v (.int .i64 x.k), .v (.string x.fr), .v (.string x.to), .v (.string x.ky), .v (.string x.vl), .v (.int .i64 
    x.am), .v (.int .i64 x.nn)]] [.agg [.v (.int .i64 x.k), .v (.string x.fr), .v (.string x.to), .v (.string x.ky), .v (.string x.vl), .v (.int .i64 x.am), .v (.int .i64 x.nn)]] ∧ LeH 
    [] [])) (.br (!decide (erT (txB (Tx.mk x.k x.fr x.to x.ky x.vl x.am x.nn)) = (0 : Int))) (.leaf (Ans.mk (.tup [.v (.slice none (0 : Nat) (0 : Nat)), .v (.int .i64 (erT (txB (Tx.mk 
    x.k x.fr x.to x.ky x.vl x.am x.nn))))]) [])) (.chk (cl (LeL [.hs 0 0 (2 : Nat)] [.hs 0 0 (2 : Nat)] ∧ LeH [some (.arr 1 (2 : Nat) fun x_1 => [.v (.int .i64 (bif Nat.beq x_1 (0 : 
    Nat) then x.k else bif Nat.beq x_1 (1 : Nat) then x.nn else (0 : Int)))])] [some (.arr 1 (2 : Nat) fun j => [.v (.int .i64 (kn x j))])])) (.chk (cl ((BA.ok (BA.hs (textOf 
    (ByteArray.size t) (bsF t))) ∧ ByteArray.size x.fr ≤ (65536 : Nat)) ∧ LeL [.hs 0 0 (ByteArray.size t), .v (.string x.fr)] [.hs 0 0 (ByteArray.size (textOf (ByteArray.size t) (bsF 
    t))), .v (.string x.fr)] ∧ LeH [some (.arr 1 (ByteArray.size t) fun j => [.v (.int IntKind.u8 (sbyte t j))])] [some (.arr 1 (ByteArray.size (textOf (ByteArray.size t) (bsF t))) fun 
    j => [.v (.int IntKind.u8 (sbyte (textOf (ByteArray.size t) (bsF t)) j))])])) (.br (decide (x.k = (1 : Int))) (.chk (cl ((BA.ok (BA.hs (textOf (ByteArray.size (textB (textOf 
    (ByteArray.size t) (bsF t)) x.fr)) (bsF (textB (textOf (ByteArray.size t) (bsF t)) x.fr)))) ∧ ByteArray.size x.to ≤ (65536 : Nat)) ∧ LeL [.hs 0 0 (ByteArray.size (textB (textOf 
    (ByteArray.size t) (bsF t)) x.fr)), .v (.string x.to)] [.hs 0 0 (ByteArray.size (textOf (ByteArray.size (textB (textOf (ByteArray.size t) (bsF t)) x.fr)) (bsF (textB (textOf 
    (ByteArray.size t) (bsF t)) x.fr)))), .v (.string x.to)] ∧ LeH [some (.arr 1 (ByteArray.size (textB (textOf (ByteArray.size t) (bsF t)) x.fr)) fun j => [.v (.int IntKind.u8 (sbyte 
    (textB (textOf (ByteArray.size t) (bsF t)) x.fr) j))])] [some (.arr 1 (ByteArray.size (textOf (ByteArray.size (textB (textOf (ByteArray.size t) (bsF t)) x.fr)) (bsF (textB (textOf 
    (ByteArray.size t) (bsF t)) x.fr)))) fun j => [.v (.int IntKind.u8 (sbyte (textOf (ByteArray.size (textB (textOf (ByteArray.size t) (bsF t)) x.fr)) (bsF (textB (textOf 
    (ByteArray.size t) (bsF t)) x.fr))) j))])])) (.chk (cl ((BA.ok (BA.hs (textOf (ByteArray.size (textB (textOf (ByteArray.size (textB (textOf (ByteArray.size t) (bsF t)) x.fr)) (bsF 
    (textB (textOf (ByteArray.size t) (bsF t)) x.fr))) x.to)) (bsF (textB (textOf (ByteArray.size (textB (textOf (ByteArray.size t) (bsF t)) x.fr)) (bsF (textB (textOf (ByteArray.size 
    t) (bsF t)) x.fr))) x.to)))) ∧ (0 : Int) ≤ x.am ∧ x.am ≤ (4611686018427387904 : Int)) ∧ LeL [.hs 0 0 (ByteArray.size (textB (textOf (ByteArray.size (textB (textOf (ByteArray.size 
    t) (bsF t)) x.fr)) (bsF (textB (textOf (ByteArray.size t) (bsF t)) x.fr))) x.to)), .v (.int .i64 x.am)] [.hs 0 0 (ByteArray.size (textOf (ByteArray.size (textB (textOf 
    (ByteArray.size (textB (textOf (ByteArray.size t) (bsF t)) x.fr)) (bsF (textB (textOf (ByteArray.size t) (bsF t)) x.fr))) x.to)) (bsF (textB (textOf (ByteArray.size (textB (textOf 
    (ByteArray.size t) (bsF t)) x.fr)) (bsF (textB (textOf (ByteArray.size t) (bsF t)) x.fr))) x.to)))), .v (.int .i64 x.am)] ∧ LeH [some (.arr 1 (ByteArray.size (textB (textOf 
    (ByteArray.size (textB (textOf (ByteArray.size t) (bsF t)) x.fr)) (bsF (textB (textOf (ByteArray.size t) (bsF t)) x.fr))) x.to)) fun j => [.v (.int IntKind.u8 (sbyte (textB (textOf 
    (ByteArray.size (textB (textOf (ByteArray.size t) (bsF t)) x.fr)) (bsF (textB (textOf (ByteArray.size t) (bsF t)) x.fr))) x.to) j))])] [some (.arr 1 (ByteArray.size (textOf 
    (ByteArray.size (textB (textOf (ByteArray.size (textB (textOf (ByteArray.size t) (bsF t)) x.fr)) (bsF (textB (textOf (ByteArray.size t) (bsF t)) x.fr))) x.to)) (bsF (textB (textOf 
    (ByteArray.size (textB (textOf (ByteArray.size t) (bsF t)) x.fr)) (bsF (textB (textOf (ByteArray.size t) (bsF t)) x.fr))) x.to)))) fun j => [.v (.int IntKind.u8 (sbyte (textOf 
    (ByteArray.size (textB (textOf (ByteArray.size (textB (textOf (ByteArray.size t) (bsF t)) x.fr)) (bsF (textB (textOf (ByteArray.size t) (bsF t)) x.fr))) x.to)) (bsF (textB (textOf 
    (ByteArray.size (textB (textOf (ByteArray.size t) (bsF t)) x.fr)) (bsF (textB (textOf (ByteArray.size t) (bsF t)) x.fr))) x.to))) j))])])) (.leaf (Ans.mk (.tup [.hs 0 0 
    (ByteArray.size (textOf (ByteArray.size (textB (textOf (ByteArray.size (textB (textOf (ByteArray.size t) (bsF t)) x.fr)) (bsF (textB (textOf (ByteArray.size t) (bsF t)) x.fr))) 
    x.to)) (bsF (textB (textOf (ByteArray.size (textB (textOf (ByteArray.size t) (bsF t)) x.fr)) (bsF (textB (textOf (ByteArray.size t) (bsF t)) x.fr))) x.to)) ++ numB (Int.toNat 
    x.am))), .v (.int .i64 (0 : Int))]) [some (.arr 1 (ByteArray.size (textOf (ByteArray.size (textB (textOf (ByteArray.size (textB (textOf (ByteArray.size t) (bsF t)) x.fr)) (bsF 
    (textB (textOf (ByteArray.size t) (bsF t)) x.fr))) x.to)) (bsF (textB (textOf (ByteArray.size (textB (textOf (ByteArray.size t) (bsF t)) x.fr)) (bsF (textB (textOf (ByteArray.size 
    t) (bsF t)) x.fr))) x.to)) ++ numB (Int.toNat x.am))) fun j => [.v (.int IntKind.u8 (sbyte (textOf (ByteArray.size (textB (textOf (ByteArray.size (textB (textOf (ByteArray.size t) 
    (bsF t)) x.fr)) (bsF (textB (textOf (ByteArray.size t) (bsF t)) x.fr))) x.to)) (bsF (textB (textOf (ByteArray.size (textB (textOf (ByteArray.size t) (bsF t)) x.fr)) (bsF (textB 
    (textOf (ByteArray.size t) (bsF t)) x.fr))) x.to)) ++ numB (Int.toNat x.am)) j))])])))) (.chk (cl ((BA.ok (BA.hs (textOf (ByteArray.size (textB (textOf (ByteArray.size t) (bsF t)) 
    x.fr)) (bsF (textB (textOf (ByteArray.size t) (bsF t)) x.fr)))) ∧ ByteArray.size x.ky ≤ (65536 : Nat)) ∧ LeL [.hs 0 0 (ByteArray.size (textB (textOf (ByteArray.size t) (bsF t)) 
    x.fr)), .v (.string x.ky)] [.hs 0 0 (ByteArray.size (textOf (ByteArray.size (textB (textOf (ByteArray.size t) (bsF t)) x.fr)) (bsF (textB (textOf (ByteArray.size t) (bsF t)) 
    x.fr)))), .v (.string x.ky)] ∧ LeH [some (.arr 1 (ByteArray.size (textB (textOf (ByteArray.size t) (bsF t)) x.fr)) fun j => [.v (.int IntKind.u8 (sbyte (textB (textOf 
    (ByteArray.size t) (bsF t)) x.fr) j))])] [some (.arr 1 (ByteArray.size (textOf (ByteArray.size (textB (textOf (ByteArray.size t) (bsF t)) x.fr)) (bsF (textB (textOf (ByteArray.size 
    t) (bsF t)) x.fr)))) fun j => [.v (.int IntKind.u8 (sbyte (textOf (ByteArray.size (textB (textOf (ByteArray.size t) (bsF t)) x.fr)) (bsF (textB (textOf (ByteArray.size t) (bsF t)) 
    x.fr))) j))])])) (.chk (cl ((BA.ok (BA.hs (textOf (ByteArray.size (textB (textOf (ByteArray.size (textB (textOf (ByteArray.size t) (bsF t)) x.fr)) (bsF (textB (textOf 
    (ByteArray.size t) (bsF t)) x.fr))) x.ky)) (bsF (textB (textOf (ByteArray.size (textB (textOf (ByteArray.size t) (bsF t)) x.fr)) (bsF (textB (textOf (ByteArray.size t) (bsF t)) 
    x.fr))) x.ky)))) ∧ ByteArray.size x.vl ≤ (65536 : Nat)) ∧ LeL [.hs 0 0 (ByteArray.size (textB (textOf (ByteArray.size (textB (textOf (ByteArray.size t) (bsF t)) x.fr)) (bsF (textB 
    (textOf (ByteArray.size t) (bsF t)) x.fr))) x.ky)), .v (.string x.vl)] [.hs 0 0 (ByteArray.size (textOf (ByteArray.size (textB (textOf (ByteArray.size (textB (textOf 
    (ByteArray.size t) (bsF t)) x.fr)) (bsF (textB (textOf (ByteArray.size t) (bsF t)) x.fr))) x.ky)) (bsF (textB (textOf (ByteArray.size (textB (textOf (ByteArray.size t) (bsF t)) 
    x.fr)) (bsF (textB (textOf (ByteArray.size t) (bsF t)) x.fr))) x.ky)))), .v (.string x.vl)] ∧ LeH [some (.arr 1 (ByteArray.size (textB (textOf (ByteArray.size (textB (textOf 
    (ByteArray.size t) (bsF t)) x.fr)) (bsF (textB (textOf (ByteArray.size t) (bsF t)) x.fr))) x.ky)) fun j => [.v (.int IntKind.u8 (sbyte (textB (textOf (ByteArray.size (textB (textOf 
    (ByteArray.size t) (bsF t)) x.fr)) (bsF (textB (textOf (ByteArray.size t) (bsF t)) x.fr))) x.ky) j))])] [some (.arr 1 (ByteArray.size (textOf (ByteArray.size (textB (textOf 
    (ByteArray.size (textB (textOf (ByteArray.size t) (bsF t)) x.fr)) (bsF (textB (textOf (ByteArray.size t) (bsF t)) x.fr))) x.ky)) (bsF (textB (textOf (ByteArray.size (textB (textOf 
    (ByteArray.size t) (bsF t)) x.fr)) (bsF (textB (textOf (ByteArray.size t) (bsF t)) x.fr))) x.ky)))) fun j => [.v (.int IntKind.u8 (sbyte (textOf (ByteArray.size (textB (textOf 
    (ByteArray.size (textB (textOf (ByteArray.size t) (bsF t)) x.fr)) (bsF (textB (textOf (ByteArray.size t) (bsF t)) x.fr))) x.ky)) (bsF (textB (textOf (ByteArray.size (textB (textOf 
    (ByteArray.size t) (bsF t)) x.fr)) (bsF (textB (textOf (ByteArray.size t) (bsF t)) x.fr))) x.ky))) j))])])) (.leaf (Ans.mk (.tup [.hs 0 0 (ByteArray.size (textB (textOf 
    (ByteArray.size (textB (textOf (ByteArray.size (textB (textOf (ByteArray.size t) (bsF t)) x.fr)) (bsF (textB (textOf (ByteArray.size t) (bsF t)) x.fr))) x.ky)) (bsF (textB (textOf 
    (ByteArray.size (textB (textOf (ByteArray.size t) (bsF t)) x.fr)) (bsF (textB (textOf (ByteArray.size t) (bsF t)) x.fr))) x.ky))) x.vl)), .v (.int .i64 (0 : Int))]) [some (.arr 1 
    (ByteArray.size (textB (textOf (ByteArray.size (textB (textOf (ByteArray.size (textB (textOf (ByteArray.size t) (bsF t)) x.fr)) (bsF (textB (textOf (ByteArray.size t) (bsF t)) 
    x.fr))) x.ky)) (bsF (textB (textOf (ByteArray.size (textB (textOf (ByteArray.size t) (bsF t)) x.fr)) (bsF (textB (textOf (ByteArray.size t) (bsF t)) x.fr))) x.ky))) x.vl)) fun j => 
    [.v (.int IntKind.u8 (sbyte (textB (textOf (ByteArray.size (textB (textOf (ByteArray.size (textB (textOf (ByteArray.size t) (bsF t)) x.fr)) (bsF (textB (textOf (ByteArray.size t) 
    (bsF t)) x.fr))) x.ky)) (bsF (textB (textOf (ByteArray.size (textB (textOf (ByteArray.size t) (bsF t)) x.fr)) (bsF (textB (textOf (ByteArray.size t) (bsF t)) x.fr))) x.ky))) x.vl) 
    j))])])))))))) := by kernel_rfl
theorem textOf_u {t : ByteArray} : textOf t.size (fun j => [AV.v (Value.int IntKind.u8 (sbyte t j))]) = t := textOf_bsF t
theorem textB_small {t s : ByteArray} (h : t.size ≤ 1000000) (hs : s.size ≤ 1000) : (textB t s).size ≤ t.size + 1010 := by
  unfold textB
  have := (numB_size (n := s.size) (by omega)).1
  simp only [ByteArray.size_append]
  omega
theorem textB_pos {t s : ByteArray} (hs : s.size ≤ 1000) : 0 < (textB t s).size := by
  unfold textB
  have := (numB_size (n := s.size) (by omega)).2
  simp only [ByteArray.size_append]
  omega
theorem textB_ok {t s : ByteArray} (h : t.size ≤ 1000000) (hs : s.size ≤ 1000) : (BA.hs (textB t s)).ok := by
  have := textB_small h hs
  exact ⟨by unfold small; omega, textB_pos hs⟩
theorem gr_sizes {x : Tx} (g : grT x = false) : x.fr.size ≤ 1000 ∧ x.to.size ≤ 1000 ∧ x.ky.size ≤ 1000 ∧ x.vl.size ≤ 1000 := by
  unfold grT at g
  have := of_decide_eq_false g
  omega
theorem ansBy0 {x : Tx} (h : okI x) (g : grT x = false) (hb : txB x = false) : Answers Tryd.prog Γm 30 [txV x] [] (.tup [.v (.slice none 0 0), .v (.int .i64 80)]) [] [] := by
  have hn : (NA.nil).ok := ⟨fun j hj => absurd hj (Nat.not_lt_zero j), by decide, fun h => by cases h⟩
  refine answers (fn := Tryd.f30) (c := bodyOf Tryd.f30) (ntmps := 57) (results := [.tmp 2, .tmp 3]) [kTx] (Lno) false Tryd.func30 (by kernel_rfl) (by kernel_rfl) (by kernel_rfl) (by kernel_rfl) (by simp) rfl (failOK fun _ _ _ => rfl) <| Meets.of (runTB0 x) <| ?_
  have hs := h.1
  have hx : Tx.mk x.k x.fr x.to x.ky x.vl x.am x.nn = x := rfl
  have et : erT false = 80 := rfl
  repeat' (first | refine wC (by first | omega | (simp only [W1, cond_true, cond_false, hx, hs, hb, et]; first | done | omega)) ?_ | refine wT (by first | omega | (simp only [W1, cond_true, cond_false, hx, hs, hb, et]; first | done | omega)) ?_ | refine wF (by intro _h; first | omega | (simp only [W1, cond_true, cond_false, hx, hs, hb, et] at _h; first | done | omega)) ?_ | (refine wS ?_ ?_ <;> intro _h <;> simp only [W1, cond_true, cond_false, hx, hs, hb, et] at _h))
  all_goals simp only [W1, W2, owesN, owesX, owesR, cond_true, cond_false, hx, hs, hb, et]
  repeat' (first | apply And.intro | intro _hc)
  all_goals first | exact tup2 (.refl _) (leI rfl) | exact AV.le_refl _ | exact AV.le_any _ | exact OLe.refl _ | exact OLe.none _ | exact LeH.refl _ | exact LeL.refl _ | exact AV.le.bs _ | exact AV.le.sb _ | omega | contradiction
theorem ansBy1 {x : Tx} (h : okI x) (g : grT x = false) (hb : txB x = true) : Answers Tryd.prog Γm 30 [txV x] [] (.tup [.hs 0 0 (byS x).size, .v (.int .i64 0)]) [] [.arr 1 (byS x).size (bsF (byS x))] := by
  obtain ⟨f1, f2, f3⟩ := txB_facts hb
  obtain ⟨g1, g2, g3, g4⟩ := gr_sizes g
  have hok : ∀ j, j < 2 → okN (kn x j) = true := fun j hj => by
    match j, hj with
    | 0, _ => show okN x.k = true; unfold okN; rw [decide_eq_true (by omega), decide_eq_true (by omega)]; rfl
    | 1, _ => show okN x.nn = true; unfold okN; rw [decide_eq_true (by omega), decide_eq_true (by omega)]; rfl
  have hN : (NA.hs 2 (kn x)).ok := ⟨hok, (by show 2 ≤ 100000; decide), fun _ => (by show 0 < 2; decide)⟩
  have hc := catN_small (g := kn x) (i := 2) hok
  have hA : Answers Tryd.prog Γm 81 [.hs 0 0 2] [.arr 1 2 (i64F (kn x))] (.tup [.hs 1 0 (catN (kn x) 2).size, .v (.int .i64 0)]) [some (.arr 1 2 (i64F (kn x)))] [.arr 1 (catN (kn x) 2).size (bsF (catN (kn x) 2))] := ansNums (.hs 2 (kn x)) hN
  have hB : byS x = if x.k = 1 then textB (textB (catN (kn x) 2) x.fr) x.to ++ numB x.am.toNat else textB (textB (textB (catN (kn x) 2) x.fr) x.ky) x.vl := by
    have e : catN (kn x) 2 = numB x.k.toNat ++ numB x.nn.toNat := by
      show (⟨#[]⟩ ++ numB x.k.toNat) ++ numB x.nn.toNat = _
      rw [show (⟨#[]⟩ : ByteArray) = ByteArray.empty from rfl, ByteArray.empty_append]
    rw [e]
    unfold byS textB tS
    simp only [ByteArray.append_assoc]
  generalize catN (kn x) 2 = t at hA hB hc
  refine answers (fn := Tryd.f30) (c := bodyOf Tryd.f30) (ntmps := 57) (results := [.tmp 2, .tmp 3]) [kTx, CT.at 81 hA, kTxt, kNum] (Lno) false Tryd.func30 (by kernel_rfl) (by kernel_rfl) (by kernel_rfl) (by kernel_rfl) (by simp) rfl (failOK fun _ _ _ => rfl) <| Meets.of (runTB x t hA) <| ?_
  have hs := h.1
  have hx : Tx.mk x.k x.fr x.to x.ky x.vl x.am x.nn = x := rfl
  have et : erT true = 0 := rfl
  have q0 : (BA.hs t).ok := ⟨by unfold small; omega, by omega⟩
  have q1 := textB_ok (t := t) (s := x.fr) (by omega) g1
  have z1 := textB_small (t := t) (s := x.fr) (by omega) g1
  have q2 := textB_ok (t := textB t x.fr) (s := x.to) (by omega) g2
  have q3 := textB_ok (t := textB t x.fr) (s := x.ky) (by omega) g3
  have hO : OLe (some (Blk.arr 1 2 fun i => [AV.v (Value.int IntKind.i64 (bif Nat.beq i 0 then x.k else bif Nat.beq i 1 then x.nn else 0))])) (some (.arr 1 2 fun j => [AV.v (Value.int IntKind.i64 (kn x j))])) :=
    OLe.arr rfl (fun e he => by
      match e, he with
      | 0, _ => rfl
      | 1, _ => rfl) (fun _ => rfl)
  simp only [textOf_u, textOf_bsF, hx, hb, et]
  rcases f3 with ⟨hk, a1, a2⟩ | hk
  · have a3 : 0 ≤ x.am := by omega
    rw [hB, if_pos hk]
    have hO1 := hO
    simp only [hk] at hO1
    repeat' (first | refine wC (by first | omega | (simp only [W1, cond_true, cond_false, hx, hs, hb, et, hk, q0, q1, q2, g1, g2, a3, a2]; first | done | omega)) ?_ | refine wT (by first | omega | (simp only [W1, cond_true, cond_false, hx, hs, hb, et, hk, q0, q1, q2, g1, g2, a3, a2]; first | done | omega)) ?_ | refine wF (by intro _h; first | omega | (simp only [W1, cond_true, cond_false, hx, hs, hb, et, hk, q0, q1, q2, g1, g2, a3, a2] at _h; first | done | omega)) ?_ | (refine wS ?_ ?_ <;> intro _h <;> simp only [W1, cond_true, cond_false, hx, hs, hb, et, hk, q0, q1, q2, g1, g2, a3, a2] at _h))
    all_goals simp only [W1, W2, owesN, owesX, owesR, cond_true, cond_false, hx, hs, hb, et, hk, q0, q1, q2, g1, g2, a3, a2]
    repeat' (first | apply And.intro | intro _hc)
    all_goals first | exact hO1 | exact AV.le_refl _ | exact AV.le_any _ | exact OLe.refl _ | exact OLe.none _ | exact LeH.refl _ | exact LeL.refl _ | exact AV.le.bs _ | exact AV.le.sb _ | omega | contradiction
  · have hk1 : ¬ x.k = 1 := by omega
    rw [hB, if_neg hk1]
    repeat' (first | refine wC (by first | omega | (simp only [W1, cond_true, cond_false, hx, hs, hb, et, hk1, q0, q1, q3, g1, g3, g4]; first | done | omega)) ?_ | refine wT (by first | omega | (simp only [W1, cond_true, cond_false, hx, hs, hb, et, hk1, q0, q1, q3, g1, g3, g4]; first | done | omega)) ?_ | refine wF (by intro _h; first | omega | (simp only [W1, cond_true, cond_false, hx, hs, hb, et, hk1, q0, q1, q3, g1, g3, g4] at _h; first | done | omega)) ?_ | (refine wS ?_ ?_ <;> intro _h <;> simp only [W1, cond_true, cond_false, hx, hs, hb, et, hk1, q0, q1, q3, g1, g3, g4] at _h))
    all_goals simp only [W1, W2, owesN, owesX, owesR, cond_true, cond_false, hx, hs, hb, et, hk1, q0, q1, q3, g1, g3, g4]
    repeat' (first | apply And.intro | intro _hc)
    all_goals first | exact hO | exact AV.le_refl _ | exact AV.le_any _ | exact OLe.refl _ | exact OLe.none _ | exact LeH.refl _ | exact LeL.refl _ | exact AV.le.bs _ | exact AV.le.sb _ | omega | contradiction
end Go.Eng.TA

namespace Go.Eng.TA.R
open Go Go.Eng Go.Eng.M Go.Eng.RD Go.Lib Go.Proofs
theorem wl_facts {s : ByteArray} : ∀ (k p : Nat), p ≤ s.size → ∀ {L : List Wo} {q : Nat}, wl s k p = some (L, q) → L.length = k ∧ q ≤ s.size ∧ ∀ w ∈ L, w.s.size ≤ s.size := by
  intro k
  induction k with
  | zero =>
    intro p hp L q h
    rw [wl] at h
    cases h
    exact ⟨rfl, hp, fun w hw => absurd hw (by simp)⟩
  | succ k ih =>
    intro p hp L q h
    rw [wl] at h
    by_cases hq : spA s p < s.size
    · rw [if_pos hq] at h
      cases hr : wl s k (spA s p + 1) with
      | none => rw [hr] at h; cases h
      | some r =>
        rw [hr] at h
        obtain ⟨M, q'⟩ := r
        cases h
        obtain ⟨h1, h2, h3⟩ := ih (spA s p + 1) hq hr
        refine ⟨by rw [List.length_cons, h1], h2, fun w hw => ?_⟩
        rcases List.mem_cons.1 hw with rfl | hw
        · show (s.extract p (spA s p)).size ≤ s.size
          rw [ext_size _ _ _ (by omega)]; omega
        · exact h3 w hw
    · rw [if_neg hq] at h; cases h
def noS (w : ByteArray) : Prop := ∀ j, j < w.size → ¬ bN w j = 32
abbrev sp1 : ByteArray := ⟨#[32]⟩
theorem sp_run {s : ByteArray} : ∀ (k p : Nat), (∀ j, j < k → p + j < s.size ∧ ¬ bN s (p + j) = 32) → spA s p = spA s (p + k) := by
  intro k
  induction k with
  | zero => intro p _; rfl
  | succ k ih =>
    intro p h
    have h0 := h 0 (by omega)
    rw [Nat.add_zero] at h0
    rw [sp_next h0.1 h0.2, ih (p + 1) (fun j hj => by
      have := h (j + 1) (by omega)
      rw [show p + 1 + j = p + (j + 1) by omega]; exact this)]
    congr 1; omega
theorem sp_word {s w : ByteArray} {p : Nat} (h : At s p (w ++ sp1)) (hn : noS w) : spA s p = p + w.size ∧ p + w.size < s.size := by
  have hr := h.right
  have hs : p + w.size < s.size := by have := hr.1; have : sp1.size = 1 := rfl; omega
  refine ⟨?_, hs⟩
  rw [sp_run w.size p (fun j hj => ⟨by omega, by rw [h.left.2 j hj]; exact hn j hj⟩)]
  exact sp_here hs (by have := hr.2 0 (by decide); rw [Nat.add_zero] at this; rw [this]; rfl)
theorem wl_word {s w : ByteArray} {p k : Nat} (h : At s p (w ++ sp1)) (hn : noS w) : wl s (k + 1) p = (wl s k (p + (w ++ sp1).size)).map (fun r => (⟨w⟩ :: r.1, r.2)) := by
  obtain ⟨h1, h2⟩ := sp_word h hn
  rw [wl, if_pos (by rw [h1]; exact h2), h1, h.left.ext, ByteArray.size_append, show p + (w.size + sp1.size) = p + w.size + 1 from rfl]
def joinW (w0 w1 w2 w3 w4 w5 r : ByteArray) : ByteArray := (w0 ++ sp1) ++ ((w1 ++ sp1) ++ ((w2 ++ sp1) ++ ((w3 ++ sp1) ++ ((w4 ++ sp1) ++ ((w5 ++ sp1) ++ r)))))
theorem At.all (s : ByteArray) : At s 0 s := ⟨by omega, fun j hj => by rw [Nat.zero_add]⟩
theorem wl_join {w0 w1 w2 w3 w4 w5 r : ByteArray} (n0 : noS w0) (n1 : noS w1) (n2 : noS w2) (n3 : noS w3) (n4 : noS w4) (n5 : noS w5) :
    ∃ q, wl (joinW w0 w1 w2 w3 w4 w5 r) 6 0 = some ([⟨w0⟩, ⟨w1⟩, ⟨w2⟩, ⟨w3⟩, ⟨w4⟩, ⟨w5⟩], q) ∧ (joinW w0 w1 w2 w3 w4 w5 r).extract q (joinW w0 w1 w2 w3 w4 w5 r).size = r := by
  have h0 := At.all (joinW w0 w1 w2 w3 w4 w5 r)
  have h1 : At (joinW w0 w1 w2 w3 w4 w5 r) _ _ := At.right (a := w0 ++ sp1) h0
  have h2 : At (joinW w0 w1 w2 w3 w4 w5 r) _ _ := At.right (a := w1 ++ sp1) h1
  have h3 : At (joinW w0 w1 w2 w3 w4 w5 r) _ _ := At.right (a := w2 ++ sp1) h2
  have h4 : At (joinW w0 w1 w2 w3 w4 w5 r) _ _ := At.right (a := w3 ++ sp1) h3
  have h5 : At (joinW w0 w1 w2 w3 w4 w5 r) _ _ := At.right (a := w4 ++ sp1) h4
  have h6 : At (joinW w0 w1 w2 w3 w4 w5 r) _ _ := At.right (a := w5 ++ sp1) h5
  have hz : (joinW w0 w1 w2 w3 w4 w5 r).size = (w0 ++ sp1).size + ((w1 ++ sp1).size + ((w2 ++ sp1).size + ((w3 ++ sp1).size + ((w4 ++ sp1).size + ((w5 ++ sp1).size + r.size))))) := by
    unfold joinW
    simp only [ByteArray.size_append (a := _ ++ sp1)]
  refine ⟨0 + (w0 ++ sp1).size + (w1 ++ sp1).size + (w2 ++ sp1).size + (w3 ++ sp1).size + (w4 ++ sp1).size + (w5 ++ sp1).size, ?_, ?_⟩
  · rw [wl_word (At.left (a := w0 ++ sp1) h0) n0, wl_word (At.left (a := w1 ++ sp1) h1) n1, wl_word (At.left (a := w2 ++ sp1) h2) n2, wl_word (At.left (a := w3 ++ sp1) h3) n3, wl_word (At.left (a := w4 ++ sp1) h4) n4, wl_word (At.left (a := w5 ++ sp1) h5) n5]
    rfl
  · have hx := h6.ext
    rw [show 0 + (w0 ++ sp1).size + (w1 ++ sp1).size + (w2 ++ sp1).size + (w3 ++ sp1).size + (w4 ++ sp1).size + (w5 ++ sp1).size + r.size = (joinW w0 w1 w2 w3 w4 w5 r).size by rw [hz]; omega] at hx
    exact hx
theorem noS_name {s : ByteArray} (h : nameB s = true) : noS s := by
  have hl : ∀ c ∈ rns s 0, ¬ c = 32 := fun c hc e => by
    unfold nameB fine at h
    simp only [Bool.and_eq_true, List.all_eq_true] at h
    have := h.1.1 c hc
    rw [e] at this
    exact absurd this (by decide)
  have key : ∀ (n p : Nat), s.size - p ≤ n → p ≤ s.size → (∀ c ∈ rns s p, ¬ c = 32) → spA s p = s.size := by
    intro n
    induction n with
    | zero => intro p h1 h2 _; rw [sp_end (by omega)]; omega
    | succ n ih =>
      intro p h1 h2 h3
      rcases Nat.lt_or_ge p s.size with hp | hp
      · rw [rns_step hp] at h3
        have hd := dec_le hp
        have hq := dec_pos s p
        rw [sp_rune hp (h3 _ (List.mem_cons_self ..))]
        refine ih _ ?_ hd (fun c hc => h3 c (List.mem_cons_of_mem _ hc))
        omega
      · rw [sp_end hp]; omega
  have h0 := key s.size 0 (by omega) (Nat.zero_le _) hl
  intro j hj e
  have key2 : ∀ (k p : Nat), p + k = j → spA s p ≤ j := by
    intro k
    induction k with
    | zero => intro p hp; rw [show p = j by omega, sp_here hj e]; exact Nat.le_refl _
    | succ k ih =>
      intro p hp
      by_cases hb : bN s p = 32
      · rw [sp_here (by omega) hb]; omega
      · rw [sp_next (by omega) hb]; exact ih (p + 1) (by omega)
  have := key2 j 0 (by omega)
  omega
theorem noS_pr {v : Int} (h : 0 ≤ v) : noS (prS v) := by
  have e : prS v = ⟨⟨prL v.natAbs⟩⟩ := by unfold prS prU; rw [if_neg (by omega)]
  rw [e]
  intro j hj
  have := dL_allD (prL_dL v.natAbs) j hj
  unfold isD at this
  omega
theorem noS_app {a b : ByteArray} (ha : noS a) (hb : noS b) : noS (a ++ b) := fun j hj => by
  rw [ByteArray.size_append] at hj
  rw [bN_app]
  by_cases h : j < a.size
  · rw [if_pos h]; exact ha j h
  · rw [if_neg h]; exact hb _ (by omega)
theorem noS_lit {w : ByteArray} (h : (w.data.toList.all fun b => !decide (b = 32)) = true) : noS w := by
  intro j hj e
  rw [List.all_eq_true] at h
  have hj' : j < w.data.size := hj
  have hd : w.data[j]? = some w.data[j] := by simp [hj']
  unfold bN at e
  rw [hd] at e
  have := h w.data[j] (by simp)
  simp only [Option.getD_some] at e
  have hb : w.data[j] = 32 := UInt8.toNat_inj.1 e
  rw [hb] at this
  exact absurd this (by decide)
theorem prT_join {x : Tx} (h : txB x = true) : ∃ q, wl (prT x) 6 0 = some ([⟨if x.k = 1 then ⟨#[109, 111, 118, 101]⟩ else ⟨#[112, 117, 116]⟩⟩, ⟨prS x.nn ++ ⟨#[58]⟩⟩, ⟨x.fr⟩, ⟨if x.k = 1 then ⟨#[103, 105, 118, 101, 115]⟩ else ⟨#[115, 101, 116, 115]⟩⟩, ⟨if x.k = 1 then prS x.am else x.ky⟩, ⟨⟨#[116, 111]⟩⟩], q) ∧
    (prT x).extract q (prT x).size = if x.k = 1 then x.to else x.vl := by
  have l0 : (⟨#[109, 111, 118, 101, 32]⟩ : ByteArray) = ⟨#[109, 111, 118, 101]⟩ ++ sp1 := by decide +kernel
  have l1 : (⟨#[58, 32]⟩ : ByteArray) = ⟨#[58]⟩ ++ sp1 := by decide +kernel
  have l2 : (⟨#[32, 103, 105, 118, 101, 115, 32]⟩ : ByteArray) = sp1 ++ (⟨#[103, 105, 118, 101, 115]⟩ ++ sp1) := by decide +kernel
  have l3 : (⟨#[32, 116, 111, 32]⟩ : ByteArray) = sp1 ++ (⟨#[116, 111]⟩ ++ sp1) := by decide +kernel
  have l4 : (⟨#[112, 117, 116, 32]⟩ : ByteArray) = ⟨#[112, 117, 116]⟩ ++ sp1 := by decide +kernel
  have l5 : (⟨#[32, 115, 101, 116, 115, 32]⟩ : ByteArray) = sp1 ++ (⟨#[115, 101, 116, 115]⟩ ++ sp1) := by decide +kernel
  obtain ⟨f1, f2, f3⟩ := txB_facts h
  have hfr : nameB x.fr = true := by
    unfold txB at h
    simp only [Bool.and_eq_true] at h
    exact h.1.1
  by_cases hk : x.k = 1
  · have ha : 1 ≤ x.am := by omega
    have e : prT x = joinW ⟨#[109, 111, 118, 101]⟩ (prS x.nn ++ ⟨#[58]⟩) x.fr ⟨#[103, 105, 118, 101, 115]⟩ (prS x.am) ⟨#[116, 111]⟩ x.to := by
      show (if x.k = 1 then mvS x else ptS x) = _
      rw [if_pos hk]
      unfold mvS joinW
      rw [l0, l1, l2, l3]
      simp only [ByteArray.append_assoc]
    simp only [if_pos hk]
    rw [e]
    exact wl_join (noS_lit (by decide)) (noS_app (noS_pr (by omega)) (noS_lit (by decide))) (noS_name hfr) (noS_lit (by decide)) (noS_pr (by omega)) (noS_lit (by decide))
  · have hk2 : x.k = 2 := by omega
    have hky : nameB x.ky = true := by
      unfold txB at h
      rw [if_neg hk, if_pos hk2] at h
      unfold okP at h
      simp only [Bool.and_eq_true] at h
      exact h.2.1
    have e : prT x = joinW ⟨#[112, 117, 116]⟩ (prS x.nn ++ ⟨#[58]⟩) x.fr ⟨#[115, 101, 116, 115]⟩ x.ky ⟨#[116, 111]⟩ x.vl := by
      show (if x.k = 1 then mvS x else ptS x) = _
      rw [if_neg hk]
      unfold ptS joinW
      rw [l4, l1, l5, l3]
      simp only [ByteArray.append_assoc]
    simp only [if_neg hk]
    rw [e]
    exact wl_join (noS_lit (by decide)) (noS_app (noS_pr (by omega)) (noS_lit (by decide))) (noS_name hfr) (noS_lit (by decide)) (noS_name hky) (noS_lit (by decide))
theorem pT_back {x : Tx} (h : txB x = true) : pT (if x.k = 1 then ⟨#[109, 111, 118, 101]⟩ else ⟨#[112, 117, 116]⟩) (prS x.nn ++ ⟨#[58]⟩) x.fr (if x.k = 1 then ⟨#[103, 105, 118, 101, 115]⟩ else ⟨#[115, 101, 116, 115]⟩) (if x.k = 1 then prS x.am else x.ky) ⟨#[116, 111]⟩ (if x.k = 1 then x.to else x.vl) = some x := by
  obtain ⟨f1, f2, f3⟩ := txB_facts h
  have h1 : hdB (prS x.nn ++ ⟨#[58]⟩) ⟨#[116, 111]⟩ = true := by
    unfold hdB
    have hz : (prS x.nn ++ ⟨#[58]⟩).size = (prS x.nn).size + 1 := by rw [ByteArray.size_append]; rfl
    rw [decide_eq_true rfl, decide_eq_true (show ¬ (prS x.nn ++ ⟨#[58]⟩) = TA.e0 from fun e => by rw [e] at hz; exact absurd hz (by show ¬ (0 = _); omega)), decide_eq_true]
    · rfl
    · rw [hz, bN_app, if_neg (by omega), show (prS x.nn).size + 1 - 1 - (prS x.nn).size = 0 by omega]; rfl
  have h2 : n1 (prS x.nn ++ ⟨#[58]⟩) = prS x.nn := by
    have := (At.pre (prS x.nn) ⟨#[58]⟩).ext
    unfold n1
    rw [ByteArray.size_append, show (prS x.nn).size + (⟨#[58]⟩ : ByteArray).size - 1 = 0 + (prS x.nn).size by show _ + 1 - 1 = _; omega]
    exact this
  have i1 : inI64 x.nn := by unfold inI64; omega
  obtain ⟨r1, r2⟩ := pr_rd (lo := 1) (hi := 4611686018427387904) i1 f1 f2
  unfold pT
  rw [h1, if_neg (by decide), h2, if_neg (by rw [r2]; decide)]
  by_cases hk : x.k = 1
  · simp only [if_pos hk]
    have i2 : inI64 x.am := by unfold inI64; omega
    obtain ⟨s1, s2⟩ := pr_rd (lo := 1) (hi := 4611686018427387904) i2 (by omega) (by omega)
    have hm : mvB ⟨#[109, 111, 118, 101]⟩ ⟨#[103, 105, 118, 101, 115]⟩ = true := by decide
    have ht : t1 (prS x.nn ++ ⟨#[58]⟩) x.fr (prS x.am) x.to = x := by
      have hq := h
      unfold txB at hq
      rw [if_pos hk] at hq
      unfold okM emp at hq
      simp only [Bool.and_eq_true, decide_eq_true_eq] at hq
      unfold t1
      rw [h2, r1, s1]
      obtain ⟨k, fr, to, ky, vl, am, nn⟩ := x
      simp only at hk hq
      rw [hk, hq.2.2.2.1, hq.2.2.2.2]
    rw [if_pos hm, ht, if_pos ⟨s2, h⟩]
  · simp only [if_neg hk]
    have hk2 : x.k = 2 := by omega
    have hm : mvB ⟨#[112, 117, 116]⟩ ⟨#[115, 101, 116, 115]⟩ = false := by decide
    have hp : ptB ⟨#[112, 117, 116]⟩ ⟨#[115, 101, 116, 115]⟩ = true := by decide
    have ht : t2 (prS x.nn ++ ⟨#[58]⟩) x.fr x.ky x.vl = x := by
      have hq := h
      unfold txB at hq
      rw [if_neg hk, if_pos hk2] at hq
      unfold okP emp at hq
      simp only [Bool.and_eq_true, decide_eq_true_eq] at hq
      unfold t2
      rw [h2, r1]
      obtain ⟨k, fr, to, ky, vl, am, nn⟩ := x
      simp only at hk2 hq
      rw [hk2, hq.2.2.2.1, hq.2.2.2.2]
    rw [if_neg (by rw [hm]; decide), if_pos hp, ht, if_pos h]
theorem ansBack {x : Tx} (h : txB x = true) (hs : (prT x).size ≤ 1000000) (hn : ∀ w : ByteArray, w.size ≤ (prT x).size → w.size ≤ 10000000) : Answers Tryd.prog Γm 36 [.v (.string (prT x))] [] (resP (some x)) [] [] := by
  obtain ⟨q, h1, h2⟩ := prT_join h
  obtain ⟨_, k2, k3⟩ := wl_facts 6 0 (Nat.zero_le _) h1
  have hw := ansWsR hs h1
  have hL : ∀ i, (List.getD [(⟨if x.k = 1 then ⟨#[109, 111, 118, 101]⟩ else ⟨#[112, 117, 116]⟩⟩ : Wo), ⟨prS x.nn ++ ⟨#[58]⟩⟩, ⟨x.fr⟩, ⟨if x.k = 1 then ⟨#[103, 105, 118, 101, 115]⟩ else ⟨#[115, 101, 116, 115]⟩⟩, ⟨if x.k = 1 then prS x.am else x.ky⟩, ⟨⟨#[116, 111]⟩⟩] i default).s.size ≤ 10000000 := fun i => by
    rcases Nat.lt_or_ge i 6 with hi | hi
    · rw [getD_get hi]
      exact hn _ (k3 _ (List.getElem_mem hi))
    · rw [List.getD_eq_getElem?_getD, List.getElem?_eq_none hi]
      exact Nat.zero_le _
  have hr : ((prT x).extract q (prT x).size).size ≤ 10000000 := by rw [ext_size _ _ _ (Nat.le_refl _)]; omega
  have := ansTP hw hr hL
  rw [h2] at this
  have e := pT_back h
  simp only [List.getD_cons_zero, List.getD_cons_succ] at this
  rw [e] at this
  exact this
end Go.Eng.TA.R

namespace Go.Eng.TA.R
open Go Go.Eng Go.Eng.M Go.Eng.RD Go.Lib Go.Proofs
def toTx : List AV → List Blk → Option Tx
  | [.agg [.v (.int .i64 k), .v (.string f), .v (.string t), .v (.string y), .v (.string v), .v (.int .i64 a), .v (.int .i64 n)]], [] => some ⟨k, f, t, y, v, a, n⟩
  | _, _ => none
theorem toTx_inv {args : List AV} {Hin : List Blk} {x : Tx} (h : toTx args Hin = some x) : args = [txV x] ∧ Hin = [] := by
  unfold toTx at h
  split at h
  · cases h; exact ⟨rfl, rfl⟩
  · cases h
noncomputable def hTx : CT Tryd.prog Γm := CT.ex 32 toTx smallT (fun x => .v (.int .i64 (erT (txB x)))) (fun _ => []) (fun _ => [])
  (callFunc_enters Tryd.func32 (by kernel_rfl) (by kernel_rfl)) (fun args Hin x hx hp => by
    obtain ⟨rfl, rfl⟩ := toTx_inv hx
    exact (ansTx hp).cU rfl)
noncomputable def O2 (t : ByteArray) (off : Nat) (e : Int) : Nat := qO t (qO t off e) (qE t off e)
noncomputable def E2 (t : ByteArray) (off : Nat) (e : Int) : Int := qE t (qO t off e) (qE t off e)
noncomputable def O3 (t : ByteArray) (off : Nat) (e : Int) : Nat := xO t (O2 t off e) (E2 t off e)
noncomputable def E3 (t : ByteArray) (off : Nat) (e : Int) : Int := xE t (O2 t off e) (E2 t off e)
noncomputable def O4 (t : ByteArray) (off : Nat) (e : Int) : Nat := xO t (O3 t off e) (E3 t off e)
noncomputable def E4 (t : ByteArray) (off : Nat) (e : Int) : Int := xE t (O3 t off e) (E3 t off e)
noncomputable def O5 (t : ByteArray) (off : Nat) (e : Int) : Nat := qO t (O4 t off e) (E4 t off e)
noncomputable def E5 (t : ByteArray) (off : Nat) (e : Int) : Int := qE t (O4 t off e) (E4 t off e)
noncomputable def O6 (t : ByteArray) (off : Nat) (e : Int) : Nat := xO t (O4 t off e) (E4 t off e)
noncomputable def E6 (t : ByteArray) (off : Nat) (e : Int) : Int := xE t (O4 t off e) (E4 t off e)
theorem runTake (t : ByteArray) (hz : t.size ≤ 1000000000000) (off : Nat) (e : Int) : bodyE (P := Tryd.prog) (Γ := Γm) [hRn t hz, hTt t hz, hFl t, hDn t, hTx] Lno false 52 [.cell 2 40]
    (bodyOf Tryd.f39) [.ptr 0 0] (rdb t off e) = Tree.chk (cl (RX.ok t (RX.mk off (ByteArray.size t - off) e (ByteArray.size t) (bsF t)))) (Tree.br (decide (qN t off e = (1 : Int))) (Tree.br
    (decide (qN t off e = (1 : Int))) (Tree.chk (cl (RX.ok t (RX.mk (qO t off e) (ByteArray.size t - qO t off e) (qE t off e) (ByteArray.size t) (bsF t)))) (Tree.chk (cl (RX.ok t (RX.mk (O2
    t off e) (ByteArray.size t - O2 t off e) (E2 t off e) (ByteArray.size t) (bsF t)) ∧ okS t (O2 t off e) (E2 t off e))) (Tree.br (decide (qN t off e = (1 : Int))) (Tree.chk (cl (RX.ok t
    (RX.mk (O3 t off e) (ByteArray.size t - O3 t off e) (E3 t off e) (ByteArray.size t) (bsF t)) ∧ okS t (O3 t off e) (E3 t off e))) (Tree.chk (cl (RX.ok t (RX.mk (O4 t off e)
    (ByteArray.size t - O4 t off e) (E4 t off e) (ByteArray.size t) (bsF t)))) (Tree.chk (cl (smallT (Tx.mk (qN t off e) (xS t (O2 t off e) (E2 t off e)) (xS t (O3 t off e) (E3 t off e))
    (ByteArray.mk #[]) (ByteArray.mk #[]) (qN t (O4 t off e) (E4 t off e)) (qN t (qO t off e) (qE t off e))))) (Tree.br (!decide (erT (txB (Tx.mk (qN t off e) (xS t (O2 t off e) (E2 t off
    e)) (xS t (O3 t off e) (E3 t off e)) (ByteArray.mk #[]) (ByteArray.mk #[]) (qN t (O4 t off e) (E4 t off e)) (qN t (qO t off e) (qE t off e)))) = (0 : Int))) (Tree.chk (cl (RX.ok t (RX.mk
    (O5 t off e) (ByteArray.size t - O5 t off e) (E5 t off e) (ByteArray.size t) (bsF t)))) (Tree.chk (cl (RX.ok t (RX.mk (fO (ByteArray.size t) (O5 t off e) (E5 t off e) (80 : Int))
    (ByteArray.size t - fO (ByteArray.size t) (O5 t off e) (E5 t off e) (80 : Int)) (fE (E5 t off e) (80 : Int)) (ByteArray.size t) (bsF t)))) (Tree.br (bif !decide (dE t (fO (ByteArray.size
    t) (O5 t off e) (E5 t off e) (80 : Int)) (fE (E5 t off e) (80 : Int)) = (0 : Int)) then !decide (dE t (fO (ByteArray.size t) (O5 t off e) (E5 t off e) (80 : Int)) (fE (E5 t off e) (80 :
    Int)) = (32 : Int)) else false) (Tree.leaf (Ans.mk (AV.agg [AV.v (Value.int IntKind.i64 (0 : Int)), AV.v (Value.string (ByteArray.mk #[])), AV.v (Value.string (ByteArray.mk #[])), AV.v
    (Value.string (ByteArray.mk #[])), AV.v (Value.string (ByteArray.mk #[])), AV.v (Value.int IntKind.i64 (0 : Int)), AV.v (Value.int IntKind.i64 (0 : Int))]) [some (Blk.row [AV.hs (1 :
    Nat) (fO (ByteArray.size t) (O5 t off e) (E5 t off e) (80 : Int)) (ByteArray.size t - fO (ByteArray.size t) (O5 t off e) (E5 t off e) (80 : Int)), AV.v (Value.int IntKind.i64 (fE (E5 t
    off e) (80 : Int)))]), some (Blk.arr (1 : Nat) (ByteArray.size t) (bsF t))])) (Tree.leaf (Ans.mk (AV.agg [AV.v (Value.int IntKind.i64 (qN t off e)), AV.v (Value.string (xS t (O2 t off e)
    (E2 t off e))), AV.v (Value.string (xS t (O3 t off e) (E3 t off e))), AV.v (Value.string (ByteArray.mk #[])), AV.v (Value.string (ByteArray.mk #[])), AV.v (Value.int IntKind.i64 (qN t
    (O4 t off e) (E4 t off e))), AV.v (Value.int IntKind.i64 (qN t (qO t off e) (qE t off e)))]) [some (Blk.row [AV.hs (1 : Nat) (fO (ByteArray.size t) (O5 t off e) (E5 t off e) (80 : Int))
    (ByteArray.size t - fO (ByteArray.size t) (O5 t off e) (E5 t off e) (80 : Int)), AV.v (Value.int IntKind.i64 (fE (E5 t off e) (80 : Int)))]), some (Blk.arr (1 : Nat) (ByteArray.size t)
    (bsF t))]))))) (Tree.chk (cl (RX.ok t (RX.mk (O5 t off e) (ByteArray.size t - O5 t off e) (E5 t off e) (ByteArray.size t) (bsF t)))) (Tree.br (bif !decide (dE t (O5 t off e) (E5 t off e)
    = (0 : Int)) then !decide (dE t (O5 t off e) (E5 t off e) = (32 : Int)) else false) (Tree.leaf (Ans.mk (AV.agg [AV.v (Value.int IntKind.i64 (0 : Int)), AV.v (Value.string (ByteArray.mk
    #[])), AV.v (Value.string (ByteArray.mk #[])), AV.v (Value.string (ByteArray.mk #[])), AV.v (Value.string (ByteArray.mk #[])), AV.v (Value.int IntKind.i64 (0 : Int)), AV.v (Value.int
    IntKind.i64 (0 : Int))]) [some (Blk.row [AV.hs (1 : Nat) (O5 t off e) (ByteArray.size t - O5 t off e), AV.v (Value.int IntKind.i64 (E5 t off e))]), some (Blk.arr (1 : Nat)
    (ByteArray.size t) (bsF t))])) (Tree.leaf (Ans.mk (AV.agg [AV.v (Value.int IntKind.i64 (qN t off e)), AV.v (Value.string (xS t (O2 t off e) (E2 t off e))), AV.v (Value.string (xS t (O3 t
    off e) (E3 t off e))), AV.v (Value.string (ByteArray.mk #[])), AV.v (Value.string (ByteArray.mk #[])), AV.v (Value.int IntKind.i64 (qN t (O4 t off e) (E4 t off e))), AV.v (Value.int
    IntKind.i64 (qN t (qO t off e) (qE t off e)))]) [some (Blk.row [AV.hs (1 : Nat) (O5 t off e) (ByteArray.size t - O5 t off e), AV.v (Value.int IntKind.i64 (E5 t off e))]), some (Blk.arr
    (1 : Nat) (ByteArray.size t) (bsF t))])))))))) (Tree.chk (cl (RX.ok t (RX.mk (O3 t off e) (ByteArray.size t - O3 t off e) (E3 t off e) (ByteArray.size t) (bsF t)) ∧ okS t (O3 t off e)
    (E3 t off e))) (Tree.chk (cl (RX.ok t (RX.mk (O4 t off e) (ByteArray.size t - O4 t off e) (E4 t off e) (ByteArray.size t) (bsF t)) ∧ okS t (O4 t off e) (E4 t off e))) (Tree.chk (cl
    (smallT (Tx.mk (qN t off e) (xS t (O2 t off e) (E2 t off e)) (ByteArray.mk #[]) (xS t (O3 t off e) (E3 t off e)) (xS t (O4 t off e) (E4 t off e)) (0 : Int) (qN t (qO t off e) (qE t off
    e))))) (Tree.br (!decide (erT (txB (Tx.mk (qN t off e) (xS t (O2 t off e) (E2 t off e)) (ByteArray.mk #[]) (xS t (O3 t off e) (E3 t off e)) (xS t (O4 t off e) (E4 t off e)) (0 : Int) (qN
    t (qO t off e) (qE t off e)))) = (0 : Int))) (Tree.chk (cl (RX.ok t (RX.mk (O6 t off e) (ByteArray.size t - O6 t off e) (E6 t off e) (ByteArray.size t) (bsF t)))) (Tree.chk (cl (RX.ok t
    (RX.mk (fO (ByteArray.size t) (O6 t off e) (E6 t off e) (80 : Int)) (ByteArray.size t - fO (ByteArray.size t) (O6 t off e) (E6 t off e) (80 : Int)) (fE (E6 t off e) (80 : Int))
    (ByteArray.size t) (bsF t)))) (Tree.br (bif !decide (dE t (fO (ByteArray.size t) (O6 t off e) (E6 t off e) (80 : Int)) (fE (E6 t off e) (80 : Int)) = (0 : Int)) then !decide (dE t (fO
    (ByteArray.size t) (O6 t off e) (E6 t off e) (80 : Int)) (fE (E6 t off e) (80 : Int)) = (32 : Int)) else false) (Tree.leaf (Ans.mk (AV.agg [AV.v (Value.int IntKind.i64 (0 : Int)), AV.v
    (Value.string (ByteArray.mk #[])), AV.v (Value.string (ByteArray.mk #[])), AV.v (Value.string (ByteArray.mk #[])), AV.v (Value.string (ByteArray.mk #[])), AV.v (Value.int IntKind.i64 (0
    : Int)), AV.v (Value.int IntKind.i64 (0 : Int))]) [some (Blk.row [AV.hs (1 : Nat) (fO (ByteArray.size t) (O6 t off e) (E6 t off e) (80 : Int)) (ByteArray.size t - fO (ByteArray.size t)
    (O6 t off e) (E6 t off e) (80 : Int)), AV.v (Value.int IntKind.i64 (fE (E6 t off e) (80 : Int)))]), some (Blk.arr (1 : Nat) (ByteArray.size t) (bsF t))])) (Tree.leaf (Ans.mk (AV.agg
    [AV.v (Value.int IntKind.i64 (qN t off e)), AV.v (Value.string (xS t (O2 t off e) (E2 t off e))), AV.v (Value.string (ByteArray.mk #[])), AV.v (Value.string (xS t (O3 t off e) (E3 t off
    e))), AV.v (Value.string (xS t (O4 t off e) (E4 t off e))), AV.v (Value.int IntKind.i64 (0 : Int)), AV.v (Value.int IntKind.i64 (qN t (qO t off e) (qE t off e)))]) [some (Blk.row [AV.hs
    (1 : Nat) (fO (ByteArray.size t) (O6 t off e) (E6 t off e) (80 : Int)) (ByteArray.size t - fO (ByteArray.size t) (O6 t off e) (E6 t off e) (80 : Int)), AV.v (Value.int IntKind.i64 (fE
    (E6 t off e) (80 : Int)))]), some (Blk.arr (1 : Nat) (ByteArray.size t) (bsF t))]))))) (Tree.chk (cl (RX.ok t (RX.mk (O6 t off e) (ByteArray.size t - O6 t off e) (E6 t off e)
    (ByteArray.size t) (bsF t)))) (Tree.br (bif !decide (dE t (O6 t off e) (E6 t off e) = (0 : Int)) then !decide (dE t (O6 t off e) (E6 t off e) = (32 : Int)) else false) (Tree.leaf (Ans.mk
    (AV.agg [AV.v (Value.int IntKind.i64 (0 : Int)), AV.v (Value.string (ByteArray.mk #[])), AV.v (Value.string (ByteArray.mk #[])), AV.v (Value.string (ByteArray.mk #[])), AV.v
    (Value.string (ByteArray.mk #[])), AV.v (Value.int IntKind.i64 (0 : Int)), AV.v (Value.int IntKind.i64 (0 : Int))]) [some (Blk.row [AV.hs (1 : Nat) (O6 t off e) (ByteArray.size t - O6 t
    off e), AV.v (Value.int IntKind.i64 (E6 t off e))]), some (Blk.arr (1 : Nat) (ByteArray.size t) (bsF t))])) (Tree.leaf (Ans.mk (AV.agg [AV.v (Value.int IntKind.i64 (qN t off e)), AV.v
    (Value.string (xS t (O2 t off e) (E2 t off e))), AV.v (Value.string (ByteArray.mk #[])), AV.v (Value.string (xS t (O3 t off e) (E3 t off e))), AV.v (Value.string (xS t (O4 t off e) (E4 t
    off e))), AV.v (Value.int IntKind.i64 (0 : Int)), AV.v (Value.int IntKind.i64 (qN t (qO t off e) (qE t off e)))]) [some (Blk.row [AV.hs (1 : Nat) (O6 t off e) (ByteArray.size t - O6 t
    off e), AV.v (Value.int IntKind.i64 (E6 t off e))]), some (Blk.arr (1 : Nat) (ByteArray.size t) (bsF t))]))))))))))) (Tree.chk (cl (RX.ok t (RX.mk (qO t off e) (ByteArray.size t - qO t
    off e) (qE t off e) (ByteArray.size t) (bsF t)))) (Tree.leaf (Ans.mk (AV.agg [AV.v (Value.int IntKind.i64 (0 : Int)), AV.v (Value.string (ByteArray.mk #[])), AV.v (Value.string
    (ByteArray.mk #[])), AV.v (Value.string (ByteArray.mk #[])), AV.v (Value.string (ByteArray.mk #[])), AV.v (Value.int IntKind.i64 (0 : Int)), AV.v (Value.int IntKind.i64 (0 : Int))])
    [some (Blk.row [AV.hs (1 : Nat) (fO (ByteArray.size t) (qO t off e) (qE t off e) (80 : Int)) (ByteArray.size t - fO (ByteArray.size t) (qO t off e) (qE t off e) (80 : Int)), AV.v
    (Value.int IntKind.i64 (fE (qE t off e) (80 : Int)))]), some (Blk.arr (1 : Nat) (ByteArray.size t) (bsF t))])))) (Tree.br (decide (qN t off e = (2 : Int))) (Tree.chk (cl (RX.ok t (RX.mk
    (qO t off e) (ByteArray.size t - qO t off e) (qE t off e) (ByteArray.size t) (bsF t)))) (Tree.chk (cl (RX.ok t (RX.mk (O2 t off e) (ByteArray.size t - O2 t off e) (E2 t off e)
    (ByteArray.size t) (bsF t)) ∧ okS t (O2 t off e) (E2 t off e))) (Tree.br (decide (qN t off e = (1 : Int))) (Tree.chk (cl (RX.ok t (RX.mk (O3 t off e) (ByteArray.size t - O3 t off e) (E3
    t off e) (ByteArray.size t) (bsF t)) ∧ okS t (O3 t off e) (E3 t off e))) (Tree.chk (cl (RX.ok t (RX.mk (O4 t off e) (ByteArray.size t - O4 t off e) (E4 t off e) (ByteArray.size t) (bsF
    t)))) (Tree.chk (cl (smallT (Tx.mk (qN t off e) (xS t (O2 t off e) (E2 t off e)) (xS t (O3 t off e) (E3 t off e)) (ByteArray.mk #[]) (ByteArray.mk #[]) (qN t (O4 t off e) (E4 t off e))
    (qN t (qO t off e) (qE t off e))))) (Tree.br (!decide (erT (txB (Tx.mk (qN t off e) (xS t (O2 t off e) (E2 t off e)) (xS t (O3 t off e) (E3 t off e)) (ByteArray.mk #[]) (ByteArray.mk
    #[]) (qN t (O4 t off e) (E4 t off e)) (qN t (qO t off e) (qE t off e)))) = (0 : Int))) (Tree.chk (cl (RX.ok t (RX.mk (O5 t off e) (ByteArray.size t - O5 t off e) (E5 t off e)
    (ByteArray.size t) (bsF t)))) (Tree.chk (cl (RX.ok t (RX.mk (fO (ByteArray.size t) (O5 t off e) (E5 t off e) (80 : Int)) (ByteArray.size t - fO (ByteArray.size t) (O5 t off e) (E5 t off
    e) (80 : Int)) (fE (E5 t off e) (80 : Int)) (ByteArray.size t) (bsF t)))) (Tree.br (bif !decide (dE t (fO (ByteArray.size t) (O5 t off e) (E5 t off e) (80 : Int)) (fE (E5 t off e) (80 :
    Int)) = (0 : Int)) then !decide (dE t (fO (ByteArray.size t) (O5 t off e) (E5 t off e) (80 : Int)) (fE (E5 t off e) (80 : Int)) = (32 : Int)) else false) (Tree.leaf (Ans.mk (AV.agg [AV.v
    (Value.int IntKind.i64 (0 : Int)), AV.v (Value.string (ByteArray.mk #[])), AV.v (Value.string (ByteArray.mk #[])), AV.v (Value.string (ByteArray.mk #[])), AV.v (Value.string
    (ByteArray.mk #[])), AV.v (Value.int IntKind.i64 (0 : Int)), AV.v (Value.int IntKind.i64 (0 : Int))]) [some (Blk.row [AV.hs (1 : Nat) (fO (ByteArray.size t) (O5 t off e) (E5 t off e) (80
    : Int)) (ByteArray.size t - fO (ByteArray.size t) (O5 t off e) (E5 t off e) (80 : Int)), AV.v (Value.int IntKind.i64 (fE (E5 t off e) (80 : Int)))]), some (Blk.arr (1 : Nat)
    (ByteArray.size t) (bsF t))])) (Tree.leaf (Ans.mk (AV.agg [AV.v (Value.int IntKind.i64 (qN t off e)), AV.v (Value.string (xS t (O2 t off e) (E2 t off e))), AV.v (Value.string (xS t (O3 t
    off e) (E3 t off e))), AV.v (Value.string (ByteArray.mk #[])), AV.v (Value.string (ByteArray.mk #[])), AV.v (Value.int IntKind.i64 (qN t (O4 t off e) (E4 t off e))), AV.v (Value.int
    IntKind.i64 (qN t (qO t off e) (qE t off e)))]) [some (Blk.row [AV.hs (1 : Nat) (fO (ByteArray.size t) (O5 t off e) (E5 t off e) (80 : Int)) (ByteArray.size t - fO (ByteArray.size t) (O5
    t off e) (E5 t off e) (80 : Int)), AV.v (Value.int IntKind.i64 (fE (E5 t off e) (80 : Int)))]), some (Blk.arr (1 : Nat) (ByteArray.size t) (bsF t))]))))) (Tree.chk (cl (RX.ok t (RX.mk
    (O5 t off e) (ByteArray.size t - O5 t off e) (E5 t off e) (ByteArray.size t) (bsF t)))) (Tree.br (bif !decide (dE t (O5 t off e) (E5 t off e) = (0 : Int)) then !decide (dE t (O5 t off e)
    (E5 t off e) = (32 : Int)) else false) (Tree.leaf (Ans.mk (AV.agg [AV.v (Value.int IntKind.i64 (0 : Int)), AV.v (Value.string (ByteArray.mk #[])), AV.v (Value.string (ByteArray.mk #[])),
    AV.v (Value.string (ByteArray.mk #[])), AV.v (Value.string (ByteArray.mk #[])), AV.v (Value.int IntKind.i64 (0 : Int)), AV.v (Value.int IntKind.i64 (0 : Int))]) [some (Blk.row [AV.hs (1
    : Nat) (O5 t off e) (ByteArray.size t - O5 t off e), AV.v (Value.int IntKind.i64 (E5 t off e))]), some (Blk.arr (1 : Nat) (ByteArray.size t) (bsF t))])) (Tree.leaf (Ans.mk (AV.agg [AV.v
    (Value.int IntKind.i64 (qN t off e)), AV.v (Value.string (xS t (O2 t off e) (E2 t off e))), AV.v (Value.string (xS t (O3 t off e) (E3 t off e))), AV.v (Value.string (ByteArray.mk #[])),
    AV.v (Value.string (ByteArray.mk #[])), AV.v (Value.int IntKind.i64 (qN t (O4 t off e) (E4 t off e))), AV.v (Value.int IntKind.i64 (qN t (qO t off e) (qE t off e)))]) [some (Blk.row
    [AV.hs (1 : Nat) (O5 t off e) (ByteArray.size t - O5 t off e), AV.v (Value.int IntKind.i64 (E5 t off e))]), some (Blk.arr (1 : Nat) (ByteArray.size t) (bsF t))])))))))) (Tree.chk (cl
    (RX.ok t (RX.mk (O3 t off e) (ByteArray.size t - O3 t off e) (E3 t off e) (ByteArray.size t) (bsF t)) ∧ okS t (O3 t off e) (E3 t off e))) (Tree.chk (cl (RX.ok t (RX.mk (O4 t off e)
    (ByteArray.size t - O4 t off e) (E4 t off e) (ByteArray.size t) (bsF t)) ∧ okS t (O4 t off e) (E4 t off e))) (Tree.chk (cl (smallT (Tx.mk (qN t off e) (xS t (O2 t off e) (E2 t off e))
    (ByteArray.mk #[]) (xS t (O3 t off e) (E3 t off e)) (xS t (O4 t off e) (E4 t off e)) (0 : Int) (qN t (qO t off e) (qE t off e))))) (Tree.br (!decide (erT (txB (Tx.mk (qN t off e) (xS t
    (O2 t off e) (E2 t off e)) (ByteArray.mk #[]) (xS t (O3 t off e) (E3 t off e)) (xS t (O4 t off e) (E4 t off e)) (0 : Int) (qN t (qO t off e) (qE t off e)))) = (0 : Int))) (Tree.chk (cl
    (RX.ok t (RX.mk (O6 t off e) (ByteArray.size t - O6 t off e) (E6 t off e) (ByteArray.size t) (bsF t)))) (Tree.chk (cl (RX.ok t (RX.mk (fO (ByteArray.size t) (O6 t off e) (E6 t off e) (80
    : Int)) (ByteArray.size t - fO (ByteArray.size t) (O6 t off e) (E6 t off e) (80 : Int)) (fE (E6 t off e) (80 : Int)) (ByteArray.size t) (bsF t)))) (Tree.br (bif !decide (dE t (fO
    (ByteArray.size t) (O6 t off e) (E6 t off e) (80 : Int)) (fE (E6 t off e) (80 : Int)) = (0 : Int)) then !decide (dE t (fO (ByteArray.size t) (O6 t off e) (E6 t off e) (80 : Int)) (fE (E6
    t off e) (80 : Int)) = (32 : Int)) else false) (Tree.leaf (Ans.mk (AV.agg [AV.v (Value.int IntKind.i64 (0 : Int)), AV.v (Value.string (ByteArray.mk #[])), AV.v (Value.string
    (ByteArray.mk #[])), AV.v (Value.string (ByteArray.mk #[])), AV.v (Value.string (ByteArray.mk #[])), AV.v (Value.int IntKind.i64 (0 : Int)), AV.v (Value.int IntKind.i64 (0 : Int))])
    [some (Blk.row [AV.hs (1 : Nat) (fO (ByteArray.size t) (O6 t off e) (E6 t off e) (80 : Int)) (ByteArray.size t - fO (ByteArray.size t) (O6 t off e) (E6 t off e) (80 : Int)), AV.v
    (Value.int IntKind.i64 (fE (E6 t off e) (80 : Int)))]), some (Blk.arr (1 : Nat) (ByteArray.size t) (bsF t))])) (Tree.leaf (Ans.mk (AV.agg [AV.v (Value.int IntKind.i64 (qN t off e)), AV.v
    (Value.string (xS t (O2 t off e) (E2 t off e))), AV.v (Value.string (ByteArray.mk #[])), AV.v (Value.string (xS t (O3 t off e) (E3 t off e))), AV.v (Value.string (xS t (O4 t off e) (E4 t
    off e))), AV.v (Value.int IntKind.i64 (0 : Int)), AV.v (Value.int IntKind.i64 (qN t (qO t off e) (qE t off e)))]) [some (Blk.row [AV.hs (1 : Nat) (fO (ByteArray.size t) (O6 t off e) (E6
    t off e) (80 : Int)) (ByteArray.size t - fO (ByteArray.size t) (O6 t off e) (E6 t off e) (80 : Int)), AV.v (Value.int IntKind.i64 (fE (E6 t off e) (80 : Int)))]), some (Blk.arr (1 : Nat)
    (ByteArray.size t) (bsF t))]))))) (Tree.chk (cl (RX.ok t (RX.mk (O6 t off e) (ByteArray.size t - O6 t off e) (E6 t off e) (ByteArray.size t) (bsF t)))) (Tree.br (bif !decide (dE t (O6 t
    off e) (E6 t off e) = (0 : Int)) then !decide (dE t (O6 t off e) (E6 t off e) = (32 : Int)) else false) (Tree.leaf (Ans.mk (AV.agg [AV.v (Value.int IntKind.i64 (0 : Int)), AV.v
    (Value.string (ByteArray.mk #[])), AV.v (Value.string (ByteArray.mk #[])), AV.v (Value.string (ByteArray.mk #[])), AV.v (Value.string (ByteArray.mk #[])), AV.v (Value.int IntKind.i64 (0
    : Int)), AV.v (Value.int IntKind.i64 (0 : Int))]) [some (Blk.row [AV.hs (1 : Nat) (O6 t off e) (ByteArray.size t - O6 t off e), AV.v (Value.int IntKind.i64 (E6 t off e))]), some (Blk.arr
    (1 : Nat) (ByteArray.size t) (bsF t))])) (Tree.leaf (Ans.mk (AV.agg [AV.v (Value.int IntKind.i64 (qN t off e)), AV.v (Value.string (xS t (O2 t off e) (E2 t off e))), AV.v (Value.string
    (ByteArray.mk #[])), AV.v (Value.string (xS t (O3 t off e) (E3 t off e))), AV.v (Value.string (xS t (O4 t off e) (E4 t off e))), AV.v (Value.int IntKind.i64 (0 : Int)), AV.v (Value.int
    IntKind.i64 (qN t (qO t off e) (qE t off e)))]) [some (Blk.row [AV.hs (1 : Nat) (O6 t off e) (ByteArray.size t - O6 t off e), AV.v (Value.int IntKind.i64 (E6 t off e))]), some (Blk.arr
    (1 : Nat) (ByteArray.size t) (bsF t))]))))))))))) (Tree.chk (cl (RX.ok t (RX.mk (qO t off e) (ByteArray.size t - qO t off e) (qE t off e) (ByteArray.size t) (bsF t)))) (Tree.leaf (Ans.mk
    (AV.agg [AV.v (Value.int IntKind.i64 (0 : Int)), AV.v (Value.string (ByteArray.mk #[])), AV.v (Value.string (ByteArray.mk #[])), AV.v (Value.string (ByteArray.mk #[])), AV.v
    (Value.string (ByteArray.mk #[])), AV.v (Value.int IntKind.i64 (0 : Int)), AV.v (Value.int IntKind.i64 (0 : Int))]) [some (Blk.row [AV.hs (1 : Nat) (fO (ByteArray.size t) (qO t off e)
    (qE t off e) (80 : Int)) (ByteArray.size t - fO (ByteArray.size t) (qO t off e) (qE t off e) (80 : Int)), AV.v (Value.int IntKind.i64 (fE (qE t off e) (80 : Int)))]), some (Blk.arr (1 :
    Nat) (ByteArray.size t) (bsF t))]))))) := by kernel_rfl
end Go.Eng.TA.R 
