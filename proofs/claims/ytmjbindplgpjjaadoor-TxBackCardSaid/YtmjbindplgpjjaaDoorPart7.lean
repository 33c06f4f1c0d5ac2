/- TxBack holds at every input: the tables unicode/utf8.first and unicode/utf8.acceptRanges as the program lays them (tied). -/
import Derived.Test.YtmjbindplgpjjaaDoorPart6
import Derived.Test.YtmjbindplgpjjaaDoorRows
import Derived.Test.YtmjbindplgpjjaaDoorTie
import Derived.Test.YtmjbindplgpjjaaDoorCards
import Derived.ProofKit
import Derived.LaidMore
import Derived.OpenShut
import Derived.Stop.Joined
import Derived.SevenTiedAt
import Derived.Lib.LaidU8T
import Derived.Lay
set_option linter.unnecessarySimpa false
set_option linter.unusedSectionVars false
set_option linter.unusedSimpArgs false
set_option linter.unusedVariables false
namespace Go.Eng.TA.R
open Go Go.Eng Go.Eng.M Go.Eng.RD Go.Lib Go.Proofs
def okT (t : ByteArray) (off : Nat) (e : Int) : Prop := okS t off e ∧ ¬ e = 32
theorem q_okT {t : ByteArray} {off : Nat} {e : Int} (h : okT t off e) : okT t (qO t off e) (qE t off e) := by
  refine ⟨q_okS h.1, ?_⟩
  by_cases he : e = 0
  · subst he
    rcases classify t off (t.size - off) with ⟨k, hk⟩ | hc | ⟨k, hk⟩
    · rw [(q_good hk).2.2]; decide
    · rw [(q_cut hc).2.2]; decide
    · rw [(q_no hk).2.2]; decide
  · rw [qE_bad he]; exact h.2
theorem fE_32 {e x : Int} (h : ¬ e = 32) (hx : ¬ x = 32) : ¬ fE e x = 32 := by
  unfold fE
  by_cases hc : e = 0 ∧ ¬ x = 0
  · rw [if_pos hc]; exact hx
  · rw [if_neg hc]; exact h
theorem f_okT {t : ByteArray} {off : Nat} {e x : Int} (h : okT t off e) (hx : ¬ x = 0) (hx2 : ¬ x = 32) : okT t (fO t.size off e x) (fE e x) := ⟨fO_ok h.1 hx, fE_32 h.2 hx2⟩
theorem m_okT {t : ByteArray} {off : Nat} {e m : Int} (h : okT t off e) : okT t (mO t off e m) (mE t off e m) := by
  refine ⟨m_ok h.1, ?_⟩
  unfold mE
  by_cases hm : m < qN t off e
  · rw [if_pos hm]; exact fE_32 (q_okT h).2 (by decide)
  · rw [if_neg hm]; exact (q_okT h).2
theorem x_okT {t : ByteArray} {off : Nat} {e : Int} (h : okT t off e) : okT t (xO t off e) (xE t off e) := by
  refine ⟨x_ok h.1, ?_⟩
  have hm : okT t (oT t off e) (eT t off e) := m_okT h
  unfold xE
  by_cases hl : t.size - oT t off e < lT t off e
  · rw [if_pos hl]; exact fE_32 hm.2 (by decide)
  · rw [if_neg hl]; exact hm.2
theorem xS_small {t : ByteArray} {off : Nat} {e : Int} (h : okT t off e) : (xS t off e).size ≤ 10000000 := by
  have hl : lT t off e ≤ 65536 := by
    have := (m_range (t := t) (off := off) (e := e) (m := 65536) (by decide)).2
    unfold lT; omega
  have hm := (m_ok (m := 65536) h.1).1
  have hm : oT t off e ≤ t.size := hm
  unfold xS
  by_cases hc : t.size - oT t off e < lT t off e
  · rw [if_pos hc]; exact Nat.zero_le _
  · rw [if_neg hc, ext_size _ _ _ (by omega)]; omega
theorem rx_ok {t : ByteArray} {o : Nat} {e : Int} : RX.ok t (RX.mk o (t.size - o) e t.size (bsF t)) = True := eq_true ⟨rfl, rfl, rfl⟩
theorem d_eq {t : ByteArray} {o : Nat} {e : Int} (h : okT t o e) : (¬ dE t o e = 0 ∧ ¬ dE t o e = 32) ↔ ¬ e = 0 := by
  unfold dE
  by_cases hc : e = 0 ∧ o < t.size
  · rw [if_pos hc]; simp [hc.1]
  · rw [if_neg hc]
    have := h.2
    omega
end Go.Eng.TA.R

namespace Go.Eng.TA
open Go Go.Eng Go.Proofs
noncomputable def z25 : CT Tryd.prog Γm := CT.auto true 100 3 [] 109 Tryd.f109 (bodyOf Tryd.f109) false 21 [.tmp 4] Tryd.func109 (by kernel_rfl) (by kernel_rfl) (by kernel_rfl) (by kernel_rfl)
noncomputable def z26 : CT Tryd.prog Γm := CT.auto true 100 3 [z25] 112 Tryd.f112 (bodyOf Tryd.f112) false 16 [.tmp 2] Tryd.func112 (by kernel_rfl) (by kernel_rfl) (by kernel_rfl) (by kernel_rfl)
noncomputable def z12 : CT Tryd.prog Γm := CT.auto true 100 3 [z26] 77 Tryd.f77 (bodyOf Tryd.f77) false 8 [.tmp 2] Tryd.func77 (by kernel_rfl) (by kernel_rfl) (by kernel_rfl) (by kernel_rfl)
noncomputable def z10 : CT Tryd.prog Γm := CT.auto true 100 3 [z25] 73 Tryd.f73 (bodyOf Tryd.f73) false 19 [.tmp 2] Tryd.func73 (by kernel_rfl) (by kernel_rfl) (by kernel_rfl) (by kernel_rfl)
noncomputable def z28 : CT Tryd.prog Γm := CT.auto true 100 3 [] 75 Tryd.f75 (bodyOf Tryd.f75) false 20 [.tmp 6] Tryd.func75 (by kernel_rfl) (by kernel_rfl) (by kernel_rfl) (by kernel_rfl)
noncomputable def z34 : CT Tryd.prog Γm := CT.auto true 100 3 [] 111 Tryd.f111 (bodyOf Tryd.f111) false 78 [.tmp 4] Tryd.func111 (by kernel_rfl) (by kernel_rfl) (by kernel_rfl) (by kernel_rfl)
noncomputable def z29 : CT Tryd.prog Γm := CT.auto true 100 3 [z34] 76 Tryd.f76 (bodyOf Tryd.f76) false 16 [.tmp 4] Tryd.func76 (by kernel_rfl) (by kernel_rfl) (by kernel_rfl) (by kernel_rfl)
noncomputable def z17 : CT Tryd.prog Γm := CT.auto true 100 3 [z10] 20 Tryd.f20 (bodyOf Tryd.f20) false 41 [.tmp 2] Tryd.func20 (by kernel_rfl) (by kernel_rfl) (by kernel_rfl) (by kernel_rfl)
noncomputable def z21 : CT Tryd.prog Γm := CT.auto true 100 3 [z28, z29, z12, z17] 24 Tryd.f24 (bodyOf Tryd.f24) false 30 [.tmp 2, .tmp 3] Tryd.func24 (by kernel_rfl) (by kernel_rfl) (by kernel_rfl) (by kernel_rfl)
noncomputable def z14 : CT Tryd.prog Γm := CT.auto true 100 3 [] 17 Tryd.f17 (bodyOf Tryd.f17) false 25 [.tmp 4, .tmp 5] Tryd.func17 (by kernel_rfl) (by kernel_rfl) (by kernel_rfl) (by kernel_rfl)
theorem run8 : (bodyE (P := Tryd.prog) (Γ := Γm) [z21, z14, z17] (autoL true 100 [z21, z14, z17] false 0 35 (loopBodies (bodyOf Tryd.f15)) 3) false 35 [.tmp 0] (bodyOf Tryd.f15) [] []).get = some ⟨.sb true, []⟩ := by kernel_rfl
noncomputable def z8 : CT Tryd.prog Γm := CT.fact 15 Tryd.f15 (bodyOf Tryd.f15) [z21, z14, z17] (autoL true 100 [z21, z14, z17] false 0 35 (loopBodies (bodyOf Tryd.f15)) 3) false 35 [.tmp 0] Tryd.func15 (by kernel_rfl) (by kernel_rfl) (by kernel_rfl) (by kernel_rfl) (autoL_ok 3) (.sb true) (.sb true) run8
end Go.Eng.TA

namespace Go.Eng.TA
open Go Go.Eng Go.Proofs
noncomputable def z90x : CT Tryd.prog Γm := CT.auto true 100 3 [] 90 Tryd.f90 (bodyOf Tryd.f90) false 35 [.tmp 4, .tmp 5, .tmp 6] Tryd.func90 (by kernel_rfl) (by kernel_rfl) (by kernel_rfl) (by kernel_rfl)
noncomputable def z113x : CT Tryd.prog Γm := CT.auto true 100 3 [] 113 Tryd.f113 (bodyOf Tryd.f113) false 54 [.tmp 2, .tmp 3, .tmp 4] Tryd.func113 (by kernel_rfl) (by kernel_rfl) (by kernel_rfl) (by kernel_rfl)
noncomputable def z85x : CT Tryd.prog Γm := CT.auto true 100 3 [] 85 Tryd.f85 (bodyOf Tryd.f85) false 15 [.tmp 6] Tryd.func85 (by kernel_rfl) (by kernel_rfl) (by kernel_rfl) (by kernel_rfl)
noncomputable def z91x : CT Tryd.prog Γm := CT.auto true 100 3 [z113x, z85x] 91 Tryd.f91 (bodyOf Tryd.f91) false 59 [.tmp 6, .tmp 7] Tryd.func91 (by kernel_rfl) (by kernel_rfl) (by kernel_rfl) (by kernel_rfl)
noncomputable def z120x : CT Tryd.prog Γm := CT.auto true 100 3 [] 120 Tryd.f120 (bodyOf Tryd.f120) false 117 [.tmp 2, .tmp 3] Tryd.func120 (by kernel_rfl) (by kernel_rfl) (by kernel_rfl) (by kernel_rfl)
noncomputable def z110x : CT Tryd.prog Γm := CT.auto true 100 3 [z120x] 110 Tryd.f110 (bodyOf Tryd.f110) false 19 [.tmp 2, .tmp 3] Tryd.func110 (by kernel_rfl) (by kernel_rfl) (by kernel_rfl) (by kernel_rfl)
noncomputable def z22x : CT Tryd.prog Γm := CT.auto true 100 3 [z28] 22 Tryd.f22 (bodyOf Tryd.f22) false 28 [.tmp 2] Tryd.func22 (by kernel_rfl) (by kernel_rfl) (by kernel_rfl) (by kernel_rfl)
noncomputable def z32x : CT Tryd.prog Γm := CT.auto true 100 3 [z17, z85x, z22x] 32 Tryd.f32 (bodyOf Tryd.f32) false 66 [.tmp 2] Tryd.func32 (by kernel_rfl) (by kernel_rfl) (by kernel_rfl) (by kernel_rfl)
noncomputable def z36x : CT Tryd.prog Γm := CT.auto true 100 3 [z90x, z91x, z32x] 36 Tryd.f36 (bodyOf Tryd.f36) false 112 [.cell 2 40, .tmp 3] Tryd.func36 (by kernel_rfl) (by kernel_rfl) (by kernel_rfl) (by kernel_rfl)
noncomputable def z84x : CT Tryd.prog Γm := CT.auto true 100 3 [] 84 Tryd.f84 (bodyOf Tryd.f84) false 35 [.tmp 2] Tryd.func84 (by kernel_rfl) (by kernel_rfl) (by kernel_rfl) (by kernel_rfl)
noncomputable def z31x : CT Tryd.prog Γm := CT.auto true 100 3 [z32x, z84x] 31 Tryd.f31 (bodyOf Tryd.f31) false 42 [.tmp 2, .tmp 3] Tryd.func31 (by kernel_rfl) (by kernel_rfl) (by kernel_rfl) (by kernel_rfl)
noncomputable def z94x : CT Tryd.prog Γm := CT.auto true 100 3 [] 94 Tryd.f94 (bodyOf Tryd.f94) false 8 [.tmp 2] Tryd.func94 (by kernel_rfl) (by kernel_rfl) (by kernel_rfl) (by kernel_rfl)
noncomputable def z83x : CT Tryd.prog Γm := CT.auto true 100 3 [z94x] 83 Tryd.f83 (bodyOf Tryd.f83) false 30 [.tmp 4, .tmp 5] Tryd.func83 (by kernel_rfl) (by kernel_rfl) (by kernel_rfl) (by kernel_rfl)
noncomputable def z81x : CT Tryd.prog Γm := CT.auto true 100 3 [z83x] 81 Tryd.f81 (bodyOf Tryd.f81) false 25 [.tmp 2, .tmp 3] Tryd.func81 (by kernel_rfl) (by kernel_rfl) (by kernel_rfl) (by kernel_rfl)
noncomputable def z82x : CT Tryd.prog Γm := CT.auto true 100 3 [z83x] 82 Tryd.f82 (bodyOf Tryd.f82) false 22 [.tmp 4, .tmp 5] Tryd.func82 (by kernel_rfl) (by kernel_rfl) (by kernel_rfl) (by kernel_rfl)
noncomputable def z30x : CT Tryd.prog Γm := CT.auto true 100 3 [z32x, z81x, z82x, z83x] 30 Tryd.f30 (bodyOf Tryd.f30) false 57 [.tmp 2, .tmp 3] Tryd.func30 (by kernel_rfl) (by kernel_rfl) (by kernel_rfl) (by kernel_rfl)
theorem zrun28 : (bodyE (P := Tryd.prog) (Γ := Γm) [z36x, z31x, z30x] (autoL true 100 [z36x, z31x, z30x] false 0 40 (loopBodies (bodyOf Tryd.f28)) 3) false 40 [.tmp 0] (bodyOf Tryd.f28) [] []).get = some ⟨.sb true, []⟩ := by kernel_rfl
noncomputable def z28' : CT Tryd.prog Γm := CT.fact 28 Tryd.f28 (bodyOf Tryd.f28) [z36x, z31x, z30x] (autoL true 100 [z36x, z31x, z30x] false 0 40 (loopBodies (bodyOf Tryd.f28)) 3) false 40 [.tmp 0] Tryd.func28 (by kernel_rfl) (by kernel_rfl) (by kernel_rfl) (by kernel_rfl) (autoL_ok 3) (.sb true) (.sb true) zrun28
end Go.Eng.TA

namespace Go.Eng.TA.R
open Go Go.Eng Go.Eng.M Go.Eng.RD Go.Lib Go.Proofs
theorem okS0 {t w : ByteArray} {o : Nat} (h : At t o w) : okS t o 0 := ⟨by have := h.1; omega, .inl rfl⟩
theorem take_known {t : ByteArray} (hz : t.size ≤ 1000000000000) {x : Tx} (hb : txB x = true) (hg : grT x = false) (h : At t 0 (byS x)) : Answers Tryd.prog Γm 39 [.ptr 0 0] (rdb t 0 0) (txV x) ((rdb t (byS x).size 0).map some) [] := by
  obtain ⟨f1, f2, f3⟩ := txB_facts hb
  obtain ⟨g1, g2, g3, g4⟩ := gr_sizes hg
  have hs : smallT x := ⟨by omega, by omega, by omega, by omega⟩
  have R1 := runTake t hz 0 0
  simp only [O6, E6, O5, E5, O4, E4, O3, E3, O2, E2, rx_ok, true_and] at R1
  have et : erT true = 0 := rfl
  have hT : okT t (byS x).size 0 := ⟨⟨by have := h.1; omega, .inl rfl⟩, by decide⟩
  have hd : ¬ (¬ dE t (byS x).size 0 = 0 ∧ ¬ dE t (byS x).size 0 = 32) := fun h => (d_eq hT).1 h rfl
  rcases f3 with ⟨hk, a1, a2⟩ | hk
  · have e : byS x = numB 1 ++ (numB x.nn.toNat ++ ((numB x.fr.size ++ x.fr) ++ ((numB x.to.size ++ x.to) ++ numB x.am.toNat))) := by
      unfold byS tS
      rw [if_pos hk, hk]
      simp only [ByteArray.append_assoc]; rfl
    have hx : Tx.mk 1 x.fr x.to ⟨#[]⟩ ⟨#[]⟩ x.am x.nn = x := by
      have hq := hb
      unfold txB at hq
      rw [if_pos hk] at hq
      unfold okM emp at hq
      simp only [Bool.and_eq_true, decide_eq_true_eq] at hq
      obtain ⟨k, fr, to, ky, vl, am, nn⟩ := x
      simp only at hk hq
      rw [hk, hq.2.2.2.1, hq.2.2.2.2]
    have hc1 : (x.nn.toNat : Int) = x.nn := by omega
    have hc2 : (x.am.toNat : Int) = x.am := by omega
    rw [e] at h
    obtain ⟨q1, q2, q3⟩ := h.left.num (by decide)
    have h := h.right
    obtain ⟨r1, r2, r3⟩ := h.left.num (by omega)
    have h := h.right
    have p2 := okS0 h
    obtain ⟨s1, s2, s3⟩ := h.left.text (by omega)
    have h := h.right
    have p3 := okS0 h
    obtain ⟨u1, u2, u3⟩ := h.left.text (by omega)
    have h := h.right
    obtain ⟨v1, v2, v3⟩ := h.num (by omega)
    have ez : (byS x).size = 0 + (numB 1).size + (numB x.nn.toNat).size + (numB x.fr.size ++ x.fr).size + (numB x.to.size ++ x.to).size + (numB x.am.toNat).size := by
      rw [e]; simp only [ByteArray.size_append]; omega
    rw [hc1] at r1
    rw [hc2] at v1
    rw [← ez] at v2
    clear h e ez hc1 hc2
    simp only [q1, q2, q3, r1, r2, r3, s1, s2, s3] at R1
    simp only [u1, u2, u3] at R1
    simp only [v1, v2, v3] at R1
    have k1 : ((1 : Nat) : Int) = 1 := rfl
    simp only [k1, hx] at R1
    generalize (numB 1).size = w0 at *
    generalize (numB x.nn.toNat).size = w1 at *
    generalize (numB x.fr.size ++ x.fr).size = w2 at *
    generalize (numB x.to.size ++ x.to).size = w3 at *
    generalize (byS x).size = w4 at *
    simp only [Nat.zero_add] at R1 p2 p3
    refine answers (fn := Tryd.f39) (c := bodyOf Tryd.f39) (ntmps := 52) (results := [.cell 2 40]) [hRn t hz, hTt t hz, hFl t, hDn t, hTx] (Lno) false Tryd.func39 (by kernel_rfl) (by kernel_rfl) (by kernel_rfl) (by kernel_rfl) (by simp) rfl (failOK fun _ _ _ => rfl) <| Meets.of (R1) <| ?_
    have hv : txV x = .agg [.v (.int .i64 1), .v (.string x.fr), .v (.string x.to), .v (.string ⟨#[]⟩), .v (.string ⟨#[]⟩), .v (.int .i64 x.am), .v (.int .i64 x.nn)] := congrArg txV hx.symm
    rw [hv]
    repeat' (first | refine wC (by first | omega | (simp only [W1, cond_true, cond_false, p2, p3, hs, hb, et]; first | done | omega)) ?_ | refine wT (by first | omega | (simp only [W1, cond_true, cond_false, p2, p3, hs, hb, et]; first | done | omega)) ?_ | refine wF (by intro _h; first | omega | (simp only [W1, cond_true, cond_false, p2, p3, hs, hb, et] at _h; first | done | omega)) ?_ | (refine wS ?_ ?_ <;> intro _h <;> simp only [W1, cond_true, cond_false, p2, p3, hs, hb, et] at _h))
    all_goals simp only [W1, W2, owesN, owesX, owesR, cond_true, cond_false, p2, p3, hs, hb, et]
    repeat' (first | apply And.intro | intro _hc)
    all_goals first | exact AV.le_refl _ | exact AV.le_any _ | exact OLe.refl _ | exact OLe.none _ | exact LeH.refl _ | exact LeL.refl _ | exact AV.le.bs _ | exact AV.le.sb _ | omega | contradiction
  · have hk1 : ¬ x.k = 1 := by omega
    have e : byS x = numB 2 ++ (numB x.nn.toNat ++ ((numB x.fr.size ++ x.fr) ++ ((numB x.ky.size ++ x.ky) ++ (numB x.vl.size ++ x.vl)))) := by
      unfold byS tS
      rw [if_neg hk1, hk]
      simp only [ByteArray.append_assoc]; rfl
    have hx : Tx.mk 2 x.fr ⟨#[]⟩ x.ky x.vl 0 x.nn = x := by
      have hq := hb
      unfold txB at hq
      rw [if_neg hk1, if_pos hk] at hq
      unfold okP emp at hq
      simp only [Bool.and_eq_true, decide_eq_true_eq] at hq
      obtain ⟨k, fr, to, ky, vl, am, nn⟩ := x
      simp only at hk hq
      rw [hk, hq.2.2.2.1, hq.2.2.2.2]
    have hc1 : (x.nn.toNat : Int) = x.nn := by omega
    rw [e] at h
    obtain ⟨q1, q2, q3⟩ := h.left.num (by decide)
    have h := h.right
    obtain ⟨r1, r2, r3⟩ := h.left.num (by omega)
    have h := h.right
    have p2 := okS0 h
    obtain ⟨s1, s2, s3⟩ := h.left.text (by omega)
    have h := h.right
    have p3 := okS0 h
    obtain ⟨u1, u2, u3⟩ := h.left.text (by omega)
    have h := h.right
    obtain ⟨v1, v2, v3⟩ := h.text (by omega)
    have p4 := okS0 h
    have ez : (byS x).size = 0 + (numB 2).size + (numB x.nn.toNat).size + (numB x.fr.size ++ x.fr).size + (numB x.ky.size ++ x.ky).size + (numB x.vl.size ++ x.vl).size := by
      rw [e]; simp only [ByteArray.size_append]; omega
    rw [hc1] at r1
    rw [← ez] at v2
    clear h e ez hc1
    simp only [q1, q2, q3, r1, r2, r3, s1, s2, s3] at R1
    simp only [u1, u2, u3] at R1
    simp only [v1, v2, v3] at R1
    have k1 : ((2 : Nat) : Int) = 2 := rfl
    simp only [k1, hx] at R1
    generalize (numB 2).size = w0 at *
    generalize (numB x.nn.toNat).size = w1 at *
    generalize (numB x.fr.size ++ x.fr).size = w2 at *
    generalize (numB x.ky.size ++ x.ky).size = w3 at *
    generalize (byS x).size = w4 at *
    simp only [Nat.zero_add] at R1 p2 p3 p4
    refine answers (fn := Tryd.f39) (c := bodyOf Tryd.f39) (ntmps := 52) (results := [.cell 2 40]) [hRn t hz, hTt t hz, hFl t, hDn t, hTx] (Lno) false Tryd.func39 (by kernel_rfl) (by kernel_rfl) (by kernel_rfl) (by kernel_rfl) (by simp) rfl (failOK fun _ _ _ => rfl) <| Meets.of (R1) <| ?_
    have hv : txV x = .agg [.v (.int .i64 2), .v (.string x.fr), .v (.string ⟨#[]⟩), .v (.string x.ky), .v (.string x.vl), .v (.int .i64 0), .v (.int .i64 x.nn)] := congrArg txV hx.symm
    rw [hv]
    repeat' (first | refine wC (by first | omega | (simp only [W1, cond_true, cond_false, p2, p3, p4, hs, hb, et]; first | done | omega)) ?_ | refine wT (by first | omega | (simp only [W1, cond_true, cond_false, p2, p3, p4, hs, hb, et]; first | done | omega)) ?_ | refine wF (by intro _h; first | omega | (simp only [W1, cond_true, cond_false, p2, p3, p4, hs, hb, et] at _h; first | done | omega)) ?_ | (refine wS ?_ ?_ <;> intro _h <;> simp only [W1, cond_true, cond_false, p2, p3, p4, hs, hb, et] at _h))
    all_goals simp only [W1, W2, owesN, owesX, owesR, cond_true, cond_false, p2, p3, p4, hs, hb, et]
    repeat' (first | apply And.intro | intro _hc)
    all_goals first | exact AV.le_refl _ | exact AV.le_any _ | exact OLe.refl _ | exact OLe.none _ | exact LeH.refl _ | exact LeL.refl _ | exact AV.le.bs _ | exact AV.le.sb _ | omega | contradiction
end Go.Eng.TA.R

namespace Go.Eng.TA.R
open Go Go.Eng Go.Eng.M Go.Eng.RD Go.Lib Go.Proofs
theorem leT {a : Bool} (h : a = true) : AV.le (.sb a) (.v (.bool true)) := by rw [h]; exact .sb true
def AB (y : Tx × Option ByteArray) : List AV := [txV y.1, bArg y.2]
theorem law10n (x : Tx) : bodyE (P := Tryd.prog) (Γ := Γm) [z28', kGr] Lno false 73 [.tmp 4] (bodyOf Tryd.f10) [txV x, .v (.slice none 0 0)] [] =
  Tree.chk (cl (True ∧ LeL [.agg [.v (.int .i64 x.k), .v (.string x.fr), .v (.string x.to), .v (.string x.ky), .v (.string x.vl), .v (.int .i64 x.am), .v (.int .i64 x.nn)]] [.agg [.v (.int 
    .i64 x.k), .v (.string x.fr), .v (.string x.to), .v (.string x.ky), .v (.string x.vl), .v (.int .i64 x.am), .v (.int .i64 x.nn)]] ∧ LeH [] [])) (.br (bif grT (Tx.mk x.k x.fr x.to 
    x.ky x.vl x.am x.nn) then true else false) (.leaf (Ans.mk (.v (.bool true)) [])) .fail) := by kernel_rfl
theorem law10g (x : Tx) (r : ByteArray) : bodyE (P := Tryd.prog) (Γ := Γm) [z28', kGr] Lno false 73 [.tmp 4] (bodyOf Tryd.f10) [txV x, .sl 1 r.size (bsF r)] [] =
  Tree.chk (cl (True ∧ LeL [.agg [.v (.int .i64 x.k), .v (.string x.fr), .v (.string x.to), .v (.string x.ky), .v (.string x.vl), .v (.int .i64 x.am), .v (.int .i64 x.nn)]] [.agg [.v (.int 
    .i64 x.k), .v (.string x.fr), .v (.string x.to), .v (.string x.ky), .v (.string x.vl), .v (.int .i64 x.am), .v (.int .i64 x.nn)]] ∧ LeH [] [])) (.br (bif grT (Tx.mk x.k x.fr x.to 
    x.ky x.vl x.am x.nn) then true else decide ((1000 : Int) < (↑(ByteArray.size r) : Int))) (.leaf (Ans.mk (.v (.bool true)) [])) .fail) := by kernel_rfl
theorem law10b (x : Tx) (h1 : Answers Tryd.prog Γm 30 [txV x] [] (.tup [.v (.slice none 0 0), .v (.int .i64 80)]) [] []) : bodyE (P := Tryd.prog) (Γ := Γm) [z28', kGr, kTx, CT.at 30 h1] Lno false 73 [.tmp 4] (bodyOf Tryd.f10) [txV x, .v (.slice none 0 0)] [] =
  Tree.chk (cl (True ∧ LeL [.agg [.v (.int .i64 x.k), .v (.string x.fr), .v (.string x.to), .v (.string x.ky), .v (.string x.vl), .v (.int .i64 x.am), .v (.int .i64 x.nn)]] [.agg [.v (.int 
    .i64 x.k), .v (.string x.fr), .v (.string x.to), .v (.string x.ky), .v (.string x.vl), .v (.int .i64 x.am), .v (.int .i64 x.nn)]] ∧ LeH [] [])) (.br (bif grT (Tx.mk x.k x.fr x.to 
    x.ky x.vl x.am x.nn) then true else false) (.leaf (Ans.mk (.v (.bool true)) [])) (.chk (cl (LeL [.agg [.v (.int .i64 x.k), .v (.string x.fr), .v (.string x.to), .v (.string x.ky), 
    .v (.string x.vl), .v (.int .i64 x.am), .v (.int .i64 x.nn)]] [.agg [.v (.int .i64 x.k), .v (.string x.fr), .v (.string x.to), .v (.string x.ky), .v (.string x.vl), .v (.int .i64 
    x.am), .v (.int .i64 x.nn)]] ∧ LeH [] [])) (.br true (.chk (cl (smallT (Tx.mk x.k x.fr x.to x.ky x.vl x.am x.nn) ∧ LeL [.agg [.v (.int .i64 x.k), .v (.string x.fr), .v (.string 
    x.to), .v (.string x.ky), .v (.string x.vl), .v (.int .i64 x.am), .v (.int .i64 x.nn)]] [.agg [.v (.int .i64 x.k), .v (.string x.fr), .v (.string x.to), .v (.string x.ky), .v 
    (.string x.vl), .v (.int .i64 x.am), .v (.int .i64 x.nn)]] ∧ LeH [] [])) (.leaf (Ans.mk (.sb !decide (erT (txB (Tx.mk x.k x.fr x.to x.ky x.vl x.am x.nn)) = (0 : Int))) []))) 
    .fail))) := by kernel_rfl
theorem law10c (x : Tx) (r : ByteArray) (h1 : Answers Tryd.prog Γm 30 [txV x] [] (.tup [.v (.slice none 0 0), .v (.int .i64 80)]) [] []) : bodyE (P := Tryd.prog) (Γ := Γm) [z28', kGr, kTx, CT.at 30 h1] Lno false 73 [.tmp 4] (bodyOf Tryd.f10) [txV x, .sl 1 r.size (bsF r)] [] =
  Tree.chk (cl (True ∧ LeL [.agg [.v (.int .i64 x.k), .v (.string x.fr), .v (.string x.to), .v (.string x.ky), .v (.string x.vl), .v (.int .i64 x.am), .v (.int .i64 x.nn)]] [.agg [.v (.int 
    .i64 x.k), .v (.string x.fr), .v (.string x.to), .v (.string x.ky), .v (.string x.vl), .v (.int .i64 x.am), .v (.int .i64 x.nn)]] ∧ LeH [] [])) (.br (bif grT (Tx.mk x.k x.fr x.to 
    x.ky x.vl x.am x.nn) then true else decide ((1000 : Int) < (↑(ByteArray.size r) : Int))) (.leaf (Ans.mk (.v (.bool true)) [])) (.chk (cl (LeL [.agg [.v (.int .i64 x.k), .v (.string 
    x.fr), .v (.string x.to), .v (.string x.ky), .v (.string x.vl), .v (.int .i64 x.am), .v (.int .i64 x.nn)]] [.agg [.v (.int .i64 x.k), .v (.string x.fr), .v (.string x.to), .v 
    (.string x.ky), .v (.string x.vl), .v (.int .i64 x.am), .v (.int .i64 x.nn)]] ∧ LeH [] [])) (.br true (.chk (cl (smallT (Tx.mk x.k x.fr x.to x.ky x.vl x.am x.nn) ∧ LeL [.agg [.v 
    (.int .i64 x.k), .v (.string x.fr), .v (.string x.to), .v (.string x.ky), .v (.string x.vl), .v (.int .i64 x.am), .v (.int .i64 x.nn)]] [.agg [.v (.int .i64 x.k), .v (.string 
    x.fr), .v (.string x.to), .v (.string x.ky), .v (.string x.vl), .v (.int .i64 x.am), .v (.int .i64 x.nn)]] ∧ LeH [] [])) (.leaf (Ans.mk (.sb !decide (erT (txB (Tx.mk x.k x.fr x.to 
    x.ky x.vl x.am x.nn)) = (0 : Int))) []))) (.chk (roomOk (1 : Nat) ((0 : Nat) + ByteArray.size r)) .fail)))) := by kernel_rfl
theorem law10d (x : Tx) (b s : ByteArray) (h1 : Answers Tryd.prog Γm 30 [txV x] [] (.tup [.hs 0 0 b.size, .v (.int .i64 0)]) [] [.arr 1 b.size (bsF b)]) (hN : Answers Tryd.prog Γm 38 [.hs 0 0 b.size] [.arr 1 b.size (bsF b)] (.ptr 1 0) [some (.arr 1 b.size (bsF b))] [.row [.hs 2 0 b.size, .v (.int .i64 0)], .arr 1 b.size (bsF b)]) (hT : Answers Tryd.prog Γm 39 [.ptr 0 0] (rdb b 0 0) (txV x) ((rdb b b.size 0).map some) []) (h2 : Answers Tryd.prog Γm 31 [txV x] [] (.tup [.v (.string s), .v (.int .i64 0)]) [] []) (h3 : Answers Tryd.prog Γm 36 [.v (.string s)] [] (.tup [txV x, .v (.int .i64 0)]) [] []) : bodyE (P := Tryd.prog) (Γ := Γm) [z28', kGr, kTx, CT.at 30 h1, CT.at 38 hN, CT.at 39 hT, hRs b, CT.at 31 h2, CT.at 36 h3] Lno false 73 [.tmp 4] (bodyOf Tryd.f10) [txV x, .v (.slice none 0 0)] [] =
  Tree.chk (cl (True ∧ LeL [.agg [.v (.int .i64 x.k), .v (.string x.fr), .v (.string x.to), .v (.string x.ky), .v (.string x.vl), .v (.int .i64 x.am), .v (.int .i64 x.nn)]] [.agg [.v (.int 
    .i64 x.k), .v (.string x.fr), .v (.string x.to), .v (.string x.ky), .v (.string x.vl), .v (.int .i64 x.am), .v (.int .i64 x.nn)]] ∧ LeH [] [])) (.br (bif grT (Tx.mk x.k x.fr x.to 
    x.ky x.vl x.am x.nn) then true else false) (.leaf (Ans.mk (.v (.bool true)) [])) (.chk (cl (LeL [.agg [.v (.int .i64 x.k), .v (.string x.fr), .v (.string x.to), .v (.string x.ky), 
    .v (.string x.vl), .v (.int .i64 x.am), .v (.int .i64 x.nn)]] [.agg [.v (.int .i64 x.k), .v (.string x.fr), .v (.string x.to), .v (.string x.ky), .v (.string x.vl), .v (.int .i64 
    x.am), .v (.int .i64 x.nn)]] ∧ LeH [] [])) (.br false (.chk (cl (smallT (Tx.mk x.k x.fr x.to x.ky x.vl x.am x.nn) ∧ LeL [.agg [.v (.int .i64 x.k), .v (.string x.fr), .v (.string 
    x.to), .v (.string x.ky), .v (.string x.vl), .v (.int .i64 x.am), .v (.int .i64 x.nn)]] [.agg [.v (.int .i64 x.k), .v (.string x.fr), .v (.string x.to), .v (.string x.ky), .v 
    (.string x.vl), .v (.int .i64 x.am), .v (.int .i64 x.nn)]] ∧ LeH [] [])) (.leaf (Ans.mk (.sb !decide (erT (txB (Tx.mk x.k x.fr x.to x.ky x.vl x.am x.nn)) = (0 : Int))) []))) (.chk 
    (roomOk (1 : Nat) ((0 : Nat) + ByteArray.size b)) (.chk (cl (LeL [.hs 0 0 ((0 : Nat) + ByteArray.size b)] [.hs 0 0 (ByteArray.size b)] ∧ LeH [some (.arr 1 ((0 : Nat) + 
    ByteArray.size b) fun j => mixL (decide (j < (0 : Nat))) (chain [.v (.int IntKind.u8 (0 : Int))] (0 : Nat) [] ((0 : Nat) + j)) (bsF b ((0 : Nat) + j)))] [some (.arr 1 
    (ByteArray.size b) (bsF b))])) (.chk (cl (LeL [.ptr 0 0] [.ptr 0 0] ∧ LeH [some (.row [.hs 1 0 (ByteArray.size b), .v (.int .i64 (0 : Int))]), some (.arr 1 (ByteArray.size b) (bsF 
    b))] [some (.row [.hs 1 0 (ByteArray.size b), .v (.int .i64 (0 : Int))]), some (.arr 1 (ByteArray.size b) (bsF b))])) (.chk (cl (LeL [.agg [.v (.int .i64 x.k), .v (.string x.fr), 
    .v (.string x.to), .v (.string x.ky), .v (.string x.vl), .v (.int .i64 x.am), .v (.int .i64 x.nn)]] [.agg [.v (.int .i64 x.k), .v (.string x.fr), .v (.string x.to), .v (.string 
    x.ky), .v (.string x.vl), .v (.int .i64 x.am), .v (.int .i64 x.nn)]] ∧ LeH [] [])) (.chk (cl (LeL [.v (.string s)] [.v (.string s)] ∧ LeH [] [])) (.chk (bif decide (x.k = x.k) && 
    (decide (x.fr = x.fr) && (decide (x.to = x.to) && (decide (x.ky = x.ky) && (decide (x.vl = x.vl) && (decide (x.am = x.am) && decide (x.nn = x.nn)))))) then cl (RX.ok b (RX.mk 
    (ByteArray.size b) (ByteArray.size b - ByteArray.size b) (0 : Int) (ByteArray.size b) (bsF b))) else true) (.leaf (Ans.mk (.sb (bif decide (x.k = x.k) && (decide (x.fr = x.fr) && 
    (decide (x.to = x.to) && (decide (x.ky = x.ky) && (decide (x.vl = x.vl) && (decide (x.am = x.am) && decide (x.nn = x.nn)))))) then bif decide ((↑(ByteArray.size b - ByteArray.size 
    b) : Int) = (0 : Int)) then decide (x.k = x.k) && (decide (x.fr = x.fr) && (decide (x.to = x.to) && (decide (x.ky = x.ky) && (decide (x.vl = x.vl) && (decide (x.am = x.am) && 
    decide (x.nn = x.nn)))))) else false else false)) []))))))))))) := by kernel_rfl
theorem law10e (x : Tx) (r b t s : ByteArray) (o : Nat) (h1 : Answers Tryd.prog Γm 30 [txV x] [] (.tup [.hs 0 0 b.size, .v (.int .i64 0)]) [] [.arr 1 b.size (bsF b)]) (hN : Answers Tryd.prog Γm 38 [.hs 0 0 t.size] [.arr 1 t.size (bsF t)] (.ptr 1 0) [some (.arr 1 t.size (bsF t))] [.row [.hs 2 0 t.size, .v (.int .i64 0)], .arr 1 t.size (bsF t)]) (hT : Answers Tryd.prog Γm 39 [.ptr 0 0] (rdb t 0 0) (txV x) ((rdb t o 0).map some) []) (h2 : Answers Tryd.prog Γm 31 [txV x] [] (.tup [.v (.string s), .v (.int .i64 0)]) [] []) (h3 : Answers Tryd.prog Γm 36 [.v (.string s)] [] (.tup [txV x, .v (.int .i64 0)]) [] []) : bodyE (P := Tryd.prog) (Γ := Γm) [z28', kGr, kTx, CT.at 30 h1, CT.at 38 hN, CT.at 39 hT, hRs t, CT.at 31 h2, CT.at 36 h3] Lno false 73 [.tmp 4] (bodyOf Tryd.f10) [txV x, .sl 1 r.size (bsF r)] [] =
  Tree.chk (cl (True ∧ LeL [.agg [.v (.int .i64 x.k), .v (.string x.fr), .v (.string x.to), .v (.string x.ky), .v (.string x.vl), .v (.int .i64 x.am), .v (.int .i64 x.nn)]] [.agg [.v (.int 
    .i64 x.k), .v (.string x.fr), .v (.string x.to), .v (.string x.ky), .v (.string x.vl), .v (.int .i64 x.am), .v (.int .i64 x.nn)]] ∧ LeH [] [])) (.br (bif grT (Tx.mk x.k x.fr x.to 
    x.ky x.vl x.am x.nn) then true else decide ((1000 : Int) < (↑(ByteArray.size r) : Int))) (.leaf (Ans.mk (.v (.bool true)) [])) (.chk (cl (LeL [.agg [.v (.int .i64 x.k), .v (.string 
    x.fr), .v (.string x.to), .v (.string x.ky), .v (.string x.vl), .v (.int .i64 x.am), .v (.int .i64 x.nn)]] [.agg [.v (.int .i64 x.k), .v (.string x.fr), .v (.string x.to), .v 
    (.string x.ky), .v (.string x.vl), .v (.int .i64 x.am), .v (.int .i64 x.nn)]] ∧ LeH [] [])) (.br false (.chk (cl (smallT (Tx.mk x.k x.fr x.to x.ky x.vl x.am x.nn) ∧ LeL [.agg [.v 
    (.int .i64 x.k), .v (.string x.fr), .v (.string x.to), .v (.string x.ky), .v (.string x.vl), .v (.int .i64 x.am), .v (.int .i64 x.nn)]] [.agg [.v (.int .i64 x.k), .v (.string 
    x.fr), .v (.string x.to), .v (.string x.ky), .v (.string x.vl), .v (.int .i64 x.am), .v (.int .i64 x.nn)]] ∧ LeH [] [])) (.leaf (Ans.mk (.sb !decide (erT (txB (Tx.mk x.k x.fr x.to 
    x.ky x.vl x.am x.nn)) = (0 : Int))) []))) (.chk (roomOk (1 : Nat) ((0 : Nat) + ByteArray.size b)) (.chk (roomOk (1 : Nat) ((0 : Nat) + ByteArray.size b + ByteArray.size r)) (.chk 
    (cl (LeL [.hs 0 0 ((0 : Nat) + ByteArray.size b + ByteArray.size r)] [.hs 0 0 (ByteArray.size t)] ∧ LeH [some (.arr 1 ((0 : Nat) + ByteArray.size b + ByteArray.size r) fun j => 
    mixL (decide (j < (0 : Nat) + ByteArray.size b)) (mixL (decide ((0 : Nat) + j < (0 : Nat))) (chain [.v (.int IntKind.u8 (0 : Int))] (0 : Nat) [] ((0 : Nat) + ((0 : Nat) + j))) (bsF 
    b ((0 : Nat) + ((0 : Nat) + j)))) (bsF r (j - ((0 : Nat) + ByteArray.size b))))] [some (.arr 1 (ByteArray.size t) (bsF t))])) (.chk (cl (LeL [.ptr 0 0] [.ptr 0 0] ∧ LeH [some (.row 
    [.hs 1 0 (ByteArray.size t), .v (.int .i64 (0 : Int))]), some (.arr 1 (ByteArray.size t) (bsF t))] [some (.row [.hs 1 0 (ByteArray.size t), .v (.int .i64 (0 : Int))]), some (.arr 1 
    (ByteArray.size t) (bsF t))])) (.chk (cl (LeL [.agg [.v (.int .i64 x.k), .v (.string x.fr), .v (.string x.to), .v (.string x.ky), .v (.string x.vl), .v (.int .i64 x.am), .v (.int 
    .i64 x.nn)]] [.agg [.v (.int .i64 x.k), .v (.string x.fr), .v (.string x.to), .v (.string x.ky), .v (.string x.vl), .v (.int .i64 x.am), .v (.int .i64 x.nn)]] ∧ LeH [] [])) (.chk 
    (cl (LeL [.v (.string s)] [.v (.string s)] ∧ LeH [] [])) (.chk (bif decide (x.k = x.k) && (decide (x.fr = x.fr) && (decide (x.to = x.to) && (decide (x.ky = x.ky) && (decide (x.vl = 
    x.vl) && (decide (x.am = x.am) && decide (x.nn = x.nn)))))) then cl (RX.ok t (RX.mk o (ByteArray.size t - o) (0 : Int) (ByteArray.size t) (bsF t))) else true) (.leaf (Ans.mk (.sb 
    (bif decide (x.k = x.k) && (decide (x.fr = x.fr) && (decide (x.to = x.to) && (decide (x.ky = x.ky) && (decide (x.vl = x.vl) && (decide (x.am = x.am) && decide (x.nn = x.nn)))))) 
    then bif decide ((↑(ByteArray.size t - o) : Int) = (↑(ByteArray.size r) : Int)) then decide (x.k = x.k) && (decide (x.fr = x.fr) && (decide (x.to = x.to) && (decide (x.ky = x.ky) 
    && (decide (x.vl = x.vl) && (decide (x.am = x.am) && decide (x.nn = x.nn)))))) else false else false)) [])))))))))))) := by kernel_rfl
theorem cat_fun (b r : ByteArray) (j : Nat) : mixL (decide (j < 0 + b.size)) (mixL (decide (0 + j < 0)) (chain [AV.v (Value.int IntKind.u8 0)] 0 [] (0 + (0 + j))) (bsF b (0 + (0 + j)))) (bsF r (j - (0 + b.size))) = bsF (b ++ r) j := by
  show mixL _ (mixL _ [AV.v (Value.int IntKind.u8 0)] [AV.v (Value.int IntKind.u8 (sbyte b (0 + (0 + j))))]) [AV.v (Value.int IntKind.u8 (sbyte r (j - (0 + b.size))))] = [AV.v (Value.int IntKind.u8 (sbyte (b ++ r) j))]
  rw [mixU, mixU, decide_eq_false (show ¬ 0 + j < 0 by omega), cond_false, sbyte_append]
  by_cases h : j < b.size
  · rw [decide_eq_true (by omega), cond_true, if_pos h, Nat.zero_add, Nat.zero_add]
  · rw [decide_eq_false (by omega), cond_false, if_neg h, Nat.zero_add]
theorem one_fun (b : ByteArray) (j : Nat) : mixL (decide (j < 0)) (chain [AV.v (Value.int IntKind.u8 0)] 0 [] (0 + j)) (bsF b (0 + j)) = bsF b j := by
  show mixL _ [AV.v (Value.int IntKind.u8 0)] [AV.v (Value.int IntKind.u8 (sbyte b (0 + j)))] = [AV.v (Value.int IntKind.u8 (sbyte b j))]
  rw [mixU, decide_eq_false (show ¬ j < 0 by omega), cond_false, Nat.zero_add]
theorem prT_size {x : Tx} (h : okI x) (g : grT x = false) : (prT x).size ≤ 10000 := by
  obtain ⟨g1, g2, g3, g4⟩ := gr_sizes g
  have z1 := pr_size h.2.1
  have z2 := pr_size h.2.2
  show (if x.k = 1 then mvS x else ptS x).size ≤ _
  by_cases hk : x.k = 1
  · rw [if_pos hk]; unfold mvS; simp only [ByteArray.size_append, szM, List.length_cons, List.length_nil]; omega
  · rw [if_neg hk]; unfold ptS; simp only [ByteArray.size_append, szM, List.length_cons, List.length_nil]; omega
theorem byS_size {x : Tx} (hb : txB x = true) (g : grT x = false) : (byS x).size ≤ 10000 ∧ 0 < (byS x).size := by
  obtain ⟨g1, g2, g3, g4⟩ := gr_sizes g
  obtain ⟨f1, f2, f3⟩ := txB_facts hb
  have z1 := (numB_size (n := x.fr.size) (by omega)).1
  have z2 := (numB_size (n := x.to.size) (by omega)).1
  have z3 := (numB_size (n := x.ky.size) (by omega)).1
  have z4 := (numB_size (n := x.vl.size) (by omega)).1
  have z5 := numB_size (n := x.nn.toNat) (by omega)
  have z6 := numB_size (n := x.k.toNat) (by omega)
  unfold byS tS
  by_cases hk : x.k = 1
  · have z7 := (numB_size (n := x.am.toNat) (by omega)).1
    rw [if_pos hk]; simp only [ByteArray.size_append]; omega
  · rw [if_neg hk]; simp only [ByteArray.size_append]; omega
theorem lawTB (y : Tx × Option ByteArray) (h : inI64 y.1.nn ∧ inI64 y.1.am) : LawOK Tryd.prog Γm 73 [.tmp 4] (bodyOf Tryd.f10) (AB y) := by
  obtain ⟨x, r⟩ := y
  have hx : Tx.mk x.k x.fr x.to x.ky x.vl x.am x.nn = x := rfl
  cases g : grT x with
  | true =>
    cases r with
    | none =>
      refine .mk' (T := [z28', kGr]) (ip := false) (L := Lno) (failOK fun _ _ _ => rfl) (Right.of (law10n x) ?_)
      repeat' (first | refine wC (by first | omega | (simp only [W1, cond_true, cond_false, hx, g]; first | done | omega)) ?_ | refine wT (by first | omega | (simp only [W1, cond_true, cond_false, hx, g]; first | done | omega)) ?_ | refine wF (by intro _h; first | omega | (simp only [W1, cond_true, cond_false, hx, g] at _h; first | done | omega)) ?_ | (refine wS ?_ ?_ <;> intro _h <;> simp only [W1, cond_true, cond_false, hx, g] at _h))
      all_goals simp only [W1, W2, owesN, owesX, owesR, cond_true, cond_false, hx, g]
      repeat' (first | apply And.intro | intro _hc)
      all_goals first | exact AV.le_refl _ | exact AV.le_any _ | exact OLe.refl _ | exact OLe.none _ | exact LeH.refl _ | exact LeL.refl _ | exact AV.le.bs _ | exact AV.le.sb _ | omega | contradiction
    | some r =>
      refine .mk' (T := [z28', kGr]) (ip := false) (L := Lno) (failOK fun _ _ _ => rfl) (Right.of (law10g x r) ?_)
      repeat' (first | refine wC (by first | omega | (simp only [W1, cond_true, cond_false, hx, g]; first | done | omega)) ?_ | refine wT (by first | omega | (simp only [W1, cond_true, cond_false, hx, g]; first | done | omega)) ?_ | refine wF (by intro _h; first | omega | (simp only [W1, cond_true, cond_false, hx, g] at _h; first | done | omega)) ?_ | (refine wS ?_ ?_ <;> intro _h <;> simp only [W1, cond_true, cond_false, hx, g] at _h))
      all_goals simp only [W1, W2, owesN, owesX, owesR, cond_true, cond_false, hx, g]
      repeat' (first | apply And.intro | intro _hc)
      all_goals first | exact AV.le_refl _ | exact AV.le_any _ | exact OLe.refl _ | exact OLe.none _ | exact LeH.refl _ | exact LeL.refl _ | exact AV.le.bs _ | exact AV.le.sb _ | omega | contradiction
  | false =>
    obtain ⟨g1, g2, g3, g4⟩ := gr_sizes g
    have ho : okI x := ⟨⟨by omega, by omega, by omega, by omega⟩, h.1, h.2⟩
    have hs := ho.1
    have ef : erT false = 80 := rfl
    have et : erT true = 0 := rfl
    cases hb : txB x with
    | false =>
      have h1 := ansBy0 ho g hb
      cases r with
      | none =>
        refine .mk' (T := [z28', kGr, kTx, CT.at 30 h1]) (ip := false) (L := Lno) (failOK fun _ _ _ => rfl) (Right.of (law10b x h1) ?_)
        repeat' (first | refine wC (by first | omega | (simp only [W1, cond_true, cond_false, hx, g, hb, ef, hs]; first | done | omega)) ?_ | refine wT (by first | omega | (simp only [W1, cond_true, cond_false, hx, g, hb, ef, hs]; first | done | omega)) ?_ | refine wF (by intro _h; first | omega | (simp only [W1, cond_true, cond_false, hx, g, hb, ef, hs] at _h; first | done | omega)) ?_ | (refine wS ?_ ?_ <;> intro _h <;> simp only [W1, cond_true, cond_false, hx, g, hb, ef, hs] at _h))
        all_goals simp only [W1, W2, owesN, owesX, owesR, cond_true, cond_false, hx, g, hb, ef, hs]
        repeat' (first | apply And.intro | intro _hc)
        all_goals first | exact leT (by decide) | exact AV.le_refl _ | exact AV.le_any _ | exact OLe.refl _ | exact OLe.none _ | exact LeH.refl _ | exact LeL.refl _ | exact AV.le.bs _ | exact AV.le.sb _ | omega | contradiction
      | some r =>
        by_cases hr : 1000 < r.size
        · refine .mk' (T := [z28', kGr]) (ip := false) (L := Lno) (failOK fun _ _ _ => rfl) (Right.of (law10g x r) ?_)
          repeat' (first | refine wC (by first | omega | (simp only [W1, cond_true, cond_false, hx, g]; first | done | omega)) ?_ | refine wT (by first | omega | (simp only [W1, cond_true, cond_false, hx, g]; first | done | omega)) ?_ | refine wF (by intro _h; first | omega | (simp only [W1, cond_true, cond_false, hx, g] at _h; first | done | omega)) ?_ | (refine wS ?_ ?_ <;> intro _h <;> simp only [W1, cond_true, cond_false, hx, g] at _h))
          all_goals simp only [W1, W2, owesN, owesX, owesR, cond_true, cond_false, hx, g]
          repeat' (first | apply And.intro | intro _hc)
          all_goals first | exact AV.le_refl _ | exact AV.le_any _ | exact OLe.refl _ | exact OLe.none _ | exact LeH.refl _ | exact LeL.refl _ | exact AV.le.bs _ | exact AV.le.sb _ | omega | contradiction
        · refine .mk' (T := [z28', kGr, kTx, CT.at 30 h1]) (ip := false) (L := Lno) (failOK fun _ _ _ => rfl) (Right.of (law10c x r h1) ?_)
          repeat' (first | refine wC (by first | omega | (simp only [W1, cond_true, cond_false, hx, g, hb, ef, hs]; first | done | omega)) ?_ | refine wT (by first | omega | (simp only [W1, cond_true, cond_false, hx, g, hb, ef, hs]; first | done | omega)) ?_ | refine wF (by intro _h; first | omega | (simp only [W1, cond_true, cond_false, hx, g, hb, ef, hs] at _h; first | done | omega)) ?_ | (refine wS ?_ ?_ <;> intro _h <;> simp only [W1, cond_true, cond_false, hx, g, hb, ef, hs] at _h))
          all_goals simp only [W1, W2, owesN, owesX, owesR, cond_true, cond_false, hx, g, hb, ef, hs]
          repeat' (first | apply And.intro | intro _hc)
          all_goals first | exact leT (by decide) | exact AV.le_refl _ | exact AV.le_any _ | exact OLe.refl _ | exact OLe.none _ | exact LeH.refl _ | exact LeL.refl _ | exact AV.le.bs _ | exact AV.le.sb _ | omega | contradiction
    | true =>
      have h1 := ansBy1 ho g hb
      have h2 := ansPP ho
      rw [hb] at h2
      simp only [if_true] at h2
      have hz := prT_size ho g
      have h3 := ansBack hb (by omega) (fun w hw => by omega)
      have e3 : resP (some x) = .tup [txV x, .v (.int .i64 0)] := rfl
      rw [e3] at h3
      obtain ⟨b1, b2⟩ := byS_size hb g
      cases r with
      | none =>
        have hN := ansNwH (t := byS x) ⟨by unfold small; omega, b2⟩
        have hT := take_known (t := byS x) (by omega) hb g (At.all _)
        refine .mk' (T := [z28', kGr, kTx, CT.at 30 h1, CT.at 38 hN, CT.at 39 hT, hRs (byS x), CT.at 31 h2, CT.at 36 h3]) (ip := false) (L := Lno) (failOK fun _ _ _ => rfl) (Right.of (law10d x (byS x) (prT x) h1 hN hT h2 h3) ?_)
        generalize byS x = b at *
        have hf : (fun j => mixL (decide (j < 0)) (chain [AV.v (Value.int IntKind.u8 0)] 0 [] (0 + j)) (bsF b (0 + j))) = bsF b := funext (one_fun b)
        have hc : (((b.size - b.size : Nat) : Int) = 0) = True := by simp
        simp only [hf]
        simp only [Nat.zero_add, decide_true, Bool.and_true, cond_true, rx_ok, hx, g]
        have r1 : roomOk 1 b.size = true := room' (by omega)
        have h00 : (decide (((b.size - b.size : Nat) : Int) = 0) && true) = true := by rw [Nat.sub_self]; rfl
        repeat' (first | refine wC (by first | omega | (simp only [W1, cond_true, cond_false, hs, r1]; first | done | omega)) ?_ | refine wT (by first | omega | (simp only [W1, cond_true, cond_false, hs, r1]; first | done | omega)) ?_ | refine wF (by intro _h; first | omega | (simp only [W1, cond_true, cond_false, hs, r1] at _h; first | done | omega)) ?_ | (refine wS ?_ ?_ <;> intro _h <;> simp only [W1, cond_true, cond_false, hs, r1] at _h))
        all_goals simp only [W1, W2, owesN, owesX, owesR, cond_true, cond_false, hs, r1]
        repeat' (first | apply And.intro | intro _hc)
        all_goals first | exact leT h00 | exact AV.le_refl _ | exact AV.le_any _ | exact OLe.refl _ | exact OLe.none _ | exact LeH.refl _ | exact LeL.refl _ | exact AV.le.bs _ | exact AV.le.sb _ | omega | contradiction
      | some r =>
        by_cases hr : 1000 < r.size
        · refine .mk' (T := [z28', kGr]) (ip := false) (L := Lno) (failOK fun _ _ _ => rfl) (Right.of (law10g x r) ?_)
          repeat' (first | refine wC (by first | omega | (simp only [W1, cond_true, cond_false, hx, g]; first | done | omega)) ?_ | refine wT (by first | omega | (simp only [W1, cond_true, cond_false, hx, g]; first | done | omega)) ?_ | refine wF (by intro _h; first | omega | (simp only [W1, cond_true, cond_false, hx, g] at _h; first | done | omega)) ?_ | (refine wS ?_ ?_ <;> intro _h <;> simp only [W1, cond_true, cond_false, hx, g] at _h))
          all_goals simp only [W1, W2, owesN, owesX, owesR, cond_true, cond_false, hx, g]
          repeat' (first | apply And.intro | intro _hc)
          all_goals first | exact AV.le_refl _ | exact AV.le_any _ | exact OLe.refl _ | exact OLe.none _ | exact LeH.refl _ | exact LeL.refl _ | exact AV.le.bs _ | exact AV.le.sb _ | omega | contradiction
        · have hN := ansNwH (t := byS x ++ r) ⟨by unfold small; rw [ByteArray.size_append]; omega, by rw [ByteArray.size_append]; omega⟩
          have hT := take_known (t := byS x ++ r) (by rw [ByteArray.size_append]; omega) hb g (At.pre _ _)
          refine .mk' (T := [z28', kGr, kTx, CT.at 30 h1, CT.at 38 hN, CT.at 39 hT, hRs (byS x ++ r), CT.at 31 h2, CT.at 36 h3]) (ip := false) (L := Lno) (failOK fun _ _ _ => rfl) (Right.of (law10e x r (byS x) (byS x ++ r) (prT x) _ h1 hN hT h2 h3) ?_)
          generalize byS x = b at *
          have hz : (b ++ r).size = b.size + r.size := ByteArray.size_append
          have hf : (fun j => mixL (decide (j < 0 + b.size)) (mixL (decide (0 + j < 0)) (chain [AV.v (Value.int IntKind.u8 0)] 0 [] (0 + (0 + j))) (bsF b (0 + (0 + j)))) (bsF r (j - (0 + b.size)))) = bsF (b ++ r) := funext (cat_fun b r)
          have hc : decide (((b.size + r.size - b.size : Nat) : Int) = (r.size : Int)) = true := decide_eq_true (by omega)
          simp only [hf, rx_ok]
          simp only [Nat.zero_add, decide_true, Bool.and_true, cond_true, rx_ok, hx, g, hz, hc, W1]
          have r1 : roomOk 1 b.size = true := room' (by omega)
          have r2 : roomOk 1 (b.size + r.size) = true := room' (by omega)
          generalize b ++ r = t at *
          simp only [r1, r2]
          repeat' (first | refine wC (by first | omega | (simp only [W1, cond_true, cond_false, hs]; first | done | omega)) ?_ | refine wT (by first | omega | (simp only [W1, cond_true, cond_false, hs]; first | done | omega)) ?_ | refine wF (by intro _h; first | omega | (simp only [W1, cond_true, cond_false, hs] at _h; first | done | omega)) ?_ | (refine wS ?_ ?_ <;> intro _h <;> simp only [W1, cond_true, cond_false, hs] at _h))
          all_goals simp only [W1, W2, owesN, owesX, owesR, cond_true, cond_false, hs]
          repeat' (first | apply And.intro | intro _hc)
          all_goals first | exact AV.le.sb true | exact leT (by simp) | exact AV.le_refl _ | exact AV.le_any _ | exact OLe.refl _ | exact OLe.none _ | exact LeH.refl _ | exact LeL.refl _ | exact AV.le.bs _ | exact AV.le.sb _ | omega | contradiction
noncomputable def c10L : CT Tryd.prog Γm := CT.lawE AB (fun y => inI64 y.1.nn ∧ inI64 y.1.am) 10 Tryd.f10 (bodyOf Tryd.f10) 73 [.tmp 4] Tryd.func10 (by kernel_rfl) (by kernel_rfl) (by kernel_rfl) (by kernel_rfl) (fun _ _ => by simp [AB]) (fun y h => lawTB y h)
end Go.Eng.TA.R

namespace Go.Proofs.YtmjbindplgpjjaaDoor
open Go Go.ChangeShapes Go.WideShapes Go.ChangeAt Go.WideMaps Go.WideElems Go.RowKit Go.Eng Go.Eng.TA
theorem own : ownKnob Tryd.prog.godebug = none := by kernel_rfl
abbrev laidL : List (String × DataW Unit) := [("unicode/utf8.acceptRanges", Rows.laid_unicode_utf8_acceptRanges), ("unicode/utf8.first", Rows.laid_unicode_utf8_first)]
def ren8 : Go.Shelf.Ren := ⟨id, fun t => if t = 5 then 5 else if t = 119 then 192 else if t = 138 then 194 else 195, fun g => if g = 3 then 0 else 1⟩
theorem ren8T : U8Types Tryd.prog ren8 where
  t5 := Tryd.underlying5
  t119 := Tryd.underlying192
  t138 := Tryd.underlying194
  t139 := Tryd.underlying195
theorem ren8X : U8Extra Tryd.prog ren8 where
  n3 := by kernel_rfl
  n4 := by kernel_rfl
  y3 := by kernel_rfl
  y4 := by kernel_rfl
  c5 := by kernel_rfl
  c119 := by kernel_rfl
  c138 := by kernel_rfl
theorem data8 : Rows.laid_unicode_utf8_first = Lib.firstData ∧ (Rows.laid_unicode_utf8_acceptRanges : DataW Unit) = Lib.acceptData := ⟨by kernel_rfl, by kernel_rfl⟩
theorem globals_ok {W : World} (h : laidMetH Tryd.prog laidL W) : Globals Γm (σof W) := by
  rw [MakeChecks.laidMetH_plain _ _ _ (by kernel_rfl)] at h
  have h1 := Go.Lib.laidMet.reads h (n := "unicode/utf8.first") (d := Lib.firstData) (by rw [← data8.1]; exact List.mem_cons_of_mem _ (List.mem_cons_self ..))
  have h2 := Go.Lib.laidMet.reads h (n := "unicode/utf8.acceptRanges") (d := Lib.acceptData) (by rw [← data8.2]; exact List.mem_cons_self ..)
  have hT : Lib.Utf8Tabs 0 1 W := utf8Tabs_of_readsT ren8T ren8X h1 h2
  intro g
  unfold Γm
  split
  · rename_i hg
    obtain rfl := Nat.eq_of_beq_eq_true hg
    refine .pa 1 256 _ ⟨0, 0, none⟩ (fun e j => .int .u8 (Lib.firstT e : Int)) rfl (fun _ => rfl) (fun e j c he hc => ?_) (fun e j c he hc => ?_)
    · cases j with
      | zero => simpa using σof_of (hT.1 e he)
      | succ j => simp [fstF] at hc
    · cases j with
      | zero => simp [fstF] at hc; subst hc; exact .v _
      | succ j => simp [fstF] at hc
  · split
    · rename_i hg
      obtain rfl := Nat.eq_of_beq_eq_true hg
      refine .pa 2 16 _ ⟨1, 0, none⟩ (fun e j => .int .u8 (if j = 0 then (Lib.accLo e : Int) else (Lib.accHi e : Int))) rfl (fun _ => rfl) (fun e j c he hc => ?_) (fun e j c he hc => ?_)
      · match j with
        | 0 => simpa [Nat.mul_comm] using σof_of (hT.2 e he).1
        | 1 => simpa [Nat.mul_comm] using σof_of (hT.2 e he).2
        | j + 2 => simp [accF] at hc
      · match j with
        | 0 => simp [accF] at hc; subst hc; exact .v _
        | 1 => simp [accF] at hc; subst hc; exact .v _
        | j + 2 => simp [accF] at hc
    · exact .any _
end Go.Proofs.YtmjbindplgpjjaaDoor

/- TxBack holds at every input: the tables unicode/utf8.first and unicode/utf8.acceptRanges as the program lays them (tied). -/
namespace Go.Proofs.YtmjbindplgpjjaaDoor
open Go Go.ChangeShapes Go.WideShapes Go.ChangeAt Go.WideMaps Go.WideElems Go.RowKit Go.Eng Go.Eng.TA Go.Eng.TA.R

set_option maxRecDepth 100000 in
theorem txBack_lifted (os : Os) (started : os.Started) (H : Type) (enc : TypeId × Value → H) :
    ReturnsInHanded {} Tryd.checked os 10 .any (fun w args => (Rows.txBackSpec.pre enc Tryd.prog Tryd.f10 [] false w args ∧ laidMetH Tryd.prog laidL w) ∧ sizedMet enc Tryd.prog Tryd.f10 (OpenSpec.ofChange Rows.txBackSpec) false w args)
      (Rows.txBackSpec.post enc Tryd.prog Tryd.f10 false true false false) := by
  refine returnsInHanded_of_change_and (C := Tryd.checked) (X := fun w _ => laidMetH Tryd.prog laidL w) (fun _ _ _ hh h => h.of_heap hh) own started (by kernel_rfl) Tryd.func10
    (ChangeSpec.witness_shaped (enc := enc) (C := Tryd.checked) (os := os) (X := fun w _ => laidMetH Tryd.prog laidL w) false (World.laidAll Tryd.prog os laidL) #[.agg #[.int .i64 0, .string ⟨#[]⟩, .string ⟨#[]⟩, .string ⟨#[]⟩, .string ⟨#[]⟩, .int .i64 0, .int .i64 0], .slice none 0 0] 8 (World.laidAll_os _ _ _) (World.shaped_of_ZipB (by kernel_rfl) (by kernel_rfl)) (by kernel_rfl) (by kernel_rfl) (by kernel_rfl)
      (by rw [MakeChecks.laidMetH_plain _ _ _ (by kernel_rfl)]; exact laidMet_laidAll _ (by kernel_rfl) (by kernel_rfl))) ?_
  intro W base args ds gs before hval0 hW _ _ hL _
  have hval : ∀ (j : Nat) t v, Tryd.f10.params[j]? = some t → args[j]? = some v → Value.okWide Tryd.prog W .any base t v := hval0
  have hW' := hW
  obtain ⟨p, q, hA0, hV, rfl, hfz, hnd⟩ := hW
  have hA : DataW.TrodAll enc Tryd.prog W 0 (fun _ => true) true Tryd.f10.params.toList args.toList ds p := hA0
  rw [Tryd.params10] at hA hval
  obtain ⟨v0, v1, d0, d1, p0, p1, rfl, rfl, rfl, h0, h1⟩ := trodAll_two hA
  obtain ⟨rfl, rfl⟩ := trodVars_none hV
  obtain ⟨l0, rfl, g0_0⟩ := open_agg 9 (ks := [.int .i64, .str, .str, .str, .str, .int .i64, .int .i64]) Tryd.underlying40 (by kernel_rfl) (hval 0 40 v0 rfl rfl) h0
  obtain ⟨_, _, rfl, ⟨m0_0, rfl, w0_0⟩, g0_1⟩ := g0_0.cons
  obtain ⟨_, _, rfl, ⟨m0_1, rfl, w0_1⟩, g0_2⟩ := g0_1.cons
  obtain ⟨_, _, rfl, ⟨m0_2, rfl, w0_2⟩, g0_3⟩ := g0_2.cons
  obtain ⟨_, _, rfl, ⟨m0_3, rfl, w0_3⟩, g0_4⟩ := g0_3.cons
  obtain ⟨_, _, rfl, ⟨m0_4, rfl, w0_4⟩, g0_5⟩ := g0_4.cons
  obtain ⟨_, _, rfl, ⟨m0_5, rfl, w0_5⟩, g0_6⟩ := g0_5.cons
  obtain ⟨_, _, rfl, ⟨m0_6, rfl, w0_6⟩, g0_7⟩ := g0_6.cons
  obtain rfl := g0_7.nil
  obtain ⟨n1, s1⟩ := open_bytes Tryd.underlying42 Tryd.underlying5 (by kernel_rfl) (hval 1 42 v1 rfl rfl) h1
  refine (calls_true c10L (xs := [.agg [.v (.int .i64 m0_0), .v (.string m0_1), .v (.string m0_2), .v (.string m0_3), .v (.string m0_4), .v (.int .i64 m0_5), .v (.int .i64 m0_6)], bArg n1]) (law_in (A := AB) (pre := fun y => inI64 y.1.nn ∧ inI64 y.1.am) (x := (⟨m0_0, m0_1, m0_2, m0_3, m0_4, m0_5, m0_6⟩, n1)) (by have h1 := bounds_i64 w0_5; have h2 := bounds_i64 w0_6; exact ⟨h2, h1⟩) (.refl _)) (globals_ok hL) (.one (V_agg (.one (V_v _) (.one (V_v _) (.one (V_v _) (.one (V_v _) (.one (V_v _) (.one (V_v _) (.one (V_v _) (.none))))))))) (.one (.base s1) .none))).mono fun e W' ⟨he, ho⟩ => ?_
  subst he
  exact ⟨_, rfl, post_true (tb := 4) (by kernel_rfl) (by kernel_rfl) (by kernel_rfl) (by kernel_rfl) (by kernel_rfl) Tryd.underlying4 hW' rfl rfl ho⟩

theorem txBack_holds : Rows.TxBackSaid :=
  OpenClaim.holds_of_wide 10 Tryd.f10 rfl rfl rfl rfl rfl rfl rfl ⟨rfl, rfl, rfl, rfl, rfl⟩ rfl rfl rfl rfl rfl (by kernel_rfl) Tryd.func10 (by kernel_rfl)
    (of_decide_eq_true (by kernel_rfl)) (by unfold Func.isWrapper; first | (rw [if_pos (by decide +kernel)]; kernel_rfl) | (rw [if_neg (by decide +kernel)]; exact ⟨rfl, rfl⟩))
    (fun os started H enc _ => txBack_lifted os started H enc)
theorem txBack_card : Rows.TxBackCardSaid :=
  Claim7.holds_tied_plain_at .later [] [.data, .pinned] true (true, "04bf13180d5c01f5cefcb13e3375edc3305cec317436f21bd83698835d5e56cf") false
    txBack_holds (fun _ h => by cases h) (by kernel_rfl) (fun _ h => by cases h) txBack_row_tie rfl ⟨rfl, rfl⟩ (by kernel_rfl) rfl
    (fun f fn hf hfn => by
      obtain rfl : f = 10 := Option.some.inj ((show Tryd.prog.funcNamed "hallmoot/hallmootlaw08.TxBack" = some 10 by kernel_rfl).symm.trans hf) |>.symm
      obtain rfl : fn = Tryd.f10 := (Option.some.inj (Tryd.func10.symm.trans hfn)).symm
      exact ⟨by kernel_rfl, fun j t ht => by
        rw [Tryd.params10] at ht
        have hm : t ∈ [40, 42] := by simpa using Array.mem_of_getElem? ht
        have hall : ([40, 42].all fun u => !Tryd.prog.wantsStandIn u) = true := by kernel_rfl
        exact (show Tryd.prog.wantsStandIn t = false by simpa using List.all_eq_true.1 hall t hm)⟩)
    (by kernel_rfl)
#print axioms txBack_card
end Go.Proofs.YtmjbindplgpjjaaDoor
