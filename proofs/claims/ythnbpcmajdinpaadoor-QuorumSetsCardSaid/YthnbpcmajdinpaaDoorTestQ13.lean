/- QuorumLists: its contract. -/
import Derived.Test.YthnbpcmajdinpaaDoorTestQ12
namespace Go.Eng.Q
open Go Go.Eng Go.Eng.M Go.Proofs
set_option linter.unusedSimpArgs false
set_option linter.unusedVariables false
theorem run5 (s k : Int) : bodyE (P := Tryd.prog) (Γ := Γq) [c7, c17, c19, c18, c10] L5 false 95 [.tmp 4] (bodyOf Tryd.f5) [.v (.int .u32 s), .v (.int .i64 k)] [] =
  Tree.chk (inU32 s)
  (Tree.chk
    (true && true && true && (pc s).beq (pc s) && inU32 s && (pc s).beq (pc s) && true &&
        decide ((0 : Int) ≤ (↑(pc s) : Int)) &&
      decide ((0 : Int) = upto s (Int.toNat (0 : Int))))
    (Tree.chk (sameF (ints (nth s)) (nth s))
      (Tree.chk (true && inU32 s)
        (Tree.br (!decide (errF k = (0 : Int)))
          (Tree.chk (bif decide (s = s) then true && inU32 s else true)
            (Tree.leaf { val := AV.sb (bif decide (s = s) then !hasB s k else false), H := [] }))
          (Tree.chk (true && inU32 s)
            (Tree.br (hasB s k)
              (Tree.chk
                (bif decide (s = s) then
                  true && inU32 (putU s k) && bif hasB (putU s k) k then true && inU32 (putU s k) else true
                else true)
                (Tree.leaf
                  {
                    val :=
                      AV.sb
                        (bif decide (s = s) then
                          bif hasB (putU s k) k then
                            decide ((↑(pc (putU s k)) : Int) = IntKind.i64.wrap ((↑(pc s) : Int) + (0 : Int)))
                          else false
                        else false),
                    H := [] }))
              (Tree.chk
                (bif decide (s = s) then
                  true && inU32 (putU s k) && bif hasB (putU s k) k then true && inU32 (putU s k) else true
                else true)
                (Tree.leaf
                  {
                    val :=
                      AV.sb
                        (bif decide (s = s) then
                          bif hasB (putU s k) k then
                            decide ((↑(pc (putU s k)) : Int) = IntKind.i64.wrap ((↑(pc s) : Int) + (1 : Int)))
                          else false
                        else false),
                    H := [] })))))))) := by kernel_rfl
theorem pc_put {s k : Int} (hs : inU32 s = true) (hk : okB k = true) : pc (putU s k) = pc s + (bif tb s k.toNat then 0 else 1) := by
  obtain ⟨h1, h2⟩ := tb_put hs hk
  obtain ⟨k0, k1⟩ := okB_iff.1 hk
  have e1 := cnt_or (tb s) (fun i => decide (i = k.toNat))
  have e2 : cnt (fun i => tb s i || decide (i = k.toNat)) = pc (putU s k) := cnt_congr fun i _ => (h2 i).symm
  have e3 : cnt (fun i => decide (i = k.toNat)) = 1 := by
    have : ∀ t : Fin 32, cnt (fun i => decide (i = t.val)) = 1 := by decide
    exact this ⟨k.toNat, by omega⟩
  have e4 : cnt (fun i => tb s i && decide (i = k.toNat)) = (bif tb s k.toNat then 1 else 0) := by
    cases hb : tb s k.toNat with
    | true =>
      rw [cond_true, ← e3]
      refine cnt_congr fun i _ => ?_
      by_cases h : i = k.toNat
      · subst h; simp [hb]
      · simp [h]
    | false =>
      rw [cond_false]
      have : cnt (fun i => tb s i && decide (i = k.toNat)) = cnt (fun _ => false) := cnt_congr fun i _ => by
        by_cases h : i = k.toNat
        · subst h; simp [hb]
        · simp [h]
      rw [this]; decide
  rw [e2, e3, e4] at e1
  rw [pc_cnt s]
  cases hb : tb s k.toNat <;> rw [hb] at e1 <;> simp at e1 ⊢ <;> omega
noncomputable def c5 : CT Tryd.prog Γq := CT.fun2 5 Tryd.f5 (bodyOf Tryd.f5) [c7, c17, c19, c18, c10] L5 false 95 [.tmp 4] .u32 .i64 (fun s _ => inU32 s) (fun _ _ => .v (.bool true)) Tryd.func5 (by kernel_rfl) (by kernel_rfl) (by kernel_rfl) (by kernel_rfl) (by decide) (oneLoop (b := loop5) (by kernel_rfl) loop5_ok) (fun s k hs => by
  rw [run5]
  have hpc := pc_le s
  have hsame : sameF (ints (nth s)) (nth s) = true := sameF_iff.2 rfl
  simp only [Tree.sat_br, Tree.sat_leaf, Tree.sat_chk, Bool.true_and, Bool.and_true, Nat.beq_refl, hs, hsame, decide_true, cond_true, Bool.not_eq_true', Bool.not_eq_false', decide_eq_true_eq, decide_eq_false_iff_not]
  refine ⟨trivial, ?_, trivial, trivial, fun hk => ⟨trivial, ?_, trivial⟩, fun hk => ?_⟩
  · simp only [Bool.and_eq_true, decide_eq_true_eq]; exact ⟨by omega, rfl⟩
  · have hk' : okB k = false := by cases h : okB k with
      | false => rfl
      | true => rw [errF, h] at hk; simp at hk
    rw [hasB, hk']; exact .sb true
  · have hk' : okB k = true := by cases h : okB k with
      | true => rfl
      | false => rw [errF, h] at hk; simp at hk
    obtain ⟨p1, p2⟩ := tb_put hs hk'
    have h3 : hasB (putU s k) k = true := by rw [hasB, hk', p2]; simp
    have h4 := pc_put hs hk'
    simp only [p1, h3, cond_true, Bool.true_and, Bool.and_true]
    refine ⟨trivial, fun hb => ⟨trivial, ?_, trivial⟩, fun hb => ⟨trivial, ?_, trivial⟩⟩
    · rw [hasB, hk', Bool.true_and] at hb
      rw [h4, hb, wrap64 (by omega) (by omega)]; simp [AV.le.sb]
    · rw [hasB, hk', Bool.true_and] at hb
      rw [h4, hb, wrap64 (by omega) (by omega)]; simp [AV.le.sb])
end Go.Eng.Q
