/- quorum.Has and quorum.Put. -/
import Derived.Test.YthnbpcmajdinpaaDoorTestQ6
import Derived.Test.YthnbpcmajdinpaaDoorQM3
namespace Go.Eng.Q
open Go Go.Eng Go.Eng.M Go.Proofs
set_option linter.unusedSimpArgs false
set_option linter.unusedVariables false
noncomputable def c28 : CT Tryd.prog Γq := CT.inline 28 Tryd.f28 (bodyOf Tryd.f28) [] L0 false 0 9 [.tmp 2] Tryd.func28 (by kernel_rfl) (by kernel_rfl) (by kernel_rfl) (by kernel_rfl) (noLoops (by kernel_rfl))
def okB (k : Int) : Bool := bif decide ((0 : Int) ≤ k) then decide (k < (32 : Int)) else false
theorem okB_iff {k : Int} : okB k = true ↔ 0 ≤ k ∧ k < 32 := by
  unfold okB; by_cases h : 0 ≤ k <;> simp [h]
theorem okB_not {k : Int} : okB k = false ↔ ¬ (0 ≤ k ∧ k < 32) := by
  rw [← okB_iff]; simp
def hasB (s k : Int) : Bool := okB k && tb s k.toNat
def putU (s k : Int) : Int := bif okB k then bitI .or .u32 s ((2 ^ k.toNat : Nat) : Int) else 0
def errF (k : Int) : Int := bif okB k then 0 else 40
theorem run18 (s k : Int) : bodyE (P := Tryd.prog) (Γ := Γq) [c28] L0 false 14 [.tmp 4] (bodyOf Tryd.f18) [.v (.int .u32 s), .v (.int .i64 k)] [] =
  Tree.chk (bif bif decide ((0 : Int) ≤ k) then decide (k < (32 : Int)) else false then decide ((0 : Int) ≤ k) else true)
  (Tree.leaf
    {
      val :=
        AV.sb
          (bif bif decide ((0 : Int) ≤ k) then decide (k < (32 : Int)) else false then
            decide
              (bitI BinOp.and IntKind.u32 (s.fdiv ((2 : Int) ^ min k.toNat IntKind.u32.bits)) (1 : Int) = (1 : Int))
          else false),
      H := [] }) := by kernel_rfl
theorem run19 (s k : Int) : bodyE (P := Tryd.prog) (Γ := Γq) [c28] L0 false 13 [.tmp 4, .tmp 5] (bodyOf Tryd.f19) [.v (.int .u32 s), .v (.int .i64 k)] [] =
  Tree.br (!bif decide ((0 : Int) ≤ k) then decide (k < (32 : Int)) else false)
  (Tree.leaf
    { val := AV.tup [AV.v (Value.int IntKind.u32 (0 : Int)), AV.v (Value.int IntKind.i64 (40 : Int))], H := [] })
  (Tree.chk (decide ((0 : Int) ≤ k))
    (Tree.leaf
      {
        val :=
          AV.tup
            [AV.v
                (Value.int IntKind.u32
                  (bitI BinOp.or IntKind.u32 s
                    (IntKind.u32.wrap ((1 : Int) * (2 : Int) ^ min k.toNat IntKind.u32.bits)))),
              AV.v (Value.int IntKind.i64 (0 : Int))],
        H := [] })) := by kernel_rfl
theorem bit_one {s k : Int} (hs : inU32 s = true) (hk : okB k = true) : decide (bitI .and .u32 (s.fdiv (2 ^ min k.toNat IntKind.u32.bits)) 1 = 1) = tb s k.toNat := by
  obtain ⟨n, rfl, hn⟩ := u32_nat hs
  obtain ⟨h0, h1⟩ := okB_iff.1 hk
  obtain ⟨m, rfl⟩ := Int.eq_ofNat_of_zero_le h0
  have hm : m < 32 := by omega
  rw [shr32 n m (by omega)]
  have hlt : n / 2 ^ m < 2 ^ 32 := Nat.lt_of_le_of_lt (Nat.div_le_self _ _) hn
  have := and_u32 (n / 2 ^ m) 1 hlt (by decide)
  rw [show ((1 : Nat) : Int) = 1 from rfl] at this
  rw [this, Nat.and_one_is_mod, tb, Int.toNat_natCast, Int.toNat_natCast, Nat.testBit_eq_decide_div_mod_eq]
  have e : (((n / 2 ^ m % 2 : Nat) : Int) = 1) ↔ (n / 2 ^ m % 2 = 1) := by omega
  simp only [e]
theorem pow_one {k : Int} (hk : okB k = true) : IntKind.u32.wrap (1 * 2 ^ min k.toNat IntKind.u32.bits) = ((2 ^ k.toNat : Nat) : Int) ∧ inU32 ((2 ^ k.toNat : Nat) : Int) = true := by
  obtain ⟨h0, h1⟩ := okB_iff.1 hk
  have hlt : 2 ^ k.toNat < 2 ^ 32 := Nat.pow_lt_pow_right (by decide) (by omega)
  have e : (1 * 2 ^ min k.toNat IntKind.u32.bits : Int) = ((2 ^ k.toNat : Nat) : Int) := by
    rw [show IntKind.u32.bits = 32 from rfl, Nat.min_eq_left (by omega)]; simp
  rw [e, wrap_u32_nat, Nat.mod_eq_of_lt hlt]
  exact ⟨rfl, nat_u32 hlt⟩
noncomputable def c18 : CT Tryd.prog Γq := CT.fun2 18 Tryd.f18 (bodyOf Tryd.f18) [c28] L0 false 14 [.tmp 4] .u32 .i64 (fun s _ => inU32 s) (fun s k => .sb (hasB s k)) Tryd.func18 (by kernel_rfl) (by kernel_rfl) (by kernel_rfl) (by kernel_rfl) (by decide) (noLoops (by kernel_rfl)) (fun s k hs => by
  rw [run18]
  simp only [Tree.sat_br, Tree.sat_leaf, Tree.sat_chk]
  have e : (bif decide ((0 : Int) ≤ k) then decide (k < (32 : Int)) else false) = okB k := rfl
  rw [e]
  cases hk : okB k with
  | true => exact ⟨by simpa using (okB_iff.1 hk).1, .of_eq (by rw [hasB, hk, cond_true, bit_one hs hk, Bool.true_and]), trivial⟩
  | false => exact ⟨rfl, .of_eq (by rw [hasB, hk]; rfl), trivial⟩)
noncomputable def c19 : CT Tryd.prog Γq := CT.fun2 19 Tryd.f19 (bodyOf Tryd.f19) [c28] L0 false 13 [.tmp 4, .tmp 5] .u32 .i64 (fun s _ => inU32 s) (fun s k => .tup [.v (.int .u32 (putU s k)), .v (.int .i64 (errF k))]) Tryd.func19 (by kernel_rfl) (by kernel_rfl) (by kernel_rfl) (by kernel_rfl) (by decide) (noLoops (by kernel_rfl)) (fun s k hs => by
  rw [run19]
  have e : (bif decide ((0 : Int) ≤ k) then decide (k < (32 : Int)) else false) = okB k := rfl
  rw [e]
  simp only [Tree.sat_br, Tree.sat_leaf, Tree.sat_chk, Bool.not_eq_true', Bool.not_eq_false']
  refine ⟨fun hk => ⟨.of_eq (by rw [putU, errF, hk]; rfl), trivial⟩, fun hk => ⟨by simpa using (okB_iff.1 hk).1, .of_eq (by rw [putU, errF, hk, (pow_one hk).1]; rfl), trivial⟩⟩)
end Go.Eng.Q
