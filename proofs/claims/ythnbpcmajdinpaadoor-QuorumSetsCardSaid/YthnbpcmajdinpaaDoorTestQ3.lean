import Derived.Test.YthnbpcmajdinpaaDoorQM
import Derived.Test.YthnbpcmajdinpaaDoorChecked
import Derived.KernelRfl
namespace Go.Eng.Q
open Go Go.Eng Go.Eng.M Go.Proofs
set_option linter.unusedSimpArgs false
set_option linter.unusedVariables false
noncomputable def Γq (g : Nat) : AV := match Nat.beq g 0 with
  | true => .pa 1 32 fun i => [.v (.int .u8 (deb.getD i 0))]
  | false => .any
noncomputable def bodyOf (fn : Func) : Code := match fn.body with | some c => c | none => .skip
noncomputable def loopOf (c : Code) (j : Nat) : Code := match (loopBodies c)[j]? with | some b => b | none => .skip
noncomputable def L0 : Nat → LSpec := fun _ => ⟨[], [], fun _ _ => .fail⟩

/-! ### math/bits.TrailingZeros32 -/
noncomputable def spec27 : List AV → List Blk → Tree Res := fun args Hin => match args, Hin with
  | [.v (.int .u32 s)], [] => .chk (inU32 s) (.leaf { val := .v (.int .i64 (tz s)) })
  | _, _ => .fail
theorem run27 (s : Int) : bodyE (P := Tryd.prog) (Γ := Γq) [] L0 false 14 [.tmp 2] (bodyOf Tryd.f27) [.v (.int .u32 s)] [] =
    .br (decide (s = 0)) (.leaf { val := .v (.int .i64 32), H := [] })
      (.chk (decide ((0:Int) ≤ 27) && (decide (0 ≤ (IntKind.u32.wrap (bitI .and .u32 s (IntKind.u32.wrap (0 - s)) * 125613361)).fdiv (2 ^ min (Int.toNat 27) IntKind.u32.bits)) &&
          decide ((IntKind.u32.wrap (bitI .and .u32 s (IntKind.u32.wrap (0 - s)) * 125613361)).fdiv (2 ^ min (Int.toNat 27) IntKind.u32.bits) < ↑(32 : Nat))))
        (.leaf { val := .v (.int .i64 (IntKind.i64.wrap (deb.getD ((IntKind.u32.wrap (bitI .and .u32 s (IntKind.u32.wrap (0 - s)) * 125613361)).fdiv (2 ^ min (Int.toNat 27) IntKind.u32.bits)).toNat 0))), H := [] })) := by kernel_rfl
noncomputable def c27 : CT Tryd.prog Γq := CT.summed 27 Tryd.f27 (bodyOf Tryd.f27) [] L0 false 14 [.tmp 2] spec27 Tryd.func27 (by kernel_rfl) (by kernel_rfl) (by kernel_rfl) (by kernel_rfl) (fun _ _ _ _ => noLoops (by kernel_rfl)) (by
  intro args Hin r h
  unfold spec27 at h
  split at h
  · rename_i s
    obtain ⟨hc, h⟩ := Tree.chk_get h
    obtain rfl := Tree.leaf_get h
    have hs : 0 ≤ s ∧ s < 4294967296 := inU32_iff.1 hc
    refine ⟨by simp, ?_⟩
    rw [run27]
    simp only [Tree.sat_br, Tree.sat_chk, Tree.sat_leaf, decide_eq_true_eq, decide_eq_false_iff_not]
    refine ⟨fun h0 => ?_, fun h0 => ?_⟩
    · subst h0; exact ⟨.of_eq (by rw [show tz 0 = 32 by decide]), trivial⟩
    · obtain ⟨h1, h2, h3⟩ := tz_table h0 hs.1 hs.2
      refine ⟨by simp only [Bool.and_eq_true, decide_eq_true_eq]; exact ⟨by decide, h1, h2⟩, .of_eq (by rw [h3]), trivial⟩
  · simp [Tree.get] at h)

/-! ### quorum.List -/
noncomputable def loop17 : Code := loopOf (bodyOf Tryd.f17) 0
noncomputable def list17 (vals : List AV) (H : Heap) : Tree Out := match vals, H with
  | [.v (.int .u32 s), .hs i e n], [some (.arr sz k f)] =>
    .chk (Nat.beq i 0 && Nat.beq e 0 && Nat.beq sz 1 && Nat.beq k n && inU32 s && decide (n + pc s ≤ 1000000)) (.chk (isInts f)
      (.leaf ⟨.exit 0, [.any, .hs 0 0 (n + pc s)], [some (.arr 1 (n + pc s) (ints fun j => bif decide (j < n) then getI (f j) else nth s (j - n)))]⟩))
  | _, _ => .fail
theorem round17 (s : Int) (n : Nat) (g : Nat → Int) : roundE [c27] L0 false 0 0 loop17 [0, 3] [(1, 3)] 16 [.v (.int .u32 s), .hs 0 0 n] [some (.arr 1 n (ints g))] =
    .br (!decide (s = 0)) (.chk (inU32 s) (.chk (roomOk Tryd.prog.types[3].bytes (n + 1))
      (.leaf ⟨.normal, [.v (.int .u32 (less s)), .hs 0 0 (n + 1)], [some (.arr 1 (n + 1) (ints fun j => bif decide (j < n) then g (0 + j) else bif (0 + (j - n)).beq 0 then tz s else 0))]⟩)))
      (.leaf ⟨.exit 0, [.v (.int .u32 s), .hs 0 0 n], [some (.arr 1 n (ints g))]⟩) := by kernel_rfl
noncomputable def L17 : Nat → LSpec := fun _ => ⟨[0, 3], [(1, 3)], list17⟩
def mu17 (vals : List AV) (_ : Heap) : Nat := match vals with
  | .v (.int _ s) :: _ => pc s
  | _ => 0
theorem loop17_ok : LoopOK Tryd.prog Γq 0 16 loop17 (L17 0) := by
  refine loop_ok (T := [c27]) (L := L0) (ip := false) (k := 0) mu17 (noLoops (by kernel_rfl)) fun vals H o h => ?_
  unfold L17 list17 at h
  simp only at h
  split at h
  · rename_i s i e n sz k f
    obtain ⟨hc, h⟩ := Tree.chk_get h
    obtain ⟨hf, h⟩ := Tree.chk_get h
    obtain rfl := Tree.leaf_get h
    simp only [Bool.and_eq_true, decide_eq_true_eq] at hc
    obtain ⟨⟨⟨⟨⟨hi, he⟩, hsz⟩, hk⟩, hs⟩, hn⟩ := hc
    obtain rfl := Nat.eq_of_beq_eq_true hi
    obtain rfl := Nat.eq_of_beq_eq_true he
    obtain rfl := Nat.eq_of_beq_eq_true hsz
    obtain rfl := Nat.eq_of_beq_eq_true hk
    have hfe := isInts_eq hf
    generalize hg : (fun i => getI (f i)) = g at hfe
    subst hfe
    show (roundE [c27] L0 false 0 0 loop17 [0, 3] [(1, 3)] 16 [.v (.int .u32 s), .hs 0 0 k] [some (.arr 1 k (ints g))]).sat _
    rw [round17]
    simp only [Tree.sat_br, Tree.sat_chk, Tree.sat_leaf, Bool.not_eq_true', decide_eq_false_iff_not, Bool.not_eq_false', decide_eq_true_eq]
    refine ⟨fun h0 => ⟨hs, room8 (by kernel_rfl) (by omega), ?_⟩, fun h0 => ?_⟩
    · obtain ⟨l1, _, _, _⟩ := less_eq h0 hs
      have hp := pc_step h0 hs
      refine ⟨_, _, LeL.refl _, LeH.refl _, ?_, by show pc (less s) < pc s; omega⟩
      simp only [L17, list17, isInts_ints, l1, Nat.beq_refl, Bool.true_and, Tree.get]
      rw [decide_eq_true (show k + 1 + pc (less s) ≤ 1000000 by omega)]
      have e1 : k + 1 + pc (less s) = k + pc s := by omega
      refine out_eq (by rw [e1]) (congrArg (fun x => [x]) (arr_eq e1 fun j => ints_congr ?_))
      simp only [getI_ints]
      by_cases hj : j < k
      · simp [hj, Nat.lt_succ_of_lt hj]
      · by_cases hj2 : j = k
        · subst hj2; simp [nth_step h0 hs]
        · have : ¬ j < k + 1 := by omega
          have h3 : (j - k).beq 0 = false := by
            cases hb : (j - k).beq 0 with
            | false => rfl
            | true => have := Nat.eq_of_beq_eq_true hb; omega
          simp [hj, this, nth_step h0 hs (j - k), h3]
          congr 1
    · subst h0
      refine ⟨rfl, ?_, ?_⟩
      · simp [pc_zero]
      · simp only [LeH_cons, LeH_nil, and_true]
        refine OLe.arr (by rw [pc_zero]; rfl) (fun e he => ?_) fun e => rfl
        refine ints_congr ?_
        simp [he]
  · simp [Tree.get] at h
end Go.Eng.Q
