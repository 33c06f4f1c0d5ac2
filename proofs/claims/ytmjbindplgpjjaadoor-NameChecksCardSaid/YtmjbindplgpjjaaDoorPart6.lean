/- NameChecks holds at every input: the tables unicode/utf8.first and unicode/utf8.acceptRanges as the program lays them (tied). -/
import Derived.Test.YtmjbindplgpjjaaDoorPart5
import Derived.Test.YtmjbindplgpjjaaDoorRows
import Derived.Test.YtmjbindplgpjjaaDoorTie
import Derived.Test.YtmjbindplgpjjaaDoorCards
import Derived.ProofKit
import Derived.LaidMore
import Derived.OpenShut
import Derived.Stop.Joined
import Derived.SevenTiedAt
import Derived.Lib.LaidU8T
import Derived.Lay
/- names: a rune's bytes at the end of bytes. -/
namespace Go.Eng.TA
open Go Go.Eng Go.Eng.M Go.Lib Go.Proofs
set_option linter.unusedSimpArgs false
set_option linter.unusedVariables false
abbrev bB (t : ByteArray) : Blk := .arr 1 t.size (bsF t)
/-- bytes behind bytes -/
theorem appB {t e : ByteArray} {k : Nat} {f : Nat → List AV} (hk : k = e.size) (hf : ∀ j, ∃ y, f j = [.v (.int .u8 y)] ∧ (j < e.size → y = sbyte e j)) :
    OLe (some (.arr 1 (t.size + k) fun j => mixL (decide (j < t.size)) [AV.v (Value.int IntKind.u8 (sbyte t j))] (f (j - t.size)))) (some (bB (t ++ e))) := by
  subst hk
  have hz : (t ++ e).size = t.size + e.size := ByteArray.size_append
  unfold bB
  rw [hz]
  refine OLe.arr rfl (fun j hj => ?_) (fun j => ?_)
  · obtain ⟨y, h1, h2⟩ := hf (j - t.size)
    rw [h1]
    unfold bsF
    rw [sbyte_append]
    show [AV.v (Value.int IntKind.u8 (bif decide (j < t.size) then sbyte t j else y))] = _
    by_cases hl : j < t.size
    · rw [decide_eq_true hl, if_pos hl]; rfl
    · rw [decide_eq_false hl, if_neg hl, h2 (by omega)]; rfl
  · exact rfl
theorem chn1 (a : Int) (j : Nat) : chain [AV.v (Value.int IntKind.u8 0)] 0 [[AV.v (Value.int IntKind.u8 a)]] j = [.v (.int .u8 (bif Nat.beq j 0 then a else 0))] := rfl
theorem chn2 (a b : Int) (j : Nat) : chain [AV.v (Value.int IntKind.u8 0)] 0 [[AV.v (Value.int IntKind.u8 a)], [AV.v (Value.int IntKind.u8 b)]] j = [.v (.int .u8 (bif Nat.beq j 0 then a else bif Nat.beq j 1 then b else 0))] := rfl
theorem chn3 (a b c : Int) (j : Nat) : chain [AV.v (Value.int IntKind.u8 0)] 0 [[AV.v (Value.int IntKind.u8 a)], [AV.v (Value.int IntKind.u8 b)], [AV.v (Value.int IntKind.u8 c)]] j = [.v (.int .u8 (bif Nat.beq j 0 then a else bif Nat.beq j 1 then b else bif Nat.beq j 2 then c else 0))] := rfl
theorem chn4 (a b c d : Int) (j : Nat) : chain [AV.v (Value.int IntKind.u8 0)] 0 [[AV.v (Value.int IntKind.u8 a)], [AV.v (Value.int IntKind.u8 b)], [AV.v (Value.int IntKind.u8 c)], [AV.v (Value.int IntKind.u8 d)]] j = [.v (.int .u8 (bif Nat.beq j 0 then a else bif Nat.beq j 1 then b else bif Nat.beq j 2 then c else bif Nat.beq j 3 then d else 0))] := rfl
theorem sb_cons0 (a : UInt8) (l : List UInt8) : sbyte ⟨⟨a :: l⟩⟩ 0 = (a.toNat : Int) := rfl
theorem sb_consS (a : UInt8) (l : List UInt8) (i : Nat) : sbyte ⟨⟨a :: l⟩⟩ (i + 1) = sbyte ⟨⟨l⟩⟩ i := by
  rw [sbyte_bN, sbyte_bN, bN_consS]
theorem b8i {n : Nat} (h : n < 256) : ((b8 n).toNat : Int) = (n : Int) := by rw [b8_nat h]
theorem app1B {t : ByteArray} {a : Nat} (ha : a < 256) : OLe (some (.arr 1 (t.size + 1) fun j => mixL (decide (j < t.size)) [AV.v (Value.int IntKind.u8 (sbyte t j))] (chain [AV.v (Value.int IntKind.u8 0)] 0 [[AV.v (Value.int IntKind.u8 (a : Int))]] (j - t.size)))) (some (bB (t ++ ⟨#[b8 a]⟩))) :=
  appB (f := fun j => chain [AV.v (Value.int IntKind.u8 0)] 0 [[AV.v (Value.int IntKind.u8 (a : Int))]] j) rfl fun j => ⟨_, chn1 _ j, fun h => by
    have h : j < 1 := h
    obtain rfl : j = 0 := by omega
    exact (b8i ha).symm⟩
theorem app2B {t : ByteArray} {a b : Nat} (ha : a < 256) (hb : b < 256) : OLe (some (.arr 1 (t.size + 2) fun j => mixL (decide (j < t.size)) [AV.v (Value.int IntKind.u8 (sbyte t j))] (chain [AV.v (Value.int IntKind.u8 0)] 0 [[AV.v (Value.int IntKind.u8 (a : Int))], [AV.v (Value.int IntKind.u8 (b : Int))]] (j - t.size)))) (some (bB (t ++ ⟨#[b8 a, b8 b]⟩))) :=
  appB (f := fun j => chain [AV.v (Value.int IntKind.u8 0)] 0 [[AV.v (Value.int IntKind.u8 (a : Int))], [AV.v (Value.int IntKind.u8 (b : Int))]] j) rfl fun j => ⟨_, chn2 _ _ j, fun h => by
    have h : j < 2 := h
    match j, h with
    | 0, _ => exact (b8i ha).symm
    | 1, _ => exact (b8i hb).symm⟩
theorem app3B {t : ByteArray} {a b c : Nat} (ha : a < 256) (hb : b < 256) (hc : c < 256) : OLe (some (.arr 1 (t.size + 3) fun j => mixL (decide (j < t.size)) [AV.v (Value.int IntKind.u8 (sbyte t j))] (chain [AV.v (Value.int IntKind.u8 0)] 0 [[AV.v (Value.int IntKind.u8 (a : Int))], [AV.v (Value.int IntKind.u8 (b : Int))], [AV.v (Value.int IntKind.u8 (c : Int))]] (j - t.size)))) (some (bB (t ++ ⟨#[b8 a, b8 b, b8 c]⟩))) :=
  appB (f := fun j => chain [AV.v (Value.int IntKind.u8 0)] 0 [[AV.v (Value.int IntKind.u8 (a : Int))], [AV.v (Value.int IntKind.u8 (b : Int))], [AV.v (Value.int IntKind.u8 (c : Int))]] j) rfl fun j => ⟨_, chn3 _ _ _ j, fun h => by
    have h : j < 3 := h
    match j, h with
    | 0, _ => exact (b8i ha).symm
    | 1, _ => exact (b8i hb).symm
    | 2, _ => exact (b8i hc).symm⟩
theorem app4B {t : ByteArray} {a b c d : Nat} (ha : a < 256) (hb : b < 256) (hc : c < 256) (hd : d < 256) : OLe (some (.arr 1 (t.size + 4) fun j => mixL (decide (j < t.size)) [AV.v (Value.int IntKind.u8 (sbyte t j))] (chain [AV.v (Value.int IntKind.u8 0)] 0 [[AV.v (Value.int IntKind.u8 (a : Int))], [AV.v (Value.int IntKind.u8 (b : Int))], [AV.v (Value.int IntKind.u8 (c : Int))], [AV.v (Value.int IntKind.u8 (d : Int))]] (j - t.size)))) (some (bB (t ++ ⟨#[b8 a, b8 b, b8 c, b8 d]⟩))) :=
  appB (f := fun j => chain [AV.v (Value.int IntKind.u8 0)] 0 [[AV.v (Value.int IntKind.u8 (a : Int))], [AV.v (Value.int IntKind.u8 (b : Int))], [AV.v (Value.int IntKind.u8 (c : Int))], [AV.v (Value.int IntKind.u8 (d : Int))]] j) rfl fun j => ⟨_, chn4 _ _ _ _ j, fun h => by
    have h : j < 4 := h
    match j, h with
    | 0, _ => exact (b8i ha).symm
    | 1, _ => exact (b8i hb).symm
    | 2, _ => exact (b8i hc).symm
    | 3, _ => exact (b8i hd).symm⟩
theorem or192 (k : Nat) (h : k < 32) : bitI .or .u8 192 (k : Int) = ((192 + k : Nat) : Int) := by
  have : ∀ k : Fin 32, bitI .or .u8 192 ((k.val : Nat) : Int) = ((192 + k.val : Nat) : Int) := by decide +kernel
  exact this ⟨k, h⟩
theorem or224 (k : Nat) (h : k < 16) : bitI .or .u8 224 (k : Int) = ((224 + k : Nat) : Int) := by
  have : ∀ k : Fin 16, bitI .or .u8 224 ((k.val : Nat) : Int) = ((224 + k.val : Nat) : Int) := by decide +kernel
  exact this ⟨k, h⟩
theorem or240 (k : Nat) (h : k < 8) : bitI .or .u8 240 (k : Int) = ((240 + k : Nat) : Int) := by
  have : ∀ k : Fin 8, bitI .or .u8 240 ((k.val : Nat) : Int) = ((240 + k.val : Nat) : Int) := by decide +kernel
  exact this ⟨k, h⟩
theorem oran (k : Nat) (h : k < 256) : bitI .or .u8 128 (bitI .and .u8 (k : Int) 63) = ((128 + k % 64 : Nat) : Int) := by
  have : ∀ k : Fin 256, bitI .or .u8 128 (bitI .and .u8 ((k.val : Nat) : Int) 63) = ((128 + k.val % 64 : Nat) : Int) := by decide +kernel
  exact this ⟨k, h⟩
theorem fd6 (c : Nat) : Int.fdiv (c : Int) ((2 : Int) ^ min (Int.toNat 6) 32) = ((c / 64 : Nat) : Int) := by
  rw [show (2 : Int) ^ min (Int.toNat 6) 32 = ((64 : Nat) : Int) from rfl]; exact (Int.ofNat_fdiv c 64).symm
theorem fd12 (c : Nat) : Int.fdiv (c : Int) ((2 : Int) ^ min (Int.toNat 12) 32) = ((c / 4096 : Nat) : Int) := by
  rw [show (2 : Int) ^ min (Int.toNat 12) 32 = ((4096 : Nat) : Int) from rfl]; exact (Int.ofNat_fdiv c 4096).symm
theorem fd18 (c : Nat) : Int.fdiv (c : Int) ((2 : Int) ^ min (Int.toNat 18) 32) = ((c / 262144 : Nat) : Int) := by
  rw [show (2 : Int) ^ min (Int.toNat 18) 32 = ((262144 : Nat) : Int) from rfl]; exact (Int.ofNat_fdiv c 262144).symm
theorem wu8 (n : Nat) : IntKind.wrap IntKind.u8 (n : Int) = ((n % 256 : Nat) : Int) := by rw [wrapU8]; rfl
theorem wu32 (n : Nat) (h : n < 4294967296) : IntKind.wrap IntKind.u32 (n : Int) = (n : Int) := by rw [wrapU32]; omega
theorem room1 {n : Nat} (h : n ≤ 1000000000) : roomOk 1 n = true := by
  unfold roomOk
  exact decide_eq_true (by omega)
theorem run111 (t : ByteArray) (c : Int) : bodyE (P := Tryd.prog) (Γ := Γm) [] Lno false 78 [.tmp 4] (bodyOf Tryd.f111) [.hs 0 0 t.size, .v (.int .i32 c)] [bB t] =
  Tree.br (decide (IntKind.wrap IntKind.u32 c ≤ (2047 : Int))) (Tree.chk true (Tree.chk (roomOk (1 : Nat) (ByteArray.size t + (2 : Nat))) (Tree.leaf (Ans.mk (AV.hs (1 : Nat) (0 : Nat)
    (ByteArray.size t + (2 : Nat))) [none, some (Blk.arr (1 : Nat) (ByteArray.size t + (2 : Nat)) fun j => mixL (decide (j < ByteArray.size t)) [AV.v (Value.int IntKind.u8 (sbyte t ((0 :
    Nat) + j)))] (chain [AV.v (Value.int IntKind.u8 (0 : Int))] (0 : Nat) [[AV.v (Value.int IntKind.u8 (bitI BinOp.or IntKind.u8 (192 : Int) (IntKind.wrap IntKind.u8 (Int.fdiv c ((2 : Int) ^
    min (Int.toNat (6 : Int)) (32 : Nat))))))], [AV.v (Value.int IntKind.u8 (bitI BinOp.or IntKind.u8 (128 : Int) (bitI BinOp.and IntKind.u8 (IntKind.wrap IntKind.u8 c) (63 : Int))))]] ((0 :
    Nat) + (j - ByteArray.size t))))])))) (Tree.br (decide (IntKind.wrap IntKind.u32 c < (55296 : Int))) (Tree.br (decide (IntKind.wrap IntKind.u32 c < (55296 : Int))) (Tree.chk true
    (Tree.chk true (Tree.chk (roomOk (1 : Nat) (ByteArray.size t + (3 : Nat))) (Tree.leaf (Ans.mk (AV.hs (1 : Nat) (0 : Nat) (ByteArray.size t + (3 : Nat))) [none, some (Blk.arr (1 : Nat)
    (ByteArray.size t + (3 : Nat)) fun j => mixL (decide (j < ByteArray.size t)) [AV.v (Value.int IntKind.u8 (sbyte t ((0 : Nat) + j)))] (chain [AV.v (Value.int IntKind.u8 (0 : Int))] (0 :
    Nat) [[AV.v (Value.int IntKind.u8 (bitI BinOp.or IntKind.u8 (224 : Int) (IntKind.wrap IntKind.u8 (Int.fdiv c ((2 : Int) ^ min (Int.toNat (12 : Int)) (32 : Nat))))))], [AV.v (Value.int
    IntKind.u8 (bitI BinOp.or IntKind.u8 (128 : Int) (bitI BinOp.and IntKind.u8 (IntKind.wrap IntKind.u8 (Int.fdiv c ((2 : Int) ^ min (Int.toNat (6 : Int)) (32 : Nat)))) (63 : Int))))],
    [AV.v (Value.int IntKind.u8 (bitI BinOp.or IntKind.u8 (128 : Int) (bitI BinOp.and IntKind.u8 (IntKind.wrap IntKind.u8 c) (63 : Int))))]] ((0 : Nat) + (j - ByteArray.size t))))])))))
    (Tree.br (bif decide ((65535 : Int) < IntKind.wrap IntKind.u32 c) then decide (IntKind.wrap IntKind.u32 c ≤ (1114111 : Int)) else false) (Tree.chk true (Tree.chk true (Tree.chk true
    (Tree.chk (roomOk (1 : Nat) (ByteArray.size t + (4 : Nat))) (Tree.leaf (Ans.mk (AV.hs (1 : Nat) (0 : Nat) (ByteArray.size t + (4 : Nat))) [none, some (Blk.arr (1 : Nat) (ByteArray.size t
    + (4 : Nat)) fun j => mixL (decide (j < ByteArray.size t)) [AV.v (Value.int IntKind.u8 (sbyte t ((0 : Nat) + j)))] (chain [AV.v (Value.int IntKind.u8 (0 : Int))] (0 : Nat) [[AV.v
    (Value.int IntKind.u8 (bitI BinOp.or IntKind.u8 (240 : Int) (IntKind.wrap IntKind.u8 (Int.fdiv c ((2 : Int) ^ min (Int.toNat (18 : Int)) (32 : Nat))))))], [AV.v (Value.int IntKind.u8
    (bitI BinOp.or IntKind.u8 (128 : Int) (bitI BinOp.and IntKind.u8 (IntKind.wrap IntKind.u8 (Int.fdiv c ((2 : Int) ^ min (Int.toNat (12 : Int)) (32 : Nat)))) (63 : Int))))], [AV.v
    (Value.int IntKind.u8 (bitI BinOp.or IntKind.u8 (128 : Int) (bitI BinOp.and IntKind.u8 (IntKind.wrap IntKind.u8 (Int.fdiv c ((2 : Int) ^ min (Int.toNat (6 : Int)) (32 : Nat)))) (63 :
    Int))))], [AV.v (Value.int IntKind.u8 (bitI BinOp.or IntKind.u8 (128 : Int) (bitI BinOp.and IntKind.u8 (IntKind.wrap IntKind.u8 c) (63 : Int))))]] ((0 : Nat) + (j - ByteArray.size
    t))))])))))) (Tree.chk (roomOk (1 : Nat) (ByteArray.size t + (3 : Nat))) (Tree.leaf (Ans.mk (AV.hs (1 : Nat) (0 : Nat) (ByteArray.size t + (3 : Nat))) [none, some (Blk.arr (1 : Nat)
    (ByteArray.size t + (3 : Nat)) fun j => mixL (decide (j < ByteArray.size t)) [AV.v (Value.int IntKind.u8 (sbyte t ((0 : Nat) + j)))] (chain [AV.v (Value.int IntKind.u8 (0 : Int))] (0 :
    Nat) [[AV.v (Value.int IntKind.u8 (239 : Int))], [AV.v (Value.int IntKind.u8 (191 : Int))], [AV.v (Value.int IntKind.u8 (189 : Int))]] ((0 : Nat) + (j - ByteArray.size t))))])))))
    (Tree.br (bif decide ((57343 : Int) < IntKind.wrap IntKind.u32 c) then decide (IntKind.wrap IntKind.u32 c ≤ (65535 : Int)) else false) (Tree.chk true (Tree.chk true (Tree.chk (roomOk (1
    : Nat) (ByteArray.size t + (3 : Nat))) (Tree.leaf (Ans.mk (AV.hs (1 : Nat) (0 : Nat) (ByteArray.size t + (3 : Nat))) [none, some (Blk.arr (1 : Nat) (ByteArray.size t + (3 : Nat)) fun j
    => mixL (decide (j < ByteArray.size t)) [AV.v (Value.int IntKind.u8 (sbyte t ((0 : Nat) + j)))] (chain [AV.v (Value.int IntKind.u8 (0 : Int))] (0 : Nat) [[AV.v (Value.int IntKind.u8
    (bitI BinOp.or IntKind.u8 (224 : Int) (IntKind.wrap IntKind.u8 (Int.fdiv c ((2 : Int) ^ min (Int.toNat (12 : Int)) (32 : Nat))))))], [AV.v (Value.int IntKind.u8 (bitI BinOp.or IntKind.u8
    (128 : Int) (bitI BinOp.and IntKind.u8 (IntKind.wrap IntKind.u8 (Int.fdiv c ((2 : Int) ^ min (Int.toNat (6 : Int)) (32 : Nat)))) (63 : Int))))], [AV.v (Value.int IntKind.u8 (bitI
    BinOp.or IntKind.u8 (128 : Int) (bitI BinOp.and IntKind.u8 (IntKind.wrap IntKind.u8 c) (63 : Int))))]] ((0 : Nat) + (j - ByteArray.size t))))]))))) (Tree.br (bif decide ((65535 : Int) <
    IntKind.wrap IntKind.u32 c) then decide (IntKind.wrap IntKind.u32 c ≤ (1114111 : Int)) else false) (Tree.chk true (Tree.chk true (Tree.chk true (Tree.chk (roomOk (1 : Nat)
    (ByteArray.size t + (4 : Nat))) (Tree.leaf (Ans.mk (AV.hs (1 : Nat) (0 : Nat) (ByteArray.size t + (4 : Nat))) [none, some (Blk.arr (1 : Nat) (ByteArray.size t + (4 : Nat)) fun j => mixL
    (decide (j < ByteArray.size t)) [AV.v (Value.int IntKind.u8 (sbyte t ((0 : Nat) + j)))] (chain [AV.v (Value.int IntKind.u8 (0 : Int))] (0 : Nat) [[AV.v (Value.int IntKind.u8 (bitI
    BinOp.or IntKind.u8 (240 : Int) (IntKind.wrap IntKind.u8 (Int.fdiv c ((2 : Int) ^ min (Int.toNat (18 : Int)) (32 : Nat))))))], [AV.v (Value.int IntKind.u8 (bitI BinOp.or IntKind.u8 (128
    : Int) (bitI BinOp.and IntKind.u8 (IntKind.wrap IntKind.u8 (Int.fdiv c ((2 : Int) ^ min (Int.toNat (12 : Int)) (32 : Nat)))) (63 : Int))))], [AV.v (Value.int IntKind.u8 (bitI BinOp.or
    IntKind.u8 (128 : Int) (bitI BinOp.and IntKind.u8 (IntKind.wrap IntKind.u8 (Int.fdiv c ((2 : Int) ^ min (Int.toNat (6 : Int)) (32 : Nat)))) (63 : Int))))], [AV.v (Value.int IntKind.u8
    (bitI BinOp.or IntKind.u8 (128 : Int) (bitI BinOp.and IntKind.u8 (IntKind.wrap IntKind.u8 c) (63 : Int))))]] ((0 : Nat) + (j - ByteArray.size t))))])))))) (Tree.chk (roomOk (1 : Nat)
    (ByteArray.size t + (3 : Nat))) (Tree.leaf (Ans.mk (AV.hs (1 : Nat) (0 : Nat) (ByteArray.size t + (3 : Nat))) [none, some (Blk.arr (1 : Nat) (ByteArray.size t + (3 : Nat)) fun j => mixL
    (decide (j < ByteArray.size t)) [AV.v (Value.int IntKind.u8 (sbyte t ((0 : Nat) + j)))] (chain [AV.v (Value.int IntKind.u8 (0 : Int))] (0 : Nat) [[AV.v (Value.int IntKind.u8 (239 :
    Int))], [AV.v (Value.int IntKind.u8 (191 : Int))], [AV.v (Value.int IntKind.u8 (189 : Int))]] ((0 : Nat) + (j - ByteArray.size t))))])))))) := by kernel_rfl
theorem ans111 {t : ByteArray} {c : Nat} (h : okR c) (h0 : ¬ c < 128) (ht : t.size ≤ 100000000) : Answers Tryd.prog Γm 111 [.hs 0 0 t.size, .v (.int .i32 (c : Int))] [bB t] (.hs 1 0 (t ++ encR c).size) [none] [bB (t ++ encR c)] :=
  answers (fn := Tryd.f111) (c := bodyOf Tryd.f111) (ntmps := 78) (results := [.tmp 4]) [] Lno false Tryd.func111 (by kernel_rfl) (by kernel_rfl) (by kernel_rfl) (by kernel_rfl) (by simp) rfl (noLoops (by kernel_rfl)) <| Meets.of (run111 t (c : Int)) <| by
    have hc : c < 4294967296 := by unfold okR at h; omega
    have hw := wu32 c hc
    have he := encR_eq h
    unfold okR at h
    by_cases h2 : c < 2048
    · rw [if_neg h0, if_pos h2] at he
      have q1 := or192 (c / 64) (by omega)
      have q2 := oran (c % 256) (by omega)
      rw [he]
      have b0 : c / 64 % 256 = c / 64 := by omega
      have b1 : c % 256 % 64 = c % 64 := by omega
      rw [b1] at q2
      repeat' (first | refine wC (by first | omega | (simp only [cl_iff, AV.le_refl, AV.le_any, OLe_refl, LeH_cons, LeH_nil, LeL_cons, LeL_nil, and_true, true_and, Bool.and_eq_true, Bool.or_eq_true, decide_eq_true_eq, notT, Bool.cond_true_left, Bool.cond_false_right, Nat.blt_eq, Nat.zero_add, cond_true, cond_false, Int.toNat_natCast, Bool.not_true, Bool.not_false, Bool.false_eq_true, not_true_eq_false, not_false_eq_true, or_false, false_or, or_true, true_or, and_false, false_and, condIT, hw, fd6, wu8, b0, q1, q2]; first | done | omega)) ?_ | refine wT (by first | omega | (simp only [cl_iff, AV.le_refl, AV.le_any, OLe_refl, LeH_cons, LeH_nil, LeL_cons, LeL_nil, and_true, true_and, Bool.and_eq_true, Bool.or_eq_true, decide_eq_true_eq, notT, Bool.cond_true_left, Bool.cond_false_right, Nat.blt_eq, Nat.zero_add, cond_true, cond_false, Int.toNat_natCast, Bool.not_true, Bool.not_false, Bool.false_eq_true, not_true_eq_false, not_false_eq_true, or_false, false_or, or_true, true_or, and_false, false_and, condIT, hw, fd6, wu8, b0, q1, q2]; first | done | omega)) ?_ | refine wF (by intro _h; first | omega | (simp only [cl_iff, AV.le_refl, AV.le_any, OLe_refl, LeH_cons, LeH_nil, LeL_cons, LeL_nil, and_true, true_and, Bool.and_eq_true, Bool.or_eq_true, decide_eq_true_eq, notT, Bool.cond_true_left, Bool.cond_false_right, Nat.blt_eq, Nat.zero_add, cond_true, cond_false, Int.toNat_natCast, Bool.not_true, Bool.not_false, Bool.false_eq_true, not_true_eq_false, not_false_eq_true, or_false, false_or, or_true, true_or, and_false, false_and, condIT, hw, fd6, wu8, b0, q1, q2] at _h; first | done | omega)) ?_ | (refine wS ?_ ?_ <;> intro _h <;> simp only [cl_iff, AV.le_refl, AV.le_any, OLe_refl, LeH_cons, LeH_nil, LeL_cons, LeL_nil, and_true, true_and, Bool.and_eq_true, Bool.or_eq_true, decide_eq_true_eq, notT, Bool.cond_true_left, Bool.cond_false_right, Nat.blt_eq, Nat.zero_add, cond_true, cond_false, Int.toNat_natCast, Bool.not_true, Bool.not_false, Bool.false_eq_true, not_true_eq_false, not_false_eq_true, or_false, false_or, or_true, true_or, and_false, false_and, condIT, hw, fd6, wu8, b0, q1, q2] at _h))
      all_goals simp only [or_true, true_or, false_or, or_false, and_false, false_and, cond_true, cond_false, Bool.not_true, Bool.not_false, Bool.false_eq_true, Bool.true_eq_false, not_true_eq_false, not_false_eq_true, false_implies, true_implies, implies_true, Nat.blt_eq, owesN, owesX, owesR, notT, sat_brT, sat_brF, sat_chkT, cl_iff, cl_false, AV.le_refl, AV.le_any, OLe_refl, OLe_none, sat_brN, Tree.sat_chk, Tree.sat_leaf, Tree.sat_fail, Nat.zero_add, Nat.sub_zero, Int.toNat_natCast, LeH_cons, LeH_nil, LeL_cons, LeL_nil, and_true, true_and, Bool.and_eq_true, Bool.or_eq_true, decide_eq_true_eq, decide_eq_false_iff_not, Bool.cond_true_left, Bool.cond_false_right, List.cons_append, List.nil_append, List.map_cons, List.map_nil, hw, fd6, wu8, b0, q1, q2]
      repeat' (first | apply And.intro | intro _hc)
      all_goals first | exact room1 (by omega) | exact app2B (by omega) (by omega) | ((rw [ByteArray.size_append]; exact AV.le_refl _)) | exact AV.le_refl _ | exact AV.le_any _ | exact OLe.refl _ | exact OLe.none _ | exact LeH.refl _ | exact LeL.refl _ | exact AV.le.bs _ | exact AV.le.sb _ | omega | contradiction
    by_cases h3 : c < 65536
    · rw [if_neg h0, if_neg h2, if_pos h3] at he
      have q1 := or224 (c / 4096) (by omega)
      have q2 := oran (c / 64 % 256) (by omega)
      have q3 := oran (c % 256) (by omega)
      rw [he]
      have b0 : c / 4096 % 256 = c / 4096 := by omega
      have b1 : c / 64 % 256 % 64 = c / 64 % 64 := by omega
      have b2 : c % 256 % 64 = c % 64 := by omega
      rw [b1] at q2
      rw [b2] at q3
      repeat' (first | refine wC (by first | omega | (simp only [cl_iff, AV.le_refl, AV.le_any, OLe_refl, LeH_cons, LeH_nil, LeL_cons, LeL_nil, and_true, true_and, Bool.and_eq_true, Bool.or_eq_true, decide_eq_true_eq, notT, Bool.cond_true_left, Bool.cond_false_right, Nat.blt_eq, Nat.zero_add, cond_true, cond_false, Int.toNat_natCast, Bool.not_true, Bool.not_false, Bool.false_eq_true, not_true_eq_false, not_false_eq_true, or_false, false_or, or_true, true_or, and_false, false_and, condIT, hw, fd6, fd12, wu8, b0, q1, q2, q3]; first | done | omega)) ?_ | refine wT (by first | omega | (simp only [cl_iff, AV.le_refl, AV.le_any, OLe_refl, LeH_cons, LeH_nil, LeL_cons, LeL_nil, and_true, true_and, Bool.and_eq_true, Bool.or_eq_true, decide_eq_true_eq, notT, Bool.cond_true_left, Bool.cond_false_right, Nat.blt_eq, Nat.zero_add, cond_true, cond_false, Int.toNat_natCast, Bool.not_true, Bool.not_false, Bool.false_eq_true, not_true_eq_false, not_false_eq_true, or_false, false_or, or_true, true_or, and_false, false_and, condIT, hw, fd6, fd12, wu8, b0, q1, q2, q3]; first | done | omega)) ?_ | refine wF (by intro _h; first | omega | (simp only [cl_iff, AV.le_refl, AV.le_any, OLe_refl, LeH_cons, LeH_nil, LeL_cons, LeL_nil, and_true, true_and, Bool.and_eq_true, Bool.or_eq_true, decide_eq_true_eq, notT, Bool.cond_true_left, Bool.cond_false_right, Nat.blt_eq, Nat.zero_add, cond_true, cond_false, Int.toNat_natCast, Bool.not_true, Bool.not_false, Bool.false_eq_true, not_true_eq_false, not_false_eq_true, or_false, false_or, or_true, true_or, and_false, false_and, condIT, hw, fd6, fd12, wu8, b0, q1, q2, q3] at _h; first | done | omega)) ?_ | (refine wS ?_ ?_ <;> intro _h <;> simp only [cl_iff, AV.le_refl, AV.le_any, OLe_refl, LeH_cons, LeH_nil, LeL_cons, LeL_nil, and_true, true_and, Bool.and_eq_true, Bool.or_eq_true, decide_eq_true_eq, notT, Bool.cond_true_left, Bool.cond_false_right, Nat.blt_eq, Nat.zero_add, cond_true, cond_false, Int.toNat_natCast, Bool.not_true, Bool.not_false, Bool.false_eq_true, not_true_eq_false, not_false_eq_true, or_false, false_or, or_true, true_or, and_false, false_and, condIT, hw, fd6, fd12, wu8, b0, q1, q2, q3] at _h))
      all_goals simp only [or_true, true_or, false_or, or_false, and_false, false_and, cond_true, cond_false, Bool.not_true, Bool.not_false, Bool.false_eq_true, Bool.true_eq_false, not_true_eq_false, not_false_eq_true, false_implies, true_implies, implies_true, Nat.blt_eq, owesN, owesX, owesR, notT, sat_brT, sat_brF, sat_chkT, cl_iff, cl_false, AV.le_refl, AV.le_any, OLe_refl, OLe_none, sat_brN, Tree.sat_chk, Tree.sat_leaf, Tree.sat_fail, Nat.zero_add, Nat.sub_zero, Int.toNat_natCast, LeH_cons, LeH_nil, LeL_cons, LeL_nil, and_true, true_and, Bool.and_eq_true, Bool.or_eq_true, decide_eq_true_eq, decide_eq_false_iff_not, Bool.cond_true_left, Bool.cond_false_right, List.cons_append, List.nil_append, List.map_cons, List.map_nil, hw, fd6, fd12, wu8, b0, q1, q2, q3]
      repeat' (first | apply And.intro | intro _hc)
      all_goals first | exact room1 (by omega) | exact app3B (by omega) (by omega) (by omega) | ((rw [ByteArray.size_append]; exact AV.le_refl _)) | exact AV.le_refl _ | exact AV.le_any _ | exact OLe.refl _ | exact OLe.none _ | exact LeH.refl _ | exact LeL.refl _ | exact AV.le.bs _ | exact AV.le.sb _ | omega | contradiction
    · rw [if_neg h0, if_neg h2, if_neg h3] at he
      have q1 := or240 (c / 262144) (by omega)
      have q2 := oran (c / 4096 % 256) (by omega)
      have q3 := oran (c / 64 % 256) (by omega)
      have q4 := oran (c % 256) (by omega)
      rw [he]
      have b0 : c / 262144 % 256 = c / 262144 := by omega
      have b1 : c / 4096 % 256 % 64 = c / 4096 % 64 := by omega
      have b2 : c / 64 % 256 % 64 = c / 64 % 64 := by omega
      have b3 : c % 256 % 64 = c % 64 := by omega
      rw [b1] at q2
      rw [b2] at q3
      rw [b3] at q4
      repeat' (first | refine wC (by first | omega | (simp only [cl_iff, AV.le_refl, AV.le_any, OLe_refl, LeH_cons, LeH_nil, LeL_cons, LeL_nil, and_true, true_and, Bool.and_eq_true, Bool.or_eq_true, decide_eq_true_eq, notT, Bool.cond_true_left, Bool.cond_false_right, Nat.blt_eq, Nat.zero_add, cond_true, cond_false, Int.toNat_natCast, Bool.not_true, Bool.not_false, Bool.false_eq_true, not_true_eq_false, not_false_eq_true, or_false, false_or, or_true, true_or, and_false, false_and, condIT, hw, fd6, fd12, fd18, wu8, b0, q1, q2, q3, q4]; first | done | omega)) ?_ | refine wT (by first | omega | (simp only [cl_iff, AV.le_refl, AV.le_any, OLe_refl, LeH_cons, LeH_nil, LeL_cons, LeL_nil, and_true, true_and, Bool.and_eq_true, Bool.or_eq_true, decide_eq_true_eq, notT, Bool.cond_true_left, Bool.cond_false_right, Nat.blt_eq, Nat.zero_add, cond_true, cond_false, Int.toNat_natCast, Bool.not_true, Bool.not_false, Bool.false_eq_true, not_true_eq_false, not_false_eq_true, or_false, false_or, or_true, true_or, and_false, false_and, condIT, hw, fd6, fd12, fd18, wu8, b0, q1, q2, q3, q4]; first | done | omega)) ?_ | refine wF (by intro _h; first | omega | (simp only [cl_iff, AV.le_refl, AV.le_any, OLe_refl, LeH_cons, LeH_nil, LeL_cons, LeL_nil, and_true, true_and, Bool.and_eq_true, Bool.or_eq_true, decide_eq_true_eq, notT, Bool.cond_true_left, Bool.cond_false_right, Nat.blt_eq, Nat.zero_add, cond_true, cond_false, Int.toNat_natCast, Bool.not_true, Bool.not_false, Bool.false_eq_true, not_true_eq_false, not_false_eq_true, or_false, false_or, or_true, true_or, and_false, false_and, condIT, hw, fd6, fd12, fd18, wu8, b0, q1, q2, q3, q4] at _h; first | done | omega)) ?_ | (refine wS ?_ ?_ <;> intro _h <;> simp only [cl_iff, AV.le_refl, AV.le_any, OLe_refl, LeH_cons, LeH_nil, LeL_cons, LeL_nil, and_true, true_and, Bool.and_eq_true, Bool.or_eq_true, decide_eq_true_eq, notT, Bool.cond_true_left, Bool.cond_false_right, Nat.blt_eq, Nat.zero_add, cond_true, cond_false, Int.toNat_natCast, Bool.not_true, Bool.not_false, Bool.false_eq_true, not_true_eq_false, not_false_eq_true, or_false, false_or, or_true, true_or, and_false, false_and, condIT, hw, fd6, fd12, fd18, wu8, b0, q1, q2, q3, q4] at _h))
      all_goals simp only [or_true, true_or, false_or, or_false, and_false, false_and, cond_true, cond_false, Bool.not_true, Bool.not_false, Bool.false_eq_true, Bool.true_eq_false, not_true_eq_false, not_false_eq_true, false_implies, true_implies, implies_true, Nat.blt_eq, owesN, owesX, owesR, notT, sat_brT, sat_brF, sat_chkT, cl_iff, cl_false, AV.le_refl, AV.le_any, OLe_refl, OLe_none, sat_brN, Tree.sat_chk, Tree.sat_leaf, Tree.sat_fail, Nat.zero_add, Nat.sub_zero, Int.toNat_natCast, LeH_cons, LeH_nil, LeL_cons, LeL_nil, and_true, true_and, Bool.and_eq_true, Bool.or_eq_true, decide_eq_true_eq, decide_eq_false_iff_not, Bool.cond_true_left, Bool.cond_false_right, List.cons_append, List.nil_append, List.map_cons, List.map_nil, hw, fd6, fd12, fd18, wu8, b0, q1, q2, q3, q4]
      repeat' (first | apply And.intro | intro _hc)
      all_goals first | exact room1 (by omega) | exact app4B (by omega) (by omega) (by omega) (by omega) | ((rw [ByteArray.size_append]; exact AV.le_refl _)) | exact AV.le_refl _ | exact AV.le_any _ | exact OLe.refl _ | exact OLe.none _ | exact LeH.refl _ | exact LeL.refl _ | exact AV.le.bs _ | exact AV.le.sb _ | omega | contradiction
theorem run76a (t : ByteArray) (c : Int) : bodyE (P := Tryd.prog) (Γ := Γm) [] Lno false 16 [.tmp 4] (bodyOf Tryd.f76) [.hs 0 0 t.size, .v (.int .i32 c)] [bB t] =
  Tree.br (decide (IntKind.wrap IntKind.u32 c ≤ (127 : Int))) (Tree.chk (roomOk (1 : Nat) (ByteArray.size t + (1 : Nat))) (Tree.leaf (Ans.mk (AV.hs (1 : Nat) (0 : Nat) (ByteArray.size t + (1 :
    Nat))) [none, some (Blk.arr (1 : Nat) (ByteArray.size t + (1 : Nat)) fun j => mixL (decide (j < ByteArray.size t)) [AV.v (Value.int IntKind.u8 (sbyte t ((0 : Nat) + j)))] (chain [AV.v
    (Value.int IntKind.u8 (0 : Int))] (0 : Nat) [[AV.v (Value.int IntKind.u8 (IntKind.wrap IntKind.u8 c))]] ((0 : Nat) + (j - ByteArray.size t))))]))) Tree.fail := by kernel_rfl
theorem run76b (t : ByteArray) (c : Nat) (h : Answers Tryd.prog Γm 111 [.hs 0 0 t.size, .v (.int .i32 (c : Int))] [bB t] (.hs 1 0 (t ++ encR c).size) [none] [bB (t ++ encR c)]) : bodyE (P := Tryd.prog) (Γ := Γm) [CT.at 111 h] Lno false 16 [.tmp 4] (bodyOf Tryd.f76) [.hs 0 0 t.size, .v (.int .i32 (c : Int))] [bB t] =
  Tree.br (decide (IntKind.wrap IntKind.u32 (↑c : Int) ≤ (127 : Int))) (Tree.chk (roomOk (1 : Nat) (ByteArray.size t + (1 : Nat))) (Tree.leaf (Ans.mk (AV.hs (1 : Nat) (0 : Nat) (ByteArray.size
    t + (1 : Nat))) [none, some (Blk.arr (1 : Nat) (ByteArray.size t + (1 : Nat)) fun j => mixL (decide (j < ByteArray.size t)) [AV.v (Value.int IntKind.u8 (sbyte t ((0 : Nat) + j)))] (chain
    [AV.v (Value.int IntKind.u8 (0 : Int))] (0 : Nat) [[AV.v (Value.int IntKind.u8 (IntKind.wrap IntKind.u8 (↑c : Int)))]] ((0 : Nat) + (j - ByteArray.size t))))]))) (Tree.chk (cl (LeL
    [AV.hs (0 : Nat) (0 : Nat) (ByteArray.size t), AV.v (Value.int IntKind.i32 (↑c : Int))] [AV.hs (0 : Nat) (0 : Nat) (ByteArray.size t), AV.v (Value.int IntKind.i32 (↑c : Int))] ∧ LeH
    [some (Blk.arr (1 : Nat) (ByteArray.size t) fun j => [AV.v (Value.int IntKind.u8 (sbyte t j))])] [some (Blk.arr (1 : Nat) (ByteArray.size t) fun j => [AV.v (Value.int IntKind.u8 (sbyte t
    j))])])) (Tree.leaf (Ans.mk (AV.hs (1 : Nat) (0 : Nat) (ByteArray.size (t ++ encR c))) [none, some (Blk.arr (1 : Nat) (ByteArray.size (t ++ encR c)) fun j => [AV.v (Value.int IntKind.u8
    (sbyte (t ++ encR c) j))])]))) := by kernel_rfl
theorem ansApp {t : ByteArray} {c : Nat} (h : okR c) (ht : t.size ≤ 100000000) : Answers Tryd.prog Γm 76 [.hs 0 0 t.size, .v (.int .i32 (c : Int))] [bB t] (.hs 1 0 (t ++ encR c).size) [none] [bB (t ++ encR c)] := by
  have hc : c < 4294967296 := by unfold okR at h; omega
  have hw := wu32 c hc
  by_cases h0 : c < 128
  · refine answers (fn := Tryd.f76) (c := bodyOf Tryd.f76) (ntmps := 16) (results := [.tmp 4]) [] Lno false Tryd.func76 (by kernel_rfl) (by kernel_rfl) (by kernel_rfl) (by kernel_rfl) (by simp) rfl (noLoops (by kernel_rfl)) <| Meets.of (run76a t (c : Int)) <| ?_
    have he := encR_eq h
    rw [if_pos h0] at he
    rw [he]
    have b0 : c % 256 = c := by omega
    repeat' (first | refine wC (by first | omega | (simp only [cl_iff, AV.le_refl, AV.le_any, OLe_refl, LeH_cons, LeH_nil, LeL_cons, LeL_nil, and_true, true_and, Bool.and_eq_true, Bool.or_eq_true, decide_eq_true_eq, notT, Bool.cond_true_left, Bool.cond_false_right, Nat.blt_eq, Nat.zero_add, cond_true, cond_false, Int.toNat_natCast, Bool.not_true, Bool.not_false, Bool.false_eq_true, not_true_eq_false, not_false_eq_true, or_false, false_or, or_true, true_or, and_false, false_and, condIT, hw, wu8, b0]; first | done | omega)) ?_ | refine wT (by first | omega | (simp only [cl_iff, AV.le_refl, AV.le_any, OLe_refl, LeH_cons, LeH_nil, LeL_cons, LeL_nil, and_true, true_and, Bool.and_eq_true, Bool.or_eq_true, decide_eq_true_eq, notT, Bool.cond_true_left, Bool.cond_false_right, Nat.blt_eq, Nat.zero_add, cond_true, cond_false, Int.toNat_natCast, Bool.not_true, Bool.not_false, Bool.false_eq_true, not_true_eq_false, not_false_eq_true, or_false, false_or, or_true, true_or, and_false, false_and, condIT, hw, wu8, b0]; first | done | omega)) ?_ | refine wF (by intro _h; first | omega | (simp only [cl_iff, AV.le_refl, AV.le_any, OLe_refl, LeH_cons, LeH_nil, LeL_cons, LeL_nil, and_true, true_and, Bool.and_eq_true, Bool.or_eq_true, decide_eq_true_eq, notT, Bool.cond_true_left, Bool.cond_false_right, Nat.blt_eq, Nat.zero_add, cond_true, cond_false, Int.toNat_natCast, Bool.not_true, Bool.not_false, Bool.false_eq_true, not_true_eq_false, not_false_eq_true, or_false, false_or, or_true, true_or, and_false, false_and, condIT, hw, wu8, b0] at _h; first | done | omega)) ?_ | (refine wS ?_ ?_ <;> intro _h <;> simp only [cl_iff, AV.le_refl, AV.le_any, OLe_refl, LeH_cons, LeH_nil, LeL_cons, LeL_nil, and_true, true_and, Bool.and_eq_true, Bool.or_eq_true, decide_eq_true_eq, notT, Bool.cond_true_left, Bool.cond_false_right, Nat.blt_eq, Nat.zero_add, cond_true, cond_false, Int.toNat_natCast, Bool.not_true, Bool.not_false, Bool.false_eq_true, not_true_eq_false, not_false_eq_true, or_false, false_or, or_true, true_or, and_false, false_and, condIT, hw, wu8, b0] at _h))
    all_goals simp only [or_true, true_or, false_or, or_false, and_false, false_and, cond_true, cond_false, Bool.not_true, Bool.not_false, Bool.false_eq_true, Bool.true_eq_false, not_true_eq_false, not_false_eq_true, false_implies, true_implies, implies_true, Nat.blt_eq, owesN, owesX, owesR, notT, sat_brT, sat_brF, sat_chkT, cl_iff, cl_false, AV.le_refl, AV.le_any, OLe_refl, OLe_none, sat_brN, Tree.sat_chk, Tree.sat_leaf, Tree.sat_fail, Nat.zero_add, Nat.sub_zero, Int.toNat_natCast, LeH_cons, LeH_nil, LeL_cons, LeL_nil, and_true, true_and, Bool.and_eq_true, Bool.or_eq_true, decide_eq_true_eq, decide_eq_false_iff_not, Bool.cond_true_left, Bool.cond_false_right, List.cons_append, List.nil_append, List.map_cons, List.map_nil, hw, wu8, b0]
    repeat' (first | apply And.intro | intro _hc)
    all_goals first | exact room1 (by omega) | exact app1B (by omega) | ((rw [ByteArray.size_append]; exact AV.le_refl _)) | exact AV.le_refl _ | exact AV.le_any _ | exact OLe.refl _ | exact OLe.none _ | exact LeH.refl _ | exact LeL.refl _ | exact AV.le.bs _ | exact AV.le.sb _ | omega | contradiction
  · refine answers (fn := Tryd.f76) (c := bodyOf Tryd.f76) (ntmps := 16) (results := [.tmp 4]) [CT.at 111 (ans111 h h0 ht)] Lno false Tryd.func76 (by kernel_rfl) (by kernel_rfl) (by kernel_rfl) (by kernel_rfl) (by simp) rfl (noLoops (by kernel_rfl)) <| Meets.of (run76b t c (ans111 h h0 ht)) <| ?_
    repeat' (first | refine wC (by first | omega | (simp only [cl_iff, AV.le_refl, AV.le_any, OLe_refl, LeH_cons, LeH_nil, LeL_cons, LeL_nil, and_true, true_and, Bool.and_eq_true, Bool.or_eq_true, decide_eq_true_eq, notT, Bool.cond_true_left, Bool.cond_false_right, Nat.blt_eq, Nat.zero_add, cond_true, cond_false, Int.toNat_natCast, Bool.not_true, Bool.not_false, Bool.false_eq_true, not_true_eq_false, not_false_eq_true, or_false, false_or, or_true, true_or, and_false, false_and, condIT, hw]; first | done | omega)) ?_ | refine wT (by first | omega | (simp only [cl_iff, AV.le_refl, AV.le_any, OLe_refl, LeH_cons, LeH_nil, LeL_cons, LeL_nil, and_true, true_and, Bool.and_eq_true, Bool.or_eq_true, decide_eq_true_eq, notT, Bool.cond_true_left, Bool.cond_false_right, Nat.blt_eq, Nat.zero_add, cond_true, cond_false, Int.toNat_natCast, Bool.not_true, Bool.not_false, Bool.false_eq_true, not_true_eq_false, not_false_eq_true, or_false, false_or, or_true, true_or, and_false, false_and, condIT, hw]; first | done | omega)) ?_ | refine wF (by intro _h; first | omega | (simp only [cl_iff, AV.le_refl, AV.le_any, OLe_refl, LeH_cons, LeH_nil, LeL_cons, LeL_nil, and_true, true_and, Bool.and_eq_true, Bool.or_eq_true, decide_eq_true_eq, notT, Bool.cond_true_left, Bool.cond_false_right, Nat.blt_eq, Nat.zero_add, cond_true, cond_false, Int.toNat_natCast, Bool.not_true, Bool.not_false, Bool.false_eq_true, not_true_eq_false, not_false_eq_true, or_false, false_or, or_true, true_or, and_false, false_and, condIT, hw] at _h; first | done | omega)) ?_ | (refine wS ?_ ?_ <;> intro _h <;> simp only [cl_iff, AV.le_refl, AV.le_any, OLe_refl, LeH_cons, LeH_nil, LeL_cons, LeL_nil, and_true, true_and, Bool.and_eq_true, Bool.or_eq_true, decide_eq_true_eq, notT, Bool.cond_true_left, Bool.cond_false_right, Nat.blt_eq, Nat.zero_add, cond_true, cond_false, Int.toNat_natCast, Bool.not_true, Bool.not_false, Bool.false_eq_true, not_true_eq_false, not_false_eq_true, or_false, false_or, or_true, true_or, and_false, false_and, condIT, hw] at _h))
    all_goals simp only [or_true, true_or, false_or, or_false, and_false, false_and, cond_true, cond_false, Bool.not_true, Bool.not_false, Bool.false_eq_true, Bool.true_eq_false, not_true_eq_false, not_false_eq_true, false_implies, true_implies, implies_true, Nat.blt_eq, owesN, owesX, owesR, notT, sat_brT, sat_brF, sat_chkT, cl_iff, cl_false, AV.le_refl, AV.le_any, OLe_refl, OLe_none, sat_brN, Tree.sat_chk, Tree.sat_leaf, Tree.sat_fail, Nat.zero_add, Nat.sub_zero, Int.toNat_natCast, LeH_cons, LeH_nil, LeL_cons, LeL_nil, and_true, true_and, Bool.and_eq_true, Bool.or_eq_true, decide_eq_true_eq, decide_eq_false_iff_not, Bool.cond_true_left, Bool.cond_false_right, List.cons_append, List.nil_append, List.map_cons, List.map_nil, hw]
    repeat' (first | apply And.intro | intro _hc)
    all_goals first | exact AV.le_refl _ | exact AV.le_any _ | exact OLe.refl _ | exact OLe.none _ | exact LeH.refl _ | exact LeL.refl _ | exact AV.le.bs _ | exact AV.le.sb _ | omega | contradiction
end Go.Eng.TA

/- names: the chapter's example. -/
namespace Go.Eng.TA
open Go Go.Eng Go.Proofs
set_option linter.unusedSimpArgs false
set_option linter.unusedVariables false
/-- (hallmoot/name.span).has -/
noncomputable def z25 : CT Tryd.prog Γm := CT.auto true 100 3 [] 109 Tryd.f109 (bodyOf Tryd.f109) false 21 [.tmp 4] Tryd.func109 (by kernel_rfl) (by kernel_rfl) (by kernel_rfl) (by kernel_rfl)
/-- hallmoot/name.great -/
noncomputable def z26 : CT Tryd.prog Γm := CT.auto true 100 3 [z25] 112 Tryd.f112 (bodyOf Tryd.f112) false 16 [.tmp 2] Tryd.func112 (by kernel_rfl) (by kernel_rfl) (by kernel_rfl) (by kernel_rfl)
/-- hallmoot/name.Small -/
noncomputable def z12 : CT Tryd.prog Γm := CT.auto true 100 3 [z26] 77 Tryd.f77 (bodyOf Tryd.f77) false 8 [.tmp 2] Tryd.func77 (by kernel_rfl) (by kernel_rfl) (by kernel_rfl) (by kernel_rfl)
/-- hallmoot/name.Letter -/
noncomputable def z10 : CT Tryd.prog Γm := CT.auto true 100 3 [z25] 73 Tryd.f73 (bodyOf Tryd.f73) false 19 [.tmp 2] Tryd.func73 (by kernel_rfl) (by kernel_rfl) (by kernel_rfl) (by kernel_rfl)
/-- hallmoot/name.broken -/
noncomputable def z28 : CT Tryd.prog Γm := CT.auto true 100 3 [] 75 Tryd.f75 (bodyOf Tryd.f75) false 20 [.tmp 6] Tryd.func75 (by kernel_rfl) (by kernel_rfl) (by kernel_rfl) (by kernel_rfl)
/-- unicode/utf8.appendRuneNonASCII -/
noncomputable def z34 : CT Tryd.prog Γm := CT.auto true 100 3 [] 111 Tryd.f111 (bodyOf Tryd.f111) false 78 [.tmp 4] Tryd.func111 (by kernel_rfl) (by kernel_rfl) (by kernel_rfl) (by kernel_rfl)
/-- unicode/utf8.AppendRune -/
noncomputable def z29 : CT Tryd.prog Γm := CT.auto true 100 3 [z34] 76 Tryd.f76 (bodyOf Tryd.f76) false 16 [.tmp 4] Tryd.func76 (by kernel_rfl) (by kernel_rfl) (by kernel_rfl) (by kernel_rfl)
/-- hallmoot/name.Check -/
noncomputable def z17 : CT Tryd.prog Γm := CT.auto true 100 3 [z10] 20 Tryd.f20 (bodyOf Tryd.f20) false 41 [.tmp 2] Tryd.func20 (by kernel_rfl) (by kernel_rfl) (by kernel_rfl) (by kernel_rfl)
/-- hallmoot/name.Fold -/
noncomputable def z21 : CT Tryd.prog Γm := CT.auto true 100 3 [z28, z29, z12, z17] 24 Tryd.f24 (bodyOf Tryd.f24) false 30 [.tmp 2, .tmp 3] Tryd.func24 (by kernel_rfl) (by kernel_rfl) (by kernel_rfl) (by kernel_rfl)
/-- hallmoot/name.Cut -/
noncomputable def z14 : CT Tryd.prog Γm := CT.auto true 100 3 [] 17 Tryd.f17 (bodyOf Tryd.f17) false 25 [.tmp 4, .tmp 5] Tryd.func17 (by kernel_rfl) (by kernel_rfl) (by kernel_rfl) (by kernel_rfl)
theorem run8 : (bodyE (P := Tryd.prog) (Γ := Γm) [z21, z14, z17] (autoL true 100 [z21, z14, z17] false 0 35 (loopBodies (bodyOf Tryd.f15)) 3) false 35 [.tmp 0] (bodyOf Tryd.f15) [] []).get = some ⟨.sb true, []⟩ := by kernel_rfl
/-- the example holds -/
noncomputable def z8 : CT Tryd.prog Γm := CT.fact 15 Tryd.f15 (bodyOf Tryd.f15) [z21, z14, z17] (autoL true 100 [z21, z14, z17] false 0 35 (loopBodies (bodyOf Tryd.f15)) 3) false 35 [.tmp 0] Tryd.func15 (by kernel_rfl) (by kernel_rfl) (by kernel_rfl) (by kernel_rfl) (autoL_ok 3) (.sb true) (.sb true) run8
end Go.Eng.TA

/- names: folded names. -/
namespace Go.Eng.TA
open Go Go.Eng Go.Eng.M Go.Lib Go.Proofs
set_option linter.unusedSimpArgs false
set_option linter.unusedVariables false
def smallN (c : Nat) : Nat := bif greatB (c : Int) then c + 32 else c
theorem smallF_nat (c : Nat) : smallF (c : Int) = ((smallN c : Nat) : Int) := by
  unfold smallF smallN
  cases greatB (c : Int) <;> rfl
theorem small_ok {c : Nat} (h : okR c) : okR (smallN c) := by
  unfold smallN
  cases hg : greatB (c : Int) with
  | true =>
    have := great_iff.1 hg
    unfold okR
    simp only [cond_true]
    omega
  | false => exact h
def catR : List Nat → ByteArray
  | [] => ⟨#[]⟩
  | c :: l => encR c ++ catR l
def foldFrom (s : ByteArray) (p : Nat) : ByteArray := catR ((rns s p).map smallN)
def foldB (s : ByteArray) : ByteArray := foldFrom s 0
def foldOk (s : ByteArray) : Bool := good s 0 && nameB (foldB s)
theorem catR_size {l : List Nat} (h : ∀ c ∈ l, okR c) : (catR l).size ≤ 4 * l.length := by
  induction l with
  | nil => exact Nat.le_refl _
  | cons c l ih =>
    have h1 := encR_size (h c (List.mem_cons_self ..))
    have h2 := ih fun d hd => h d (List.mem_cons_of_mem _ hd)
    rw [catR, ByteArray.size_append, List.length_cons]; omega
theorem foldFrom_size (s : ByteArray) (p : Nat) : (foldFrom s p).size ≤ 4 * (s.size - p) := by
  have h1 := catR_size (l := (rns s p).map smallN) (by
    intro c hc
    obtain ⟨d, hd, rfl⟩ := List.mem_map.1 hc
    exact small_ok (rns_ok d hd))
  rw [List.length_map] at h1
  have h2 : (rns s p).length ≤ s.size - p := rns_len
  unfold foldFrom
  omega
theorem foldFrom_step {s : ByteArray} {p : Nat} (h : p < s.size) : foldFrom s p = encR (smallN (Utf8.decode s p).1) ++ foldFrom s (p + (Utf8.decode s p).2) := by
  unfold foldFrom
  rw [rns_step h]; rfl
theorem foldFrom_end {s : ByteArray} {p : Nat} (h : s.size ≤ p) : foldFrom s p = ⟨#[]⟩ := by
  unfold foldFrom
  rw [rns_end h]; rfl
theorem b_assoc (a b c : ByteArray) : a ++ b ++ c = a ++ (b ++ c) := ByteArray.append_assoc
structure XF where
  p : Nat
  t : ByteArray
noncomputable abbrev lpFd : Code := loopOf (bodyOf Tryd.f24) 0
abbrev lvFd : List Nat := [0, 4, 9, 2, 3]
abbrev nlFd : List (Nat × TypeId) := [(1, 5)]
def SFd (s : ByteArray) (x : XF) : List AV × Heap := ([.v (.string s), .hs 0 0 x.t.size, .its 1, .any, .any], [some (bB x.t), some (.sit s x.p)])
def retFd : Out := ⟨.ret, [.any, .any, .any, .v (.string ⟨#[]⟩), .v (.int .i64 20)], [none, none]⟩
def endFd (s : ByteArray) : Out := ⟨.exit 0, [.any, .hs 0 0 (foldB s).size, .any, .any, .any], [some (bB (foldB s)), none]⟩
def OFd (s : ByteArray) : Out := bif good s 0 then endFd s else retFd
theorem rFdR (s : ByteArray) (x : XF) : roundE (P := Tryd.prog) (Γ := Γm) [k75] Lno false 0 0 lpFd lvFd nlFd 30 (SFd s x).1 (SFd s x).2 =
  Tree.br (decide (x.p < ByteArray.size s)) (Tree.chk (cl (((0 : Int) ≤ (↑x.p : Int) ∧ (↑x.p : Int) < (↑(ByteArray.size s) : Int) ∧ (↑(Utf8.decode s x.p).fst : Int) = (↑(Utf8.decode s x.p).fst
    : Int)) ∧ LeL [AV.v (Value.string s), AV.v (Value.int IntKind.i64 (↑x.p : Int)), AV.v (Value.int IntKind.i32 (↑(Utf8.decode s x.p).fst : Int))] [AV.v (Value.string s), AV.v (Value.int
    IntKind.i64 (↑x.p : Int)), AV.v (Value.int IntKind.i32 (↑(Utf8.decode s x.p).fst : Int))] ∧ LeH [] [])) (Tree.br (!okAt s x.p) (Tree.leaf (Out.mk AEx.ret [AV.v (Value.string s), AV.hs (0
    : Nat) (0 : Nat) (ByteArray.size x.t), AV.its (1 : Nat), AV.v (Value.string (ByteArray.mk #[])), AV.v (Value.int IntKind.i64 (20 : Int))] [some (Blk.arr (1 : Nat) (ByteArray.size x.t)
    fun j => [AV.v (Value.int IntKind.u8 (sbyte x.t j))]), some (Blk.sit s (x.p + (Utf8.decode s x.p).snd))])) Tree.fail)) (Tree.leaf (Out.mk (AEx.exit (0 : Nat)) [AV.v (Value.string s),
    AV.hs (0 : Nat) (0 : Nat) (ByteArray.size x.t), AV.its (1 : Nat), AV.any, AV.any] [some (Blk.arr (1 : Nat) (ByteArray.size x.t) fun j => [AV.v (Value.int IntKind.u8 (sbyte x.t j))]),
    some (Blk.sit s x.p)])) := by kernel_rfl
theorem rFd (s : ByteArray) (x : XF) (u : ByteArray) (h : Answers Tryd.prog Γm 76 [.hs 0 0 x.t.size, .v (.int .i32 (smallF ((Utf8.decode s x.p).1 : Int)))] [bB x.t] (.hs 1 0 u.size) [none] [bB u]) : roundE (P := Tryd.prog) (Γ := Γm) [k75, c12', CT.at 76 h] Lno false 0 0 lpFd lvFd nlFd 30 (SFd s x).1 (SFd s x).2 =
  Tree.br (decide (x.p < ByteArray.size s)) (Tree.chk (cl (((0 : Int) ≤ (↑x.p : Int) ∧ (↑x.p : Int) < (↑(ByteArray.size s) : Int) ∧ (↑(Utf8.decode s x.p).fst : Int) = (↑(Utf8.decode s x.p).fst
    : Int)) ∧ LeL [AV.v (Value.string s), AV.v (Value.int IntKind.i64 (↑x.p : Int)), AV.v (Value.int IntKind.i32 (↑(Utf8.decode s x.p).fst : Int))] [AV.v (Value.string s), AV.v (Value.int
    IntKind.i64 (↑x.p : Int)), AV.v (Value.int IntKind.i32 (↑(Utf8.decode s x.p).fst : Int))] ∧ LeH [] [])) (Tree.br (!okAt s x.p) (Tree.leaf (Out.mk AEx.ret [AV.v (Value.string s), AV.hs (0
    : Nat) (0 : Nat) (ByteArray.size x.t), AV.its (1 : Nat), AV.v (Value.string (ByteArray.mk #[])), AV.v (Value.int IntKind.i64 (20 : Int))] [some (Blk.arr (1 : Nat) (ByteArray.size x.t)
    fun j => [AV.v (Value.int IntKind.u8 (sbyte x.t j))]), some (Blk.sit s (x.p + (Utf8.decode s x.p).snd))])) (Tree.chk true (Tree.chk (cl (LeL [AV.hs (0 : Nat) (0 : Nat) (ByteArray.size
    x.t), AV.v (Value.int IntKind.i32 (smallF (↑(Utf8.decode s x.p).fst : Int)))] [AV.hs (0 : Nat) (0 : Nat) (ByteArray.size x.t), AV.v (Value.int IntKind.i32 (smallF (↑(Utf8.decode s
    x.p).fst : Int)))] ∧ LeH [some (Blk.arr (1 : Nat) (ByteArray.size x.t) fun j => [AV.v (Value.int IntKind.u8 (sbyte x.t j))])] [some (Blk.arr (1 : Nat) (ByteArray.size x.t) fun j => [AV.v
    (Value.int IntKind.u8 (sbyte x.t j))])])) (Tree.leaf (Out.mk AEx.normal [AV.v (Value.string s), AV.hs (0 : Nat) (0 : Nat) (ByteArray.size u), AV.its (1 : Nat), AV.any, AV.any] [some
    (Blk.arr (1 : Nat) (ByteArray.size u) fun j => [AV.v (Value.int IntKind.u8 (sbyte u j))]), some (Blk.sit s (x.p + (Utf8.decode s x.p).snd))])))))) (Tree.leaf (Out.mk (AEx.exit (0 : Nat))
    [AV.v (Value.string s), AV.hs (0 : Nat) (0 : Nat) (ByteArray.size x.t), AV.its (1 : Nat), AV.any, AV.any] [some (Blk.arr (1 : Nat) (ByteArray.size x.t) fun j => [AV.v (Value.int
    IntKind.u8 (sbyte x.t j))]), some (Blk.sit s x.p)])) := by kernel_rfl
theorem loopFd {s : ByteArray} (hs : s.size ≤ 10000000) : ∀ x : XF, (x.p ≤ s.size ∧ x.t ++ foldFrom s x.p = foldB s ∧ good s x.p = good s 0) → LoopOK Tryd.prog Γm 0 30 lpFd (LSpec.at lvFd nlFd (SFd s x) (OFd s)) := by
  refine loop_at (S := SFd s) (O := fun _ => OFd s) (k := 0) (fun x => s.size - x.p) fun x hp => ?_
  obtain ⟨p, t⟩ := x
  obtain ⟨h1, h2, h3⟩ := hp
  dsimp only at h1 h2 h3
  have hz := foldFrom_size s 0
  have hz2 : t.size ≤ (foldB s).size := by rw [← h2, ByteArray.size_append]; omega
  unfold foldB at hz2
  rcases Nat.lt_or_ge p s.size with hi | hi
  · have hd := dec_pos s p
    have hle := dec_le hi
    rw [foldFrom_step hi, ← b_assoc] at h2
    rw [good_ok hi] at h3
    have hA := ansApp (t := t) (small_ok (dec_ok s p)) (by omega)
    rw [← smallF_nat] at hA
    cases ho : okAt s p with
    | true =>
      rw [ho, Bool.true_and] at h3
      refine .of (noLoops (by kernel_rfl)) (rFd s ⟨p, t⟩ _ hA) ?_
      repeat' (first | refine wC (by first | omega | (simp only [cl_iff, AV.le_refl, AV.le_any, OLe_refl, LeH_cons, LeH_nil, LeL_cons, LeL_nil, and_true, true_and, Bool.and_eq_true, Bool.or_eq_true, decide_eq_true_eq, notT, Bool.cond_true_left, Bool.cond_false_right, Nat.blt_eq, Nat.zero_add, cond_true, cond_false, Int.toNat_natCast, Bool.not_true, Bool.not_false, Bool.false_eq_true, not_true_eq_false, not_false_eq_true, or_false, false_or, or_true, true_or, and_false, false_and, condIT, ho]; first | done | omega)) ?_ | refine wT (by first | omega | (simp only [cl_iff, AV.le_refl, AV.le_any, OLe_refl, LeH_cons, LeH_nil, LeL_cons, LeL_nil, and_true, true_and, Bool.and_eq_true, Bool.or_eq_true, decide_eq_true_eq, notT, Bool.cond_true_left, Bool.cond_false_right, Nat.blt_eq, Nat.zero_add, cond_true, cond_false, Int.toNat_natCast, Bool.not_true, Bool.not_false, Bool.false_eq_true, not_true_eq_false, not_false_eq_true, or_false, false_or, or_true, true_or, and_false, false_and, condIT, ho]; first | done | omega)) ?_ | refine wF (by intro _h; first | omega | (simp only [cl_iff, AV.le_refl, AV.le_any, OLe_refl, LeH_cons, LeH_nil, LeL_cons, LeL_nil, and_true, true_and, Bool.and_eq_true, Bool.or_eq_true, decide_eq_true_eq, notT, Bool.cond_true_left, Bool.cond_false_right, Nat.blt_eq, Nat.zero_add, cond_true, cond_false, Int.toNat_natCast, Bool.not_true, Bool.not_false, Bool.false_eq_true, not_true_eq_false, not_false_eq_true, or_false, false_or, or_true, true_or, and_false, false_and, condIT, ho] at _h; first | done | omega)) ?_ | (refine wS ?_ ?_ <;> intro _h <;> simp only [cl_iff, AV.le_refl, AV.le_any, OLe_refl, LeH_cons, LeH_nil, LeL_cons, LeL_nil, and_true, true_and, Bool.and_eq_true, Bool.or_eq_true, decide_eq_true_eq, notT, Bool.cond_true_left, Bool.cond_false_right, Nat.blt_eq, Nat.zero_add, cond_true, cond_false, Int.toNat_natCast, Bool.not_true, Bool.not_false, Bool.false_eq_true, not_true_eq_false, not_false_eq_true, or_false, false_or, or_true, true_or, and_false, false_and, condIT, ho] at _h))
      all_goals simp only [or_true, true_or, false_or, or_false, and_false, false_and, cond_true, cond_false, Bool.not_true, Bool.not_false, Bool.false_eq_true, Bool.true_eq_false, not_true_eq_false, not_false_eq_true, false_implies, true_implies, implies_true, Nat.blt_eq, owesN, owesX, owesR, notT, sat_brT, sat_brF, sat_chkT, cl_iff, cl_false, AV.le_refl, AV.le_any, OLe_refl, OLe_none, sat_brN, Tree.sat_chk, Tree.sat_leaf, Tree.sat_fail, Nat.zero_add, Nat.sub_zero, Int.toNat_natCast, LeH_cons, LeH_nil, LeL_cons, LeL_nil, and_true, true_and, Bool.and_eq_true, Bool.or_eq_true, decide_eq_true_eq, decide_eq_false_iff_not, Bool.cond_true_left, Bool.cond_false_right, List.cons_append, List.nil_append, List.map_cons, List.map_nil, ho]
      repeat' (first | apply And.intro | intro _hc)
      all_goals first | exact ⟨⟨p + (Utf8.decode s p).2, t ++ encR (smallN (Utf8.decode s p).1)⟩, LeL.refl _, LeH.refl _, ⟨hle, h2, h3⟩, by dsimp only; omega⟩ | exact AV.le_refl _ | exact AV.le_any _ | exact OLe.refl _ | exact OLe.none _ | exact LeH.refl _ | exact LeL.refl _ | exact AV.le.bs _ | exact AV.le.sb _ | omega | contradiction
    | false =>
      rw [ho, Bool.false_and] at h3
      rw [show OFd s = retFd by unfold OFd; rw [← h3]; rfl]
      refine .of (noLoops (by kernel_rfl)) (rFdR s ⟨p, t⟩) ?_
      repeat' (first | refine wC (by first | omega | (simp only [cl_iff, AV.le_refl, AV.le_any, OLe_refl, LeH_cons, LeH_nil, LeL_cons, LeL_nil, and_true, true_and, Bool.and_eq_true, Bool.or_eq_true, decide_eq_true_eq, notT, Bool.cond_true_left, Bool.cond_false_right, Nat.blt_eq, Nat.zero_add, cond_true, cond_false, Int.toNat_natCast, Bool.not_true, Bool.not_false, Bool.false_eq_true, not_true_eq_false, not_false_eq_true, or_false, false_or, or_true, true_or, and_false, false_and, condIT, ho]; first | done | omega)) ?_ | refine wT (by first | omega | (simp only [cl_iff, AV.le_refl, AV.le_any, OLe_refl, LeH_cons, LeH_nil, LeL_cons, LeL_nil, and_true, true_and, Bool.and_eq_true, Bool.or_eq_true, decide_eq_true_eq, notT, Bool.cond_true_left, Bool.cond_false_right, Nat.blt_eq, Nat.zero_add, cond_true, cond_false, Int.toNat_natCast, Bool.not_true, Bool.not_false, Bool.false_eq_true, not_true_eq_false, not_false_eq_true, or_false, false_or, or_true, true_or, and_false, false_and, condIT, ho]; first | done | omega)) ?_ | refine wF (by intro _h; first | omega | (simp only [cl_iff, AV.le_refl, AV.le_any, OLe_refl, LeH_cons, LeH_nil, LeL_cons, LeL_nil, and_true, true_and, Bool.and_eq_true, Bool.or_eq_true, decide_eq_true_eq, notT, Bool.cond_true_left, Bool.cond_false_right, Nat.blt_eq, Nat.zero_add, cond_true, cond_false, Int.toNat_natCast, Bool.not_true, Bool.not_false, Bool.false_eq_true, not_true_eq_false, not_false_eq_true, or_false, false_or, or_true, true_or, and_false, false_and, condIT, ho] at _h; first | done | omega)) ?_ | (refine wS ?_ ?_ <;> intro _h <;> simp only [cl_iff, AV.le_refl, AV.le_any, OLe_refl, LeH_cons, LeH_nil, LeL_cons, LeL_nil, and_true, true_and, Bool.and_eq_true, Bool.or_eq_true, decide_eq_true_eq, notT, Bool.cond_true_left, Bool.cond_false_right, Nat.blt_eq, Nat.zero_add, cond_true, cond_false, Int.toNat_natCast, Bool.not_true, Bool.not_false, Bool.false_eq_true, not_true_eq_false, not_false_eq_true, or_false, false_or, or_true, true_or, and_false, false_and, condIT, ho] at _h))
      all_goals simp only [or_true, true_or, false_or, or_false, and_false, false_and, cond_true, cond_false, Bool.not_true, Bool.not_false, Bool.false_eq_true, Bool.true_eq_false, not_true_eq_false, not_false_eq_true, false_implies, true_implies, implies_true, Nat.blt_eq, owesN, owesX, owesR, notT, sat_brT, sat_brF, sat_chkT, cl_iff, cl_false, AV.le_refl, AV.le_any, OLe_refl, OLe_none, sat_brN, Tree.sat_chk, Tree.sat_leaf, Tree.sat_fail, Nat.zero_add, Nat.sub_zero, Int.toNat_natCast, LeH_cons, LeH_nil, LeL_cons, LeL_nil, and_true, true_and, Bool.and_eq_true, Bool.or_eq_true, decide_eq_true_eq, decide_eq_false_iff_not, Bool.cond_true_left, Bool.cond_false_right, List.cons_append, List.nil_append, List.map_cons, List.map_nil, ho]
      repeat' (first | apply And.intro | intro _hc)
      all_goals first | exact rfl | exact AV.le_refl _ | exact AV.le_any _ | exact OLe.refl _ | exact OLe.none _ | exact LeH.refl _ | exact LeL.refl _ | exact AV.le.bs _ | exact AV.le.sb _ | omega | contradiction
  · rw [foldFrom_end hi, append_empty] at h2
    rw [good_end hi] at h3
    subst h2
    rw [show OFd s = endFd s by unfold OFd; rw [← h3]; rfl]
    refine .of (noLoops (by kernel_rfl)) (rFdR s ⟨p, foldB s⟩) ?_
    repeat' (first | refine wC (by first | omega | (simp only [cl_iff, AV.le_refl, AV.le_any, OLe_refl, LeH_cons, LeH_nil, LeL_cons, LeL_nil, and_true, true_and, Bool.and_eq_true, Bool.or_eq_true, decide_eq_true_eq, notT, Bool.cond_true_left, Bool.cond_false_right, Nat.blt_eq, Nat.zero_add, cond_true, cond_false, Int.toNat_natCast, Bool.not_true, Bool.not_false, Bool.false_eq_true, not_true_eq_false, not_false_eq_true, or_false, false_or, or_true, true_or, and_false, false_and, condIT]; first | done | omega)) ?_ | refine wT (by first | omega | (simp only [cl_iff, AV.le_refl, AV.le_any, OLe_refl, LeH_cons, LeH_nil, LeL_cons, LeL_nil, and_true, true_and, Bool.and_eq_true, Bool.or_eq_true, decide_eq_true_eq, notT, Bool.cond_true_left, Bool.cond_false_right, Nat.blt_eq, Nat.zero_add, cond_true, cond_false, Int.toNat_natCast, Bool.not_true, Bool.not_false, Bool.false_eq_true, not_true_eq_false, not_false_eq_true, or_false, false_or, or_true, true_or, and_false, false_and, condIT]; first | done | omega)) ?_ | refine wF (by intro _h; first | omega | (simp only [cl_iff, AV.le_refl, AV.le_any, OLe_refl, LeH_cons, LeH_nil, LeL_cons, LeL_nil, and_true, true_and, Bool.and_eq_true, Bool.or_eq_true, decide_eq_true_eq, notT, Bool.cond_true_left, Bool.cond_false_right, Nat.blt_eq, Nat.zero_add, cond_true, cond_false, Int.toNat_natCast, Bool.not_true, Bool.not_false, Bool.false_eq_true, not_true_eq_false, not_false_eq_true, or_false, false_or, or_true, true_or, and_false, false_and, condIT] at _h; first | done | omega)) ?_ | (refine wS ?_ ?_ <;> intro _h <;> simp only [cl_iff, AV.le_refl, AV.le_any, OLe_refl, LeH_cons, LeH_nil, LeL_cons, LeL_nil, and_true, true_and, Bool.and_eq_true, Bool.or_eq_true, decide_eq_true_eq, notT, Bool.cond_true_left, Bool.cond_false_right, Nat.blt_eq, Nat.zero_add, cond_true, cond_false, Int.toNat_natCast, Bool.not_true, Bool.not_false, Bool.false_eq_true, not_true_eq_false, not_false_eq_true, or_false, false_or, or_true, true_or, and_false, false_and, condIT] at _h))
    all_goals simp only [or_true, true_or, false_or, or_false, and_false, false_and, cond_true, cond_false, Bool.not_true, Bool.not_false, Bool.false_eq_true, Bool.true_eq_false, not_true_eq_false, not_false_eq_true, false_implies, true_implies, implies_true, Nat.blt_eq, owesN, owesX, owesR, notT, sat_brT, sat_brF, sat_chkT, cl_iff, cl_false, AV.le_refl, AV.le_any, OLe_refl, OLe_none, sat_brN, Tree.sat_chk, Tree.sat_leaf, Tree.sat_fail, Nat.zero_add, Nat.sub_zero, Int.toNat_natCast, LeH_cons, LeH_nil, LeL_cons, LeL_nil, and_true, true_and, Bool.and_eq_true, Bool.or_eq_true, decide_eq_true_eq, decide_eq_false_iff_not, Bool.cond_true_left, Bool.cond_false_right, List.cons_append, List.nil_append, List.map_cons, List.map_nil]
    repeat' (first | apply And.intro | intro _hc)
    all_goals first | exact rfl | exact AV.le_refl _ | exact AV.le_any _ | exact OLe.refl _ | exact OLe.none _ | exact LeH.refl _ | exact LeL.refl _ | exact AV.le.bs _ | exact AV.le.sb _ | omega | contradiction
theorem runFdR (s : ByteArray) : bodyE (P := Tryd.prog) (Γ := Γm) [kChk] (fun _ => LSpec.at lvFd nlFd (SFd s ⟨0, ⟨#[]⟩⟩) retFd) false 30 [.tmp 2, .tmp 3] (bodyOf Tryd.f24) [.v (.string s)] [] =
  Tree.chk (cl (LeL [AV.v (Value.string s), AV.hs (0 : Nat) (0 : Nat) (0 : Nat), AV.its (1 : Nat), AV.v (Value.string (ByteArray.mk #[])), AV.v (Value.int IntKind.i64 (0 : Int))] [AV.v
    (Value.string s), AV.hs (0 : Nat) (0 : Nat) (0 : Nat), AV.its (1 : Nat), AV.any, AV.any] ∧ LeH [some (Blk.arr (1 : Nat) (0 : Nat) fun x => [AV.v (Value.int IntKind.u8 (0 : Int))]), some
    (Blk.sit s (0 : Nat))] [some (Blk.arr (1 : Nat) (0 : Nat) fun j => [AV.v (Value.int IntKind.u8 (sbyte (ByteArray.mk #[]) j))]), some (Blk.sit s (0 : Nat))])) (Tree.leaf (Ans.mk (AV.tup
    [AV.v (Value.string (ByteArray.mk #[])), AV.v (Value.int IntKind.i64 (20 : Int))]) [])) := by kernel_rfl
theorem runFdE (s : ByteArray) : bodyE (P := Tryd.prog) (Γ := Γm) [kChk] (fun _ => LSpec.at lvFd nlFd (SFd s ⟨0, ⟨#[]⟩⟩) (endFd s)) false 30 [.tmp 2, .tmp 3] (bodyOf Tryd.f24) [.v (.string s)] [] =
  Tree.chk (cl (LeL [AV.v (Value.string s), AV.hs (0 : Nat) (0 : Nat) (0 : Nat), AV.its (1 : Nat), AV.v (Value.string (ByteArray.mk #[])), AV.v (Value.int IntKind.i64 (0 : Int))] [AV.v
    (Value.string s), AV.hs (0 : Nat) (0 : Nat) (0 : Nat), AV.its (1 : Nat), AV.any, AV.any] ∧ LeH [some (Blk.arr (1 : Nat) (0 : Nat) fun x => [AV.v (Value.int IntKind.u8 (0 : Int))]), some
    (Blk.sit s (0 : Nat))] [some (Blk.arr (1 : Nat) (0 : Nat) fun j => [AV.v (Value.int IntKind.u8 (sbyte (ByteArray.mk #[]) j))]), some (Blk.sit s (0 : Nat))])) (Tree.chk ((allBytes
    (ByteArray.size (foldB s)) fun j => [AV.v (Value.int IntKind.u8 (sbyte (foldB s) ((0 : Nat) + j)))]) && cl (ByteArray.size (textOf (ByteArray.size (foldB s)) fun j => [AV.v (Value.int
    IntKind.u8 (sbyte (foldB s) ((0 : Nat) + j)))]) ≤ (1000000000 : Nat) ∧ LeL [AV.v (Value.string (textOf (ByteArray.size (foldB s)) fun j => [AV.v (Value.int IntKind.u8 (sbyte (foldB s)
    ((0 : Nat) + j)))]))] [AV.v (Value.string (textOf (ByteArray.size (foldB s)) fun j => [AV.v (Value.int IntKind.u8 (sbyte (foldB s) ((0 : Nat) + j)))]))] ∧ LeH [] [])) (Tree.br (!decide
    (erN (nameB (textOf (ByteArray.size (foldB s)) fun j => [AV.v (Value.int IntKind.u8 (sbyte (foldB s) ((0 : Nat) + j)))])) = (0 : Int))) (Tree.leaf (Ans.mk (AV.tup [AV.v (Value.string
    (ByteArray.mk #[])), AV.v (Value.int IntKind.i64 (erN (nameB (textOf (ByteArray.size (foldB s)) fun j => [AV.v (Value.int IntKind.u8 (sbyte (foldB s) ((0 : Nat) + j)))]))))]) []))
    (Tree.chk (allBytes (ByteArray.size (foldB s)) fun j => [AV.v (Value.int IntKind.u8 (sbyte (foldB s) ((0 : Nat) + j)))]) (Tree.leaf (Ans.mk (AV.tup [AV.v (Value.string (textOf
    (ByteArray.size (foldB s)) fun j => [AV.v (Value.int IntKind.u8 (sbyte (foldB s) ((0 : Nat) + j)))])), AV.v (Value.int IntKind.i64 (0 : Int))]) []))))) := by kernel_rfl
def foldV (s : ByteArray) : AV := .tup [.v (.string (bif foldOk s then foldB s else ⟨#[]⟩)), .v (.int .i64 (erN (foldOk s)))]
theorem ansFd {s : ByteArray} (hs : s.size ≤ 10000000) : Answers Tryd.prog Γm 24 [.v (.string s)] [] (foldV s) [] [] := by
  have hl := loopFd hs ⟨0, ⟨#[]⟩⟩ ⟨Nat.zero_le _, empty_append _, rfl⟩
  have hz : (foldB s).size ≤ 4 * (s.size - 0) := foldFrom_size s 0
  have hN : OLe (some (.arr 1 0 fun _ => [AV.v (Value.int IntKind.u8 0)])) (some (bB ⟨#[]⟩)) := OLe.arr rfl (fun e he => absurd he (Nat.not_lt_zero e)) (fun _ => rfl)
  unfold OFd at hl
  unfold foldV foldOk
  cases hg : good s 0 with
  | false =>
    rw [hg, cond_false] at hl
    refine answers (fn := Tryd.f24) (c := bodyOf Tryd.f24) (ntmps := 30) (results := [.tmp 2, .tmp 3]) [kChk] (fun _ => LSpec.at lvFd nlFd (SFd s ⟨0, ⟨#[]⟩⟩) retFd) false Tryd.func24 (by kernel_rfl) (by kernel_rfl) (by kernel_rfl) (by kernel_rfl) (by simp) rfl (oneLoop (b := lpFd) (by kernel_rfl) hl) <| Meets.of (runFdR s) <| ?_
    repeat' (first | refine wC (by first | omega | (simp only [cl_iff, AV.le_refl, AV.le_any, OLe_refl, LeH_cons, LeH_nil, LeL_cons, LeL_nil, and_true, true_and, Bool.and_eq_true, Bool.or_eq_true, decide_eq_true_eq, notT, Bool.cond_true_left, Bool.cond_false_right, Nat.blt_eq, Nat.zero_add, cond_true, cond_false, Int.toNat_natCast, Bool.not_true, Bool.not_false, Bool.false_eq_true, not_true_eq_false, not_false_eq_true, or_false, false_or, or_true, true_or, and_false, false_and, condIT]; first | done | omega)) ?_ | refine wT (by first | omega | (simp only [cl_iff, AV.le_refl, AV.le_any, OLe_refl, LeH_cons, LeH_nil, LeL_cons, LeL_nil, and_true, true_and, Bool.and_eq_true, Bool.or_eq_true, decide_eq_true_eq, notT, Bool.cond_true_left, Bool.cond_false_right, Nat.blt_eq, Nat.zero_add, cond_true, cond_false, Int.toNat_natCast, Bool.not_true, Bool.not_false, Bool.false_eq_true, not_true_eq_false, not_false_eq_true, or_false, false_or, or_true, true_or, and_false, false_and, condIT]; first | done | omega)) ?_ | refine wF (by intro _h; first | omega | (simp only [cl_iff, AV.le_refl, AV.le_any, OLe_refl, LeH_cons, LeH_nil, LeL_cons, LeL_nil, and_true, true_and, Bool.and_eq_true, Bool.or_eq_true, decide_eq_true_eq, notT, Bool.cond_true_left, Bool.cond_false_right, Nat.blt_eq, Nat.zero_add, cond_true, cond_false, Int.toNat_natCast, Bool.not_true, Bool.not_false, Bool.false_eq_true, not_true_eq_false, not_false_eq_true, or_false, false_or, or_true, true_or, and_false, false_and, condIT] at _h; first | done | omega)) ?_ | (refine wS ?_ ?_ <;> intro _h <;> simp only [cl_iff, AV.le_refl, AV.le_any, OLe_refl, LeH_cons, LeH_nil, LeL_cons, LeL_nil, and_true, true_and, Bool.and_eq_true, Bool.or_eq_true, decide_eq_true_eq, notT, Bool.cond_true_left, Bool.cond_false_right, Nat.blt_eq, Nat.zero_add, cond_true, cond_false, Int.toNat_natCast, Bool.not_true, Bool.not_false, Bool.false_eq_true, not_true_eq_false, not_false_eq_true, or_false, false_or, or_true, true_or, and_false, false_and, condIT] at _h))
    all_goals simp only [or_true, true_or, false_or, or_false, and_false, false_and, cond_true, cond_false, Bool.not_true, Bool.not_false, Bool.false_eq_true, Bool.true_eq_false, not_true_eq_false, not_false_eq_true, false_implies, true_implies, implies_true, Nat.blt_eq, owesN, owesX, owesR, notT, sat_brT, sat_brF, sat_chkT, cl_iff, cl_false, AV.le_refl, AV.le_any, OLe_refl, OLe_none, sat_brN, Tree.sat_chk, Tree.sat_leaf, Tree.sat_fail, Nat.zero_add, Nat.sub_zero, Int.toNat_natCast, LeH_cons, LeH_nil, LeL_cons, LeL_nil, and_true, true_and, Bool.and_eq_true, Bool.or_eq_true, decide_eq_true_eq, decide_eq_false_iff_not, Bool.cond_true_left, Bool.cond_false_right, List.cons_append, List.nil_append, List.map_cons, List.map_nil]
    repeat' (first | apply And.intro | intro _hc)
    all_goals first | exact hN | exact tup2 (leS rfl) (leI rfl) | exact AV.le_refl _ | exact AV.le_any _ | exact OLe.refl _ | exact OLe.none _ | exact LeH.refl _ | exact LeL.refl _ | exact AV.le.bs _ | exact AV.le.sb _ | omega | contradiction
  | true =>
    rw [hg, cond_true] at hl
    refine answers (fn := Tryd.f24) (c := bodyOf Tryd.f24) (ntmps := 30) (results := [.tmp 2, .tmp 3]) [kChk] (fun _ => LSpec.at lvFd nlFd (SFd s ⟨0, ⟨#[]⟩⟩) (endFd s)) false Tryd.func24 (by kernel_rfl) (by kernel_rfl) (by kernel_rfl) (by kernel_rfl) (by simp) rfl (oneLoop (b := lpFd) (by kernel_rfl) hl) <| Meets.of (runFdE s) <| ?_
    have ha : (allBytes (foldB s).size fun j => [AV.v (Value.int IntKind.u8 (sbyte (foldB s) j))]) = true := allBytes_bsF (foldB s).size (foldB s)
    have ht : (textOf (foldB s).size fun j => [AV.v (Value.int IntKind.u8 (sbyte (foldB s) j))]) = foldB s := textOf_bsF (foldB s)
    cases hn : nameB (foldB s) with
    | true =>
      have e0 : erN true = 0 := rfl
      repeat' (first | refine wC (by first | omega | (simp only [cl_iff, AV.le_refl, AV.le_any, OLe_refl, LeH_cons, LeH_nil, LeL_cons, LeL_nil, and_true, true_and, Bool.and_eq_true, Bool.or_eq_true, decide_eq_true_eq, notT, Bool.cond_true_left, Bool.cond_false_right, Nat.blt_eq, Nat.zero_add, cond_true, cond_false, Int.toNat_natCast, Bool.not_true, Bool.not_false, Bool.false_eq_true, not_true_eq_false, not_false_eq_true, or_false, false_or, or_true, true_or, and_false, false_and, condIT, ha, ht, hn, e0]; first | done | omega)) ?_ | refine wT (by first | omega | (simp only [cl_iff, AV.le_refl, AV.le_any, OLe_refl, LeH_cons, LeH_nil, LeL_cons, LeL_nil, and_true, true_and, Bool.and_eq_true, Bool.or_eq_true, decide_eq_true_eq, notT, Bool.cond_true_left, Bool.cond_false_right, Nat.blt_eq, Nat.zero_add, cond_true, cond_false, Int.toNat_natCast, Bool.not_true, Bool.not_false, Bool.false_eq_true, not_true_eq_false, not_false_eq_true, or_false, false_or, or_true, true_or, and_false, false_and, condIT, ha, ht, hn, e0]; first | done | omega)) ?_ | refine wF (by intro _h; first | omega | (simp only [cl_iff, AV.le_refl, AV.le_any, OLe_refl, LeH_cons, LeH_nil, LeL_cons, LeL_nil, and_true, true_and, Bool.and_eq_true, Bool.or_eq_true, decide_eq_true_eq, notT, Bool.cond_true_left, Bool.cond_false_right, Nat.blt_eq, Nat.zero_add, cond_true, cond_false, Int.toNat_natCast, Bool.not_true, Bool.not_false, Bool.false_eq_true, not_true_eq_false, not_false_eq_true, or_false, false_or, or_true, true_or, and_false, false_and, condIT, ha, ht, hn, e0] at _h; first | done | omega)) ?_ | (refine wS ?_ ?_ <;> intro _h <;> simp only [cl_iff, AV.le_refl, AV.le_any, OLe_refl, LeH_cons, LeH_nil, LeL_cons, LeL_nil, and_true, true_and, Bool.and_eq_true, Bool.or_eq_true, decide_eq_true_eq, notT, Bool.cond_true_left, Bool.cond_false_right, Nat.blt_eq, Nat.zero_add, cond_true, cond_false, Int.toNat_natCast, Bool.not_true, Bool.not_false, Bool.false_eq_true, not_true_eq_false, not_false_eq_true, or_false, false_or, or_true, true_or, and_false, false_and, condIT, ha, ht, hn, e0] at _h))
      all_goals simp only [or_true, true_or, false_or, or_false, and_false, false_and, cond_true, cond_false, Bool.not_true, Bool.not_false, Bool.false_eq_true, Bool.true_eq_false, not_true_eq_false, not_false_eq_true, false_implies, true_implies, implies_true, Nat.blt_eq, owesN, owesX, owesR, notT, sat_brT, sat_brF, sat_chkT, cl_iff, cl_false, AV.le_refl, AV.le_any, OLe_refl, OLe_none, sat_brN, Tree.sat_chk, Tree.sat_leaf, Tree.sat_fail, Nat.zero_add, Nat.sub_zero, Int.toNat_natCast, LeH_cons, LeH_nil, LeL_cons, LeL_nil, and_true, true_and, Bool.and_eq_true, Bool.or_eq_true, decide_eq_true_eq, decide_eq_false_iff_not, Bool.cond_true_left, Bool.cond_false_right, List.cons_append, List.nil_append, List.map_cons, List.map_nil, ha, ht, hn, e0]
      repeat' (first | apply And.intro | intro _hc)
      all_goals first | exact hN | exact tup2 (leS rfl) (leI rfl) | exact AV.le_refl _ | exact AV.le_any _ | exact OLe.refl _ | exact OLe.none _ | exact LeH.refl _ | exact LeL.refl _ | exact AV.le.bs _ | exact AV.le.sb _ | omega | contradiction
    | false =>
      have e0 : erN false = 20 := rfl
      repeat' (first | refine wC (by first | omega | (simp only [cl_iff, AV.le_refl, AV.le_any, OLe_refl, LeH_cons, LeH_nil, LeL_cons, LeL_nil, and_true, true_and, Bool.and_eq_true, Bool.or_eq_true, decide_eq_true_eq, notT, Bool.cond_true_left, Bool.cond_false_right, Nat.blt_eq, Nat.zero_add, cond_true, cond_false, Int.toNat_natCast, Bool.not_true, Bool.not_false, Bool.false_eq_true, not_true_eq_false, not_false_eq_true, or_false, false_or, or_true, true_or, and_false, false_and, condIT, ha, ht, hn, e0]; first | done | omega)) ?_ | refine wT (by first | omega | (simp only [cl_iff, AV.le_refl, AV.le_any, OLe_refl, LeH_cons, LeH_nil, LeL_cons, LeL_nil, and_true, true_and, Bool.and_eq_true, Bool.or_eq_true, decide_eq_true_eq, notT, Bool.cond_true_left, Bool.cond_false_right, Nat.blt_eq, Nat.zero_add, cond_true, cond_false, Int.toNat_natCast, Bool.not_true, Bool.not_false, Bool.false_eq_true, not_true_eq_false, not_false_eq_true, or_false, false_or, or_true, true_or, and_false, false_and, condIT, ha, ht, hn, e0]; first | done | omega)) ?_ | refine wF (by intro _h; first | omega | (simp only [cl_iff, AV.le_refl, AV.le_any, OLe_refl, LeH_cons, LeH_nil, LeL_cons, LeL_nil, and_true, true_and, Bool.and_eq_true, Bool.or_eq_true, decide_eq_true_eq, notT, Bool.cond_true_left, Bool.cond_false_right, Nat.blt_eq, Nat.zero_add, cond_true, cond_false, Int.toNat_natCast, Bool.not_true, Bool.not_false, Bool.false_eq_true, not_true_eq_false, not_false_eq_true, or_false, false_or, or_true, true_or, and_false, false_and, condIT, ha, ht, hn, e0] at _h; first | done | omega)) ?_ | (refine wS ?_ ?_ <;> intro _h <;> simp only [cl_iff, AV.le_refl, AV.le_any, OLe_refl, LeH_cons, LeH_nil, LeL_cons, LeL_nil, and_true, true_and, Bool.and_eq_true, Bool.or_eq_true, decide_eq_true_eq, notT, Bool.cond_true_left, Bool.cond_false_right, Nat.blt_eq, Nat.zero_add, cond_true, cond_false, Int.toNat_natCast, Bool.not_true, Bool.not_false, Bool.false_eq_true, not_true_eq_false, not_false_eq_true, or_false, false_or, or_true, true_or, and_false, false_and, condIT, ha, ht, hn, e0] at _h))
      all_goals simp only [or_true, true_or, false_or, or_false, and_false, false_and, cond_true, cond_false, Bool.not_true, Bool.not_false, Bool.false_eq_true, Bool.true_eq_false, not_true_eq_false, not_false_eq_true, false_implies, true_implies, implies_true, Nat.blt_eq, owesN, owesX, owesR, notT, sat_brT, sat_brF, sat_chkT, cl_iff, cl_false, AV.le_refl, AV.le_any, OLe_refl, OLe_none, sat_brN, Tree.sat_chk, Tree.sat_leaf, Tree.sat_fail, Nat.zero_add, Nat.sub_zero, Int.toNat_natCast, LeH_cons, LeH_nil, LeL_cons, LeL_nil, and_true, true_and, Bool.and_eq_true, Bool.or_eq_true, decide_eq_true_eq, decide_eq_false_iff_not, Bool.cond_true_left, Bool.cond_false_right, List.cons_append, List.nil_append, List.map_cons, List.map_nil, ha, ht, hn, e0]
      repeat' (first | apply And.intro | intro _hc)
      all_goals first | exact hN | exact tup2 (leS rfl) (leI rfl) | exact AV.le_refl _ | exact AV.le_any _ | exact OLe.refl _ | exact OLe.none _ | exact LeH.refl _ | exact LeL.refl _ | exact AV.le.bs _ | exact AV.le.sb _ | omega | contradiction
noncomputable def kFd : CT Tryd.prog Γm := CT.oS 24 Tryd.func24 (by kernel_rfl) (by kernel_rfl) (fun s => s.size ≤ 10000000) foldV (fun _ => []) (fun s h => ansFd h)
end Go.Eng.TA

/- names: NameChecks: the document's folded names, the law. -/
namespace Go.Eng.TA
open Go Go.Eng Go.Eng.M Go.Lib Go.Proofs
set_option linter.unusedSimpArgs false
set_option linter.unusedVariables false
def foldL (l : List Nat) : ByteArray := catR (l.map smallN)
structure XG where
  i : Nat
  t : ByteArray
noncomputable abbrev lpFr : Code := loopOf (bodyOf Tryd.f25) 0
abbrev lvFr : List Nat := [4, 5, 6, 7]
def SFr (l : List Nat) (g : Bool) (x : XG) : List AV × Heap := ([.hs 0 0 l.length, .sb g, .v (.string x.t), .v (.int .i64 (x.i : Int))], [some (i1B l)])
def OFr (l : List Nat) (g : Bool) : Out := ⟨.exit 0, [.any, .sb g, .v (.string (foldL l)), .any], [none]⟩
theorem rFr (l : List Nat) (g : Bool) (x : XG) : roundE (P := Tryd.prog) (Γ := Γm) [c9', kPut] Lno false 0 0 lpFr lvFr [] 40 (SFr l g x).1 (SFr l g x).2 =
  Tree.br (decide ((↑x.i : Int) < (↑(List.length l) : Int))) (Tree.chk (decide ((0 : Int) ≤ (↑x.i : Int)) && decide ((↑x.i : Int) < (↑(List.length l) : Int))) (Tree.chk true (Tree.br (greatB
    (↑(List.getD l ((0 : Nat) + x.i) default) : Int)) (Tree.chk (cl (okZ (IntKind.wrap IntKind.i64 ((↑(List.getD l ((0 : Nat) + x.i) default) : Int) + (32 : Int))) ∧ LeL [AV.v (Value.int
    IntKind.i64 (IntKind.wrap IntKind.i64 ((↑(List.getD l ((0 : Nat) + x.i) default) : Int) + (32 : Int))))] [AV.v (Value.int IntKind.i64 (IntKind.wrap IntKind.i64 ((↑(List.getD l ((0 : Nat)
    + x.i) default) : Int) + (32 : Int))))] ∧ LeH [] []) && decide (ByteArray.size x.t + ByteArray.size (encZ (IntKind.wrap IntKind.i64 ((↑(List.getD l ((0 : Nat) + x.i) default) : Int) +
    (32 : Int)))) ≤ (9223372036854775807 : Nat))) (Tree.leaf (Out.mk AEx.normal [AV.hs (0 : Nat) (0 : Nat) (List.length l), AV.sb g, AV.v (Value.string (x.t ++ encZ (IntKind.wrap IntKind.i64
    ((↑(List.getD l ((0 : Nat) + x.i) default) : Int) + (32 : Int))))), AV.v (Value.int IntKind.i64 (IntKind.wrap IntKind.i64 ((↑x.i : Int) + (1 : Int))))] [some (Blk.arr (1 : Nat)
    (List.length l) (lsF I1.c l))]))) (Tree.chk (cl (okZ (↑(List.getD l ((0 : Nat) + x.i) default) : Int) ∧ LeL [AV.v (Value.int IntKind.i64 (↑(List.getD l ((0 : Nat) + x.i) default) :
    Int))] [AV.v (Value.int IntKind.i64 (↑(List.getD l ((0 : Nat) + x.i) default) : Int))] ∧ LeH [] []) && decide (ByteArray.size x.t + ByteArray.size (encZ (↑(List.getD l ((0 : Nat) + x.i)
    default) : Int)) ≤ (9223372036854775807 : Nat))) (Tree.leaf (Out.mk AEx.normal [AV.hs (0 : Nat) (0 : Nat) (List.length l), AV.sb g, AV.v (Value.string (x.t ++ encZ (↑(List.getD l ((0 :
    Nat) + x.i) default) : Int))), AV.v (Value.int IntKind.i64 (IntKind.wrap IntKind.i64 ((↑x.i : Int) + (1 : Int))))] [some (Blk.arr (1 : Nat) (List.length l) (lsF I1.c l))]))))))
    (Tree.leaf (Out.mk (AEx.exit (0 : Nat)) [AV.hs (0 : Nat) (0 : Nat) (List.length l), AV.sb g, AV.v (Value.string x.t), AV.v (Value.int IntKind.i64 (↑x.i : Int))] [some (Blk.arr (1 : Nat)
    (List.length l) (lsF I1.c l))])) := by kernel_rfl
theorem drop_at' {l : List Nat} {i : Nat} (h : i < l.length) : l.drop i = l.getD i default :: l.drop (i + 1) := by
  rw [List.drop_eq_getElem_cons h, getD_get h]
theorem loopFr {l : List Nat} {g : Bool} (hs : l.length ≤ 10000000) (hk : ∀ c ∈ l, okR c) : ∀ x : XG, (x.i ≤ l.length ∧ x.t ++ catR ((l.drop x.i).map smallN) = foldL l) → LoopOK Tryd.prog Γm 0 40 lpFr (LSpec.at lvFr [] (SFr l g x) (OFr l g)) := by
  refine loop_at (S := SFr l g) (O := fun _ => OFr l g) (k := 0) (fun x => l.length - x.i) fun x hp => .of (noLoops (by kernel_rfl)) (rFr l g x) ?_
  obtain ⟨i, t⟩ := x
  obtain ⟨h1, h2⟩ := hp
  dsimp only at h1 h2
  have hz := catR_size (l := l.map smallN) (by
    intro c hc
    obtain ⟨d, hd, rfl⟩ := List.mem_map.1 hc
    exact small_ok (hk d hd))
  rw [List.length_map] at hz
  have hz2 : t.size ≤ (foldL l).size := by rw [← h2, ByteArray.size_append]; omega
  unfold foldL at hz2
  rcases Nat.lt_or_ge i l.length with hi | hi
  · have hc : okR (l.getD i default) := hk _ (by rw [getD_get hi]; exact List.getElem_mem hi)
    rw [drop_at' hi, List.map_cons, catR, ← b_assoc] at h2
    have hsm := small_ok hc
    have he := encR_size hsm
    have hc' := hc
    unfold okR at hc'
    cases hg : greatB ((l.getD i default : Nat) : Int) with
    | true =>
      have hsn : smallN (l.getD i default) = l.getD i default + 32 := by unfold smallN; rw [hg]; rfl
      rw [hsn] at h2 hsm he
      have hw : IntKind.wrap IntKind.i64 (((l.getD i default : Nat) : Int) + 32) = ((l.getD i default + 32 : Nat) : Int) := by rw [wrap64 (by omega) (by omega)]; omega
      repeat' (first | refine wC (by first | omega | (simp only [cl_iff, AV.le_refl, AV.le_any, OLe_refl, LeH_cons, LeH_nil, LeL_cons, LeL_nil, and_true, true_and, Bool.and_eq_true, Bool.or_eq_true, decide_eq_true_eq, notT, Bool.cond_true_left, Bool.cond_false_right, Nat.blt_eq, Nat.zero_add, cond_true, cond_false, Int.toNat_natCast, Bool.not_true, Bool.not_false, Bool.false_eq_true, not_true_eq_false, not_false_eq_true, or_false, false_or, or_true, true_or, and_false, false_and, condIT, hg, hw, encZ_nat, okZ_nat, wrapUpN (show i ≤ 10000000000 by omega)]; first | done | omega)) ?_ | refine wT (by first | omega | (simp only [cl_iff, AV.le_refl, AV.le_any, OLe_refl, LeH_cons, LeH_nil, LeL_cons, LeL_nil, and_true, true_and, Bool.and_eq_true, Bool.or_eq_true, decide_eq_true_eq, notT, Bool.cond_true_left, Bool.cond_false_right, Nat.blt_eq, Nat.zero_add, cond_true, cond_false, Int.toNat_natCast, Bool.not_true, Bool.not_false, Bool.false_eq_true, not_true_eq_false, not_false_eq_true, or_false, false_or, or_true, true_or, and_false, false_and, condIT, hg, hw, encZ_nat, okZ_nat, wrapUpN (show i ≤ 10000000000 by omega)]; first | done | omega)) ?_ | refine wF (by intro _h; first | omega | (simp only [cl_iff, AV.le_refl, AV.le_any, OLe_refl, LeH_cons, LeH_nil, LeL_cons, LeL_nil, and_true, true_and, Bool.and_eq_true, Bool.or_eq_true, decide_eq_true_eq, notT, Bool.cond_true_left, Bool.cond_false_right, Nat.blt_eq, Nat.zero_add, cond_true, cond_false, Int.toNat_natCast, Bool.not_true, Bool.not_false, Bool.false_eq_true, not_true_eq_false, not_false_eq_true, or_false, false_or, or_true, true_or, and_false, false_and, condIT, hg, hw, encZ_nat, okZ_nat, wrapUpN (show i ≤ 10000000000 by omega)] at _h; first | done | omega)) ?_ | (refine wS ?_ ?_ <;> intro _h <;> simp only [cl_iff, AV.le_refl, AV.le_any, OLe_refl, LeH_cons, LeH_nil, LeL_cons, LeL_nil, and_true, true_and, Bool.and_eq_true, Bool.or_eq_true, decide_eq_true_eq, notT, Bool.cond_true_left, Bool.cond_false_right, Nat.blt_eq, Nat.zero_add, cond_true, cond_false, Int.toNat_natCast, Bool.not_true, Bool.not_false, Bool.false_eq_true, not_true_eq_false, not_false_eq_true, or_false, false_or, or_true, true_or, and_false, false_and, condIT, hg, hw, encZ_nat, okZ_nat, wrapUpN (show i ≤ 10000000000 by omega)] at _h))
      all_goals simp only [or_true, true_or, false_or, or_false, and_false, false_and, cond_true, cond_false, Bool.not_true, Bool.not_false, Bool.false_eq_true, Bool.true_eq_false, not_true_eq_false, not_false_eq_true, false_implies, true_implies, implies_true, Nat.blt_eq, owesN, owesX, owesR, notT, sat_brT, sat_brF, sat_chkT, cl_iff, cl_false, AV.le_refl, AV.le_any, OLe_refl, OLe_none, sat_brN, Tree.sat_chk, Tree.sat_leaf, Tree.sat_fail, Nat.zero_add, Nat.sub_zero, Int.toNat_natCast, LeH_cons, LeH_nil, LeL_cons, LeL_nil, and_true, true_and, Bool.and_eq_true, Bool.or_eq_true, decide_eq_true_eq, decide_eq_false_iff_not, Bool.cond_true_left, Bool.cond_false_right, List.cons_append, List.nil_append, List.map_cons, List.map_nil, hg, hw, encZ_nat, okZ_nat, wrapUpN (show i ≤ 10000000000 by omega)]
      repeat' (first | apply And.intro | intro _hc)
      all_goals first | exact hsm | exact ⟨⟨i + 1, t ++ encR (l.getD i default + 32)⟩, LeL.refl _, LeH.refl _, ⟨hi, h2⟩, by dsimp only; omega⟩ | exact AV.le_refl _ | exact AV.le_any _ | exact OLe.refl _ | exact OLe.none _ | exact LeH.refl _ | exact LeL.refl _ | exact AV.le.bs _ | exact AV.le.sb _ | omega | contradiction
    | false =>
      have hsn : smallN (l.getD i default) = l.getD i default := by unfold smallN; rw [hg]; rfl
      rw [hsn] at h2 hsm he
      repeat' (first | refine wC (by first | omega | (simp only [cl_iff, AV.le_refl, AV.le_any, OLe_refl, LeH_cons, LeH_nil, LeL_cons, LeL_nil, and_true, true_and, Bool.and_eq_true, Bool.or_eq_true, decide_eq_true_eq, notT, Bool.cond_true_left, Bool.cond_false_right, Nat.blt_eq, Nat.zero_add, cond_true, cond_false, Int.toNat_natCast, Bool.not_true, Bool.not_false, Bool.false_eq_true, not_true_eq_false, not_false_eq_true, or_false, false_or, or_true, true_or, and_false, false_and, condIT, hg, encZ_nat, okZ_nat, wrapUpN (show i ≤ 10000000000 by omega)]; first | done | omega)) ?_ | refine wT (by first | omega | (simp only [cl_iff, AV.le_refl, AV.le_any, OLe_refl, LeH_cons, LeH_nil, LeL_cons, LeL_nil, and_true, true_and, Bool.and_eq_true, Bool.or_eq_true, decide_eq_true_eq, notT, Bool.cond_true_left, Bool.cond_false_right, Nat.blt_eq, Nat.zero_add, cond_true, cond_false, Int.toNat_natCast, Bool.not_true, Bool.not_false, Bool.false_eq_true, not_true_eq_false, not_false_eq_true, or_false, false_or, or_true, true_or, and_false, false_and, condIT, hg, encZ_nat, okZ_nat, wrapUpN (show i ≤ 10000000000 by omega)]; first | done | omega)) ?_ | refine wF (by intro _h; first | omega | (simp only [cl_iff, AV.le_refl, AV.le_any, OLe_refl, LeH_cons, LeH_nil, LeL_cons, LeL_nil, and_true, true_and, Bool.and_eq_true, Bool.or_eq_true, decide_eq_true_eq, notT, Bool.cond_true_left, Bool.cond_false_right, Nat.blt_eq, Nat.zero_add, cond_true, cond_false, Int.toNat_natCast, Bool.not_true, Bool.not_false, Bool.false_eq_true, not_true_eq_false, not_false_eq_true, or_false, false_or, or_true, true_or, and_false, false_and, condIT, hg, encZ_nat, okZ_nat, wrapUpN (show i ≤ 10000000000 by omega)] at _h; first | done | omega)) ?_ | (refine wS ?_ ?_ <;> intro _h <;> simp only [cl_iff, AV.le_refl, AV.le_any, OLe_refl, LeH_cons, LeH_nil, LeL_cons, LeL_nil, and_true, true_and, Bool.and_eq_true, Bool.or_eq_true, decide_eq_true_eq, notT, Bool.cond_true_left, Bool.cond_false_right, Nat.blt_eq, Nat.zero_add, cond_true, cond_false, Int.toNat_natCast, Bool.not_true, Bool.not_false, Bool.false_eq_true, not_true_eq_false, not_false_eq_true, or_false, false_or, or_true, true_or, and_false, false_and, condIT, hg, encZ_nat, okZ_nat, wrapUpN (show i ≤ 10000000000 by omega)] at _h))
      all_goals simp only [or_true, true_or, false_or, or_false, and_false, false_and, cond_true, cond_false, Bool.not_true, Bool.not_false, Bool.false_eq_true, Bool.true_eq_false, not_true_eq_false, not_false_eq_true, false_implies, true_implies, implies_true, Nat.blt_eq, owesN, owesX, owesR, notT, sat_brT, sat_brF, sat_chkT, cl_iff, cl_false, AV.le_refl, AV.le_any, OLe_refl, OLe_none, sat_brN, Tree.sat_chk, Tree.sat_leaf, Tree.sat_fail, Nat.zero_add, Nat.sub_zero, Int.toNat_natCast, LeH_cons, LeH_nil, LeL_cons, LeL_nil, and_true, true_and, Bool.and_eq_true, Bool.or_eq_true, decide_eq_true_eq, decide_eq_false_iff_not, Bool.cond_true_left, Bool.cond_false_right, List.cons_append, List.nil_append, List.map_cons, List.map_nil, hg, encZ_nat, okZ_nat, wrapUpN (show i ≤ 10000000000 by omega)]
      repeat' (first | apply And.intro | intro _hc)
      all_goals first | exact hsm | exact ⟨⟨i + 1, t ++ encR (l.getD i default)⟩, LeL.refl _, LeH.refl _, ⟨hi, h2⟩, by dsimp only; omega⟩ | exact AV.le_refl _ | exact AV.le_any _ | exact OLe.refl _ | exact OLe.none _ | exact LeH.refl _ | exact LeL.refl _ | exact AV.le.bs _ | exact AV.le.sb _ | omega | contradiction
  · rw [List.drop_eq_nil_of_le hi, List.map_nil, catR, append_empty] at h2
    subst h2
    repeat' (first | refine wC (by first | omega | (simp only [cl_iff, AV.le_refl, AV.le_any, OLe_refl, LeH_cons, LeH_nil, LeL_cons, LeL_nil, and_true, true_and, Bool.and_eq_true, Bool.or_eq_true, decide_eq_true_eq, notT, Bool.cond_true_left, Bool.cond_false_right, Nat.blt_eq, Nat.zero_add, cond_true, cond_false, Int.toNat_natCast, Bool.not_true, Bool.not_false, Bool.false_eq_true, not_true_eq_false, not_false_eq_true, or_false, false_or, or_true, true_or, and_false, false_and, condIT]; first | done | omega)) ?_ | refine wT (by first | omega | (simp only [cl_iff, AV.le_refl, AV.le_any, OLe_refl, LeH_cons, LeH_nil, LeL_cons, LeL_nil, and_true, true_and, Bool.and_eq_true, Bool.or_eq_true, decide_eq_true_eq, notT, Bool.cond_true_left, Bool.cond_false_right, Nat.blt_eq, Nat.zero_add, cond_true, cond_false, Int.toNat_natCast, Bool.not_true, Bool.not_false, Bool.false_eq_true, not_true_eq_false, not_false_eq_true, or_false, false_or, or_true, true_or, and_false, false_and, condIT]; first | done | omega)) ?_ | refine wF (by intro _h; first | omega | (simp only [cl_iff, AV.le_refl, AV.le_any, OLe_refl, LeH_cons, LeH_nil, LeL_cons, LeL_nil, and_true, true_and, Bool.and_eq_true, Bool.or_eq_true, decide_eq_true_eq, notT, Bool.cond_true_left, Bool.cond_false_right, Nat.blt_eq, Nat.zero_add, cond_true, cond_false, Int.toNat_natCast, Bool.not_true, Bool.not_false, Bool.false_eq_true, not_true_eq_false, not_false_eq_true, or_false, false_or, or_true, true_or, and_false, false_and, condIT] at _h; first | done | omega)) ?_ | (refine wS ?_ ?_ <;> intro _h <;> simp only [cl_iff, AV.le_refl, AV.le_any, OLe_refl, LeH_cons, LeH_nil, LeL_cons, LeL_nil, and_true, true_and, Bool.and_eq_true, Bool.or_eq_true, decide_eq_true_eq, notT, Bool.cond_true_left, Bool.cond_false_right, Nat.blt_eq, Nat.zero_add, cond_true, cond_false, Int.toNat_natCast, Bool.not_true, Bool.not_false, Bool.false_eq_true, not_true_eq_false, not_false_eq_true, or_false, false_or, or_true, true_or, and_false, false_and, condIT] at _h))
    all_goals simp only [or_true, true_or, false_or, or_false, and_false, false_and, cond_true, cond_false, Bool.not_true, Bool.not_false, Bool.false_eq_true, Bool.true_eq_false, not_true_eq_false, not_false_eq_true, false_implies, true_implies, implies_true, Nat.blt_eq, owesN, owesX, owesR, notT, sat_brT, sat_brF, sat_chkT, cl_iff, cl_false, AV.le_refl, AV.le_any, OLe_refl, OLe_none, sat_brN, Tree.sat_chk, Tree.sat_leaf, Tree.sat_fail, Nat.zero_add, Nat.sub_zero, Int.toNat_natCast, LeH_cons, LeH_nil, LeL_cons, LeL_nil, and_true, true_and, Bool.and_eq_true, Bool.or_eq_true, decide_eq_true_eq, decide_eq_false_iff_not, Bool.cond_true_left, Bool.cond_false_right, List.cons_append, List.nil_append, List.map_cons, List.map_nil]
    repeat' (first | apply And.intro | intro _hc)
    all_goals first | exact rfl | exact AV.le_refl _ | exact AV.le_any _ | exact OLe.refl _ | exact OLe.none _ | exact LeH.refl _ | exact LeL.refl _ | exact AV.le.bs _ | exact AV.le.sb _ | omega | contradiction
theorem runFr (s : ByteArray) : bodyE (P := Tryd.prog) (Γ := Γm) [kRun, kChkR] (fun _ => LSpec.at lvFr [] (SFr (rns s 0) (good s 0) ⟨0, ⟨#[]⟩⟩) (OFr (rns s 0) (good s 0))) false 40 [.tmp 2, .tmp 3] (bodyOf Tryd.f25) [.v (.string s)] [] =
  Tree.chk (cl (ByteArray.size s ≤ (100000000 : Nat) ∧ LeL [AV.v (Value.string s)] [AV.v (Value.string s)] ∧ LeH [] [])) (Tree.chk (cl (LeL [AV.hs (0 : Nat) (0 : Nat) (List.length (rns s (0 :
    Nat))), AV.sb (good s (0 : Nat)), AV.v (Value.string (ByteArray.mk #[])), AV.v (Value.int IntKind.i64 (0 : Int))] [AV.hs (0 : Nat) (0 : Nat) (List.length (rns s (0 : Nat))), AV.sb (good
    s (0 : Nat)), AV.v (Value.string (ByteArray.mk #[])), AV.v (Value.int IntKind.i64 (↑(0 : Nat) : Int))] ∧ LeH [some (Blk.arr (1 : Nat) (List.length (rns s (0 : Nat))) (lsF I1.c (rns s (0
    : Nat))))] [some (Blk.arr (1 : Nat) (List.length (rns s (0 : Nat))) (lsF I1.c (rns s (0 : Nat))))])) (Tree.chk (bif !good s (0 : Nat) then true else cl (ByteArray.size (foldL (rns s (0 :
    Nat))) ≤ (100000000 : Nat) ∧ LeL [AV.v (Value.string (foldL (rns s (0 : Nat))))] [AV.v (Value.string (foldL (rns s (0 : Nat))))] ∧ LeH [] [])) (Tree.br (bif !good s (0 : Nat) then true
    else !nameB (foldL (rns s (0 : Nat)))) (Tree.leaf (Ans.mk (AV.tup [AV.v (Value.string (ByteArray.mk #[])), AV.v (Value.bool false)]) [])) (Tree.leaf (Ans.mk (AV.tup [AV.v (Value.string
    (foldL (rns s (0 : Nat)))), AV.v (Value.bool true)]) []))))) := by kernel_rfl
def foldRV (s : ByteArray) : AV := .tup [.v (.string (bif foldOk s then foldB s else ⟨#[]⟩)), .sb (foldOk s)]
theorem ansFr {s : ByteArray} (hs : s.size ≤ 10000000) : Answers Tryd.prog Γm 25 [.v (.string s)] [] (foldRV s) [] [] := by
  have hln : (rns s 0).length ≤ s.size - 0 := rns_len
  have hl := loopFr (l := rns s 0) (g := good s 0) (by omega) rns_ok ⟨0, ⟨#[]⟩⟩ ⟨Nat.zero_le _, empty_append _⟩
  have hz : (foldB s).size ≤ 4 * (s.size - 0) := foldFrom_size s 0
  have hB : foldL (rns s 0) = foldB s := rfl
  unfold foldRV foldOk
  refine answers (fn := Tryd.f25) (c := bodyOf Tryd.f25) (ntmps := 40) (results := [.tmp 2, .tmp 3]) [kRun, kChkR] (fun _ => LSpec.at lvFr [] (SFr (rns s 0) (good s 0) ⟨0, ⟨#[]⟩⟩) (OFr (rns s 0) (good s 0))) false Tryd.func25 (by kernel_rfl) (by kernel_rfl) (by kernel_rfl) (by kernel_rfl) (by simp) rfl (oneLoop (b := lpFr) (by kernel_rfl) hl) <| Meets.of (runFr s) <| ?_
  rw [hB]
  cases hg : good s 0 with
  | true =>
    cases hn : nameB (foldB s) with
    | true =>
      repeat' (first | refine wC (by first | omega | (simp only [cl_iff, AV.le_refl, AV.le_any, OLe_refl, LeH_cons, LeH_nil, LeL_cons, LeL_nil, and_true, true_and, Bool.and_eq_true, Bool.or_eq_true, decide_eq_true_eq, notT, Bool.cond_true_left, Bool.cond_false_right, Nat.blt_eq, Nat.zero_add, cond_true, cond_false, Int.toNat_natCast, Bool.not_true, Bool.not_false, Bool.false_eq_true, not_true_eq_false, not_false_eq_true, or_false, false_or, or_true, true_or, and_false, false_and, condIT, hg, hn]; first | done | omega)) ?_ | refine wT (by first | omega | (simp only [cl_iff, AV.le_refl, AV.le_any, OLe_refl, LeH_cons, LeH_nil, LeL_cons, LeL_nil, and_true, true_and, Bool.and_eq_true, Bool.or_eq_true, decide_eq_true_eq, notT, Bool.cond_true_left, Bool.cond_false_right, Nat.blt_eq, Nat.zero_add, cond_true, cond_false, Int.toNat_natCast, Bool.not_true, Bool.not_false, Bool.false_eq_true, not_true_eq_false, not_false_eq_true, or_false, false_or, or_true, true_or, and_false, false_and, condIT, hg, hn]; first | done | omega)) ?_ | refine wF (by intro _h; first | omega | (simp only [cl_iff, AV.le_refl, AV.le_any, OLe_refl, LeH_cons, LeH_nil, LeL_cons, LeL_nil, and_true, true_and, Bool.and_eq_true, Bool.or_eq_true, decide_eq_true_eq, notT, Bool.cond_true_left, Bool.cond_false_right, Nat.blt_eq, Nat.zero_add, cond_true, cond_false, Int.toNat_natCast, Bool.not_true, Bool.not_false, Bool.false_eq_true, not_true_eq_false, not_false_eq_true, or_false, false_or, or_true, true_or, and_false, false_and, condIT, hg, hn] at _h; first | done | omega)) ?_ | (refine wS ?_ ?_ <;> intro _h <;> simp only [cl_iff, AV.le_refl, AV.le_any, OLe_refl, LeH_cons, LeH_nil, LeL_cons, LeL_nil, and_true, true_and, Bool.and_eq_true, Bool.or_eq_true, decide_eq_true_eq, notT, Bool.cond_true_left, Bool.cond_false_right, Nat.blt_eq, Nat.zero_add, cond_true, cond_false, Int.toNat_natCast, Bool.not_true, Bool.not_false, Bool.false_eq_true, not_true_eq_false, not_false_eq_true, or_false, false_or, or_true, true_or, and_false, false_and, condIT, hg, hn] at _h))
      all_goals simp only [or_true, true_or, false_or, or_false, and_false, false_and, cond_true, cond_false, Bool.not_true, Bool.not_false, Bool.false_eq_true, Bool.true_eq_false, not_true_eq_false, not_false_eq_true, false_implies, true_implies, implies_true, Nat.blt_eq, owesN, owesX, owesR, notT, sat_brT, sat_brF, sat_chkT, cl_iff, cl_false, AV.le_refl, AV.le_any, OLe_refl, OLe_none, sat_brN, Tree.sat_chk, Tree.sat_leaf, Tree.sat_fail, Nat.zero_add, Nat.sub_zero, Int.toNat_natCast, LeH_cons, LeH_nil, LeL_cons, LeL_nil, and_true, true_and, Bool.and_eq_true, Bool.or_eq_true, decide_eq_true_eq, decide_eq_false_iff_not, Bool.cond_true_left, Bool.cond_false_right, List.cons_append, List.nil_append, List.map_cons, List.map_nil, hg, hn]
      repeat' (first | apply And.intro | intro _hc)
      all_goals first | exact tup2 (leS rfl) (leB rfl) | exact AV.le_refl _ | exact AV.le_any _ | exact OLe.refl _ | exact OLe.none _ | exact LeH.refl _ | exact LeL.refl _ | exact AV.le.bs _ | exact AV.le.sb _ | omega | contradiction
    | false =>
      repeat' (first | refine wC (by first | omega | (simp only [cl_iff, AV.le_refl, AV.le_any, OLe_refl, LeH_cons, LeH_nil, LeL_cons, LeL_nil, and_true, true_and, Bool.and_eq_true, Bool.or_eq_true, decide_eq_true_eq, notT, Bool.cond_true_left, Bool.cond_false_right, Nat.blt_eq, Nat.zero_add, cond_true, cond_false, Int.toNat_natCast, Bool.not_true, Bool.not_false, Bool.false_eq_true, not_true_eq_false, not_false_eq_true, or_false, false_or, or_true, true_or, and_false, false_and, condIT, hg, hn]; first | done | omega)) ?_ | refine wT (by first | omega | (simp only [cl_iff, AV.le_refl, AV.le_any, OLe_refl, LeH_cons, LeH_nil, LeL_cons, LeL_nil, and_true, true_and, Bool.and_eq_true, Bool.or_eq_true, decide_eq_true_eq, notT, Bool.cond_true_left, Bool.cond_false_right, Nat.blt_eq, Nat.zero_add, cond_true, cond_false, Int.toNat_natCast, Bool.not_true, Bool.not_false, Bool.false_eq_true, not_true_eq_false, not_false_eq_true, or_false, false_or, or_true, true_or, and_false, false_and, condIT, hg, hn]; first | done | omega)) ?_ | refine wF (by intro _h; first | omega | (simp only [cl_iff, AV.le_refl, AV.le_any, OLe_refl, LeH_cons, LeH_nil, LeL_cons, LeL_nil, and_true, true_and, Bool.and_eq_true, Bool.or_eq_true, decide_eq_true_eq, notT, Bool.cond_true_left, Bool.cond_false_right, Nat.blt_eq, Nat.zero_add, cond_true, cond_false, Int.toNat_natCast, Bool.not_true, Bool.not_false, Bool.false_eq_true, not_true_eq_false, not_false_eq_true, or_false, false_or, or_true, true_or, and_false, false_and, condIT, hg, hn] at _h; first | done | omega)) ?_ | (refine wS ?_ ?_ <;> intro _h <;> simp only [cl_iff, AV.le_refl, AV.le_any, OLe_refl, LeH_cons, LeH_nil, LeL_cons, LeL_nil, and_true, true_and, Bool.and_eq_true, Bool.or_eq_true, decide_eq_true_eq, notT, Bool.cond_true_left, Bool.cond_false_right, Nat.blt_eq, Nat.zero_add, cond_true, cond_false, Int.toNat_natCast, Bool.not_true, Bool.not_false, Bool.false_eq_true, not_true_eq_false, not_false_eq_true, or_false, false_or, or_true, true_or, and_false, false_and, condIT, hg, hn] at _h))
      all_goals simp only [or_true, true_or, false_or, or_false, and_false, false_and, cond_true, cond_false, Bool.not_true, Bool.not_false, Bool.false_eq_true, Bool.true_eq_false, not_true_eq_false, not_false_eq_true, false_implies, true_implies, implies_true, Nat.blt_eq, owesN, owesX, owesR, notT, sat_brT, sat_brF, sat_chkT, cl_iff, cl_false, AV.le_refl, AV.le_any, OLe_refl, OLe_none, sat_brN, Tree.sat_chk, Tree.sat_leaf, Tree.sat_fail, Nat.zero_add, Nat.sub_zero, Int.toNat_natCast, LeH_cons, LeH_nil, LeL_cons, LeL_nil, and_true, true_and, Bool.and_eq_true, Bool.or_eq_true, decide_eq_true_eq, decide_eq_false_iff_not, Bool.cond_true_left, Bool.cond_false_right, List.cons_append, List.nil_append, List.map_cons, List.map_nil, hg, hn]
      repeat' (first | apply And.intro | intro _hc)
      all_goals first | exact tup2 (leS rfl) (leB rfl) | exact AV.le_refl _ | exact AV.le_any _ | exact OLe.refl _ | exact OLe.none _ | exact LeH.refl _ | exact LeL.refl _ | exact AV.le.bs _ | exact AV.le.sb _ | omega | contradiction
  | false =>
    repeat' (first | refine wC (by first | omega | (simp only [cl_iff, AV.le_refl, AV.le_any, OLe_refl, LeH_cons, LeH_nil, LeL_cons, LeL_nil, and_true, true_and, Bool.and_eq_true, Bool.or_eq_true, decide_eq_true_eq, notT, Bool.cond_true_left, Bool.cond_false_right, Nat.blt_eq, Nat.zero_add, cond_true, cond_false, Int.toNat_natCast, Bool.not_true, Bool.not_false, Bool.false_eq_true, not_true_eq_false, not_false_eq_true, or_false, false_or, or_true, true_or, and_false, false_and, condIT, hg]; first | done | omega)) ?_ | refine wT (by first | omega | (simp only [cl_iff, AV.le_refl, AV.le_any, OLe_refl, LeH_cons, LeH_nil, LeL_cons, LeL_nil, and_true, true_and, Bool.and_eq_true, Bool.or_eq_true, decide_eq_true_eq, notT, Bool.cond_true_left, Bool.cond_false_right, Nat.blt_eq, Nat.zero_add, cond_true, cond_false, Int.toNat_natCast, Bool.not_true, Bool.not_false, Bool.false_eq_true, not_true_eq_false, not_false_eq_true, or_false, false_or, or_true, true_or, and_false, false_and, condIT, hg]; first | done | omega)) ?_ | refine wF (by intro _h; first | omega | (simp only [cl_iff, AV.le_refl, AV.le_any, OLe_refl, LeH_cons, LeH_nil, LeL_cons, LeL_nil, and_true, true_and, Bool.and_eq_true, Bool.or_eq_true, decide_eq_true_eq, notT, Bool.cond_true_left, Bool.cond_false_right, Nat.blt_eq, Nat.zero_add, cond_true, cond_false, Int.toNat_natCast, Bool.not_true, Bool.not_false, Bool.false_eq_true, not_true_eq_false, not_false_eq_true, or_false, false_or, or_true, true_or, and_false, false_and, condIT, hg] at _h; first | done | omega)) ?_ | (refine wS ?_ ?_ <;> intro _h <;> simp only [cl_iff, AV.le_refl, AV.le_any, OLe_refl, LeH_cons, LeH_nil, LeL_cons, LeL_nil, and_true, true_and, Bool.and_eq_true, Bool.or_eq_true, decide_eq_true_eq, notT, Bool.cond_true_left, Bool.cond_false_right, Nat.blt_eq, Nat.zero_add, cond_true, cond_false, Int.toNat_natCast, Bool.not_true, Bool.not_false, Bool.false_eq_true, not_true_eq_false, not_false_eq_true, or_false, false_or, or_true, true_or, and_false, false_and, condIT, hg] at _h))
    all_goals simp only [or_true, true_or, false_or, or_false, and_false, false_and, cond_true, cond_false, Bool.not_true, Bool.not_false, Bool.false_eq_true, Bool.true_eq_false, not_true_eq_false, not_false_eq_true, false_implies, true_implies, implies_true, Nat.blt_eq, owesN, owesX, owesR, notT, sat_brT, sat_brF, sat_chkT, cl_iff, cl_false, AV.le_refl, AV.le_any, OLe_refl, OLe_none, sat_brN, Tree.sat_chk, Tree.sat_leaf, Tree.sat_fail, Nat.zero_add, Nat.sub_zero, Int.toNat_natCast, LeH_cons, LeH_nil, LeL_cons, LeL_nil, and_true, true_and, Bool.and_eq_true, Bool.or_eq_true, decide_eq_true_eq, decide_eq_false_iff_not, Bool.cond_true_left, Bool.cond_false_right, List.cons_append, List.nil_append, List.map_cons, List.map_nil, hg]
    repeat' (first | apply And.intro | intro _hc)
    all_goals first | exact tup2 (leS rfl) (leB rfl) | exact AV.le_refl _ | exact AV.le_any _ | exact OLe.refl _ | exact OLe.none _ | exact LeH.refl _ | exact LeL.refl _ | exact AV.le.bs _ | exact AV.le.sb _ | omega | contradiction
noncomputable def kFr : CT Tryd.prog Γm := CT.oS 25 Tryd.func25 (by kernel_rfl) (by kernel_rfl) (fun s => s.size ≤ 10000000) foldRV (fun _ => []) (fun s h => ansFr h)
noncomputable abbrev T4 : List (CT Tryd.prog Γm) := [z8, kChk, kChkR, kVal, kValR, kFd, kFr]
def A4 (s : ByteArray) : List AV := [.v (.string s)]
theorem run4 (s : ByteArray) : bodyE (P := Tryd.prog) (Γ := Γm) T4 Lno false 72 [.tmp 2] (bodyOf Tryd.f4) (A4 s) [] =
  Tree.br (decide ((2000 : Int) < (↑(ByteArray.size s) : Int))) (Tree.leaf (Ans.mk (AV.v (Value.bool true)) [])) (Tree.chk (cl (ByteArray.size s ≤ (1000000000 : Nat) ∧ LeL [AV.v (Value.string
    s)] [AV.v (Value.string s)] ∧ LeH [] []) && (cl (ByteArray.size s ≤ (100000000 : Nat) ∧ LeL [AV.v (Value.string s)] [AV.v (Value.string s)] ∧ LeH [] []) && bif !decide (erN (nameB s) =
    (0 : Int)) == nameB s then true else cl (ByteArray.size s ≤ (1000000000 : Nat) ∧ LeL [AV.v (Value.string s)] [AV.v (Value.string s)] ∧ LeH [] []) && cl (ByteArray.size s ≤ (100000000 :
    Nat) ∧ LeL [AV.v (Value.string s)] [AV.v (Value.string s)] ∧ LeH [] []))) (Tree.br (bif !decide (erN (nameB s) = (0 : Int)) == nameB s then true else !decide (erN (valueB s) = (0 : Int))
    == valueB s) (Tree.leaf (Ans.mk (AV.v (Value.bool false)) [])) (Tree.chk (cl (ByteArray.size s ≤ (10000000 : Nat) ∧ LeL [AV.v (Value.string s)] [AV.v (Value.string s)] ∧ LeH [] []))
    (Tree.chk (cl (ByteArray.size s ≤ (10000000 : Nat) ∧ LeL [AV.v (Value.string s)] [AV.v (Value.string s)] ∧ LeH [] [])) (Tree.chk (bif decide ((bif foldOk s then foldB s else ByteArray.mk
    #[]) = bif foldOk s then foldB s else ByteArray.mk #[]) then bif decide (erN (foldOk s) = (0 : Int)) == foldOk s then bif foldOk s then cl (ByteArray.size s ≤ (1000000000 : Nat) ∧ LeL
    [AV.v (Value.string s)] [AV.v (Value.string s)] ∧ LeH [] []) && bif decide (erN (nameB s) = (0 : Int)) then cl (ByteArray.size s ≤ (1000000000 : Nat) ∧ LeL [AV.v (Value.string s)] [AV.v
    (Value.string s)] ∧ LeH [] []) && bif decide (erN (valueB s) = (0 : Int)) then true else cl (ByteArray.size s ≤ (1000000000 : Nat) ∧ LeL [AV.v (Value.string s)] [AV.v (Value.string s)] ∧
    LeH [] []) else cl (ByteArray.size s ≤ (1000000000 : Nat) ∧ LeL [AV.v (Value.string s)] [AV.v (Value.string s)] ∧ LeH [] []) && bif decide (erN (nameB s) = (20 : Int)) then cl
    (ByteArray.size s ≤ (1000000000 : Nat) ∧ LeL [AV.v (Value.string s)] [AV.v (Value.string s)] ∧ LeH [] []) && bif decide (erN (valueB s) = (0 : Int)) then true else cl (ByteArray.size s ≤
    (1000000000 : Nat) ∧ LeL [AV.v (Value.string s)] [AV.v (Value.string s)] ∧ LeH [] []) else true else bif decide (erN (foldOk s) = (20 : Int)) then cl (ByteArray.size s ≤ (1000000000 :
    Nat) ∧ LeL [AV.v (Value.string s)] [AV.v (Value.string s)] ∧ LeH [] []) && bif decide (erN (nameB s) = (0 : Int)) then cl (ByteArray.size s ≤ (1000000000 : Nat) ∧ LeL [AV.v (Value.string
    s)] [AV.v (Value.string s)] ∧ LeH [] []) && bif decide (erN (valueB s) = (0 : Int)) then true else cl (ByteArray.size s ≤ (1000000000 : Nat) ∧ LeL [AV.v (Value.string s)] [AV.v
    (Value.string s)] ∧ LeH [] []) else cl (ByteArray.size s ≤ (1000000000 : Nat) ∧ LeL [AV.v (Value.string s)] [AV.v (Value.string s)] ∧ LeH [] []) && bif decide (erN (nameB s) = (20 :
    Int)) then cl (ByteArray.size s ≤ (1000000000 : Nat) ∧ LeL [AV.v (Value.string s)] [AV.v (Value.string s)] ∧ LeH [] []) && bif decide (erN (valueB s) = (0 : Int)) then true else cl
    (ByteArray.size s ≤ (1000000000 : Nat) ∧ LeL [AV.v (Value.string s)] [AV.v (Value.string s)] ∧ LeH [] []) else true else true else true else true) (Tree.leaf (Ans.mk (AV.sb (bif decide
    ((bif foldOk s then foldB s else ByteArray.mk #[]) = bif foldOk s then foldB s else ByteArray.mk #[]) then bif decide (erN (foldOk s) = (0 : Int)) == foldOk s then bif foldOk s then bif
    decide (erN (nameB s) = (0 : Int)) then bif decide (erN (valueB s) = (0 : Int)) then true else decide (erN (valueB s) = (20 : Int)) else bif decide (erN (nameB s) = (20 : Int)) then bif
    decide (erN (valueB s) = (0 : Int)) then true else decide (erN (valueB s) = (20 : Int)) else false else bif decide (erN (foldOk s) = (20 : Int)) then bif decide (erN (nameB s) = (0 :
    Int)) then bif decide (erN (valueB s) = (0 : Int)) then true else decide (erN (valueB s) = (20 : Int)) else bif decide (erN (nameB s) = (20 : Int)) then bif decide (erN (valueB s) = (0 :
    Int)) then true else decide (erN (valueB s) = (20 : Int)) else false else false else false else false)) []))))))) := by kernel_rfl
theorem law4 (s : ByteArray) : LawOK Tryd.prog Γm 72 [.tmp 2] (bodyOf Tryd.f4) (A4 s) := by
  refine .mk' (T := T4) (ip := false) (L := Lno) (noLoops (by kernel_rfl)) (Right.of (run4 s) ?_)
  have e1 : erN true = 0 := rfl
  have e0 : erN false = 20 := rfl
  have hs1 : decide (foldB s = foldB s) = true := decide_eq_true rfl
  have hs2 : decide ((⟨#[]⟩ : ByteArray) = ⟨#[]⟩) = true := decide_eq_true rfl
  have q1 : decide ((20 : Int) = 0) = false := by decide
  have q2 : decide ((0 : Int) = 20) = false := by decide
  have q3 : ∀ b : Bool, (b == b) = true := fun b => by cases b <;> rfl
  cases h1 : nameB s with
  | true =>
    cases h2 : valueB s with
    | true =>
      cases h3 : foldOk s with
      | true =>
        repeat' (first | refine wC (by first | omega | (simp only [cl_iff, AV.le_refl, AV.le_any, OLe_refl, LeH_cons, LeH_nil, LeL_cons, LeL_nil, and_true, true_and, Bool.and_eq_true, Bool.or_eq_true, decide_eq_true_eq, notT, Bool.cond_true_left, Bool.cond_false_right, Nat.blt_eq, Nat.zero_add, cond_true, cond_false, Int.toNat_natCast, Bool.not_true, Bool.not_false, Bool.false_eq_true, not_true_eq_false, not_false_eq_true, or_false, false_or, or_true, true_or, and_false, false_and, condIT, h1, h2, h3, e1, e0, hs1, hs2, q1, q2, q3, decide_true, decide_false]; first | done | omega)) ?_ | refine wT (by first | omega | (simp only [cl_iff, AV.le_refl, AV.le_any, OLe_refl, LeH_cons, LeH_nil, LeL_cons, LeL_nil, and_true, true_and, Bool.and_eq_true, Bool.or_eq_true, decide_eq_true_eq, notT, Bool.cond_true_left, Bool.cond_false_right, Nat.blt_eq, Nat.zero_add, cond_true, cond_false, Int.toNat_natCast, Bool.not_true, Bool.not_false, Bool.false_eq_true, not_true_eq_false, not_false_eq_true, or_false, false_or, or_true, true_or, and_false, false_and, condIT, h1, h2, h3, e1, e0, hs1, hs2, q1, q2, q3, decide_true, decide_false]; first | done | omega)) ?_ | refine wF (by intro _h; first | omega | (simp only [cl_iff, AV.le_refl, AV.le_any, OLe_refl, LeH_cons, LeH_nil, LeL_cons, LeL_nil, and_true, true_and, Bool.and_eq_true, Bool.or_eq_true, decide_eq_true_eq, notT, Bool.cond_true_left, Bool.cond_false_right, Nat.blt_eq, Nat.zero_add, cond_true, cond_false, Int.toNat_natCast, Bool.not_true, Bool.not_false, Bool.false_eq_true, not_true_eq_false, not_false_eq_true, or_false, false_or, or_true, true_or, and_false, false_and, condIT, h1, h2, h3, e1, e0, hs1, hs2, q1, q2, q3, decide_true, decide_false] at _h; first | done | omega)) ?_ | (refine wS ?_ ?_ <;> intro _h <;> simp only [cl_iff, AV.le_refl, AV.le_any, OLe_refl, LeH_cons, LeH_nil, LeL_cons, LeL_nil, and_true, true_and, Bool.and_eq_true, Bool.or_eq_true, decide_eq_true_eq, notT, Bool.cond_true_left, Bool.cond_false_right, Nat.blt_eq, Nat.zero_add, cond_true, cond_false, Int.toNat_natCast, Bool.not_true, Bool.not_false, Bool.false_eq_true, not_true_eq_false, not_false_eq_true, or_false, false_or, or_true, true_or, and_false, false_and, condIT, h1, h2, h3, e1, e0, hs1, hs2, q1, q2, q3, decide_true, decide_false] at _h))
        all_goals simp only [or_true, true_or, false_or, or_false, and_false, false_and, cond_true, cond_false, Bool.not_true, Bool.not_false, Bool.false_eq_true, Bool.true_eq_false, not_true_eq_false, not_false_eq_true, false_implies, true_implies, implies_true, Nat.blt_eq, owesN, owesX, owesR, notT, sat_brT, sat_brF, sat_chkT, cl_iff, cl_false, AV.le_refl, AV.le_any, OLe_refl, OLe_none, sat_brN, Tree.sat_chk, Tree.sat_leaf, Tree.sat_fail, Nat.zero_add, Nat.sub_zero, Int.toNat_natCast, LeH_cons, LeH_nil, LeL_cons, LeL_nil, and_true, true_and, Bool.and_eq_true, Bool.or_eq_true, decide_eq_true_eq, decide_eq_false_iff_not, Bool.cond_true_left, Bool.cond_false_right, List.cons_append, List.nil_append, List.map_cons, List.map_nil, h1, h2, h3, e1, e0, hs1, hs2, q1, q2, q3, decide_true, decide_false]
        repeat' (first | apply And.intro | intro _hc)
        all_goals first | exact AV.le_refl _ | exact AV.le_any _ | exact OLe.refl _ | exact OLe.none _ | exact LeH.refl _ | exact LeL.refl _ | exact AV.le.bs _ | exact AV.le.sb _ | omega | contradiction
      | false =>
        repeat' (first | refine wC (by first | omega | (simp only [cl_iff, AV.le_refl, AV.le_any, OLe_refl, LeH_cons, LeH_nil, LeL_cons, LeL_nil, and_true, true_and, Bool.and_eq_true, Bool.or_eq_true, decide_eq_true_eq, notT, Bool.cond_true_left, Bool.cond_false_right, Nat.blt_eq, Nat.zero_add, cond_true, cond_false, Int.toNat_natCast, Bool.not_true, Bool.not_false, Bool.false_eq_true, not_true_eq_false, not_false_eq_true, or_false, false_or, or_true, true_or, and_false, false_and, condIT, h1, h2, h3, e1, e0, hs1, hs2, q1, q2, q3, decide_true, decide_false]; first | done | omega)) ?_ | refine wT (by first | omega | (simp only [cl_iff, AV.le_refl, AV.le_any, OLe_refl, LeH_cons, LeH_nil, LeL_cons, LeL_nil, and_true, true_and, Bool.and_eq_true, Bool.or_eq_true, decide_eq_true_eq, notT, Bool.cond_true_left, Bool.cond_false_right, Nat.blt_eq, Nat.zero_add, cond_true, cond_false, Int.toNat_natCast, Bool.not_true, Bool.not_false, Bool.false_eq_true, not_true_eq_false, not_false_eq_true, or_false, false_or, or_true, true_or, and_false, false_and, condIT, h1, h2, h3, e1, e0, hs1, hs2, q1, q2, q3, decide_true, decide_false]; first | done | omega)) ?_ | refine wF (by intro _h; first | omega | (simp only [cl_iff, AV.le_refl, AV.le_any, OLe_refl, LeH_cons, LeH_nil, LeL_cons, LeL_nil, and_true, true_and, Bool.and_eq_true, Bool.or_eq_true, decide_eq_true_eq, notT, Bool.cond_true_left, Bool.cond_false_right, Nat.blt_eq, Nat.zero_add, cond_true, cond_false, Int.toNat_natCast, Bool.not_true, Bool.not_false, Bool.false_eq_true, not_true_eq_false, not_false_eq_true, or_false, false_or, or_true, true_or, and_false, false_and, condIT, h1, h2, h3, e1, e0, hs1, hs2, q1, q2, q3, decide_true, decide_false] at _h; first | done | omega)) ?_ | (refine wS ?_ ?_ <;> intro _h <;> simp only [cl_iff, AV.le_refl, AV.le_any, OLe_refl, LeH_cons, LeH_nil, LeL_cons, LeL_nil, and_true, true_and, Bool.and_eq_true, Bool.or_eq_true, decide_eq_true_eq, notT, Bool.cond_true_left, Bool.cond_false_right, Nat.blt_eq, Nat.zero_add, cond_true, cond_false, Int.toNat_natCast, Bool.not_true, Bool.not_false, Bool.false_eq_true, not_true_eq_false, not_false_eq_true, or_false, false_or, or_true, true_or, and_false, false_and, condIT, h1, h2, h3, e1, e0, hs1, hs2, q1, q2, q3, decide_true, decide_false] at _h))
        all_goals simp only [or_true, true_or, false_or, or_false, and_false, false_and, cond_true, cond_false, Bool.not_true, Bool.not_false, Bool.false_eq_true, Bool.true_eq_false, not_true_eq_false, not_false_eq_true, false_implies, true_implies, implies_true, Nat.blt_eq, owesN, owesX, owesR, notT, sat_brT, sat_brF, sat_chkT, cl_iff, cl_false, AV.le_refl, AV.le_any, OLe_refl, OLe_none, sat_brN, Tree.sat_chk, Tree.sat_leaf, Tree.sat_fail, Nat.zero_add, Nat.sub_zero, Int.toNat_natCast, LeH_cons, LeH_nil, LeL_cons, LeL_nil, and_true, true_and, Bool.and_eq_true, Bool.or_eq_true, decide_eq_true_eq, decide_eq_false_iff_not, Bool.cond_true_left, Bool.cond_false_right, List.cons_append, List.nil_append, List.map_cons, List.map_nil, h1, h2, h3, e1, e0, hs1, hs2, q1, q2, q3, decide_true, decide_false]
        repeat' (first | apply And.intro | intro _hc)
        all_goals first | exact AV.le_refl _ | exact AV.le_any _ | exact OLe.refl _ | exact OLe.none _ | exact LeH.refl _ | exact LeL.refl _ | exact AV.le.bs _ | exact AV.le.sb _ | omega | contradiction
    | false =>
      cases h3 : foldOk s with
      | true =>
        repeat' (first | refine wC (by first | omega | (simp only [cl_iff, AV.le_refl, AV.le_any, OLe_refl, LeH_cons, LeH_nil, LeL_cons, LeL_nil, and_true, true_and, Bool.and_eq_true, Bool.or_eq_true, decide_eq_true_eq, notT, Bool.cond_true_left, Bool.cond_false_right, Nat.blt_eq, Nat.zero_add, cond_true, cond_false, Int.toNat_natCast, Bool.not_true, Bool.not_false, Bool.false_eq_true, not_true_eq_false, not_false_eq_true, or_false, false_or, or_true, true_or, and_false, false_and, condIT, h1, h2, h3, e1, e0, hs1, hs2, q1, q2, q3, decide_true, decide_false]; first | done | omega)) ?_ | refine wT (by first | omega | (simp only [cl_iff, AV.le_refl, AV.le_any, OLe_refl, LeH_cons, LeH_nil, LeL_cons, LeL_nil, and_true, true_and, Bool.and_eq_true, Bool.or_eq_true, decide_eq_true_eq, notT, Bool.cond_true_left, Bool.cond_false_right, Nat.blt_eq, Nat.zero_add, cond_true, cond_false, Int.toNat_natCast, Bool.not_true, Bool.not_false, Bool.false_eq_true, not_true_eq_false, not_false_eq_true, or_false, false_or, or_true, true_or, and_false, false_and, condIT, h1, h2, h3, e1, e0, hs1, hs2, q1, q2, q3, decide_true, decide_false]; first | done | omega)) ?_ | refine wF (by intro _h; first | omega | (simp only [cl_iff, AV.le_refl, AV.le_any, OLe_refl, LeH_cons, LeH_nil, LeL_cons, LeL_nil, and_true, true_and, Bool.and_eq_true, Bool.or_eq_true, decide_eq_true_eq, notT, Bool.cond_true_left, Bool.cond_false_right, Nat.blt_eq, Nat.zero_add, cond_true, cond_false, Int.toNat_natCast, Bool.not_true, Bool.not_false, Bool.false_eq_true, not_true_eq_false, not_false_eq_true, or_false, false_or, or_true, true_or, and_false, false_and, condIT, h1, h2, h3, e1, e0, hs1, hs2, q1, q2, q3, decide_true, decide_false] at _h; first | done | omega)) ?_ | (refine wS ?_ ?_ <;> intro _h <;> simp only [cl_iff, AV.le_refl, AV.le_any, OLe_refl, LeH_cons, LeH_nil, LeL_cons, LeL_nil, and_true, true_and, Bool.and_eq_true, Bool.or_eq_true, decide_eq_true_eq, notT, Bool.cond_true_left, Bool.cond_false_right, Nat.blt_eq, Nat.zero_add, cond_true, cond_false, Int.toNat_natCast, Bool.not_true, Bool.not_false, Bool.false_eq_true, not_true_eq_false, not_false_eq_true, or_false, false_or, or_true, true_or, and_false, false_and, condIT, h1, h2, h3, e1, e0, hs1, hs2, q1, q2, q3, decide_true, decide_false] at _h))
        all_goals simp only [or_true, true_or, false_or, or_false, and_false, false_and, cond_true, cond_false, Bool.not_true, Bool.not_false, Bool.false_eq_true, Bool.true_eq_false, not_true_eq_false, not_false_eq_true, false_implies, true_implies, implies_true, Nat.blt_eq, owesN, owesX, owesR, notT, sat_brT, sat_brF, sat_chkT, cl_iff, cl_false, AV.le_refl, AV.le_any, OLe_refl, OLe_none, sat_brN, Tree.sat_chk, Tree.sat_leaf, Tree.sat_fail, Nat.zero_add, Nat.sub_zero, Int.toNat_natCast, LeH_cons, LeH_nil, LeL_cons, LeL_nil, and_true, true_and, Bool.and_eq_true, Bool.or_eq_true, decide_eq_true_eq, decide_eq_false_iff_not, Bool.cond_true_left, Bool.cond_false_right, List.cons_append, List.nil_append, List.map_cons, List.map_nil, h1, h2, h3, e1, e0, hs1, hs2, q1, q2, q3, decide_true, decide_false]
        repeat' (first | apply And.intro | intro _hc)
        all_goals first | exact AV.le_refl _ | exact AV.le_any _ | exact OLe.refl _ | exact OLe.none _ | exact LeH.refl _ | exact LeL.refl _ | exact AV.le.bs _ | exact AV.le.sb _ | omega | contradiction
      | false =>
        repeat' (first | refine wC (by first | omega | (simp only [cl_iff, AV.le_refl, AV.le_any, OLe_refl, LeH_cons, LeH_nil, LeL_cons, LeL_nil, and_true, true_and, Bool.and_eq_true, Bool.or_eq_true, decide_eq_true_eq, notT, Bool.cond_true_left, Bool.cond_false_right, Nat.blt_eq, Nat.zero_add, cond_true, cond_false, Int.toNat_natCast, Bool.not_true, Bool.not_false, Bool.false_eq_true, not_true_eq_false, not_false_eq_true, or_false, false_or, or_true, true_or, and_false, false_and, condIT, h1, h2, h3, e1, e0, hs1, hs2, q1, q2, q3, decide_true, decide_false]; first | done | omega)) ?_ | refine wT (by first | omega | (simp only [cl_iff, AV.le_refl, AV.le_any, OLe_refl, LeH_cons, LeH_nil, LeL_cons, LeL_nil, and_true, true_and, Bool.and_eq_true, Bool.or_eq_true, decide_eq_true_eq, notT, Bool.cond_true_left, Bool.cond_false_right, Nat.blt_eq, Nat.zero_add, cond_true, cond_false, Int.toNat_natCast, Bool.not_true, Bool.not_false, Bool.false_eq_true, not_true_eq_false, not_false_eq_true, or_false, false_or, or_true, true_or, and_false, false_and, condIT, h1, h2, h3, e1, e0, hs1, hs2, q1, q2, q3, decide_true, decide_false]; first | done | omega)) ?_ | refine wF (by intro _h; first | omega | (simp only [cl_iff, AV.le_refl, AV.le_any, OLe_refl, LeH_cons, LeH_nil, LeL_cons, LeL_nil, and_true, true_and, Bool.and_eq_true, Bool.or_eq_true, decide_eq_true_eq, notT, Bool.cond_true_left, Bool.cond_false_right, Nat.blt_eq, Nat.zero_add, cond_true, cond_false, Int.toNat_natCast, Bool.not_true, Bool.not_false, Bool.false_eq_true, not_true_eq_false, not_false_eq_true, or_false, false_or, or_true, true_or, and_false, false_and, condIT, h1, h2, h3, e1, e0, hs1, hs2, q1, q2, q3, decide_true, decide_false] at _h; first | done | omega)) ?_ | (refine wS ?_ ?_ <;> intro _h <;> simp only [cl_iff, AV.le_refl, AV.le_any, OLe_refl, LeH_cons, LeH_nil, LeL_cons, LeL_nil, and_true, true_and, Bool.and_eq_true, Bool.or_eq_true, decide_eq_true_eq, notT, Bool.cond_true_left, Bool.cond_false_right, Nat.blt_eq, Nat.zero_add, cond_true, cond_false, Int.toNat_natCast, Bool.not_true, Bool.not_false, Bool.false_eq_true, not_true_eq_false, not_false_eq_true, or_false, false_or, or_true, true_or, and_false, false_and, condIT, h1, h2, h3, e1, e0, hs1, hs2, q1, q2, q3, decide_true, decide_false] at _h))
        all_goals simp only [or_true, true_or, false_or, or_false, and_false, false_and, cond_true, cond_false, Bool.not_true, Bool.not_false, Bool.false_eq_true, Bool.true_eq_false, not_true_eq_false, not_false_eq_true, false_implies, true_implies, implies_true, Nat.blt_eq, owesN, owesX, owesR, notT, sat_brT, sat_brF, sat_chkT, cl_iff, cl_false, AV.le_refl, AV.le_any, OLe_refl, OLe_none, sat_brN, Tree.sat_chk, Tree.sat_leaf, Tree.sat_fail, Nat.zero_add, Nat.sub_zero, Int.toNat_natCast, LeH_cons, LeH_nil, LeL_cons, LeL_nil, and_true, true_and, Bool.and_eq_true, Bool.or_eq_true, decide_eq_true_eq, decide_eq_false_iff_not, Bool.cond_true_left, Bool.cond_false_right, List.cons_append, List.nil_append, List.map_cons, List.map_nil, h1, h2, h3, e1, e0, hs1, hs2, q1, q2, q3, decide_true, decide_false]
        repeat' (first | apply And.intro | intro _hc)
        all_goals first | exact AV.le_refl _ | exact AV.le_any _ | exact OLe.refl _ | exact OLe.none _ | exact LeH.refl _ | exact LeL.refl _ | exact AV.le.bs _ | exact AV.le.sb _ | omega | contradiction
  | false =>
    cases h2 : valueB s with
    | true =>
      cases h3 : foldOk s with
      | true =>
        repeat' (first | refine wC (by first | omega | (simp only [cl_iff, AV.le_refl, AV.le_any, OLe_refl, LeH_cons, LeH_nil, LeL_cons, LeL_nil, and_true, true_and, Bool.and_eq_true, Bool.or_eq_true, decide_eq_true_eq, notT, Bool.cond_true_left, Bool.cond_false_right, Nat.blt_eq, Nat.zero_add, cond_true, cond_false, Int.toNat_natCast, Bool.not_true, Bool.not_false, Bool.false_eq_true, not_true_eq_false, not_false_eq_true, or_false, false_or, or_true, true_or, and_false, false_and, condIT, h1, h2, h3, e1, e0, hs1, hs2, q1, q2, q3, decide_true, decide_false]; first | done | omega)) ?_ | refine wT (by first | omega | (simp only [cl_iff, AV.le_refl, AV.le_any, OLe_refl, LeH_cons, LeH_nil, LeL_cons, LeL_nil, and_true, true_and, Bool.and_eq_true, Bool.or_eq_true, decide_eq_true_eq, notT, Bool.cond_true_left, Bool.cond_false_right, Nat.blt_eq, Nat.zero_add, cond_true, cond_false, Int.toNat_natCast, Bool.not_true, Bool.not_false, Bool.false_eq_true, not_true_eq_false, not_false_eq_true, or_false, false_or, or_true, true_or, and_false, false_and, condIT, h1, h2, h3, e1, e0, hs1, hs2, q1, q2, q3, decide_true, decide_false]; first | done | omega)) ?_ | refine wF (by intro _h; first | omega | (simp only [cl_iff, AV.le_refl, AV.le_any, OLe_refl, LeH_cons, LeH_nil, LeL_cons, LeL_nil, and_true, true_and, Bool.and_eq_true, Bool.or_eq_true, decide_eq_true_eq, notT, Bool.cond_true_left, Bool.cond_false_right, Nat.blt_eq, Nat.zero_add, cond_true, cond_false, Int.toNat_natCast, Bool.not_true, Bool.not_false, Bool.false_eq_true, not_true_eq_false, not_false_eq_true, or_false, false_or, or_true, true_or, and_false, false_and, condIT, h1, h2, h3, e1, e0, hs1, hs2, q1, q2, q3, decide_true, decide_false] at _h; first | done | omega)) ?_ | (refine wS ?_ ?_ <;> intro _h <;> simp only [cl_iff, AV.le_refl, AV.le_any, OLe_refl, LeH_cons, LeH_nil, LeL_cons, LeL_nil, and_true, true_and, Bool.and_eq_true, Bool.or_eq_true, decide_eq_true_eq, notT, Bool.cond_true_left, Bool.cond_false_right, Nat.blt_eq, Nat.zero_add, cond_true, cond_false, Int.toNat_natCast, Bool.not_true, Bool.not_false, Bool.false_eq_true, not_true_eq_false, not_false_eq_true, or_false, false_or, or_true, true_or, and_false, false_and, condIT, h1, h2, h3, e1, e0, hs1, hs2, q1, q2, q3, decide_true, decide_false] at _h))
        all_goals simp only [or_true, true_or, false_or, or_false, and_false, false_and, cond_true, cond_false, Bool.not_true, Bool.not_false, Bool.false_eq_true, Bool.true_eq_false, not_true_eq_false, not_false_eq_true, false_implies, true_implies, implies_true, Nat.blt_eq, owesN, owesX, owesR, notT, sat_brT, sat_brF, sat_chkT, cl_iff, cl_false, AV.le_refl, AV.le_any, OLe_refl, OLe_none, sat_brN, Tree.sat_chk, Tree.sat_leaf, Tree.sat_fail, Nat.zero_add, Nat.sub_zero, Int.toNat_natCast, LeH_cons, LeH_nil, LeL_cons, LeL_nil, and_true, true_and, Bool.and_eq_true, Bool.or_eq_true, decide_eq_true_eq, decide_eq_false_iff_not, Bool.cond_true_left, Bool.cond_false_right, List.cons_append, List.nil_append, List.map_cons, List.map_nil, h1, h2, h3, e1, e0, hs1, hs2, q1, q2, q3, decide_true, decide_false]
        repeat' (first | apply And.intro | intro _hc)
        all_goals first | exact AV.le_refl _ | exact AV.le_any _ | exact OLe.refl _ | exact OLe.none _ | exact LeH.refl _ | exact LeL.refl _ | exact AV.le.bs _ | exact AV.le.sb _ | omega | contradiction
      | false =>
        repeat' (first | refine wC (by first | omega | (simp only [cl_iff, AV.le_refl, AV.le_any, OLe_refl, LeH_cons, LeH_nil, LeL_cons, LeL_nil, and_true, true_and, Bool.and_eq_true, Bool.or_eq_true, decide_eq_true_eq, notT, Bool.cond_true_left, Bool.cond_false_right, Nat.blt_eq, Nat.zero_add, cond_true, cond_false, Int.toNat_natCast, Bool.not_true, Bool.not_false, Bool.false_eq_true, not_true_eq_false, not_false_eq_true, or_false, false_or, or_true, true_or, and_false, false_and, condIT, h1, h2, h3, e1, e0, hs1, hs2, q1, q2, q3, decide_true, decide_false]; first | done | omega)) ?_ | refine wT (by first | omega | (simp only [cl_iff, AV.le_refl, AV.le_any, OLe_refl, LeH_cons, LeH_nil, LeL_cons, LeL_nil, and_true, true_and, Bool.and_eq_true, Bool.or_eq_true, decide_eq_true_eq, notT, Bool.cond_true_left, Bool.cond_false_right, Nat.blt_eq, Nat.zero_add, cond_true, cond_false, Int.toNat_natCast, Bool.not_true, Bool.not_false, Bool.false_eq_true, not_true_eq_false, not_false_eq_true, or_false, false_or, or_true, true_or, and_false, false_and, condIT, h1, h2, h3, e1, e0, hs1, hs2, q1, q2, q3, decide_true, decide_false]; first | done | omega)) ?_ | refine wF (by intro _h; first | omega | (simp only [cl_iff, AV.le_refl, AV.le_any, OLe_refl, LeH_cons, LeH_nil, LeL_cons, LeL_nil, and_true, true_and, Bool.and_eq_true, Bool.or_eq_true, decide_eq_true_eq, notT, Bool.cond_true_left, Bool.cond_false_right, Nat.blt_eq, Nat.zero_add, cond_true, cond_false, Int.toNat_natCast, Bool.not_true, Bool.not_false, Bool.false_eq_true, not_true_eq_false, not_false_eq_true, or_false, false_or, or_true, true_or, and_false, false_and, condIT, h1, h2, h3, e1, e0, hs1, hs2, q1, q2, q3, decide_true, decide_false] at _h; first | done | omega)) ?_ | (refine wS ?_ ?_ <;> intro _h <;> simp only [cl_iff, AV.le_refl, AV.le_any, OLe_refl, LeH_cons, LeH_nil, LeL_cons, LeL_nil, and_true, true_and, Bool.and_eq_true, Bool.or_eq_true, decide_eq_true_eq, notT, Bool.cond_true_left, Bool.cond_false_right, Nat.blt_eq, Nat.zero_add, cond_true, cond_false, Int.toNat_natCast, Bool.not_true, Bool.not_false, Bool.false_eq_true, not_true_eq_false, not_false_eq_true, or_false, false_or, or_true, true_or, and_false, false_and, condIT, h1, h2, h3, e1, e0, hs1, hs2, q1, q2, q3, decide_true, decide_false] at _h))
        all_goals simp only [or_true, true_or, false_or, or_false, and_false, false_and, cond_true, cond_false, Bool.not_true, Bool.not_false, Bool.false_eq_true, Bool.true_eq_false, not_true_eq_false, not_false_eq_true, false_implies, true_implies, implies_true, Nat.blt_eq, owesN, owesX, owesR, notT, sat_brT, sat_brF, sat_chkT, cl_iff, cl_false, AV.le_refl, AV.le_any, OLe_refl, OLe_none, sat_brN, Tree.sat_chk, Tree.sat_leaf, Tree.sat_fail, Nat.zero_add, Nat.sub_zero, Int.toNat_natCast, LeH_cons, LeH_nil, LeL_cons, LeL_nil, and_true, true_and, Bool.and_eq_true, Bool.or_eq_true, decide_eq_true_eq, decide_eq_false_iff_not, Bool.cond_true_left, Bool.cond_false_right, List.cons_append, List.nil_append, List.map_cons, List.map_nil, h1, h2, h3, e1, e0, hs1, hs2, q1, q2, q3, decide_true, decide_false]
        repeat' (first | apply And.intro | intro _hc)
        all_goals first | exact AV.le_refl _ | exact AV.le_any _ | exact OLe.refl _ | exact OLe.none _ | exact LeH.refl _ | exact LeL.refl _ | exact AV.le.bs _ | exact AV.le.sb _ | omega | contradiction
    | false =>
      cases h3 : foldOk s with
      | true =>
        repeat' (first | refine wC (by first | omega | (simp only [cl_iff, AV.le_refl, AV.le_any, OLe_refl, LeH_cons, LeH_nil, LeL_cons, LeL_nil, and_true, true_and, Bool.and_eq_true, Bool.or_eq_true, decide_eq_true_eq, notT, Bool.cond_true_left, Bool.cond_false_right, Nat.blt_eq, Nat.zero_add, cond_true, cond_false, Int.toNat_natCast, Bool.not_true, Bool.not_false, Bool.false_eq_true, not_true_eq_false, not_false_eq_true, or_false, false_or, or_true, true_or, and_false, false_and, condIT, h1, h2, h3, e1, e0, hs1, hs2, q1, q2, q3, decide_true, decide_false]; first | done | omega)) ?_ | refine wT (by first | omega | (simp only [cl_iff, AV.le_refl, AV.le_any, OLe_refl, LeH_cons, LeH_nil, LeL_cons, LeL_nil, and_true, true_and, Bool.and_eq_true, Bool.or_eq_true, decide_eq_true_eq, notT, Bool.cond_true_left, Bool.cond_false_right, Nat.blt_eq, Nat.zero_add, cond_true, cond_false, Int.toNat_natCast, Bool.not_true, Bool.not_false, Bool.false_eq_true, not_true_eq_false, not_false_eq_true, or_false, false_or, or_true, true_or, and_false, false_and, condIT, h1, h2, h3, e1, e0, hs1, hs2, q1, q2, q3, decide_true, decide_false]; first | done | omega)) ?_ | refine wF (by intro _h; first | omega | (simp only [cl_iff, AV.le_refl, AV.le_any, OLe_refl, LeH_cons, LeH_nil, LeL_cons, LeL_nil, and_true, true_and, Bool.and_eq_true, Bool.or_eq_true, decide_eq_true_eq, notT, Bool.cond_true_left, Bool.cond_false_right, Nat.blt_eq, Nat.zero_add, cond_true, cond_false, Int.toNat_natCast, Bool.not_true, Bool.not_false, Bool.false_eq_true, not_true_eq_false, not_false_eq_true, or_false, false_or, or_true, true_or, and_false, false_and, condIT, h1, h2, h3, e1, e0, hs1, hs2, q1, q2, q3, decide_true, decide_false] at _h; first | done | omega)) ?_ | (refine wS ?_ ?_ <;> intro _h <;> simp only [cl_iff, AV.le_refl, AV.le_any, OLe_refl, LeH_cons, LeH_nil, LeL_cons, LeL_nil, and_true, true_and, Bool.and_eq_true, Bool.or_eq_true, decide_eq_true_eq, notT, Bool.cond_true_left, Bool.cond_false_right, Nat.blt_eq, Nat.zero_add, cond_true, cond_false, Int.toNat_natCast, Bool.not_true, Bool.not_false, Bool.false_eq_true, not_true_eq_false, not_false_eq_true, or_false, false_or, or_true, true_or, and_false, false_and, condIT, h1, h2, h3, e1, e0, hs1, hs2, q1, q2, q3, decide_true, decide_false] at _h))
        all_goals simp only [or_true, true_or, false_or, or_false, and_false, false_and, cond_true, cond_false, Bool.not_true, Bool.not_false, Bool.false_eq_true, Bool.true_eq_false, not_true_eq_false, not_false_eq_true, false_implies, true_implies, implies_true, Nat.blt_eq, owesN, owesX, owesR, notT, sat_brT, sat_brF, sat_chkT, cl_iff, cl_false, AV.le_refl, AV.le_any, OLe_refl, OLe_none, sat_brN, Tree.sat_chk, Tree.sat_leaf, Tree.sat_fail, Nat.zero_add, Nat.sub_zero, Int.toNat_natCast, LeH_cons, LeH_nil, LeL_cons, LeL_nil, and_true, true_and, Bool.and_eq_true, Bool.or_eq_true, decide_eq_true_eq, decide_eq_false_iff_not, Bool.cond_true_left, Bool.cond_false_right, List.cons_append, List.nil_append, List.map_cons, List.map_nil, h1, h2, h3, e1, e0, hs1, hs2, q1, q2, q3, decide_true, decide_false]
        repeat' (first | apply And.intro | intro _hc)
        all_goals first | exact AV.le_refl _ | exact AV.le_any _ | exact OLe.refl _ | exact OLe.none _ | exact LeH.refl _ | exact LeL.refl _ | exact AV.le.bs _ | exact AV.le.sb _ | omega | contradiction
      | false =>
        repeat' (first | refine wC (by first | omega | (simp only [cl_iff, AV.le_refl, AV.le_any, OLe_refl, LeH_cons, LeH_nil, LeL_cons, LeL_nil, and_true, true_and, Bool.and_eq_true, Bool.or_eq_true, decide_eq_true_eq, notT, Bool.cond_true_left, Bool.cond_false_right, Nat.blt_eq, Nat.zero_add, cond_true, cond_false, Int.toNat_natCast, Bool.not_true, Bool.not_false, Bool.false_eq_true, not_true_eq_false, not_false_eq_true, or_false, false_or, or_true, true_or, and_false, false_and, condIT, h1, h2, h3, e1, e0, hs1, hs2, q1, q2, q3, decide_true, decide_false]; first | done | omega)) ?_ | refine wT (by first | omega | (simp only [cl_iff, AV.le_refl, AV.le_any, OLe_refl, LeH_cons, LeH_nil, LeL_cons, LeL_nil, and_true, true_and, Bool.and_eq_true, Bool.or_eq_true, decide_eq_true_eq, notT, Bool.cond_true_left, Bool.cond_false_right, Nat.blt_eq, Nat.zero_add, cond_true, cond_false, Int.toNat_natCast, Bool.not_true, Bool.not_false, Bool.false_eq_true, not_true_eq_false, not_false_eq_true, or_false, false_or, or_true, true_or, and_false, false_and, condIT, h1, h2, h3, e1, e0, hs1, hs2, q1, q2, q3, decide_true, decide_false]; first | done | omega)) ?_ | refine wF (by intro _h; first | omega | (simp only [cl_iff, AV.le_refl, AV.le_any, OLe_refl, LeH_cons, LeH_nil, LeL_cons, LeL_nil, and_true, true_and, Bool.and_eq_true, Bool.or_eq_true, decide_eq_true_eq, notT, Bool.cond_true_left, Bool.cond_false_right, Nat.blt_eq, Nat.zero_add, cond_true, cond_false, Int.toNat_natCast, Bool.not_true, Bool.not_false, Bool.false_eq_true, not_true_eq_false, not_false_eq_true, or_false, false_or, or_true, true_or, and_false, false_and, condIT, h1, h2, h3, e1, e0, hs1, hs2, q1, q2, q3, decide_true, decide_false] at _h; first | done | omega)) ?_ | (refine wS ?_ ?_ <;> intro _h <;> simp only [cl_iff, AV.le_refl, AV.le_any, OLe_refl, LeH_cons, LeH_nil, LeL_cons, LeL_nil, and_true, true_and, Bool.and_eq_true, Bool.or_eq_true, decide_eq_true_eq, notT, Bool.cond_true_left, Bool.cond_false_right, Nat.blt_eq, Nat.zero_add, cond_true, cond_false, Int.toNat_natCast, Bool.not_true, Bool.not_false, Bool.false_eq_true, not_true_eq_false, not_false_eq_true, or_false, false_or, or_true, true_or, and_false, false_and, condIT, h1, h2, h3, e1, e0, hs1, hs2, q1, q2, q3, decide_true, decide_false] at _h))
        all_goals simp only [or_true, true_or, false_or, or_false, and_false, false_and, cond_true, cond_false, Bool.not_true, Bool.not_false, Bool.false_eq_true, Bool.true_eq_false, not_true_eq_false, not_false_eq_true, false_implies, true_implies, implies_true, Nat.blt_eq, owesN, owesX, owesR, notT, sat_brT, sat_brF, sat_chkT, cl_iff, cl_false, AV.le_refl, AV.le_any, OLe_refl, OLe_none, sat_brN, Tree.sat_chk, Tree.sat_leaf, Tree.sat_fail, Nat.zero_add, Nat.sub_zero, Int.toNat_natCast, LeH_cons, LeH_nil, LeL_cons, LeL_nil, and_true, true_and, Bool.and_eq_true, Bool.or_eq_true, decide_eq_true_eq, decide_eq_false_iff_not, Bool.cond_true_left, Bool.cond_false_right, List.cons_append, List.nil_append, List.map_cons, List.map_nil, h1, h2, h3, e1, e0, hs1, hs2, q1, q2, q3, decide_true, decide_false]
        repeat' (first | apply And.intro | intro _hc)
        all_goals first | exact AV.le_refl _ | exact AV.le_any _ | exact OLe.refl _ | exact OLe.none _ | exact LeH.refl _ | exact LeL.refl _ | exact AV.le.bs _ | exact AV.le.sb _ | omega | contradiction
noncomputable def c4 : CT Tryd.prog Γm := CT.lawE A4 (fun _ => True) 4 Tryd.f4 (bodyOf Tryd.f4) 72 [.tmp 2] Tryd.func4 (by kernel_rfl) (by kernel_rfl) (by kernel_rfl) (by kernel_rfl) (fun _ _ => by simp [A4]) (fun x _ => law4 x)
end Go.Eng.TA

/- The tables that the rows name: what the rows' condition gives. -/
namespace Go.Proofs.YtmjbindplgpjjaaDoor
open Go Go.ChangeShapes Go.WideShapes Go.ChangeAt Go.WideMaps Go.WideElems Go.RowKit Go.Eng Go.Eng.TA
set_option linter.unusedSimpArgs false
set_option linter.unusedVariables false
theorem own : ownKnob Tryd.prog.godebug = none := by kernel_rfl
abbrev laidL : List (String × DataW Unit) := [("unicode/utf8.acceptRanges", Rows.laid_unicode_utf8_acceptRanges), ("unicode/utf8.first", Rows.laid_unicode_utf8_first)]
def ren8 : Go.Shelf.Ren := ⟨id, fun t => if t = 5 then 5 else if t = 119 then 192 else if t = 138 then 194 else 195, fun g => if g = 3 then 0 else 1⟩
theorem ren8T : U8Types Tryd.prog ren8 where
  t5 := Tryd.underlying5
  t119 := Tryd.underlying192
  t138 := Tryd.underlying194
  t139 := Tryd.underlying195
theorem ren8X : U8Extra Tryd.prog ren8 where
  n3 := by kernel_rfl
  n4 := by kernel_rfl
  y3 := by kernel_rfl
  y4 := by kernel_rfl
  c5 := by kernel_rfl
  c119 := by kernel_rfl
  c138 := by kernel_rfl
theorem data8 : Rows.laid_unicode_utf8_first = Lib.firstData ∧ (Rows.laid_unicode_utf8_acceptRanges : DataW Unit) = Lib.acceptData := ⟨by kernel_rfl, by kernel_rfl⟩
theorem globals_ok {W : World} (h : laidMetH Tryd.prog laidL W) : Globals Γm (σof W) := by
  rw [MakeChecks.laidMetH_plain _ _ _ (by kernel_rfl)] at h
  have h1 := Go.Lib.laidMet.reads h (n := "unicode/utf8.first") (d := Lib.firstData) (by rw [← data8.1]; exact List.mem_cons_of_mem _ (List.mem_cons_self ..))
  have h2 := Go.Lib.laidMet.reads h (n := "unicode/utf8.acceptRanges") (d := Lib.acceptData) (by rw [← data8.2]; exact List.mem_cons_self ..)
  have hT : Lib.Utf8Tabs 0 1 W := utf8Tabs_of_readsT ren8T ren8X h1 h2
  intro g
  unfold Γm
  split
  · rename_i hg
    obtain rfl := Nat.eq_of_beq_eq_true hg
    refine .pa 1 256 _ ⟨0, 0, none⟩ (fun e j => .int .u8 (Lib.firstT e : Int)) rfl (fun _ => rfl) (fun e j c he hc => ?_) (fun e j c he hc => ?_)
    · cases j with
      | zero => simpa using σof_of (hT.1 e he)
      | succ j => simp [fstF] at hc
    · cases j with
      | zero => simp [fstF] at hc; subst hc; exact .v _
      | succ j => simp [fstF] at hc
  · split
    · rename_i hg
      obtain rfl := Nat.eq_of_beq_eq_true hg
      refine .pa 2 16 _ ⟨1, 0, none⟩ (fun e j => .int .u8 (if j = 0 then (Lib.accLo e : Int) else (Lib.accHi e : Int))) rfl (fun _ => rfl) (fun e j c he hc => ?_) (fun e j c he hc => ?_)
      · match j with
        | 0 => simpa [Nat.mul_comm] using σof_of (hT.2 e he).1
        | 1 => simpa [Nat.mul_comm] using σof_of (hT.2 e he).2
        | j + 2 => simp [accF] at hc
      · match j with
        | 0 => simp [accF] at hc; subst hc; exact .v _
        | 1 => simp [accF] at hc; subst hc; exact .v _
        | j + 2 => simp [accF] at hc
    · exact .any _
end Go.Proofs.YtmjbindplgpjjaaDoor

/- NameChecks holds at every input: the tables unicode/utf8.first and unicode/utf8.acceptRanges as the program lays them (tied). -/
namespace Go.Proofs.YtmjbindplgpjjaaDoor
open Go Go.ChangeShapes Go.WideShapes Go.ChangeAt Go.WideMaps Go.WideElems Go.RowKit Go.Eng Go.Eng.TA
set_option linter.unusedSimpArgs false
set_option linter.unusedVariables false

set_option maxRecDepth 100000 in
theorem nameChecks_lifted (os : Os) (started : os.Started) (H : Type) (enc : TypeId × Value → H) :
    ReturnsInHanded {} Tryd.checked os 4 .any (fun w args => (Rows.nameChecksSpec.pre enc Tryd.prog Tryd.f4 [] false w args ∧ laidMetH Tryd.prog laidL w) ∧ sizedMet enc Tryd.prog Tryd.f4 (OpenSpec.ofChange Rows.nameChecksSpec) false w args)
      (Rows.nameChecksSpec.post enc Tryd.prog Tryd.f4 false true false false) := by
  refine returnsInHanded_of_change_and (C := Tryd.checked) (X := fun w _ => laidMetH Tryd.prog laidL w) (fun _ _ _ hh h => h.of_heap hh) own started (by kernel_rfl) Tryd.func4
    (ChangeSpec.witness_shaped (enc := enc) (C := Tryd.checked) (os := os) (X := fun w _ => laidMetH Tryd.prog laidL w) false (World.laidAll Tryd.prog os laidL) #[.string ⟨#[]⟩] 8 (World.laidAll_os _ _ _) (World.shaped_of_ZipB (by kernel_rfl) (by kernel_rfl)) (by kernel_rfl) (by kernel_rfl) (by kernel_rfl)
      (by rw [MakeChecks.laidMetH_plain _ _ _ (by kernel_rfl)]; exact laidMet_laidAll _ (by kernel_rfl) (by kernel_rfl))) ?_
  intro W base args ds gs before hval0 hW _ _ hL _
  have hval : ∀ (j : Nat) t v, Tryd.f4.params[j]? = some t → args[j]? = some v → Value.okWide Tryd.prog W .any base t v := hval0
  have hW' := hW
  obtain ⟨p, q, hA0, hV, rfl, hfz, hnd⟩ := hW
  have hA : DataW.TrodAll enc Tryd.prog W 0 (fun _ => true) true Tryd.f4.params.toList args.toList ds p := hA0
  rw [Tryd.params4] at hA hval
  obtain ⟨v0, d0, rfl, rfl, h0⟩ := trodAll_one hA
  obtain ⟨rfl, rfl⟩ := trodVars_none hV
  obtain ⟨n0, rfl, rfl, rfl, w0⟩ := Go.ChangeMaps.open_string Tryd.underlying9 (hval 0 9 v0 rfl rfl) h0
  refine (calls_true c4 (xs := [.v (.string n0)]) (law_in (A := A4) (pre := fun _ => True) (x := n0) trivial (.refl _)) (globals_ok hL) (.one (V_v _) .none)).mono fun e W' ⟨he, ho⟩ => ?_
  subst he
  exact ⟨_, rfl, post_true (tb := 4) (by kernel_rfl) (by kernel_rfl) (by kernel_rfl) (by kernel_rfl) (by kernel_rfl) Tryd.underlying4 hW' rfl rfl ho⟩

theorem nameChecks_holds : Rows.NameChecksSaid :=
  OpenClaim.holds_of_wide 4 Tryd.f4 rfl rfl rfl rfl rfl rfl rfl ⟨rfl, rfl, rfl, rfl, rfl⟩ rfl rfl rfl rfl rfl (by kernel_rfl) Tryd.func4 (by kernel_rfl)
    (of_decide_eq_true (by kernel_rfl)) (by unfold Func.isWrapper; first | (rw [if_pos (by decide +kernel)]; kernel_rfl) | (rw [if_neg (by decide +kernel)]; exact ⟨rfl, rfl⟩))
    (fun os started H enc _ => nameChecks_lifted os started H enc)
theorem nameChecks_card : Rows.NameChecksCardSaid :=
  Claim7.holds_tied_plain_at .later [] [.data, .pinned] true (true, "04bf13180d5c01f5cefcb13e3375edc3305cec317436f21bd83698835d5e56cf") false
    nameChecks_holds (fun _ h => by cases h) (by kernel_rfl) (fun _ h => by cases h) nameChecks_row_tie rfl ⟨rfl, rfl⟩ (by kernel_rfl) rfl
    (fun f fn hf hfn => by
      obtain rfl : f = 4 := Option.some.inj ((show Tryd.prog.funcNamed "hallmoot/hallmootlaw02.NameChecks" = some 4 by kernel_rfl).symm.trans hf) |>.symm
      obtain rfl : fn = Tryd.f4 := (Option.some.inj (Tryd.func4.symm.trans hfn)).symm
      exact ⟨by kernel_rfl, fun j t ht => by
        rw [Tryd.params4] at ht
        have hm : t ∈ [9] := by simpa using Array.mem_of_getElem? ht
        have hall : ([9].all fun u => !Tryd.prog.wantsStandIn u) = true := by kernel_rfl
        exact (show Tryd.prog.wantsStandIn t = false by simpa using List.all_eq_true.1 hall t hm)⟩)
    (by kernel_rfl)
#print axioms nameChecks_card
end Go.Proofs.YtmjbindplgpjjaaDoor
