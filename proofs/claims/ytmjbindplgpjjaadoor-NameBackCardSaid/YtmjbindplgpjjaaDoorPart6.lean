/- NameBack holds at every input: the tables unicode/utf8.first and unicode/utf8.acceptRanges as the program lays them (tied). -/
import Derived.Test.YtmjbindplgpjjaaDoorPart5
import Derived.Test.YtmjbindplgpjjaaDoorRows
import Derived.Test.YtmjbindplgpjjaaDoorTie
import Derived.Test.YtmjbindplgpjjaaDoorCards
import Derived.ProofKit
import Derived.LaidMore
import Derived.OpenShut
import Derived.Stop.Joined
import Derived.SevenTiedAt
import Derived.Lib.LaidU8T
import Derived.Lay
/- names: a rune's bytes at the end of bytes. -/
namespace Go.Eng.TA
open Go Go.Eng Go.Eng.M Go.Lib Go.Proofs
set_option linter.unusedSimpArgs false
set_option linter.unusedVariables false
abbrev bB (t : ByteArray) : Blk := .arr 1 t.size (bsF t)
/-- bytes behind bytes -/
theorem appB {t e : ByteArray} {k : Nat} {f : Nat → List AV} (hk : k = e.size) (hf : ∀ j, ∃ y, f j = [.v (.int .u8 y)] ∧ (j < e.size → y = sbyte e j)) :
    OLe (some (.arr 1 (t.size + k) fun j => mixL (decide (j < t.size)) [AV.v (Value.int IntKind.u8 (sbyte t j))] (f (j - t.size)))) (some (bB (t ++ e))) := by
  subst hk
  have hz : (t ++ e).size = t.size + e.size := ByteArray.size_append
  unfold bB
  rw [hz]
  refine OLe.arr rfl (fun j hj => ?_) (fun j => ?_)
  · obtain ⟨y, h1, h2⟩ := hf (j - t.size)
    rw [h1]
    unfold bsF
    rw [sbyte_append]
    show [AV.v (Value.int IntKind.u8 (bif decide (j < t.size) then sbyte t j else y))] = _
    by_cases hl : j < t.size
    · rw [decide_eq_true hl, if_pos hl]; rfl
    · rw [decide_eq_false hl, if_neg hl, h2 (by omega)]; rfl
  · exact rfl
theorem chn1 (a : Int) (j : Nat) : chain [AV.v (Value.int IntKind.u8 0)] 0 [[AV.v (Value.int IntKind.u8 a)]] j = [.v (.int .u8 (bif Nat.beq j 0 then a else 0))] := rfl
theorem chn2 (a b : Int) (j : Nat) : chain [AV.v (Value.int IntKind.u8 0)] 0 [[AV.v (Value.int IntKind.u8 a)], [AV.v (Value.int IntKind.u8 b)]] j = [.v (.int .u8 (bif Nat.beq j 0 then a else bif Nat.beq j 1 then b else 0))] := rfl
theorem chn3 (a b c : Int) (j : Nat) : chain [AV.v (Value.int IntKind.u8 0)] 0 [[AV.v (Value.int IntKind.u8 a)], [AV.v (Value.int IntKind.u8 b)], [AV.v (Value.int IntKind.u8 c)]] j = [.v (.int .u8 (bif Nat.beq j 0 then a else bif Nat.beq j 1 then b else bif Nat.beq j 2 then c else 0))] := rfl
theorem chn4 (a b c d : Int) (j : Nat) : chain [AV.v (Value.int IntKind.u8 0)] 0 [[AV.v (Value.int IntKind.u8 a)], [AV.v (Value.int IntKind.u8 b)], [AV.v (Value.int IntKind.u8 c)], [AV.v (Value.int IntKind.u8 d)]] j = [.v (.int .u8 (bif Nat.beq j 0 then a else bif Nat.beq j 1 then b else bif Nat.beq j 2 then c else bif Nat.beq j 3 then d else 0))] := rfl
theorem sb_cons0 (a : UInt8) (l : List UInt8) : sbyte ⟨⟨a :: l⟩⟩ 0 = (a.toNat : Int) := rfl
theorem sb_consS (a : UInt8) (l : List UInt8) (i : Nat) : sbyte ⟨⟨a :: l⟩⟩ (i + 1) = sbyte ⟨⟨l⟩⟩ i := by
  rw [sbyte_bN, sbyte_bN, bN_consS]
theorem b8i {n : Nat} (h : n < 256) : ((b8 n).toNat : Int) = (n : Int) := by rw [b8_nat h]
theorem app1B {t : ByteArray} {a : Nat} (ha : a < 256) : OLe (some (.arr 1 (t.size + 1) fun j => mixL (decide (j < t.size)) [AV.v (Value.int IntKind.u8 (sbyte t j))] (chain [AV.v (Value.int IntKind.u8 0)] 0 [[AV.v (Value.int IntKind.u8 (a : Int))]] (j - t.size)))) (some (bB (t ++ ⟨#[b8 a]⟩))) :=
  appB (f := fun j => chain [AV.v (Value.int IntKind.u8 0)] 0 [[AV.v (Value.int IntKind.u8 (a : Int))]] j) rfl fun j => ⟨_, chn1 _ j, fun h => by
    have h : j < 1 := h
    obtain rfl : j = 0 := by omega
    exact (b8i ha).symm⟩
theorem app2B {t : ByteArray} {a b : Nat} (ha : a < 256) (hb : b < 256) : OLe (some (.arr 1 (t.size + 2) fun j => mixL (decide (j < t.size)) [AV.v (Value.int IntKind.u8 (sbyte t j))] (chain [AV.v (Value.int IntKind.u8 0)] 0 [[AV.v (Value.int IntKind.u8 (a : Int))], [AV.v (Value.int IntKind.u8 (b : Int))]] (j - t.size)))) (some (bB (t ++ ⟨#[b8 a, b8 b]⟩))) :=
  appB (f := fun j => chain [AV.v (Value.int IntKind.u8 0)] 0 [[AV.v (Value.int IntKind.u8 (a : Int))], [AV.v (Value.int IntKind.u8 (b : Int))]] j) rfl fun j => ⟨_, chn2 _ _ j, fun h => by
    have h : j < 2 := h
    match j, h with
    | 0, _ => exact (b8i ha).symm
    | 1, _ => exact (b8i hb).symm⟩
theorem app3B {t : ByteArray} {a b c : Nat} (ha : a < 256) (hb : b < 256) (hc : c < 256) : OLe (some (.arr 1 (t.size + 3) fun j => mixL (decide (j < t.size)) [AV.v (Value.int IntKind.u8 (sbyte t j))] (chain [AV.v (Value.int IntKind.u8 0)] 0 [[AV.v (Value.int IntKind.u8 (a : Int))], [AV.v (Value.int IntKind.u8 (b : Int))], [AV.v (Value.int IntKind.u8 (c : Int))]] (j - t.size)))) (some (bB (t ++ ⟨#[b8 a, b8 b, b8 c]⟩))) :=
  appB (f := fun j => chain [AV.v (Value.int IntKind.u8 0)] 0 [[AV.v (Value.int IntKind.u8 (a : Int))], [AV.v (Value.int IntKind.u8 (b : Int))], [AV.v (Value.int IntKind.u8 (c : Int))]] j) rfl fun j => ⟨_, chn3 _ _ _ j, fun h => by
    have h : j < 3 := h
    match j, h with
    | 0, _ => exact (b8i ha).symm
    | 1, _ => exact (b8i hb).symm
    | 2, _ => exact (b8i hc).symm⟩
theorem app4B {t : ByteArray} {a b c d : Nat} (ha : a < 256) (hb : b < 256) (hc : c < 256) (hd : d < 256) : OLe (some (.arr 1 (t.size + 4) fun j => mixL (decide (j < t.size)) [AV.v (Value.int IntKind.u8 (sbyte t j))] (chain [AV.v (Value.int IntKind.u8 0)] 0 [[AV.v (Value.int IntKind.u8 (a : Int))], [AV.v (Value.int IntKind.u8 (b : Int))], [AV.v (Value.int IntKind.u8 (c : Int))], [AV.v (Value.int IntKind.u8 (d : Int))]] (j - t.size)))) (some (bB (t ++ ⟨#[b8 a, b8 b, b8 c, b8 d]⟩))) :=
  appB (f := fun j => chain [AV.v (Value.int IntKind.u8 0)] 0 [[AV.v (Value.int IntKind.u8 (a : Int))], [AV.v (Value.int IntKind.u8 (b : Int))], [AV.v (Value.int IntKind.u8 (c : Int))], [AV.v (Value.int IntKind.u8 (d : Int))]] j) rfl fun j => ⟨_, chn4 _ _ _ _ j, fun h => by
    have h : j < 4 := h
    match j, h with
    | 0, _ => exact (b8i ha).symm
    | 1, _ => exact (b8i hb).symm
    | 2, _ => exact (b8i hc).symm
    | 3, _ => exact (b8i hd).symm⟩
theorem or192 (k : Nat) (h : k < 32) : bitI .or .u8 192 (k : Int) = ((192 + k : Nat) : Int) := by
  have : ∀ k : Fin 32, bitI .or .u8 192 ((k.val : Nat) : Int) = ((192 + k.val : Nat) : Int) := by decide +kernel
  exact this ⟨k, h⟩
theorem or224 (k : Nat) (h : k < 16) : bitI .or .u8 224 (k : Int) = ((224 + k : Nat) : Int) := by
  have : ∀ k : Fin 16, bitI .or .u8 224 ((k.val : Nat) : Int) = ((224 + k.val : Nat) : Int) := by decide +kernel
  exact this ⟨k, h⟩
theorem or240 (k : Nat) (h : k < 8) : bitI .or .u8 240 (k : Int) = ((240 + k : Nat) : Int) := by
  have : ∀ k : Fin 8, bitI .or .u8 240 ((k.val : Nat) : Int) = ((240 + k.val : Nat) : Int) := by decide +kernel
  exact this ⟨k, h⟩
theorem oran (k : Nat) (h : k < 256) : bitI .or .u8 128 (bitI .and .u8 (k : Int) 63) = ((128 + k % 64 : Nat) : Int) := by
  have : ∀ k : Fin 256, bitI .or .u8 128 (bitI .and .u8 ((k.val : Nat) : Int) 63) = ((128 + k.val % 64 : Nat) : Int) := by decide +kernel
  exact this ⟨k, h⟩
theorem fd6 (c : Nat) : Int.fdiv (c : Int) ((2 : Int) ^ min (Int.toNat 6) 32) = ((c / 64 : Nat) : Int) := by
  rw [show (2 : Int) ^ min (Int.toNat 6) 32 = ((64 : Nat) : Int) from rfl]; exact (Int.ofNat_fdiv c 64).symm
theorem fd12 (c : Nat) : Int.fdiv (c : Int) ((2 : Int) ^ min (Int.toNat 12) 32) = ((c / 4096 : Nat) : Int) := by
  rw [show (2 : Int) ^ min (Int.toNat 12) 32 = ((4096 : Nat) : Int) from rfl]; exact (Int.ofNat_fdiv c 4096).symm
theorem fd18 (c : Nat) : Int.fdiv (c : Int) ((2 : Int) ^ min (Int.toNat 18) 32) = ((c / 262144 : Nat) : Int) := by
  rw [show (2 : Int) ^ min (Int.toNat 18) 32 = ((262144 : Nat) : Int) from rfl]; exact (Int.ofNat_fdiv c 262144).symm
theorem wu8 (n : Nat) : IntKind.wrap IntKind.u8 (n : Int) = ((n % 256 : Nat) : Int) := by rw [wrapU8]; rfl
theorem wu32 (n : Nat) (h : n < 4294967296) : IntKind.wrap IntKind.u32 (n : Int) = (n : Int) := by rw [wrapU32]; omega
theorem room1 {n : Nat} (h : n ≤ 1000000000) : roomOk 1 n = true := by
  unfold roomOk
  exact decide_eq_true (by omega)
theorem run111 (t : ByteArray) (c : Int) : bodyE (P := Tryd.prog) (Γ := Γm) [] Lno false 78 [.tmp 4] (bodyOf Tryd.f111) [.hs 0 0 t.size, .v (.int .i32 c)] [bB t] =
  Tree.br (decide (IntKind.wrap IntKind.u32 c ≤ (2047 : Int))) (Tree.chk true (Tree.chk (roomOk (1 : Nat) (ByteArray.size t + (2 : Nat))) (Tree.leaf (Ans.mk (AV.hs (1 : Nat) (0 : Nat)
    (ByteArray.size t + (2 : Nat))) [none, some (Blk.arr (1 : Nat) (ByteArray.size t + (2 : Nat)) fun j => mixL (decide (j < ByteArray.size t)) [AV.v (Value.int IntKind.u8 (sbyte t ((0 :
    Nat) + j)))] (chain [AV.v (Value.int IntKind.u8 (0 : Int))] (0 : Nat) [[AV.v (Value.int IntKind.u8 (bitI BinOp.or IntKind.u8 (192 : Int) (IntKind.wrap IntKind.u8 (Int.fdiv c ((2 : Int) ^
    min (Int.toNat (6 : Int)) (32 : Nat))))))], [AV.v (Value.int IntKind.u8 (bitI BinOp.or IntKind.u8 (128 : Int) (bitI BinOp.and IntKind.u8 (IntKind.wrap IntKind.u8 c) (63 : Int))))]] ((0 :
    Nat) + (j - ByteArray.size t))))])))) (Tree.br (decide (IntKind.wrap IntKind.u32 c < (55296 : Int))) (Tree.br (decide (IntKind.wrap IntKind.u32 c < (55296 : Int))) (Tree.chk true
    (Tree.chk true (Tree.chk (roomOk (1 : Nat) (ByteArray.size t + (3 : Nat))) (Tree.leaf (Ans.mk (AV.hs (1 : Nat) (0 : Nat) (ByteArray.size t + (3 : Nat))) [none, some (Blk.arr (1 : Nat)
    (ByteArray.size t + (3 : Nat)) fun j => mixL (decide (j < ByteArray.size t)) [AV.v (Value.int IntKind.u8 (sbyte t ((0 : Nat) + j)))] (chain [AV.v (Value.int IntKind.u8 (0 : Int))] (0 :
    Nat) [[AV.v (Value.int IntKind.u8 (bitI BinOp.or IntKind.u8 (224 : Int) (IntKind.wrap IntKind.u8 (Int.fdiv c ((2 : Int) ^ min (Int.toNat (12 : Int)) (32 : Nat))))))], [AV.v (Value.int
    IntKind.u8 (bitI BinOp.or IntKind.u8 (128 : Int) (bitI BinOp.and IntKind.u8 (IntKind.wrap IntKind.u8 (Int.fdiv c ((2 : Int) ^ min (Int.toNat (6 : Int)) (32 : Nat)))) (63 : Int))))],
    [AV.v (Value.int IntKind.u8 (bitI BinOp.or IntKind.u8 (128 : Int) (bitI BinOp.and IntKind.u8 (IntKind.wrap IntKind.u8 c) (63 : Int))))]] ((0 : Nat) + (j - ByteArray.size t))))])))))
    (Tree.br (bif decide ((65535 : Int) < IntKind.wrap IntKind.u32 c) then decide (IntKind.wrap IntKind.u32 c ≤ (1114111 : Int)) else false) (Tree.chk true (Tree.chk true (Tree.chk true
    (Tree.chk (roomOk (1 : Nat) (ByteArray.size t + (4 : Nat))) (Tree.leaf (Ans.mk (AV.hs (1 : Nat) (0 : Nat) (ByteArray.size t + (4 : Nat))) [none, some (Blk.arr (1 : Nat) (ByteArray.size t
    + (4 : Nat)) fun j => mixL (decide (j < ByteArray.size t)) [AV.v (Value.int IntKind.u8 (sbyte t ((0 : Nat) + j)))] (chain [AV.v (Value.int IntKind.u8 (0 : Int))] (0 : Nat) [[AV.v
    (Value.int IntKind.u8 (bitI BinOp.or IntKind.u8 (240 : Int) (IntKind.wrap IntKind.u8 (Int.fdiv c ((2 : Int) ^ min (Int.toNat (18 : Int)) (32 : Nat))))))], [AV.v (Value.int IntKind.u8
    (bitI BinOp.or IntKind.u8 (128 : Int) (bitI BinOp.and IntKind.u8 (IntKind.wrap IntKind.u8 (Int.fdiv c ((2 : Int) ^ min (Int.toNat (12 : Int)) (32 : Nat)))) (63 : Int))))], [AV.v
    (Value.int IntKind.u8 (bitI BinOp.or IntKind.u8 (128 : Int) (bitI BinOp.and IntKind.u8 (IntKind.wrap IntKind.u8 (Int.fdiv c ((2 : Int) ^ min (Int.toNat (6 : Int)) (32 : Nat)))) (63 :
    Int))))], [AV.v (Value.int IntKind.u8 (bitI BinOp.or IntKind.u8 (128 : Int) (bitI BinOp.and IntKind.u8 (IntKind.wrap IntKind.u8 c) (63 : Int))))]] ((0 : Nat) + (j - ByteArray.size
    t))))])))))) (Tree.chk (roomOk (1 : Nat) (ByteArray.size t + (3 : Nat))) (Tree.leaf (Ans.mk (AV.hs (1 : Nat) (0 : Nat) (ByteArray.size t + (3 : Nat))) [none, some (Blk.arr (1 : Nat)
    (ByteArray.size t + (3 : Nat)) fun j => mixL (decide (j < ByteArray.size t)) [AV.v (Value.int IntKind.u8 (sbyte t ((0 : Nat) + j)))] (chain [AV.v (Value.int IntKind.u8 (0 : Int))] (0 :
    Nat) [[AV.v (Value.int IntKind.u8 (239 : Int))], [AV.v (Value.int IntKind.u8 (191 : Int))], [AV.v (Value.int IntKind.u8 (189 : Int))]] ((0 : Nat) + (j - ByteArray.size t))))])))))
    (Tree.br (bif decide ((57343 : Int) < IntKind.wrap IntKind.u32 c) then decide (IntKind.wrap IntKind.u32 c ≤ (65535 : Int)) else false) (Tree.chk true (Tree.chk true (Tree.chk (roomOk (1
    : Nat) (ByteArray.size t + (3 : Nat))) (Tree.leaf (Ans.mk (AV.hs (1 : Nat) (0 : Nat) (ByteArray.size t + (3 : Nat))) [none, some (Blk.arr (1 : Nat) (ByteArray.size t + (3 : Nat)) fun j
    => mixL (decide (j < ByteArray.size t)) [AV.v (Value.int IntKind.u8 (sbyte t ((0 : Nat) + j)))] (chain [AV.v (Value.int IntKind.u8 (0 : Int))] (0 : Nat) [[AV.v (Value.int IntKind.u8
    (bitI BinOp.or IntKind.u8 (224 : Int) (IntKind.wrap IntKind.u8 (Int.fdiv c ((2 : Int) ^ min (Int.toNat (12 : Int)) (32 : Nat))))))], [AV.v (Value.int IntKind.u8 (bitI BinOp.or IntKind.u8
    (128 : Int) (bitI BinOp.and IntKind.u8 (IntKind.wrap IntKind.u8 (Int.fdiv c ((2 : Int) ^ min (Int.toNat (6 : Int)) (32 : Nat)))) (63 : Int))))], [AV.v (Value.int IntKind.u8 (bitI
    BinOp.or IntKind.u8 (128 : Int) (bitI BinOp.and IntKind.u8 (IntKind.wrap IntKind.u8 c) (63 : Int))))]] ((0 : Nat) + (j - ByteArray.size t))))]))))) (Tree.br (bif decide ((65535 : Int) <
    IntKind.wrap IntKind.u32 c) then decide (IntKind.wrap IntKind.u32 c ≤ (1114111 : Int)) else false) (Tree.chk true (Tree.chk true (Tree.chk true (Tree.chk (roomOk (1 : Nat)
    (ByteArray.size t + (4 : Nat))) (Tree.leaf (Ans.mk (AV.hs (1 : Nat) (0 : Nat) (ByteArray.size t + (4 : Nat))) [none, some (Blk.arr (1 : Nat) (ByteArray.size t + (4 : Nat)) fun j => mixL
    (decide (j < ByteArray.size t)) [AV.v (Value.int IntKind.u8 (sbyte t ((0 : Nat) + j)))] (chain [AV.v (Value.int IntKind.u8 (0 : Int))] (0 : Nat) [[AV.v (Value.int IntKind.u8 (bitI
    BinOp.or IntKind.u8 (240 : Int) (IntKind.wrap IntKind.u8 (Int.fdiv c ((2 : Int) ^ min (Int.toNat (18 : Int)) (32 : Nat))))))], [AV.v (Value.int IntKind.u8 (bitI BinOp.or IntKind.u8 (128
    : Int) (bitI BinOp.and IntKind.u8 (IntKind.wrap IntKind.u8 (Int.fdiv c ((2 : Int) ^ min (Int.toNat (12 : Int)) (32 : Nat)))) (63 : Int))))], [AV.v (Value.int IntKind.u8 (bitI BinOp.or
    IntKind.u8 (128 : Int) (bitI BinOp.and IntKind.u8 (IntKind.wrap IntKind.u8 (Int.fdiv c ((2 : Int) ^ min (Int.toNat (6 : Int)) (32 : Nat)))) (63 : Int))))], [AV.v (Value.int IntKind.u8
    (bitI BinOp.or IntKind.u8 (128 : Int) (bitI BinOp.and IntKind.u8 (IntKind.wrap IntKind.u8 c) (63 : Int))))]] ((0 : Nat) + (j - ByteArray.size t))))])))))) (Tree.chk (roomOk (1 : Nat)
    (ByteArray.size t + (3 : Nat))) (Tree.leaf (Ans.mk (AV.hs (1 : Nat) (0 : Nat) (ByteArray.size t + (3 : Nat))) [none, some (Blk.arr (1 : Nat) (ByteArray.size t + (3 : Nat)) fun j => mixL
    (decide (j < ByteArray.size t)) [AV.v (Value.int IntKind.u8 (sbyte t ((0 : Nat) + j)))] (chain [AV.v (Value.int IntKind.u8 (0 : Int))] (0 : Nat) [[AV.v (Value.int IntKind.u8 (239 :
    Int))], [AV.v (Value.int IntKind.u8 (191 : Int))], [AV.v (Value.int IntKind.u8 (189 : Int))]] ((0 : Nat) + (j - ByteArray.size t))))])))))) := by kernel_rfl
theorem ans111 {t : ByteArray} {c : Nat} (h : okR c) (h0 : ¬ c < 128) (ht : t.size ≤ 100000000) : Answers Tryd.prog Γm 111 [.hs 0 0 t.size, .v (.int .i32 (c : Int))] [bB t] (.hs 1 0 (t ++ encR c).size) [none] [bB (t ++ encR c)] :=
  answers (fn := Tryd.f111) (c := bodyOf Tryd.f111) (ntmps := 78) (results := [.tmp 4]) [] Lno false Tryd.func111 (by kernel_rfl) (by kernel_rfl) (by kernel_rfl) (by kernel_rfl) (by simp) rfl (noLoops (by kernel_rfl)) <| Meets.of (run111 t (c : Int)) <| by
    have hc : c < 4294967296 := by unfold okR at h; omega
    have hw := wu32 c hc
    have he := encR_eq h
    unfold okR at h
    by_cases h2 : c < 2048
    · rw [if_neg h0, if_pos h2] at he
      have q1 := or192 (c / 64) (by omega)
      have q2 := oran (c % 256) (by omega)
      rw [he]
      have b0 : c / 64 % 256 = c / 64 := by omega
      have b1 : c % 256 % 64 = c % 64 := by omega
      rw [b1] at q2
      repeat' (first | refine wC (by first | omega | (simp only [cl_iff, AV.le_refl, AV.le_any, OLe_refl, LeH_cons, LeH_nil, LeL_cons, LeL_nil, and_true, true_and, Bool.and_eq_true, Bool.or_eq_true, decide_eq_true_eq, notT, Bool.cond_true_left, Bool.cond_false_right, Nat.blt_eq, Nat.zero_add, cond_true, cond_false, Int.toNat_natCast, Bool.not_true, Bool.not_false, Bool.false_eq_true, not_true_eq_false, not_false_eq_true, or_false, false_or, or_true, true_or, and_false, false_and, condIT, hw, fd6, wu8, b0, q1, q2]; first | done | omega)) ?_ | refine wT (by first | omega | (simp only [cl_iff, AV.le_refl, AV.le_any, OLe_refl, LeH_cons, LeH_nil, LeL_cons, LeL_nil, and_true, true_and, Bool.and_eq_true, Bool.or_eq_true, decide_eq_true_eq, notT, Bool.cond_true_left, Bool.cond_false_right, Nat.blt_eq, Nat.zero_add, cond_true, cond_false, Int.toNat_natCast, Bool.not_true, Bool.not_false, Bool.false_eq_true, not_true_eq_false, not_false_eq_true, or_false, false_or, or_true, true_or, and_false, false_and, condIT, hw, fd6, wu8, b0, q1, q2]; first | done | omega)) ?_ | refine wF (by intro _h; first | omega | (simp only [cl_iff, AV.le_refl, AV.le_any, OLe_refl, LeH_cons, LeH_nil, LeL_cons, LeL_nil, and_true, true_and, Bool.and_eq_true, Bool.or_eq_true, decide_eq_true_eq, notT, Bool.cond_true_left, Bool.cond_false_right, Nat.blt_eq, Nat.zero_add, cond_true, cond_false, Int.toNat_natCast, Bool.not_true, Bool.not_false, Bool.false_eq_true, not_true_eq_false, not_false_eq_true, or_false, false_or, or_true, true_or, and_false, false_and, condIT, hw, fd6, wu8, b0, q1, q2] at _h; first | done | omega)) ?_ | (refine wS ?_ ?_ <;> intro _h <;> simp only [cl_iff, AV.le_refl, AV.le_any, OLe_refl, LeH_cons, LeH_nil, LeL_cons, LeL_nil, and_true, true_and, Bool.and_eq_true, Bool.or_eq_true, decide_eq_true_eq, notT, Bool.cond_true_left, Bool.cond_false_right, Nat.blt_eq, Nat.zero_add, cond_true, cond_false, Int.toNat_natCast, Bool.not_true, Bool.not_false, Bool.false_eq_true, not_true_eq_false, not_false_eq_true, or_false, false_or, or_true, true_or, and_false, false_and, condIT, hw, fd6, wu8, b0, q1, q2] at _h))
      all_goals simp only [or_true, true_or, false_or, or_false, and_false, false_and, cond_true, cond_false, Bool.not_true, Bool.not_false, Bool.false_eq_true, Bool.true_eq_false, not_true_eq_false, not_false_eq_true, false_implies, true_implies, implies_true, Nat.blt_eq, owesN, owesX, owesR, notT, sat_brT, sat_brF, sat_chkT, cl_iff, cl_false, AV.le_refl, AV.le_any, OLe_refl, OLe_none, sat_brN, Tree.sat_chk, Tree.sat_leaf, Tree.sat_fail, Nat.zero_add, Nat.sub_zero, Int.toNat_natCast, LeH_cons, LeH_nil, LeL_cons, LeL_nil, and_true, true_and, Bool.and_eq_true, Bool.or_eq_true, decide_eq_true_eq, decide_eq_false_iff_not, Bool.cond_true_left, Bool.cond_false_right, List.cons_append, List.nil_append, List.map_cons, List.map_nil, hw, fd6, wu8, b0, q1, q2]
      repeat' (first | apply And.intro | intro _hc)
      all_goals first | exact room1 (by omega) | exact app2B (by omega) (by omega) | ((rw [ByteArray.size_append]; exact AV.le_refl _)) | exact AV.le_refl _ | exact AV.le_any _ | exact OLe.refl _ | exact OLe.none _ | exact LeH.refl _ | exact LeL.refl _ | exact AV.le.bs _ | exact AV.le.sb _ | omega | contradiction
    by_cases h3 : c < 65536
    · rw [if_neg h0, if_neg h2, if_pos h3] at he
      have q1 := or224 (c / 4096) (by omega)
      have q2 := oran (c / 64 % 256) (by omega)
      have q3 := oran (c % 256) (by omega)
      rw [he]
      have b0 : c / 4096 % 256 = c / 4096 := by omega
      have b1 : c / 64 % 256 % 64 = c / 64 % 64 := by omega
      have b2 : c % 256 % 64 = c % 64 := by omega
      rw [b1] at q2
      rw [b2] at q3
      repeat' (first | refine wC (by first | omega | (simp only [cl_iff, AV.le_refl, AV.le_any, OLe_refl, LeH_cons, LeH_nil, LeL_cons, LeL_nil, and_true, true_and, Bool.and_eq_true, Bool.or_eq_true, decide_eq_true_eq, notT, Bool.cond_true_left, Bool.cond_false_right, Nat.blt_eq, Nat.zero_add, cond_true, cond_false, Int.toNat_natCast, Bool.not_true, Bool.not_false, Bool.false_eq_true, not_true_eq_false, not_false_eq_true, or_false, false_or, or_true, true_or, and_false, false_and, condIT, hw, fd6, fd12, wu8, b0, q1, q2, q3]; first | done | omega)) ?_ | refine wT (by first | omega | (simp only [cl_iff, AV.le_refl, AV.le_any, OLe_refl, LeH_cons, LeH_nil, LeL_cons, LeL_nil, and_true, true_and, Bool.and_eq_true, Bool.or_eq_true, decide_eq_true_eq, notT, Bool.cond_true_left, Bool.cond_false_right, Nat.blt_eq, Nat.zero_add, cond_true, cond_false, Int.toNat_natCast, Bool.not_true, Bool.not_false, Bool.false_eq_true, not_true_eq_false, not_false_eq_true, or_false, false_or, or_true, true_or, and_false, false_and, condIT, hw, fd6, fd12, wu8, b0, q1, q2, q3]; first | done | omega)) ?_ | refine wF (by intro _h; first | omega | (simp only [cl_iff, AV.le_refl, AV.le_any, OLe_refl, LeH_cons, LeH_nil, LeL_cons, LeL_nil, and_true, true_and, Bool.and_eq_true, Bool.or_eq_true, decide_eq_true_eq, notT, Bool.cond_true_left, Bool.cond_false_right, Nat.blt_eq, Nat.zero_add, cond_true, cond_false, Int.toNat_natCast, Bool.not_true, Bool.not_false, Bool.false_eq_true, not_true_eq_false, not_false_eq_true, or_false, false_or, or_true, true_or, and_false, false_and, condIT, hw, fd6, fd12, wu8, b0, q1, q2, q3] at _h; first | done | omega)) ?_ | (refine wS ?_ ?_ <;> intro _h <;> simp only [cl_iff, AV.le_refl, AV.le_any, OLe_refl, LeH_cons, LeH_nil, LeL_cons, LeL_nil, and_true, true_and, Bool.and_eq_true, Bool.or_eq_true, decide_eq_true_eq, notT, Bool.cond_true_left, Bool.cond_false_right, Nat.blt_eq, Nat.zero_add, cond_true, cond_false, Int.toNat_natCast, Bool.not_true, Bool.not_false, Bool.false_eq_true, not_true_eq_false, not_false_eq_true, or_false, false_or, or_true, true_or, and_false, false_and, condIT, hw, fd6, fd12, wu8, b0, q1, q2, q3] at _h))
      all_goals simp only [or_true, true_or, false_or, or_false, and_false, false_and, cond_true, cond_false, Bool.not_true, Bool.not_false, Bool.false_eq_true, Bool.true_eq_false, not_true_eq_false, not_false_eq_true, false_implies, true_implies, implies_true, Nat.blt_eq, owesN, owesX, owesR, notT, sat_brT, sat_brF, sat_chkT, cl_iff, cl_false, AV.le_refl, AV.le_any, OLe_refl, OLe_none, sat_brN, Tree.sat_chk, Tree.sat_leaf, Tree.sat_fail, Nat.zero_add, Nat.sub_zero, Int.toNat_natCast, LeH_cons, LeH_nil, LeL_cons, LeL_nil, and_true, true_and, Bool.and_eq_true, Bool.or_eq_true, decide_eq_true_eq, decide_eq_false_iff_not, Bool.cond_true_left, Bool.cond_false_right, List.cons_append, List.nil_append, List.map_cons, List.map_nil, hw, fd6, fd12, wu8, b0, q1, q2, q3]
      repeat' (first | apply And.intro | intro _hc)
      all_goals first | exact room1 (by omega) | exact app3B (by omega) (by omega) (by omega) | ((rw [ByteArray.size_append]; exact AV.le_refl _)) | exact AV.le_refl _ | exact AV.le_any _ | exact OLe.refl _ | exact OLe.none _ | exact LeH.refl _ | exact LeL.refl _ | exact AV.le.bs _ | exact AV.le.sb _ | omega | contradiction
    · rw [if_neg h0, if_neg h2, if_neg h3] at he
      have q1 := or240 (c / 262144) (by omega)
      have q2 := oran (c / 4096 % 256) (by omega)
      have q3 := oran (c / 64 % 256) (by omega)
      have q4 := oran (c % 256) (by omega)
      rw [he]
      have b0 : c / 262144 % 256 = c / 262144 := by omega
      have b1 : c / 4096 % 256 % 64 = c / 4096 % 64 := by omega
      have b2 : c / 64 % 256 % 64 = c / 64 % 64 := by omega
      have b3 : c % 256 % 64 = c % 64 := by omega
      rw [b1] at q2
      rw [b2] at q3
      rw [b3] at q4
      repeat' (first | refine wC (by first | omega | (simp only [cl_iff, AV.le_refl, AV.le_any, OLe_refl, LeH_cons, LeH_nil, LeL_cons, LeL_nil, and_true, true_and, Bool.and_eq_true, Bool.or_eq_true, decide_eq_true_eq, notT, Bool.cond_true_left, Bool.cond_false_right, Nat.blt_eq, Nat.zero_add, cond_true, cond_false, Int.toNat_natCast, Bool.not_true, Bool.not_false, Bool.false_eq_true, not_true_eq_false, not_false_eq_true, or_false, false_or, or_true, true_or, and_false, false_and, condIT, hw, fd6, fd12, fd18, wu8, b0, q1, q2, q3, q4]; first | done | omega)) ?_ | refine wT (by first | omega | (simp only [cl_iff, AV.le_refl, AV.le_any, OLe_refl, LeH_cons, LeH_nil, LeL_cons, LeL_nil, and_true, true_and, Bool.and_eq_true, Bool.or_eq_true, decide_eq_true_eq, notT, Bool.cond_true_left, Bool.cond_false_right, Nat.blt_eq, Nat.zero_add, cond_true, cond_false, Int.toNat_natCast, Bool.not_true, Bool.not_false, Bool.false_eq_true, not_true_eq_false, not_false_eq_true, or_false, false_or, or_true, true_or, and_false, false_and, condIT, hw, fd6, fd12, fd18, wu8, b0, q1, q2, q3, q4]; first | done | omega)) ?_ | refine wF (by intro _h; first | omega | (simp only [cl_iff, AV.le_refl, AV.le_any, OLe_refl, LeH_cons, LeH_nil, LeL_cons, LeL_nil, and_true, true_and, Bool.and_eq_true, Bool.or_eq_true, decide_eq_true_eq, notT, Bool.cond_true_left, Bool.cond_false_right, Nat.blt_eq, Nat.zero_add, cond_true, cond_false, Int.toNat_natCast, Bool.not_true, Bool.not_false, Bool.false_eq_true, not_true_eq_false, not_false_eq_true, or_false, false_or, or_true, true_or, and_false, false_and, condIT, hw, fd6, fd12, fd18, wu8, b0, q1, q2, q3, q4] at _h; first | done | omega)) ?_ | (refine wS ?_ ?_ <;> intro _h <;> simp only [cl_iff, AV.le_refl, AV.le_any, OLe_refl, LeH_cons, LeH_nil, LeL_cons, LeL_nil, and_true, true_and, Bool.and_eq_true, Bool.or_eq_true, decide_eq_true_eq, notT, Bool.cond_true_left, Bool.cond_false_right, Nat.blt_eq, Nat.zero_add, cond_true, cond_false, Int.toNat_natCast, Bool.not_true, Bool.not_false, Bool.false_eq_true, not_true_eq_false, not_false_eq_true, or_false, false_or, or_true, true_or, and_false, false_and, condIT, hw, fd6, fd12, fd18, wu8, b0, q1, q2, q3, q4] at _h))
      all_goals simp only [or_true, true_or, false_or, or_false, and_false, false_and, cond_true, cond_false, Bool.not_true, Bool.not_false, Bool.false_eq_true, Bool.true_eq_false, not_true_eq_false, not_false_eq_true, false_implies, true_implies, implies_true, Nat.blt_eq, owesN, owesX, owesR, notT, sat_brT, sat_brF, sat_chkT, cl_iff, cl_false, AV.le_refl, AV.le_any, OLe_refl, OLe_none, sat_brN, Tree.sat_chk, Tree.sat_leaf, Tree.sat_fail, Nat.zero_add, Nat.sub_zero, Int.toNat_natCast, LeH_cons, LeH_nil, LeL_cons, LeL_nil, and_true, true_and, Bool.and_eq_true, Bool.or_eq_true, decide_eq_true_eq, decide_eq_false_iff_not, Bool.cond_true_left, Bool.cond_false_right, List.cons_append, List.nil_append, List.map_cons, List.map_nil, hw, fd6, fd12, fd18, wu8, b0, q1, q2, q3, q4]
      repeat' (first | apply And.intro | intro _hc)
      all_goals first | exact room1 (by omega) | exact app4B (by omega) (by omega) (by omega) (by omega) | ((rw [ByteArray.size_append]; exact AV.le_refl _)) | exact AV.le_refl _ | exact AV.le_any _ | exact OLe.refl _ | exact OLe.none _ | exact LeH.refl _ | exact LeL.refl _ | exact AV.le.bs _ | exact AV.le.sb _ | omega | contradiction
theorem run76a (t : ByteArray) (c : Int) : bodyE (P := Tryd.prog) (Γ := Γm) [] Lno false 16 [.tmp 4] (bodyOf Tryd.f76) [.hs 0 0 t.size, .v (.int .i32 c)] [bB t] =
  Tree.br (decide (IntKind.wrap IntKind.u32 c ≤ (127 : Int))) (Tree.chk (roomOk (1 : Nat) (ByteArray.size t + (1 : Nat))) (Tree.leaf (Ans.mk (AV.hs (1 : Nat) (0 : Nat) (ByteArray.size t + (1 :
    Nat))) [none, some (Blk.arr (1 : Nat) (ByteArray.size t + (1 : Nat)) fun j => mixL (decide (j < ByteArray.size t)) [AV.v (Value.int IntKind.u8 (sbyte t ((0 : Nat) + j)))] (chain [AV.v
    (Value.int IntKind.u8 (0 : Int))] (0 : Nat) [[AV.v (Value.int IntKind.u8 (IntKind.wrap IntKind.u8 c))]] ((0 : Nat) + (j - ByteArray.size t))))]))) Tree.fail := by kernel_rfl
theorem run76b (t : ByteArray) (c : Nat) (h : Answers Tryd.prog Γm 111 [.hs 0 0 t.size, .v (.int .i32 (c : Int))] [bB t] (.hs 1 0 (t ++ encR c).size) [none] [bB (t ++ encR c)]) : bodyE (P := Tryd.prog) (Γ := Γm) [CT.at 111 h] Lno false 16 [.tmp 4] (bodyOf Tryd.f76) [.hs 0 0 t.size, .v (.int .i32 (c : Int))] [bB t] =
  Tree.br (decide (IntKind.wrap IntKind.u32 (↑c : Int) ≤ (127 : Int))) (Tree.chk (roomOk (1 : Nat) (ByteArray.size t + (1 : Nat))) (Tree.leaf (Ans.mk (AV.hs (1 : Nat) (0 : Nat) (ByteArray.size
    t + (1 : Nat))) [none, some (Blk.arr (1 : Nat) (ByteArray.size t + (1 : Nat)) fun j => mixL (decide (j < ByteArray.size t)) [AV.v (Value.int IntKind.u8 (sbyte t ((0 : Nat) + j)))] (chain
    [AV.v (Value.int IntKind.u8 (0 : Int))] (0 : Nat) [[AV.v (Value.int IntKind.u8 (IntKind.wrap IntKind.u8 (↑c : Int)))]] ((0 : Nat) + (j - ByteArray.size t))))]))) (Tree.chk (cl (LeL
    [AV.hs (0 : Nat) (0 : Nat) (ByteArray.size t), AV.v (Value.int IntKind.i32 (↑c : Int))] [AV.hs (0 : Nat) (0 : Nat) (ByteArray.size t), AV.v (Value.int IntKind.i32 (↑c : Int))] ∧ LeH
    [some (Blk.arr (1 : Nat) (ByteArray.size t) fun j => [AV.v (Value.int IntKind.u8 (sbyte t j))])] [some (Blk.arr (1 : Nat) (ByteArray.size t) fun j => [AV.v (Value.int IntKind.u8 (sbyte t
    j))])])) (Tree.leaf (Ans.mk (AV.hs (1 : Nat) (0 : Nat) (ByteArray.size (t ++ encR c))) [none, some (Blk.arr (1 : Nat) (ByteArray.size (t ++ encR c)) fun j => [AV.v (Value.int IntKind.u8
    (sbyte (t ++ encR c) j))])]))) := by kernel_rfl
theorem ansApp {t : ByteArray} {c : Nat} (h : okR c) (ht : t.size ≤ 100000000) : Answers Tryd.prog Γm 76 [.hs 0 0 t.size, .v (.int .i32 (c : Int))] [bB t] (.hs 1 0 (t ++ encR c).size) [none] [bB (t ++ encR c)] := by
  have hc : c < 4294967296 := by unfold okR at h; omega
  have hw := wu32 c hc
  by_cases h0 : c < 128
  · refine answers (fn := Tryd.f76) (c := bodyOf Tryd.f76) (ntmps := 16) (results := [.tmp 4]) [] Lno false Tryd.func76 (by kernel_rfl) (by kernel_rfl) (by kernel_rfl) (by kernel_rfl) (by simp) rfl (noLoops (by kernel_rfl)) <| Meets.of (run76a t (c : Int)) <| ?_
    have he := encR_eq h
    rw [if_pos h0] at he
    rw [he]
    have b0 : c % 256 = c := by omega
    repeat' (first | refine wC (by first | omega | (simp only [cl_iff, AV.le_refl, AV.le_any, OLe_refl, LeH_cons, LeH_nil, LeL_cons, LeL_nil, and_true, true_and, Bool.and_eq_true, Bool.or_eq_true, decide_eq_true_eq, notT, Bool.cond_true_left, Bool.cond_false_right, Nat.blt_eq, Nat.zero_add, cond_true, cond_false, Int.toNat_natCast, Bool.not_true, Bool.not_false, Bool.false_eq_true, not_true_eq_false, not_false_eq_true, or_false, false_or, or_true, true_or, and_false, false_and, condIT, hw, wu8, b0]; first | done | omega)) ?_ | refine wT (by first | omega | (simp only [cl_iff, AV.le_refl, AV.le_any, OLe_refl, LeH_cons, LeH_nil, LeL_cons, LeL_nil, and_true, true_and, Bool.and_eq_true, Bool.or_eq_true, decide_eq_true_eq, notT, Bool.cond_true_left, Bool.cond_false_right, Nat.blt_eq, Nat.zero_add, cond_true, cond_false, Int.toNat_natCast, Bool.not_true, Bool.not_false, Bool.false_eq_true, not_true_eq_false, not_false_eq_true, or_false, false_or, or_true, true_or, and_false, false_and, condIT, hw, wu8, b0]; first | done | omega)) ?_ | refine wF (by intro _h; first | omega | (simp only [cl_iff, AV.le_refl, AV.le_any, OLe_refl, LeH_cons, LeH_nil, LeL_cons, LeL_nil, and_true, true_and, Bool.and_eq_true, Bool.or_eq_true, decide_eq_true_eq, notT, Bool.cond_true_left, Bool.cond_false_right, Nat.blt_eq, Nat.zero_add, cond_true, cond_false, Int.toNat_natCast, Bool.not_true, Bool.not_false, Bool.false_eq_true, not_true_eq_false, not_false_eq_true, or_false, false_or, or_true, true_or, and_false, false_and, condIT, hw, wu8, b0] at _h; first | done | omega)) ?_ | (refine wS ?_ ?_ <;> intro _h <;> simp only [cl_iff, AV.le_refl, AV.le_any, OLe_refl, LeH_cons, LeH_nil, LeL_cons, LeL_nil, and_true, true_and, Bool.and_eq_true, Bool.or_eq_true, decide_eq_true_eq, notT, Bool.cond_true_left, Bool.cond_false_right, Nat.blt_eq, Nat.zero_add, cond_true, cond_false, Int.toNat_natCast, Bool.not_true, Bool.not_false, Bool.false_eq_true, not_true_eq_false, not_false_eq_true, or_false, false_or, or_true, true_or, and_false, false_and, condIT, hw, wu8, b0] at _h))
    all_goals simp only [or_true, true_or, false_or, or_false, and_false, false_and, cond_true, cond_false, Bool.not_true, Bool.not_false, Bool.false_eq_true, Bool.true_eq_false, not_true_eq_false, not_false_eq_true, false_implies, true_implies, implies_true, Nat.blt_eq, owesN, owesX, owesR, notT, sat_brT, sat_brF, sat_chkT, cl_iff, cl_false, AV.le_refl, AV.le_any, OLe_refl, OLe_none, sat_brN, Tree.sat_chk, Tree.sat_leaf, Tree.sat_fail, Nat.zero_add, Nat.sub_zero, Int.toNat_natCast, LeH_cons, LeH_nil, LeL_cons, LeL_nil, and_true, true_and, Bool.and_eq_true, Bool.or_eq_true, decide_eq_true_eq, decide_eq_false_iff_not, Bool.cond_true_left, Bool.cond_false_right, List.cons_append, List.nil_append, List.map_cons, List.map_nil, hw, wu8, b0]
    repeat' (first | apply And.intro | intro _hc)
    all_goals first | exact room1 (by omega) | exact app1B (by omega) | ((rw [ByteArray.size_append]; exact AV.le_refl _)) | exact AV.le_refl _ | exact AV.le_any _ | exact OLe.refl _ | exact OLe.none _ | exact LeH.refl _ | exact LeL.refl _ | exact AV.le.bs _ | exact AV.le.sb _ | omega | contradiction
  · refine answers (fn := Tryd.f76) (c := bodyOf Tryd.f76) (ntmps := 16) (results := [.tmp 4]) [CT.at 111 (ans111 h h0 ht)] Lno false Tryd.func76 (by kernel_rfl) (by kernel_rfl) (by kernel_rfl) (by kernel_rfl) (by simp) rfl (noLoops (by kernel_rfl)) <| Meets.of (run76b t c (ans111 h h0 ht)) <| ?_
    repeat' (first | refine wC (by first | omega | (simp only [cl_iff, AV.le_refl, AV.le_any, OLe_refl, LeH_cons, LeH_nil, LeL_cons, LeL_nil, and_true, true_and, Bool.and_eq_true, Bool.or_eq_true, decide_eq_true_eq, notT, Bool.cond_true_left, Bool.cond_false_right, Nat.blt_eq, Nat.zero_add, cond_true, cond_false, Int.toNat_natCast, Bool.not_true, Bool.not_false, Bool.false_eq_true, not_true_eq_false, not_false_eq_true, or_false, false_or, or_true, true_or, and_false, false_and, condIT, hw]; first | done | omega)) ?_ | refine wT (by first | omega | (simp only [cl_iff, AV.le_refl, AV.le_any, OLe_refl, LeH_cons, LeH_nil, LeL_cons, LeL_nil, and_true, true_and, Bool.and_eq_true, Bool.or_eq_true, decide_eq_true_eq, notT, Bool.cond_true_left, Bool.cond_false_right, Nat.blt_eq, Nat.zero_add, cond_true, cond_false, Int.toNat_natCast, Bool.not_true, Bool.not_false, Bool.false_eq_true, not_true_eq_false, not_false_eq_true, or_false, false_or, or_true, true_or, and_false, false_and, condIT, hw]; first | done | omega)) ?_ | refine wF (by intro _h; first | omega | (simp only [cl_iff, AV.le_refl, AV.le_any, OLe_refl, LeH_cons, LeH_nil, LeL_cons, LeL_nil, and_true, true_and, Bool.and_eq_true, Bool.or_eq_true, decide_eq_true_eq, notT, Bool.cond_true_left, Bool.cond_false_right, Nat.blt_eq, Nat.zero_add, cond_true, cond_false, Int.toNat_natCast, Bool.not_true, Bool.not_false, Bool.false_eq_true, not_true_eq_false, not_false_eq_true, or_false, false_or, or_true, true_or, and_false, false_and, condIT, hw] at _h; first | done | omega)) ?_ | (refine wS ?_ ?_ <;> intro _h <;> simp only [cl_iff, AV.le_refl, AV.le_any, OLe_refl, LeH_cons, LeH_nil, LeL_cons, LeL_nil, and_true, true_and, Bool.and_eq_true, Bool.or_eq_true, decide_eq_true_eq, notT, Bool.cond_true_left, Bool.cond_false_right, Nat.blt_eq, Nat.zero_add, cond_true, cond_false, Int.toNat_natCast, Bool.not_true, Bool.not_false, Bool.false_eq_true, not_true_eq_false, not_false_eq_true, or_false, false_or, or_true, true_or, and_false, false_and, condIT, hw] at _h))
    all_goals simp only [or_true, true_or, false_or, or_false, and_false, false_and, cond_true, cond_false, Bool.not_true, Bool.not_false, Bool.false_eq_true, Bool.true_eq_false, not_true_eq_false, not_false_eq_true, false_implies, true_implies, implies_true, Nat.blt_eq, owesN, owesX, owesR, notT, sat_brT, sat_brF, sat_chkT, cl_iff, cl_false, AV.le_refl, AV.le_any, OLe_refl, OLe_none, sat_brN, Tree.sat_chk, Tree.sat_leaf, Tree.sat_fail, Nat.zero_add, Nat.sub_zero, Int.toNat_natCast, LeH_cons, LeH_nil, LeL_cons, LeL_nil, and_true, true_and, Bool.and_eq_true, Bool.or_eq_true, decide_eq_true_eq, decide_eq_false_iff_not, Bool.cond_true_left, Bool.cond_false_right, List.cons_append, List.nil_append, List.map_cons, List.map_nil, hw]
    repeat' (first | apply And.intro | intro _hc)
    all_goals first | exact AV.le_refl _ | exact AV.le_any _ | exact OLe.refl _ | exact OLe.none _ | exact LeH.refl _ | exact LeL.refl _ | exact AV.le.bs _ | exact AV.le.sb _ | omega | contradiction
end Go.Eng.TA

/- names: the chapter's example. -/
namespace Go.Eng.TA
open Go Go.Eng Go.Proofs
set_option linter.unusedSimpArgs false
set_option linter.unusedVariables false
/-- (hallmoot/name.span).has -/
noncomputable def z25 : CT Tryd.prog Γm := CT.auto true 100 3 [] 109 Tryd.f109 (bodyOf Tryd.f109) false 21 [.tmp 4] Tryd.func109 (by kernel_rfl) (by kernel_rfl) (by kernel_rfl) (by kernel_rfl)
/-- hallmoot/name.great -/
noncomputable def z26 : CT Tryd.prog Γm := CT.auto true 100 3 [z25] 112 Tryd.f112 (bodyOf Tryd.f112) false 16 [.tmp 2] Tryd.func112 (by kernel_rfl) (by kernel_rfl) (by kernel_rfl) (by kernel_rfl)
/-- hallmoot/name.Small -/
noncomputable def z12 : CT Tryd.prog Γm := CT.auto true 100 3 [z26] 77 Tryd.f77 (bodyOf Tryd.f77) false 8 [.tmp 2] Tryd.func77 (by kernel_rfl) (by kernel_rfl) (by kernel_rfl) (by kernel_rfl)
/-- hallmoot/name.Letter -/
noncomputable def z10 : CT Tryd.prog Γm := CT.auto true 100 3 [z25] 73 Tryd.f73 (bodyOf Tryd.f73) false 19 [.tmp 2] Tryd.func73 (by kernel_rfl) (by kernel_rfl) (by kernel_rfl) (by kernel_rfl)
/-- hallmoot/name.broken -/
noncomputable def z28 : CT Tryd.prog Γm := CT.auto true 100 3 [] 75 Tryd.f75 (bodyOf Tryd.f75) false 20 [.tmp 6] Tryd.func75 (by kernel_rfl) (by kernel_rfl) (by kernel_rfl) (by kernel_rfl)
/-- unicode/utf8.appendRuneNonASCII -/
noncomputable def z34 : CT Tryd.prog Γm := CT.auto true 100 3 [] 111 Tryd.f111 (bodyOf Tryd.f111) false 78 [.tmp 4] Tryd.func111 (by kernel_rfl) (by kernel_rfl) (by kernel_rfl) (by kernel_rfl)
/-- unicode/utf8.AppendRune -/
noncomputable def z29 : CT Tryd.prog Γm := CT.auto true 100 3 [z34] 76 Tryd.f76 (bodyOf Tryd.f76) false 16 [.tmp 4] Tryd.func76 (by kernel_rfl) (by kernel_rfl) (by kernel_rfl) (by kernel_rfl)
/-- hallmoot/name.Check -/
noncomputable def z17 : CT Tryd.prog Γm := CT.auto true 100 3 [z10] 20 Tryd.f20 (bodyOf Tryd.f20) false 41 [.tmp 2] Tryd.func20 (by kernel_rfl) (by kernel_rfl) (by kernel_rfl) (by kernel_rfl)
/-- hallmoot/name.Fold -/
noncomputable def z21 : CT Tryd.prog Γm := CT.auto true 100 3 [z28, z29, z12, z17] 24 Tryd.f24 (bodyOf Tryd.f24) false 30 [.tmp 2, .tmp 3] Tryd.func24 (by kernel_rfl) (by kernel_rfl) (by kernel_rfl) (by kernel_rfl)
/-- hallmoot/name.Cut -/
noncomputable def z14 : CT Tryd.prog Γm := CT.auto true 100 3 [] 17 Tryd.f17 (bodyOf Tryd.f17) false 25 [.tmp 4, .tmp 5] Tryd.func17 (by kernel_rfl) (by kernel_rfl) (by kernel_rfl) (by kernel_rfl)
theorem run8 : (bodyE (P := Tryd.prog) (Γ := Γm) [z21, z14, z17] (autoL true 100 [z21, z14, z17] false 0 35 (loopBodies (bodyOf Tryd.f15)) 3) false 35 [.tmp 0] (bodyOf Tryd.f15) [] []).get = some ⟨.sb true, []⟩ := by kernel_rfl
/-- the example holds -/
noncomputable def z8 : CT Tryd.prog Γm := CT.fact 15 Tryd.f15 (bodyOf Tryd.f15) [z21, z14, z17] (autoL true 100 [z21, z14, z17] false 0 35 (loopBodies (bodyOf Tryd.f15)) 3) false 35 [.tmp 0] Tryd.func15 (by kernel_rfl) (by kernel_rfl) (by kernel_rfl) (by kernel_rfl) (autoL_ok 3) (.sb true) (.sb true) run8
end Go.Eng.TA

/- names: folded names. -/
namespace Go.Eng.TA
open Go Go.Eng Go.Eng.M Go.Lib Go.Proofs
set_option linter.unusedSimpArgs false
set_option linter.unusedVariables false
def smallN (c : Nat) : Nat := bif greatB (c : Int) then c + 32 else c
theorem smallF_nat (c : Nat) : smallF (c : Int) = ((smallN c : Nat) : Int) := by
  unfold smallF smallN
  cases greatB (c : Int) <;> rfl
theorem small_ok {c : Nat} (h : okR c) : okR (smallN c) := by
  unfold smallN
  cases hg : greatB (c : Int) with
  | true =>
    have := great_iff.1 hg
    unfold okR
    simp only [cond_true]
    omega
  | false => exact h
def catR : List Nat → ByteArray
  | [] => ⟨#[]⟩
  | c :: l => encR c ++ catR l
def foldFrom (s : ByteArray) (p : Nat) : ByteArray := catR ((rns s p).map smallN)
def foldB (s : ByteArray) : ByteArray := foldFrom s 0
def foldOk (s : ByteArray) : Bool := good s 0 && nameB (foldB s)
theorem catR_size {l : List Nat} (h : ∀ c ∈ l, okR c) : (catR l).size ≤ 4 * l.length := by
  induction l with
  | nil => exact Nat.le_refl _
  | cons c l ih =>
    have h1 := encR_size (h c (List.mem_cons_self ..))
    have h2 := ih fun d hd => h d (List.mem_cons_of_mem _ hd)
    rw [catR, ByteArray.size_append, List.length_cons]; omega
theorem foldFrom_size (s : ByteArray) (p : Nat) : (foldFrom s p).size ≤ 4 * (s.size - p) := by
  have h1 := catR_size (l := (rns s p).map smallN) (by
    intro c hc
    obtain ⟨d, hd, rfl⟩ := List.mem_map.1 hc
    exact small_ok (rns_ok d hd))
  rw [List.length_map] at h1
  have h2 : (rns s p).length ≤ s.size - p := rns_len
  unfold foldFrom
  omega
theorem foldFrom_step {s : ByteArray} {p : Nat} (h : p < s.size) : foldFrom s p = encR (smallN (Utf8.decode s p).1) ++ foldFrom s (p + (Utf8.decode s p).2) := by
  unfold foldFrom
  rw [rns_step h]; rfl
theorem foldFrom_end {s : ByteArray} {p : Nat} (h : s.size ≤ p) : foldFrom s p = ⟨#[]⟩ := by
  unfold foldFrom
  rw [rns_end h]; rfl
theorem b_assoc (a b c : ByteArray) : a ++ b ++ c = a ++ (b ++ c) := ByteArray.append_assoc
structure XF where
  p : Nat
  t : ByteArray
noncomputable abbrev lpFd : Code := loopOf (bodyOf Tryd.f24) 0
abbrev lvFd : List Nat := [0, 4, 9, 2, 3]
abbrev nlFd : List (Nat × TypeId) := [(1, 5)]
def SFd (s : ByteArray) (x : XF) : List AV × Heap := ([.v (.string s), .hs 0 0 x.t.size, .its 1, .any, .any], [some (bB x.t), some (.sit s x.p)])
def retFd : Out := ⟨.ret, [.any, .any, .any, .v (.string ⟨#[]⟩), .v (.int .i64 20)], [none, none]⟩
def endFd (s : ByteArray) : Out := ⟨.exit 0, [.any, .hs 0 0 (foldB s).size, .any, .any, .any], [some (bB (foldB s)), none]⟩
def OFd (s : ByteArray) : Out := bif good s 0 then endFd s else retFd
theorem rFdR (s : ByteArray) (x : XF) : roundE (P := Tryd.prog) (Γ := Γm) [k75] Lno false 0 0 lpFd lvFd nlFd 30 (SFd s x).1 (SFd s x).2 =
  Tree.br (decide (x.p < ByteArray.size s)) (Tree.chk (cl (((0 : Int) ≤ (↑x.p : Int) ∧ (↑x.p : Int) < (↑(ByteArray.size s) : Int) ∧ (↑(Utf8.decode s x.p).fst : Int) = (↑(Utf8.decode s x.p).fst
    : Int)) ∧ LeL [AV.v (Value.string s), AV.v (Value.int IntKind.i64 (↑x.p : Int)), AV.v (Value.int IntKind.i32 (↑(Utf8.decode s x.p).fst : Int))] [AV.v (Value.string s), AV.v (Value.int
    IntKind.i64 (↑x.p : Int)), AV.v (Value.int IntKind.i32 (↑(Utf8.decode s x.p).fst : Int))] ∧ LeH [] [])) (Tree.br (!okAt s x.p) (Tree.leaf (Out.mk AEx.ret [AV.v (Value.string s), AV.hs (0
    : Nat) (0 : Nat) (ByteArray.size x.t), AV.its (1 : Nat), AV.v (Value.string (ByteArray.mk #[])), AV.v (Value.int IntKind.i64 (20 : Int))] [some (Blk.arr (1 : Nat) (ByteArray.size x.t)
    fun j => [AV.v (Value.int IntKind.u8 (sbyte x.t j))]), some (Blk.sit s (x.p + (Utf8.decode s x.p).snd))])) Tree.fail)) (Tree.leaf (Out.mk (AEx.exit (0 : Nat)) [AV.v (Value.string s),
    AV.hs (0 : Nat) (0 : Nat) (ByteArray.size x.t), AV.its (1 : Nat), AV.any, AV.any] [some (Blk.arr (1 : Nat) (ByteArray.size x.t) fun j => [AV.v (Value.int IntKind.u8 (sbyte x.t j))]),
    some (Blk.sit s x.p)])) := by kernel_rfl
theorem rFd (s : ByteArray) (x : XF) (u : ByteArray) (h : Answers Tryd.prog Γm 76 [.hs 0 0 x.t.size, .v (.int .i32 (smallF ((Utf8.decode s x.p).1 : Int)))] [bB x.t] (.hs 1 0 u.size) [none] [bB u]) : roundE (P := Tryd.prog) (Γ := Γm) [k75, c12', CT.at 76 h] Lno false 0 0 lpFd lvFd nlFd 30 (SFd s x).1 (SFd s x).2 =
  Tree.br (decide (x.p < ByteArray.size s)) (Tree.chk (cl (((0 : Int) ≤ (↑x.p : Int) ∧ (↑x.p : Int) < (↑(ByteArray.size s) : Int) ∧ (↑(Utf8.decode s x.p).fst : Int) = (↑(Utf8.decode s x.p).fst
    : Int)) ∧ LeL [AV.v (Value.string s), AV.v (Value.int IntKind.i64 (↑x.p : Int)), AV.v (Value.int IntKind.i32 (↑(Utf8.decode s x.p).fst : Int))] [AV.v (Value.string s), AV.v (Value.int
    IntKind.i64 (↑x.p : Int)), AV.v (Value.int IntKind.i32 (↑(Utf8.decode s x.p).fst : Int))] ∧ LeH [] [])) (Tree.br (!okAt s x.p) (Tree.leaf (Out.mk AEx.ret [AV.v (Value.string s), AV.hs (0
    : Nat) (0 : Nat) (ByteArray.size x.t), AV.its (1 : Nat), AV.v (Value.string (ByteArray.mk #[])), AV.v (Value.int IntKind.i64 (20 : Int))] [some (Blk.arr (1 : Nat) (ByteArray.size x.t)
    fun j => [AV.v (Value.int IntKind.u8 (sbyte x.t j))]), some (Blk.sit s (x.p + (Utf8.decode s x.p).snd))])) (Tree.chk true (Tree.chk (cl (LeL [AV.hs (0 : Nat) (0 : Nat) (ByteArray.size
    x.t), AV.v (Value.int IntKind.i32 (smallF (↑(Utf8.decode s x.p).fst : Int)))] [AV.hs (0 : Nat) (0 : Nat) (ByteArray.size x.t), AV.v (Value.int IntKind.i32 (smallF (↑(Utf8.decode s
    x.p).fst : Int)))] ∧ LeH [some (Blk.arr (1 : Nat) (ByteArray.size x.t) fun j => [AV.v (Value.int IntKind.u8 (sbyte x.t j))])] [some (Blk.arr (1 : Nat) (ByteArray.size x.t) fun j => [AV.v
    (Value.int IntKind.u8 (sbyte x.t j))])])) (Tree.leaf (Out.mk AEx.normal [AV.v (Value.string s), AV.hs (0 : Nat) (0 : Nat) (ByteArray.size u), AV.its (1 : Nat), AV.any, AV.any] [some
    (Blk.arr (1 : Nat) (ByteArray.size u) fun j => [AV.v (Value.int IntKind.u8 (sbyte u j))]), some (Blk.sit s (x.p + (Utf8.decode s x.p).snd))])))))) (Tree.leaf (Out.mk (AEx.exit (0 : Nat))
    [AV.v (Value.string s), AV.hs (0 : Nat) (0 : Nat) (ByteArray.size x.t), AV.its (1 : Nat), AV.any, AV.any] [some (Blk.arr (1 : Nat) (ByteArray.size x.t) fun j => [AV.v (Value.int
    IntKind.u8 (sbyte x.t j))]), some (Blk.sit s x.p)])) := by kernel_rfl
theorem loopFd {s : ByteArray} (hs : s.size ≤ 10000000) : ∀ x : XF, (x.p ≤ s.size ∧ x.t ++ foldFrom s x.p = foldB s ∧ good s x.p = good s 0) → LoopOK Tryd.prog Γm 0 30 lpFd (LSpec.at lvFd nlFd (SFd s x) (OFd s)) := by
  refine loop_at (S := SFd s) (O := fun _ => OFd s) (k := 0) (fun x => s.size - x.p) fun x hp => ?_
  obtain ⟨p, t⟩ := x
  obtain ⟨h1, h2, h3⟩ := hp
  dsimp only at h1 h2 h3
  have hz := foldFrom_size s 0
  have hz2 : t.size ≤ (foldB s).size := by rw [← h2, ByteArray.size_append]; omega
  unfold foldB at hz2
  rcases Nat.lt_or_ge p s.size with hi | hi
  · have hd := dec_pos s p
    have hle := dec_le hi
    rw [foldFrom_step hi, ← b_assoc] at h2
    rw [good_ok hi] at h3
    have hA := ansApp (t := t) (small_ok (dec_ok s p)) (by omega)
    rw [← smallF_nat] at hA
    cases ho : okAt s p with
    | true =>
      rw [ho, Bool.true_and] at h3
      refine .of (noLoops (by kernel_rfl)) (rFd s ⟨p, t⟩ _ hA) ?_
      repeat' (first | refine wC (by first | omega | (simp only [cl_iff, AV.le_refl, AV.le_any, OLe_refl, LeH_cons, LeH_nil, LeL_cons, LeL_nil, and_true, true_and, Bool.and_eq_true, Bool.or_eq_true, decide_eq_true_eq, notT, Bool.cond_true_left, Bool.cond_false_right, Nat.blt_eq, Nat.zero_add, cond_true, cond_false, Int.toNat_natCast, Bool.not_true, Bool.not_false, Bool.false_eq_true, not_true_eq_false, not_false_eq_true, or_false, false_or, or_true, true_or, and_false, false_and, condIT, ho]; first | done | omega)) ?_ | refine wT (by first | omega | (simp only [cl_iff, AV.le_refl, AV.le_any, OLe_refl, LeH_cons, LeH_nil, LeL_cons, LeL_nil, and_true, true_and, Bool.and_eq_true, Bool.or_eq_true, decide_eq_true_eq, notT, Bool.cond_true_left, Bool.cond_false_right, Nat.blt_eq, Nat.zero_add, cond_true, cond_false, Int.toNat_natCast, Bool.not_true, Bool.not_false, Bool.false_eq_true, not_true_eq_false, not_false_eq_true, or_false, false_or, or_true, true_or, and_false, false_and, condIT, ho]; first | done | omega)) ?_ | refine wF (by intro _h; first | omega | (simp only [cl_iff, AV.le_refl, AV.le_any, OLe_refl, LeH_cons, LeH_nil, LeL_cons, LeL_nil, and_true, true_and, Bool.and_eq_true, Bool.or_eq_true, decide_eq_true_eq, notT, Bool.cond_true_left, Bool.cond_false_right, Nat.blt_eq, Nat.zero_add, cond_true, cond_false, Int.toNat_natCast, Bool.not_true, Bool.not_false, Bool.false_eq_true, not_true_eq_false, not_false_eq_true, or_false, false_or, or_true, true_or, and_false, false_and, condIT, ho] at _h; first | done | omega)) ?_ | (refine wS ?_ ?_ <;> intro _h <;> simp only [cl_iff, AV.le_refl, AV.le_any, OLe_refl, LeH_cons, LeH_nil, LeL_cons, LeL_nil, and_true, true_and, Bool.and_eq_true, Bool.or_eq_true, decide_eq_true_eq, notT, Bool.cond_true_left, Bool.cond_false_right, Nat.blt_eq, Nat.zero_add, cond_true, cond_false, Int.toNat_natCast, Bool.not_true, Bool.not_false, Bool.false_eq_true, not_true_eq_false, not_false_eq_true, or_false, false_or, or_true, true_or, and_false, false_and, condIT, ho] at _h))
      all_goals simp only [or_true, true_or, false_or, or_false, and_false, false_and, cond_true, cond_false, Bool.not_true, Bool.not_false, Bool.false_eq_true, Bool.true_eq_false, not_true_eq_false, not_false_eq_true, false_implies, true_implies, implies_true, Nat.blt_eq, owesN, owesX, owesR, notT, sat_brT, sat_brF, sat_chkT, cl_iff, cl_false, AV.le_refl, AV.le_any, OLe_refl, OLe_none, sat_brN, Tree.sat_chk, Tree.sat_leaf, Tree.sat_fail, Nat.zero_add, Nat.sub_zero, Int.toNat_natCast, LeH_cons, LeH_nil, LeL_cons, LeL_nil, and_true, true_and, Bool.and_eq_true, Bool.or_eq_true, decide_eq_true_eq, decide_eq_false_iff_not, Bool.cond_true_left, Bool.cond_false_right, List.cons_append, List.nil_append, List.map_cons, List.map_nil, ho]
      repeat' (first | apply And.intro | intro _hc)
      all_goals first | exact ⟨⟨p + (Utf8.decode s p).2, t ++ encR (smallN (Utf8.decode s p).1)⟩, LeL.refl _, LeH.refl _, ⟨hle, h2, h3⟩, by dsimp only; omega⟩ | exact AV.le_refl _ | exact AV.le_any _ | exact OLe.refl _ | exact OLe.none _ | exact LeH.refl _ | exact LeL.refl _ | exact AV.le.bs _ | exact AV.le.sb _ | omega | contradiction
    | false =>
      rw [ho, Bool.false_and] at h3
      rw [show OFd s = retFd by unfold OFd; rw [← h3]; rfl]
      refine .of (noLoops (by kernel_rfl)) (rFdR s ⟨p, t⟩) ?_
      repeat' (first | refine wC (by first | omega | (simp only [cl_iff, AV.le_refl, AV.le_any, OLe_refl, LeH_cons, LeH_nil, LeL_cons, LeL_nil, and_true, true_and, Bool.and_eq_true, Bool.or_eq_true, decide_eq_true_eq, notT, Bool.cond_true_left, Bool.cond_false_right, Nat.blt_eq, Nat.zero_add, cond_true, cond_false, Int.toNat_natCast, Bool.not_true, Bool.not_false, Bool.false_eq_true, not_true_eq_false, not_false_eq_true, or_false, false_or, or_true, true_or, and_false, false_and, condIT, ho]; first | done | omega)) ?_ | refine wT (by first | omega | (simp only [cl_iff, AV.le_refl, AV.le_any, OLe_refl, LeH_cons, LeH_nil, LeL_cons, LeL_nil, and_true, true_and, Bool.and_eq_true, Bool.or_eq_true, decide_eq_true_eq, notT, Bool.cond_true_left, Bool.cond_false_right, Nat.blt_eq, Nat.zero_add, cond_true, cond_false, Int.toNat_natCast, Bool.not_true, Bool.not_false, Bool.false_eq_true, not_true_eq_false, not_false_eq_true, or_false, false_or, or_true, true_or, and_false, false_and, condIT, ho]; first | done | omega)) ?_ | refine wF (by intro _h; first | omega | (simp only [cl_iff, AV.le_refl, AV.le_any, OLe_refl, LeH_cons, LeH_nil, LeL_cons, LeL_nil, and_true, true_and, Bool.and_eq_true, Bool.or_eq_true, decide_eq_true_eq, notT, Bool.cond_true_left, Bool.cond_false_right, Nat.blt_eq, Nat.zero_add, cond_true, cond_false, Int.toNat_natCast, Bool.not_true, Bool.not_false, Bool.false_eq_true, not_true_eq_false, not_false_eq_true, or_false, false_or, or_true, true_or, and_false, false_and, condIT, ho] at _h; first | done | omega)) ?_ | (refine wS ?_ ?_ <;> intro _h <;> simp only [cl_iff, AV.le_refl, AV.le_any, OLe_refl, LeH_cons, LeH_nil, LeL_cons, LeL_nil, and_true, true_and, Bool.and_eq_true, Bool.or_eq_true, decide_eq_true_eq, notT, Bool.cond_true_left, Bool.cond_false_right, Nat.blt_eq, Nat.zero_add, cond_true, cond_false, Int.toNat_natCast, Bool.not_true, Bool.not_false, Bool.false_eq_true, not_true_eq_false, not_false_eq_true, or_false, false_or, or_true, true_or, and_false, false_and, condIT, ho] at _h))
      all_goals simp only [or_true, true_or, false_or, or_false, and_false, false_and, cond_true, cond_false, Bool.not_true, Bool.not_false, Bool.false_eq_true, Bool.true_eq_false, not_true_eq_false, not_false_eq_true, false_implies, true_implies, implies_true, Nat.blt_eq, owesN, owesX, owesR, notT, sat_brT, sat_brF, sat_chkT, cl_iff, cl_false, AV.le_refl, AV.le_any, OLe_refl, OLe_none, sat_brN, Tree.sat_chk, Tree.sat_leaf, Tree.sat_fail, Nat.zero_add, Nat.sub_zero, Int.toNat_natCast, LeH_cons, LeH_nil, LeL_cons, LeL_nil, and_true, true_and, Bool.and_eq_true, Bool.or_eq_true, decide_eq_true_eq, decide_eq_false_iff_not, Bool.cond_true_left, Bool.cond_false_right, List.cons_append, List.nil_append, List.map_cons, List.map_nil, ho]
      repeat' (first | apply And.intro | intro _hc)
      all_goals first | exact rfl | exact AV.le_refl _ | exact AV.le_any _ | exact OLe.refl _ | exact OLe.none _ | exact LeH.refl _ | exact LeL.refl _ | exact AV.le.bs _ | exact AV.le.sb _ | omega | contradiction
  · rw [foldFrom_end hi, append_empty] at h2
    rw [good_end hi] at h3
    subst h2
    rw [show OFd s = endFd s by unfold OFd; rw [← h3]; rfl]
    refine .of (noLoops (by kernel_rfl)) (rFdR s ⟨p, foldB s⟩) ?_
    repeat' (first | refine wC (by first | omega | (simp only [cl_iff, AV.le_refl, AV.le_any, OLe_refl, LeH_cons, LeH_nil, LeL_cons, LeL_nil, and_true, true_and, Bool.and_eq_true, Bool.or_eq_true, decide_eq_true_eq, notT, Bool.cond_true_left, Bool.cond_false_right, Nat.blt_eq, Nat.zero_add, cond_true, cond_false, Int.toNat_natCast, Bool.not_true, Bool.not_false, Bool.false_eq_true, not_true_eq_false, not_false_eq_true, or_false, false_or, or_true, true_or, and_false, false_and, condIT]; first | done | omega)) ?_ | refine wT (by first | omega | (simp only [cl_iff, AV.le_refl, AV.le_any, OLe_refl, LeH_cons, LeH_nil, LeL_cons, LeL_nil, and_true, true_and, Bool.and_eq_true, Bool.or_eq_true, decide_eq_true_eq, notT, Bool.cond_true_left, Bool.cond_false_right, Nat.blt_eq, Nat.zero_add, cond_true, cond_false, Int.toNat_natCast, Bool.not_true, Bool.not_false, Bool.false_eq_true, not_true_eq_false, not_false_eq_true, or_false, false_or, or_true, true_or, and_false, false_and, condIT]; first | done | omega)) ?_ | refine wF (by intro _h; first | omega | (simp only [cl_iff, AV.le_refl, AV.le_any, OLe_refl, LeH_cons, LeH_nil, LeL_cons, LeL_nil, and_true, true_and, Bool.and_eq_true, Bool.or_eq_true, decide_eq_true_eq, notT, Bool.cond_true_left, Bool.cond_false_right, Nat.blt_eq, Nat.zero_add, cond_true, cond_false, Int.toNat_natCast, Bool.not_true, Bool.not_false, Bool.false_eq_true, not_true_eq_false, not_false_eq_true, or_false, false_or, or_true, true_or, and_false, false_and, condIT] at _h; first | done | omega)) ?_ | (refine wS ?_ ?_ <;> intro _h <;> simp only [cl_iff, AV.le_refl, AV.le_any, OLe_refl, LeH_cons, LeH_nil, LeL_cons, LeL_nil, and_true, true_and, Bool.and_eq_true, Bool.or_eq_true, decide_eq_true_eq, notT, Bool.cond_true_left, Bool.cond_false_right, Nat.blt_eq, Nat.zero_add, cond_true, cond_false, Int.toNat_natCast, Bool.not_true, Bool.not_false, Bool.false_eq_true, not_true_eq_false, not_false_eq_true, or_false, false_or, or_true, true_or, and_false, false_and, condIT] at _h))
    all_goals simp only [or_true, true_or, false_or, or_false, and_false, false_and, cond_true, cond_false, Bool.not_true, Bool.not_false, Bool.false_eq_true, Bool.true_eq_false, not_true_eq_false, not_false_eq_true, false_implies, true_implies, implies_true, Nat.blt_eq, owesN, owesX, owesR, notT, sat_brT, sat_brF, sat_chkT, cl_iff, cl_false, AV.le_refl, AV.le_any, OLe_refl, OLe_none, sat_brN, Tree.sat_chk, Tree.sat_leaf, Tree.sat_fail, Nat.zero_add, Nat.sub_zero, Int.toNat_natCast, LeH_cons, LeH_nil, LeL_cons, LeL_nil, and_true, true_and, Bool.and_eq_true, Bool.or_eq_true, decide_eq_true_eq, decide_eq_false_iff_not, Bool.cond_true_left, Bool.cond_false_right, List.cons_append, List.nil_append, List.map_cons, List.map_nil]
    repeat' (first | apply And.intro | intro _hc)
    all_goals first | exact rfl | exact AV.le_refl _ | exact AV.le_any _ | exact OLe.refl _ | exact OLe.none _ | exact LeH.refl _ | exact LeL.refl _ | exact AV.le.bs _ | exact AV.le.sb _ | omega | contradiction
theorem runFdR (s : ByteArray) : bodyE (P := Tryd.prog) (Γ := Γm) [kChk] (fun _ => LSpec.at lvFd nlFd (SFd s ⟨0, ⟨#[]⟩⟩) retFd) false 30 [.tmp 2, .tmp 3] (bodyOf Tryd.f24) [.v (.string s)] [] =
  Tree.chk (cl (LeL [AV.v (Value.string s), AV.hs (0 : Nat) (0 : Nat) (0 : Nat), AV.its (1 : Nat), AV.v (Value.string (ByteArray.mk #[])), AV.v (Value.int IntKind.i64 (0 : Int))] [AV.v
    (Value.string s), AV.hs (0 : Nat) (0 : Nat) (0 : Nat), AV.its (1 : Nat), AV.any, AV.any] ∧ LeH [some (Blk.arr (1 : Nat) (0 : Nat) fun x => [AV.v (Value.int IntKind.u8 (0 : Int))]), some
    (Blk.sit s (0 : Nat))] [some (Blk.arr (1 : Nat) (0 : Nat) fun j => [AV.v (Value.int IntKind.u8 (sbyte (ByteArray.mk #[]) j))]), some (Blk.sit s (0 : Nat))])) (Tree.leaf (Ans.mk (AV.tup
    [AV.v (Value.string (ByteArray.mk #[])), AV.v (Value.int IntKind.i64 (20 : Int))]) [])) := by kernel_rfl
theorem runFdE (s : ByteArray) : bodyE (P := Tryd.prog) (Γ := Γm) [kChk] (fun _ => LSpec.at lvFd nlFd (SFd s ⟨0, ⟨#[]⟩⟩) (endFd s)) false 30 [.tmp 2, .tmp 3] (bodyOf Tryd.f24) [.v (.string s)] [] =
  Tree.chk (cl (LeL [AV.v (Value.string s), AV.hs (0 : Nat) (0 : Nat) (0 : Nat), AV.its (1 : Nat), AV.v (Value.string (ByteArray.mk #[])), AV.v (Value.int IntKind.i64 (0 : Int))] [AV.v
    (Value.string s), AV.hs (0 : Nat) (0 : Nat) (0 : Nat), AV.its (1 : Nat), AV.any, AV.any] ∧ LeH [some (Blk.arr (1 : Nat) (0 : Nat) fun x => [AV.v (Value.int IntKind.u8 (0 : Int))]), some
    (Blk.sit s (0 : Nat))] [some (Blk.arr (1 : Nat) (0 : Nat) fun j => [AV.v (Value.int IntKind.u8 (sbyte (ByteArray.mk #[]) j))]), some (Blk.sit s (0 : Nat))])) (Tree.chk ((allBytes
    (ByteArray.size (foldB s)) fun j => [AV.v (Value.int IntKind.u8 (sbyte (foldB s) ((0 : Nat) + j)))]) && cl (ByteArray.size (textOf (ByteArray.size (foldB s)) fun j => [AV.v (Value.int
    IntKind.u8 (sbyte (foldB s) ((0 : Nat) + j)))]) ≤ (1000000000 : Nat) ∧ LeL [AV.v (Value.string (textOf (ByteArray.size (foldB s)) fun j => [AV.v (Value.int IntKind.u8 (sbyte (foldB s)
    ((0 : Nat) + j)))]))] [AV.v (Value.string (textOf (ByteArray.size (foldB s)) fun j => [AV.v (Value.int IntKind.u8 (sbyte (foldB s) ((0 : Nat) + j)))]))] ∧ LeH [] [])) (Tree.br (!decide
    (erN (nameB (textOf (ByteArray.size (foldB s)) fun j => [AV.v (Value.int IntKind.u8 (sbyte (foldB s) ((0 : Nat) + j)))])) = (0 : Int))) (Tree.leaf (Ans.mk (AV.tup [AV.v (Value.string
    (ByteArray.mk #[])), AV.v (Value.int IntKind.i64 (erN (nameB (textOf (ByteArray.size (foldB s)) fun j => [AV.v (Value.int IntKind.u8 (sbyte (foldB s) ((0 : Nat) + j)))]))))]) []))
    (Tree.chk (allBytes (ByteArray.size (foldB s)) fun j => [AV.v (Value.int IntKind.u8 (sbyte (foldB s) ((0 : Nat) + j)))]) (Tree.leaf (Ans.mk (AV.tup [AV.v (Value.string (textOf
    (ByteArray.size (foldB s)) fun j => [AV.v (Value.int IntKind.u8 (sbyte (foldB s) ((0 : Nat) + j)))])), AV.v (Value.int IntKind.i64 (0 : Int))]) []))))) := by kernel_rfl
def foldV (s : ByteArray) : AV := .tup [.v (.string (bif foldOk s then foldB s else ⟨#[]⟩)), .v (.int .i64 (erN (foldOk s)))]
theorem ansFd {s : ByteArray} (hs : s.size ≤ 10000000) : Answers Tryd.prog Γm 24 [.v (.string s)] [] (foldV s) [] [] := by
  have hl := loopFd hs ⟨0, ⟨#[]⟩⟩ ⟨Nat.zero_le _, empty_append _, rfl⟩
  have hz : (foldB s).size ≤ 4 * (s.size - 0) := foldFrom_size s 0
  have hN : OLe (some (.arr 1 0 fun _ => [AV.v (Value.int IntKind.u8 0)])) (some (bB ⟨#[]⟩)) := OLe.arr rfl (fun e he => absurd he (Nat.not_lt_zero e)) (fun _ => rfl)
  unfold OFd at hl
  unfold foldV foldOk
  cases hg : good s 0 with
  | false =>
    rw [hg, cond_false] at hl
    refine answers (fn := Tryd.f24) (c := bodyOf Tryd.f24) (ntmps := 30) (results := [.tmp 2, .tmp 3]) [kChk] (fun _ => LSpec.at lvFd nlFd (SFd s ⟨0, ⟨#[]⟩⟩) retFd) false Tryd.func24 (by kernel_rfl) (by kernel_rfl) (by kernel_rfl) (by kernel_rfl) (by simp) rfl (oneLoop (b := lpFd) (by kernel_rfl) hl) <| Meets.of (runFdR s) <| ?_
    repeat' (first | refine wC (by first | omega | (simp only [cl_iff, AV.le_refl, AV.le_any, OLe_refl, LeH_cons, LeH_nil, LeL_cons, LeL_nil, and_true, true_and, Bool.and_eq_true, Bool.or_eq_true, decide_eq_true_eq, notT, Bool.cond_true_left, Bool.cond_false_right, Nat.blt_eq, Nat.zero_add, cond_true, cond_false, Int.toNat_natCast, Bool.not_true, Bool.not_false, Bool.false_eq_true, not_true_eq_false, not_false_eq_true, or_false, false_or, or_true, true_or, and_false, false_and, condIT]; first | done | omega)) ?_ | refine wT (by first | omega | (simp only [cl_iff, AV.le_refl, AV.le_any, OLe_refl, LeH_cons, LeH_nil, LeL_cons, LeL_nil, and_true, true_and, Bool.and_eq_true, Bool.or_eq_true, decide_eq_true_eq, notT, Bool.cond_true_left, Bool.cond_false_right, Nat.blt_eq, Nat.zero_add, cond_true, cond_false, Int.toNat_natCast, Bool.not_true, Bool.not_false, Bool.false_eq_true, not_true_eq_false, not_false_eq_true, or_false, false_or, or_true, true_or, and_false, false_and, condIT]; first | done | omega)) ?_ | refine wF (by intro _h; first | omega | (simp only [cl_iff, AV.le_refl, AV.le_any, OLe_refl, LeH_cons, LeH_nil, LeL_cons, LeL_nil, and_true, true_and, Bool.and_eq_true, Bool.or_eq_true, decide_eq_true_eq, notT, Bool.cond_true_left, Bool.cond_false_right, Nat.blt_eq, Nat.zero_add, cond_true, cond_false, Int.toNat_natCast, Bool.not_true, Bool.not_false, Bool.false_eq_true, not_true_eq_false, not_false_eq_true, or_false, false_or, or_true, true_or, and_false, false_and, condIT] at _h; first | done | omega)) ?_ | (refine wS ?_ ?_ <;> intro _h <;> simp only [cl_iff, AV.le_refl, AV.le_any, OLe_refl, LeH_cons, LeH_nil, LeL_cons, LeL_nil, and_true, true_and, Bool.and_eq_true, Bool.or_eq_true, decide_eq_true_eq, notT, Bool.cond_true_left, Bool.cond_false_right, Nat.blt_eq, Nat.zero_add, cond_true, cond_false, Int.toNat_natCast, Bool.not_true, Bool.not_false, Bool.false_eq_true, not_true_eq_false, not_false_eq_true, or_false, false_or, or_true, true_or, and_false, false_and, condIT] at _h))
    all_goals simp only [or_true, true_or, false_or, or_false, and_false, false_and, cond_true, cond_false, Bool.not_true, Bool.not_false, Bool.false_eq_true, Bool.true_eq_false, not_true_eq_false, not_false_eq_true, false_implies, true_implies, implies_true, Nat.blt_eq, owesN, owesX, owesR, notT, sat_brT, sat_brF, sat_chkT, cl_iff, cl_false, AV.le_refl, AV.le_any, OLe_refl, OLe_none, sat_brN, Tree.sat_chk, Tree.sat_leaf, Tree.sat_fail, Nat.zero_add, Nat.sub_zero, Int.toNat_natCast, LeH_cons, LeH_nil, LeL_cons, LeL_nil, and_true, true_and, Bool.and_eq_true, Bool.or_eq_true, decide_eq_true_eq, decide_eq_false_iff_not, Bool.cond_true_left, Bool.cond_false_right, List.cons_append, List.nil_append, List.map_cons, List.map_nil]
    repeat' (first | apply And.intro | intro _hc)
    all_goals first | exact hN | exact tup2 (leS rfl) (leI rfl) | exact AV.le_refl _ | exact AV.le_any _ | exact OLe.refl _ | exact OLe.none _ | exact LeH.refl _ | exact LeL.refl _ | exact AV.le.bs _ | exact AV.le.sb _ | omega | contradiction
  | true =>
    rw [hg, cond_true] at hl
    refine answers (fn := Tryd.f24) (c := bodyOf Tryd.f24) (ntmps := 30) (results := [.tmp 2, .tmp 3]) [kChk] (fun _ => LSpec.at lvFd nlFd (SFd s ⟨0, ⟨#[]⟩⟩) (endFd s)) false Tryd.func24 (by kernel_rfl) (by kernel_rfl) (by kernel_rfl) (by kernel_rfl) (by simp) rfl (oneLoop (b := lpFd) (by kernel_rfl) hl) <| Meets.of (runFdE s) <| ?_
    have ha : (allBytes (foldB s).size fun j => [AV.v (Value.int IntKind.u8 (sbyte (foldB s) j))]) = true := allBytes_bsF (foldB s).size (foldB s)
    have ht : (textOf (foldB s).size fun j => [AV.v (Value.int IntKind.u8 (sbyte (foldB s) j))]) = foldB s := textOf_bsF (foldB s)
    cases hn : nameB (foldB s) with
    | true =>
      have e0 : erN true = 0 := rfl
      repeat' (first | refine wC (by first | omega | (simp only [cl_iff, AV.le_refl, AV.le_any, OLe_refl, LeH_cons, LeH_nil, LeL_cons, LeL_nil, and_true, true_and, Bool.and_eq_true, Bool.or_eq_true, decide_eq_true_eq, notT, Bool.cond_true_left, Bool.cond_false_right, Nat.blt_eq, Nat.zero_add, cond_true, cond_false, Int.toNat_natCast, Bool.not_true, Bool.not_false, Bool.false_eq_true, not_true_eq_false, not_false_eq_true, or_false, false_or, or_true, true_or, and_false, false_and, condIT, ha, ht, hn, e0]; first | done | omega)) ?_ | refine wT (by first | omega | (simp only [cl_iff, AV.le_refl, AV.le_any, OLe_refl, LeH_cons, LeH_nil, LeL_cons, LeL_nil, and_true, true_and, Bool.and_eq_true, Bool.or_eq_true, decide_eq_true_eq, notT, Bool.cond_true_left, Bool.cond_false_right, Nat.blt_eq, Nat.zero_add, cond_true, cond_false, Int.toNat_natCast, Bool.not_true, Bool.not_false, Bool.false_eq_true, not_true_eq_false, not_false_eq_true, or_false, false_or, or_true, true_or, and_false, false_and, condIT, ha, ht, hn, e0]; first | done | omega)) ?_ | refine wF (by intro _h; first | omega | (simp only [cl_iff, AV.le_refl, AV.le_any, OLe_refl, LeH_cons, LeH_nil, LeL_cons, LeL_nil, and_true, true_and, Bool.and_eq_true, Bool.or_eq_true, decide_eq_true_eq, notT, Bool.cond_true_left, Bool.cond_false_right, Nat.blt_eq, Nat.zero_add, cond_true, cond_false, Int.toNat_natCast, Bool.not_true, Bool.not_false, Bool.false_eq_true, not_true_eq_false, not_false_eq_true, or_false, false_or, or_true, true_or, and_false, false_and, condIT, ha, ht, hn, e0] at _h; first | done | omega)) ?_ | (refine wS ?_ ?_ <;> intro _h <;> simp only [cl_iff, AV.le_refl, AV.le_any, OLe_refl, LeH_cons, LeH_nil, LeL_cons, LeL_nil, and_true, true_and, Bool.and_eq_true, Bool.or_eq_true, decide_eq_true_eq, notT, Bool.cond_true_left, Bool.cond_false_right, Nat.blt_eq, Nat.zero_add, cond_true, cond_false, Int.toNat_natCast, Bool.not_true, Bool.not_false, Bool.false_eq_true, not_true_eq_false, not_false_eq_true, or_false, false_or, or_true, true_or, and_false, false_and, condIT, ha, ht, hn, e0] at _h))
      all_goals simp only [or_true, true_or, false_or, or_false, and_false, false_and, cond_true, cond_false, Bool.not_true, Bool.not_false, Bool.false_eq_true, Bool.true_eq_false, not_true_eq_false, not_false_eq_true, false_implies, true_implies, implies_true, Nat.blt_eq, owesN, owesX, owesR, notT, sat_brT, sat_brF, sat_chkT, cl_iff, cl_false, AV.le_refl, AV.le_any, OLe_refl, OLe_none, sat_brN, Tree.sat_chk, Tree.sat_leaf, Tree.sat_fail, Nat.zero_add, Nat.sub_zero, Int.toNat_natCast, LeH_cons, LeH_nil, LeL_cons, LeL_nil, and_true, true_and, Bool.and_eq_true, Bool.or_eq_true, decide_eq_true_eq, decide_eq_false_iff_not, Bool.cond_true_left, Bool.cond_false_right, List.cons_append, List.nil_append, List.map_cons, List.map_nil, ha, ht, hn, e0]
      repeat' (first | apply And.intro | intro _hc)
      all_goals first | exact hN | exact tup2 (leS rfl) (leI rfl) | exact AV.le_refl _ | exact AV.le_any _ | exact OLe.refl _ | exact OLe.none _ | exact LeH.refl _ | exact LeL.refl _ | exact AV.le.bs _ | exact AV.le.sb _ | omega | contradiction
    | false =>
      have e0 : erN false = 20 := rfl
      repeat' (first | refine wC (by first | omega | (simp only [cl_iff, AV.le_refl, AV.le_any, OLe_refl, LeH_cons, LeH_nil, LeL_cons, LeL_nil, and_true, true_and, Bool.and_eq_true, Bool.or_eq_true, decide_eq_true_eq, notT, Bool.cond_true_left, Bool.cond_false_right, Nat.blt_eq, Nat.zero_add, cond_true, cond_false, Int.toNat_natCast, Bool.not_true, Bool.not_false, Bool.false_eq_true, not_true_eq_false, not_false_eq_true, or_false, false_or, or_true, true_or, and_false, false_and, condIT, ha, ht, hn, e0]; first | done | omega)) ?_ | refine wT (by first | omega | (simp only [cl_iff, AV.le_refl, AV.le_any, OLe_refl, LeH_cons, LeH_nil, LeL_cons, LeL_nil, and_true, true_and, Bool.and_eq_true, Bool.or_eq_true, decide_eq_true_eq, notT, Bool.cond_true_left, Bool.cond_false_right, Nat.blt_eq, Nat.zero_add, cond_true, cond_false, Int.toNat_natCast, Bool.not_true, Bool.not_false, Bool.false_eq_true, not_true_eq_false, not_false_eq_true, or_false, false_or, or_true, true_or, and_false, false_and, condIT, ha, ht, hn, e0]; first | done | omega)) ?_ | refine wF (by intro _h; first | omega | (simp only [cl_iff, AV.le_refl, AV.le_any, OLe_refl, LeH_cons, LeH_nil, LeL_cons, LeL_nil, and_true, true_and, Bool.and_eq_true, Bool.or_eq_true, decide_eq_true_eq, notT, Bool.cond_true_left, Bool.cond_false_right, Nat.blt_eq, Nat.zero_add, cond_true, cond_false, Int.toNat_natCast, Bool.not_true, Bool.not_false, Bool.false_eq_true, not_true_eq_false, not_false_eq_true, or_false, false_or, or_true, true_or, and_false, false_and, condIT, ha, ht, hn, e0] at _h; first | done | omega)) ?_ | (refine wS ?_ ?_ <;> intro _h <;> simp only [cl_iff, AV.le_refl, AV.le_any, OLe_refl, LeH_cons, LeH_nil, LeL_cons, LeL_nil, and_true, true_and, Bool.and_eq_true, Bool.or_eq_true, decide_eq_true_eq, notT, Bool.cond_true_left, Bool.cond_false_right, Nat.blt_eq, Nat.zero_add, cond_true, cond_false, Int.toNat_natCast, Bool.not_true, Bool.not_false, Bool.false_eq_true, not_true_eq_false, not_false_eq_true, or_false, false_or, or_true, true_or, and_false, false_and, condIT, ha, ht, hn, e0] at _h))
      all_goals simp only [or_true, true_or, false_or, or_false, and_false, false_and, cond_true, cond_false, Bool.not_true, Bool.not_false, Bool.false_eq_true, Bool.true_eq_false, not_true_eq_false, not_false_eq_true, false_implies, true_implies, implies_true, Nat.blt_eq, owesN, owesX, owesR, notT, sat_brT, sat_brF, sat_chkT, cl_iff, cl_false, AV.le_refl, AV.le_any, OLe_refl, OLe_none, sat_brN, Tree.sat_chk, Tree.sat_leaf, Tree.sat_fail, Nat.zero_add, Nat.sub_zero, Int.toNat_natCast, LeH_cons, LeH_nil, LeL_cons, LeL_nil, and_true, true_and, Bool.and_eq_true, Bool.or_eq_true, decide_eq_true_eq, decide_eq_false_iff_not, Bool.cond_true_left, Bool.cond_false_right, List.cons_append, List.nil_append, List.map_cons, List.map_nil, ha, ht, hn, e0]
      repeat' (first | apply And.intro | intro _hc)
      all_goals first | exact hN | exact tup2 (leS rfl) (leI rfl) | exact AV.le_refl _ | exact AV.le_any _ | exact OLe.refl _ | exact OLe.none _ | exact LeH.refl _ | exact LeL.refl _ | exact AV.le.bs _ | exact AV.le.sb _ | omega | contradiction
noncomputable def kFd : CT Tryd.prog Γm := CT.oS 24 Tryd.func24 (by kernel_rfl) (by kernel_rfl) (fun s => s.size ≤ 10000000) foldV (fun _ => []) (fun s h => ansFd h)
end Go.Eng.TA

/- names: which text stands ahead: NameOrder. -/
namespace Go.Eng.TA
open Go Go.Eng Go.Eng.M Go.Lib Go.Proofs
set_option linter.unusedSimpArgs false
set_option linter.unusedVariables false
/-- a list of runes -/
def R1.c (n : Nat) : List AV := [.v (.int .i32 (n : Int))]
theorem r1Cod : Cod R1.c 1 := ⟨fun _ => rfl, fun b x y => by cases b <;> rfl⟩
abbrev r1B (l : List Nat) : Blk := .arr 1 l.length (lsF R1.c l)
theorem room4 {n : Nat} (h : n ≤ 1000000000) : roomOk 4 n = true := by
  unfold roomOk
  exact decide_eq_true (by omega)
noncomputable abbrev lpRn : Code := loopOf (bodyOf Tryd.f80) 0
structure XL where
  p : Nat
  l : List Nat
def SRn (s : ByteArray) (x : XL) : List AV × Heap := ([.hs 0 0 x.l.length, .its 1], [some (r1B x.l), some (.sit s x.p)])
def ORn (s : ByteArray) : Out := ⟨.exit 0, [.hs 0 0 (rns s 0).length, .any], [some (r1B (rns s 0)), none]⟩
theorem rRn (s : ByteArray) (x : XL) : roundE (P := Tryd.prog) (Γ := Γm) [] Lno false 0 0 lpRn [3, 7] [(0, 21)] 16 (SRn s x).1 (SRn s x).2 =
  Tree.br (decide (x.p < ByteArray.size s)) (Tree.chk (roomOk (4 : Nat) (List.length x.l + (1 : Nat))) (Tree.leaf (Out.mk AEx.normal [AV.hs (0 : Nat) (0 : Nat) (List.length x.l + (1 : Nat)),
    AV.its (1 : Nat)] [some (Blk.arr (1 : Nat) (List.length x.l + (1 : Nat)) fun j => mixL (decide (j < List.length x.l)) (lsF R1.c x.l ((0 : Nat) + j)) (chain [AV.v (Value.int IntKind.i32
    (0 : Int))] (0 : Nat) [[AV.v (Value.int IntKind.i32 (↑(Utf8.decode s x.p).fst : Int))]] ((0 : Nat) + (j - List.length x.l)))), some (Blk.sit s (x.p + (Utf8.decode s x.p).snd))])))
    (Tree.leaf (Out.mk (AEx.exit (0 : Nat)) [AV.hs (0 : Nat) (0 : Nat) (List.length x.l), AV.its (1 : Nat)] [some (Blk.arr (1 : Nat) (List.length x.l) (lsF R1.c x.l)), some (Blk.sit s
    x.p)])) := by kernel_rfl
theorem loopRn {s : ByteArray} (hs : s.size ≤ 100000000) : ∀ x : XL, (x.p ≤ s.size ∧ x.l ++ rns s x.p = rns s 0) → LoopOK Tryd.prog Γm 0 16 lpRn (LSpec.at [3, 7] [(0, 21)] (SRn s x) (ORn s)) := by
  refine loop_at (S := SRn s) (O := fun _ => ORn s) (k := 0) (fun x => s.size - x.p) fun x hp => .of (noLoops (by kernel_rfl)) (rRn s x) ?_
  obtain ⟨p, l⟩ := x
  obtain ⟨h1, h2⟩ := hp
  dsimp only at h1 h2
  have hln : (rns s 0).length ≤ s.size - 0 := rns_len
  have hll : l.length ≤ (rns s 0).length := by rw [← h2]; simp
  rcases Nat.lt_or_ge p s.size with hi | hi
  · have hd := dec_pos s p
    have hle := dec_le hi
    rw [rns_step hi] at h2
    repeat' (first | refine wC (by first | omega | (simp only [cl_iff, AV.le_refl, AV.le_any, OLe_refl, LeH_cons, LeH_nil, LeL_cons, LeL_nil, and_true, true_and, Bool.and_eq_true, Bool.or_eq_true, decide_eq_true_eq, notT, Bool.cond_true_left, Bool.cond_false_right, Nat.blt_eq, Nat.zero_add, cond_true, cond_false, Int.toNat_natCast, Bool.not_true, Bool.not_false, Bool.false_eq_true, not_true_eq_false, not_false_eq_true, or_false, false_or, or_true, true_or, and_false, false_and, condIT]; first | done | omega)) ?_ | refine wT (by first | omega | (simp only [cl_iff, AV.le_refl, AV.le_any, OLe_refl, LeH_cons, LeH_nil, LeL_cons, LeL_nil, and_true, true_and, Bool.and_eq_true, Bool.or_eq_true, decide_eq_true_eq, notT, Bool.cond_true_left, Bool.cond_false_right, Nat.blt_eq, Nat.zero_add, cond_true, cond_false, Int.toNat_natCast, Bool.not_true, Bool.not_false, Bool.false_eq_true, not_true_eq_false, not_false_eq_true, or_false, false_or, or_true, true_or, and_false, false_and, condIT]; first | done | omega)) ?_ | refine wF (by intro _h; first | omega | (simp only [cl_iff, AV.le_refl, AV.le_any, OLe_refl, LeH_cons, LeH_nil, LeL_cons, LeL_nil, and_true, true_and, Bool.and_eq_true, Bool.or_eq_true, decide_eq_true_eq, notT, Bool.cond_true_left, Bool.cond_false_right, Nat.blt_eq, Nat.zero_add, cond_true, cond_false, Int.toNat_natCast, Bool.not_true, Bool.not_false, Bool.false_eq_true, not_true_eq_false, not_false_eq_true, or_false, false_or, or_true, true_or, and_false, false_and, condIT] at _h; first | done | omega)) ?_ | (refine wS ?_ ?_ <;> intro _h <;> simp only [cl_iff, AV.le_refl, AV.le_any, OLe_refl, LeH_cons, LeH_nil, LeL_cons, LeL_nil, and_true, true_and, Bool.and_eq_true, Bool.or_eq_true, decide_eq_true_eq, notT, Bool.cond_true_left, Bool.cond_false_right, Nat.blt_eq, Nat.zero_add, cond_true, cond_false, Int.toNat_natCast, Bool.not_true, Bool.not_false, Bool.false_eq_true, not_true_eq_false, not_false_eq_true, or_false, false_or, or_true, true_or, and_false, false_and, condIT] at _h))
    all_goals simp only [or_true, true_or, false_or, or_false, and_false, false_and, cond_true, cond_false, Bool.not_true, Bool.not_false, Bool.false_eq_true, Bool.true_eq_false, not_true_eq_false, not_false_eq_true, false_implies, true_implies, implies_true, Nat.blt_eq, owesN, owesX, owesR, notT, sat_brT, sat_brF, sat_chkT, cl_iff, cl_false, AV.le_refl, AV.le_any, OLe_refl, OLe_none, sat_brN, Tree.sat_chk, Tree.sat_leaf, Tree.sat_fail, Nat.zero_add, Nat.sub_zero, Int.toNat_natCast, LeH_cons, LeH_nil, LeL_cons, LeL_nil, and_true, true_and, Bool.and_eq_true, Bool.or_eq_true, decide_eq_true_eq, decide_eq_false_iff_not, Bool.cond_true_left, Bool.cond_false_right, List.cons_append, List.nil_append, List.map_cons, List.map_nil]
    repeat' (first | apply And.intro | intro _hc)
    all_goals first | exact room4 (by omega) | exact ⟨⟨p + (Utf8.decode s p).2, l ++ [(Utf8.decode s p).1]⟩, ⟨by (rw [List.length_append]; exact AV.le_refl _), .refl _, trivial⟩, ⟨r1Cod.app0 l _ default rfl (by simp), OLe.refl _, trivial⟩, ⟨hle, by dsimp only; rw [← h2]; simp⟩, by dsimp only; omega⟩ | exact AV.le_refl _ | exact AV.le_any _ | exact OLe.refl _ | exact OLe.none _ | exact LeH.refl _ | exact LeL.refl _ | exact AV.le.bs _ | exact AV.le.sb _ | omega | contradiction
  · rw [rns_end hi, List.append_nil] at h2
    subst h2
    repeat' (first | refine wC (by first | omega | (simp only [cl_iff, AV.le_refl, AV.le_any, OLe_refl, LeH_cons, LeH_nil, LeL_cons, LeL_nil, and_true, true_and, Bool.and_eq_true, Bool.or_eq_true, decide_eq_true_eq, notT, Bool.cond_true_left, Bool.cond_false_right, Nat.blt_eq, Nat.zero_add, cond_true, cond_false, Int.toNat_natCast, Bool.not_true, Bool.not_false, Bool.false_eq_true, not_true_eq_false, not_false_eq_true, or_false, false_or, or_true, true_or, and_false, false_and, condIT]; first | done | omega)) ?_ | refine wT (by first | omega | (simp only [cl_iff, AV.le_refl, AV.le_any, OLe_refl, LeH_cons, LeH_nil, LeL_cons, LeL_nil, and_true, true_and, Bool.and_eq_true, Bool.or_eq_true, decide_eq_true_eq, notT, Bool.cond_true_left, Bool.cond_false_right, Nat.blt_eq, Nat.zero_add, cond_true, cond_false, Int.toNat_natCast, Bool.not_true, Bool.not_false, Bool.false_eq_true, not_true_eq_false, not_false_eq_true, or_false, false_or, or_true, true_or, and_false, false_and, condIT]; first | done | omega)) ?_ | refine wF (by intro _h; first | omega | (simp only [cl_iff, AV.le_refl, AV.le_any, OLe_refl, LeH_cons, LeH_nil, LeL_cons, LeL_nil, and_true, true_and, Bool.and_eq_true, Bool.or_eq_true, decide_eq_true_eq, notT, Bool.cond_true_left, Bool.cond_false_right, Nat.blt_eq, Nat.zero_add, cond_true, cond_false, Int.toNat_natCast, Bool.not_true, Bool.not_false, Bool.false_eq_true, not_true_eq_false, not_false_eq_true, or_false, false_or, or_true, true_or, and_false, false_and, condIT] at _h; first | done | omega)) ?_ | (refine wS ?_ ?_ <;> intro _h <;> simp only [cl_iff, AV.le_refl, AV.le_any, OLe_refl, LeH_cons, LeH_nil, LeL_cons, LeL_nil, and_true, true_and, Bool.and_eq_true, Bool.or_eq_true, decide_eq_true_eq, notT, Bool.cond_true_left, Bool.cond_false_right, Nat.blt_eq, Nat.zero_add, cond_true, cond_false, Int.toNat_natCast, Bool.not_true, Bool.not_false, Bool.false_eq_true, not_true_eq_false, not_false_eq_true, or_false, false_or, or_true, true_or, and_false, false_and, condIT] at _h))
    all_goals simp only [or_true, true_or, false_or, or_false, and_false, false_and, cond_true, cond_false, Bool.not_true, Bool.not_false, Bool.false_eq_true, Bool.true_eq_false, not_true_eq_false, not_false_eq_true, false_implies, true_implies, implies_true, Nat.blt_eq, owesN, owesX, owesR, notT, sat_brT, sat_brF, sat_chkT, cl_iff, cl_false, AV.le_refl, AV.le_any, OLe_refl, OLe_none, sat_brN, Tree.sat_chk, Tree.sat_leaf, Tree.sat_fail, Nat.zero_add, Nat.sub_zero, Int.toNat_natCast, LeH_cons, LeH_nil, LeL_cons, LeL_nil, and_true, true_and, Bool.and_eq_true, Bool.or_eq_true, decide_eq_true_eq, decide_eq_false_iff_not, Bool.cond_true_left, Bool.cond_false_right, List.cons_append, List.nil_append, List.map_cons, List.map_nil]
    repeat' (first | apply And.intro | intro _hc)
    all_goals first | exact rfl | exact AV.le_refl _ | exact AV.le_any _ | exact OLe.refl _ | exact OLe.none _ | exact LeH.refl _ | exact LeL.refl _ | exact AV.le.bs _ | exact AV.le.sb _ | omega | contradiction
theorem runRn (s : ByteArray) : bodyE (P := Tryd.prog) (Γ := Γm) [] (fun _ => LSpec.at [3, 7] [(0, 21)] (SRn s ⟨0, []⟩) (ORn s)) false 16 [.tmp 2] (bodyOf Tryd.f80) [.v (.string s)] [] =
  Tree.chk (cl (LeL [AV.hs (0 : Nat) (0 : Nat) (0 : Nat), AV.its (1 : Nat)] [AV.hs (0 : Nat) (0 : Nat) (0 : Nat), AV.its (1 : Nat)] ∧ LeH [some (Blk.arr (1 : Nat) (0 : Nat) fun x => [AV.v
    (Value.int IntKind.i32 (0 : Int))]), some (Blk.sit s (0 : Nat))] [some (Blk.arr (1 : Nat) (0 : Nat) (lsF R1.c (XL.mk (0 : Nat) []).l)), some (Blk.sit s (0 : Nat))])) (Tree.leaf (Ans.mk
    (AV.hs (0 : Nat) (0 : Nat) (List.length (rns s (0 : Nat)))) [some (Blk.arr (1 : Nat) (List.length (rns s (0 : Nat))) (lsF R1.c (rns s (0 : Nat))))])) := by kernel_rfl
theorem ansRn {s : ByteArray} (hs : s.size ≤ 100000000) : Answers Tryd.prog Γm 80 [.v (.string s)] [] (.hs 0 0 (rns s 0).length) [] [r1B (rns s 0)] :=
  answers (fn := Tryd.f80) (c := bodyOf Tryd.f80) (ntmps := 16) (results := [.tmp 2]) [] (fun _ => LSpec.at [3, 7] [(0, 21)] (SRn s ⟨0, []⟩) (ORn s)) false Tryd.func80 (by kernel_rfl) (by kernel_rfl) (by kernel_rfl) (by kernel_rfl) (by simp) rfl (oneLoop (b := lpRn) (by kernel_rfl) (loopRn hs ⟨0, []⟩ ⟨Nat.zero_le _, rfl⟩)) <| Meets.of (runRn s) <| by
    repeat' (first | refine wC (by first | omega | (simp only [cl_iff, AV.le_refl, AV.le_any, OLe_refl, LeH_cons, LeH_nil, LeL_cons, LeL_nil, and_true, true_and, Bool.and_eq_true, Bool.or_eq_true, decide_eq_true_eq, notT, Bool.cond_true_left, Bool.cond_false_right, Nat.blt_eq, Nat.zero_add, cond_true, cond_false, Int.toNat_natCast, Bool.not_true, Bool.not_false, Bool.false_eq_true, not_true_eq_false, not_false_eq_true, or_false, false_or, or_true, true_or, and_false, false_and, condIT]; first | done | omega)) ?_ | refine wT (by first | omega | (simp only [cl_iff, AV.le_refl, AV.le_any, OLe_refl, LeH_cons, LeH_nil, LeL_cons, LeL_nil, and_true, true_and, Bool.and_eq_true, Bool.or_eq_true, decide_eq_true_eq, notT, Bool.cond_true_left, Bool.cond_false_right, Nat.blt_eq, Nat.zero_add, cond_true, cond_false, Int.toNat_natCast, Bool.not_true, Bool.not_false, Bool.false_eq_true, not_true_eq_false, not_false_eq_true, or_false, false_or, or_true, true_or, and_false, false_and, condIT]; first | done | omega)) ?_ | refine wF (by intro _h; first | omega | (simp only [cl_iff, AV.le_refl, AV.le_any, OLe_refl, LeH_cons, LeH_nil, LeL_cons, LeL_nil, and_true, true_and, Bool.and_eq_true, Bool.or_eq_true, decide_eq_true_eq, notT, Bool.cond_true_left, Bool.cond_false_right, Nat.blt_eq, Nat.zero_add, cond_true, cond_false, Int.toNat_natCast, Bool.not_true, Bool.not_false, Bool.false_eq_true, not_true_eq_false, not_false_eq_true, or_false, false_or, or_true, true_or, and_false, false_and, condIT] at _h; first | done | omega)) ?_ | (refine wS ?_ ?_ <;> intro _h <;> simp only [cl_iff, AV.le_refl, AV.le_any, OLe_refl, LeH_cons, LeH_nil, LeL_cons, LeL_nil, and_true, true_and, Bool.and_eq_true, Bool.or_eq_true, decide_eq_true_eq, notT, Bool.cond_true_left, Bool.cond_false_right, Nat.blt_eq, Nat.zero_add, cond_true, cond_false, Int.toNat_natCast, Bool.not_true, Bool.not_false, Bool.false_eq_true, not_true_eq_false, not_false_eq_true, or_false, false_or, or_true, true_or, and_false, false_and, condIT] at _h))
    all_goals simp only [or_true, true_or, false_or, or_false, and_false, false_and, cond_true, cond_false, Bool.not_true, Bool.not_false, Bool.false_eq_true, Bool.true_eq_false, not_true_eq_false, not_false_eq_true, false_implies, true_implies, implies_true, Nat.blt_eq, owesN, owesX, owesR, notT, sat_brT, sat_brF, sat_chkT, cl_iff, cl_false, AV.le_refl, AV.le_any, OLe_refl, OLe_none, sat_brN, Tree.sat_chk, Tree.sat_leaf, Tree.sat_fail, Nat.zero_add, Nat.sub_zero, Int.toNat_natCast, LeH_cons, LeH_nil, LeL_cons, LeL_nil, and_true, true_and, Bool.and_eq_true, Bool.or_eq_true, decide_eq_true_eq, decide_eq_false_iff_not, Bool.cond_true_left, Bool.cond_false_right, List.cons_append, List.nil_append, List.map_cons, List.map_nil]
    repeat' (first | apply And.intro | intro _hc)
    all_goals first | exact OLe.arr rfl (fun e he => absurd he (Nat.not_lt_zero e)) (fun _ => rfl) | exact AV.le_refl _ | exact AV.le_any _ | exact OLe.refl _ | exact OLe.none _ | exact LeH.refl _ | exact LeL.refl _ | exact AV.le.bs _ | exact AV.le.sb _ | omega | contradiction
noncomputable def kRn : CT Tryd.prog Γm := CT.oS 80 Tryd.func80 (by kernel_rfl) (by kernel_rfl) (fun s => s.size ≤ 100000000) (fun s => .hs 0 0 (rns s 0).length) (fun s => [r1B (rns s 0)]) (fun s h => ansRn h)
/-! ### Less -/
/-- the program's loop: what it returns, if it does -/
def lxP : List Nat → List Nat → Option Bool
  | x :: xs, y :: ys => if x = y then lxP xs ys else some (decide (x < y))
  | [], _ => none
  | _ :: _, [] => some false
/-- the document's -/
def lxR : List Nat → List Nat → Option Bool
  | x :: xs, y :: ys => if x = y then lxR xs ys else some (decide (x < y))
  | _, _ => none
def bls (a b : ByteArray) : Bool := Op.bytesLess a.data.toList b.data.toList
/-- does it stand ahead? -/
def lessB (a b : ByteArray) : Bool := match lxR (rns a 0) (rns b 0) with
  | some r => r
  | none => if (rns a 0).length = (rns b 0).length then bls a b else decide ((rns a 0).length < (rns b 0).length)
noncomputable abbrev lpLs : Code := loopOf (bodyOf Tryd.f26) 0
abbrev lvLs : List Nat := [0, 1, 5, 6, 13, 14, 15, 4]
def SLs (a b : ByteArray) (la lb : List Nat) (i : Nat) : List AV × Heap := ([.v (.string a), .v (.string b), .hs 0 0 la.length, .hs 1 0 lb.length, .hs 0 0 la.length, .v (.int .i64 (la.length : Int)), .v (.int .i64 (i : Int)), .any], [some (r1B la), some (r1B lb)])
def retLs (r : Bool) : Out := ⟨.ret, [.any, .any, .any, .any, .any, .any, .any, .sb r], [none, none]⟩
def endLs (a b : ByteArray) (la lb : List Nat) : Out := ⟨.exit 0, [.v (.string a), .v (.string b), .hs 0 0 la.length, .hs 1 0 lb.length, .any, .any, .any, .any], [some (r1B la), some (r1B lb)]⟩
def OLs (a b : ByteArray) (la lb : List Nat) : Out := match lxP la lb with
  | some r => retLs r
  | none => endLs a b la lb
theorem rLs (a b : ByteArray) (la lb : List Nat) (i : Nat) : roundE (P := Tryd.prog) (Γ := Γm) [] Lno false 0 0 lpLs lvLs [] 58 (SLs a b la lb i).1 (SLs a b la lb i).2 =
  Tree.br (decide ((↑i : Int) < (↑(List.length la) : Int))) (Tree.chk (decide ((0 : Int) ≤ (↑i : Int)) && decide ((↑i : Int) < (↑(List.length la) : Int))) (Tree.chk (bif decide ((↑i : Int) =
    (↑(List.length lb) : Int)) then true else decide ((0 : Int) ≤ (↑i : Int)) && decide ((↑i : Int) < (↑(List.length lb) : Int))) (Tree.br (bif decide ((↑i : Int) = (↑(List.length lb) :
    Int)) then true else decide ((↑(List.getD lb ((0 : Nat) + i) default) : Int) < (↑(List.getD la ((0 : Nat) + i) default) : Int))) (Tree.leaf (Out.mk AEx.ret [AV.v (Value.string a), AV.v
    (Value.string b), AV.hs (0 : Nat) (0 : Nat) (List.length la), AV.hs (1 : Nat) (0 : Nat) (List.length lb), AV.hs (0 : Nat) (0 : Nat) (List.length la), AV.v (Value.int IntKind.i64
    (↑(List.length la) : Int)), AV.v (Value.int IntKind.i64 (↑i : Int)), AV.v (Value.bool false)] [some (Blk.arr (1 : Nat) (List.length la) (lsF R1.c la)), some (Blk.arr (1 : Nat)
    (List.length lb) (lsF R1.c lb))])) (Tree.chk (decide ((0 : Int) ≤ (↑i : Int)) && decide ((↑i : Int) < (↑(List.length lb) : Int))) (Tree.br (decide ((↑(List.getD la ((0 : Nat) + i)
    default) : Int) < (↑(List.getD lb ((0 : Nat) + i) default) : Int))) (Tree.leaf (Out.mk AEx.ret [AV.v (Value.string a), AV.v (Value.string b), AV.hs (0 : Nat) (0 : Nat) (List.length la),
    AV.hs (1 : Nat) (0 : Nat) (List.length lb), AV.hs (0 : Nat) (0 : Nat) (List.length la), AV.v (Value.int IntKind.i64 (↑(List.length la) : Int)), AV.v (Value.int IntKind.i64 (↑i : Int)),
    AV.v (Value.bool true)] [some (Blk.arr (1 : Nat) (List.length la) (lsF R1.c la)), some (Blk.arr (1 : Nat) (List.length lb) (lsF R1.c lb))])) (Tree.leaf (Out.mk AEx.normal [AV.v
    (Value.string a), AV.v (Value.string b), AV.hs (0 : Nat) (0 : Nat) (List.length la), AV.hs (1 : Nat) (0 : Nat) (List.length lb), AV.hs (0 : Nat) (0 : Nat) (List.length la), AV.v
    (Value.int IntKind.i64 (↑(List.length la) : Int)), AV.v (Value.int IntKind.i64 (IntKind.wrap IntKind.i64 ((↑i : Int) + (1 : Int)))), AV.any] [some (Blk.arr (1 : Nat) (List.length la)
    (lsF R1.c la)), some (Blk.arr (1 : Nat) (List.length lb) (lsF R1.c lb))]))))))) (Tree.leaf (Out.mk (AEx.exit (0 : Nat)) [AV.v (Value.string a), AV.v (Value.string b), AV.hs (0 : Nat) (0
    : Nat) (List.length la), AV.hs (1 : Nat) (0 : Nat) (List.length lb), AV.hs (0 : Nat) (0 : Nat) (List.length la), AV.v (Value.int IntKind.i64 (↑(List.length la) : Int)), AV.v (Value.int
    IntKind.i64 (↑i : Int)), AV.any] [some (Blk.arr (1 : Nat) (List.length la) (lsF R1.c la)), some (Blk.arr (1 : Nat) (List.length lb) (lsF R1.c lb))])) := by kernel_rfl
theorem drop_at {l : List Nat} {i : Nat} (h : i < l.length) : l.drop i = l.getD i default :: l.drop (i + 1) := by
  rw [List.drop_eq_getElem_cons h, getD_get h]
theorem loopLs {a b : ByteArray} {la lb : List Nat} (hs : la.length ≤ 1000000000) : ∀ i : Nat, (i ≤ la.length ∧ i ≤ lb.length ∧ lxP (la.drop i) (lb.drop i) = lxP la lb) → LoopOK Tryd.prog Γm 0 58 lpLs (LSpec.at lvLs [] (SLs a b la lb i) (OLs a b la lb)) := by
  refine loop_at (S := SLs a b la lb) (O := fun _ => OLs a b la lb) (k := 0) (fun i => la.length - i) fun i hp => .of (noLoops (by kernel_rfl)) (rLs a b la lb i) ?_
  obtain ⟨h1, h2, h3⟩ := hp
  rcases Nat.lt_or_ge i la.length with hi | hi
  · rw [drop_at hi] at h3
    rcases Nat.lt_or_ge i lb.length with hj | hj
    · rw [drop_at hj, lxP] at h3
      by_cases he : la.getD i default = lb.getD i default
      · rw [if_pos he] at h3
        repeat' (first | refine wC (by first | omega | (simp only [cl_iff, AV.le_refl, AV.le_any, OLe_refl, LeH_cons, LeH_nil, LeL_cons, LeL_nil, and_true, true_and, Bool.and_eq_true, Bool.or_eq_true, decide_eq_true_eq, notT, Bool.cond_true_left, Bool.cond_false_right, Nat.blt_eq, Nat.zero_add, cond_true, cond_false, Int.toNat_natCast, Bool.not_true, Bool.not_false, Bool.false_eq_true, not_true_eq_false, not_false_eq_true, or_false, false_or, or_true, true_or, and_false, false_and, condIT, wrapUpN (show i ≤ 10000000000 by omega)]; first | done | omega)) ?_ | refine wT (by first | omega | (simp only [cl_iff, AV.le_refl, AV.le_any, OLe_refl, LeH_cons, LeH_nil, LeL_cons, LeL_nil, and_true, true_and, Bool.and_eq_true, Bool.or_eq_true, decide_eq_true_eq, notT, Bool.cond_true_left, Bool.cond_false_right, Nat.blt_eq, Nat.zero_add, cond_true, cond_false, Int.toNat_natCast, Bool.not_true, Bool.not_false, Bool.false_eq_true, not_true_eq_false, not_false_eq_true, or_false, false_or, or_true, true_or, and_false, false_and, condIT, wrapUpN (show i ≤ 10000000000 by omega)]; first | done | omega)) ?_ | refine wF (by intro _h; first | omega | (simp only [cl_iff, AV.le_refl, AV.le_any, OLe_refl, LeH_cons, LeH_nil, LeL_cons, LeL_nil, and_true, true_and, Bool.and_eq_true, Bool.or_eq_true, decide_eq_true_eq, notT, Bool.cond_true_left, Bool.cond_false_right, Nat.blt_eq, Nat.zero_add, cond_true, cond_false, Int.toNat_natCast, Bool.not_true, Bool.not_false, Bool.false_eq_true, not_true_eq_false, not_false_eq_true, or_false, false_or, or_true, true_or, and_false, false_and, condIT, wrapUpN (show i ≤ 10000000000 by omega)] at _h; first | done | omega)) ?_ | (refine wS ?_ ?_ <;> intro _h <;> simp only [cl_iff, AV.le_refl, AV.le_any, OLe_refl, LeH_cons, LeH_nil, LeL_cons, LeL_nil, and_true, true_and, Bool.and_eq_true, Bool.or_eq_true, decide_eq_true_eq, notT, Bool.cond_true_left, Bool.cond_false_right, Nat.blt_eq, Nat.zero_add, cond_true, cond_false, Int.toNat_natCast, Bool.not_true, Bool.not_false, Bool.false_eq_true, not_true_eq_false, not_false_eq_true, or_false, false_or, or_true, true_or, and_false, false_and, condIT, wrapUpN (show i ≤ 10000000000 by omega)] at _h))
        all_goals simp only [or_true, true_or, false_or, or_false, and_false, false_and, cond_true, cond_false, Bool.not_true, Bool.not_false, Bool.false_eq_true, Bool.true_eq_false, not_true_eq_false, not_false_eq_true, false_implies, true_implies, implies_true, Nat.blt_eq, owesN, owesX, owesR, notT, sat_brT, sat_brF, sat_chkT, cl_iff, cl_false, AV.le_refl, AV.le_any, OLe_refl, OLe_none, sat_brN, Tree.sat_chk, Tree.sat_leaf, Tree.sat_fail, Nat.zero_add, Nat.sub_zero, Int.toNat_natCast, LeH_cons, LeH_nil, LeL_cons, LeL_nil, and_true, true_and, Bool.and_eq_true, Bool.or_eq_true, decide_eq_true_eq, decide_eq_false_iff_not, Bool.cond_true_left, Bool.cond_false_right, List.cons_append, List.nil_append, List.map_cons, List.map_nil, wrapUpN (show i ≤ 10000000000 by omega)]
        repeat' (first | apply And.intro | intro _hc)
        all_goals first | exact ⟨i + 1, LeL.refl _, LeH.refl _, ⟨hi, hj, h3⟩, by omega⟩ | exact AV.le_refl _ | exact AV.le_any _ | exact OLe.refl _ | exact OLe.none _ | exact LeH.refl _ | exact LeL.refl _ | exact AV.le.bs _ | exact AV.le.sb _ | omega | contradiction
      · rw [if_neg he] at h3
        unfold OLs
        rw [← h3]
        by_cases hl : la.getD i default < lb.getD i default
        · repeat' (first | refine wC (by first | omega | (simp only [cl_iff, AV.le_refl, AV.le_any, OLe_refl, LeH_cons, LeH_nil, LeL_cons, LeL_nil, and_true, true_and, Bool.and_eq_true, Bool.or_eq_true, decide_eq_true_eq, notT, Bool.cond_true_left, Bool.cond_false_right, Nat.blt_eq, Nat.zero_add, cond_true, cond_false, Int.toNat_natCast, Bool.not_true, Bool.not_false, Bool.false_eq_true, not_true_eq_false, not_false_eq_true, or_false, false_or, or_true, true_or, and_false, false_and, condIT, decide_eq_true hl]; first | done | omega)) ?_ | refine wT (by first | omega | (simp only [cl_iff, AV.le_refl, AV.le_any, OLe_refl, LeH_cons, LeH_nil, LeL_cons, LeL_nil, and_true, true_and, Bool.and_eq_true, Bool.or_eq_true, decide_eq_true_eq, notT, Bool.cond_true_left, Bool.cond_false_right, Nat.blt_eq, Nat.zero_add, cond_true, cond_false, Int.toNat_natCast, Bool.not_true, Bool.not_false, Bool.false_eq_true, not_true_eq_false, not_false_eq_true, or_false, false_or, or_true, true_or, and_false, false_and, condIT, decide_eq_true hl]; first | done | omega)) ?_ | refine wF (by intro _h; first | omega | (simp only [cl_iff, AV.le_refl, AV.le_any, OLe_refl, LeH_cons, LeH_nil, LeL_cons, LeL_nil, and_true, true_and, Bool.and_eq_true, Bool.or_eq_true, decide_eq_true_eq, notT, Bool.cond_true_left, Bool.cond_false_right, Nat.blt_eq, Nat.zero_add, cond_true, cond_false, Int.toNat_natCast, Bool.not_true, Bool.not_false, Bool.false_eq_true, not_true_eq_false, not_false_eq_true, or_false, false_or, or_true, true_or, and_false, false_and, condIT, decide_eq_true hl] at _h; first | done | omega)) ?_ | (refine wS ?_ ?_ <;> intro _h <;> simp only [cl_iff, AV.le_refl, AV.le_any, OLe_refl, LeH_cons, LeH_nil, LeL_cons, LeL_nil, and_true, true_and, Bool.and_eq_true, Bool.or_eq_true, decide_eq_true_eq, notT, Bool.cond_true_left, Bool.cond_false_right, Nat.blt_eq, Nat.zero_add, cond_true, cond_false, Int.toNat_natCast, Bool.not_true, Bool.not_false, Bool.false_eq_true, not_true_eq_false, not_false_eq_true, or_false, false_or, or_true, true_or, and_false, false_and, condIT, decide_eq_true hl] at _h))
          all_goals simp only [or_true, true_or, false_or, or_false, and_false, false_and, cond_true, cond_false, Bool.not_true, Bool.not_false, Bool.false_eq_true, Bool.true_eq_false, not_true_eq_false, not_false_eq_true, false_implies, true_implies, implies_true, Nat.blt_eq, owesN, owesX, owesR, notT, sat_brT, sat_brF, sat_chkT, cl_iff, cl_false, AV.le_refl, AV.le_any, OLe_refl, OLe_none, sat_brN, Tree.sat_chk, Tree.sat_leaf, Tree.sat_fail, Nat.zero_add, Nat.sub_zero, Int.toNat_natCast, LeH_cons, LeH_nil, LeL_cons, LeL_nil, and_true, true_and, Bool.and_eq_true, Bool.or_eq_true, decide_eq_true_eq, decide_eq_false_iff_not, Bool.cond_true_left, Bool.cond_false_right, List.cons_append, List.nil_append, List.map_cons, List.map_nil, decide_eq_true hl]
          repeat' (first | apply And.intro | intro _hc)
          all_goals first | exact rfl | exact AV.le_refl _ | exact AV.le_any _ | exact OLe.refl _ | exact OLe.none _ | exact LeH.refl _ | exact LeL.refl _ | exact AV.le.bs _ | exact AV.le.sb _ | omega | contradiction
        · repeat' (first | refine wC (by first | omega | (simp only [cl_iff, AV.le_refl, AV.le_any, OLe_refl, LeH_cons, LeH_nil, LeL_cons, LeL_nil, and_true, true_and, Bool.and_eq_true, Bool.or_eq_true, decide_eq_true_eq, notT, Bool.cond_true_left, Bool.cond_false_right, Nat.blt_eq, Nat.zero_add, cond_true, cond_false, Int.toNat_natCast, Bool.not_true, Bool.not_false, Bool.false_eq_true, not_true_eq_false, not_false_eq_true, or_false, false_or, or_true, true_or, and_false, false_and, condIT, decide_eq_false hl]; first | done | omega)) ?_ | refine wT (by first | omega | (simp only [cl_iff, AV.le_refl, AV.le_any, OLe_refl, LeH_cons, LeH_nil, LeL_cons, LeL_nil, and_true, true_and, Bool.and_eq_true, Bool.or_eq_true, decide_eq_true_eq, notT, Bool.cond_true_left, Bool.cond_false_right, Nat.blt_eq, Nat.zero_add, cond_true, cond_false, Int.toNat_natCast, Bool.not_true, Bool.not_false, Bool.false_eq_true, not_true_eq_false, not_false_eq_true, or_false, false_or, or_true, true_or, and_false, false_and, condIT, decide_eq_false hl]; first | done | omega)) ?_ | refine wF (by intro _h; first | omega | (simp only [cl_iff, AV.le_refl, AV.le_any, OLe_refl, LeH_cons, LeH_nil, LeL_cons, LeL_nil, and_true, true_and, Bool.and_eq_true, Bool.or_eq_true, decide_eq_true_eq, notT, Bool.cond_true_left, Bool.cond_false_right, Nat.blt_eq, Nat.zero_add, cond_true, cond_false, Int.toNat_natCast, Bool.not_true, Bool.not_false, Bool.false_eq_true, not_true_eq_false, not_false_eq_true, or_false, false_or, or_true, true_or, and_false, false_and, condIT, decide_eq_false hl] at _h; first | done | omega)) ?_ | (refine wS ?_ ?_ <;> intro _h <;> simp only [cl_iff, AV.le_refl, AV.le_any, OLe_refl, LeH_cons, LeH_nil, LeL_cons, LeL_nil, and_true, true_and, Bool.and_eq_true, Bool.or_eq_true, decide_eq_true_eq, notT, Bool.cond_true_left, Bool.cond_false_right, Nat.blt_eq, Nat.zero_add, cond_true, cond_false, Int.toNat_natCast, Bool.not_true, Bool.not_false, Bool.false_eq_true, not_true_eq_false, not_false_eq_true, or_false, false_or, or_true, true_or, and_false, false_and, condIT, decide_eq_false hl] at _h))
          all_goals simp only [or_true, true_or, false_or, or_false, and_false, false_and, cond_true, cond_false, Bool.not_true, Bool.not_false, Bool.false_eq_true, Bool.true_eq_false, not_true_eq_false, not_false_eq_true, false_implies, true_implies, implies_true, Nat.blt_eq, owesN, owesX, owesR, notT, sat_brT, sat_brF, sat_chkT, cl_iff, cl_false, AV.le_refl, AV.le_any, OLe_refl, OLe_none, sat_brN, Tree.sat_chk, Tree.sat_leaf, Tree.sat_fail, Nat.zero_add, Nat.sub_zero, Int.toNat_natCast, LeH_cons, LeH_nil, LeL_cons, LeL_nil, and_true, true_and, Bool.and_eq_true, Bool.or_eq_true, decide_eq_true_eq, decide_eq_false_iff_not, Bool.cond_true_left, Bool.cond_false_right, List.cons_append, List.nil_append, List.map_cons, List.map_nil, decide_eq_false hl]
          repeat' (first | apply And.intro | intro _hc)
          all_goals first | exact rfl | exact AV.le_refl _ | exact AV.le_any _ | exact OLe.refl _ | exact OLe.none _ | exact LeH.refl _ | exact LeL.refl _ | exact AV.le.bs _ | exact AV.le.sb _ | omega | contradiction
    · rw [List.drop_eq_nil_of_le hj, lxP] at h3
      unfold OLs
      rw [← h3]
      repeat' (first | refine wC (by first | omega | (simp only [cl_iff, AV.le_refl, AV.le_any, OLe_refl, LeH_cons, LeH_nil, LeL_cons, LeL_nil, and_true, true_and, Bool.and_eq_true, Bool.or_eq_true, decide_eq_true_eq, notT, Bool.cond_true_left, Bool.cond_false_right, Nat.blt_eq, Nat.zero_add, cond_true, cond_false, Int.toNat_natCast, Bool.not_true, Bool.not_false, Bool.false_eq_true, not_true_eq_false, not_false_eq_true, or_false, false_or, or_true, true_or, and_false, false_and, condIT]; first | done | omega)) ?_ | refine wT (by first | omega | (simp only [cl_iff, AV.le_refl, AV.le_any, OLe_refl, LeH_cons, LeH_nil, LeL_cons, LeL_nil, and_true, true_and, Bool.and_eq_true, Bool.or_eq_true, decide_eq_true_eq, notT, Bool.cond_true_left, Bool.cond_false_right, Nat.blt_eq, Nat.zero_add, cond_true, cond_false, Int.toNat_natCast, Bool.not_true, Bool.not_false, Bool.false_eq_true, not_true_eq_false, not_false_eq_true, or_false, false_or, or_true, true_or, and_false, false_and, condIT]; first | done | omega)) ?_ | refine wF (by intro _h; first | omega | (simp only [cl_iff, AV.le_refl, AV.le_any, OLe_refl, LeH_cons, LeH_nil, LeL_cons, LeL_nil, and_true, true_and, Bool.and_eq_true, Bool.or_eq_true, decide_eq_true_eq, notT, Bool.cond_true_left, Bool.cond_false_right, Nat.blt_eq, Nat.zero_add, cond_true, cond_false, Int.toNat_natCast, Bool.not_true, Bool.not_false, Bool.false_eq_true, not_true_eq_false, not_false_eq_true, or_false, false_or, or_true, true_or, and_false, false_and, condIT] at _h; first | done | omega)) ?_ | (refine wS ?_ ?_ <;> intro _h <;> simp only [cl_iff, AV.le_refl, AV.le_any, OLe_refl, LeH_cons, LeH_nil, LeL_cons, LeL_nil, and_true, true_and, Bool.and_eq_true, Bool.or_eq_true, decide_eq_true_eq, notT, Bool.cond_true_left, Bool.cond_false_right, Nat.blt_eq, Nat.zero_add, cond_true, cond_false, Int.toNat_natCast, Bool.not_true, Bool.not_false, Bool.false_eq_true, not_true_eq_false, not_false_eq_true, or_false, false_or, or_true, true_or, and_false, false_and, condIT] at _h))
      all_goals simp only [or_true, true_or, false_or, or_false, and_false, false_and, cond_true, cond_false, Bool.not_true, Bool.not_false, Bool.false_eq_true, Bool.true_eq_false, not_true_eq_false, not_false_eq_true, false_implies, true_implies, implies_true, Nat.blt_eq, owesN, owesX, owesR, notT, sat_brT, sat_brF, sat_chkT, cl_iff, cl_false, AV.le_refl, AV.le_any, OLe_refl, OLe_none, sat_brN, Tree.sat_chk, Tree.sat_leaf, Tree.sat_fail, Nat.zero_add, Nat.sub_zero, Int.toNat_natCast, LeH_cons, LeH_nil, LeL_cons, LeL_nil, and_true, true_and, Bool.and_eq_true, Bool.or_eq_true, decide_eq_true_eq, decide_eq_false_iff_not, Bool.cond_true_left, Bool.cond_false_right, List.cons_append, List.nil_append, List.map_cons, List.map_nil]
      repeat' (first | apply And.intro | intro _hc)
      all_goals first | exact rfl | exact AV.le_refl _ | exact AV.le_any _ | exact OLe.refl _ | exact OLe.none _ | exact LeH.refl _ | exact LeL.refl _ | exact AV.le.bs _ | exact AV.le.sb _ | omega | contradiction
  · rw [List.drop_eq_nil_of_le hi] at h3
    have h3 : lxP la lb = none := h3.symm.trans (by rw [lxP])
    unfold OLs
    rw [h3]
    repeat' (first | refine wC (by first | omega | (simp only [cl_iff, AV.le_refl, AV.le_any, OLe_refl, LeH_cons, LeH_nil, LeL_cons, LeL_nil, and_true, true_and, Bool.and_eq_true, Bool.or_eq_true, decide_eq_true_eq, notT, Bool.cond_true_left, Bool.cond_false_right, Nat.blt_eq, Nat.zero_add, cond_true, cond_false, Int.toNat_natCast, Bool.not_true, Bool.not_false, Bool.false_eq_true, not_true_eq_false, not_false_eq_true, or_false, false_or, or_true, true_or, and_false, false_and, condIT]; first | done | omega)) ?_ | refine wT (by first | omega | (simp only [cl_iff, AV.le_refl, AV.le_any, OLe_refl, LeH_cons, LeH_nil, LeL_cons, LeL_nil, and_true, true_and, Bool.and_eq_true, Bool.or_eq_true, decide_eq_true_eq, notT, Bool.cond_true_left, Bool.cond_false_right, Nat.blt_eq, Nat.zero_add, cond_true, cond_false, Int.toNat_natCast, Bool.not_true, Bool.not_false, Bool.false_eq_true, not_true_eq_false, not_false_eq_true, or_false, false_or, or_true, true_or, and_false, false_and, condIT]; first | done | omega)) ?_ | refine wF (by intro _h; first | omega | (simp only [cl_iff, AV.le_refl, AV.le_any, OLe_refl, LeH_cons, LeH_nil, LeL_cons, LeL_nil, and_true, true_and, Bool.and_eq_true, Bool.or_eq_true, decide_eq_true_eq, notT, Bool.cond_true_left, Bool.cond_false_right, Nat.blt_eq, Nat.zero_add, cond_true, cond_false, Int.toNat_natCast, Bool.not_true, Bool.not_false, Bool.false_eq_true, not_true_eq_false, not_false_eq_true, or_false, false_or, or_true, true_or, and_false, false_and, condIT] at _h; first | done | omega)) ?_ | (refine wS ?_ ?_ <;> intro _h <;> simp only [cl_iff, AV.le_refl, AV.le_any, OLe_refl, LeH_cons, LeH_nil, LeL_cons, LeL_nil, and_true, true_and, Bool.and_eq_true, Bool.or_eq_true, decide_eq_true_eq, notT, Bool.cond_true_left, Bool.cond_false_right, Nat.blt_eq, Nat.zero_add, cond_true, cond_false, Int.toNat_natCast, Bool.not_true, Bool.not_false, Bool.false_eq_true, not_true_eq_false, not_false_eq_true, or_false, false_or, or_true, true_or, and_false, false_and, condIT] at _h))
    all_goals simp only [or_true, true_or, false_or, or_false, and_false, false_and, cond_true, cond_false, Bool.not_true, Bool.not_false, Bool.false_eq_true, Bool.true_eq_false, not_true_eq_false, not_false_eq_true, false_implies, true_implies, implies_true, Nat.blt_eq, owesN, owesX, owesR, notT, sat_brT, sat_brF, sat_chkT, cl_iff, cl_false, AV.le_refl, AV.le_any, OLe_refl, OLe_none, sat_brN, Tree.sat_chk, Tree.sat_leaf, Tree.sat_fail, Nat.zero_add, Nat.sub_zero, Int.toNat_natCast, LeH_cons, LeH_nil, LeL_cons, LeL_nil, and_true, true_and, Bool.and_eq_true, Bool.or_eq_true, decide_eq_true_eq, decide_eq_false_iff_not, Bool.cond_true_left, Bool.cond_false_right, List.cons_append, List.nil_append, List.map_cons, List.map_nil]
    repeat' (first | apply And.intro | intro _hc)
    all_goals first | exact rfl | exact AV.le_refl _ | exact AV.le_any _ | exact OLe.refl _ | exact OLe.none _ | exact LeH.refl _ | exact LeL.refl _ | exact AV.le.bs _ | exact AV.le.sb _ | omega | contradiction
theorem runLsR (a b : ByteArray) (r : Bool) : bodyE (P := Tryd.prog) (Γ := Γm) [kRn] (fun _ => LSpec.at lvLs [] (SLs a b (rns a 0) (rns b 0) 0) (retLs r)) false 58 [.tmp 4] (bodyOf Tryd.f26) [.v (.string a), .v (.string b)] [] =
  Tree.chk (cl (ByteArray.size a ≤ (100000000 : Nat) ∧ LeL [AV.v (Value.string a)] [AV.v (Value.string a)] ∧ LeH [] [])) (Tree.chk (cl (ByteArray.size b ≤ (100000000 : Nat) ∧ LeL [AV.v
    (Value.string b)] [AV.v (Value.string b)] ∧ LeH [] [])) (Tree.chk (cl (LeL [AV.v (Value.string a), AV.v (Value.string b), AV.hs (0 : Nat) (0 : Nat) (List.length (rns a (0 : Nat))), AV.hs
    (1 : Nat) (0 : Nat) (List.length (rns b (0 : Nat))), AV.hs (0 : Nat) (0 : Nat) (List.length (rns a (0 : Nat))), AV.v (Value.int IntKind.i64 (↑(List.length (rns a (0 : Nat))) : Int)),
    AV.v (Value.int IntKind.i64 (0 : Int)), AV.v (Value.bool false)] [AV.v (Value.string a), AV.v (Value.string b), AV.hs (0 : Nat) (0 : Nat) (List.length (rns a (0 : Nat))), AV.hs (1 : Nat)
    (0 : Nat) (List.length (rns b (0 : Nat))), AV.hs (0 : Nat) (0 : Nat) (List.length (rns a (0 : Nat))), AV.v (Value.int IntKind.i64 (↑(List.length (rns a (0 : Nat))) : Int)), AV.v
    (Value.int IntKind.i64 (↑(0 : Nat) : Int)), AV.any] ∧ LeH [some (Blk.arr (1 : Nat) (List.length (rns a (0 : Nat))) (lsF R1.c (rns a (0 : Nat)))), some (Blk.arr (1 : Nat) (List.length
    (rns b (0 : Nat))) (lsF R1.c (rns b (0 : Nat))))] [some (Blk.arr (1 : Nat) (List.length (rns a (0 : Nat))) (lsF R1.c (rns a (0 : Nat)))), some (Blk.arr (1 : Nat) (List.length (rns b (0 :
    Nat))) (lsF R1.c (rns b (0 : Nat))))])) (Tree.leaf (Ans.mk (AV.sb r) [])))) := by kernel_rfl
theorem runLsE (a b : ByteArray) : bodyE (P := Tryd.prog) (Γ := Γm) [kRn] (fun _ => LSpec.at lvLs [] (SLs a b (rns a 0) (rns b 0) 0) (endLs a b (rns a 0) (rns b 0))) false 58 [.tmp 4] (bodyOf Tryd.f26) [.v (.string a), .v (.string b)] [] =
  Tree.chk (cl (ByteArray.size a ≤ (100000000 : Nat) ∧ LeL [AV.v (Value.string a)] [AV.v (Value.string a)] ∧ LeH [] [])) (Tree.chk (cl (ByteArray.size b ≤ (100000000 : Nat) ∧ LeL [AV.v
    (Value.string b)] [AV.v (Value.string b)] ∧ LeH [] [])) (Tree.chk (cl (LeL [AV.v (Value.string a), AV.v (Value.string b), AV.hs (0 : Nat) (0 : Nat) (List.length (rns a (0 : Nat))), AV.hs
    (1 : Nat) (0 : Nat) (List.length (rns b (0 : Nat))), AV.hs (0 : Nat) (0 : Nat) (List.length (rns a (0 : Nat))), AV.v (Value.int IntKind.i64 (↑(List.length (rns a (0 : Nat))) : Int)),
    AV.v (Value.int IntKind.i64 (0 : Int)), AV.v (Value.bool false)] [AV.v (Value.string a), AV.v (Value.string b), AV.hs (0 : Nat) (0 : Nat) (List.length (rns a (0 : Nat))), AV.hs (1 : Nat)
    (0 : Nat) (List.length (rns b (0 : Nat))), AV.hs (0 : Nat) (0 : Nat) (List.length (rns a (0 : Nat))), AV.v (Value.int IntKind.i64 (↑(List.length (rns a (0 : Nat))) : Int)), AV.v
    (Value.int IntKind.i64 (↑(0 : Nat) : Int)), AV.any] ∧ LeH [some (Blk.arr (1 : Nat) (List.length (rns a (0 : Nat))) (lsF R1.c (rns a (0 : Nat)))), some (Blk.arr (1 : Nat) (List.length
    (rns b (0 : Nat))) (lsF R1.c (rns b (0 : Nat))))] [some (Blk.arr (1 : Nat) (List.length (rns a (0 : Nat))) (lsF R1.c (rns a (0 : Nat)))), some (Blk.arr (1 : Nat) (List.length (rns b (0 :
    Nat))) (lsF R1.c (rns b (0 : Nat))))])) (Tree.leaf (Ans.mk (AV.sb (bif decide ((↑(List.length (rns a (0 : Nat))) : Int) < (↑(List.length (rns b (0 : Nat))) : Int)) then true else bif
    Op.bytesLess a.data.toList b.data.toList then decide ((↑(List.length (rns a (0 : Nat))) : Int) = (↑(List.length (rns b (0 : Nat))) : Int)) else false)) [])))) := by kernel_rfl
/-- both ways tell the same -/
theorem lx_both : ∀ la lb : List Nat, (lxP la lb = none ∧ lxR la lb = none ∧ la.length ≤ lb.length) ∨ (lxP la lb = some false ∧ lxR la lb = none ∧ lb.length < la.length) ∨ ∃ r, lxP la lb = some r ∧ lxR la lb = some r
  | [], lb => .inl ⟨by rw [lxP], by rw [lxR]; simp, Nat.zero_le _⟩
  | x :: xs, [] => .inr (.inl ⟨by rw [lxP], by rw [lxR]; simp, by simp⟩)
  | x :: xs, y :: ys => by
    rw [lxP, lxR]
    by_cases h : x = y
    · rw [if_pos h, if_pos h]
      rcases lx_both xs ys with ⟨h1, h2, h3⟩ | ⟨h1, h2, h3⟩ | h1
      · exact .inl ⟨h1, h2, by simp; omega⟩
      · exact .inr (.inl ⟨h1, h2, by simp; omega⟩)
      · exact .inr (.inr h1)
    · rw [if_neg h, if_neg h]
      exact .inr (.inr ⟨_, rfl, rfl⟩)
theorem ansLs {a b : ByteArray} (ha : a.size ≤ 100000000) (hb : b.size ≤ 100000000) : Answers Tryd.prog Γm 26 [.v (.string a), .v (.string b)] [] (.sb (lessB a b)) [] [] := by
  have hl1 : (rns a 0).length ≤ a.size - 0 := rns_len
  have hl := loopLs (a := a) (b := b) (la := rns a 0) (lb := rns b 0) (by omega) 0 ⟨Nat.zero_le _, Nat.zero_le _, rfl⟩
  unfold OLs at hl
  unfold lessB
  rcases lx_both (rns a 0) (rns b 0) with ⟨h1, h2, h3⟩ | ⟨h1, h2, h3⟩ | ⟨r, h1, h2⟩
  · rw [h1] at hl
    rw [h2]
    dsimp only at hl ⊢
    refine answers (fn := Tryd.f26) (c := bodyOf Tryd.f26) (ntmps := 58) (results := [.tmp 4]) [kRn] (fun _ => LSpec.at lvLs [] (SLs a b (rns a 0) (rns b 0) 0) (endLs a b (rns a 0) (rns b 0))) false Tryd.func26 (by kernel_rfl) (by kernel_rfl) (by kernel_rfl) (by kernel_rfl) (by simp) rfl (oneLoop (b := lpLs) (by kernel_rfl) hl) <| Meets.of (runLsE a b) <| ?_
    by_cases he : (rns a 0).length = (rns b 0).length
    · rw [if_pos he, he]
      have hn : decide (((rns b 0).length : Int) < ((rns b 0).length : Int)) = false := decide_eq_false (by omega)
      repeat' (first | refine wC (by first | omega | (simp only [cl_iff, AV.le_refl, AV.le_any, OLe_refl, LeH_cons, LeH_nil, LeL_cons, LeL_nil, and_true, true_and, Bool.and_eq_true, Bool.or_eq_true, decide_eq_true_eq, notT, Bool.cond_true_left, Bool.cond_false_right, Nat.blt_eq, Nat.zero_add, cond_true, cond_false, Int.toNat_natCast, Bool.not_true, Bool.not_false, Bool.false_eq_true, not_true_eq_false, not_false_eq_true, or_false, false_or, or_true, true_or, and_false, false_and, condIT, he, hn]; first | done | omega)) ?_ | refine wT (by first | omega | (simp only [cl_iff, AV.le_refl, AV.le_any, OLe_refl, LeH_cons, LeH_nil, LeL_cons, LeL_nil, and_true, true_and, Bool.and_eq_true, Bool.or_eq_true, decide_eq_true_eq, notT, Bool.cond_true_left, Bool.cond_false_right, Nat.blt_eq, Nat.zero_add, cond_true, cond_false, Int.toNat_natCast, Bool.not_true, Bool.not_false, Bool.false_eq_true, not_true_eq_false, not_false_eq_true, or_false, false_or, or_true, true_or, and_false, false_and, condIT, he, hn]; first | done | omega)) ?_ | refine wF (by intro _h; first | omega | (simp only [cl_iff, AV.le_refl, AV.le_any, OLe_refl, LeH_cons, LeH_nil, LeL_cons, LeL_nil, and_true, true_and, Bool.and_eq_true, Bool.or_eq_true, decide_eq_true_eq, notT, Bool.cond_true_left, Bool.cond_false_right, Nat.blt_eq, Nat.zero_add, cond_true, cond_false, Int.toNat_natCast, Bool.not_true, Bool.not_false, Bool.false_eq_true, not_true_eq_false, not_false_eq_true, or_false, false_or, or_true, true_or, and_false, false_and, condIT, he, hn] at _h; first | done | omega)) ?_ | (refine wS ?_ ?_ <;> intro _h <;> simp only [cl_iff, AV.le_refl, AV.le_any, OLe_refl, LeH_cons, LeH_nil, LeL_cons, LeL_nil, and_true, true_and, Bool.and_eq_true, Bool.or_eq_true, decide_eq_true_eq, notT, Bool.cond_true_left, Bool.cond_false_right, Nat.blt_eq, Nat.zero_add, cond_true, cond_false, Int.toNat_natCast, Bool.not_true, Bool.not_false, Bool.false_eq_true, not_true_eq_false, not_false_eq_true, or_false, false_or, or_true, true_or, and_false, false_and, condIT, he, hn] at _h))
      all_goals simp only [or_true, true_or, false_or, or_false, and_false, false_and, cond_true, cond_false, Bool.not_true, Bool.not_false, Bool.false_eq_true, Bool.true_eq_false, not_true_eq_false, not_false_eq_true, false_implies, true_implies, implies_true, Nat.blt_eq, owesN, owesX, owesR, notT, sat_brT, sat_brF, sat_chkT, cl_iff, cl_false, AV.le_refl, AV.le_any, OLe_refl, OLe_none, sat_brN, Tree.sat_chk, Tree.sat_leaf, Tree.sat_fail, Nat.zero_add, Nat.sub_zero, Int.toNat_natCast, LeH_cons, LeH_nil, LeL_cons, LeL_nil, and_true, true_and, Bool.and_eq_true, Bool.or_eq_true, decide_eq_true_eq, decide_eq_false_iff_not, Bool.cond_true_left, Bool.cond_false_right, List.cons_append, List.nil_append, List.map_cons, List.map_nil, he, hn]
      repeat' (first | apply And.intro | intro _hc)
      all_goals first | exact leB' (by unfold bls; cases Op.bytesLess a.data.toList b.data.toList <;> simp) | exact AV.le_refl _ | exact AV.le_any _ | exact OLe.refl _ | exact OLe.none _ | exact LeH.refl _ | exact LeL.refl _ | exact AV.le.bs _ | exact AV.le.sb _ | omega | contradiction
    · rw [if_neg he]
      have hn : decide (((rns a 0).length : Int) < ((rns b 0).length : Int)) = true := decide_eq_true (by omega)
      have hm : decide ((rns a 0).length < (rns b 0).length) = true := decide_eq_true (by omega)
      rw [hm]
      repeat' (first | refine wC (by first | omega | (simp only [cl_iff, AV.le_refl, AV.le_any, OLe_refl, LeH_cons, LeH_nil, LeL_cons, LeL_nil, and_true, true_and, Bool.and_eq_true, Bool.or_eq_true, decide_eq_true_eq, notT, Bool.cond_true_left, Bool.cond_false_right, Nat.blt_eq, Nat.zero_add, cond_true, cond_false, Int.toNat_natCast, Bool.not_true, Bool.not_false, Bool.false_eq_true, not_true_eq_false, not_false_eq_true, or_false, false_or, or_true, true_or, and_false, false_and, condIT, hn]; first | done | omega)) ?_ | refine wT (by first | omega | (simp only [cl_iff, AV.le_refl, AV.le_any, OLe_refl, LeH_cons, LeH_nil, LeL_cons, LeL_nil, and_true, true_and, Bool.and_eq_true, Bool.or_eq_true, decide_eq_true_eq, notT, Bool.cond_true_left, Bool.cond_false_right, Nat.blt_eq, Nat.zero_add, cond_true, cond_false, Int.toNat_natCast, Bool.not_true, Bool.not_false, Bool.false_eq_true, not_true_eq_false, not_false_eq_true, or_false, false_or, or_true, true_or, and_false, false_and, condIT, hn]; first | done | omega)) ?_ | refine wF (by intro _h; first | omega | (simp only [cl_iff, AV.le_refl, AV.le_any, OLe_refl, LeH_cons, LeH_nil, LeL_cons, LeL_nil, and_true, true_and, Bool.and_eq_true, Bool.or_eq_true, decide_eq_true_eq, notT, Bool.cond_true_left, Bool.cond_false_right, Nat.blt_eq, Nat.zero_add, cond_true, cond_false, Int.toNat_natCast, Bool.not_true, Bool.not_false, Bool.false_eq_true, not_true_eq_false, not_false_eq_true, or_false, false_or, or_true, true_or, and_false, false_and, condIT, hn] at _h; first | done | omega)) ?_ | (refine wS ?_ ?_ <;> intro _h <;> simp only [cl_iff, AV.le_refl, AV.le_any, OLe_refl, LeH_cons, LeH_nil, LeL_cons, LeL_nil, and_true, true_and, Bool.and_eq_true, Bool.or_eq_true, decide_eq_true_eq, notT, Bool.cond_true_left, Bool.cond_false_right, Nat.blt_eq, Nat.zero_add, cond_true, cond_false, Int.toNat_natCast, Bool.not_true, Bool.not_false, Bool.false_eq_true, not_true_eq_false, not_false_eq_true, or_false, false_or, or_true, true_or, and_false, false_and, condIT, hn] at _h))
      all_goals simp only [or_true, true_or, false_or, or_false, and_false, false_and, cond_true, cond_false, Bool.not_true, Bool.not_false, Bool.false_eq_true, Bool.true_eq_false, not_true_eq_false, not_false_eq_true, false_implies, true_implies, implies_true, Nat.blt_eq, owesN, owesX, owesR, notT, sat_brT, sat_brF, sat_chkT, cl_iff, cl_false, AV.le_refl, AV.le_any, OLe_refl, OLe_none, sat_brN, Tree.sat_chk, Tree.sat_leaf, Tree.sat_fail, Nat.zero_add, Nat.sub_zero, Int.toNat_natCast, LeH_cons, LeH_nil, LeL_cons, LeL_nil, and_true, true_and, Bool.and_eq_true, Bool.or_eq_true, decide_eq_true_eq, decide_eq_false_iff_not, Bool.cond_true_left, Bool.cond_false_right, List.cons_append, List.nil_append, List.map_cons, List.map_nil, hn]
      repeat' (first | apply And.intro | intro _hc)
      all_goals first | exact leB' rfl | exact AV.le_refl _ | exact AV.le_any _ | exact OLe.refl _ | exact OLe.none _ | exact LeH.refl _ | exact LeL.refl _ | exact AV.le.bs _ | exact AV.le.sb _ | omega | contradiction
  · rw [h1] at hl
    rw [h2]
    dsimp only at hl ⊢
    refine answers (fn := Tryd.f26) (c := bodyOf Tryd.f26) (ntmps := 58) (results := [.tmp 4]) [kRn] (fun _ => LSpec.at lvLs [] (SLs a b (rns a 0) (rns b 0) 0) (retLs false)) false Tryd.func26 (by kernel_rfl) (by kernel_rfl) (by kernel_rfl) (by kernel_rfl) (by simp) rfl (oneLoop (b := lpLs) (by kernel_rfl) hl) <| Meets.of (runLsR a b false) <| ?_
    rw [if_neg (by omega), decide_eq_false (by omega)]
    repeat' (first | refine wC (by first | omega | (simp only [cl_iff, AV.le_refl, AV.le_any, OLe_refl, LeH_cons, LeH_nil, LeL_cons, LeL_nil, and_true, true_and, Bool.and_eq_true, Bool.or_eq_true, decide_eq_true_eq, notT, Bool.cond_true_left, Bool.cond_false_right, Nat.blt_eq, Nat.zero_add, cond_true, cond_false, Int.toNat_natCast, Bool.not_true, Bool.not_false, Bool.false_eq_true, not_true_eq_false, not_false_eq_true, or_false, false_or, or_true, true_or, and_false, false_and, condIT]; first | done | omega)) ?_ | refine wT (by first | omega | (simp only [cl_iff, AV.le_refl, AV.le_any, OLe_refl, LeH_cons, LeH_nil, LeL_cons, LeL_nil, and_true, true_and, Bool.and_eq_true, Bool.or_eq_true, decide_eq_true_eq, notT, Bool.cond_true_left, Bool.cond_false_right, Nat.blt_eq, Nat.zero_add, cond_true, cond_false, Int.toNat_natCast, Bool.not_true, Bool.not_false, Bool.false_eq_true, not_true_eq_false, not_false_eq_true, or_false, false_or, or_true, true_or, and_false, false_and, condIT]; first | done | omega)) ?_ | refine wF (by intro _h; first | omega | (simp only [cl_iff, AV.le_refl, AV.le_any, OLe_refl, LeH_cons, LeH_nil, LeL_cons, LeL_nil, and_true, true_and, Bool.and_eq_true, Bool.or_eq_true, decide_eq_true_eq, notT, Bool.cond_true_left, Bool.cond_false_right, Nat.blt_eq, Nat.zero_add, cond_true, cond_false, Int.toNat_natCast, Bool.not_true, Bool.not_false, Bool.false_eq_true, not_true_eq_false, not_false_eq_true, or_false, false_or, or_true, true_or, and_false, false_and, condIT] at _h; first | done | omega)) ?_ | (refine wS ?_ ?_ <;> intro _h <;> simp only [cl_iff, AV.le_refl, AV.le_any, OLe_refl, LeH_cons, LeH_nil, LeL_cons, LeL_nil, and_true, true_and, Bool.and_eq_true, Bool.or_eq_true, decide_eq_true_eq, notT, Bool.cond_true_left, Bool.cond_false_right, Nat.blt_eq, Nat.zero_add, cond_true, cond_false, Int.toNat_natCast, Bool.not_true, Bool.not_false, Bool.false_eq_true, not_true_eq_false, not_false_eq_true, or_false, false_or, or_true, true_or, and_false, false_and, condIT] at _h))
    all_goals simp only [or_true, true_or, false_or, or_false, and_false, false_and, cond_true, cond_false, Bool.not_true, Bool.not_false, Bool.false_eq_true, Bool.true_eq_false, not_true_eq_false, not_false_eq_true, false_implies, true_implies, implies_true, Nat.blt_eq, owesN, owesX, owesR, notT, sat_brT, sat_brF, sat_chkT, cl_iff, cl_false, AV.le_refl, AV.le_any, OLe_refl, OLe_none, sat_brN, Tree.sat_chk, Tree.sat_leaf, Tree.sat_fail, Nat.zero_add, Nat.sub_zero, Int.toNat_natCast, LeH_cons, LeH_nil, LeL_cons, LeL_nil, and_true, true_and, Bool.and_eq_true, Bool.or_eq_true, decide_eq_true_eq, decide_eq_false_iff_not, Bool.cond_true_left, Bool.cond_false_right, List.cons_append, List.nil_append, List.map_cons, List.map_nil]
    repeat' (first | apply And.intro | intro _hc)
    all_goals first | exact AV.le_refl _ | exact AV.le_any _ | exact OLe.refl _ | exact OLe.none _ | exact LeH.refl _ | exact LeL.refl _ | exact AV.le.bs _ | exact AV.le.sb _ | omega | contradiction
  · rw [h1] at hl
    rw [h2]
    dsimp only at hl ⊢
    refine answers (fn := Tryd.f26) (c := bodyOf Tryd.f26) (ntmps := 58) (results := [.tmp 4]) [kRn] (fun _ => LSpec.at lvLs [] (SLs a b (rns a 0) (rns b 0) 0) (retLs r)) false Tryd.func26 (by kernel_rfl) (by kernel_rfl) (by kernel_rfl) (by kernel_rfl) (by simp) rfl (oneLoop (b := lpLs) (by kernel_rfl) hl) <| Meets.of (runLsR a b r) <| ?_
    repeat' (first | refine wC (by first | omega | (simp only [cl_iff, AV.le_refl, AV.le_any, OLe_refl, LeH_cons, LeH_nil, LeL_cons, LeL_nil, and_true, true_and, Bool.and_eq_true, Bool.or_eq_true, decide_eq_true_eq, notT, Bool.cond_true_left, Bool.cond_false_right, Nat.blt_eq, Nat.zero_add, cond_true, cond_false, Int.toNat_natCast, Bool.not_true, Bool.not_false, Bool.false_eq_true, not_true_eq_false, not_false_eq_true, or_false, false_or, or_true, true_or, and_false, false_and, condIT]; first | done | omega)) ?_ | refine wT (by first | omega | (simp only [cl_iff, AV.le_refl, AV.le_any, OLe_refl, LeH_cons, LeH_nil, LeL_cons, LeL_nil, and_true, true_and, Bool.and_eq_true, Bool.or_eq_true, decide_eq_true_eq, notT, Bool.cond_true_left, Bool.cond_false_right, Nat.blt_eq, Nat.zero_add, cond_true, cond_false, Int.toNat_natCast, Bool.not_true, Bool.not_false, Bool.false_eq_true, not_true_eq_false, not_false_eq_true, or_false, false_or, or_true, true_or, and_false, false_and, condIT]; first | done | omega)) ?_ | refine wF (by intro _h; first | omega | (simp only [cl_iff, AV.le_refl, AV.le_any, OLe_refl, LeH_cons, LeH_nil, LeL_cons, LeL_nil, and_true, true_and, Bool.and_eq_true, Bool.or_eq_true, decide_eq_true_eq, notT, Bool.cond_true_left, Bool.cond_false_right, Nat.blt_eq, Nat.zero_add, cond_true, cond_false, Int.toNat_natCast, Bool.not_true, Bool.not_false, Bool.false_eq_true, not_true_eq_false, not_false_eq_true, or_false, false_or, or_true, true_or, and_false, false_and, condIT] at _h; first | done | omega)) ?_ | (refine wS ?_ ?_ <;> intro _h <;> simp only [cl_iff, AV.le_refl, AV.le_any, OLe_refl, LeH_cons, LeH_nil, LeL_cons, LeL_nil, and_true, true_and, Bool.and_eq_true, Bool.or_eq_true, decide_eq_true_eq, notT, Bool.cond_true_left, Bool.cond_false_right, Nat.blt_eq, Nat.zero_add, cond_true, cond_false, Int.toNat_natCast, Bool.not_true, Bool.not_false, Bool.false_eq_true, not_true_eq_false, not_false_eq_true, or_false, false_or, or_true, true_or, and_false, false_and, condIT] at _h))
    all_goals simp only [or_true, true_or, false_or, or_false, and_false, false_and, cond_true, cond_false, Bool.not_true, Bool.not_false, Bool.false_eq_true, Bool.true_eq_false, not_true_eq_false, not_false_eq_true, false_implies, true_implies, implies_true, Nat.blt_eq, owesN, owesX, owesR, notT, sat_brT, sat_brF, sat_chkT, cl_iff, cl_false, AV.le_refl, AV.le_any, OLe_refl, OLe_none, sat_brN, Tree.sat_chk, Tree.sat_leaf, Tree.sat_fail, Nat.zero_add, Nat.sub_zero, Int.toNat_natCast, LeH_cons, LeH_nil, LeL_cons, LeL_nil, and_true, true_and, Bool.and_eq_true, Bool.or_eq_true, decide_eq_true_eq, decide_eq_false_iff_not, Bool.cond_true_left, Bool.cond_false_right, List.cons_append, List.nil_append, List.map_cons, List.map_nil]
    repeat' (first | apply And.intro | intro _hc)
    all_goals first | exact AV.le_refl _ | exact AV.le_any _ | exact OLe.refl _ | exact OLe.none _ | exact LeH.refl _ | exact LeL.refl _ | exact AV.le.bs _ | exact AV.le.sb _ | omega | contradiction
noncomputable def kLs : CT Tryd.prog Γm := CT.oSS 26 Tryd.func26 (by kernel_rfl) (by kernel_rfl) (fun x => x.1.size ≤ 100000000 ∧ x.2.size ≤ 100000000) (fun x => .sb (lessB x.1 x.2)) (fun _ => []) (fun x h => ansLs h.1 h.2)
end Go.Eng.TA

/- Runes of a text: parts, folded names, an order: plain facts. -/
namespace Go.Eng
open Go Go.Lib
set_option linter.unusedSimpArgs false
set_option linter.unusedVariables false
theorem rns_ext {s : ByteArray} {p : Nat} (hp : p ≤ s.size) : ∀ {n q : Nat}, s.size - (p + q) ≤ n → rns (s.extract p s.size) q = rns s (p + q) := by
  intro n
  induction n with
  | zero =>
    intro q h
    have hz : (s.extract p s.size).size = s.size - p := ext_size _ _ _ (Nat.le_refl _)
    rw [rns_end (by omega), rns_end (by omega)]
  | succ n ih =>
    intro q h
    have hz : (s.extract p s.size).size = s.size - p := ext_size _ _ _ (Nat.le_refl _)
    by_cases hq : p + q < s.size
    · have hd := dec_pos s (p + q)
      rw [rns_step (show q < (s.extract p s.size).size by omega), rns_step hq, dec_extQ hp, ih (by omega), Nat.add_assoc]
    · rw [rns_end (by omega), rns_end (by omega)]
/-- a text's runes are those ahead of a place that lies between two, and those from there on -/
theorem cut_runes {s : ByteArray} : ∀ {k p : Nat}, p ≤ s.size → rns (s.extract 0 (adv s k p)) p ++ rns s (adv s k p) = rns s p ∧ (rns (s.extract 0 (adv s k p)) p).length = min k (rns s p).length := by
  intro k
  induction k with
  | zero =>
    intro p hp
    have hz : (s.extract 0 p).size = p - 0 := ext_size _ _ _ hp
    show rns (s.extract 0 p) p ++ rns s p = rns s p ∧ (rns (s.extract 0 p) p).length = min 0 _
    rw [rns_end (by omega)]
    exact ⟨rfl, by simp⟩
  | succ k ih =>
    intro p hp
    by_cases h : p < s.size
    · have hd := dec_pos s p
      have hle := dec_le h
      obtain ⟨i1, i2⟩ := ih hle
      have ha : adv s (k + 1) p = adv s k (p + (Utf8.decode s p).2) := by rw [adv, if_pos h]
      have hge : ∀ {k p : Nat}, p ≤ adv s k p := by
        intro k
        induction k with
        | zero => intro p; exact Nat.le_refl _
        | succ k ih2 =>
          intro p
          rw [adv]
          split
          · exact Nat.le_trans (Nat.le_add_right _ _) ih2
          · exact Nat.le_refl _
      have hq := hge (k := k) (p := p + (Utf8.decode s p).2)
      have hqs : adv s k (p + (Utf8.decode s p).2) ≤ s.size := adv_le hle
      rw [ha]
      have hz : (s.extract 0 (adv s k (p + (Utf8.decode s p).2))).size = adv s k (p + (Utf8.decode s p).2) - 0 := ext_size _ _ _ hqs
      have hc := dec_cut (s := s) (p := p) (i := adv s k (p + (Utf8.decode s p).2)) hqs hq
      rw [rns_step (s := s.extract 0 (adv s k (p + (Utf8.decode s p).2))) (p := p) (by omega), rns_step h, hc, List.cons_append, i1, List.length_cons, List.length_cons, i2]
      exact ⟨rfl, by omega⟩
    · have ha : adv s (k + 1) p = p := by rw [adv, if_neg h]
      have hz : (s.extract 0 p).size = p - 0 := ext_size _ _ _ hp
      rw [ha, rns_end (by omega), rns_end (s := s) (by omega)]
      exact ⟨rfl, by simp⟩
theorem ext_two {s : ByteArray} {q : Nat} (hq : q ≤ s.size) : s.extract 0 q ++ s.extract q s.size = s := by
  have h1 : (s.extract 0 q).size = q - 0 := ext_size _ _ _ hq
  have h2 : (s.extract q s.size).size = s.size - q := ext_size _ _ _ (Nat.le_refl _)
  refine bN_eq (by rw [ByteArray.size_append]; omega) fun j hj => ?_
  rw [ByteArray.size_append] at hj
  rw [bN_append, h1]
  by_cases h : j < q
  · rw [if_pos (by omega), bN_extract _ _ _ _ hq, if_pos (by omega), Nat.zero_add]
  · rw [if_neg (by omega), bN_extract _ _ _ _ (Nat.le_refl _), if_pos (by omega)]
    congr 1; omega
/-! ### bytes of runes -/
def catE : List Nat → ByteArray
  | [] => ⟨#[]⟩
  | c :: l => encR c ++ catE l
theorem cat_runes : ∀ {l : List Nat} {t : ByteArray}, (∀ c ∈ l, okR c) → rns (t ++ catE l) t.size = l ∧ good (t ++ catE l) t.size = true := by
  intro l
  induction l with
  | nil =>
    intro t h
    have : (t ++ catE []).size = t.size := by rw [ByteArray.size_append]; rfl
    exact ⟨rns_end (by omega), good_end (by omega)⟩
  | cons c l ih =>
    intro t h
    have hc := h c (List.mem_cons_self ..)
    obtain ⟨i1, i2⟩ := ih (t := t ++ encR c) fun d hd => h d (List.mem_cons_of_mem _ hd)
    have hs := encR_size hc
    have ha : t ++ catE (c :: l) = t ++ encR c ++ catE l := (ByteArray.append_assoc).symm
    have hz : (t ++ encR c ++ catE l).size = t.size + (encR c).size + (catE l).size := by rw [ByteArray.size_append, ByteArray.size_append]
    have hd : Utf8.decode (t ++ encR c ++ catE l) t.size = (c, (encR c).size) := dec_at_enc (by omega) (fun j hj => by
      rw [bN_append, ByteArray.size_append, if_pos (by omega), bN_append, if_neg (by omega)]
      congr 1; omega) hc rfl
    rw [ByteArray.size_append] at i1 i2
    rw [ha]
    refine ⟨?_, ?_⟩
    · rw [rns_step (by omega), hd, i1]
    · rw [good_step (by omega), hd, i2]
      have : ¬ badAt (t ++ encR c ++ catE l) t.size := fun e => by
        have e : Utf8.decode (t ++ encR c ++ catE l) t.size = (65533, 1) := e
        rw [hd] at e
        obtain ⟨e1, e2⟩ := Prod.mk.injEq .. ▸ e
        rw [encR_eq hc, if_neg (by omega), if_neg (by omega), if_pos (by omega)] at e2
        have e2 : (3 : Nat) = 1 := e2
        omega
      rw [decide_eq_false this]; rfl
/-! ### an order -/
theorem l_tri : ∀ l m : List Nat, l < m ∨ l = m ∨ m < l
  | [], [] => .inr (.inl rfl)
  | [], y :: ys => .inl (List.nil_lt_cons y ys)
  | x :: xs, [] => .inr (.inr (List.nil_lt_cons x xs))
  | x :: xs, y :: ys => by
    simp only [List.cons_lt_cons_iff, List.cons.injEq]
    rcases Nat.lt_trichotomy x y with h | h | h
    · exact .inl (.inl h)
    · rcases l_tri xs ys with h1 | h1 | h1
      · exact .inl (.inr ⟨h, h1⟩)
      · exact .inr (.inl ⟨h, h1⟩)
      · exact .inr (.inr (.inr ⟨h.symm, h1⟩))
    · exact .inr (.inr (.inl h))
def nb (l : List UInt8) : List Nat := l.map UInt8.toNat
theorem nb_inj : ∀ {l m : List UInt8}, nb l = nb m → l = m
  | [], [], _ => rfl
  | [], _ :: _, h => by simp [nb] at h
  | _ :: _, [], h => by simp [nb] at h
  | x :: xs, y :: ys, h => by
    simp only [nb, List.map_cons, List.cons.injEq] at h
    rw [UInt8.toNat_inj.1 h.1, nb_inj (l := xs) (m := ys) h.2]
theorem bless_iff : ∀ l m : List UInt8, Op.bytesLess l m = true ↔ nb l < nb m
  | [], [] => by simp [Op.bytesLess, nb]
  | [], y :: ys => by simp [Op.bytesLess, nb]
  | x :: xs, [] => by simp [Op.bytesLess, nb]
  | x :: xs, y :: ys => by
    have ih := bless_iff xs ys
    simp only [nb] at ih
    simp only [Op.bytesLess, nb, List.map_cons, List.cons_lt_cons_iff]
    rw [← ih]
    have e1 : (x < y) ↔ x.toNat < y.toNat := UInt8.lt_iff_toNat_lt
    have e2 : x = y ↔ x.toNat = y.toNat := UInt8.toNat_inj.symm
    simp [e1, e2]
end Go.Eng

/- names: NameBack. -/
namespace Go.Eng.TA
open Go Go.Eng Go.Eng.M Go.Lib Go.Proofs
set_option linter.unusedSimpArgs false
set_option linter.unusedVariables false
theorem catR_catE : ∀ l : List Nat, catR l = catE l
  | [] => rfl
  | c :: l => by rw [catR, catE, catR_catE l]
theorem fold_runes (s : ByteArray) : rns (foldB s) 0 = (rns s 0).map smallN ∧ good (foldB s) 0 = true := by
  have h := cat_runes (l := (rns s 0).map smallN) (t := ⟨#[]⟩) (by
    intro c hc
    obtain ⟨d, hd, rfl⟩ := List.mem_map.1 hc
    exact small_ok (rns_ok d hd))
  have e : (⟨#[]⟩ : ByteArray) ++ catE ((rns s 0).map smallN) = foldB s := by
    rw [empty_append, ← catR_catE]; rfl
  rw [e] at h
  exact h
theorem letter_small {c : Nat} (h : letterB (c : Int) = true) : smallN c = c := by
  have h := of_decide_eq_true h
  unfold smallN
  have : greatB (c : Int) = false := decide_eq_false (by omega)
  rw [this]; rfl
theorem fold_twice {s : ByteArray} (h : nameB (foldB s) = true) : foldB (foldB s) = foldB s := by
  obtain ⟨h1, _⟩ := fold_runes s
  have hl : ((rns (foldB s) 0).all fun c => letterB (c : Int)) = true := by
    unfold nameB fine at h
    simp only [Bool.and_eq_true] at h
    exact h.1.1
  have hm : (rns (foldB s) 0).map smallN = rns (foldB s) 0 := by
    exact (List.map_congr_left (f := smallN) (g := fun c => c) fun c hc => letter_small (List.all_eq_true.1 hl c hc)).trans (List.map_id' _)
  have e : ∀ t : ByteArray, foldB t = catR ((rns t 0).map smallN) := fun _ => rfl
  rw [e (foldB s), hm, h1]
  exact (e s).symm
theorem fold_ok {s : ByteArray} (h : foldOk s = true) : foldOk (foldB s) = true ∧ foldB (foldB s) = foldB s ∧ nameB (foldB s) = true ∧ (rns (foldB s) 0).length = (rns s 0).length := by
  unfold foldOk at h ⊢
  simp only [Bool.and_eq_true] at h
  have h2 := fold_twice h.2
  refine ⟨?_, h2, h.2, ?_⟩
  · rw [h2, (fold_runes s).2, h.2]; rfl
  · rw [(fold_runes s).1, List.length_map]
theorem lxR_nil' {la lb : List Nat} (h : la = [] ∨ lb = []) : lxR la lb = none := by
  rcases h with rfl | rfl
  · rw [lxR]; simp
  · rw [lxR]; simp
theorem lxR_lt : ∀ la lb : List Nat, (lxR la lb = some true → la < lb) ∧ (lxR la lb = some false → lb < la) ∧ (lxR la lb = none → (la.length < lb.length → la < lb) ∧ (la.length = lb.length → la = lb) ∧ (lb.length < la.length → lb < la))
  | [], [] => by rw [lxR_nil' (.inl rfl)]; simp
  | [], y :: ys => by rw [lxR_nil' (.inl rfl)]; simp
  | x :: xs, [] => by rw [lxR_nil' (.inr rfl)]; simp
  | x :: xs, y :: ys => by
    obtain ⟨i1, i2, i3⟩ := lxR_lt xs ys
    rw [lxR]
    by_cases h : x = y
    · subst h
      rw [if_pos rfl]
      simp only [List.cons_lt_cons_iff, List.cons.injEq, Nat.lt_irrefl, true_and, false_or, List.length_cons]
      exact ⟨i1, i2, fun h => ⟨fun h2 => (i3 h).1 (by omega), fun h2 => (i3 h).2.1 (by omega), fun h2 => (i3 h).2.2 (by omega)⟩⟩
    · rw [if_neg h]
      refine ⟨fun h2 => ?_, fun h2 => ?_, fun h2 => by simp at h2⟩
      · simp only [Option.some.injEq, decide_eq_true_eq] at h2
        exact List.cons_lt_cons_iff.2 (.inl h2)
      · simp only [Option.some.injEq, decide_eq_false_iff_not] at h2
        exact List.cons_lt_cons_iff.2 (.inl (by omega))
theorem less_iff (a b : ByteArray) : lessB a b = true ↔ rns a 0 < rns b 0 ∨ (rns a 0 = rns b 0 ∧ nb a.data.toList < nb b.data.toList) := by
  obtain ⟨h1, h2, h3⟩ := lxR_lt (rns a 0) (rns b 0)
  unfold lessB
  cases h : lxR (rns a 0) (rns b 0) with
  | some r =>
    cases r with
    | true => exact ⟨fun _ => .inl (h1 h), fun _ => rfl⟩
    | false =>
      have h2 := h2 h
      refine ⟨fun h => Bool.noConfusion (show false = true from h), fun h => ?_⟩
      rcases h with h | ⟨h, _⟩
      · exact absurd (List.lt_trans h h2) (List.lt_irrefl _)
      · rw [h] at h2; exact absurd h2 (List.lt_irrefl _)
  | none =>
    obtain ⟨k1, k2, k3⟩ := h3 h
    dsimp only
    by_cases hl : (rns a 0).length = (rns b 0).length
    · rw [if_pos hl]
      have he := k2 hl
      unfold bls
      rw [bless_iff]
      refine ⟨fun h => .inr ⟨he, h⟩, fun h => ?_⟩
      rcases h with h | ⟨_, h⟩
      · rw [he] at h; exact absurd h (List.lt_irrefl _)
      · exact h
    · rw [if_neg hl, decide_eq_true_eq]
      refine ⟨fun h => .inl (k1 h), fun h => ?_⟩
      rcases Nat.lt_or_ge (rns a 0).length (rns b 0).length with h4 | h4
      · exact h4
      · have h5 := k3 (by omega)
        rcases h with h | ⟨h, _⟩
        · exact absurd (List.lt_trans h h5) (List.lt_irrefl _)
        · exact absurd (congrArg List.length h) hl
theorem less_self (a : ByteArray) : lessB a a = false := by
  cases h : lessB a a with
  | false => rfl
  | true =>
    rcases (less_iff a a).1 h with h | ⟨_, h⟩
    · exact absurd h (List.lt_irrefl _)
    · exact absurd h (List.lt_irrefl _)
theorem less_trans {a b c : ByteArray} (h1 : lessB a b = true) (h2 : lessB b c = true) : lessB a c = true := by
  rw [less_iff] at *
  rcases h1 with h1 | ⟨e1, h1⟩ <;> rcases h2 with h2 | ⟨e2, h2⟩
  · exact .inl (List.lt_trans h1 h2)
  · rw [← e2]; exact .inl h1
  · rw [e1]; exact .inl h2
  · exact .inr ⟨e1.trans e2, List.lt_trans h1 h2⟩
theorem less_other {a b : ByteArray} (h : a ≠ b) : lessB b a = !lessB a b := by
  have hx : lessB a b = true → lessB b a = true → False := fun h1 h2 => by
    have := less_trans h1 h2
    rw [less_self] at this; cases this
  have hy : lessB a b = true ∨ lessB b a = true := by
    rw [less_iff, less_iff]
    rcases l_tri (rns a 0) (rns b 0) with h1 | h1 | h1
    · exact .inl (.inl h1)
    · rcases l_tri (nb a.data.toList) (nb b.data.toList) with h2 | h2 | h2
      · exact .inl (.inr ⟨h1, h2⟩)
      · exfalso; apply h
        have := nb_inj h2
        cases a with | mk da => cases b with | mk db => exact congrArg ByteArray.mk (Array.toList_inj.1 this)
      · exact .inr (.inr ⟨h1.symm, h2⟩)
    · exact .inr (.inl h1)
  cases h1 : lessB a b <;> cases h2 : lessB b a <;> simp_all
theorem cut_len {s : ByteArray} {n : Int} : (rns (s.extract 0 (cutP s n)) 0).length = min n.toNat (rns s 0).length ∧ (rns (s.extract 0 (cutP s n)) 0).length + (rns (s.extract (cutP s n) s.size) 0).length = (rns s 0).length := by
  obtain ⟨h1, h2⟩ := cut_runes (s := s) (k := n.toNat) (p := 0) (Nat.zero_le _)
  have hq := cutP_le (s := s) (n := n)
  have h3 := rns_ext (s := s) (p := cutP s n) hq (n := s.size) (q := 0) (by omega)
  refine ⟨h2, ?_⟩
  rw [h3, Nat.add_zero, ← h1, List.length_append]; rfl
end Go.Eng.TA

/- names: NameBack: the law. -/
namespace Go.Eng.TA
open Go Go.Eng Go.Eng.M Go.Lib Go.Proofs
set_option linter.unusedSimpArgs false
set_option linter.unusedVariables false
structure X6 where
  a : ByteArray
  b : ByteArray
  c : ByteArray
  n : Int
noncomputable abbrev T6 : List (CT Tryd.prog Γm) := [z8, kFd, kChk, kCnt, kCut, kLs]
def A6 (x : X6) : List AV := [.v (.string x.a), .v (.string x.b), .v (.string x.c), .v (.int .i64 x.n)]
theorem run6 (x : X6) : bodyE (P := Tryd.prog) (Γ := Γm) T6 Lno false 140 [.tmp 8] (bodyOf Tryd.f6) (A6 x) [] =
  Tree.br (bif decide ((2000 : Int) < (↑(ByteArray.size x.a) : Int)) then true else bif decide ((2000 : Int) < (↑(ByteArray.size x.b) : Int)) then true else decide ((2000 : Int) <
    (↑(ByteArray.size x.c) : Int))) (Tree.leaf (Ans.mk (AV.v (Value.bool true)) [])) (Tree.chk (cl (ByteArray.size x.a ≤ (10000000 : Nat) ∧ LeL [AV.v (Value.string x.a)] [AV.v (Value.string
    x.a)] ∧ LeH [] [])) (Tree.br (decide (erN (foldOk x.a) = (0 : Int))) (Tree.chk (cl (ByteArray.size (bif foldOk x.a then foldB x.a else ByteArray.mk #[]) ≤ (10000000 : Nat) ∧ LeL [AV.v
    (Value.string (bif foldOk x.a then foldB x.a else ByteArray.mk #[]))] [AV.v (Value.string (bif foldOk x.a then foldB x.a else ByteArray.mk #[]))] ∧ LeH [] [])) (Tree.chk (bif !decide
    (erN (foldOk (bif foldOk x.a then foldB x.a else ByteArray.mk #[])) = (0 : Int)) then true else bif !decide ((bif foldOk (bif foldOk x.a then foldB x.a else ByteArray.mk #[]) then foldB
    (bif foldOk x.a then foldB x.a else ByteArray.mk #[]) else ByteArray.mk #[]) = bif foldOk x.a then foldB x.a else ByteArray.mk #[]) then true else cl (ByteArray.size (bif foldOk x.a then
    foldB x.a else ByteArray.mk #[]) ≤ (1000000000 : Nat) ∧ LeL [AV.v (Value.string (bif foldOk x.a then foldB x.a else ByteArray.mk #[]))] [AV.v (Value.string (bif foldOk x.a then foldB x.a
    else ByteArray.mk #[]))] ∧ LeH [] []) && bif !decide (erN (nameB (bif foldOk x.a then foldB x.a else ByteArray.mk #[])) = (0 : Int)) then true else cl (ByteArray.size (bif foldOk x.a
    then foldB x.a else ByteArray.mk #[]) ≤ (1000000000 : Nat) ∧ LeL [AV.v (Value.string (bif foldOk x.a then foldB x.a else ByteArray.mk #[]))] [AV.v (Value.string (bif foldOk x.a then
    foldB x.a else ByteArray.mk #[]))] ∧ LeH [] []) && cl (ByteArray.size x.a ≤ (1000000000 : Nat) ∧ LeL [AV.v (Value.string x.a)] [AV.v (Value.string x.a)] ∧ LeH [] [])) (Tree.br (bif
    !decide (erN (foldOk (bif foldOk x.a then foldB x.a else ByteArray.mk #[])) = (0 : Int)) then true else bif !decide ((bif foldOk (bif foldOk x.a then foldB x.a else ByteArray.mk #[])
    then foldB (bif foldOk x.a then foldB x.a else ByteArray.mk #[]) else ByteArray.mk #[]) = bif foldOk x.a then foldB x.a else ByteArray.mk #[]) then true else bif !decide (erN (nameB (bif
    foldOk x.a then foldB x.a else ByteArray.mk #[])) = (0 : Int)) then true else !decide ((↑(List.length (rns (bif foldOk x.a then foldB x.a else ByteArray.mk #[]) (0 : Nat))) : Int) =
    (↑(List.length (rns x.a (0 : Nat))) : Int))) (Tree.leaf (Ans.mk (AV.v (Value.bool false)) [])) (Tree.chk (cl (ByteArray.size x.a ≤ (1000000000 : Nat) ∧ LeL [AV.v (Value.string x.a), AV.v
    (Value.int IntKind.i64 x.n)] [AV.v (Value.string x.a), AV.v (Value.int IntKind.i64 x.n)] ∧ LeH [] [])) (Tree.chk (decide (ByteArray.size (ByteArray.extract x.a (0 : Nat) (cutP x.a x.n))
    + ByteArray.size (ByteArray.extract x.a (cutP x.a x.n) (ByteArray.size x.a)) ≤ (9223372036854775807 : Nat)) && bif !decide (ByteArray.extract x.a (0 : Nat) (cutP x.a x.n) ++
    ByteArray.extract x.a (cutP x.a x.n) (ByteArray.size x.a) = x.a) then true else cl (ByteArray.size (ByteArray.extract x.a (0 : Nat) (cutP x.a x.n)) ≤ (1000000000 : Nat) ∧ LeL [AV.v
    (Value.string (ByteArray.extract x.a (0 : Nat) (cutP x.a x.n)))] [AV.v (Value.string (ByteArray.extract x.a (0 : Nat) (cutP x.a x.n)))] ∧ LeH [] []) && (cl (ByteArray.size
    (ByteArray.extract x.a (cutP x.a x.n) (ByteArray.size x.a)) ≤ (1000000000 : Nat) ∧ LeL [AV.v (Value.string (ByteArray.extract x.a (cutP x.a x.n) (ByteArray.size x.a)))] [AV.v
    (Value.string (ByteArray.extract x.a (cutP x.a x.n) (ByteArray.size x.a)))] ∧ LeH [] []) && (cl (ByteArray.size x.a ≤ (1000000000 : Nat) ∧ LeL [AV.v (Value.string x.a)] [AV.v
    (Value.string x.a)] ∧ LeH [] []) && bif decide (IntKind.wrap IntKind.i64 ((↑(List.length (rns (ByteArray.extract x.a (0 : Nat) (cutP x.a x.n)) (0 : Nat))) : Int) + (↑(List.length (rns
    (ByteArray.extract x.a (cutP x.a x.n) (ByteArray.size x.a)) (0 : Nat))) : Int)) < (↑(List.length (rns x.a (0 : Nat))) : Int)) then true else bif decide ((0 : Int) ≤ x.n) then cl
    (ByteArray.size x.a ≤ (1000000000 : Nat) ∧ LeL [AV.v (Value.string x.a)] [AV.v (Value.string x.a)] ∧ LeH [] []) && bif decide (x.n ≤ (↑(List.length (rns x.a (0 : Nat))) : Int)) then cl
    (ByteArray.size (ByteArray.extract x.a (0 : Nat) (cutP x.a x.n)) ≤ (1000000000 : Nat) ∧ LeL [AV.v (Value.string (ByteArray.extract x.a (0 : Nat) (cutP x.a x.n)))] [AV.v (Value.string
    (ByteArray.extract x.a (0 : Nat) (cutP x.a x.n)))] ∧ LeH [] []) else true else true))) (Tree.br (bif !decide (ByteArray.extract x.a (0 : Nat) (cutP x.a x.n) ++ ByteArray.extract x.a
    (cutP x.a x.n) (ByteArray.size x.a) = x.a) then true else bif decide (IntKind.wrap IntKind.i64 ((↑(List.length (rns (ByteArray.extract x.a (0 : Nat) (cutP x.a x.n)) (0 : Nat))) : Int) +
    (↑(List.length (rns (ByteArray.extract x.a (cutP x.a x.n) (ByteArray.size x.a)) (0 : Nat))) : Int)) < (↑(List.length (rns x.a (0 : Nat))) : Int)) then true else bif decide ((0 : Int) ≤
    x.n) then bif decide (x.n ≤ (↑(List.length (rns x.a (0 : Nat))) : Int)) then !decide ((↑(List.length (rns (ByteArray.extract x.a (0 : Nat) (cutP x.a x.n)) (0 : Nat))) : Int) = x.n) else
    false else false) (Tree.leaf (Ans.mk (AV.v (Value.bool false)) [])) (Tree.chk (bif decide (x.a = x.b) then cl ((ByteArray.size x.a ≤ (100000000 : Nat) ∧ ByteArray.size x.b ≤ (100000000 :
    Nat)) ∧ LeL [AV.v (Value.string x.a), AV.v (Value.string x.b)] [AV.v (Value.string x.a), AV.v (Value.string x.b)] ∧ LeH [] []) && bif lessB x.a x.b then true else cl ((ByteArray.size x.b
    ≤ (100000000 : Nat) ∧ ByteArray.size x.a ≤ (100000000 : Nat)) ∧ LeL [AV.v (Value.string x.b), AV.v (Value.string x.a)] [AV.v (Value.string x.b), AV.v (Value.string x.a)] ∧ LeH [] []) &&
    bif lessB x.b x.a then true else bif !decide (x.a = x.b) then cl ((ByteArray.size x.a ≤ (100000000 : Nat) ∧ ByteArray.size x.b ≤ (100000000 : Nat)) ∧ LeL [AV.v (Value.string x.a), AV.v
    (Value.string x.b)] [AV.v (Value.string x.a), AV.v (Value.string x.b)] ∧ LeH [] []) && cl ((ByteArray.size x.b ≤ (100000000 : Nat) ∧ ByteArray.size x.a ≤ (100000000 : Nat)) ∧ LeL [AV.v
    (Value.string x.b), AV.v (Value.string x.a)] [AV.v (Value.string x.b), AV.v (Value.string x.a)] ∧ LeH [] []) else true else bif !decide (x.a = x.b) then cl ((ByteArray.size x.a ≤
    (100000000 : Nat) ∧ ByteArray.size x.b ≤ (100000000 : Nat)) ∧ LeL [AV.v (Value.string x.a), AV.v (Value.string x.b)] [AV.v (Value.string x.a), AV.v (Value.string x.b)] ∧ LeH [] []) && cl
    ((ByteArray.size x.b ≤ (100000000 : Nat) ∧ ByteArray.size x.a ≤ (100000000 : Nat)) ∧ LeL [AV.v (Value.string x.b), AV.v (Value.string x.a)] [AV.v (Value.string x.b), AV.v (Value.string
    x.a)] ∧ LeH [] []) else true) (Tree.br (bif decide (x.a = x.b) then bif lessB x.a x.b then true else bif lessB x.b x.a then true else bif !decide (x.a = x.b) then lessB x.a x.b == lessB
    x.b x.a else false else bif !decide (x.a = x.b) then lessB x.a x.b == lessB x.b x.a else false) (Tree.leaf (Ans.mk (AV.v (Value.bool false)) [])) (Tree.chk (cl ((ByteArray.size x.a ≤
    (100000000 : Nat) ∧ ByteArray.size x.b ≤ (100000000 : Nat)) ∧ LeL [AV.v (Value.string x.a), AV.v (Value.string x.b)] [AV.v (Value.string x.a), AV.v (Value.string x.b)] ∧ LeH [] []) &&
    bif !lessB x.a x.b then true else cl ((ByteArray.size x.b ≤ (100000000 : Nat) ∧ ByteArray.size x.c ≤ (100000000 : Nat)) ∧ LeL [AV.v (Value.string x.b), AV.v (Value.string x.c)] [AV.v
    (Value.string x.b), AV.v (Value.string x.c)] ∧ LeH [] []) && bif !lessB x.b x.c then true else cl ((ByteArray.size x.a ≤ (100000000 : Nat) ∧ ByteArray.size x.c ≤ (100000000 : Nat)) ∧ LeL
    [AV.v (Value.string x.a), AV.v (Value.string x.c)] [AV.v (Value.string x.a), AV.v (Value.string x.c)] ∧ LeH [] [])) (Tree.leaf (Ans.mk (AV.sb (bif !lessB x.a x.b then true else bif
    !lessB x.b x.c then true else lessB x.a x.c)) []))))))))))) (Tree.chk (cl (ByteArray.size x.a ≤ (1000000000 : Nat) ∧ LeL [AV.v (Value.string x.a), AV.v (Value.int IntKind.i64 x.n)] [AV.v
    (Value.string x.a), AV.v (Value.int IntKind.i64 x.n)] ∧ LeH [] [])) (Tree.chk (decide (ByteArray.size (ByteArray.extract x.a (0 : Nat) (cutP x.a x.n)) + ByteArray.size (ByteArray.extract
    x.a (cutP x.a x.n) (ByteArray.size x.a)) ≤ (9223372036854775807 : Nat)) && bif !decide (ByteArray.extract x.a (0 : Nat) (cutP x.a x.n) ++ ByteArray.extract x.a (cutP x.a x.n)
    (ByteArray.size x.a) = x.a) then true else cl (ByteArray.size (ByteArray.extract x.a (0 : Nat) (cutP x.a x.n)) ≤ (1000000000 : Nat) ∧ LeL [AV.v (Value.string (ByteArray.extract x.a (0 :
    Nat) (cutP x.a x.n)))] [AV.v (Value.string (ByteArray.extract x.a (0 : Nat) (cutP x.a x.n)))] ∧ LeH [] []) && (cl (ByteArray.size (ByteArray.extract x.a (cutP x.a x.n) (ByteArray.size
    x.a)) ≤ (1000000000 : Nat) ∧ LeL [AV.v (Value.string (ByteArray.extract x.a (cutP x.a x.n) (ByteArray.size x.a)))] [AV.v (Value.string (ByteArray.extract x.a (cutP x.a x.n)
    (ByteArray.size x.a)))] ∧ LeH [] []) && (cl (ByteArray.size x.a ≤ (1000000000 : Nat) ∧ LeL [AV.v (Value.string x.a)] [AV.v (Value.string x.a)] ∧ LeH [] []) && bif decide (IntKind.wrap
    IntKind.i64 ((↑(List.length (rns (ByteArray.extract x.a (0 : Nat) (cutP x.a x.n)) (0 : Nat))) : Int) + (↑(List.length (rns (ByteArray.extract x.a (cutP x.a x.n) (ByteArray.size x.a)) (0
    : Nat))) : Int)) < (↑(List.length (rns x.a (0 : Nat))) : Int)) then true else bif decide ((0 : Int) ≤ x.n) then cl (ByteArray.size x.a ≤ (1000000000 : Nat) ∧ LeL [AV.v (Value.string
    x.a)] [AV.v (Value.string x.a)] ∧ LeH [] []) && bif decide (x.n ≤ (↑(List.length (rns x.a (0 : Nat))) : Int)) then cl (ByteArray.size (ByteArray.extract x.a (0 : Nat) (cutP x.a x.n)) ≤
    (1000000000 : Nat) ∧ LeL [AV.v (Value.string (ByteArray.extract x.a (0 : Nat) (cutP x.a x.n)))] [AV.v (Value.string (ByteArray.extract x.a (0 : Nat) (cutP x.a x.n)))] ∧ LeH [] []) else
    true else true))) (Tree.br (bif !decide (ByteArray.extract x.a (0 : Nat) (cutP x.a x.n) ++ ByteArray.extract x.a (cutP x.a x.n) (ByteArray.size x.a) = x.a) then true else bif decide
    (IntKind.wrap IntKind.i64 ((↑(List.length (rns (ByteArray.extract x.a (0 : Nat) (cutP x.a x.n)) (0 : Nat))) : Int) + (↑(List.length (rns (ByteArray.extract x.a (cutP x.a x.n)
    (ByteArray.size x.a)) (0 : Nat))) : Int)) < (↑(List.length (rns x.a (0 : Nat))) : Int)) then true else bif decide ((0 : Int) ≤ x.n) then bif decide (x.n ≤ (↑(List.length (rns x.a (0 :
    Nat))) : Int)) then !decide ((↑(List.length (rns (ByteArray.extract x.a (0 : Nat) (cutP x.a x.n)) (0 : Nat))) : Int) = x.n) else false else false) (Tree.leaf (Ans.mk (AV.v (Value.bool
    false)) [])) (Tree.chk (bif decide (x.a = x.b) then cl ((ByteArray.size x.a ≤ (100000000 : Nat) ∧ ByteArray.size x.b ≤ (100000000 : Nat)) ∧ LeL [AV.v (Value.string x.a), AV.v
    (Value.string x.b)] [AV.v (Value.string x.a), AV.v (Value.string x.b)] ∧ LeH [] []) && bif lessB x.a x.b then true else cl ((ByteArray.size x.b ≤ (100000000 : Nat) ∧ ByteArray.size x.a ≤
    (100000000 : Nat)) ∧ LeL [AV.v (Value.string x.b), AV.v (Value.string x.a)] [AV.v (Value.string x.b), AV.v (Value.string x.a)] ∧ LeH [] []) && bif lessB x.b x.a then true else bif
    !decide (x.a = x.b) then cl ((ByteArray.size x.a ≤ (100000000 : Nat) ∧ ByteArray.size x.b ≤ (100000000 : Nat)) ∧ LeL [AV.v (Value.string x.a), AV.v (Value.string x.b)] [AV.v
    (Value.string x.a), AV.v (Value.string x.b)] ∧ LeH [] []) && cl ((ByteArray.size x.b ≤ (100000000 : Nat) ∧ ByteArray.size x.a ≤ (100000000 : Nat)) ∧ LeL [AV.v (Value.string x.b), AV.v
    (Value.string x.a)] [AV.v (Value.string x.b), AV.v (Value.string x.a)] ∧ LeH [] []) else true else bif !decide (x.a = x.b) then cl ((ByteArray.size x.a ≤ (100000000 : Nat) ∧
    ByteArray.size x.b ≤ (100000000 : Nat)) ∧ LeL [AV.v (Value.string x.a), AV.v (Value.string x.b)] [AV.v (Value.string x.a), AV.v (Value.string x.b)] ∧ LeH [] []) && cl ((ByteArray.size
    x.b ≤ (100000000 : Nat) ∧ ByteArray.size x.a ≤ (100000000 : Nat)) ∧ LeL [AV.v (Value.string x.b), AV.v (Value.string x.a)] [AV.v (Value.string x.b), AV.v (Value.string x.a)] ∧ LeH [] [])
    else true) (Tree.br (bif decide (x.a = x.b) then bif lessB x.a x.b then true else bif lessB x.b x.a then true else bif !decide (x.a = x.b) then lessB x.a x.b == lessB x.b x.a else false
    else bif !decide (x.a = x.b) then lessB x.a x.b == lessB x.b x.a else false) (Tree.leaf (Ans.mk (AV.v (Value.bool false)) [])) (Tree.chk (cl ((ByteArray.size x.a ≤ (100000000 : Nat) ∧
    ByteArray.size x.b ≤ (100000000 : Nat)) ∧ LeL [AV.v (Value.string x.a), AV.v (Value.string x.b)] [AV.v (Value.string x.a), AV.v (Value.string x.b)] ∧ LeH [] []) && bif !lessB x.a x.b
    then true else cl ((ByteArray.size x.b ≤ (100000000 : Nat) ∧ ByteArray.size x.c ≤ (100000000 : Nat)) ∧ LeL [AV.v (Value.string x.b), AV.v (Value.string x.c)] [AV.v (Value.string x.b),
    AV.v (Value.string x.c)] ∧ LeH [] []) && bif !lessB x.b x.c then true else cl ((ByteArray.size x.a ≤ (100000000 : Nat) ∧ ByteArray.size x.c ≤ (100000000 : Nat)) ∧ LeL [AV.v (Value.string
    x.a), AV.v (Value.string x.c)] [AV.v (Value.string x.a), AV.v (Value.string x.c)] ∧ LeH [] [])) (Tree.leaf (Ans.mk (AV.sb (bif !lessB x.a x.b then true else bif !lessB x.b x.c then true
    else lessB x.a x.c)) [])))))))))) := by kernel_rfl
set_option maxHeartbeats 4000000 in
theorem law6 (x : X6) : LawOK Tryd.prog Γm 140 [.tmp 8] (bodyOf Tryd.f6) (A6 x) := by
  refine .mk' (T := T6) (ip := false) (L := Lno) (noLoops (by kernel_rfl)) (Right.of (run6 x) ?_)
  obtain ⟨a, b, c, n⟩ := x
  dsimp only
  by_cases hsz : 2000 < a.size ∨ 2000 < b.size ∨ 2000 < c.size
  · repeat' (first | refine wC (by first | omega | (simp only [cl_iff, AV.le_refl, AV.le_any, OLe_refl, LeH_cons, LeH_nil, LeL_cons, LeL_nil, and_true, true_and, Bool.and_eq_true, Bool.or_eq_true, decide_eq_true_eq, notT, Bool.cond_true_left, Bool.cond_false_right, Nat.blt_eq, Nat.zero_add, cond_true, cond_false, Int.toNat_natCast, Bool.not_true, Bool.not_false, Bool.false_eq_true, not_true_eq_false, not_false_eq_true, or_false, false_or, or_true, true_or, and_false, false_and, condIT]; first | done | omega)) ?_ | refine wT (by first | omega | (simp only [cl_iff, AV.le_refl, AV.le_any, OLe_refl, LeH_cons, LeH_nil, LeL_cons, LeL_nil, and_true, true_and, Bool.and_eq_true, Bool.or_eq_true, decide_eq_true_eq, notT, Bool.cond_true_left, Bool.cond_false_right, Nat.blt_eq, Nat.zero_add, cond_true, cond_false, Int.toNat_natCast, Bool.not_true, Bool.not_false, Bool.false_eq_true, not_true_eq_false, not_false_eq_true, or_false, false_or, or_true, true_or, and_false, false_and, condIT]; first | done | omega)) ?_ | refine wF (by intro _h; first | omega | (simp only [cl_iff, AV.le_refl, AV.le_any, OLe_refl, LeH_cons, LeH_nil, LeL_cons, LeL_nil, and_true, true_and, Bool.and_eq_true, Bool.or_eq_true, decide_eq_true_eq, notT, Bool.cond_true_left, Bool.cond_false_right, Nat.blt_eq, Nat.zero_add, cond_true, cond_false, Int.toNat_natCast, Bool.not_true, Bool.not_false, Bool.false_eq_true, not_true_eq_false, not_false_eq_true, or_false, false_or, or_true, true_or, and_false, false_and, condIT] at _h; first | done | omega)) ?_ | (refine wS ?_ ?_ <;> intro _h <;> simp only [cl_iff, AV.le_refl, AV.le_any, OLe_refl, LeH_cons, LeH_nil, LeL_cons, LeL_nil, and_true, true_and, Bool.and_eq_true, Bool.or_eq_true, decide_eq_true_eq, notT, Bool.cond_true_left, Bool.cond_false_right, Nat.blt_eq, Nat.zero_add, cond_true, cond_false, Int.toNat_natCast, Bool.not_true, Bool.not_false, Bool.false_eq_true, not_true_eq_false, not_false_eq_true, or_false, false_or, or_true, true_or, and_false, false_and, condIT] at _h))
    all_goals simp only [or_true, true_or, false_or, or_false, and_false, false_and, cond_true, cond_false, Bool.not_true, Bool.not_false, Bool.false_eq_true, Bool.true_eq_false, not_true_eq_false, not_false_eq_true, false_implies, true_implies, implies_true, Nat.blt_eq, owesN, owesX, owesR, notT, sat_brT, sat_brF, sat_chkT, cl_iff, cl_false, AV.le_refl, AV.le_any, OLe_refl, OLe_none, sat_brN, Tree.sat_chk, Tree.sat_leaf, Tree.sat_fail, Nat.zero_add, Nat.sub_zero, Int.toNat_natCast, LeH_cons, LeH_nil, LeL_cons, LeL_nil, and_true, true_and, Bool.and_eq_true, Bool.or_eq_true, decide_eq_true_eq, decide_eq_false_iff_not, Bool.cond_true_left, Bool.cond_false_right, List.cons_append, List.nil_append, List.map_cons, List.map_nil]
    repeat' (first | apply And.intro | intro _hc)
    all_goals first | exact AV.le_refl _ | exact AV.le_any _ | exact OLe.refl _ | exact OLe.none _ | exact LeH.refl _ | exact LeL.refl _ | exact AV.le.bs _ | exact AV.le.sb _ | omega | contradiction
  have e1 : erN true = 0 := rfl
  have e0 : erN false = 20 := rfl
  have q1 : ¬ ((20 : Int) = 0) := by decide
  have hx := ext_two (s := a) (q := cutP a n) cutP_le
  obtain ⟨hc1, hc2⟩ := cut_len (s := a) (n := n)
  have hq := cutP_le (s := a) (n := n)
  have z1 : (a.extract 0 (cutP a n)).size = cutP a n - 0 := ext_size _ _ _ hq
  have z2 : (a.extract (cutP a n) a.size).size = a.size - cutP a n := ext_size _ _ _ (Nat.le_refl _)
  have hl : (rns a 0).length ≤ a.size - 0 := rns_len
  have hw : IntKind.wrap IntKind.i64 (((rns (a.extract 0 (cutP a n)) 0).length : Int) + ((rns (a.extract (cutP a n) a.size) 0).length : Int)) = ((rns a 0).length : Int) := by
    rw [wrap64 (by omega) (by omega)]; omega
  have hfz : (foldB a).size ≤ 4 * (a.size - 0) := foldFrom_size a 0
  have hA : ∀ d e : ByteArray, lessB a d = true → lessB d e = true → lessB a e = true := fun d e => less_trans
  have two : ∀ p : Bool, (p == !p) = false := fun p => by cases p <;> rfl
  by_cases hab : a = b
  · subst hab
    have hs := less_self a
    cases hf : foldOk a with
    | true =>
      obtain ⟨f1, f2, f3, f4⟩ := fold_ok hf
      cases hbc : lessB a c with
      | true =>
        repeat' (first | refine wC (by first | omega | (simp only [cl_iff, AV.le_refl, AV.le_any, OLe_refl, LeH_cons, LeH_nil, LeL_cons, LeL_nil, and_true, true_and, Bool.and_eq_true, Bool.or_eq_true, decide_eq_true_eq, notT, Bool.cond_true_left, Bool.cond_false_right, Nat.blt_eq, Nat.zero_add, cond_true, cond_false, Int.toNat_natCast, Bool.not_true, Bool.not_false, Bool.false_eq_true, not_true_eq_false, not_false_eq_true, or_false, false_or, or_true, true_or, and_false, false_and, condIT, e1, e0, q1, hf, f1, f2, f3, f4, hx, hw, z1, z2, hs, hbc, decide_true, decide_false]; first | done | omega)) ?_ | refine wT (by first | omega | (simp only [cl_iff, AV.le_refl, AV.le_any, OLe_refl, LeH_cons, LeH_nil, LeL_cons, LeL_nil, and_true, true_and, Bool.and_eq_true, Bool.or_eq_true, decide_eq_true_eq, notT, Bool.cond_true_left, Bool.cond_false_right, Nat.blt_eq, Nat.zero_add, cond_true, cond_false, Int.toNat_natCast, Bool.not_true, Bool.not_false, Bool.false_eq_true, not_true_eq_false, not_false_eq_true, or_false, false_or, or_true, true_or, and_false, false_and, condIT, e1, e0, q1, hf, f1, f2, f3, f4, hx, hw, z1, z2, hs, hbc, decide_true, decide_false]; first | done | omega)) ?_ | refine wF (by intro _h; first | omega | (simp only [cl_iff, AV.le_refl, AV.le_any, OLe_refl, LeH_cons, LeH_nil, LeL_cons, LeL_nil, and_true, true_and, Bool.and_eq_true, Bool.or_eq_true, decide_eq_true_eq, notT, Bool.cond_true_left, Bool.cond_false_right, Nat.blt_eq, Nat.zero_add, cond_true, cond_false, Int.toNat_natCast, Bool.not_true, Bool.not_false, Bool.false_eq_true, not_true_eq_false, not_false_eq_true, or_false, false_or, or_true, true_or, and_false, false_and, condIT, e1, e0, q1, hf, f1, f2, f3, f4, hx, hw, z1, z2, hs, hbc, decide_true, decide_false] at _h; first | done | omega)) ?_ | (refine wS ?_ ?_ <;> intro _h <;> simp only [cl_iff, AV.le_refl, AV.le_any, OLe_refl, LeH_cons, LeH_nil, LeL_cons, LeL_nil, and_true, true_and, Bool.and_eq_true, Bool.or_eq_true, decide_eq_true_eq, notT, Bool.cond_true_left, Bool.cond_false_right, Nat.blt_eq, Nat.zero_add, cond_true, cond_false, Int.toNat_natCast, Bool.not_true, Bool.not_false, Bool.false_eq_true, not_true_eq_false, not_false_eq_true, or_false, false_or, or_true, true_or, and_false, false_and, condIT, e1, e0, q1, hf, f1, f2, f3, f4, hx, hw, z1, z2, hs, hbc, decide_true, decide_false] at _h))
        all_goals simp only [or_true, true_or, false_or, or_false, and_false, false_and, cond_true, cond_false, Bool.not_true, Bool.not_false, Bool.false_eq_true, Bool.true_eq_false, not_true_eq_false, not_false_eq_true, false_implies, true_implies, implies_true, Nat.blt_eq, owesN, owesX, owesR, notT, sat_brT, sat_brF, sat_chkT, cl_iff, cl_false, AV.le_refl, AV.le_any, OLe_refl, OLe_none, sat_brN, Tree.sat_chk, Tree.sat_leaf, Tree.sat_fail, Nat.zero_add, Nat.sub_zero, Int.toNat_natCast, LeH_cons, LeH_nil, LeL_cons, LeL_nil, and_true, true_and, Bool.and_eq_true, Bool.or_eq_true, decide_eq_true_eq, decide_eq_false_iff_not, Bool.cond_true_left, Bool.cond_false_right, List.cons_append, List.nil_append, List.map_cons, List.map_nil, e1, e0, q1, hf, f1, f2, f3, f4, hx, hw, z1, z2, hs, hbc, decide_true, decide_false]
        repeat' (first | apply And.intro | intro _hc)
        all_goals first | exact AV.le_refl _ | exact AV.le_any _ | exact OLe.refl _ | exact OLe.none _ | exact LeH.refl _ | exact LeL.refl _ | exact AV.le.bs _ | exact AV.le.sb _ | omega | contradiction
      | false =>
        repeat' (first | refine wC (by first | omega | (simp only [cl_iff, AV.le_refl, AV.le_any, OLe_refl, LeH_cons, LeH_nil, LeL_cons, LeL_nil, and_true, true_and, Bool.and_eq_true, Bool.or_eq_true, decide_eq_true_eq, notT, Bool.cond_true_left, Bool.cond_false_right, Nat.blt_eq, Nat.zero_add, cond_true, cond_false, Int.toNat_natCast, Bool.not_true, Bool.not_false, Bool.false_eq_true, not_true_eq_false, not_false_eq_true, or_false, false_or, or_true, true_or, and_false, false_and, condIT, e1, e0, q1, hf, f1, f2, f3, f4, hx, hw, z1, z2, hs, hbc, decide_true, decide_false]; first | done | omega)) ?_ | refine wT (by first | omega | (simp only [cl_iff, AV.le_refl, AV.le_any, OLe_refl, LeH_cons, LeH_nil, LeL_cons, LeL_nil, and_true, true_and, Bool.and_eq_true, Bool.or_eq_true, decide_eq_true_eq, notT, Bool.cond_true_left, Bool.cond_false_right, Nat.blt_eq, Nat.zero_add, cond_true, cond_false, Int.toNat_natCast, Bool.not_true, Bool.not_false, Bool.false_eq_true, not_true_eq_false, not_false_eq_true, or_false, false_or, or_true, true_or, and_false, false_and, condIT, e1, e0, q1, hf, f1, f2, f3, f4, hx, hw, z1, z2, hs, hbc, decide_true, decide_false]; first | done | omega)) ?_ | refine wF (by intro _h; first | omega | (simp only [cl_iff, AV.le_refl, AV.le_any, OLe_refl, LeH_cons, LeH_nil, LeL_cons, LeL_nil, and_true, true_and, Bool.and_eq_true, Bool.or_eq_true, decide_eq_true_eq, notT, Bool.cond_true_left, Bool.cond_false_right, Nat.blt_eq, Nat.zero_add, cond_true, cond_false, Int.toNat_natCast, Bool.not_true, Bool.not_false, Bool.false_eq_true, not_true_eq_false, not_false_eq_true, or_false, false_or, or_true, true_or, and_false, false_and, condIT, e1, e0, q1, hf, f1, f2, f3, f4, hx, hw, z1, z2, hs, hbc, decide_true, decide_false] at _h; first | done | omega)) ?_ | (refine wS ?_ ?_ <;> intro _h <;> simp only [cl_iff, AV.le_refl, AV.le_any, OLe_refl, LeH_cons, LeH_nil, LeL_cons, LeL_nil, and_true, true_and, Bool.and_eq_true, Bool.or_eq_true, decide_eq_true_eq, notT, Bool.cond_true_left, Bool.cond_false_right, Nat.blt_eq, Nat.zero_add, cond_true, cond_false, Int.toNat_natCast, Bool.not_true, Bool.not_false, Bool.false_eq_true, not_true_eq_false, not_false_eq_true, or_false, false_or, or_true, true_or, and_false, false_and, condIT, e1, e0, q1, hf, f1, f2, f3, f4, hx, hw, z1, z2, hs, hbc, decide_true, decide_false] at _h))
        all_goals simp only [or_true, true_or, false_or, or_false, and_false, false_and, cond_true, cond_false, Bool.not_true, Bool.not_false, Bool.false_eq_true, Bool.true_eq_false, not_true_eq_false, not_false_eq_true, false_implies, true_implies, implies_true, Nat.blt_eq, owesN, owesX, owesR, notT, sat_brT, sat_brF, sat_chkT, cl_iff, cl_false, AV.le_refl, AV.le_any, OLe_refl, OLe_none, sat_brN, Tree.sat_chk, Tree.sat_leaf, Tree.sat_fail, Nat.zero_add, Nat.sub_zero, Int.toNat_natCast, LeH_cons, LeH_nil, LeL_cons, LeL_nil, and_true, true_and, Bool.and_eq_true, Bool.or_eq_true, decide_eq_true_eq, decide_eq_false_iff_not, Bool.cond_true_left, Bool.cond_false_right, List.cons_append, List.nil_append, List.map_cons, List.map_nil, e1, e0, q1, hf, f1, f2, f3, f4, hx, hw, z1, z2, hs, hbc, decide_true, decide_false]
        repeat' (first | apply And.intro | intro _hc)
        all_goals first | exact AV.le_refl _ | exact AV.le_any _ | exact OLe.refl _ | exact OLe.none _ | exact LeH.refl _ | exact LeL.refl _ | exact AV.le.bs _ | exact AV.le.sb _ | omega | contradiction
    | false =>
      cases hbc : lessB a c with
      | true =>
        repeat' (first | refine wC (by first | omega | (simp only [cl_iff, AV.le_refl, AV.le_any, OLe_refl, LeH_cons, LeH_nil, LeL_cons, LeL_nil, and_true, true_and, Bool.and_eq_true, Bool.or_eq_true, decide_eq_true_eq, notT, Bool.cond_true_left, Bool.cond_false_right, Nat.blt_eq, Nat.zero_add, cond_true, cond_false, Int.toNat_natCast, Bool.not_true, Bool.not_false, Bool.false_eq_true, not_true_eq_false, not_false_eq_true, or_false, false_or, or_true, true_or, and_false, false_and, condIT, e1, e0, q1, hf, hx, hw, z1, z2, hs, hbc, decide_true, decide_false]; first | done | omega)) ?_ | refine wT (by first | omega | (simp only [cl_iff, AV.le_refl, AV.le_any, OLe_refl, LeH_cons, LeH_nil, LeL_cons, LeL_nil, and_true, true_and, Bool.and_eq_true, Bool.or_eq_true, decide_eq_true_eq, notT, Bool.cond_true_left, Bool.cond_false_right, Nat.blt_eq, Nat.zero_add, cond_true, cond_false, Int.toNat_natCast, Bool.not_true, Bool.not_false, Bool.false_eq_true, not_true_eq_false, not_false_eq_true, or_false, false_or, or_true, true_or, and_false, false_and, condIT, e1, e0, q1, hf, hx, hw, z1, z2, hs, hbc, decide_true, decide_false]; first | done | omega)) ?_ | refine wF (by intro _h; first | omega | (simp only [cl_iff, AV.le_refl, AV.le_any, OLe_refl, LeH_cons, LeH_nil, LeL_cons, LeL_nil, and_true, true_and, Bool.and_eq_true, Bool.or_eq_true, decide_eq_true_eq, notT, Bool.cond_true_left, Bool.cond_false_right, Nat.blt_eq, Nat.zero_add, cond_true, cond_false, Int.toNat_natCast, Bool.not_true, Bool.not_false, Bool.false_eq_true, not_true_eq_false, not_false_eq_true, or_false, false_or, or_true, true_or, and_false, false_and, condIT, e1, e0, q1, hf, hx, hw, z1, z2, hs, hbc, decide_true, decide_false] at _h; first | done | omega)) ?_ | (refine wS ?_ ?_ <;> intro _h <;> simp only [cl_iff, AV.le_refl, AV.le_any, OLe_refl, LeH_cons, LeH_nil, LeL_cons, LeL_nil, and_true, true_and, Bool.and_eq_true, Bool.or_eq_true, decide_eq_true_eq, notT, Bool.cond_true_left, Bool.cond_false_right, Nat.blt_eq, Nat.zero_add, cond_true, cond_false, Int.toNat_natCast, Bool.not_true, Bool.not_false, Bool.false_eq_true, not_true_eq_false, not_false_eq_true, or_false, false_or, or_true, true_or, and_false, false_and, condIT, e1, e0, q1, hf, hx, hw, z1, z2, hs, hbc, decide_true, decide_false] at _h))
        all_goals simp only [or_true, true_or, false_or, or_false, and_false, false_and, cond_true, cond_false, Bool.not_true, Bool.not_false, Bool.false_eq_true, Bool.true_eq_false, not_true_eq_false, not_false_eq_true, false_implies, true_implies, implies_true, Nat.blt_eq, owesN, owesX, owesR, notT, sat_brT, sat_brF, sat_chkT, cl_iff, cl_false, AV.le_refl, AV.le_any, OLe_refl, OLe_none, sat_brN, Tree.sat_chk, Tree.sat_leaf, Tree.sat_fail, Nat.zero_add, Nat.sub_zero, Int.toNat_natCast, LeH_cons, LeH_nil, LeL_cons, LeL_nil, and_true, true_and, Bool.and_eq_true, Bool.or_eq_true, decide_eq_true_eq, decide_eq_false_iff_not, Bool.cond_true_left, Bool.cond_false_right, List.cons_append, List.nil_append, List.map_cons, List.map_nil, e1, e0, q1, hf, hx, hw, z1, z2, hs, hbc, decide_true, decide_false]
        repeat' (first | apply And.intro | intro _hc)
        all_goals first | exact AV.le_refl _ | exact AV.le_any _ | exact OLe.refl _ | exact OLe.none _ | exact LeH.refl _ | exact LeL.refl _ | exact AV.le.bs _ | exact AV.le.sb _ | omega | contradiction
      | false =>
        repeat' (first | refine wC (by first | omega | (simp only [cl_iff, AV.le_refl, AV.le_any, OLe_refl, LeH_cons, LeH_nil, LeL_cons, LeL_nil, and_true, true_and, Bool.and_eq_true, Bool.or_eq_true, decide_eq_true_eq, notT, Bool.cond_true_left, Bool.cond_false_right, Nat.blt_eq, Nat.zero_add, cond_true, cond_false, Int.toNat_natCast, Bool.not_true, Bool.not_false, Bool.false_eq_true, not_true_eq_false, not_false_eq_true, or_false, false_or, or_true, true_or, and_false, false_and, condIT, e1, e0, q1, hf, hx, hw, z1, z2, hs, hbc, decide_true, decide_false]; first | done | omega)) ?_ | refine wT (by first | omega | (simp only [cl_iff, AV.le_refl, AV.le_any, OLe_refl, LeH_cons, LeH_nil, LeL_cons, LeL_nil, and_true, true_and, Bool.and_eq_true, Bool.or_eq_true, decide_eq_true_eq, notT, Bool.cond_true_left, Bool.cond_false_right, Nat.blt_eq, Nat.zero_add, cond_true, cond_false, Int.toNat_natCast, Bool.not_true, Bool.not_false, Bool.false_eq_true, not_true_eq_false, not_false_eq_true, or_false, false_or, or_true, true_or, and_false, false_and, condIT, e1, e0, q1, hf, hx, hw, z1, z2, hs, hbc, decide_true, decide_false]; first | done | omega)) ?_ | refine wF (by intro _h; first | omega | (simp only [cl_iff, AV.le_refl, AV.le_any, OLe_refl, LeH_cons, LeH_nil, LeL_cons, LeL_nil, and_true, true_and, Bool.and_eq_true, Bool.or_eq_true, decide_eq_true_eq, notT, Bool.cond_true_left, Bool.cond_false_right, Nat.blt_eq, Nat.zero_add, cond_true, cond_false, Int.toNat_natCast, Bool.not_true, Bool.not_false, Bool.false_eq_true, not_true_eq_false, not_false_eq_true, or_false, false_or, or_true, true_or, and_false, false_and, condIT, e1, e0, q1, hf, hx, hw, z1, z2, hs, hbc, decide_true, decide_false] at _h; first | done | omega)) ?_ | (refine wS ?_ ?_ <;> intro _h <;> simp only [cl_iff, AV.le_refl, AV.le_any, OLe_refl, LeH_cons, LeH_nil, LeL_cons, LeL_nil, and_true, true_and, Bool.and_eq_true, Bool.or_eq_true, decide_eq_true_eq, notT, Bool.cond_true_left, Bool.cond_false_right, Nat.blt_eq, Nat.zero_add, cond_true, cond_false, Int.toNat_natCast, Bool.not_true, Bool.not_false, Bool.false_eq_true, not_true_eq_false, not_false_eq_true, or_false, false_or, or_true, true_or, and_false, false_and, condIT, e1, e0, q1, hf, hx, hw, z1, z2, hs, hbc, decide_true, decide_false] at _h))
        all_goals simp only [or_true, true_or, false_or, or_false, and_false, false_and, cond_true, cond_false, Bool.not_true, Bool.not_false, Bool.false_eq_true, Bool.true_eq_false, not_true_eq_false, not_false_eq_true, false_implies, true_implies, implies_true, Nat.blt_eq, owesN, owesX, owesR, notT, sat_brT, sat_brF, sat_chkT, cl_iff, cl_false, AV.le_refl, AV.le_any, OLe_refl, OLe_none, sat_brN, Tree.sat_chk, Tree.sat_leaf, Tree.sat_fail, Nat.zero_add, Nat.sub_zero, Int.toNat_natCast, LeH_cons, LeH_nil, LeL_cons, LeL_nil, and_true, true_and, Bool.and_eq_true, Bool.or_eq_true, decide_eq_true_eq, decide_eq_false_iff_not, Bool.cond_true_left, Bool.cond_false_right, List.cons_append, List.nil_append, List.map_cons, List.map_nil, e1, e0, q1, hf, hx, hw, z1, z2, hs, hbc, decide_true, decide_false]
        repeat' (first | apply And.intro | intro _hc)
        all_goals first | exact AV.le_refl _ | exact AV.le_any _ | exact OLe.refl _ | exact OLe.none _ | exact LeH.refl _ | exact LeL.refl _ | exact AV.le.bs _ | exact AV.le.sb _ | omega | contradiction
  · have ho := less_other hab
    cases hf : foldOk a with
    | true =>
      obtain ⟨f1, f2, f3, f4⟩ := fold_ok hf
      cases h1 : lessB a b with
      | true =>
        rw [h1] at ho
        cases hbc : lessB b c with
        | true =>
          have hac := hA b c h1 hbc
          repeat' (first | refine wC (by first | omega | (simp only [cl_iff, AV.le_refl, AV.le_any, OLe_refl, LeH_cons, LeH_nil, LeL_cons, LeL_nil, and_true, true_and, Bool.and_eq_true, Bool.or_eq_true, decide_eq_true_eq, notT, Bool.cond_true_left, Bool.cond_false_right, Nat.blt_eq, Nat.zero_add, cond_true, cond_false, Int.toNat_natCast, Bool.not_true, Bool.not_false, Bool.false_eq_true, not_true_eq_false, not_false_eq_true, or_false, false_or, or_true, true_or, and_false, false_and, condIT, e1, e0, q1, hf, f1, f2, f3, f4, hx, hw, z1, z2, hab, ho, h1, hbc, hac, decide_true, decide_false]; first | done | omega)) ?_ | refine wT (by first | omega | (simp only [cl_iff, AV.le_refl, AV.le_any, OLe_refl, LeH_cons, LeH_nil, LeL_cons, LeL_nil, and_true, true_and, Bool.and_eq_true, Bool.or_eq_true, decide_eq_true_eq, notT, Bool.cond_true_left, Bool.cond_false_right, Nat.blt_eq, Nat.zero_add, cond_true, cond_false, Int.toNat_natCast, Bool.not_true, Bool.not_false, Bool.false_eq_true, not_true_eq_false, not_false_eq_true, or_false, false_or, or_true, true_or, and_false, false_and, condIT, e1, e0, q1, hf, f1, f2, f3, f4, hx, hw, z1, z2, hab, ho, h1, hbc, hac, decide_true, decide_false]; first | done | omega)) ?_ | refine wF (by intro _h; first | omega | (simp only [cl_iff, AV.le_refl, AV.le_any, OLe_refl, LeH_cons, LeH_nil, LeL_cons, LeL_nil, and_true, true_and, Bool.and_eq_true, Bool.or_eq_true, decide_eq_true_eq, notT, Bool.cond_true_left, Bool.cond_false_right, Nat.blt_eq, Nat.zero_add, cond_true, cond_false, Int.toNat_natCast, Bool.not_true, Bool.not_false, Bool.false_eq_true, not_true_eq_false, not_false_eq_true, or_false, false_or, or_true, true_or, and_false, false_and, condIT, e1, e0, q1, hf, f1, f2, f3, f4, hx, hw, z1, z2, hab, ho, h1, hbc, hac, decide_true, decide_false] at _h; first | done | omega)) ?_ | (refine wS ?_ ?_ <;> intro _h <;> simp only [cl_iff, AV.le_refl, AV.le_any, OLe_refl, LeH_cons, LeH_nil, LeL_cons, LeL_nil, and_true, true_and, Bool.and_eq_true, Bool.or_eq_true, decide_eq_true_eq, notT, Bool.cond_true_left, Bool.cond_false_right, Nat.blt_eq, Nat.zero_add, cond_true, cond_false, Int.toNat_natCast, Bool.not_true, Bool.not_false, Bool.false_eq_true, not_true_eq_false, not_false_eq_true, or_false, false_or, or_true, true_or, and_false, false_and, condIT, e1, e0, q1, hf, f1, f2, f3, f4, hx, hw, z1, z2, hab, ho, h1, hbc, hac, decide_true, decide_false] at _h))
          all_goals simp only [or_true, true_or, false_or, or_false, and_false, false_and, cond_true, cond_false, Bool.not_true, Bool.not_false, Bool.false_eq_true, Bool.true_eq_false, not_true_eq_false, not_false_eq_true, false_implies, true_implies, implies_true, Nat.blt_eq, owesN, owesX, owesR, notT, sat_brT, sat_brF, sat_chkT, cl_iff, cl_false, AV.le_refl, AV.le_any, OLe_refl, OLe_none, sat_brN, Tree.sat_chk, Tree.sat_leaf, Tree.sat_fail, Nat.zero_add, Nat.sub_zero, Int.toNat_natCast, LeH_cons, LeH_nil, LeL_cons, LeL_nil, and_true, true_and, Bool.and_eq_true, Bool.or_eq_true, decide_eq_true_eq, decide_eq_false_iff_not, Bool.cond_true_left, Bool.cond_false_right, List.cons_append, List.nil_append, List.map_cons, List.map_nil, e1, e0, q1, hf, f1, f2, f3, f4, hx, hw, z1, z2, hab, ho, h1, hbc, hac, decide_true, decide_false]
          repeat' (first | apply And.intro | intro _hc)
          all_goals first | exact AV.le_refl _ | exact AV.le_any _ | exact OLe.refl _ | exact OLe.none _ | exact LeH.refl _ | exact LeL.refl _ | exact AV.le.bs _ | exact AV.le.sb _ | omega | contradiction
        | false =>
          repeat' (first | refine wC (by first | omega | (simp only [cl_iff, AV.le_refl, AV.le_any, OLe_refl, LeH_cons, LeH_nil, LeL_cons, LeL_nil, and_true, true_and, Bool.and_eq_true, Bool.or_eq_true, decide_eq_true_eq, notT, Bool.cond_true_left, Bool.cond_false_right, Nat.blt_eq, Nat.zero_add, cond_true, cond_false, Int.toNat_natCast, Bool.not_true, Bool.not_false, Bool.false_eq_true, not_true_eq_false, not_false_eq_true, or_false, false_or, or_true, true_or, and_false, false_and, condIT, e1, e0, q1, hf, f1, f2, f3, f4, hx, hw, z1, z2, hab, ho, h1, hbc, decide_true, decide_false]; first | done | omega)) ?_ | refine wT (by first | omega | (simp only [cl_iff, AV.le_refl, AV.le_any, OLe_refl, LeH_cons, LeH_nil, LeL_cons, LeL_nil, and_true, true_and, Bool.and_eq_true, Bool.or_eq_true, decide_eq_true_eq, notT, Bool.cond_true_left, Bool.cond_false_right, Nat.blt_eq, Nat.zero_add, cond_true, cond_false, Int.toNat_natCast, Bool.not_true, Bool.not_false, Bool.false_eq_true, not_true_eq_false, not_false_eq_true, or_false, false_or, or_true, true_or, and_false, false_and, condIT, e1, e0, q1, hf, f1, f2, f3, f4, hx, hw, z1, z2, hab, ho, h1, hbc, decide_true, decide_false]; first | done | omega)) ?_ | refine wF (by intro _h; first | omega | (simp only [cl_iff, AV.le_refl, AV.le_any, OLe_refl, LeH_cons, LeH_nil, LeL_cons, LeL_nil, and_true, true_and, Bool.and_eq_true, Bool.or_eq_true, decide_eq_true_eq, notT, Bool.cond_true_left, Bool.cond_false_right, Nat.blt_eq, Nat.zero_add, cond_true, cond_false, Int.toNat_natCast, Bool.not_true, Bool.not_false, Bool.false_eq_true, not_true_eq_false, not_false_eq_true, or_false, false_or, or_true, true_or, and_false, false_and, condIT, e1, e0, q1, hf, f1, f2, f3, f4, hx, hw, z1, z2, hab, ho, h1, hbc, decide_true, decide_false] at _h; first | done | omega)) ?_ | (refine wS ?_ ?_ <;> intro _h <;> simp only [cl_iff, AV.le_refl, AV.le_any, OLe_refl, LeH_cons, LeH_nil, LeL_cons, LeL_nil, and_true, true_and, Bool.and_eq_true, Bool.or_eq_true, decide_eq_true_eq, notT, Bool.cond_true_left, Bool.cond_false_right, Nat.blt_eq, Nat.zero_add, cond_true, cond_false, Int.toNat_natCast, Bool.not_true, Bool.not_false, Bool.false_eq_true, not_true_eq_false, not_false_eq_true, or_false, false_or, or_true, true_or, and_false, false_and, condIT, e1, e0, q1, hf, f1, f2, f3, f4, hx, hw, z1, z2, hab, ho, h1, hbc, decide_true, decide_false] at _h))
          all_goals simp only [or_true, true_or, false_or, or_false, and_false, false_and, cond_true, cond_false, Bool.not_true, Bool.not_false, Bool.false_eq_true, Bool.true_eq_false, not_true_eq_false, not_false_eq_true, false_implies, true_implies, implies_true, Nat.blt_eq, owesN, owesX, owesR, notT, sat_brT, sat_brF, sat_chkT, cl_iff, cl_false, AV.le_refl, AV.le_any, OLe_refl, OLe_none, sat_brN, Tree.sat_chk, Tree.sat_leaf, Tree.sat_fail, Nat.zero_add, Nat.sub_zero, Int.toNat_natCast, LeH_cons, LeH_nil, LeL_cons, LeL_nil, and_true, true_and, Bool.and_eq_true, Bool.or_eq_true, decide_eq_true_eq, decide_eq_false_iff_not, Bool.cond_true_left, Bool.cond_false_right, List.cons_append, List.nil_append, List.map_cons, List.map_nil, e1, e0, q1, hf, f1, f2, f3, f4, hx, hw, z1, z2, hab, ho, h1, hbc, decide_true, decide_false]
          repeat' (first | apply And.intro | intro _hc)
          all_goals first | exact AV.le_refl _ | exact AV.le_any _ | exact OLe.refl _ | exact OLe.none _ | exact LeH.refl _ | exact LeL.refl _ | exact AV.le.bs _ | exact AV.le.sb _ | omega | contradiction
      | false =>
        rw [h1] at ho
        repeat' (first | refine wC (by first | omega | (simp only [cl_iff, AV.le_refl, AV.le_any, OLe_refl, LeH_cons, LeH_nil, LeL_cons, LeL_nil, and_true, true_and, Bool.and_eq_true, Bool.or_eq_true, decide_eq_true_eq, notT, Bool.cond_true_left, Bool.cond_false_right, Nat.blt_eq, Nat.zero_add, cond_true, cond_false, Int.toNat_natCast, Bool.not_true, Bool.not_false, Bool.false_eq_true, not_true_eq_false, not_false_eq_true, or_false, false_or, or_true, true_or, and_false, false_and, condIT, e1, e0, q1, hf, f1, f2, f3, f4, hx, hw, z1, z2, hab, ho, h1, decide_true, decide_false]; first | done | omega)) ?_ | refine wT (by first | omega | (simp only [cl_iff, AV.le_refl, AV.le_any, OLe_refl, LeH_cons, LeH_nil, LeL_cons, LeL_nil, and_true, true_and, Bool.and_eq_true, Bool.or_eq_true, decide_eq_true_eq, notT, Bool.cond_true_left, Bool.cond_false_right, Nat.blt_eq, Nat.zero_add, cond_true, cond_false, Int.toNat_natCast, Bool.not_true, Bool.not_false, Bool.false_eq_true, not_true_eq_false, not_false_eq_true, or_false, false_or, or_true, true_or, and_false, false_and, condIT, e1, e0, q1, hf, f1, f2, f3, f4, hx, hw, z1, z2, hab, ho, h1, decide_true, decide_false]; first | done | omega)) ?_ | refine wF (by intro _h; first | omega | (simp only [cl_iff, AV.le_refl, AV.le_any, OLe_refl, LeH_cons, LeH_nil, LeL_cons, LeL_nil, and_true, true_and, Bool.and_eq_true, Bool.or_eq_true, decide_eq_true_eq, notT, Bool.cond_true_left, Bool.cond_false_right, Nat.blt_eq, Nat.zero_add, cond_true, cond_false, Int.toNat_natCast, Bool.not_true, Bool.not_false, Bool.false_eq_true, not_true_eq_false, not_false_eq_true, or_false, false_or, or_true, true_or, and_false, false_and, condIT, e1, e0, q1, hf, f1, f2, f3, f4, hx, hw, z1, z2, hab, ho, h1, decide_true, decide_false] at _h; first | done | omega)) ?_ | (refine wS ?_ ?_ <;> intro _h <;> simp only [cl_iff, AV.le_refl, AV.le_any, OLe_refl, LeH_cons, LeH_nil, LeL_cons, LeL_nil, and_true, true_and, Bool.and_eq_true, Bool.or_eq_true, decide_eq_true_eq, notT, Bool.cond_true_left, Bool.cond_false_right, Nat.blt_eq, Nat.zero_add, cond_true, cond_false, Int.toNat_natCast, Bool.not_true, Bool.not_false, Bool.false_eq_true, not_true_eq_false, not_false_eq_true, or_false, false_or, or_true, true_or, and_false, false_and, condIT, e1, e0, q1, hf, f1, f2, f3, f4, hx, hw, z1, z2, hab, ho, h1, decide_true, decide_false] at _h))
        all_goals simp only [or_true, true_or, false_or, or_false, and_false, false_and, cond_true, cond_false, Bool.not_true, Bool.not_false, Bool.false_eq_true, Bool.true_eq_false, not_true_eq_false, not_false_eq_true, false_implies, true_implies, implies_true, Nat.blt_eq, owesN, owesX, owesR, notT, sat_brT, sat_brF, sat_chkT, cl_iff, cl_false, AV.le_refl, AV.le_any, OLe_refl, OLe_none, sat_brN, Tree.sat_chk, Tree.sat_leaf, Tree.sat_fail, Nat.zero_add, Nat.sub_zero, Int.toNat_natCast, LeH_cons, LeH_nil, LeL_cons, LeL_nil, and_true, true_and, Bool.and_eq_true, Bool.or_eq_true, decide_eq_true_eq, decide_eq_false_iff_not, Bool.cond_true_left, Bool.cond_false_right, List.cons_append, List.nil_append, List.map_cons, List.map_nil, e1, e0, q1, hf, f1, f2, f3, f4, hx, hw, z1, z2, hab, ho, h1, decide_true, decide_false]
        repeat' (first | apply And.intro | intro _hc)
        all_goals first | exact AV.le_refl _ | exact AV.le_any _ | exact OLe.refl _ | exact OLe.none _ | exact LeH.refl _ | exact LeL.refl _ | exact AV.le.bs _ | exact AV.le.sb _ | omega | contradiction
    | false =>
      cases h1 : lessB a b with
      | true =>
        rw [h1] at ho
        cases hbc : lessB b c with
        | true =>
          have hac := hA b c h1 hbc
          repeat' (first | refine wC (by first | omega | (simp only [cl_iff, AV.le_refl, AV.le_any, OLe_refl, LeH_cons, LeH_nil, LeL_cons, LeL_nil, and_true, true_and, Bool.and_eq_true, Bool.or_eq_true, decide_eq_true_eq, notT, Bool.cond_true_left, Bool.cond_false_right, Nat.blt_eq, Nat.zero_add, cond_true, cond_false, Int.toNat_natCast, Bool.not_true, Bool.not_false, Bool.false_eq_true, not_true_eq_false, not_false_eq_true, or_false, false_or, or_true, true_or, and_false, false_and, condIT, e1, e0, q1, hf, hx, hw, z1, z2, hab, ho, h1, hbc, hac, decide_true, decide_false]; first | done | omega)) ?_ | refine wT (by first | omega | (simp only [cl_iff, AV.le_refl, AV.le_any, OLe_refl, LeH_cons, LeH_nil, LeL_cons, LeL_nil, and_true, true_and, Bool.and_eq_true, Bool.or_eq_true, decide_eq_true_eq, notT, Bool.cond_true_left, Bool.cond_false_right, Nat.blt_eq, Nat.zero_add, cond_true, cond_false, Int.toNat_natCast, Bool.not_true, Bool.not_false, Bool.false_eq_true, not_true_eq_false, not_false_eq_true, or_false, false_or, or_true, true_or, and_false, false_and, condIT, e1, e0, q1, hf, hx, hw, z1, z2, hab, ho, h1, hbc, hac, decide_true, decide_false]; first | done | omega)) ?_ | refine wF (by intro _h; first | omega | (simp only [cl_iff, AV.le_refl, AV.le_any, OLe_refl, LeH_cons, LeH_nil, LeL_cons, LeL_nil, and_true, true_and, Bool.and_eq_true, Bool.or_eq_true, decide_eq_true_eq, notT, Bool.cond_true_left, Bool.cond_false_right, Nat.blt_eq, Nat.zero_add, cond_true, cond_false, Int.toNat_natCast, Bool.not_true, Bool.not_false, Bool.false_eq_true, not_true_eq_false, not_false_eq_true, or_false, false_or, or_true, true_or, and_false, false_and, condIT, e1, e0, q1, hf, hx, hw, z1, z2, hab, ho, h1, hbc, hac, decide_true, decide_false] at _h; first | done | omega)) ?_ | (refine wS ?_ ?_ <;> intro _h <;> simp only [cl_iff, AV.le_refl, AV.le_any, OLe_refl, LeH_cons, LeH_nil, LeL_cons, LeL_nil, and_true, true_and, Bool.and_eq_true, Bool.or_eq_true, decide_eq_true_eq, notT, Bool.cond_true_left, Bool.cond_false_right, Nat.blt_eq, Nat.zero_add, cond_true, cond_false, Int.toNat_natCast, Bool.not_true, Bool.not_false, Bool.false_eq_true, not_true_eq_false, not_false_eq_true, or_false, false_or, or_true, true_or, and_false, false_and, condIT, e1, e0, q1, hf, hx, hw, z1, z2, hab, ho, h1, hbc, hac, decide_true, decide_false] at _h))
          all_goals simp only [or_true, true_or, false_or, or_false, and_false, false_and, cond_true, cond_false, Bool.not_true, Bool.not_false, Bool.false_eq_true, Bool.true_eq_false, not_true_eq_false, not_false_eq_true, false_implies, true_implies, implies_true, Nat.blt_eq, owesN, owesX, owesR, notT, sat_brT, sat_brF, sat_chkT, cl_iff, cl_false, AV.le_refl, AV.le_any, OLe_refl, OLe_none, sat_brN, Tree.sat_chk, Tree.sat_leaf, Tree.sat_fail, Nat.zero_add, Nat.sub_zero, Int.toNat_natCast, LeH_cons, LeH_nil, LeL_cons, LeL_nil, and_true, true_and, Bool.and_eq_true, Bool.or_eq_true, decide_eq_true_eq, decide_eq_false_iff_not, Bool.cond_true_left, Bool.cond_false_right, List.cons_append, List.nil_append, List.map_cons, List.map_nil, e1, e0, q1, hf, hx, hw, z1, z2, hab, ho, h1, hbc, hac, decide_true, decide_false]
          repeat' (first | apply And.intro | intro _hc)
          all_goals first | exact AV.le_refl _ | exact AV.le_any _ | exact OLe.refl _ | exact OLe.none _ | exact LeH.refl _ | exact LeL.refl _ | exact AV.le.bs _ | exact AV.le.sb _ | omega | contradiction
        | false =>
          repeat' (first | refine wC (by first | omega | (simp only [cl_iff, AV.le_refl, AV.le_any, OLe_refl, LeH_cons, LeH_nil, LeL_cons, LeL_nil, and_true, true_and, Bool.and_eq_true, Bool.or_eq_true, decide_eq_true_eq, notT, Bool.cond_true_left, Bool.cond_false_right, Nat.blt_eq, Nat.zero_add, cond_true, cond_false, Int.toNat_natCast, Bool.not_true, Bool.not_false, Bool.false_eq_true, not_true_eq_false, not_false_eq_true, or_false, false_or, or_true, true_or, and_false, false_and, condIT, e1, e0, q1, hf, hx, hw, z1, z2, hab, ho, h1, hbc, decide_true, decide_false]; first | done | omega)) ?_ | refine wT (by first | omega | (simp only [cl_iff, AV.le_refl, AV.le_any, OLe_refl, LeH_cons, LeH_nil, LeL_cons, LeL_nil, and_true, true_and, Bool.and_eq_true, Bool.or_eq_true, decide_eq_true_eq, notT, Bool.cond_true_left, Bool.cond_false_right, Nat.blt_eq, Nat.zero_add, cond_true, cond_false, Int.toNat_natCast, Bool.not_true, Bool.not_false, Bool.false_eq_true, not_true_eq_false, not_false_eq_true, or_false, false_or, or_true, true_or, and_false, false_and, condIT, e1, e0, q1, hf, hx, hw, z1, z2, hab, ho, h1, hbc, decide_true, decide_false]; first | done | omega)) ?_ | refine wF (by intro _h; first | omega | (simp only [cl_iff, AV.le_refl, AV.le_any, OLe_refl, LeH_cons, LeH_nil, LeL_cons, LeL_nil, and_true, true_and, Bool.and_eq_true, Bool.or_eq_true, decide_eq_true_eq, notT, Bool.cond_true_left, Bool.cond_false_right, Nat.blt_eq, Nat.zero_add, cond_true, cond_false, Int.toNat_natCast, Bool.not_true, Bool.not_false, Bool.false_eq_true, not_true_eq_false, not_false_eq_true, or_false, false_or, or_true, true_or, and_false, false_and, condIT, e1, e0, q1, hf, hx, hw, z1, z2, hab, ho, h1, hbc, decide_true, decide_false] at _h; first | done | omega)) ?_ | (refine wS ?_ ?_ <;> intro _h <;> simp only [cl_iff, AV.le_refl, AV.le_any, OLe_refl, LeH_cons, LeH_nil, LeL_cons, LeL_nil, and_true, true_and, Bool.and_eq_true, Bool.or_eq_true, decide_eq_true_eq, notT, Bool.cond_true_left, Bool.cond_false_right, Nat.blt_eq, Nat.zero_add, cond_true, cond_false, Int.toNat_natCast, Bool.not_true, Bool.not_false, Bool.false_eq_true, not_true_eq_false, not_false_eq_true, or_false, false_or, or_true, true_or, and_false, false_and, condIT, e1, e0, q1, hf, hx, hw, z1, z2, hab, ho, h1, hbc, decide_true, decide_false] at _h))
          all_goals simp only [or_true, true_or, false_or, or_false, and_false, false_and, cond_true, cond_false, Bool.not_true, Bool.not_false, Bool.false_eq_true, Bool.true_eq_false, not_true_eq_false, not_false_eq_true, false_implies, true_implies, implies_true, Nat.blt_eq, owesN, owesX, owesR, notT, sat_brT, sat_brF, sat_chkT, cl_iff, cl_false, AV.le_refl, AV.le_any, OLe_refl, OLe_none, sat_brN, Tree.sat_chk, Tree.sat_leaf, Tree.sat_fail, Nat.zero_add, Nat.sub_zero, Int.toNat_natCast, LeH_cons, LeH_nil, LeL_cons, LeL_nil, and_true, true_and, Bool.and_eq_true, Bool.or_eq_true, decide_eq_true_eq, decide_eq_false_iff_not, Bool.cond_true_left, Bool.cond_false_right, List.cons_append, List.nil_append, List.map_cons, List.map_nil, e1, e0, q1, hf, hx, hw, z1, z2, hab, ho, h1, hbc, decide_true, decide_false]
          repeat' (first | apply And.intro | intro _hc)
          all_goals first | exact AV.le_refl _ | exact AV.le_any _ | exact OLe.refl _ | exact OLe.none _ | exact LeH.refl _ | exact LeL.refl _ | exact AV.le.bs _ | exact AV.le.sb _ | omega | contradiction
      | false =>
        rw [h1] at ho
        repeat' (first | refine wC (by first | omega | (simp only [cl_iff, AV.le_refl, AV.le_any, OLe_refl, LeH_cons, LeH_nil, LeL_cons, LeL_nil, and_true, true_and, Bool.and_eq_true, Bool.or_eq_true, decide_eq_true_eq, notT, Bool.cond_true_left, Bool.cond_false_right, Nat.blt_eq, Nat.zero_add, cond_true, cond_false, Int.toNat_natCast, Bool.not_true, Bool.not_false, Bool.false_eq_true, not_true_eq_false, not_false_eq_true, or_false, false_or, or_true, true_or, and_false, false_and, condIT, e1, e0, q1, hf, hx, hw, z1, z2, hab, ho, h1, decide_true, decide_false]; first | done | omega)) ?_ | refine wT (by first | omega | (simp only [cl_iff, AV.le_refl, AV.le_any, OLe_refl, LeH_cons, LeH_nil, LeL_cons, LeL_nil, and_true, true_and, Bool.and_eq_true, Bool.or_eq_true, decide_eq_true_eq, notT, Bool.cond_true_left, Bool.cond_false_right, Nat.blt_eq, Nat.zero_add, cond_true, cond_false, Int.toNat_natCast, Bool.not_true, Bool.not_false, Bool.false_eq_true, not_true_eq_false, not_false_eq_true, or_false, false_or, or_true, true_or, and_false, false_and, condIT, e1, e0, q1, hf, hx, hw, z1, z2, hab, ho, h1, decide_true, decide_false]; first | done | omega)) ?_ | refine wF (by intro _h; first | omega | (simp only [cl_iff, AV.le_refl, AV.le_any, OLe_refl, LeH_cons, LeH_nil, LeL_cons, LeL_nil, and_true, true_and, Bool.and_eq_true, Bool.or_eq_true, decide_eq_true_eq, notT, Bool.cond_true_left, Bool.cond_false_right, Nat.blt_eq, Nat.zero_add, cond_true, cond_false, Int.toNat_natCast, Bool.not_true, Bool.not_false, Bool.false_eq_true, not_true_eq_false, not_false_eq_true, or_false, false_or, or_true, true_or, and_false, false_and, condIT, e1, e0, q1, hf, hx, hw, z1, z2, hab, ho, h1, decide_true, decide_false] at _h; first | done | omega)) ?_ | (refine wS ?_ ?_ <;> intro _h <;> simp only [cl_iff, AV.le_refl, AV.le_any, OLe_refl, LeH_cons, LeH_nil, LeL_cons, LeL_nil, and_true, true_and, Bool.and_eq_true, Bool.or_eq_true, decide_eq_true_eq, notT, Bool.cond_true_left, Bool.cond_false_right, Nat.blt_eq, Nat.zero_add, cond_true, cond_false, Int.toNat_natCast, Bool.not_true, Bool.not_false, Bool.false_eq_true, not_true_eq_false, not_false_eq_true, or_false, false_or, or_true, true_or, and_false, false_and, condIT, e1, e0, q1, hf, hx, hw, z1, z2, hab, ho, h1, decide_true, decide_false] at _h))
        all_goals simp only [or_true, true_or, false_or, or_false, and_false, false_and, cond_true, cond_false, Bool.not_true, Bool.not_false, Bool.false_eq_true, Bool.true_eq_false, not_true_eq_false, not_false_eq_true, false_implies, true_implies, implies_true, Nat.blt_eq, owesN, owesX, owesR, notT, sat_brT, sat_brF, sat_chkT, cl_iff, cl_false, AV.le_refl, AV.le_any, OLe_refl, OLe_none, sat_brN, Tree.sat_chk, Tree.sat_leaf, Tree.sat_fail, Nat.zero_add, Nat.sub_zero, Int.toNat_natCast, LeH_cons, LeH_nil, LeL_cons, LeL_nil, and_true, true_and, Bool.and_eq_true, Bool.or_eq_true, decide_eq_true_eq, decide_eq_false_iff_not, Bool.cond_true_left, Bool.cond_false_right, List.cons_append, List.nil_append, List.map_cons, List.map_nil, e1, e0, q1, hf, hx, hw, z1, z2, hab, ho, h1, decide_true, decide_false]
        repeat' (first | apply And.intro | intro _hc)
        all_goals first | exact AV.le_refl _ | exact AV.le_any _ | exact OLe.refl _ | exact OLe.none _ | exact LeH.refl _ | exact LeL.refl _ | exact AV.le.bs _ | exact AV.le.sb _ | omega | contradiction
noncomputable def c6 : CT Tryd.prog Γm := CT.lawE A6 (fun _ => True) 6 Tryd.f6 (bodyOf Tryd.f6) 140 [.tmp 8] Tryd.func6 (by kernel_rfl) (by kernel_rfl) (by kernel_rfl) (by kernel_rfl) (fun _ _ => by simp [A6]) (fun x _ => law6 x)
end Go.Eng.TA

/- The tables that the rows name: what the rows' condition gives. -/
namespace Go.Proofs.YtmjbindplgpjjaaDoor
open Go Go.ChangeShapes Go.WideShapes Go.ChangeAt Go.WideMaps Go.WideElems Go.RowKit Go.Eng Go.Eng.TA
set_option linter.unusedSimpArgs false
set_option linter.unusedVariables false
theorem own : ownKnob Tryd.prog.godebug = none := by kernel_rfl
abbrev laidL : List (String × DataW Unit) := [("unicode/utf8.acceptRanges", Rows.laid_unicode_utf8_acceptRanges), ("unicode/utf8.first", Rows.laid_unicode_utf8_first)]
def ren8 : Go.Shelf.Ren := ⟨id, fun t => if t = 5 then 5 else if t = 119 then 192 else if t = 138 then 194 else 195, fun g => if g = 3 then 0 else 1⟩
theorem ren8T : U8Types Tryd.prog ren8 where
  t5 := Tryd.underlying5
  t119 := Tryd.underlying192
  t138 := Tryd.underlying194
  t139 := Tryd.underlying195
theorem ren8X : U8Extra Tryd.prog ren8 where
  n3 := by kernel_rfl
  n4 := by kernel_rfl
  y3 := by kernel_rfl
  y4 := by kernel_rfl
  c5 := by kernel_rfl
  c119 := by kernel_rfl
  c138 := by kernel_rfl
theorem data8 : Rows.laid_unicode_utf8_first = Lib.firstData ∧ (Rows.laid_unicode_utf8_acceptRanges : DataW Unit) = Lib.acceptData := ⟨by kernel_rfl, by kernel_rfl⟩
theorem globals_ok {W : World} (h : laidMetH Tryd.prog laidL W) : Globals Γm (σof W) := by
  rw [MakeChecks.laidMetH_plain _ _ _ (by kernel_rfl)] at h
  have h1 := Go.Lib.laidMet.reads h (n := "unicode/utf8.first") (d := Lib.firstData) (by rw [← data8.1]; exact List.mem_cons_of_mem _ (List.mem_cons_self ..))
  have h2 := Go.Lib.laidMet.reads h (n := "unicode/utf8.acceptRanges") (d := Lib.acceptData) (by rw [← data8.2]; exact List.mem_cons_self ..)
  have hT : Lib.Utf8Tabs 0 1 W := utf8Tabs_of_readsT ren8T ren8X h1 h2
  intro g
  unfold Γm
  split
  · rename_i hg
    obtain rfl := Nat.eq_of_beq_eq_true hg
    refine .pa 1 256 _ ⟨0, 0, none⟩ (fun e j => .int .u8 (Lib.firstT e : Int)) rfl (fun _ => rfl) (fun e j c he hc => ?_) (fun e j c he hc => ?_)
    · cases j with
      | zero => simpa using σof_of (hT.1 e he)
      | succ j => simp [fstF] at hc
    · cases j with
      | zero => simp [fstF] at hc; subst hc; exact .v _
      | succ j => simp [fstF] at hc
  · split
    · rename_i hg
      obtain rfl := Nat.eq_of_beq_eq_true hg
      refine .pa 2 16 _ ⟨1, 0, none⟩ (fun e j => .int .u8 (if j = 0 then (Lib.accLo e : Int) else (Lib.accHi e : Int))) rfl (fun _ => rfl) (fun e j c he hc => ?_) (fun e j c he hc => ?_)
      · match j with
        | 0 => simpa [Nat.mul_comm] using σof_of (hT.2 e he).1
        | 1 => simpa [Nat.mul_comm] using σof_of (hT.2 e he).2
        | j + 2 => simp [accF] at hc
      · match j with
        | 0 => simp [accF] at hc; subst hc; exact .v _
        | 1 => simp [accF] at hc; subst hc; exact .v _
        | j + 2 => simp [accF] at hc
    · exact .any _
end Go.Proofs.YtmjbindplgpjjaaDoor

/- NameBack holds at every input: the tables unicode/utf8.first and unicode/utf8.acceptRanges as the program lays them (tied). -/
namespace Go.Proofs.YtmjbindplgpjjaaDoor
open Go Go.ChangeShapes Go.WideShapes Go.ChangeAt Go.WideMaps Go.WideElems Go.RowKit Go.Eng Go.Eng.TA
set_option linter.unusedSimpArgs false
set_option linter.unusedVariables false

set_option maxRecDepth 100000 in
theorem nameBack_lifted (os : Os) (started : os.Started) (H : Type) (enc : TypeId × Value → H) :
    ReturnsInHanded {} Tryd.checked os 6 .any (fun w args => (Rows.nameBackSpec.pre enc Tryd.prog Tryd.f6 [] false w args ∧ laidMetH Tryd.prog laidL w) ∧ sizedMet enc Tryd.prog Tryd.f6 (OpenSpec.ofChange Rows.nameBackSpec) false w args)
      (Rows.nameBackSpec.post enc Tryd.prog Tryd.f6 false true false false) := by
  refine returnsInHanded_of_change_and (C := Tryd.checked) (X := fun w _ => laidMetH Tryd.prog laidL w) (fun _ _ _ hh h => h.of_heap hh) own started (by kernel_rfl) Tryd.func6
    (ChangeSpec.witness_shaped (enc := enc) (C := Tryd.checked) (os := os) (X := fun w _ => laidMetH Tryd.prog laidL w) false (World.laidAll Tryd.prog os laidL) #[.string ⟨#[]⟩, .string ⟨#[]⟩, .string ⟨#[]⟩, .int .i64 1] 8 (World.laidAll_os _ _ _) (World.shaped_of_ZipB (by kernel_rfl) (by kernel_rfl)) (by kernel_rfl) (by kernel_rfl) (by kernel_rfl)
      (by rw [MakeChecks.laidMetH_plain _ _ _ (by kernel_rfl)]; exact laidMet_laidAll _ (by kernel_rfl) (by kernel_rfl))) ?_
  intro W base args ds gs before hval0 hW _ _ hL _
  have hval : ∀ (j : Nat) t v, Tryd.f6.params[j]? = some t → args[j]? = some v → Value.okWide Tryd.prog W .any base t v := hval0
  have hW' := hW
  obtain ⟨p, q, hA0, hV, rfl, hfz, hnd⟩ := hW
  have hA : DataW.TrodAll enc Tryd.prog W 0 (fun _ => true) true Tryd.f6.params.toList args.toList ds p := hA0
  rw [Tryd.params6] at hA hval
  obtain ⟨v0, v1, v2, v3, d0, d1, d2, d3, p0, p1, p2, p3, rfl, rfl, rfl, h0, h1, h2, h3⟩ := trodAll_four hA
  obtain ⟨rfl, rfl⟩ := trodVars_none hV
  obtain ⟨n0, rfl, rfl, rfl, w0⟩ := Go.ChangeMaps.open_string Tryd.underlying9 (hval 0 9 v0 rfl rfl) h0
  obtain ⟨n1, rfl, rfl, rfl, w1⟩ := Go.ChangeMaps.open_string Tryd.underlying9 (hval 1 9 v1 rfl rfl) h1
  obtain ⟨n2, rfl, rfl, rfl, w2⟩ := Go.ChangeMaps.open_string Tryd.underlying9 (hval 2 9 v2 rfl rfl) h2
  obtain ⟨n3, rfl, rfl, rfl, w3⟩ := open_int Tryd.underlying3 (hval 3 3 v3 rfl rfl) h3
  refine (calls_true c6 (xs := [.v (.string n0), .v (.string n1), .v (.string n2), .v (.int .i64 n3)]) (law_in (A := A6) (pre := fun _ => True) (x := ⟨n0, n1, n2, n3⟩) trivial (.refl _)) (globals_ok hL) (.one (V_v _) (.one (V_v _) (.one (V_v _) (.one (V_v _) .none))))).mono fun e W' ⟨he, ho⟩ => ?_
  subst he
  exact ⟨_, rfl, post_true (tb := 4) (by kernel_rfl) (by kernel_rfl) (by kernel_rfl) (by kernel_rfl) (by kernel_rfl) Tryd.underlying4 hW' rfl rfl ho⟩

theorem nameBack_holds : Rows.NameBackSaid :=
  OpenClaim.holds_of_wide 6 Tryd.f6 rfl rfl rfl rfl rfl rfl rfl ⟨rfl, rfl, rfl, rfl, rfl⟩ rfl rfl rfl rfl rfl (by kernel_rfl) Tryd.func6 (by kernel_rfl)
    (of_decide_eq_true (by kernel_rfl)) (by unfold Func.isWrapper; first | (rw [if_pos (by decide +kernel)]; kernel_rfl) | (rw [if_neg (by decide +kernel)]; exact ⟨rfl, rfl⟩))
    (fun os started H enc _ => nameBack_lifted os started H enc)
theorem nameBack_card : Rows.NameBackCardSaid :=
  Claim7.holds_tied_plain_at .later [] [.data, .pinned] true (true, "04bf13180d5c01f5cefcb13e3375edc3305cec317436f21bd83698835d5e56cf") false
    nameBack_holds (fun _ h => by cases h) (by kernel_rfl) (fun _ h => by cases h) nameBack_row_tie rfl ⟨rfl, rfl⟩ (by kernel_rfl) rfl
    (fun f fn hf hfn => by
      obtain rfl : f = 6 := Option.some.inj ((show Tryd.prog.funcNamed "hallmoot/hallmootlaw02.NameBack" = some 6 by kernel_rfl).symm.trans hf) |>.symm
      obtain rfl : fn = Tryd.f6 := (Option.some.inj (Tryd.func6.symm.trans hfn)).symm
      exact ⟨by kernel_rfl, fun j t ht => by
        rw [Tryd.params6] at ht
        have hm : t ∈ [9, 9, 9, 3] := by simpa using Array.mem_of_getElem? ht
        have hall : ([9, 9, 9, 3].all fun u => !Tryd.prog.wantsStandIn u) = true := by kernel_rfl
        exact (show Tryd.prog.wantsStandIn t = false by simpa using List.all_eq_true.1 hall t hm)⟩)
    (by kernel_rfl)
#print axioms nameBack_card
end Go.Proofs.YtmjbindplgpjjaaDoor
