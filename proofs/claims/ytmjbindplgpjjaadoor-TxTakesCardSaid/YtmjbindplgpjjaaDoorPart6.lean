/- TxTakes holds at every input: the tables unicode/utf8.first and unicode/utf8.acceptRanges as the program lays them (tied). -/
import Derived.Test.YtmjbindplgpjjaaDoorPart5
import Derived.Test.YtmjbindplgpjjaaDoorRows
import Derived.Test.YtmjbindplgpjjaaDoorTie
import Derived.Test.YtmjbindplgpjjaaDoorCards
import Derived.ProofKit
import Derived.LaidMore
import Derived.OpenShut
import Derived.Stop.Joined
import Derived.SevenTiedAt
import Derived.Lib.LaidU8T
import Derived.Lay
/- wire: the document's reader: its numbers. -/
namespace Go.Eng.TA.R
open Go Go.Eng Go.Eng.M Go.Eng.RD Go.Lib Go.Proofs
set_option linter.unusedSimpArgs false
set_option linter.unusedVariables false
def rdV (S : ByteArray) (e : Int) : AV := .agg [.v (.string S), .v (.int .i64 e)]
def fS (S : ByteArray) (e x : Int) : ByteArray := if e = 0 ∧ ¬ x = 0 then ⟨#[]⟩ else S
theorem runFr (S : ByteArray) (e x : Int) : bodyE (P := Tryd.prog) (Γ := Γm) [] Lno false 15 [.cell 4 55] (bodyOf Tryd.f99) [rdV S e, .v (.int .i64 x)] [] =
  Tree.br (bif !decide (e = (0 : Int)) then true else decide (x = (0 : Int))) (Tree.leaf (Ans.mk (AV.agg [AV.v (Value.string S), AV.v (Value.int IntKind.i64 e)]) [])) (Tree.leaf (Ans.mk
    (AV.agg [AV.v (Value.string (ByteArray.mk #[])), AV.v (Value.int IntKind.i64 x)]) [])) := by kernel_rfl
theorem ansFr {S : ByteArray} {e x : Int} : Answers Tryd.prog Γm 99 [rdV S e, .v (.int .i64 x)] [] (rdV (fS S e x) (fE e x)) [] [] := by
  refine answers (fn := Tryd.f99) (c := bodyOf Tryd.f99) (ntmps := 15) (results := [.cell 4 55]) [] (Lno) false Tryd.func99 (by kernel_rfl) (by kernel_rfl) (by kernel_rfl) (by kernel_rfl) (by simp) rfl (failOK fun _ _ _ => rfl) <| Meets.of (runFr S e x) <| ?_
  by_cases h : e = 0 ∧ ¬ x = 0
  · have e1 : fS S e x = ⟨#[]⟩ := if_pos h
    have e2 : fE e x = x := if_pos h
    rw [e1, e2]
    repeat' (first | refine wC (by first | omega | (simp only [W1, cond_true, cond_false]; first | done | omega)) ?_ | refine wT (by first | omega | (simp only [W1, cond_true, cond_false]; first | done | omega)) ?_ | refine wF (by intro _h; first | omega | (simp only [W1, cond_true, cond_false] at _h; first | done | omega)) ?_ | (refine wS ?_ ?_ <;> intro _h <;> simp only [W1, cond_true, cond_false] at _h))
    all_goals simp only [W1, W2, owesN, owesX, owesR, cond_true, cond_false]
    repeat' (first | apply And.intro | intro _hc)
    all_goals first | exact AV.le_refl _ | exact AV.le_any _ | exact OLe.refl _ | exact OLe.none _ | exact LeH.refl _ | exact LeL.refl _ | exact AV.le.bs _ | exact AV.le.sb _ | omega | contradiction
  · have e1 : fS S e x = S := if_neg h
    have e2 : fE e x = e := if_neg h
    rw [e1, e2]
    repeat' (first | refine wC (by first | omega | (simp only [W1, cond_true, cond_false]; first | done | omega)) ?_ | refine wT (by first | omega | (simp only [W1, cond_true, cond_false]; first | done | omega)) ?_ | refine wF (by intro _h; first | omega | (simp only [W1, cond_true, cond_false] at _h; first | done | omega)) ?_ | (refine wS ?_ ?_ <;> intro _h <;> simp only [W1, cond_true, cond_false] at _h))
    all_goals simp only [W1, W2, owesN, owesX, owesR, cond_true, cond_false]
    repeat' (first | apply And.intro | intro _hc)
    all_goals first | exact AV.le_refl _ | exact AV.le_any _ | exact OLe.refl _ | exact OLe.none _ | exact LeH.refl _ | exact LeL.refl _ | exact AV.le.bs _ | exact AV.le.sb _ | omega | contradiction
def ofV : List AV → List Blk → Option (ByteArray × Int)
  | [.agg [.v (.string S), .v (.int _ e)]], [] => some (S, e)
  | _, _ => none
def ofVI : List AV → List Blk → Option (ByteArray × Int × Int)
  | [.agg [.v (.string S), .v (.int _ e)], .v (.int _ x)], [] => some (S, e, x)
  | _, _ => none
noncomputable def kFr : CT Tryd.prog Γm := CT.par 99 ofVI (fun _ => True) (fun | (S, e, x) => [rdV S e, .v (.int .i64 x)]) (fun _ => []) (fun | (S, e, x) => rdV (fS S e x) (fE e x)) (fun _ => []) (fun _ => [])
  (callFunc_enters Tryd.func99 (by kernel_rfl) (by kernel_rfl)) (fun | (S, e, x), _ => ansFr)
noncomputable def loopQ : Code := loopOf (bodyOf Tryd.f98) 0
def rws (S S' : ByteArray) (e : Int) : Heap := [some (.row [.v (.string S), .v (.int .i64 0)]), some (.row [.v (.string S'), .v (.int .i64 e)])]
def SQ (S : ByteArray) (i : Nat) : List AV × Heap := ([.ptr 0 0, .ptr 1 0, .v (.int .i64 (vAt S 0 i : Int)), .v (.int .i64 ((128 ^ i : Nat) : Int)), .v (.int .i64 (i : Int)), .v (.int .i64 0)], rws S ⟨#[]⟩ 0)
def OQ (S : ByteArray) (n : Int) (S' : ByteArray) (e : Int) : Out := ⟨.ret, [.any, .ptr 1 0, .any, .any, .any, .v (.int .i64 n)], rws S S' e⟩
theorem roundQ (S : ByteArray) (n w i : Int) : roundE (P := Tryd.prog) (Γ := Γm) [kFr] Lno false 0 0 loopQ [1, 3, 4, 5, 6, 2] [] 81 [.ptr 0 0, .ptr 1 0, .v (.int .i64 n), .v (.int .i64 w), .v (.int .i64 i), .v (.int .i64 0)] (rws S ⟨#[]⟩ 0) =
  Tree.br (decide (i < (9 : Int))) (Tree.br (decide (i = (↑(ByteArray.size S) : Int))) (Tree.chk (cl (True ∧ LeL [AV.agg [AV.v (Value.string S), AV.v (Value.int IntKind.i64 (0 : Int))], AV.v
    (Value.int IntKind.i64 (30 : Int))] [AV.agg [AV.v (Value.string S), AV.v (Value.int IntKind.i64 (0 : Int))], AV.v (Value.int IntKind.i64 (30 : Int))] ∧ LeH [] [])) (Tree.leaf (Out.mk
    AEx.ret [AV.ptr (0 : Nat) (0 : Nat), AV.ptr (1 : Nat) (0 : Nat), AV.v (Value.int IntKind.i64 n), AV.v (Value.int IntKind.i64 w), AV.v (Value.int IntKind.i64 i), AV.v (Value.int
    IntKind.i64 (0 : Int))] [some (Blk.row [AV.v (Value.string S), AV.v (Value.int IntKind.i64 (0 : Int))]), some (Blk.row [AV.v (Value.string (fS S (0 : Int) (30 : Int))), AV.v (Value.int
    IntKind.i64 (fE (0 : Int) (30 : Int)))])]))) (Tree.chk (decide ((0 : Int) ≤ i) && decide (i < (↑(ByteArray.size S) : Int)) && true) (Tree.chk (bif decide (i = (8 : Int)) then bif decide
    ((64 : Int) < Int.tmod (IntKind.wrap IntKind.i64 (sbyte S (Int.toNat i))) (128 : Int)) then true else bif decide (Int.tmod (IntKind.wrap IntKind.i64 (sbyte S (Int.toNat i))) (128 : Int)
    = (64 : Int)) then bif decide ((0 : Int) < n) then true else decide ((0 : Int) ≤ i) && decide (i < (↑(ByteArray.size S) : Int)) else decide ((0 : Int) ≤ i) && decide (i <
    (↑(ByteArray.size S) : Int)) else true) (Tree.br (bif decide (i = (8 : Int)) then bif decide ((64 : Int) < Int.tmod (IntKind.wrap IntKind.i64 (sbyte S (Int.toNat i))) (128 : Int)) then
    true else bif decide (Int.tmod (IntKind.wrap IntKind.i64 (sbyte S (Int.toNat i))) (128 : Int) = (64 : Int)) then bif decide ((0 : Int) < n) then true else decide ((128 : Int) ≤ sbyte S
    (Int.toNat i)) else decide ((128 : Int) ≤ sbyte S (Int.toNat i)) else false) (Tree.chk (cl (True ∧ LeL [AV.agg [AV.v (Value.string S), AV.v (Value.int IntKind.i64 (0 : Int))], AV.v
    (Value.int IntKind.i64 (31 : Int))] [AV.agg [AV.v (Value.string S), AV.v (Value.int IntKind.i64 (0 : Int))], AV.v (Value.int IntKind.i64 (31 : Int))] ∧ LeH [] [])) (Tree.leaf (Out.mk
    AEx.ret [AV.ptr (0 : Nat) (0 : Nat), AV.ptr (1 : Nat) (0 : Nat), AV.v (Value.int IntKind.i64 n), AV.v (Value.int IntKind.i64 w), AV.v (Value.int IntKind.i64 i), AV.v (Value.int
    IntKind.i64 (0 : Int))] [some (Blk.row [AV.v (Value.string S), AV.v (Value.int IntKind.i64 (0 : Int))]), some (Blk.row [AV.v (Value.string (fS S (0 : Int) (31 : Int))), AV.v (Value.int
    IntKind.i64 (fE (0 : Int) (31 : Int)))])]))) (Tree.chk (decide ((0 : Int) ≤ i) && decide (i < (↑(ByteArray.size S) : Int))) (Tree.br (decide (sbyte S (Int.toNat i) < (128 : Int)))
    (Tree.br (bif decide (Int.tmod (IntKind.wrap IntKind.i64 (sbyte S (Int.toNat i))) (128 : Int) = (0 : Int)) then decide ((0 : Int) < i) else false) (Tree.chk (cl (True ∧ LeL [AV.agg [AV.v
    (Value.string S), AV.v (Value.int IntKind.i64 (0 : Int))], AV.v (Value.int IntKind.i64 (31 : Int))] [AV.agg [AV.v (Value.string S), AV.v (Value.int IntKind.i64 (0 : Int))], AV.v
    (Value.int IntKind.i64 (31 : Int))] ∧ LeH [] [])) (Tree.leaf (Out.mk AEx.ret [AV.ptr (0 : Nat) (0 : Nat), AV.ptr (1 : Nat) (0 : Nat), AV.v (Value.int IntKind.i64 (IntKind.wrap
    IntKind.i64 (n + IntKind.wrap IntKind.i64 (Int.tmod (IntKind.wrap IntKind.i64 (sbyte S (Int.toNat i))) (128 : Int) * w)))), AV.v (Value.int IntKind.i64 w), AV.v (Value.int IntKind.i64
    i), AV.v (Value.int IntKind.i64 (0 : Int))] [some (Blk.row [AV.v (Value.string S), AV.v (Value.int IntKind.i64 (0 : Int))]), some (Blk.row [AV.v (Value.string (fS S (0 : Int) (31 :
    Int))), AV.v (Value.int IntKind.i64 (fE (0 : Int) (31 : Int)))])]))) (Tree.chk (decide ((0 : Int) ≤ IntKind.wrap IntKind.i64 (i + (1 : Int))) && decide (IntKind.wrap IntKind.i64 (i + (1
    : Int)) ≤ (↑(ByteArray.size S) : Int)) && decide ((↑(ByteArray.size S) : Int) ≤ (↑(ByteArray.size S) : Int))) (Tree.leaf (Out.mk AEx.ret [AV.ptr (0 : Nat) (0 : Nat), AV.ptr (1 : Nat) (0
    : Nat), AV.v (Value.int IntKind.i64 (IntKind.wrap IntKind.i64 (n + IntKind.wrap IntKind.i64 (Int.tmod (IntKind.wrap IntKind.i64 (sbyte S (Int.toNat i))) (128 : Int) * w)))), AV.v
    (Value.int IntKind.i64 w), AV.v (Value.int IntKind.i64 i), AV.v (Value.int IntKind.i64 (IntKind.wrap IntKind.i64 (n + IntKind.wrap IntKind.i64 (Int.tmod (IntKind.wrap IntKind.i64 (sbyte
    S (Int.toNat i))) (128 : Int) * w))))] [some (Blk.row [AV.v (Value.string S), AV.v (Value.int IntKind.i64 (0 : Int))]), some (Blk.row [AV.v (Value.string (ByteArray.extract S (Int.toNat
    (IntKind.wrap IntKind.i64 (i + (1 : Int)))) (ByteArray.size S))), AV.v (Value.int IntKind.i64 (0 : Int))])])))) (Tree.leaf (Out.mk AEx.normal [AV.ptr (0 : Nat) (0 : Nat), AV.ptr (1 :
    Nat) (0 : Nat), AV.v (Value.int IntKind.i64 (IntKind.wrap IntKind.i64 (n + IntKind.wrap IntKind.i64 (Int.tmod (IntKind.wrap IntKind.i64 (sbyte S (Int.toNat i))) (128 : Int) * w)))), AV.v
    (Value.int IntKind.i64 (IntKind.wrap IntKind.i64 (w * (128 : Int)))), AV.v (Value.int IntKind.i64 (IntKind.wrap IntKind.i64 (i + (1 : Int)))), AV.v (Value.int IntKind.i64 (0 : Int))]
    [some (Blk.row [AV.v (Value.string S), AV.v (Value.int IntKind.i64 (0 : Int))]), some (Blk.row [AV.v (Value.string (ByteArray.mk #[])), AV.v (Value.int IntKind.i64 (0 : Int))])]))))))))
    (Tree.leaf (Out.mk (AEx.exit (0 : Nat)) [AV.ptr (0 : Nat) (0 : Nat), AV.ptr (1 : Nat) (0 : Nat), AV.v (Value.int IntKind.i64 n), AV.v (Value.int IntKind.i64 w), AV.v (Value.int
    IntKind.i64 i), AV.v (Value.int IntKind.i64 (0 : Int))] [some (Blk.row [AV.v (Value.string S), AV.v (Value.int IntKind.i64 (0 : Int))]), some (Blk.row [AV.v (Value.string (ByteArray.mk
    #[])), AV.v (Value.int IntKind.i64 (0 : Int))])])) := by kernel_rfl
theorem stepQ {S : ByteArray} {i : Nat} {Q : Out → Prop} (hi : i ≤ 8) (hlt : i < S.size) (hz : S.size ≤ 1000000000000)
    (h1 : BadC S 0 i → ∀ n', Q ⟨.ret, [.ptr 0 0, .ptr 1 0, .v (.int .i64 n'), .v (.int .i64 ((128 ^ i : Nat) : Int)), .v (.int .i64 (i : Int)), .v (.int .i64 0)], rws S ⟨#[]⟩ 31⟩)
    (h2 : byt S i < 128 → ¬ BadC S 0 i → Q ⟨.ret, [.ptr 0 0, .ptr 1 0, .v (.int .i64 (vAt S 0 (i + 1) : Int)), .v (.int .i64 ((128 ^ i : Nat) : Int)), .v (.int .i64 (i : Int)), .v (.int .i64 (vAt S 0 (i + 1) : Int))], rws S (S.extract (i + 1) S.size) 0⟩)
    (h3 : 128 ≤ byt S i → i < 8 → Q ⟨.normal, (SQ S (i + 1)).1, (SQ S (i + 1)).2⟩) :
    (roundE (P := Tryd.prog) (Γ := Γm) [kFr] Lno false 0 0 loopQ [1, 3, 4, 5, 6, 2] [] 81 (SQ S i).1 (SQ S i).2).sat Q := by
  have hb : sbyte S i = (byt S i : Int) := sbyte_byt S _
  have hbt := byt_lt S i
  have hbad : BadC S 0 i ↔ ((byt S i < 128 ∧ byt S i = 0 ∧ 0 < i) ∨ (i = 8 ∧ (128 ≤ byt S i ∨ 4611686018427387904 < vAt S 0 (i + 1)))) := by
    unfold BadC; rw [Nat.zero_add]
  have hv : vAt S 0 (i + 1) = vAt S 0 i + byt S i % 128 * 128 ^ i := by rw [vAt, Nat.zero_add]
  have hvl := vAt_lt S 0 i
  have hp := pow128_le hi
  have hm : byt S i % 128 * 128 ^ i ≤ 127 * 128 ^ i := Nat.mul_le_mul_right _ (by omega)
  have h88 : i = 8 → 128 ^ i = 72057594037927936 := fun h => by subst h; decide
  have hp1 : 128 ^ (i + 1) = 128 ^ i * 128 := Nat.pow_succ _ _
  have e0 : IntKind.i64.wrap ((byt S i : Nat) : Int) = ((byt S i : Nat) : Int) := by rw [wrap64E]; omega
  have e1 : Int.tmod ((byt S i : Nat) : Int) 128 = ((byt S i % 128 : Nat) : Int) := by
    rw [Int.tmod_eq_emod_of_nonneg (by omega)]; omega
  have e2 : IntKind.i64.wrap (((byt S i % 128 : Nat) : Int) * ((128 ^ i : Nat) : Int)) = ((byt S i % 128 * 128 ^ i : Nat) : Int) := by
    rw [← Int.natCast_mul, wrap64E]; omega
  have e3 : IntKind.i64.wrap (((vAt S 0 i : Nat) : Int) + ((byt S i % 128 * 128 ^ i : Nat) : Int)) = ((vAt S 0 (i + 1) : Nat) : Int) := by
    rw [wrap64E, hv]; omega
  have h87 : i < 8 → 128 ^ i ≤ 562949953421312 := fun h => by
    have : (128 : Nat) ^ i ≤ 128 ^ 7 := Nat.pow_le_pow_right (by decide) (by omega)
    exact Nat.le_trans this (by decide)
  have e4 : i < 8 → IntKind.i64.wrap (((128 ^ i : Nat) : Int) * 128) = ((128 ^ (i + 1) : Nat) : Int) := fun h => by
    have := h87 h
    rw [wrap64E, hp1]; omega
  have e5 : IntKind.i64.wrap ((i : Int) + 1) = ((i + 1 : Nat) : Int) := by rw [wrap64E]; omega
  have f1 : fS S 0 31 = ⟨#[]⟩ := rfl
  have f2 : fE 0 31 = 31 := rfl
  show (roundE (P := Tryd.prog) (Γ := Γm) [kFr] Lno false 0 0 loopQ [1, 3, 4, 5, 6, 2] [] 81 [.ptr 0 0, .ptr 1 0, .v (.int .i64 (vAt S 0 i : Int)), .v (.int .i64 ((128 ^ i : Nat) : Int)), .v (.int .i64 (i : Int)), .v (.int .i64 0)] (rws S ⟨#[]⟩ 0)).sat Q
  rw [roundQ]
  simp only [Int.toNat_natCast, hb, e0, e1, e2, e3, e5, f1, f2]
  have hn0 : i = 8 → (4611686018427387904 < vAt S 0 (i + 1) ↔ 64 < byt S i % 128 ∨ (byt S i % 128 = 64 ∧ 0 < vAt S 0 i)) := fun h => by
    have := h88 h
    rw [hv, this]
    omega
  by_cases hB : BadC S 0 i
  · have k1 := h1 hB
    rw [hbad] at hB
    clear h1 h2 h3 hbad hv hm h88 e0 e1 e2 e3 e4 e5 hp1 h87
    generalize hw : vAt S 0 (i + 1) = v1 at *
    generalize vAt S 0 i = v0 at *
    generalize byt S i = c at *
    generalize 128 ^ i = w at *
    by_cases hi8 : i = 8
    · have hn0 := hn0 hi8
      subst hi8
      repeat' (first | refine wC (by first | omega | (simp only [W1, cond_true, cond_false]; first | done | omega)) ?_ | refine wT (by first | omega | (simp only [W1, cond_true, cond_false]; first | done | omega)) ?_ | refine wF (by intro _h; first | omega | (simp only [W1, cond_true, cond_false] at _h; first | done | omega)) ?_ | (refine wS ?_ ?_ <;> intro _h <;> simp only [W1, cond_true, cond_false] at _h))
      all_goals simp only [W1, W2, owesN, owesX, owesR, cond_true, cond_false]
      repeat' (first | apply And.intro | intro _hc)
      all_goals first | exact k1 _ | exact AV.le_refl _ | exact AV.le_any _ | exact OLe.refl _ | exact OLe.none _ | exact LeH.refl _ | exact LeL.refl _ | exact AV.le.bs _ | exact AV.le.sb _ | omega | contradiction
    · have hB : c < 128 ∧ c = 0 ∧ 0 < i := by omega
      repeat' (first | refine wC (by first | omega | (simp only [W1, cond_true, cond_false]; first | done | omega)) ?_ | refine wT (by first | omega | (simp only [W1, cond_true, cond_false]; first | done | omega)) ?_ | refine wF (by intro _h; first | omega | (simp only [W1, cond_true, cond_false] at _h; first | done | omega)) ?_ | (refine wS ?_ ?_ <;> intro _h <;> simp only [W1, cond_true, cond_false] at _h))
      all_goals simp only [W1, W2, owesN, owesX, owesR, cond_true, cond_false]
      repeat' (first | apply And.intro | intro _hc)
      all_goals first | exact k1 _ | exact AV.le_refl _ | exact AV.le_any _ | exact OLe.refl _ | exact OLe.none _ | exact LeH.refl _ | exact LeL.refl _ | exact AV.le.bs _ | exact AV.le.sb _ | omega | contradiction
  · by_cases hc : byt S i < 128
    · have k2 := h2 hc hB
      rw [hbad] at hB
      clear h1 h2 h3 hbad hv hm h88 e0 e1 e2 e3 e4 e5 hp1 h87
      generalize hw : vAt S 0 (i + 1) = v1 at *
      generalize vAt S 0 i = v0 at *
      generalize byt S i = c at *
      generalize 128 ^ i = w at *
      by_cases hi8 : i = 8
      · have hn0 := hn0 hi8
        subst hi8
        repeat' (first | refine wC (by first | omega | (simp only [W1, cond_true, cond_false]; first | done | omega)) ?_ | refine wT (by first | omega | (simp only [W1, cond_true, cond_false]; first | done | omega)) ?_ | refine wF (by intro _h; first | omega | (simp only [W1, cond_true, cond_false] at _h; first | done | omega)) ?_ | (refine wS ?_ ?_ <;> intro _h <;> simp only [W1, cond_true, cond_false] at _h))
        all_goals simp only [W1, W2, owesN, owesX, owesR, cond_true, cond_false]
        repeat' (first | apply And.intro | intro _hc)
        all_goals first | exact k2 | exact AV.le_refl _ | exact AV.le_any _ | exact OLe.refl _ | exact OLe.none _ | exact LeH.refl _ | exact LeL.refl _ | exact AV.le.bs _ | exact AV.le.sb _ | omega | contradiction
      · repeat' (first | refine wC (by first | omega | (simp only [W1, cond_true, cond_false]; first | done | omega)) ?_ | refine wT (by first | omega | (simp only [W1, cond_true, cond_false]; first | done | omega)) ?_ | refine wF (by intro _h; first | omega | (simp only [W1, cond_true, cond_false] at _h; first | done | omega)) ?_ | (refine wS ?_ ?_ <;> intro _h <;> simp only [W1, cond_true, cond_false] at _h))
        all_goals simp only [W1, W2, owesN, owesX, owesR, cond_true, cond_false]
        repeat' (first | apply And.intro | intro _hc)
        all_goals first | exact k2 | exact AV.le_refl _ | exact AV.le_any _ | exact OLe.refl _ | exact OLe.none _ | exact LeH.refl _ | exact LeL.refl _ | exact AV.le.bs _ | exact AV.le.sb _ | omega | contradiction
    · have hi8 : i < 8 := by rw [hbad] at hB; omega
      have k3 := h3 (by omega) hi8
      rw [hbad] at hB
      simp only [e4 hi8]
      clear h1 h2 h3 hbad hv hm h88 e0 e1 e2 e3 e4 e5 hp1 h87
      simp only [SQ] at k3
      generalize hw : vAt S 0 (i + 1) = v1 at *
      generalize vAt S 0 i = v0 at *
      generalize byt S i = c at *
      repeat' (first | refine wC (by first | omega | (simp only [W1, cond_true, cond_false]; first | done | omega)) ?_ | refine wT (by first | omega | (simp only [W1, cond_true, cond_false]; first | done | omega)) ?_ | refine wF (by intro _h; first | omega | (simp only [W1, cond_true, cond_false] at _h; first | done | omega)) ?_ | (refine wS ?_ ?_ <;> intro _h <;> simp only [W1, cond_true, cond_false] at _h))
      all_goals simp only [W1, W2, owesN, owesX, owesR, cond_true, cond_false]
      repeat' (first | apply And.intro | intro _hc)
      all_goals first | exact k3 | exact AV.le_refl _ | exact AV.le_any _ | exact OLe.refl _ | exact OLe.none _ | exact LeH.refl _ | exact LeL.refl _ | exact AV.le.bs _ | exact AV.le.sb _ | omega | contradiction
end Go.Eng.TA.R

/- wire: the document's reader: what it answers. -/
namespace Go.Eng.TA.R
open Go Go.Eng Go.Eng.M Go.Eng.RD Go.Lib Go.Proofs
set_option linter.unusedSimpArgs false
set_option linter.unusedVariables false
noncomputable def oQ (S : ByteArray) : Out := OQ S (qN S 0 0) (S.extract (qO S 0 0) S.size) (qE S 0 0)
theorem oQ_good {S : ByteArray} {k : Nat} (h : IsGood S 0 S.size k) : oQ S = OQ S (vAt S 0 (k + 1) : Int) (S.extract (k + 1) S.size) 0 := by
  obtain ⟨h1, h2, h3⟩ := q_good (t := S) (off := 0) (k := k) (by rw [Nat.sub_zero]; exact h)
  unfold oQ
  rw [h1, h2, h3, Nat.zero_add]
theorem oQ_cut {S : ByteArray} (h : IsCut S 0 S.size) : oQ S = OQ S 0 ⟨#[]⟩ 30 := by
  obtain ⟨h1, h2, h3⟩ := q_cut (t := S) (off := 0) (by rw [Nat.sub_zero]; exact h)
  unfold oQ
  rw [h1, h2, h3, ext_none]
theorem oQ_bad {S : ByteArray} {k : Nat} (h : IsBad S 0 S.size k) : oQ S = OQ S 0 ⟨#[]⟩ 31 := by
  obtain ⟨h1, h2, h3⟩ := q_no (t := S) (off := 0) (k := k) (by rw [Nat.sub_zero]; exact h)
  unfold oQ
  rw [h1, h2, h3, ext_none]
theorem vAt_small {S : ByteArray} {i : Nat} (h : i < 8) : vAt S 0 (i + 1) ≤ 4611686018427387904 := by
  have h1 := vAt_lt S 0 (i + 1)
  have h2 : (128 : Nat) ^ (i + 1) ≤ 128 ^ 8 := Nat.pow_le_pow_right (by decide) (by omega)
  have h3 : (128 : Nat) ^ 8 = 72057594037927936 := by decide
  omega
theorem loopQ_ok {S : ByteArray} (hz : S.size ≤ 1000000000000) : ∀ i, (i ≤ 8 ∧ i ≤ S.size ∧ ∀ j, j < i → 128 ≤ byt S (0 + j)) → LoopOK Tryd.prog Γm 0 81 loopQ (LSpec.at [1, 3, 4, 5, 6, 2] [] (SQ S i) (oQ S)) := by
  refine loop_at (S := SQ S) (pre := fun i => i ≤ 8 ∧ i ≤ S.size ∧ ∀ j, j < i → 128 ≤ byt S (0 + j)) (O := fun _ => oQ S) (k := 0) (fun i => 9 - i) fun i hi => ⟨[kFr], Lno, false, noLoops (by kernel_rfl), ?_⟩
  obtain ⟨hi1, hi2, hi3⟩ := hi
  by_cases hs : i = S.size
  · have hc : IsCut S 0 S.size := ⟨by omega, fun j hj => hi3 j (by omega)⟩
    show (roundE (P := Tryd.prog) (Γ := Γm) [kFr] Lno false 0 0 loopQ [1, 3, 4, 5, 6, 2] [] 81 [.ptr 0 0, .ptr 1 0, .v (.int .i64 (vAt S 0 i : Int)), .v (.int .i64 ((128 ^ i : Nat) : Int)), .v (.int .i64 (i : Int)), .v (.int .i64 0)] (rws S ⟨#[]⟩ 0)).sat (OwesA (SQ S) _ _ _ _ (oQ S))
    rw [roundQ, oQ_cut hc]
    have f1 : fS S 0 30 = ⟨#[]⟩ := rfl
    have f2 : fE 0 30 = 30 := rfl
    simp only [f1, f2]
    refine wT (decide_eq_true (by omega)) (wT (decide_eq_true (by omega)) (wC (cl_iff.2 ⟨trivial, LeL.refl _, trivial⟩) ?_))
    exact ⟨rfl, ⟨.any _, .refl _, .any _, .any _, .any _, .refl _, trivial⟩, LeH.refl _⟩
  · have hlt : i < S.size := by omega
    refine stepQ hi1 hlt hz (fun hb n' => ?_) (fun hc hb => ?_) (fun hc h8 => ?_)
    · have h : IsBad S 0 S.size i := ⟨hlt, hi1, hi3, hb⟩
      rw [oQ_bad h]
      exact ⟨rfl, ⟨.any _, .refl _, .any _, .any _, .any _, .refl _, trivial⟩, LeH.refl _⟩
    · have h : IsGood S 0 S.size i := ⟨hlt, hi1, ⟨hi3, by rw [Nat.zero_add]; exact hc, fun hp h0 => hb (.inl ⟨by rw [Nat.zero_add]; exact hc, h0, hp⟩)⟩, by
        rcases Nat.lt_or_ge i 8 with h8 | h8
        · exact vAt_small h8
        · exact Nat.le_of_not_lt fun h => hb (.inr ⟨by omega, .inr h⟩)⟩
      rw [oQ_good h]
      exact ⟨rfl, ⟨.any _, .refl _, .any _, .any _, .any _, .refl _, trivial⟩, LeH.refl _⟩
    · refine ⟨i + 1, LeL.refl _, LeH.refl _, ⟨by omega, by omega, fun j hj => ?_⟩, rfl, by show 9 - (i + 1) < 9 - i; omega⟩
      rcases Nat.lt_or_ge j i with h | h
      · exact hi3 j h
      · obtain rfl : j = i := by omega
        rw [Nat.zero_add]; exact hc
theorem runQn0 (S : ByteArray) : bodyE (P := Tryd.prog) (Γ := Γm) [kFr] (fun _ => LSpec.at [1, 3, 4, 5, 6, 2] [] (SQ S 0) (oQ S)) false 81 [.tmp 2, .cell 3 55] (bodyOf Tryd.f98) [rdV S 0] [] =
  Tree.br false (Tree.leaf (Ans.mk (AV.tup [AV.v (Value.int IntKind.i64 (0 : Int)), AV.agg [AV.v (Value.string S), AV.v (Value.int IntKind.i64 (0 : Int))]]) [])) (Tree.chk (cl (LeL [AV.ptr (0
    : Nat) (0 : Nat), AV.ptr (1 : Nat) (0 : Nat), AV.v (Value.int IntKind.i64 (0 : Int)), AV.v (Value.int IntKind.i64 (1 : Int)), AV.v (Value.int IntKind.i64 (0 : Int)), AV.v (Value.int
    IntKind.i64 (0 : Int))] [AV.ptr (0 : Nat) (0 : Nat), AV.ptr (1 : Nat) (0 : Nat), AV.v (Value.int IntKind.i64 (↑(0 : Nat) : Int)), AV.v (Value.int IntKind.i64 (↑(1 : Nat) : Int)), AV.v
    (Value.int IntKind.i64 (↑(0 : Nat) : Int)), AV.v (Value.int IntKind.i64 (0 : Int))] ∧ LeH [some (Blk.row [AV.v (Value.string S), AV.v (Value.int IntKind.i64 (0 : Int))]), some (Blk.row
    [AV.v (Value.string (ByteArray.mk #[])), AV.v (Value.int IntKind.i64 (0 : Int))])] [some (Blk.row [AV.v (Value.string S), AV.v (Value.int IntKind.i64 (0 : Int))]), some (Blk.row [AV.v
    (Value.string (ByteArray.mk #[])), AV.v (Value.int IntKind.i64 (0 : Int))])])) (Tree.leaf (Ans.mk (AV.tup [AV.v (Value.int IntKind.i64 (qN S (0 : Nat) (0 : Int))), AV.agg [AV.v
    (Value.string (ByteArray.extract S (qO S (0 : Nat) (0 : Int)) (ByteArray.size S))), AV.v (Value.int IntKind.i64 (qE S (0 : Nat) (0 : Int)))]]) []))) := by kernel_rfl
theorem runQne (S : ByteArray) (e : Int) : bodyE (P := Tryd.prog) (Γ := Γm) [kFr] Lno false 81 [.tmp 2, .cell 3 55] (bodyOf Tryd.f98) [rdV S e] [] =
  Tree.br (!decide (e = (0 : Int))) (Tree.leaf (Ans.mk (AV.tup [AV.v (Value.int IntKind.i64 (0 : Int)), AV.agg [AV.v (Value.string S), AV.v (Value.int IntKind.i64 e)]]) [])) Tree.fail := by kernel_rfl
theorem ansQn {S : ByteArray} {e : Int} (hz : S.size ≤ 1000000000000) : Answers Tryd.prog Γm 98 [rdV S e] [] (.tup [.v (.int .i64 (qN S 0 e)), rdV (S.extract (qO S 0 e) S.size) (qE S 0 e)]) [] [] := by
  by_cases he : e = 0
  · subst he
    refine answers (fn := Tryd.f98) (c := bodyOf Tryd.f98) (ntmps := 81) (results := [.tmp 2, .cell 3 55]) [kFr] (fun _ => LSpec.at [1, 3, 4, 5, 6, 2] [] (SQ S 0) (oQ S)) false Tryd.func98 (by kernel_rfl) (by kernel_rfl) (by kernel_rfl) (by kernel_rfl) (by simp) rfl (oneLoop (b := loopQ) (by kernel_rfl) (loopQ_ok hz 0 ⟨by omega, Nat.zero_le _, fun j hj => absurd hj (Nat.not_lt_zero j)⟩)) <| Meets.of (runQn0 S) <| ?_
    repeat' (first | refine wC (by first | omega | (simp only [W1, cond_true, cond_false]; first | done | omega)) ?_ | refine wT (by first | omega | (simp only [W1, cond_true, cond_false]; first | done | omega)) ?_ | refine wF (by intro _h; first | omega | (simp only [W1, cond_true, cond_false] at _h; first | done | omega)) ?_ | (refine wS ?_ ?_ <;> intro _h <;> simp only [W1, cond_true, cond_false] at _h))
    all_goals simp only [W1, W2, owesN, owesX, owesR, cond_true, cond_false]
    repeat' (first | apply And.intro | intro _hc)
    all_goals first | exact AV.le_refl _ | exact AV.le_any _ | exact OLe.refl _ | exact OLe.none _ | exact LeH.refl _ | exact LeL.refl _ | exact AV.le.bs _ | exact AV.le.sb _ | omega | contradiction
  · rw [qN_bad he, qO_bad he, qE_bad he, ext_all]
    refine answers (fn := Tryd.f98) (c := bodyOf Tryd.f98) (ntmps := 81) (results := [.tmp 2, .cell 3 55]) [kFr] (Lno) false Tryd.func98 (by kernel_rfl) (by kernel_rfl) (by kernel_rfl) (by kernel_rfl) (by simp) rfl (fun _ _ _ => fail_ok) <| Meets.of (runQne S e) <| ?_
    repeat' (first | refine wC (by first | omega | (simp only [W1, cond_true, cond_false]; first | done | omega)) ?_ | refine wT (by first | omega | (simp only [W1, cond_true, cond_false]; first | done | omega)) ?_ | refine wF (by intro _h; first | omega | (simp only [W1, cond_true, cond_false] at _h; first | done | omega)) ?_ | (refine wS ?_ ?_ <;> intro _h <;> simp only [W1, cond_true, cond_false] at _h))
    all_goals simp only [W1, W2, owesN, owesX, owesR, cond_true, cond_false]
    repeat' (first | apply And.intro | intro _hc)
    all_goals first | exact AV.le_refl _ | exact AV.le_any _ | exact OLe.refl _ | exact OLe.none _ | exact LeH.refl _ | exact LeL.refl _ | exact AV.le.bs _ | exact AV.le.sb _ | omega | contradiction
end Go.Eng.TA.R

/- wire: readers of what is left of a text: the same as readers of the text at a place. -/
namespace Go.Eng.TA.R
open Go Go.Eng Go.Eng.M Go.Eng.RD Go.Lib Go.Proofs
set_option linter.unusedSimpArgs false
set_option linter.unusedVariables false
theorem emp_size {s : ByteArray} : (s = ⟨#[]⟩) ↔ s.size = 0 := ⟨fun h => by rw [h]; rfl, fun h => bN_eq (by rw [h]; rfl) (fun j hj => by omega)⟩
theorem byt_ext {t : ByteArray} {off j : Nat} : byt (t.extract off t.size) (0 + j) = byt t (off + j) := by
  have e : ∀ (s : ByteArray) (i : Nat), byt s i = bN s i := fun s i => rfl
  rw [e, e, Nat.zero_add, bN_extract _ _ _ _ (Nat.le_refl _)]
  by_cases h : off + j < t.size
  · rw [if_pos h]
  · rw [if_neg h]
    unfold bN
    rw [Array.getElem?_eq_none (by show t.size ≤ off + j; omega)]
    rfl
theorem vAt_ext {t : ByteArray} {off : Nat} (i : Nat) : vAt (t.extract off t.size) 0 i = vAt t off i := by
  induction i with
  | zero => simp only [vAt]
  | succ i ih => simp only [vAt, ih, byt_ext]
theorem good_ext {t : ByteArray} {off len k : Nat} : IsGood (t.extract off t.size) 0 len k ↔ IsGood t off len k := by
  unfold IsGood
  rw [vAt_ext]
  constructor
  · rintro ⟨h1, h2, h3, h4⟩
    exact ⟨h1, h2, ⟨fun j hj => by have := h3.hi j hj; rwa [byt_ext] at this, by have := h3.lo; rwa [byt_ext] at this, fun hp => by have := h3.nz hp; rwa [byt_ext] at this⟩, h4⟩
  · rintro ⟨h1, h2, h3, h4⟩
    exact ⟨h1, h2, ⟨fun j hj => by rw [byt_ext]; exact h3.hi j hj, by rw [byt_ext]; exact h3.lo, fun hp => by rw [byt_ext]; exact h3.nz hp⟩, h4⟩
theorem cut_ext {t : ByteArray} {off len : Nat} : IsCut (t.extract off t.size) 0 len ↔ IsCut t off len := by
  unfold IsCut
  simp only [byt_ext]
theorem bad_ext {t : ByteArray} {off len k : Nat} : IsBad (t.extract off t.size) 0 len k ↔ IsBad t off len k := by
  unfold IsBad BadC
  simp only [byt_ext, vAt_ext]
theorem size_ext {t : ByteArray} {off : Nat} : (t.extract off t.size).size = t.size - off := ext_size _ _ _ (Nat.le_refl _)
theorem q_ext {t : ByteArray} {off : Nat} {e : Int} (h : off ≤ t.size) : qN (t.extract off t.size) 0 e = qN t off e ∧ off + qO (t.extract off t.size) 0 e = qO t off e ∧ qE (t.extract off t.size) 0 e = qE t off e := by
  by_cases he : e = 0
  · subst he
    have hz : (t.extract off t.size).size - 0 = t.size - off := by rw [size_ext, Nat.sub_zero]
    rcases classify t off (t.size - off) with ⟨k, hk⟩ | hc | ⟨k, hk⟩
    · obtain ⟨a1, a2, a3⟩ := q_good hk
      obtain ⟨b1, b2, b3⟩ := q_good (t := t.extract off t.size) (off := 0) (k := k) (by rw [hz]; exact good_ext.2 hk)
      rw [a1, a2, a3, b1, b2, b3, vAt_ext]
      exact ⟨rfl, by omega, rfl⟩
    · obtain ⟨a1, a2, a3⟩ := q_cut hc
      obtain ⟨b1, b2, b3⟩ := q_cut (t := t.extract off t.size) (off := 0) (by rw [hz]; exact cut_ext.2 hc)
      rw [a1, a2, a3, b1, b2, b3, size_ext]
      exact ⟨rfl, by omega, rfl⟩
    · obtain ⟨a1, a2, a3⟩ := q_no hk
      obtain ⟨b1, b2, b3⟩ := q_no (t := t.extract off t.size) (off := 0) (k := k) (by rw [hz]; exact bad_ext.2 hk)
      rw [a1, a2, a3, b1, b2, b3, size_ext]
      exact ⟨rfl, by omega, rfl⟩
  · rw [qN_bad he, qO_bad he, qE_bad he, qN_bad he, qO_bad he, qE_bad he]
    exact ⟨rfl, by omega, rfl⟩
theorem fO_ext {t : ByteArray} {off o : Nat} {e x : Int} (h : off ≤ t.size) : off + fO (t.extract off t.size).size o e x = fO t.size (off + o) e x := by
  unfold fO
  rw [size_ext]
  by_cases hc : e = 0 ∧ ¬ x = 0
  · rw [if_pos hc, if_pos hc]; omega
  · rw [if_neg hc, if_neg hc]
theorem m_ext {t : ByteArray} {off : Nat} {e m : Int} (h : off ≤ t.size) : mN (t.extract off t.size) 0 e m = mN t off e m ∧ off + mO (t.extract off t.size) 0 e m = mO t off e m ∧ mE (t.extract off t.size) 0 e m = mE t off e m := by
  obtain ⟨h1, h2, h3⟩ := q_ext (e := e) h
  unfold mN mO mE
  rw [h1, h3]
  by_cases hc : m < qN t off e
  · simp only [if_pos hc]
    rw [fO_ext h, h2]
    exact ⟨trivial, rfl, trivial⟩
  · simp only [if_neg hc]
    exact ⟨trivial, h2, trivial⟩
theorem ext_sub {t : ByteArray} {off a b : Nat} (hb : off + b ≤ t.size) : (t.extract off t.size).extract a b = t.extract (off + a) (off + b) := by
  have hs := size_ext (t := t) (off := off)
  refine bN_eq (by rw [ext_size _ _ _ (by omega), ext_size _ _ _ (by omega)]; omega) (fun j hj => ?_)
  rw [bN_extract _ _ _ _ (by omega), bN_extract _ _ _ _ hb, bN_extract _ _ _ _ (Nat.le_refl _)]
  by_cases h1 : a + j < b
  · rw [if_pos h1, if_pos (by omega), if_pos (by omega)]
    congr 1
    omega
  · rw [if_neg h1, if_neg (by omega)]
theorem x_ext {t : ByteArray} {off : Nat} {e : Int} (h : okS t off e) : xS (t.extract off t.size) 0 e = xS t off e ∧ off + xO (t.extract off t.size) 0 e = xO t off e ∧ xE (t.extract off t.size) 0 e = xE t off e := by
  obtain ⟨h1, h2, h3⟩ := m_ext (e := e) (m := 65536) h.1
  have hm : okS t (oT t off e) (eT t off e) := m_ok h
  have hl : lT (t.extract off t.size) 0 e = lT t off e := by unfold lT; rw [h1]
  have ho : off + oT (t.extract off t.size) 0 e = oT t off e := h2
  have he : eT (t.extract off t.size) 0 e = eT t off e := h3
  unfold xS xO xE
  rw [hl, he]
  have hz := size_ext (t := t) (off := off)
  have hm1 := hm.1
  by_cases hc : t.size - oT t off e < lT t off e
  · have hc' : (t.extract off t.size).size - oT (t.extract off t.size) 0 e < lT t off e := by omega
    rw [if_pos hc', if_pos hc', if_pos hc', if_pos hc, if_pos hc, if_pos hc, fO_ext h.1, ho]
    exact ⟨rfl, rfl, rfl⟩
  · have hc' : ¬ (t.extract off t.size).size - oT (t.extract off t.size) 0 e < lT t off e := by omega
    rw [if_neg hc', if_neg hc', if_neg hc', if_neg hc, if_neg hc, if_neg hc, ext_sub (by omega), ← ho]
    refine ⟨?_, ?_, rfl⟩
    · rw [Nat.add_assoc]
    · omega
theorem ext_back {t : ByteArray} {off a : Nat} (h : off ≤ t.size) : (t.extract off t.size).extract a (t.extract off t.size).size = t.extract (off + a) t.size := by
  rw [ext_sub (by rw [size_ext]; omega), size_ext]
  congr 1
  omega
end Go.Eng.TA.R

/- wire: the document's reader: numbers with a bound, texts. -/
namespace Go.Eng.TA.R
open Go Go.Eng Go.Eng.M Go.Eng.RD Go.Lib Go.Proofs
set_option linter.unusedSimpArgs false
set_option linter.unusedVariables false
noncomputable def kQn : CT Tryd.prog Γm := CT.par 98 ofV (fun | (S, e) => S.size ≤ 1000000000000) (fun | (S, e) => [rdV S e]) (fun _ => []) (fun | (S, e) => .tup [.v (.int .i64 (qN S 0 e)), rdV (S.extract (qO S 0 e) S.size) (qE S 0 e)]) (fun _ => []) (fun _ => [])
  (callFunc_enters Tryd.func98 (by kernel_rfl) (by kernel_rfl)) (fun | (S, e), h => ansQn h)
theorem fS_ext {S : ByteArray} {o : Nat} {e x : Int} : fS (S.extract o S.size) e x = S.extract (fO S.size o e x) S.size := by
  unfold fS fO
  by_cases hc : e = 0 ∧ ¬ x = 0
  · rw [if_pos hc, if_pos hc, ext_none]
  · rw [if_neg hc, if_neg hc]
theorem runQm (S : ByteArray) (e m : Int) : bodyE (P := Tryd.prog) (Γ := Γm) [kQn, kFr] Lno false 20 [.tmp 4, .cell 5 55] (bodyOf Tryd.f116) [rdV S e, .v (.int .i64 m)] [] =
  Tree.chk (cl (ByteArray.size S ≤ (1000000000000 : Nat) ∧ LeL [AV.agg [AV.v (Value.string S), AV.v (Value.int IntKind.i64 e)]] [AV.agg [AV.v (Value.string S), AV.v (Value.int IntKind.i64 e)]]
    ∧ LeH [] [])) (Tree.br (decide (m < qN S (0 : Nat) e)) (Tree.chk (cl (True ∧ LeL [AV.agg [AV.v (Value.string (ByteArray.extract S (qO S (0 : Nat) e) (ByteArray.size S))), AV.v (Value.int
    IntKind.i64 (qE S (0 : Nat) e))], AV.v (Value.int IntKind.i64 (33 : Int))] [AV.agg [AV.v (Value.string (ByteArray.extract S (qO S (0 : Nat) e) (ByteArray.size S))), AV.v (Value.int
    IntKind.i64 (qE S (0 : Nat) e))], AV.v (Value.int IntKind.i64 (33 : Int))] ∧ LeH [] [])) (Tree.leaf (Ans.mk (AV.tup [AV.v (Value.int IntKind.i64 (0 : Int)), AV.agg [AV.v (Value.string
    (fS (ByteArray.extract S (qO S (0 : Nat) e) (ByteArray.size S)) (qE S (0 : Nat) e) (33 : Int))), AV.v (Value.int IntKind.i64 (fE (qE S (0 : Nat) e) (33 : Int)))]]) []))) (Tree.leaf
    (Ans.mk (AV.tup [AV.v (Value.int IntKind.i64 (qN S (0 : Nat) e)), AV.agg [AV.v (Value.string (ByteArray.extract S (qO S (0 : Nat) e) (ByteArray.size S))), AV.v (Value.int IntKind.i64 (qE
    S (0 : Nat) e))]]) []))) := by kernel_rfl
theorem ansQm {S : ByteArray} {e m : Int} (hz : S.size ≤ 1000000000000) : Answers Tryd.prog Γm 116 [rdV S e, .v (.int .i64 m)] [] (.tup [.v (.int .i64 (mN S 0 e m)), rdV (S.extract (mO S 0 e m) S.size) (mE S 0 e m)]) [] [] := by
  refine answers (fn := Tryd.f116) (c := bodyOf Tryd.f116) (ntmps := 20) (results := [.tmp 4, .cell 5 55]) [kQn, kFr] (Lno) false Tryd.func116 (by kernel_rfl) (by kernel_rfl) (by kernel_rfl) (by kernel_rfl) (by simp) rfl (failOK fun _ _ _ => rfl) <| Meets.of (runQm S e m) <| ?_
  simp only [fS_ext]
  by_cases h : m < qN S 0 e
  · have e1 : mN S 0 e m = 0 := if_pos h
    have e2 : mO S 0 e m = fO S.size (qO S 0 e) (qE S 0 e) 33 := if_pos h
    have e3 : mE S 0 e m = fE (qE S 0 e) 33 := if_pos h
    rw [e1, e2, e3]
    repeat' (first | refine wC (by first | omega | (simp only [W1, cond_true, cond_false]; first | done | omega)) ?_ | refine wT (by first | omega | (simp only [W1, cond_true, cond_false]; first | done | omega)) ?_ | refine wF (by intro _h; first | omega | (simp only [W1, cond_true, cond_false] at _h; first | done | omega)) ?_ | (refine wS ?_ ?_ <;> intro _h <;> simp only [W1, cond_true, cond_false] at _h))
    all_goals simp only [W1, W2, owesN, owesX, owesR, cond_true, cond_false]
    repeat' (first | apply And.intro | intro _hc)
    all_goals first | exact AV.le_refl _ | exact AV.le_any _ | exact OLe.refl _ | exact OLe.none _ | exact LeH.refl _ | exact LeL.refl _ | exact AV.le.bs _ | exact AV.le.sb _ | omega | contradiction
  · have e1 : mN S 0 e m = qN S 0 e := if_neg h
    have e2 : mO S 0 e m = qO S 0 e := if_neg h
    have e3 : mE S 0 e m = qE S 0 e := if_neg h
    rw [e1, e2, e3]
    repeat' (first | refine wC (by first | omega | (simp only [W1, cond_true, cond_false]; first | done | omega)) ?_ | refine wT (by first | omega | (simp only [W1, cond_true, cond_false]; first | done | omega)) ?_ | refine wF (by intro _h; first | omega | (simp only [W1, cond_true, cond_false] at _h; first | done | omega)) ?_ | (refine wS ?_ ?_ <;> intro _h <;> simp only [W1, cond_true, cond_false] at _h))
    all_goals simp only [W1, W2, owesN, owesX, owesR, cond_true, cond_false]
    repeat' (first | apply And.intro | intro _hc)
    all_goals first | exact AV.le_refl _ | exact AV.le_any _ | exact OLe.refl _ | exact OLe.none _ | exact LeH.refl _ | exact LeL.refl _ | exact AV.le.bs _ | exact AV.le.sb _ | omega | contradiction
theorem qE_qN {S : ByteArray} {off : Nat} {e : Int} (h : ¬ qE S off e = 0) : qN S off e = 0 := by
  by_cases he : e = 0
  · subst he
    rcases classify S off (S.size - off) with ⟨k, hk⟩ | hc | ⟨k, hk⟩
    · exact absurd (q_good hk).2.2 h
    · exact (q_cut hc).1
    · exact (q_no hk).1
  · exact qN_bad he
theorem mE_mN {S : ByteArray} {off : Nat} {e m : Int} (h : ¬ mE S off e m = 0) : mN S off e m = 0 := by
  unfold mE at h
  unfold mN
  by_cases hm : m < qN S off e
  · rw [if_pos hm]
  · rw [if_neg hm]
    rw [if_neg hm] at h
    exact qE_qN h
theorem runQt (S : ByteArray) (e : Int) (n : Nat) (S1 : ByteArray) (e1 : Int) (h : Answers Tryd.prog Γm 116 [rdV S e, .v (.int .i64 65536)] [] (.tup [.v (.int .i64 (n : Int)), rdV S1 e1]) [] []) : bodyE (P := Tryd.prog) (Γ := Γm) [CT.at 116 h, kFr] Lno false 31 [.tmp 2, .cell 3 55] (bodyOf Tryd.f100) [rdV S e] [] =
  Tree.chk (cl (LeL [AV.agg [AV.v (Value.string S), AV.v (Value.int IntKind.i64 e)], AV.v (Value.int IntKind.i64 (65536 : Int))] [AV.agg [AV.v (Value.string S), AV.v (Value.int IntKind.i64
    e)], AV.v (Value.int IntKind.i64 (65536 : Int))] ∧ LeH [] [])) (Tree.br (!decide (e1 = (0 : Int))) (Tree.leaf (Ans.mk (AV.tup [AV.v (Value.string (ByteArray.mk #[])), AV.agg [AV.v
    (Value.string S1), AV.v (Value.int IntKind.i64 e1)]]) [])) (Tree.br (decide ((↑(ByteArray.size S1) : Int) < (↑n : Int))) (Tree.chk (cl (True ∧ LeL [AV.agg [AV.v (Value.string S1), AV.v
    (Value.int IntKind.i64 e1)], AV.v (Value.int IntKind.i64 (30 : Int))] [AV.agg [AV.v (Value.string S1), AV.v (Value.int IntKind.i64 e1)], AV.v (Value.int IntKind.i64 (30 : Int))] ∧ LeH []
    [])) (Tree.leaf (Ans.mk (AV.tup [AV.v (Value.string (ByteArray.mk #[])), AV.agg [AV.v (Value.string (fS S1 e1 (30 : Int))), AV.v (Value.int IntKind.i64 (fE e1 (30 : Int)))]]) [])))
    (Tree.chk (decide ((↑(0 : Nat) : Int) ≤ (↑n : Int)) && decide ((↑n : Int) ≤ (↑(ByteArray.size S1) : Int))) (Tree.chk (decide ((0 : Int) ≤ (↑n : Int)) && decide ((↑n : Int) ≤
    (↑(ByteArray.size S1) : Int)) && decide ((↑(ByteArray.size S1) : Int) ≤ (↑(ByteArray.size S1) : Int))) (Tree.leaf (Ans.mk (AV.tup [AV.v (Value.string (ByteArray.extract S1 (0 : Nat) n)),
    AV.agg [AV.v (Value.string (ByteArray.extract S1 n (ByteArray.size S1))), AV.v (Value.int IntKind.i64 (0 : Int))]]) [])))))) := by kernel_rfl
theorem ansQt {S : ByteArray} {e : Int} (hz : S.size ≤ 1000000000000) (hk : okS S 0 e) : Answers Tryd.prog Γm 100 [rdV S e] [] (.tup [.v (.string (xS S 0 e)), rdV (S.extract (xO S 0 e) S.size) (xE S 0 e)]) [] [] := by
  have h0 : Answers Tryd.prog Γm 116 [rdV S e, .v (.int .i64 65536)] [] (.tup [.v (.int .i64 (lT S 0 e : Int)), rdV (S.extract (oT S 0 e) S.size) (eT S 0 e)]) [] [] := by
    have := ansQm hz (e := e) (m := 65536)
    rw [← Int.toNat_of_nonneg (m_range (t := S) (off := 0) (e := e) (m := 65536) (by decide)).1] at this
    exact this
  have hm : okS S (oT S 0 e) (eT S 0 e) := m_ok hk
  have hl : ¬ eT S 0 e = 0 → lT S 0 e = 0 := fun h => by
    have := mE_mN (S := S) (off := 0) (e := e) (m := 65536) h
    unfold lT; rw [this]; rfl
  have hl2 : lT S 0 e ≤ 65536 := by
    have := (m_range (t := S) (off := 0) (e := e) (m := 65536) (by decide)).2
    unfold lT; omega
  have hxS : xS S 0 e = if S.size - oT S 0 e < lT S 0 e then ⟨#[]⟩ else S.extract (oT S 0 e) (oT S 0 e + lT S 0 e) := rfl
  have hxO : xO S 0 e = if S.size - oT S 0 e < lT S 0 e then fO S.size (oT S 0 e) (eT S 0 e) 30 else oT S 0 e + lT S 0 e := rfl
  have hxE : xE S 0 e = if S.size - oT S 0 e < lT S 0 e then fE (eT S 0 e) 30 else eT S 0 e := rfl
  rw [hxS, hxO, hxE]
  generalize lT S 0 e = n at *
  generalize oT S 0 e = o at *
  generalize eT S 0 e = e1 at *
  refine answers (fn := Tryd.f100) (c := bodyOf Tryd.f100) (ntmps := 31) (results := [.tmp 2, .cell 3 55]) [CT.at 116 h0, kFr] (Lno) false Tryd.func100 (by kernel_rfl) (by kernel_rfl) (by kernel_rfl) (by kernel_rfl) (by simp) rfl (failOK fun _ _ _ => rfl) <| Meets.of (runQt S e n _ e1 h0) <| ?_
  have hm1 := hm.1
  have hsz : (S.extract o S.size).size = S.size - o := ext_size _ _ _ (Nat.le_refl _)
  have hb : (S.extract o S.size).extract n (S.extract o S.size).size = S.extract (o + n) S.size := ext_back hm1
  rw [fS_ext, hb]
  by_cases he : e1 = 0
  · subst he
    by_cases h : S.size - o < n
    · rw [if_pos h, if_pos h, if_pos h]
      repeat' (first | refine wC (by first | omega | (simp only [W1, cond_true, cond_false]; first | done | omega)) ?_ | refine wT (by first | omega | (simp only [W1, cond_true, cond_false]; first | done | omega)) ?_ | refine wF (by intro _h; first | omega | (simp only [W1, cond_true, cond_false] at _h; first | done | omega)) ?_ | (refine wS ?_ ?_ <;> intro _h <;> simp only [W1, cond_true, cond_false] at _h))
      all_goals simp only [W1, W2, owesN, owesX, owesR, cond_true, cond_false]
      repeat' (first | apply And.intro | intro _hc)
      all_goals first | exact AV.le_refl _ | exact AV.le_any _ | exact OLe.refl _ | exact OLe.none _ | exact LeH.refl _ | exact LeL.refl _ | exact AV.le.bs _ | exact AV.le.sb _ | omega | contradiction
    · rw [if_neg h, if_neg h, if_neg h]
      have hc : (S.extract o S.size).extract 0 n = S.extract o (o + n) := by rw [ext_sub (by omega)]; rfl
      rw [hc]
      repeat' (first | refine wC (by first | omega | (simp only [W1, cond_true, cond_false]; first | done | omega)) ?_ | refine wT (by first | omega | (simp only [W1, cond_true, cond_false]; first | done | omega)) ?_ | refine wF (by intro _h; first | omega | (simp only [W1, cond_true, cond_false] at _h; first | done | omega)) ?_ | (refine wS ?_ ?_ <;> intro _h <;> simp only [W1, cond_true, cond_false] at _h))
      all_goals simp only [W1, W2, owesN, owesX, owesR, cond_true, cond_false]
      repeat' (first | apply And.intro | intro _hc)
      all_goals first | exact AV.le_refl _ | exact AV.le_any _ | exact OLe.refl _ | exact OLe.none _ | exact LeH.refl _ | exact LeL.refl _ | exact AV.le.bs _ | exact AV.le.sb _ | omega | contradiction
  · have hn := hl he
    subst hn
    have ho : o = S.size := hm.2.resolve_left he
    have h : ¬ S.size - o < 0 := by omega
    rw [if_neg h, if_neg h, if_neg h, Nat.add_zero]
    have hc : S.extract o o = ⟨#[]⟩ := by rw [ho, ext_none]
    rw [hc]
    repeat' (first | refine wC (by first | omega | (simp only [W1, cond_true, cond_false]; first | done | omega)) ?_ | refine wT (by first | omega | (simp only [W1, cond_true, cond_false]; first | done | omega)) ?_ | refine wF (by intro _h; first | omega | (simp only [W1, cond_true, cond_false] at _h; first | done | omega)) ?_ | (refine wS ?_ ?_ <;> intro _h <;> simp only [W1, cond_true, cond_false] at _h))
    all_goals simp only [W1, W2, owesN, owesX, owesR, cond_true, cond_false]
    repeat' (first | apply And.intro | intro _hc)
    all_goals first | exact AV.le_refl _ | exact AV.le_any _ | exact OLe.refl _ | exact OLe.none _ | exact LeH.refl _ | exact LeL.refl _ | exact AV.le.bs _ | exact AV.le.sb _ | omega | contradiction
noncomputable def kQt : CT Tryd.prog Γm := CT.par 100 ofV (fun | (S, e) => S.size ≤ 1000000000000 ∧ okS S 0 e) (fun | (S, e) => [rdV S e]) (fun _ => []) (fun | (S, e) => .tup [.v (.string (xS S 0 e)), rdV (S.extract (xO S 0 e) S.size) (xE S 0 e)]) (fun _ => []) (fun _ => [])
  (callFunc_enters Tryd.func100 (by kernel_rfl) (by kernel_rfl)) (fun | (S, e), h => ansQt h.1 h.2)
theorem runQd (S : ByteArray) (e : Int) : bodyE (P := Tryd.prog) (Γ := Γm) [] Lno false 13 [.tmp 2] (bodyOf Tryd.f42) [rdV S e] [] =
  Tree.br (bif decide (e = (0 : Int)) then !decide (S = ByteArray.mk #[]) else false) (Tree.leaf (Ans.mk (AV.v (Value.int IntKind.i64 (32 : Int))) [])) (Tree.leaf (Ans.mk (AV.v (Value.int
    IntKind.i64 e)) [])) := by kernel_rfl
theorem ansQd {S : ByteArray} {e : Int} : Answers Tryd.prog Γm 42 [rdV S e] [] (.v (.int .i64 (dE S 0 e))) [] [] := by
  refine answers (fn := Tryd.f42) (c := bodyOf Tryd.f42) (ntmps := 13) (results := [.tmp 2]) [] (Lno) false Tryd.func42 (by kernel_rfl) (by kernel_rfl) (by kernel_rfl) (by kernel_rfl) (by simp) rfl (failOK fun _ _ _ => rfl) <| Meets.of (runQd S e) <| ?_
  have hE : S = ⟨#[]⟩ ↔ S.size = 0 := emp_size
  by_cases h : e = 0 ∧ 0 < S.size
  · have e1 : dE S 0 e = 32 := if_pos h
    have h2 : decide (S = ⟨#[]⟩) = false := decide_eq_false (by rw [hE]; omega)
    rw [e1, h2]
    repeat' (first | refine wC (by first | omega | (simp only [W1, cond_true, cond_false]; first | done | omega)) ?_ | refine wT (by first | omega | (simp only [W1, cond_true, cond_false]; first | done | omega)) ?_ | refine wF (by intro _h; first | omega | (simp only [W1, cond_true, cond_false] at _h; first | done | omega)) ?_ | (refine wS ?_ ?_ <;> intro _h <;> simp only [W1, cond_true, cond_false] at _h))
    all_goals simp only [W1, W2, owesN, owesX, owesR, cond_true, cond_false]
    repeat' (first | apply And.intro | intro _hc)
    all_goals first | exact AV.le_refl _ | exact AV.le_any _ | exact OLe.refl _ | exact OLe.none _ | exact LeH.refl _ | exact LeL.refl _ | exact AV.le.bs _ | exact AV.le.sb _ | omega | contradiction
  · have e1 : dE S 0 e = e := if_neg h
    rw [e1]
    by_cases he : e = 0
    · have h2 : decide (S = ⟨#[]⟩) = true := decide_eq_true (by rw [hE]; omega)
      rw [h2]
      repeat' (first | refine wC (by first | omega | (simp only [W1, cond_true, cond_false]; first | done | omega)) ?_ | refine wT (by first | omega | (simp only [W1, cond_true, cond_false]; first | done | omega)) ?_ | refine wF (by intro _h; first | omega | (simp only [W1, cond_true, cond_false] at _h; first | done | omega)) ?_ | (refine wS ?_ ?_ <;> intro _h <;> simp only [W1, cond_true, cond_false] at _h))
      all_goals simp only [W1, W2, owesN, owesX, owesR, cond_true, cond_false]
      repeat' (first | apply And.intro | intro _hc)
      all_goals first | exact AV.le_refl _ | exact AV.le_any _ | exact OLe.refl _ | exact OLe.none _ | exact LeH.refl _ | exact LeL.refl _ | exact AV.le.bs _ | exact AV.le.sb _ | omega | contradiction
    · repeat' (first | refine wC (by first | omega | (simp only [W1, cond_true, cond_false]; first | done | omega)) ?_ | refine wT (by first | omega | (simp only [W1, cond_true, cond_false]; first | done | omega)) ?_ | refine wF (by intro _h; first | omega | (simp only [W1, cond_true, cond_false] at _h; first | done | omega)) ?_ | (refine wS ?_ ?_ <;> intro _h <;> simp only [W1, cond_true, cond_false] at _h))
      all_goals simp only [W1, W2, owesN, owesX, owesR, cond_true, cond_false]
      repeat' (first | apply And.intro | intro _hc)
      all_goals first | exact AV.le_refl _ | exact AV.le_any _ | exact OLe.refl _ | exact OLe.none _ | exact LeH.refl _ | exact LeL.refl _ | exact AV.le.bs _ | exact AV.le.sb _ | omega | contradiction
noncomputable def kQd : CT Tryd.prog Γm := CT.par 42 ofV (fun _ => True) (fun | (S, e) => [rdV S e]) (fun _ => []) (fun | (S, e) => .v (.int .i64 (dE S 0 e))) (fun _ => []) (fun _ => [])
  (callFunc_enters Tryd.func42 (by kernel_rfl) (by kernel_rfl)) (fun | (S, e), _ => ansQd)
theorem d_ext {t : ByteArray} {off : Nat} {e : Int} : dE (t.extract off t.size) 0 e = dE t off e := by
  unfold dE
  rw [size_ext]
  by_cases h : e = 0 ∧ off < t.size
  · rw [if_pos h, if_pos ⟨h.1, by omega⟩]
  · rw [if_neg h, if_neg (fun h' => h ⟨h'.1, by omega⟩)]
end Go.Eng.TA.R

/- wire: readers: the families of calls, taken apart by their own form. -/
namespace Go.Eng.TA.R
open Go Go.Eng Go.Eng.M Go.Eng.RD Go.Lib Go.Proofs
set_option linter.unusedSimpArgs false
set_option linter.unusedVariables false
/-- a reader that was handed in: its place, how much is left, the error, the block behind it -/
structure RX where
  off : Nat
  len : Nat
  e : Int
  N : Nat
  f : Nat → List AV
def RX.ok (t : ByteArray) (x : RX) : Prop := x.len = t.size - x.off ∧ x.N = t.size ∧ x.f = bsF t
def toX : List AV → List Blk → Option RX
  | [.ptr 0 0], [.row [.hs 1 off len, .v (.int .i64 e)], .arr 1 N f] => some ⟨off, len, e, N, f⟩
  | _, _ => none
def toXI : List AV → List Blk → Option (RX × Int)
  | [.ptr 0 0, .v (.int .i64 n)], [.row [.hs 1 off len, .v (.int .i64 e)], .arr 1 N f] => some (⟨off, len, e, N, f⟩, n)
  | _, _ => none
def rdu (t : ByteArray) (off : Nat) (e : Int) : List (Option (Option Blk)) := [some (some (.row [.hs 1 off (t.size - off), .v (.int .i64 e)])), none]
theorem toX_inv {args : List AV} {Hin : List Blk} {x : RX} {t : ByteArray} (h : toX args Hin = some x) (hp : x.ok t) : args = [.ptr 0 0] ∧ Hin = rdb t x.off x.e := by
  unfold toX at h
  split at h
  · cases h
    obtain ⟨h1, h2, h3⟩ := hp
    simp only at h1 h2 h3
    subst h1; subst h2; subst h3
    exact ⟨rfl, rfl⟩
  · cases h
theorem toXI_inv {args : List AV} {Hin : List Blk} {x : RX × Int} {t : ByteArray} (h : toXI args Hin = some x) (hp : x.1.ok t) : args = [.ptr 0 0, .v (.int .i64 x.2)] ∧ Hin = rdb t x.1.off x.1.e := by
  unfold toXI at h
  split at h
  · cases h
    obtain ⟨h1, h2, h3⟩ := hp
    simp only at h1 h2 h3
    subst h1; subst h2; subst h3
    exact ⟨rfl, rfl⟩
  · cases h
noncomputable def hRn (t : ByteArray) (hz : t.size ≤ 1000000000000) : CT Tryd.prog Γm := CT.ex 95 toX (RX.ok t) (fun x => .v (.int .i64 (qN t x.off x.e))) (fun x => rdu t (qO t x.off x.e) (qE t x.off x.e)) (fun _ => [])
  (callFunc_enters Tryd.func95 (by kernel_rfl) (by kernel_rfl)) (fun args Hin x hx hp => by
    obtain ⟨rfl, rfl⟩ := toX_inv hx hp
    exact (ansRn hz).cU rfl)
noncomputable def hTt (t : ByteArray) (hz : t.size ≤ 1000000000000) : CT Tryd.prog Γm := CT.ex 97 toX (fun x => x.ok t ∧ okS t x.off x.e) (fun x => .v (.string (xS t x.off x.e))) (fun x => rdu t (xO t x.off x.e) (xE t x.off x.e)) (fun _ => [])
  (callFunc_enters Tryd.func97 (by kernel_rfl) (by kernel_rfl)) (fun args Hin x hx hp => by
    obtain ⟨rfl, rfl⟩ := toX_inv hx hp.1
    exact (ansTt hz hp.2).cU rfl)
noncomputable def hFl (t : ByteArray) : CT Tryd.prog Γm := CT.ex 96 toXI (fun x => x.1.ok t) (fun _ => .tup []) (fun x => rdu t (fO t.size x.1.off x.1.e x.2) (fE x.1.e x.2)) (fun _ => [])
  (callFunc_enters Tryd.func96 (by kernel_rfl) (by kernel_rfl)) (fun args Hin x hx hp => by
    obtain ⟨rfl, rfl⟩ := toXI_inv hx hp
    exact ansFl.cU rfl)
noncomputable def hMo (t : ByteArray) (hz : t.size ≤ 1000000000000) : CT Tryd.prog Γm := CT.ex 115 toXI (fun x => x.1.ok t) (fun x => .v (.int .i64 (mN t x.1.off x.1.e x.2))) (fun x => rdu t (mO t x.1.off x.1.e x.2) (mE t x.1.off x.1.e x.2)) (fun _ => [])
  (callFunc_enters Tryd.func115 (by kernel_rfl) (by kernel_rfl)) (fun args Hin x hx hp => by
    obtain ⟨rfl, rfl⟩ := toXI_inv hx hp
    exact (ansMo hz).cU rfl)
noncomputable def hRs (t : ByteArray) : CT Tryd.prog Γm := CT.ex 43 toX (RX.ok t) (fun x => .v (.int .i64 ((t.size - x.off : Nat) : Int))) (fun _ => []) (fun _ => [])
  (callFunc_enters Tryd.func43 (by kernel_rfl) (by kernel_rfl)) (fun args Hin x hx hp => by
    obtain ⟨rfl, rfl⟩ := toX_inv hx hp
    exact ansRs.cU rfl)
noncomputable def hDn (t : ByteArray) : CT Tryd.prog Γm := CT.ex 41 toX (RX.ok t) (fun x => .v (.int .i64 (dE t x.off x.e))) (fun _ => []) (fun _ => [])
  (callFunc_enters Tryd.func41 (by kernel_rfl) (by kernel_rfl)) (fun args Hin x hx hp => by
    obtain ⟨rfl, rfl⟩ := toX_inv hx hp
    exact ansDn.cU rfl)
/-! ### the document's -/
def toV : List AV → List Blk → Option (ByteArray × Int)
  | [.agg [.v (.string S), .v (.int .i64 e)]], [] => some (S, e)
  | _, _ => none
def toVI : List AV → List Blk → Option (ByteArray × Int × Int)
  | [.agg [.v (.string S), .v (.int .i64 e)], .v (.int .i64 x)], [] => some (S, e, x)
  | _, _ => none
theorem toV_inv {args : List AV} {Hin : List Blk} {x : ByteArray × Int} (h : toV args Hin = some x) : args = [rdV x.1 x.2] ∧ Hin = [] := by
  unfold toV at h
  split at h
  · cases h; exact ⟨rfl, rfl⟩
  · cases h
theorem toVI_inv {args : List AV} {Hin : List Blk} {x : ByteArray × Int × Int} (h : toVI args Hin = some x) : args = [rdV x.1 x.2.1, .v (.int .i64 x.2.2)] ∧ Hin = [] := by
  unfold toVI at h
  split at h
  · cases h; exact ⟨rfl, rfl⟩
  · cases h
noncomputable def sR (S : ByteArray) (e : Int) : ByteArray := S.extract (qO S 0 e) S.size
noncomputable def sX (S : ByteArray) (e : Int) : ByteArray := S.extract (xO S 0 e) S.size
noncomputable def sM (S : ByteArray) (e m : Int) : ByteArray := S.extract (mO S 0 e m) S.size
noncomputable def hQn : CT Tryd.prog Γm := CT.ex 98 toV (fun x => x.1.size ≤ 1000000000000) (fun x => .tup [.v (.int .i64 (qN x.1 0 x.2)), rdV (sR x.1 x.2) (qE x.1 0 x.2)]) (fun _ => []) (fun _ => [])
  (callFunc_enters Tryd.func98 (by kernel_rfl) (by kernel_rfl)) (fun args Hin x hx hp => by
    obtain ⟨rfl, rfl⟩ := toV_inv hx
    exact (ansQn hp).cU rfl)
noncomputable def hQt : CT Tryd.prog Γm := CT.ex 100 toV (fun x => x.1.size ≤ 1000000000000 ∧ okS x.1 0 x.2) (fun x => .tup [.v (.string (xS x.1 0 x.2)), rdV (sX x.1 x.2) (xE x.1 0 x.2)]) (fun _ => []) (fun _ => [])
  (callFunc_enters Tryd.func100 (by kernel_rfl) (by kernel_rfl)) (fun args Hin x hx hp => by
    obtain ⟨rfl, rfl⟩ := toV_inv hx
    exact (ansQt hp.1 hp.2).cU rfl)
noncomputable def hQm : CT Tryd.prog Γm := CT.ex 116 toVI (fun x => x.1.size ≤ 1000000000000) (fun x => .tup [.v (.int .i64 (mN x.1 0 x.2.1 x.2.2)), rdV (sM x.1 x.2.1 x.2.2) (mE x.1 0 x.2.1 x.2.2)]) (fun _ => []) (fun _ => [])
  (callFunc_enters Tryd.func116 (by kernel_rfl) (by kernel_rfl)) (fun args Hin x hx hp => by
    obtain ⟨rfl, rfl⟩ := toVI_inv hx
    exact (ansQm hp).cU rfl)
noncomputable def hFr : CT Tryd.prog Γm := CT.ex 99 toVI (fun _ => True) (fun x => rdV (fS x.1 x.2.1 x.2.2) (fE x.2.1 x.2.2)) (fun _ => []) (fun _ => [])
  (callFunc_enters Tryd.func99 (by kernel_rfl) (by kernel_rfl)) (fun args Hin x hx hp => by
    obtain ⟨rfl, rfl⟩ := toVI_inv hx
    exact ansFr.cU rfl)
noncomputable def hQd : CT Tryd.prog Γm := CT.ex 42 toV (fun _ => True) (fun x => .v (.int .i64 (dE x.1 0 x.2))) (fun _ => []) (fun _ => [])
  (callFunc_enters Tryd.func42 (by kernel_rfl) (by kernel_rfl)) (fun args Hin x hx hp => by
    obtain ⟨rfl, rfl⟩ := toV_inv hx
    exact ansQd.cU rfl)
theorem sR_ext {t : ByteArray} {off : Nat} {e : Int} (h : off ≤ t.size) : sR (t.extract off t.size) e = t.extract (qO t off e) t.size := by
  unfold sR
  rw [ext_back h, (q_ext h).2.1]
theorem sX_ext {t : ByteArray} {off : Nat} {e : Int} (h : okS t off e) : sX (t.extract off t.size) e = t.extract (xO t off e) t.size := by
  unfold sX
  rw [ext_back h.1, (x_ext h).2.1]
theorem sM_ext {t : ByteArray} {off : Nat} {e m : Int} (h : off ≤ t.size) : sM (t.extract off t.size) e m = t.extract (mO t off e m) t.size := by
  unfold sM
  rw [ext_back h, (m_ext h).2.1]
theorem okS_ext {t : ByteArray} {off : Nat} {e : Int} (h : okS t off e) : okS (t.extract off t.size) 0 e := by
  refine ⟨Nat.zero_le _, ?_⟩
  rw [size_ext]
  rcases h.2 with h1 | h1
  · exact .inl h1
  · exact .inr (by omega)
end Go.Eng.TA.R

/- transactions: out of bytes: the runs. -/
namespace Go.Eng.TA.R
open Go Go.Eng Go.Eng.M Go.Eng.RD Go.Lib Go.Proofs
set_option linter.unusedSimpArgs false
set_option linter.unusedVariables false
def toTx : List AV → List Blk → Option Tx
  | [.agg [.v (.int .i64 k), .v (.string f), .v (.string t), .v (.string y), .v (.string v), .v (.int .i64 a), .v (.int .i64 n)]], [] => some ⟨k, f, t, y, v, a, n⟩
  | _, _ => none
theorem toTx_inv {args : List AV} {Hin : List Blk} {x : Tx} (h : toTx args Hin = some x) : args = [txV x] ∧ Hin = [] := by
  unfold toTx at h
  split at h
  · cases h; exact ⟨rfl, rfl⟩
  · cases h
noncomputable def hTx : CT Tryd.prog Γm := CT.ex 32 toTx smallT (fun x => .v (.int .i64 (erT (txB x)))) (fun _ => []) (fun _ => [])
  (callFunc_enters Tryd.func32 (by kernel_rfl) (by kernel_rfl)) (fun args Hin x hx hp => by
    obtain ⟨rfl, rfl⟩ := toTx_inv hx
    exact (ansTx hp).cU rfl)
noncomputable def hTxR : CT Tryd.prog Γm := CT.ex 33 toTx smallT (fun x => .sb (txB x)) (fun _ => []) (fun _ => [])
  (callFunc_enters Tryd.func33 (by kernel_rfl) (by kernel_rfl)) (fun args Hin x hx hp => by
    obtain ⟨rfl, rfl⟩ := toTx_inv hx
    exact (ansTxR hp).cU rfl)
theorem runTake (t : ByteArray) (hz : t.size ≤ 1000000000000) (off : Nat) (e : Int) : bodyE (P := Tryd.prog) (Γ := Γm) [hRn t hz, hTt t hz, hFl t, hDn t, hTx] Lno false 52 [.cell 2 40] (bodyOf Tryd.f39) [.ptr 0 0] (rdb t off e) =
  Tree.chk (cl (RX.ok t (RX.mk off (ByteArray.size t - off) e (ByteArray.size t) (bsF t)))) (Tree.br (decide (qN t off e = (1 : Int))) (Tree.br (decide (qN t off e = (1 : Int))) (Tree.chk (cl
    (RX.ok t (RX.mk (qO t off e) (ByteArray.size t - qO t off e) (qE t off e) (ByteArray.size t) (bsF t)))) (Tree.chk (cl (RX.ok t (RX.mk (qO t (qO t off e) (qE t off e)) (ByteArray.size t -
    qO t (qO t off e) (qE t off e)) (qE t (qO t off e) (qE t off e)) (ByteArray.size t) (bsF t)) ∧ okS t (qO t (qO t off e) (qE t off e)) (qE t (qO t off e) (qE t off e)))) (Tree.br (decide
    (qN t off e = (1 : Int))) (Tree.chk (cl (RX.ok t (RX.mk (xO t (qO t (qO t off e) (qE t off e)) (qE t (qO t off e) (qE t off e))) (ByteArray.size t - xO t (qO t (qO t off e) (qE t off e))
    (qE t (qO t off e) (qE t off e))) (xE t (qO t (qO t off e) (qE t off e)) (qE t (qO t off e) (qE t off e))) (ByteArray.size t) (bsF t)) ∧ okS t (xO t (qO t (qO t off e) (qE t off e)) (qE
    t (qO t off e) (qE t off e))) (xE t (qO t (qO t off e) (qE t off e)) (qE t (qO t off e) (qE t off e))))) (Tree.chk (cl (RX.ok t (RX.mk (xO t (xO t (qO t (qO t off e) (qE t off e)) (qE t
    (qO t off e) (qE t off e))) (xE t (qO t (qO t off e) (qE t off e)) (qE t (qO t off e) (qE t off e)))) (ByteArray.size t - xO t (xO t (qO t (qO t off e) (qE t off e)) (qE t (qO t off e)
    (qE t off e))) (xE t (qO t (qO t off e) (qE t off e)) (qE t (qO t off e) (qE t off e)))) (xE t (xO t (qO t (qO t off e) (qE t off e)) (qE t (qO t off e) (qE t off e))) (xE t (qO t (qO t
    off e) (qE t off e)) (qE t (qO t off e) (qE t off e)))) (ByteArray.size t) (bsF t)))) (Tree.chk (cl (smallT (Tx.mk (qN t off e) (xS t (qO t (qO t off e) (qE t off e)) (qE t (qO t off e)
    (qE t off e))) (xS t (xO t (qO t (qO t off e) (qE t off e)) (qE t (qO t off e) (qE t off e))) (xE t (qO t (qO t off e) (qE t off e)) (qE t (qO t off e) (qE t off e)))) (ByteArray.mk #[])
    (ByteArray.mk #[]) (qN t (xO t (xO t (qO t (qO t off e) (qE t off e)) (qE t (qO t off e) (qE t off e))) (xE t (qO t (qO t off e) (qE t off e)) (qE t (qO t off e) (qE t off e)))) (xE t
    (xO t (qO t (qO t off e) (qE t off e)) (qE t (qO t off e) (qE t off e))) (xE t (qO t (qO t off e) (qE t off e)) (qE t (qO t off e) (qE t off e))))) (qN t (qO t off e) (qE t off e)))))
    (Tree.br (!decide (erT (txB (Tx.mk (qN t off e) (xS t (qO t (qO t off e) (qE t off e)) (qE t (qO t off e) (qE t off e))) (xS t (xO t (qO t (qO t off e) (qE t off e)) (qE t (qO t off e)
    (qE t off e))) (xE t (qO t (qO t off e) (qE t off e)) (qE t (qO t off e) (qE t off e)))) (ByteArray.mk #[]) (ByteArray.mk #[]) (qN t (xO t (xO t (qO t (qO t off e) (qE t off e)) (qE t
    (qO t off e) (qE t off e))) (xE t (qO t (qO t off e) (qE t off e)) (qE t (qO t off e) (qE t off e)))) (xE t (xO t (qO t (qO t off e) (qE t off e)) (qE t (qO t off e) (qE t off e))) (xE t
    (qO t (qO t off e) (qE t off e)) (qE t (qO t off e) (qE t off e))))) (qN t (qO t off e) (qE t off e)))) = (0 : Int))) (Tree.chk (cl (RX.ok t (RX.mk (qO t (xO t (xO t (qO t (qO t off e)
    (qE t off e)) (qE t (qO t off e) (qE t off e))) (xE t (qO t (qO t off e) (qE t off e)) (qE t (qO t off e) (qE t off e)))) (xE t (xO t (qO t (qO t off e) (qE t off e)) (qE t (qO t off e)
    (qE t off e))) (xE t (qO t (qO t off e) (qE t off e)) (qE t (qO t off e) (qE t off e))))) (ByteArray.size t - qO t (xO t (xO t (qO t (qO t off e) (qE t off e)) (qE t (qO t off e) (qE t
    off e))) (xE t (qO t (qO t off e) (qE t off e)) (qE t (qO t off e) (qE t off e)))) (xE t (xO t (qO t (qO t off e) (qE t off e)) (qE t (qO t off e) (qE t off e))) (xE t (qO t (qO t off e)
    (qE t off e)) (qE t (qO t off e) (qE t off e))))) (qE t (xO t (xO t (qO t (qO t off e) (qE t off e)) (qE t (qO t off e) (qE t off e))) (xE t (qO t (qO t off e) (qE t off e)) (qE t (qO t
    off e) (qE t off e)))) (xE t (xO t (qO t (qO t off e) (qE t off e)) (qE t (qO t off e) (qE t off e))) (xE t (qO t (qO t off e) (qE t off e)) (qE t (qO t off e) (qE t off e)))))
    (ByteArray.size t) (bsF t)))) (Tree.chk (cl (RX.ok t (RX.mk (fO (ByteArray.size t) (qO t (xO t (xO t (qO t (qO t off e) (qE t off e)) (qE t (qO t off e) (qE t off e))) (xE t (qO t (qO t
    off e) (qE t off e)) (qE t (qO t off e) (qE t off e)))) (xE t (xO t (qO t (qO t off e) (qE t off e)) (qE t (qO t off e) (qE t off e))) (xE t (qO t (qO t off e) (qE t off e)) (qE t (qO t
    off e) (qE t off e))))) (qE t (xO t (xO t (qO t (qO t off e) (qE t off e)) (qE t (qO t off e) (qE t off e))) (xE t (qO t (qO t off e) (qE t off e)) (qE t (qO t off e) (qE t off e)))) (xE
    t (xO t (qO t (qO t off e) (qE t off e)) (qE t (qO t off e) (qE t off e))) (xE t (qO t (qO t off e) (qE t off e)) (qE t (qO t off e) (qE t off e))))) (80 : Int)) (ByteArray.size t - fO
    (ByteArray.size t) (qO t (xO t (xO t (qO t (qO t off e) (qE t off e)) (qE t (qO t off e) (qE t off e))) (xE t (qO t (qO t off e) (qE t off e)) (qE t (qO t off e) (qE t off e)))) (xE t
    (xO t (qO t (qO t off e) (qE t off e)) (qE t (qO t off e) (qE t off e))) (xE t (qO t (qO t off e) (qE t off e)) (qE t (qO t off e) (qE t off e))))) (qE t (xO t (xO t (qO t (qO t off e)
    (qE t off e)) (qE t (qO t off e) (qE t off e))) (xE t (qO t (qO t off e) (qE t off e)) (qE t (qO t off e) (qE t off e)))) (xE t (xO t (qO t (qO t off e) (qE t off e)) (qE t (qO t off e)
    (qE t off e))) (xE t (qO t (qO t off e) (qE t off e)) (qE t (qO t off e) (qE t off e))))) (80 : Int)) (fE (qE t (xO t (xO t (qO t (qO t off e) (qE t off e)) (qE t (qO t off e) (qE t off
    e))) (xE t (qO t (qO t off e) (qE t off e)) (qE t (qO t off e) (qE t off e)))) (xE t (xO t (qO t (qO t off e) (qE t off e)) (qE t (qO t off e) (qE t off e))) (xE t (qO t (qO t off e) (qE
    t off e)) (qE t (qO t off e) (qE t off e))))) (80 : Int)) (ByteArray.size t) (bsF t)))) (Tree.br (bif !decide (dE t (fO (ByteArray.size t) (qO t (xO t (xO t (qO t (qO t off e) (qE t off
    e)) (qE t (qO t off e) (qE t off e))) (xE t (qO t (qO t off e) (qE t off e)) (qE t (qO t off e) (qE t off e)))) (xE t (xO t (qO t (qO t off e) (qE t off e)) (qE t (qO t off e) (qE t off
    e))) (xE t (qO t (qO t off e) (qE t off e)) (qE t (qO t off e) (qE t off e))))) (qE t (xO t (xO t (qO t (qO t off e) (qE t off e)) (qE t (qO t off e) (qE t off e))) (xE t (qO t (qO t off
    e) (qE t off e)) (qE t (qO t off e) (qE t off e)))) (xE t (xO t (qO t (qO t off e) (qE t off e)) (qE t (qO t off e) (qE t off e))) (xE t (qO t (qO t off e) (qE t off e)) (qE t (qO t off
    e) (qE t off e))))) (80 : Int)) (fE (qE t (xO t (xO t (qO t (qO t off e) (qE t off e)) (qE t (qO t off e) (qE t off e))) (xE t (qO t (qO t off e) (qE t off e)) (qE t (qO t off e) (qE t
    off e)))) (xE t (xO t (qO t (qO t off e) (qE t off e)) (qE t (qO t off e) (qE t off e))) (xE t (qO t (qO t off e) (qE t off e)) (qE t (qO t off e) (qE t off e))))) (80 : Int)) = (0 :
    Int)) then !decide (dE t (fO (ByteArray.size t) (qO t (xO t (xO t (qO t (qO t off e) (qE t off e)) (qE t (qO t off e) (qE t off e))) (xE t (qO t (qO t off e) (qE t off e)) (qE t (qO t
    off e) (qE t off e)))) (xE t (xO t (qO t (qO t off e) (qE t off e)) (qE t (qO t off e) (qE t off e))) (xE t (qO t (qO t off e) (qE t off e)) (qE t (qO t off e) (qE t off e))))) (qE t (xO
    t (xO t (qO t (qO t off e) (qE t off e)) (qE t (qO t off e) (qE t off e))) (xE t (qO t (qO t off e) (qE t off e)) (qE t (qO t off e) (qE t off e)))) (xE t (xO t (qO t (qO t off e) (qE t
    off e)) (qE t (qO t off e) (qE t off e))) (xE t (qO t (qO t off e) (qE t off e)) (qE t (qO t off e) (qE t off e))))) (80 : Int)) (fE (qE t (xO t (xO t (qO t (qO t off e) (qE t off e))
    (qE t (qO t off e) (qE t off e))) (xE t (qO t (qO t off e) (qE t off e)) (qE t (qO t off e) (qE t off e)))) (xE t (xO t (qO t (qO t off e) (qE t off e)) (qE t (qO t off e) (qE t off e)))
    (xE t (qO t (qO t off e) (qE t off e)) (qE t (qO t off e) (qE t off e))))) (80 : Int)) = (32 : Int)) else false) (Tree.leaf (Ans.mk (AV.agg [AV.v (Value.int IntKind.i64 (0 : Int)), AV.v
    (Value.string (ByteArray.mk #[])), AV.v (Value.string (ByteArray.mk #[])), AV.v (Value.string (ByteArray.mk #[])), AV.v (Value.string (ByteArray.mk #[])), AV.v (Value.int IntKind.i64 (0
    : Int)), AV.v (Value.int IntKind.i64 (0 : Int))]) [some (Blk.row [AV.hs (1 : Nat) (fO (ByteArray.size t) (qO t (xO t (xO t (qO t (qO t off e) (qE t off e)) (qE t (qO t off e) (qE t off
    e))) (xE t (qO t (qO t off e) (qE t off e)) (qE t (qO t off e) (qE t off e)))) (xE t (xO t (qO t (qO t off e) (qE t off e)) (qE t (qO t off e) (qE t off e))) (xE t (qO t (qO t off e) (qE
    t off e)) (qE t (qO t off e) (qE t off e))))) (qE t (xO t (xO t (qO t (qO t off e) (qE t off e)) (qE t (qO t off e) (qE t off e))) (xE t (qO t (qO t off e) (qE t off e)) (qE t (qO t off
    e) (qE t off e)))) (xE t (xO t (qO t (qO t off e) (qE t off e)) (qE t (qO t off e) (qE t off e))) (xE t (qO t (qO t off e) (qE t off e)) (qE t (qO t off e) (qE t off e))))) (80 : Int))
    (ByteArray.size t - fO (ByteArray.size t) (qO t (xO t (xO t (qO t (qO t off e) (qE t off e)) (qE t (qO t off e) (qE t off e))) (xE t (qO t (qO t off e) (qE t off e)) (qE t (qO t off e)
    (qE t off e)))) (xE t (xO t (qO t (qO t off e) (qE t off e)) (qE t (qO t off e) (qE t off e))) (xE t (qO t (qO t off e) (qE t off e)) (qE t (qO t off e) (qE t off e))))) (qE t (xO t (xO
    t (qO t (qO t off e) (qE t off e)) (qE t (qO t off e) (qE t off e))) (xE t (qO t (qO t off e) (qE t off e)) (qE t (qO t off e) (qE t off e)))) (xE t (xO t (qO t (qO t off e) (qE t off
    e)) (qE t (qO t off e) (qE t off e))) (xE t (qO t (qO t off e) (qE t off e)) (qE t (qO t off e) (qE t off e))))) (80 : Int)), AV.v (Value.int IntKind.i64 (fE (qE t (xO t (xO t (qO t (qO
    t off e) (qE t off e)) (qE t (qO t off e) (qE t off e))) (xE t (qO t (qO t off e) (qE t off e)) (qE t (qO t off e) (qE t off e)))) (xE t (xO t (qO t (qO t off e) (qE t off e)) (qE t (qO
    t off e) (qE t off e))) (xE t (qO t (qO t off e) (qE t off e)) (qE t (qO t off e) (qE t off e))))) (80 : Int)))]), some (Blk.arr (1 : Nat) (ByteArray.size t) (bsF t))])) (Tree.leaf
    (Ans.mk (AV.agg [AV.v (Value.int IntKind.i64 (qN t off e)), AV.v (Value.string (xS t (qO t (qO t off e) (qE t off e)) (qE t (qO t off e) (qE t off e)))), AV.v (Value.string (xS t (xO t
    (qO t (qO t off e) (qE t off e)) (qE t (qO t off e) (qE t off e))) (xE t (qO t (qO t off e) (qE t off e)) (qE t (qO t off e) (qE t off e))))), AV.v (Value.string (ByteArray.mk #[])),
    AV.v (Value.string (ByteArray.mk #[])), AV.v (Value.int IntKind.i64 (qN t (xO t (xO t (qO t (qO t off e) (qE t off e)) (qE t (qO t off e) (qE t off e))) (xE t (qO t (qO t off e) (qE t
    off e)) (qE t (qO t off e) (qE t off e)))) (xE t (xO t (qO t (qO t off e) (qE t off e)) (qE t (qO t off e) (qE t off e))) (xE t (qO t (qO t off e) (qE t off e)) (qE t (qO t off e) (qE t
    off e)))))), AV.v (Value.int IntKind.i64 (qN t (qO t off e) (qE t off e)))]) [some (Blk.row [AV.hs (1 : Nat) (fO (ByteArray.size t) (qO t (xO t (xO t (qO t (qO t off e) (qE t off e)) (qE
    t (qO t off e) (qE t off e))) (xE t (qO t (qO t off e) (qE t off e)) (qE t (qO t off e) (qE t off e)))) (xE t (xO t (qO t (qO t off e) (qE t off e)) (qE t (qO t off e) (qE t off e))) (xE
    t (qO t (qO t off e) (qE t off e)) (qE t (qO t off e) (qE t off e))))) (qE t (xO t (xO t (qO t (qO t off e) (qE t off e)) (qE t (qO t off e) (qE t off e))) (xE t (qO t (qO t off e) (qE t
    off e)) (qE t (qO t off e) (qE t off e)))) (xE t (xO t (qO t (qO t off e) (qE t off e)) (qE t (qO t off e) (qE t off e))) (xE t (qO t (qO t off e) (qE t off e)) (qE t (qO t off e) (qE t
    off e))))) (80 : Int)) (ByteArray.size t - fO (ByteArray.size t) (qO t (xO t (xO t (qO t (qO t off e) (qE t off e)) (qE t (qO t off e) (qE t off e))) (xE t (qO t (qO t off e) (qE t off
    e)) (qE t (qO t off e) (qE t off e)))) (xE t (xO t (qO t (qO t off e) (qE t off e)) (qE t (qO t off e) (qE t off e))) (xE t (qO t (qO t off e) (qE t off e)) (qE t (qO t off e) (qE t off
    e))))) (qE t (xO t (xO t (qO t (qO t off e) (qE t off e)) (qE t (qO t off e) (qE t off e))) (xE t (qO t (qO t off e) (qE t off e)) (qE t (qO t off e) (qE t off e)))) (xE t (xO t (qO t
    (qO t off e) (qE t off e)) (qE t (qO t off e) (qE t off e))) (xE t (qO t (qO t off e) (qE t off e)) (qE t (qO t off e) (qE t off e))))) (80 : Int)), AV.v (Value.int IntKind.i64 (fE (qE t
    (xO t (xO t (qO t (qO t off e) (qE t off e)) (qE t (qO t off e) (qE t off e))) (xE t (qO t (qO t off e) (qE t off e)) (qE t (qO t off e) (qE t off e)))) (xE t (xO t (qO t (qO t off e)
    (qE t off e)) (qE t (qO t off e) (qE t off e))) (xE t (qO t (qO t off e) (qE t off e)) (qE t (qO t off e) (qE t off e))))) (80 : Int)))]), some (Blk.arr (1 : Nat) (ByteArray.size t) (bsF
    t))]))))) (Tree.chk (cl (RX.ok t (RX.mk (qO t (xO t (xO t (qO t (qO t off e) (qE t off e)) (qE t (qO t off e) (qE t off e))) (xE t (qO t (qO t off e) (qE t off e)) (qE t (qO t off e) (qE
    t off e)))) (xE t (xO t (qO t (qO t off e) (qE t off e)) (qE t (qO t off e) (qE t off e))) (xE t (qO t (qO t off e) (qE t off e)) (qE t (qO t off e) (qE t off e))))) (ByteArray.size t -
    qO t (xO t (xO t (qO t (qO t off e) (qE t off e)) (qE t (qO t off e) (qE t off e))) (xE t (qO t (qO t off e) (qE t off e)) (qE t (qO t off e) (qE t off e)))) (xE t (xO t (qO t (qO t off
    e) (qE t off e)) (qE t (qO t off e) (qE t off e))) (xE t (qO t (qO t off e) (qE t off e)) (qE t (qO t off e) (qE t off e))))) (qE t (xO t (xO t (qO t (qO t off e) (qE t off e)) (qE t (qO
    t off e) (qE t off e))) (xE t (qO t (qO t off e) (qE t off e)) (qE t (qO t off e) (qE t off e)))) (xE t (xO t (qO t (qO t off e) (qE t off e)) (qE t (qO t off e) (qE t off e))) (xE t (qO
    t (qO t off e) (qE t off e)) (qE t (qO t off e) (qE t off e))))) (ByteArray.size t) (bsF t)))) (Tree.br (bif !decide (dE t (qO t (xO t (xO t (qO t (qO t off e) (qE t off e)) (qE t (qO t
    off e) (qE t off e))) (xE t (qO t (qO t off e) (qE t off e)) (qE t (qO t off e) (qE t off e)))) (xE t (xO t (qO t (qO t off e) (qE t off e)) (qE t (qO t off e) (qE t off e))) (xE t (qO t
    (qO t off e) (qE t off e)) (qE t (qO t off e) (qE t off e))))) (qE t (xO t (xO t (qO t (qO t off e) (qE t off e)) (qE t (qO t off e) (qE t off e))) (xE t (qO t (qO t off e) (qE t off e))
    (qE t (qO t off e) (qE t off e)))) (xE t (xO t (qO t (qO t off e) (qE t off e)) (qE t (qO t off e) (qE t off e))) (xE t (qO t (qO t off e) (qE t off e)) (qE t (qO t off e) (qE t off
    e))))) = (0 : Int)) then !decide (dE t (qO t (xO t (xO t (qO t (qO t off e) (qE t off e)) (qE t (qO t off e) (qE t off e))) (xE t (qO t (qO t off e) (qE t off e)) (qE t (qO t off e) (qE
    t off e)))) (xE t (xO t (qO t (qO t off e) (qE t off e)) (qE t (qO t off e) (qE t off e))) (xE t (qO t (qO t off e) (qE t off e)) (qE t (qO t off e) (qE t off e))))) (qE t (xO t (xO t
    (qO t (qO t off e) (qE t off e)) (qE t (qO t off e) (qE t off e))) (xE t (qO t (qO t off e) (qE t off e)) (qE t (qO t off e) (qE t off e)))) (xE t (xO t (qO t (qO t off e) (qE t off e))
    (qE t (qO t off e) (qE t off e))) (xE t (qO t (qO t off e) (qE t off e)) (qE t (qO t off e) (qE t off e))))) = (32 : Int)) else false) (Tree.leaf (Ans.mk (AV.agg [AV.v (Value.int
    IntKind.i64 (0 : Int)), AV.v (Value.string (ByteArray.mk #[])), AV.v (Value.string (ByteArray.mk #[])), AV.v (Value.string (ByteArray.mk #[])), AV.v (Value.string (ByteArray.mk #[])),
    AV.v (Value.int IntKind.i64 (0 : Int)), AV.v (Value.int IntKind.i64 (0 : Int))]) [some (Blk.row [AV.hs (1 : Nat) (qO t (xO t (xO t (qO t (qO t off e) (qE t off e)) (qE t (qO t off e) (qE
    t off e))) (xE t (qO t (qO t off e) (qE t off e)) (qE t (qO t off e) (qE t off e)))) (xE t (xO t (qO t (qO t off e) (qE t off e)) (qE t (qO t off e) (qE t off e))) (xE t (qO t (qO t off
    e) (qE t off e)) (qE t (qO t off e) (qE t off e))))) (ByteArray.size t - qO t (xO t (xO t (qO t (qO t off e) (qE t off e)) (qE t (qO t off e) (qE t off e))) (xE t (qO t (qO t off e) (qE
    t off e)) (qE t (qO t off e) (qE t off e)))) (xE t (xO t (qO t (qO t off e) (qE t off e)) (qE t (qO t off e) (qE t off e))) (xE t (qO t (qO t off e) (qE t off e)) (qE t (qO t off e) (qE
    t off e))))), AV.v (Value.int IntKind.i64 (qE t (xO t (xO t (qO t (qO t off e) (qE t off e)) (qE t (qO t off e) (qE t off e))) (xE t (qO t (qO t off e) (qE t off e)) (qE t (qO t off e)
    (qE t off e)))) (xE t (xO t (qO t (qO t off e) (qE t off e)) (qE t (qO t off e) (qE t off e))) (xE t (qO t (qO t off e) (qE t off e)) (qE t (qO t off e) (qE t off e))))))]), some
    (Blk.arr (1 : Nat) (ByteArray.size t) (bsF t))])) (Tree.leaf (Ans.mk (AV.agg [AV.v (Value.int IntKind.i64 (qN t off e)), AV.v (Value.string (xS t (qO t (qO t off e) (qE t off e)) (qE t
    (qO t off e) (qE t off e)))), AV.v (Value.string (xS t (xO t (qO t (qO t off e) (qE t off e)) (qE t (qO t off e) (qE t off e))) (xE t (qO t (qO t off e) (qE t off e)) (qE t (qO t off e)
    (qE t off e))))), AV.v (Value.string (ByteArray.mk #[])), AV.v (Value.string (ByteArray.mk #[])), AV.v (Value.int IntKind.i64 (qN t (xO t (xO t (qO t (qO t off e) (qE t off e)) (qE t (qO
    t off e) (qE t off e))) (xE t (qO t (qO t off e) (qE t off e)) (qE t (qO t off e) (qE t off e)))) (xE t (xO t (qO t (qO t off e) (qE t off e)) (qE t (qO t off e) (qE t off e))) (xE t (qO
    t (qO t off e) (qE t off e)) (qE t (qO t off e) (qE t off e)))))), AV.v (Value.int IntKind.i64 (qN t (qO t off e) (qE t off e)))]) [some (Blk.row [AV.hs (1 : Nat) (qO t (xO t (xO t (qO t
    (qO t off e) (qE t off e)) (qE t (qO t off e) (qE t off e))) (xE t (qO t (qO t off e) (qE t off e)) (qE t (qO t off e) (qE t off e)))) (xE t (xO t (qO t (qO t off e) (qE t off e)) (qE t
    (qO t off e) (qE t off e))) (xE t (qO t (qO t off e) (qE t off e)) (qE t (qO t off e) (qE t off e))))) (ByteArray.size t - qO t (xO t (xO t (qO t (qO t off e) (qE t off e)) (qE t (qO t
    off e) (qE t off e))) (xE t (qO t (qO t off e) (qE t off e)) (qE t (qO t off e) (qE t off e)))) (xE t (xO t (qO t (qO t off e) (qE t off e)) (qE t (qO t off e) (qE t off e))) (xE t (qO t
    (qO t off e) (qE t off e)) (qE t (qO t off e) (qE t off e))))), AV.v (Value.int IntKind.i64 (qE t (xO t (xO t (qO t (qO t off e) (qE t off e)) (qE t (qO t off e) (qE t off e))) (xE t (qO
    t (qO t off e) (qE t off e)) (qE t (qO t off e) (qE t off e)))) (xE t (xO t (qO t (qO t off e) (qE t off e)) (qE t (qO t off e) (qE t off e))) (xE t (qO t (qO t off e) (qE t off e)) (qE
    t (qO t off e) (qE t off e))))))]), some (Blk.arr (1 : Nat) (ByteArray.size t) (bsF t))])))))))) (Tree.chk (cl (RX.ok t (RX.mk (xO t (qO t (qO t off e) (qE t off e)) (qE t (qO t off e)
    (qE t off e))) (ByteArray.size t - xO t (qO t (qO t off e) (qE t off e)) (qE t (qO t off e) (qE t off e))) (xE t (qO t (qO t off e) (qE t off e)) (qE t (qO t off e) (qE t off e)))
    (ByteArray.size t) (bsF t)) ∧ okS t (xO t (qO t (qO t off e) (qE t off e)) (qE t (qO t off e) (qE t off e))) (xE t (qO t (qO t off e) (qE t off e)) (qE t (qO t off e) (qE t off e)))))
    (Tree.chk (cl (RX.ok t (RX.mk (xO t (xO t (qO t (qO t off e) (qE t off e)) (qE t (qO t off e) (qE t off e))) (xE t (qO t (qO t off e) (qE t off e)) (qE t (qO t off e) (qE t off e))))
    (ByteArray.size t - xO t (xO t (qO t (qO t off e) (qE t off e)) (qE t (qO t off e) (qE t off e))) (xE t (qO t (qO t off e) (qE t off e)) (qE t (qO t off e) (qE t off e)))) (xE t (xO t
    (qO t (qO t off e) (qE t off e)) (qE t (qO t off e) (qE t off e))) (xE t (qO t (qO t off e) (qE t off e)) (qE t (qO t off e) (qE t off e)))) (ByteArray.size t) (bsF t)) ∧ okS t (xO t (xO
    t (qO t (qO t off e) (qE t off e)) (qE t (qO t off e) (qE t off e))) (xE t (qO t (qO t off e) (qE t off e)) (qE t (qO t off e) (qE t off e)))) (xE t (xO t (qO t (qO t off e) (qE t off
    e)) (qE t (qO t off e) (qE t off e))) (xE t (qO t (qO t off e) (qE t off e)) (qE t (qO t off e) (qE t off e)))))) (Tree.chk (cl (smallT (Tx.mk (qN t off e) (xS t (qO t (qO t off e) (qE t
    off e)) (qE t (qO t off e) (qE t off e))) (ByteArray.mk #[]) (xS t (xO t (qO t (qO t off e) (qE t off e)) (qE t (qO t off e) (qE t off e))) (xE t (qO t (qO t off e) (qE t off e)) (qE t
    (qO t off e) (qE t off e)))) (xS t (xO t (xO t (qO t (qO t off e) (qE t off e)) (qE t (qO t off e) (qE t off e))) (xE t (qO t (qO t off e) (qE t off e)) (qE t (qO t off e) (qE t off
    e)))) (xE t (xO t (qO t (qO t off e) (qE t off e)) (qE t (qO t off e) (qE t off e))) (xE t (qO t (qO t off e) (qE t off e)) (qE t (qO t off e) (qE t off e))))) (0 : Int) (qN t (qO t off
    e) (qE t off e))))) (Tree.br (!decide (erT (txB (Tx.mk (qN t off e) (xS t (qO t (qO t off e) (qE t off e)) (qE t (qO t off e) (qE t off e))) (ByteArray.mk #[]) (xS t (xO t (qO t (qO t
    off e) (qE t off e)) (qE t (qO t off e) (qE t off e))) (xE t (qO t (qO t off e) (qE t off e)) (qE t (qO t off e) (qE t off e)))) (xS t (xO t (xO t (qO t (qO t off e) (qE t off e)) (qE t
    (qO t off e) (qE t off e))) (xE t (qO t (qO t off e) (qE t off e)) (qE t (qO t off e) (qE t off e)))) (xE t (xO t (qO t (qO t off e) (qE t off e)) (qE t (qO t off e) (qE t off e))) (xE t
    (qO t (qO t off e) (qE t off e)) (qE t (qO t off e) (qE t off e))))) (0 : Int) (qN t (qO t off e) (qE t off e)))) = (0 : Int))) (Tree.chk (cl (RX.ok t (RX.mk (xO t (xO t (xO t (qO t (qO
    t off e) (qE t off e)) (qE t (qO t off e) (qE t off e))) (xE t (qO t (qO t off e) (qE t off e)) (qE t (qO t off e) (qE t off e)))) (xE t (xO t (qO t (qO t off e) (qE t off e)) (qE t (qO
    t off e) (qE t off e))) (xE t (qO t (qO t off e) (qE t off e)) (qE t (qO t off e) (qE t off e))))) (ByteArray.size t - xO t (xO t (xO t (qO t (qO t off e) (qE t off e)) (qE t (qO t off
    e) (qE t off e))) (xE t (qO t (qO t off e) (qE t off e)) (qE t (qO t off e) (qE t off e)))) (xE t (xO t (qO t (qO t off e) (qE t off e)) (qE t (qO t off e) (qE t off e))) (xE t (qO t (qO
    t off e) (qE t off e)) (qE t (qO t off e) (qE t off e))))) (xE t (xO t (xO t (qO t (qO t off e) (qE t off e)) (qE t (qO t off e) (qE t off e))) (xE t (qO t (qO t off e) (qE t off e)) (qE
    t (qO t off e) (qE t off e)))) (xE t (xO t (qO t (qO t off e) (qE t off e)) (qE t (qO t off e) (qE t off e))) (xE t (qO t (qO t off e) (qE t off e)) (qE t (qO t off e) (qE t off e)))))
    (ByteArray.size t) (bsF t)))) (Tree.chk (cl (RX.ok t (RX.mk (fO (ByteArray.size t) (xO t (xO t (xO t (qO t (qO t off e) (qE t off e)) (qE t (qO t off e) (qE t off e))) (xE t (qO t (qO t
    off e) (qE t off e)) (qE t (qO t off e) (qE t off e)))) (xE t (xO t (qO t (qO t off e) (qE t off e)) (qE t (qO t off e) (qE t off e))) (xE t (qO t (qO t off e) (qE t off e)) (qE t (qO t
    off e) (qE t off e))))) (xE t (xO t (xO t (qO t (qO t off e) (qE t off e)) (qE t (qO t off e) (qE t off e))) (xE t (qO t (qO t off e) (qE t off e)) (qE t (qO t off e) (qE t off e)))) (xE
    t (xO t (qO t (qO t off e) (qE t off e)) (qE t (qO t off e) (qE t off e))) (xE t (qO t (qO t off e) (qE t off e)) (qE t (qO t off e) (qE t off e))))) (80 : Int)) (ByteArray.size t - fO
    (ByteArray.size t) (xO t (xO t (xO t (qO t (qO t off e) (qE t off e)) (qE t (qO t off e) (qE t off e))) (xE t (qO t (qO t off e) (qE t off e)) (qE t (qO t off e) (qE t off e)))) (xE t
    (xO t (qO t (qO t off e) (qE t off e)) (qE t (qO t off e) (qE t off e))) (xE t (qO t (qO t off e) (qE t off e)) (qE t (qO t off e) (qE t off e))))) (xE t (xO t (xO t (qO t (qO t off e)
    (qE t off e)) (qE t (qO t off e) (qE t off e))) (xE t (qO t (qO t off e) (qE t off e)) (qE t (qO t off e) (qE t off e)))) (xE t (xO t (qO t (qO t off e) (qE t off e)) (qE t (qO t off e)
    (qE t off e))) (xE t (qO t (qO t off e) (qE t off e)) (qE t (qO t off e) (qE t off e))))) (80 : Int)) (fE (xE t (xO t (xO t (qO t (qO t off e) (qE t off e)) (qE t (qO t off e) (qE t off
    e))) (xE t (qO t (qO t off e) (qE t off e)) (qE t (qO t off e) (qE t off e)))) (xE t (xO t (qO t (qO t off e) (qE t off e)) (qE t (qO t off e) (qE t off e))) (xE t (qO t (qO t off e) (qE
    t off e)) (qE t (qO t off e) (qE t off e))))) (80 : Int)) (ByteArray.size t) (bsF t)))) (Tree.br (bif !decide (dE t (fO (ByteArray.size t) (xO t (xO t (xO t (qO t (qO t off e) (qE t off
    e)) (qE t (qO t off e) (qE t off e))) (xE t (qO t (qO t off e) (qE t off e)) (qE t (qO t off e) (qE t off e)))) (xE t (xO t (qO t (qO t off e) (qE t off e)) (qE t (qO t off e) (qE t off
    e))) (xE t (qO t (qO t off e) (qE t off e)) (qE t (qO t off e) (qE t off e))))) (xE t (xO t (xO t (qO t (qO t off e) (qE t off e)) (qE t (qO t off e) (qE t off e))) (xE t (qO t (qO t off
    e) (qE t off e)) (qE t (qO t off e) (qE t off e)))) (xE t (xO t (qO t (qO t off e) (qE t off e)) (qE t (qO t off e) (qE t off e))) (xE t (qO t (qO t off e) (qE t off e)) (qE t (qO t off
    e) (qE t off e))))) (80 : Int)) (fE (xE t (xO t (xO t (qO t (qO t off e) (qE t off e)) (qE t (qO t off e) (qE t off e))) (xE t (qO t (qO t off e) (qE t off e)) (qE t (qO t off e) (qE t
    off e)))) (xE t (xO t (qO t (qO t off e) (qE t off e)) (qE t (qO t off e) (qE t off e))) (xE t (qO t (qO t off e) (qE t off e)) (qE t (qO t off e) (qE t off e))))) (80 : Int)) = (0 :
    Int)) then !decide (dE t (fO (ByteArray.size t) (xO t (xO t (xO t (qO t (qO t off e) (qE t off e)) (qE t (qO t off e) (qE t off e))) (xE t (qO t (qO t off e) (qE t off e)) (qE t (qO t
    off e) (qE t off e)))) (xE t (xO t (qO t (qO t off e) (qE t off e)) (qE t (qO t off e) (qE t off e))) (xE t (qO t (qO t off e) (qE t off e)) (qE t (qO t off e) (qE t off e))))) (xE t (xO
    t (xO t (qO t (qO t off e) (qE t off e)) (qE t (qO t off e) (qE t off e))) (xE t (qO t (qO t off e) (qE t off e)) (qE t (qO t off e) (qE t off e)))) (xE t (xO t (qO t (qO t off e) (qE t
    off e)) (qE t (qO t off e) (qE t off e))) (xE t (qO t (qO t off e) (qE t off e)) (qE t (qO t off e) (qE t off e))))) (80 : Int)) (fE (xE t (xO t (xO t (qO t (qO t off e) (qE t off e))
    (qE t (qO t off e) (qE t off e))) (xE t (qO t (qO t off e) (qE t off e)) (qE t (qO t off e) (qE t off e)))) (xE t (xO t (qO t (qO t off e) (qE t off e)) (qE t (qO t off e) (qE t off e)))
    (xE t (qO t (qO t off e) (qE t off e)) (qE t (qO t off e) (qE t off e))))) (80 : Int)) = (32 : Int)) else false) (Tree.leaf (Ans.mk (AV.agg [AV.v (Value.int IntKind.i64 (0 : Int)), AV.v
    (Value.string (ByteArray.mk #[])), AV.v (Value.string (ByteArray.mk #[])), AV.v (Value.string (ByteArray.mk #[])), AV.v (Value.string (ByteArray.mk #[])), AV.v (Value.int IntKind.i64 (0
    : Int)), AV.v (Value.int IntKind.i64 (0 : Int))]) [some (Blk.row [AV.hs (1 : Nat) (fO (ByteArray.size t) (xO t (xO t (xO t (qO t (qO t off e) (qE t off e)) (qE t (qO t off e) (qE t off
    e))) (xE t (qO t (qO t off e) (qE t off e)) (qE t (qO t off e) (qE t off e)))) (xE t (xO t (qO t (qO t off e) (qE t off e)) (qE t (qO t off e) (qE t off e))) (xE t (qO t (qO t off e) (qE
    t off e)) (qE t (qO t off e) (qE t off e))))) (xE t (xO t (xO t (qO t (qO t off e) (qE t off e)) (qE t (qO t off e) (qE t off e))) (xE t (qO t (qO t off e) (qE t off e)) (qE t (qO t off
    e) (qE t off e)))) (xE t (xO t (qO t (qO t off e) (qE t off e)) (qE t (qO t off e) (qE t off e))) (xE t (qO t (qO t off e) (qE t off e)) (qE t (qO t off e) (qE t off e))))) (80 : Int))
    (ByteArray.size t - fO (ByteArray.size t) (xO t (xO t (xO t (qO t (qO t off e) (qE t off e)) (qE t (qO t off e) (qE t off e))) (xE t (qO t (qO t off e) (qE t off e)) (qE t (qO t off e)
    (qE t off e)))) (xE t (xO t (qO t (qO t off e) (qE t off e)) (qE t (qO t off e) (qE t off e))) (xE t (qO t (qO t off e) (qE t off e)) (qE t (qO t off e) (qE t off e))))) (xE t (xO t (xO
    t (qO t (qO t off e) (qE t off e)) (qE t (qO t off e) (qE t off e))) (xE t (qO t (qO t off e) (qE t off e)) (qE t (qO t off e) (qE t off e)))) (xE t (xO t (qO t (qO t off e) (qE t off
    e)) (qE t (qO t off e) (qE t off e))) (xE t (qO t (qO t off e) (qE t off e)) (qE t (qO t off e) (qE t off e))))) (80 : Int)), AV.v (Value.int IntKind.i64 (fE (xE t (xO t (xO t (qO t (qO
    t off e) (qE t off e)) (qE t (qO t off e) (qE t off e))) (xE t (qO t (qO t off e) (qE t off e)) (qE t (qO t off e) (qE t off e)))) (xE t (xO t (qO t (qO t off e) (qE t off e)) (qE t (qO
    t off e) (qE t off e))) (xE t (qO t (qO t off e) (qE t off e)) (qE t (qO t off e) (qE t off e))))) (80 : Int)))]), some (Blk.arr (1 : Nat) (ByteArray.size t) (bsF t))])) (Tree.leaf
    (Ans.mk (AV.agg [AV.v (Value.int IntKind.i64 (qN t off e)), AV.v (Value.string (xS t (qO t (qO t off e) (qE t off e)) (qE t (qO t off e) (qE t off e)))), AV.v (Value.string (ByteArray.mk
    #[])), AV.v (Value.string (xS t (xO t (qO t (qO t off e) (qE t off e)) (qE t (qO t off e) (qE t off e))) (xE t (qO t (qO t off e) (qE t off e)) (qE t (qO t off e) (qE t off e))))), AV.v
    (Value.string (xS t (xO t (xO t (qO t (qO t off e) (qE t off e)) (qE t (qO t off e) (qE t off e))) (xE t (qO t (qO t off e) (qE t off e)) (qE t (qO t off e) (qE t off e)))) (xE t (xO t
    (qO t (qO t off e) (qE t off e)) (qE t (qO t off e) (qE t off e))) (xE t (qO t (qO t off e) (qE t off e)) (qE t (qO t off e) (qE t off e)))))), AV.v (Value.int IntKind.i64 (0 : Int)),
    AV.v (Value.int IntKind.i64 (qN t (qO t off e) (qE t off e)))]) [some (Blk.row [AV.hs (1 : Nat) (fO (ByteArray.size t) (xO t (xO t (xO t (qO t (qO t off e) (qE t off e)) (qE t (qO t off
    e) (qE t off e))) (xE t (qO t (qO t off e) (qE t off e)) (qE t (qO t off e) (qE t off e)))) (xE t (xO t (qO t (qO t off e) (qE t off e)) (qE t (qO t off e) (qE t off e))) (xE t (qO t (qO
    t off e) (qE t off e)) (qE t (qO t off e) (qE t off e))))) (xE t (xO t (xO t (qO t (qO t off e) (qE t off e)) (qE t (qO t off e) (qE t off e))) (xE t (qO t (qO t off e) (qE t off e)) (qE
    t (qO t off e) (qE t off e)))) (xE t (xO t (qO t (qO t off e) (qE t off e)) (qE t (qO t off e) (qE t off e))) (xE t (qO t (qO t off e) (qE t off e)) (qE t (qO t off e) (qE t off e)))))
    (80 : Int)) (ByteArray.size t - fO (ByteArray.size t) (xO t (xO t (xO t (qO t (qO t off e) (qE t off e)) (qE t (qO t off e) (qE t off e))) (xE t (qO t (qO t off e) (qE t off e)) (qE t
    (qO t off e) (qE t off e)))) (xE t (xO t (qO t (qO t off e) (qE t off e)) (qE t (qO t off e) (qE t off e))) (xE t (qO t (qO t off e) (qE t off e)) (qE t (qO t off e) (qE t off e))))) (xE
    t (xO t (xO t (qO t (qO t off e) (qE t off e)) (qE t (qO t off e) (qE t off e))) (xE t (qO t (qO t off e) (qE t off e)) (qE t (qO t off e) (qE t off e)))) (xE t (xO t (qO t (qO t off e)
    (qE t off e)) (qE t (qO t off e) (qE t off e))) (xE t (qO t (qO t off e) (qE t off e)) (qE t (qO t off e) (qE t off e))))) (80 : Int)), AV.v (Value.int IntKind.i64 (fE (xE t (xO t (xO t
    (qO t (qO t off e) (qE t off e)) (qE t (qO t off e) (qE t off e))) (xE t (qO t (qO t off e) (qE t off e)) (qE t (qO t off e) (qE t off e)))) (xE t (xO t (qO t (qO t off e) (qE t off e))
    (qE t (qO t off e) (qE t off e))) (xE t (qO t (qO t off e) (qE t off e)) (qE t (qO t off e) (qE t off e))))) (80 : Int)))]), some (Blk.arr (1 : Nat) (ByteArray.size t) (bsF t))])))))
    (Tree.chk (cl (RX.ok t (RX.mk (xO t (xO t (xO t (qO t (qO t off e) (qE t off e)) (qE t (qO t off e) (qE t off e))) (xE t (qO t (qO t off e) (qE t off e)) (qE t (qO t off e) (qE t off
    e)))) (xE t (xO t (qO t (qO t off e) (qE t off e)) (qE t (qO t off e) (qE t off e))) (xE t (qO t (qO t off e) (qE t off e)) (qE t (qO t off e) (qE t off e))))) (ByteArray.size t - xO t
    (xO t (xO t (qO t (qO t off e) (qE t off e)) (qE t (qO t off e) (qE t off e))) (xE t (qO t (qO t off e) (qE t off e)) (qE t (qO t off e) (qE t off e)))) (xE t (xO t (qO t (qO t off e)
    (qE t off e)) (qE t (qO t off e) (qE t off e))) (xE t (qO t (qO t off e) (qE t off e)) (qE t (qO t off e) (qE t off e))))) (xE t (xO t (xO t (qO t (qO t off e) (qE t off e)) (qE t (qO t
    off e) (qE t off e))) (xE t (qO t (qO t off e) (qE t off e)) (qE t (qO t off e) (qE t off e)))) (xE t (xO t (qO t (qO t off e) (qE t off e)) (qE t (qO t off e) (qE t off e))) (xE t (qO t
    (qO t off e) (qE t off e)) (qE t (qO t off e) (qE t off e))))) (ByteArray.size t) (bsF t)))) (Tree.br (bif !decide (dE t (xO t (xO t (xO t (qO t (qO t off e) (qE t off e)) (qE t (qO t
    off e) (qE t off e))) (xE t (qO t (qO t off e) (qE t off e)) (qE t (qO t off e) (qE t off e)))) (xE t (xO t (qO t (qO t off e) (qE t off e)) (qE t (qO t off e) (qE t off e))) (xE t (qO t
    (qO t off e) (qE t off e)) (qE t (qO t off e) (qE t off e))))) (xE t (xO t (xO t (qO t (qO t off e) (qE t off e)) (qE t (qO t off e) (qE t off e))) (xE t (qO t (qO t off e) (qE t off e))
    (qE t (qO t off e) (qE t off e)))) (xE t (xO t (qO t (qO t off e) (qE t off e)) (qE t (qO t off e) (qE t off e))) (xE t (qO t (qO t off e) (qE t off e)) (qE t (qO t off e) (qE t off
    e))))) = (0 : Int)) then !decide (dE t (xO t (xO t (xO t (qO t (qO t off e) (qE t off e)) (qE t (qO t off e) (qE t off e))) (xE t (qO t (qO t off e) (qE t off e)) (qE t (qO t off e) (qE
    t off e)))) (xE t (xO t (qO t (qO t off e) (qE t off e)) (qE t (qO t off e) (qE t off e))) (xE t (qO t (qO t off e) (qE t off e)) (qE t (qO t off e) (qE t off e))))) (xE t (xO t (xO t
    (qO t (qO t off e) (qE t off e)) (qE t (qO t off e) (qE t off e))) (xE t (qO t (qO t off e) (qE t off e)) (qE t (qO t off e) (qE t off e)))) (xE t (xO t (qO t (qO t off e) (qE t off e))
    (qE t (qO t off e) (qE t off e))) (xE t (qO t (qO t off e) (qE t off e)) (qE t (qO t off e) (qE t off e))))) = (32 : Int)) else false) (Tree.leaf (Ans.mk (AV.agg [AV.v (Value.int
    IntKind.i64 (0 : Int)), AV.v (Value.string (ByteArray.mk #[])), AV.v (Value.string (ByteArray.mk #[])), AV.v (Value.string (ByteArray.mk #[])), AV.v (Value.string (ByteArray.mk #[])),
    AV.v (Value.int IntKind.i64 (0 : Int)), AV.v (Value.int IntKind.i64 (0 : Int))]) [some (Blk.row [AV.hs (1 : Nat) (xO t (xO t (xO t (qO t (qO t off e) (qE t off e)) (qE t (qO t off e) (qE
    t off e))) (xE t (qO t (qO t off e) (qE t off e)) (qE t (qO t off e) (qE t off e)))) (xE t (xO t (qO t (qO t off e) (qE t off e)) (qE t (qO t off e) (qE t off e))) (xE t (qO t (qO t off
    e) (qE t off e)) (qE t (qO t off e) (qE t off e))))) (ByteArray.size t - xO t (xO t (xO t (qO t (qO t off e) (qE t off e)) (qE t (qO t off e) (qE t off e))) (xE t (qO t (qO t off e) (qE
    t off e)) (qE t (qO t off e) (qE t off e)))) (xE t (xO t (qO t (qO t off e) (qE t off e)) (qE t (qO t off e) (qE t off e))) (xE t (qO t (qO t off e) (qE t off e)) (qE t (qO t off e) (qE
    t off e))))), AV.v (Value.int IntKind.i64 (xE t (xO t (xO t (qO t (qO t off e) (qE t off e)) (qE t (qO t off e) (qE t off e))) (xE t (qO t (qO t off e) (qE t off e)) (qE t (qO t off e)
    (qE t off e)))) (xE t (xO t (qO t (qO t off e) (qE t off e)) (qE t (qO t off e) (qE t off e))) (xE t (qO t (qO t off e) (qE t off e)) (qE t (qO t off e) (qE t off e))))))]), some
    (Blk.arr (1 : Nat) (ByteArray.size t) (bsF t))])) (Tree.leaf (Ans.mk (AV.agg [AV.v (Value.int IntKind.i64 (qN t off e)), AV.v (Value.string (xS t (qO t (qO t off e) (qE t off e)) (qE t
    (qO t off e) (qE t off e)))), AV.v (Value.string (ByteArray.mk #[])), AV.v (Value.string (xS t (xO t (qO t (qO t off e) (qE t off e)) (qE t (qO t off e) (qE t off e))) (xE t (qO t (qO t
    off e) (qE t off e)) (qE t (qO t off e) (qE t off e))))), AV.v (Value.string (xS t (xO t (xO t (qO t (qO t off e) (qE t off e)) (qE t (qO t off e) (qE t off e))) (xE t (qO t (qO t off e)
    (qE t off e)) (qE t (qO t off e) (qE t off e)))) (xE t (xO t (qO t (qO t off e) (qE t off e)) (qE t (qO t off e) (qE t off e))) (xE t (qO t (qO t off e) (qE t off e)) (qE t (qO t off e)
    (qE t off e)))))), AV.v (Value.int IntKind.i64 (0 : Int)), AV.v (Value.int IntKind.i64 (qN t (qO t off e) (qE t off e)))]) [some (Blk.row [AV.hs (1 : Nat) (xO t (xO t (xO t (qO t (qO t
    off e) (qE t off e)) (qE t (qO t off e) (qE t off e))) (xE t (qO t (qO t off e) (qE t off e)) (qE t (qO t off e) (qE t off e)))) (xE t (xO t (qO t (qO t off e) (qE t off e)) (qE t (qO t
    off e) (qE t off e))) (xE t (qO t (qO t off e) (qE t off e)) (qE t (qO t off e) (qE t off e))))) (ByteArray.size t - xO t (xO t (xO t (qO t (qO t off e) (qE t off e)) (qE t (qO t off e)
    (qE t off e))) (xE t (qO t (qO t off e) (qE t off e)) (qE t (qO t off e) (qE t off e)))) (xE t (xO t (qO t (qO t off e) (qE t off e)) (qE t (qO t off e) (qE t off e))) (xE t (qO t (qO t
    off e) (qE t off e)) (qE t (qO t off e) (qE t off e))))), AV.v (Value.int IntKind.i64 (xE t (xO t (xO t (qO t (qO t off e) (qE t off e)) (qE t (qO t off e) (qE t off e))) (xE t (qO t (qO
    t off e) (qE t off e)) (qE t (qO t off e) (qE t off e)))) (xE t (xO t (qO t (qO t off e) (qE t off e)) (qE t (qO t off e) (qE t off e))) (xE t (qO t (qO t off e) (qE t off e)) (qE t (qO
    t off e) (qE t off e))))))]), some (Blk.arr (1 : Nat) (ByteArray.size t) (bsF t))]))))))))))) (Tree.chk (cl (RX.ok t (RX.mk (qO t off e) (ByteArray.size t - qO t off e) (qE t off e)
    (ByteArray.size t) (bsF t)))) (Tree.leaf (Ans.mk (AV.agg [AV.v (Value.int IntKind.i64 (0 : Int)), AV.v (Value.string (ByteArray.mk #[])), AV.v (Value.string (ByteArray.mk #[])), AV.v
    (Value.string (ByteArray.mk #[])), AV.v (Value.string (ByteArray.mk #[])), AV.v (Value.int IntKind.i64 (0 : Int)), AV.v (Value.int IntKind.i64 (0 : Int))]) [some (Blk.row [AV.hs (1 :
    Nat) (fO (ByteArray.size t) (qO t off e) (qE t off e) (80 : Int)) (ByteArray.size t - fO (ByteArray.size t) (qO t off e) (qE t off e) (80 : Int)), AV.v (Value.int IntKind.i64 (fE (qE t
    off e) (80 : Int)))]), some (Blk.arr (1 : Nat) (ByteArray.size t) (bsF t))])))) (Tree.br (decide (qN t off e = (2 : Int))) (Tree.chk (cl (RX.ok t (RX.mk (qO t off e) (ByteArray.size t -
    qO t off e) (qE t off e) (ByteArray.size t) (bsF t)))) (Tree.chk (cl (RX.ok t (RX.mk (qO t (qO t off e) (qE t off e)) (ByteArray.size t - qO t (qO t off e) (qE t off e)) (qE t (qO t off
    e) (qE t off e)) (ByteArray.size t) (bsF t)) ∧ okS t (qO t (qO t off e) (qE t off e)) (qE t (qO t off e) (qE t off e)))) (Tree.br (decide (qN t off e = (1 : Int))) (Tree.chk (cl (RX.ok t
    (RX.mk (xO t (qO t (qO t off e) (qE t off e)) (qE t (qO t off e) (qE t off e))) (ByteArray.size t - xO t (qO t (qO t off e) (qE t off e)) (qE t (qO t off e) (qE t off e))) (xE t (qO t
    (qO t off e) (qE t off e)) (qE t (qO t off e) (qE t off e))) (ByteArray.size t) (bsF t)) ∧ okS t (xO t (qO t (qO t off e) (qE t off e)) (qE t (qO t off e) (qE t off e))) (xE t (qO t (qO
    t off e) (qE t off e)) (qE t (qO t off e) (qE t off e))))) (Tree.chk (cl (RX.ok t (RX.mk (xO t (xO t (qO t (qO t off e) (qE t off e)) (qE t (qO t off e) (qE t off e))) (xE t (qO t (qO t
    off e) (qE t off e)) (qE t (qO t off e) (qE t off e)))) (ByteArray.size t - xO t (xO t (qO t (qO t off e) (qE t off e)) (qE t (qO t off e) (qE t off e))) (xE t (qO t (qO t off e) (qE t
    off e)) (qE t (qO t off e) (qE t off e)))) (xE t (xO t (qO t (qO t off e) (qE t off e)) (qE t (qO t off e) (qE t off e))) (xE t (qO t (qO t off e) (qE t off e)) (qE t (qO t off e) (qE t
    off e)))) (ByteArray.size t) (bsF t)))) (Tree.chk (cl (smallT (Tx.mk (qN t off e) (xS t (qO t (qO t off e) (qE t off e)) (qE t (qO t off e) (qE t off e))) (xS t (xO t (qO t (qO t off e)
    (qE t off e)) (qE t (qO t off e) (qE t off e))) (xE t (qO t (qO t off e) (qE t off e)) (qE t (qO t off e) (qE t off e)))) (ByteArray.mk #[]) (ByteArray.mk #[]) (qN t (xO t (xO t (qO t
    (qO t off e) (qE t off e)) (qE t (qO t off e) (qE t off e))) (xE t (qO t (qO t off e) (qE t off e)) (qE t (qO t off e) (qE t off e)))) (xE t (xO t (qO t (qO t off e) (qE t off e)) (qE t
    (qO t off e) (qE t off e))) (xE t (qO t (qO t off e) (qE t off e)) (qE t (qO t off e) (qE t off e))))) (qN t (qO t off e) (qE t off e))))) (Tree.br (!decide (erT (txB (Tx.mk (qN t off e)
    (xS t (qO t (qO t off e) (qE t off e)) (qE t (qO t off e) (qE t off e))) (xS t (xO t (qO t (qO t off e) (qE t off e)) (qE t (qO t off e) (qE t off e))) (xE t (qO t (qO t off e) (qE t off
    e)) (qE t (qO t off e) (qE t off e)))) (ByteArray.mk #[]) (ByteArray.mk #[]) (qN t (xO t (xO t (qO t (qO t off e) (qE t off e)) (qE t (qO t off e) (qE t off e))) (xE t (qO t (qO t off e)
    (qE t off e)) (qE t (qO t off e) (qE t off e)))) (xE t (xO t (qO t (qO t off e) (qE t off e)) (qE t (qO t off e) (qE t off e))) (xE t (qO t (qO t off e) (qE t off e)) (qE t (qO t off e)
    (qE t off e))))) (qN t (qO t off e) (qE t off e)))) = (0 : Int))) (Tree.chk (cl (RX.ok t (RX.mk (qO t (xO t (xO t (qO t (qO t off e) (qE t off e)) (qE t (qO t off e) (qE t off e))) (xE t
    (qO t (qO t off e) (qE t off e)) (qE t (qO t off e) (qE t off e)))) (xE t (xO t (qO t (qO t off e) (qE t off e)) (qE t (qO t off e) (qE t off e))) (xE t (qO t (qO t off e) (qE t off e))
    (qE t (qO t off e) (qE t off e))))) (ByteArray.size t - qO t (xO t (xO t (qO t (qO t off e) (qE t off e)) (qE t (qO t off e) (qE t off e))) (xE t (qO t (qO t off e) (qE t off e)) (qE t
    (qO t off e) (qE t off e)))) (xE t (xO t (qO t (qO t off e) (qE t off e)) (qE t (qO t off e) (qE t off e))) (xE t (qO t (qO t off e) (qE t off e)) (qE t (qO t off e) (qE t off e))))) (qE
    t (xO t (xO t (qO t (qO t off e) (qE t off e)) (qE t (qO t off e) (qE t off e))) (xE t (qO t (qO t off e) (qE t off e)) (qE t (qO t off e) (qE t off e)))) (xE t (xO t (qO t (qO t off e)
    (qE t off e)) (qE t (qO t off e) (qE t off e))) (xE t (qO t (qO t off e) (qE t off e)) (qE t (qO t off e) (qE t off e))))) (ByteArray.size t) (bsF t)))) (Tree.chk (cl (RX.ok t (RX.mk (fO
    (ByteArray.size t) (qO t (xO t (xO t (qO t (qO t off e) (qE t off e)) (qE t (qO t off e) (qE t off e))) (xE t (qO t (qO t off e) (qE t off e)) (qE t (qO t off e) (qE t off e)))) (xE t
    (xO t (qO t (qO t off e) (qE t off e)) (qE t (qO t off e) (qE t off e))) (xE t (qO t (qO t off e) (qE t off e)) (qE t (qO t off e) (qE t off e))))) (qE t (xO t (xO t (qO t (qO t off e)
    (qE t off e)) (qE t (qO t off e) (qE t off e))) (xE t (qO t (qO t off e) (qE t off e)) (qE t (qO t off e) (qE t off e)))) (xE t (xO t (qO t (qO t off e) (qE t off e)) (qE t (qO t off e)
    (qE t off e))) (xE t (qO t (qO t off e) (qE t off e)) (qE t (qO t off e) (qE t off e))))) (80 : Int)) (ByteArray.size t - fO (ByteArray.size t) (qO t (xO t (xO t (qO t (qO t off e) (qE t
    off e)) (qE t (qO t off e) (qE t off e))) (xE t (qO t (qO t off e) (qE t off e)) (qE t (qO t off e) (qE t off e)))) (xE t (xO t (qO t (qO t off e) (qE t off e)) (qE t (qO t off e) (qE t
    off e))) (xE t (qO t (qO t off e) (qE t off e)) (qE t (qO t off e) (qE t off e))))) (qE t (xO t (xO t (qO t (qO t off e) (qE t off e)) (qE t (qO t off e) (qE t off e))) (xE t (qO t (qO t
    off e) (qE t off e)) (qE t (qO t off e) (qE t off e)))) (xE t (xO t (qO t (qO t off e) (qE t off e)) (qE t (qO t off e) (qE t off e))) (xE t (qO t (qO t off e) (qE t off e)) (qE t (qO t
    off e) (qE t off e))))) (80 : Int)) (fE (qE t (xO t (xO t (qO t (qO t off e) (qE t off e)) (qE t (qO t off e) (qE t off e))) (xE t (qO t (qO t off e) (qE t off e)) (qE t (qO t off e) (qE
    t off e)))) (xE t (xO t (qO t (qO t off e) (qE t off e)) (qE t (qO t off e) (qE t off e))) (xE t (qO t (qO t off e) (qE t off e)) (qE t (qO t off e) (qE t off e))))) (80 : Int))
    (ByteArray.size t) (bsF t)))) (Tree.br (bif !decide (dE t (fO (ByteArray.size t) (qO t (xO t (xO t (qO t (qO t off e) (qE t off e)) (qE t (qO t off e) (qE t off e))) (xE t (qO t (qO t
    off e) (qE t off e)) (qE t (qO t off e) (qE t off e)))) (xE t (xO t (qO t (qO t off e) (qE t off e)) (qE t (qO t off e) (qE t off e))) (xE t (qO t (qO t off e) (qE t off e)) (qE t (qO t
    off e) (qE t off e))))) (qE t (xO t (xO t (qO t (qO t off e) (qE t off e)) (qE t (qO t off e) (qE t off e))) (xE t (qO t (qO t off e) (qE t off e)) (qE t (qO t off e) (qE t off e)))) (xE
    t (xO t (qO t (qO t off e) (qE t off e)) (qE t (qO t off e) (qE t off e))) (xE t (qO t (qO t off e) (qE t off e)) (qE t (qO t off e) (qE t off e))))) (80 : Int)) (fE (qE t (xO t (xO t
    (qO t (qO t off e) (qE t off e)) (qE t (qO t off e) (qE t off e))) (xE t (qO t (qO t off e) (qE t off e)) (qE t (qO t off e) (qE t off e)))) (xE t (xO t (qO t (qO t off e) (qE t off e))
    (qE t (qO t off e) (qE t off e))) (xE t (qO t (qO t off e) (qE t off e)) (qE t (qO t off e) (qE t off e))))) (80 : Int)) = (0 : Int)) then !decide (dE t (fO (ByteArray.size t) (qO t (xO
    t (xO t (qO t (qO t off e) (qE t off e)) (qE t (qO t off e) (qE t off e))) (xE t (qO t (qO t off e) (qE t off e)) (qE t (qO t off e) (qE t off e)))) (xE t (xO t (qO t (qO t off e) (qE t
    off e)) (qE t (qO t off e) (qE t off e))) (xE t (qO t (qO t off e) (qE t off e)) (qE t (qO t off e) (qE t off e))))) (qE t (xO t (xO t (qO t (qO t off e) (qE t off e)) (qE t (qO t off e)
    (qE t off e))) (xE t (qO t (qO t off e) (qE t off e)) (qE t (qO t off e) (qE t off e)))) (xE t (xO t (qO t (qO t off e) (qE t off e)) (qE t (qO t off e) (qE t off e))) (xE t (qO t (qO t
    off e) (qE t off e)) (qE t (qO t off e) (qE t off e))))) (80 : Int)) (fE (qE t (xO t (xO t (qO t (qO t off e) (qE t off e)) (qE t (qO t off e) (qE t off e))) (xE t (qO t (qO t off e) (qE
    t off e)) (qE t (qO t off e) (qE t off e)))) (xE t (xO t (qO t (qO t off e) (qE t off e)) (qE t (qO t off e) (qE t off e))) (xE t (qO t (qO t off e) (qE t off e)) (qE t (qO t off e) (qE
    t off e))))) (80 : Int)) = (32 : Int)) else false) (Tree.leaf (Ans.mk (AV.agg [AV.v (Value.int IntKind.i64 (0 : Int)), AV.v (Value.string (ByteArray.mk #[])), AV.v (Value.string
    (ByteArray.mk #[])), AV.v (Value.string (ByteArray.mk #[])), AV.v (Value.string (ByteArray.mk #[])), AV.v (Value.int IntKind.i64 (0 : Int)), AV.v (Value.int IntKind.i64 (0 : Int))])
    [some (Blk.row [AV.hs (1 : Nat) (fO (ByteArray.size t) (qO t (xO t (xO t (qO t (qO t off e) (qE t off e)) (qE t (qO t off e) (qE t off e))) (xE t (qO t (qO t off e) (qE t off e)) (qE t
    (qO t off e) (qE t off e)))) (xE t (xO t (qO t (qO t off e) (qE t off e)) (qE t (qO t off e) (qE t off e))) (xE t (qO t (qO t off e) (qE t off e)) (qE t (qO t off e) (qE t off e))))) (qE
    t (xO t (xO t (qO t (qO t off e) (qE t off e)) (qE t (qO t off e) (qE t off e))) (xE t (qO t (qO t off e) (qE t off e)) (qE t (qO t off e) (qE t off e)))) (xE t (xO t (qO t (qO t off e)
    (qE t off e)) (qE t (qO t off e) (qE t off e))) (xE t (qO t (qO t off e) (qE t off e)) (qE t (qO t off e) (qE t off e))))) (80 : Int)) (ByteArray.size t - fO (ByteArray.size t) (qO t (xO
    t (xO t (qO t (qO t off e) (qE t off e)) (qE t (qO t off e) (qE t off e))) (xE t (qO t (qO t off e) (qE t off e)) (qE t (qO t off e) (qE t off e)))) (xE t (xO t (qO t (qO t off e) (qE t
    off e)) (qE t (qO t off e) (qE t off e))) (xE t (qO t (qO t off e) (qE t off e)) (qE t (qO t off e) (qE t off e))))) (qE t (xO t (xO t (qO t (qO t off e) (qE t off e)) (qE t (qO t off e)
    (qE t off e))) (xE t (qO t (qO t off e) (qE t off e)) (qE t (qO t off e) (qE t off e)))) (xE t (xO t (qO t (qO t off e) (qE t off e)) (qE t (qO t off e) (qE t off e))) (xE t (qO t (qO t
    off e) (qE t off e)) (qE t (qO t off e) (qE t off e))))) (80 : Int)), AV.v (Value.int IntKind.i64 (fE (qE t (xO t (xO t (qO t (qO t off e) (qE t off e)) (qE t (qO t off e) (qE t off e)))
    (xE t (qO t (qO t off e) (qE t off e)) (qE t (qO t off e) (qE t off e)))) (xE t (xO t (qO t (qO t off e) (qE t off e)) (qE t (qO t off e) (qE t off e))) (xE t (qO t (qO t off e) (qE t
    off e)) (qE t (qO t off e) (qE t off e))))) (80 : Int)))]), some (Blk.arr (1 : Nat) (ByteArray.size t) (bsF t))])) (Tree.leaf (Ans.mk (AV.agg [AV.v (Value.int IntKind.i64 (qN t off e)),
    AV.v (Value.string (xS t (qO t (qO t off e) (qE t off e)) (qE t (qO t off e) (qE t off e)))), AV.v (Value.string (xS t (xO t (qO t (qO t off e) (qE t off e)) (qE t (qO t off e) (qE t off
    e))) (xE t (qO t (qO t off e) (qE t off e)) (qE t (qO t off e) (qE t off e))))), AV.v (Value.string (ByteArray.mk #[])), AV.v (Value.string (ByteArray.mk #[])), AV.v (Value.int
    IntKind.i64 (qN t (xO t (xO t (qO t (qO t off e) (qE t off e)) (qE t (qO t off e) (qE t off e))) (xE t (qO t (qO t off e) (qE t off e)) (qE t (qO t off e) (qE t off e)))) (xE t (xO t (qO
    t (qO t off e) (qE t off e)) (qE t (qO t off e) (qE t off e))) (xE t (qO t (qO t off e) (qE t off e)) (qE t (qO t off e) (qE t off e)))))), AV.v (Value.int IntKind.i64 (qN t (qO t off e)
    (qE t off e)))]) [some (Blk.row [AV.hs (1 : Nat) (fO (ByteArray.size t) (qO t (xO t (xO t (qO t (qO t off e) (qE t off e)) (qE t (qO t off e) (qE t off e))) (xE t (qO t (qO t off e) (qE
    t off e)) (qE t (qO t off e) (qE t off e)))) (xE t (xO t (qO t (qO t off e) (qE t off e)) (qE t (qO t off e) (qE t off e))) (xE t (qO t (qO t off e) (qE t off e)) (qE t (qO t off e) (qE
    t off e))))) (qE t (xO t (xO t (qO t (qO t off e) (qE t off e)) (qE t (qO t off e) (qE t off e))) (xE t (qO t (qO t off e) (qE t off e)) (qE t (qO t off e) (qE t off e)))) (xE t (xO t
    (qO t (qO t off e) (qE t off e)) (qE t (qO t off e) (qE t off e))) (xE t (qO t (qO t off e) (qE t off e)) (qE t (qO t off e) (qE t off e))))) (80 : Int)) (ByteArray.size t - fO
    (ByteArray.size t) (qO t (xO t (xO t (qO t (qO t off e) (qE t off e)) (qE t (qO t off e) (qE t off e))) (xE t (qO t (qO t off e) (qE t off e)) (qE t (qO t off e) (qE t off e)))) (xE t
    (xO t (qO t (qO t off e) (qE t off e)) (qE t (qO t off e) (qE t off e))) (xE t (qO t (qO t off e) (qE t off e)) (qE t (qO t off e) (qE t off e))))) (qE t (xO t (xO t (qO t (qO t off e)
    (qE t off e)) (qE t (qO t off e) (qE t off e))) (xE t (qO t (qO t off e) (qE t off e)) (qE t (qO t off e) (qE t off e)))) (xE t (xO t (qO t (qO t off e) (qE t off e)) (qE t (qO t off e)
    (qE t off e))) (xE t (qO t (qO t off e) (qE t off e)) (qE t (qO t off e) (qE t off e))))) (80 : Int)), AV.v (Value.int IntKind.i64 (fE (qE t (xO t (xO t (qO t (qO t off e) (qE t off e))
    (qE t (qO t off e) (qE t off e))) (xE t (qO t (qO t off e) (qE t off e)) (qE t (qO t off e) (qE t off e)))) (xE t (xO t (qO t (qO t off e) (qE t off e)) (qE t (qO t off e) (qE t off e)))
    (xE t (qO t (qO t off e) (qE t off e)) (qE t (qO t off e) (qE t off e))))) (80 : Int)))]), some (Blk.arr (1 : Nat) (ByteArray.size t) (bsF t))]))))) (Tree.chk (cl (RX.ok t (RX.mk (qO t
    (xO t (xO t (qO t (qO t off e) (qE t off e)) (qE t (qO t off e) (qE t off e))) (xE t (qO t (qO t off e) (qE t off e)) (qE t (qO t off e) (qE t off e)))) (xE t (xO t (qO t (qO t off e)
    (qE t off e)) (qE t (qO t off e) (qE t off e))) (xE t (qO t (qO t off e) (qE t off e)) (qE t (qO t off e) (qE t off e))))) (ByteArray.size t - qO t (xO t (xO t (qO t (qO t off e) (qE t
    off e)) (qE t (qO t off e) (qE t off e))) (xE t (qO t (qO t off e) (qE t off e)) (qE t (qO t off e) (qE t off e)))) (xE t (xO t (qO t (qO t off e) (qE t off e)) (qE t (qO t off e) (qE t
    off e))) (xE t (qO t (qO t off e) (qE t off e)) (qE t (qO t off e) (qE t off e))))) (qE t (xO t (xO t (qO t (qO t off e) (qE t off e)) (qE t (qO t off e) (qE t off e))) (xE t (qO t (qO t
    off e) (qE t off e)) (qE t (qO t off e) (qE t off e)))) (xE t (xO t (qO t (qO t off e) (qE t off e)) (qE t (qO t off e) (qE t off e))) (xE t (qO t (qO t off e) (qE t off e)) (qE t (qO t
    off e) (qE t off e))))) (ByteArray.size t) (bsF t)))) (Tree.br (bif !decide (dE t (qO t (xO t (xO t (qO t (qO t off e) (qE t off e)) (qE t (qO t off e) (qE t off e))) (xE t (qO t (qO t
    off e) (qE t off e)) (qE t (qO t off e) (qE t off e)))) (xE t (xO t (qO t (qO t off e) (qE t off e)) (qE t (qO t off e) (qE t off e))) (xE t (qO t (qO t off e) (qE t off e)) (qE t (qO t
    off e) (qE t off e))))) (qE t (xO t (xO t (qO t (qO t off e) (qE t off e)) (qE t (qO t off e) (qE t off e))) (xE t (qO t (qO t off e) (qE t off e)) (qE t (qO t off e) (qE t off e)))) (xE
    t (xO t (qO t (qO t off e) (qE t off e)) (qE t (qO t off e) (qE t off e))) (xE t (qO t (qO t off e) (qE t off e)) (qE t (qO t off e) (qE t off e))))) = (0 : Int)) then !decide (dE t (qO
    t (xO t (xO t (qO t (qO t off e) (qE t off e)) (qE t (qO t off e) (qE t off e))) (xE t (qO t (qO t off e) (qE t off e)) (qE t (qO t off e) (qE t off e)))) (xE t (xO t (qO t (qO t off e)
    (qE t off e)) (qE t (qO t off e) (qE t off e))) (xE t (qO t (qO t off e) (qE t off e)) (qE t (qO t off e) (qE t off e))))) (qE t (xO t (xO t (qO t (qO t off e) (qE t off e)) (qE t (qO t
    off e) (qE t off e))) (xE t (qO t (qO t off e) (qE t off e)) (qE t (qO t off e) (qE t off e)))) (xE t (xO t (qO t (qO t off e) (qE t off e)) (qE t (qO t off e) (qE t off e))) (xE t (qO t
    (qO t off e) (qE t off e)) (qE t (qO t off e) (qE t off e))))) = (32 : Int)) else false) (Tree.leaf (Ans.mk (AV.agg [AV.v (Value.int IntKind.i64 (0 : Int)), AV.v (Value.string
    (ByteArray.mk #[])), AV.v (Value.string (ByteArray.mk #[])), AV.v (Value.string (ByteArray.mk #[])), AV.v (Value.string (ByteArray.mk #[])), AV.v (Value.int IntKind.i64 (0 : Int)), AV.v
    (Value.int IntKind.i64 (0 : Int))]) [some (Blk.row [AV.hs (1 : Nat) (qO t (xO t (xO t (qO t (qO t off e) (qE t off e)) (qE t (qO t off e) (qE t off e))) (xE t (qO t (qO t off e) (qE t
    off e)) (qE t (qO t off e) (qE t off e)))) (xE t (xO t (qO t (qO t off e) (qE t off e)) (qE t (qO t off e) (qE t off e))) (xE t (qO t (qO t off e) (qE t off e)) (qE t (qO t off e) (qE t
    off e))))) (ByteArray.size t - qO t (xO t (xO t (qO t (qO t off e) (qE t off e)) (qE t (qO t off e) (qE t off e))) (xE t (qO t (qO t off e) (qE t off e)) (qE t (qO t off e) (qE t off
    e)))) (xE t (xO t (qO t (qO t off e) (qE t off e)) (qE t (qO t off e) (qE t off e))) (xE t (qO t (qO t off e) (qE t off e)) (qE t (qO t off e) (qE t off e))))), AV.v (Value.int
    IntKind.i64 (qE t (xO t (xO t (qO t (qO t off e) (qE t off e)) (qE t (qO t off e) (qE t off e))) (xE t (qO t (qO t off e) (qE t off e)) (qE t (qO t off e) (qE t off e)))) (xE t (xO t (qO
    t (qO t off e) (qE t off e)) (qE t (qO t off e) (qE t off e))) (xE t (qO t (qO t off e) (qE t off e)) (qE t (qO t off e) (qE t off e))))))]), some (Blk.arr (1 : Nat) (ByteArray.size t)
    (bsF t))])) (Tree.leaf (Ans.mk (AV.agg [AV.v (Value.int IntKind.i64 (qN t off e)), AV.v (Value.string (xS t (qO t (qO t off e) (qE t off e)) (qE t (qO t off e) (qE t off e)))), AV.v
    (Value.string (xS t (xO t (qO t (qO t off e) (qE t off e)) (qE t (qO t off e) (qE t off e))) (xE t (qO t (qO t off e) (qE t off e)) (qE t (qO t off e) (qE t off e))))), AV.v
    (Value.string (ByteArray.mk #[])), AV.v (Value.string (ByteArray.mk #[])), AV.v (Value.int IntKind.i64 (qN t (xO t (xO t (qO t (qO t off e) (qE t off e)) (qE t (qO t off e) (qE t off
    e))) (xE t (qO t (qO t off e) (qE t off e)) (qE t (qO t off e) (qE t off e)))) (xE t (xO t (qO t (qO t off e) (qE t off e)) (qE t (qO t off e) (qE t off e))) (xE t (qO t (qO t off e) (qE
    t off e)) (qE t (qO t off e) (qE t off e)))))), AV.v (Value.int IntKind.i64 (qN t (qO t off e) (qE t off e)))]) [some (Blk.row [AV.hs (1 : Nat) (qO t (xO t (xO t (qO t (qO t off e) (qE t
    off e)) (qE t (qO t off e) (qE t off e))) (xE t (qO t (qO t off e) (qE t off e)) (qE t (qO t off e) (qE t off e)))) (xE t (xO t (qO t (qO t off e) (qE t off e)) (qE t (qO t off e) (qE t
    off e))) (xE t (qO t (qO t off e) (qE t off e)) (qE t (qO t off e) (qE t off e))))) (ByteArray.size t - qO t (xO t (xO t (qO t (qO t off e) (qE t off e)) (qE t (qO t off e) (qE t off
    e))) (xE t (qO t (qO t off e) (qE t off e)) (qE t (qO t off e) (qE t off e)))) (xE t (xO t (qO t (qO t off e) (qE t off e)) (qE t (qO t off e) (qE t off e))) (xE t (qO t (qO t off e) (qE
    t off e)) (qE t (qO t off e) (qE t off e))))), AV.v (Value.int IntKind.i64 (qE t (xO t (xO t (qO t (qO t off e) (qE t off e)) (qE t (qO t off e) (qE t off e))) (xE t (qO t (qO t off e)
    (qE t off e)) (qE t (qO t off e) (qE t off e)))) (xE t (xO t (qO t (qO t off e) (qE t off e)) (qE t (qO t off e) (qE t off e))) (xE t (qO t (qO t off e) (qE t off e)) (qE t (qO t off e)
    (qE t off e))))))]), some (Blk.arr (1 : Nat) (ByteArray.size t) (bsF t))])))))))) (Tree.chk (cl (RX.ok t (RX.mk (xO t (qO t (qO t off e) (qE t off e)) (qE t (qO t off e) (qE t off e)))
    (ByteArray.size t - xO t (qO t (qO t off e) (qE t off e)) (qE t (qO t off e) (qE t off e))) (xE t (qO t (qO t off e) (qE t off e)) (qE t (qO t off e) (qE t off e))) (ByteArray.size t)
    (bsF t)) ∧ okS t (xO t (qO t (qO t off e) (qE t off e)) (qE t (qO t off e) (qE t off e))) (xE t (qO t (qO t off e) (qE t off e)) (qE t (qO t off e) (qE t off e))))) (Tree.chk (cl (RX.ok
    t (RX.mk (xO t (xO t (qO t (qO t off e) (qE t off e)) (qE t (qO t off e) (qE t off e))) (xE t (qO t (qO t off e) (qE t off e)) (qE t (qO t off e) (qE t off e)))) (ByteArray.size t - xO t
    (xO t (qO t (qO t off e) (qE t off e)) (qE t (qO t off e) (qE t off e))) (xE t (qO t (qO t off e) (qE t off e)) (qE t (qO t off e) (qE t off e)))) (xE t (xO t (qO t (qO t off e) (qE t
    off e)) (qE t (qO t off e) (qE t off e))) (xE t (qO t (qO t off e) (qE t off e)) (qE t (qO t off e) (qE t off e)))) (ByteArray.size t) (bsF t)) ∧ okS t (xO t (xO t (qO t (qO t off e) (qE
    t off e)) (qE t (qO t off e) (qE t off e))) (xE t (qO t (qO t off e) (qE t off e)) (qE t (qO t off e) (qE t off e)))) (xE t (xO t (qO t (qO t off e) (qE t off e)) (qE t (qO t off e) (qE
    t off e))) (xE t (qO t (qO t off e) (qE t off e)) (qE t (qO t off e) (qE t off e)))))) (Tree.chk (cl (smallT (Tx.mk (qN t off e) (xS t (qO t (qO t off e) (qE t off e)) (qE t (qO t off e)
    (qE t off e))) (ByteArray.mk #[]) (xS t (xO t (qO t (qO t off e) (qE t off e)) (qE t (qO t off e) (qE t off e))) (xE t (qO t (qO t off e) (qE t off e)) (qE t (qO t off e) (qE t off e))))
    (xS t (xO t (xO t (qO t (qO t off e) (qE t off e)) (qE t (qO t off e) (qE t off e))) (xE t (qO t (qO t off e) (qE t off e)) (qE t (qO t off e) (qE t off e)))) (xE t (xO t (qO t (qO t off
    e) (qE t off e)) (qE t (qO t off e) (qE t off e))) (xE t (qO t (qO t off e) (qE t off e)) (qE t (qO t off e) (qE t off e))))) (0 : Int) (qN t (qO t off e) (qE t off e))))) (Tree.br
    (!decide (erT (txB (Tx.mk (qN t off e) (xS t (qO t (qO t off e) (qE t off e)) (qE t (qO t off e) (qE t off e))) (ByteArray.mk #[]) (xS t (xO t (qO t (qO t off e) (qE t off e)) (qE t (qO
    t off e) (qE t off e))) (xE t (qO t (qO t off e) (qE t off e)) (qE t (qO t off e) (qE t off e)))) (xS t (xO t (xO t (qO t (qO t off e) (qE t off e)) (qE t (qO t off e) (qE t off e))) (xE
    t (qO t (qO t off e) (qE t off e)) (qE t (qO t off e) (qE t off e)))) (xE t (xO t (qO t (qO t off e) (qE t off e)) (qE t (qO t off e) (qE t off e))) (xE t (qO t (qO t off e) (qE t off
    e)) (qE t (qO t off e) (qE t off e))))) (0 : Int) (qN t (qO t off e) (qE t off e)))) = (0 : Int))) (Tree.chk (cl (RX.ok t (RX.mk (xO t (xO t (xO t (qO t (qO t off e) (qE t off e)) (qE t
    (qO t off e) (qE t off e))) (xE t (qO t (qO t off e) (qE t off e)) (qE t (qO t off e) (qE t off e)))) (xE t (xO t (qO t (qO t off e) (qE t off e)) (qE t (qO t off e) (qE t off e))) (xE t
    (qO t (qO t off e) (qE t off e)) (qE t (qO t off e) (qE t off e))))) (ByteArray.size t - xO t (xO t (xO t (qO t (qO t off e) (qE t off e)) (qE t (qO t off e) (qE t off e))) (xE t (qO t
    (qO t off e) (qE t off e)) (qE t (qO t off e) (qE t off e)))) (xE t (xO t (qO t (qO t off e) (qE t off e)) (qE t (qO t off e) (qE t off e))) (xE t (qO t (qO t off e) (qE t off e)) (qE t
    (qO t off e) (qE t off e))))) (xE t (xO t (xO t (qO t (qO t off e) (qE t off e)) (qE t (qO t off e) (qE t off e))) (xE t (qO t (qO t off e) (qE t off e)) (qE t (qO t off e) (qE t off
    e)))) (xE t (xO t (qO t (qO t off e) (qE t off e)) (qE t (qO t off e) (qE t off e))) (xE t (qO t (qO t off e) (qE t off e)) (qE t (qO t off e) (qE t off e))))) (ByteArray.size t) (bsF
    t)))) (Tree.chk (cl (RX.ok t (RX.mk (fO (ByteArray.size t) (xO t (xO t (xO t (qO t (qO t off e) (qE t off e)) (qE t (qO t off e) (qE t off e))) (xE t (qO t (qO t off e) (qE t off e)) (qE
    t (qO t off e) (qE t off e)))) (xE t (xO t (qO t (qO t off e) (qE t off e)) (qE t (qO t off e) (qE t off e))) (xE t (qO t (qO t off e) (qE t off e)) (qE t (qO t off e) (qE t off e)))))
    (xE t (xO t (xO t (qO t (qO t off e) (qE t off e)) (qE t (qO t off e) (qE t off e))) (xE t (qO t (qO t off e) (qE t off e)) (qE t (qO t off e) (qE t off e)))) (xE t (xO t (qO t (qO t off
    e) (qE t off e)) (qE t (qO t off e) (qE t off e))) (xE t (qO t (qO t off e) (qE t off e)) (qE t (qO t off e) (qE t off e))))) (80 : Int)) (ByteArray.size t - fO (ByteArray.size t) (xO t
    (xO t (xO t (qO t (qO t off e) (qE t off e)) (qE t (qO t off e) (qE t off e))) (xE t (qO t (qO t off e) (qE t off e)) (qE t (qO t off e) (qE t off e)))) (xE t (xO t (qO t (qO t off e)
    (qE t off e)) (qE t (qO t off e) (qE t off e))) (xE t (qO t (qO t off e) (qE t off e)) (qE t (qO t off e) (qE t off e))))) (xE t (xO t (xO t (qO t (qO t off e) (qE t off e)) (qE t (qO t
    off e) (qE t off e))) (xE t (qO t (qO t off e) (qE t off e)) (qE t (qO t off e) (qE t off e)))) (xE t (xO t (qO t (qO t off e) (qE t off e)) (qE t (qO t off e) (qE t off e))) (xE t (qO t
    (qO t off e) (qE t off e)) (qE t (qO t off e) (qE t off e))))) (80 : Int)) (fE (xE t (xO t (xO t (qO t (qO t off e) (qE t off e)) (qE t (qO t off e) (qE t off e))) (xE t (qO t (qO t off
    e) (qE t off e)) (qE t (qO t off e) (qE t off e)))) (xE t (xO t (qO t (qO t off e) (qE t off e)) (qE t (qO t off e) (qE t off e))) (xE t (qO t (qO t off e) (qE t off e)) (qE t (qO t off
    e) (qE t off e))))) (80 : Int)) (ByteArray.size t) (bsF t)))) (Tree.br (bif !decide (dE t (fO (ByteArray.size t) (xO t (xO t (xO t (qO t (qO t off e) (qE t off e)) (qE t (qO t off e) (qE
    t off e))) (xE t (qO t (qO t off e) (qE t off e)) (qE t (qO t off e) (qE t off e)))) (xE t (xO t (qO t (qO t off e) (qE t off e)) (qE t (qO t off e) (qE t off e))) (xE t (qO t (qO t off
    e) (qE t off e)) (qE t (qO t off e) (qE t off e))))) (xE t (xO t (xO t (qO t (qO t off e) (qE t off e)) (qE t (qO t off e) (qE t off e))) (xE t (qO t (qO t off e) (qE t off e)) (qE t (qO
    t off e) (qE t off e)))) (xE t (xO t (qO t (qO t off e) (qE t off e)) (qE t (qO t off e) (qE t off e))) (xE t (qO t (qO t off e) (qE t off e)) (qE t (qO t off e) (qE t off e))))) (80 :
    Int)) (fE (xE t (xO t (xO t (qO t (qO t off e) (qE t off e)) (qE t (qO t off e) (qE t off e))) (xE t (qO t (qO t off e) (qE t off e)) (qE t (qO t off e) (qE t off e)))) (xE t (xO t (qO t
    (qO t off e) (qE t off e)) (qE t (qO t off e) (qE t off e))) (xE t (qO t (qO t off e) (qE t off e)) (qE t (qO t off e) (qE t off e))))) (80 : Int)) = (0 : Int)) then !decide (dE t (fO
    (ByteArray.size t) (xO t (xO t (xO t (qO t (qO t off e) (qE t off e)) (qE t (qO t off e) (qE t off e))) (xE t (qO t (qO t off e) (qE t off e)) (qE t (qO t off e) (qE t off e)))) (xE t
    (xO t (qO t (qO t off e) (qE t off e)) (qE t (qO t off e) (qE t off e))) (xE t (qO t (qO t off e) (qE t off e)) (qE t (qO t off e) (qE t off e))))) (xE t (xO t (xO t (qO t (qO t off e)
    (qE t off e)) (qE t (qO t off e) (qE t off e))) (xE t (qO t (qO t off e) (qE t off e)) (qE t (qO t off e) (qE t off e)))) (xE t (xO t (qO t (qO t off e) (qE t off e)) (qE t (qO t off e)
    (qE t off e))) (xE t (qO t (qO t off e) (qE t off e)) (qE t (qO t off e) (qE t off e))))) (80 : Int)) (fE (xE t (xO t (xO t (qO t (qO t off e) (qE t off e)) (qE t (qO t off e) (qE t off
    e))) (xE t (qO t (qO t off e) (qE t off e)) (qE t (qO t off e) (qE t off e)))) (xE t (xO t (qO t (qO t off e) (qE t off e)) (qE t (qO t off e) (qE t off e))) (xE t (qO t (qO t off e) (qE
    t off e)) (qE t (qO t off e) (qE t off e))))) (80 : Int)) = (32 : Int)) else false) (Tree.leaf (Ans.mk (AV.agg [AV.v (Value.int IntKind.i64 (0 : Int)), AV.v (Value.string (ByteArray.mk
    #[])), AV.v (Value.string (ByteArray.mk #[])), AV.v (Value.string (ByteArray.mk #[])), AV.v (Value.string (ByteArray.mk #[])), AV.v (Value.int IntKind.i64 (0 : Int)), AV.v (Value.int
    IntKind.i64 (0 : Int))]) [some (Blk.row [AV.hs (1 : Nat) (fO (ByteArray.size t) (xO t (xO t (xO t (qO t (qO t off e) (qE t off e)) (qE t (qO t off e) (qE t off e))) (xE t (qO t (qO t off
    e) (qE t off e)) (qE t (qO t off e) (qE t off e)))) (xE t (xO t (qO t (qO t off e) (qE t off e)) (qE t (qO t off e) (qE t off e))) (xE t (qO t (qO t off e) (qE t off e)) (qE t (qO t off
    e) (qE t off e))))) (xE t (xO t (xO t (qO t (qO t off e) (qE t off e)) (qE t (qO t off e) (qE t off e))) (xE t (qO t (qO t off e) (qE t off e)) (qE t (qO t off e) (qE t off e)))) (xE t
    (xO t (qO t (qO t off e) (qE t off e)) (qE t (qO t off e) (qE t off e))) (xE t (qO t (qO t off e) (qE t off e)) (qE t (qO t off e) (qE t off e))))) (80 : Int)) (ByteArray.size t - fO
    (ByteArray.size t) (xO t (xO t (xO t (qO t (qO t off e) (qE t off e)) (qE t (qO t off e) (qE t off e))) (xE t (qO t (qO t off e) (qE t off e)) (qE t (qO t off e) (qE t off e)))) (xE t
    (xO t (qO t (qO t off e) (qE t off e)) (qE t (qO t off e) (qE t off e))) (xE t (qO t (qO t off e) (qE t off e)) (qE t (qO t off e) (qE t off e))))) (xE t (xO t (xO t (qO t (qO t off e)
    (qE t off e)) (qE t (qO t off e) (qE t off e))) (xE t (qO t (qO t off e) (qE t off e)) (qE t (qO t off e) (qE t off e)))) (xE t (xO t (qO t (qO t off e) (qE t off e)) (qE t (qO t off e)
    (qE t off e))) (xE t (qO t (qO t off e) (qE t off e)) (qE t (qO t off e) (qE t off e))))) (80 : Int)), AV.v (Value.int IntKind.i64 (fE (xE t (xO t (xO t (qO t (qO t off e) (qE t off e))
    (qE t (qO t off e) (qE t off e))) (xE t (qO t (qO t off e) (qE t off e)) (qE t (qO t off e) (qE t off e)))) (xE t (xO t (qO t (qO t off e) (qE t off e)) (qE t (qO t off e) (qE t off e)))
    (xE t (qO t (qO t off e) (qE t off e)) (qE t (qO t off e) (qE t off e))))) (80 : Int)))]), some (Blk.arr (1 : Nat) (ByteArray.size t) (bsF t))])) (Tree.leaf (Ans.mk (AV.agg [AV.v
    (Value.int IntKind.i64 (qN t off e)), AV.v (Value.string (xS t (qO t (qO t off e) (qE t off e)) (qE t (qO t off e) (qE t off e)))), AV.v (Value.string (ByteArray.mk #[])), AV.v
    (Value.string (xS t (xO t (qO t (qO t off e) (qE t off e)) (qE t (qO t off e) (qE t off e))) (xE t (qO t (qO t off e) (qE t off e)) (qE t (qO t off e) (qE t off e))))), AV.v
    (Value.string (xS t (xO t (xO t (qO t (qO t off e) (qE t off e)) (qE t (qO t off e) (qE t off e))) (xE t (qO t (qO t off e) (qE t off e)) (qE t (qO t off e) (qE t off e)))) (xE t (xO t
    (qO t (qO t off e) (qE t off e)) (qE t (qO t off e) (qE t off e))) (xE t (qO t (qO t off e) (qE t off e)) (qE t (qO t off e) (qE t off e)))))), AV.v (Value.int IntKind.i64 (0 : Int)),
    AV.v (Value.int IntKind.i64 (qN t (qO t off e) (qE t off e)))]) [some (Blk.row [AV.hs (1 : Nat) (fO (ByteArray.size t) (xO t (xO t (xO t (qO t (qO t off e) (qE t off e)) (qE t (qO t off
    e) (qE t off e))) (xE t (qO t (qO t off e) (qE t off e)) (qE t (qO t off e) (qE t off e)))) (xE t (xO t (qO t (qO t off e) (qE t off e)) (qE t (qO t off e) (qE t off e))) (xE t (qO t (qO
    t off e) (qE t off e)) (qE t (qO t off e) (qE t off e))))) (xE t (xO t (xO t (qO t (qO t off e) (qE t off e)) (qE t (qO t off e) (qE t off e))) (xE t (qO t (qO t off e) (qE t off e)) (qE
    t (qO t off e) (qE t off e)))) (xE t (xO t (qO t (qO t off e) (qE t off e)) (qE t (qO t off e) (qE t off e))) (xE t (qO t (qO t off e) (qE t off e)) (qE t (qO t off e) (qE t off e)))))
    (80 : Int)) (ByteArray.size t - fO (ByteArray.size t) (xO t (xO t (xO t (qO t (qO t off e) (qE t off e)) (qE t (qO t off e) (qE t off e))) (xE t (qO t (qO t off e) (qE t off e)) (qE t
    (qO t off e) (qE t off e)))) (xE t (xO t (qO t (qO t off e) (qE t off e)) (qE t (qO t off e) (qE t off e))) (xE t (qO t (qO t off e) (qE t off e)) (qE t (qO t off e) (qE t off e))))) (xE
    t (xO t (xO t (qO t (qO t off e) (qE t off e)) (qE t (qO t off e) (qE t off e))) (xE t (qO t (qO t off e) (qE t off e)) (qE t (qO t off e) (qE t off e)))) (xE t (xO t (qO t (qO t off e)
    (qE t off e)) (qE t (qO t off e) (qE t off e))) (xE t (qO t (qO t off e) (qE t off e)) (qE t (qO t off e) (qE t off e))))) (80 : Int)), AV.v (Value.int IntKind.i64 (fE (xE t (xO t (xO t
    (qO t (qO t off e) (qE t off e)) (qE t (qO t off e) (qE t off e))) (xE t (qO t (qO t off e) (qE t off e)) (qE t (qO t off e) (qE t off e)))) (xE t (xO t (qO t (qO t off e) (qE t off e))
    (qE t (qO t off e) (qE t off e))) (xE t (qO t (qO t off e) (qE t off e)) (qE t (qO t off e) (qE t off e))))) (80 : Int)))]), some (Blk.arr (1 : Nat) (ByteArray.size t) (bsF t))])))))
    (Tree.chk (cl (RX.ok t (RX.mk (xO t (xO t (xO t (qO t (qO t off e) (qE t off e)) (qE t (qO t off e) (qE t off e))) (xE t (qO t (qO t off e) (qE t off e)) (qE t (qO t off e) (qE t off
    e)))) (xE t (xO t (qO t (qO t off e) (qE t off e)) (qE t (qO t off e) (qE t off e))) (xE t (qO t (qO t off e) (qE t off e)) (qE t (qO t off e) (qE t off e))))) (ByteArray.size t - xO t
    (xO t (xO t (qO t (qO t off e) (qE t off e)) (qE t (qO t off e) (qE t off e))) (xE t (qO t (qO t off e) (qE t off e)) (qE t (qO t off e) (qE t off e)))) (xE t (xO t (qO t (qO t off e)
    (qE t off e)) (qE t (qO t off e) (qE t off e))) (xE t (qO t (qO t off e) (qE t off e)) (qE t (qO t off e) (qE t off e))))) (xE t (xO t (xO t (qO t (qO t off e) (qE t off e)) (qE t (qO t
    off e) (qE t off e))) (xE t (qO t (qO t off e) (qE t off e)) (qE t (qO t off e) (qE t off e)))) (xE t (xO t (qO t (qO t off e) (qE t off e)) (qE t (qO t off e) (qE t off e))) (xE t (qO t
    (qO t off e) (qE t off e)) (qE t (qO t off e) (qE t off e))))) (ByteArray.size t) (bsF t)))) (Tree.br (bif !decide (dE t (xO t (xO t (xO t (qO t (qO t off e) (qE t off e)) (qE t (qO t
    off e) (qE t off e))) (xE t (qO t (qO t off e) (qE t off e)) (qE t (qO t off e) (qE t off e)))) (xE t (xO t (qO t (qO t off e) (qE t off e)) (qE t (qO t off e) (qE t off e))) (xE t (qO t
    (qO t off e) (qE t off e)) (qE t (qO t off e) (qE t off e))))) (xE t (xO t (xO t (qO t (qO t off e) (qE t off e)) (qE t (qO t off e) (qE t off e))) (xE t (qO t (qO t off e) (qE t off e))
    (qE t (qO t off e) (qE t off e)))) (xE t (xO t (qO t (qO t off e) (qE t off e)) (qE t (qO t off e) (qE t off e))) (xE t (qO t (qO t off e) (qE t off e)) (qE t (qO t off e) (qE t off
    e))))) = (0 : Int)) then !decide (dE t (xO t (xO t (xO t (qO t (qO t off e) (qE t off e)) (qE t (qO t off e) (qE t off e))) (xE t (qO t (qO t off e) (qE t off e)) (qE t (qO t off e) (qE
    t off e)))) (xE t (xO t (qO t (qO t off e) (qE t off e)) (qE t (qO t off e) (qE t off e))) (xE t (qO t (qO t off e) (qE t off e)) (qE t (qO t off e) (qE t off e))))) (xE t (xO t (xO t
    (qO t (qO t off e) (qE t off e)) (qE t (qO t off e) (qE t off e))) (xE t (qO t (qO t off e) (qE t off e)) (qE t (qO t off e) (qE t off e)))) (xE t (xO t (qO t (qO t off e) (qE t off e))
    (qE t (qO t off e) (qE t off e))) (xE t (qO t (qO t off e) (qE t off e)) (qE t (qO t off e) (qE t off e))))) = (32 : Int)) else false) (Tree.leaf (Ans.mk (AV.agg [AV.v (Value.int
    IntKind.i64 (0 : Int)), AV.v (Value.string (ByteArray.mk #[])), AV.v (Value.string (ByteArray.mk #[])), AV.v (Value.string (ByteArray.mk #[])), AV.v (Value.string (ByteArray.mk #[])),
    AV.v (Value.int IntKind.i64 (0 : Int)), AV.v (Value.int IntKind.i64 (0 : Int))]) [some (Blk.row [AV.hs (1 : Nat) (xO t (xO t (xO t (qO t (qO t off e) (qE t off e)) (qE t (qO t off e) (qE
    t off e))) (xE t (qO t (qO t off e) (qE t off e)) (qE t (qO t off e) (qE t off e)))) (xE t (xO t (qO t (qO t off e) (qE t off e)) (qE t (qO t off e) (qE t off e))) (xE t (qO t (qO t off
    e) (qE t off e)) (qE t (qO t off e) (qE t off e))))) (ByteArray.size t - xO t (xO t (xO t (qO t (qO t off e) (qE t off e)) (qE t (qO t off e) (qE t off e))) (xE t (qO t (qO t off e) (qE
    t off e)) (qE t (qO t off e) (qE t off e)))) (xE t (xO t (qO t (qO t off e) (qE t off e)) (qE t (qO t off e) (qE t off e))) (xE t (qO t (qO t off e) (qE t off e)) (qE t (qO t off e) (qE
    t off e))))), AV.v (Value.int IntKind.i64 (xE t (xO t (xO t (qO t (qO t off e) (qE t off e)) (qE t (qO t off e) (qE t off e))) (xE t (qO t (qO t off e) (qE t off e)) (qE t (qO t off e)
    (qE t off e)))) (xE t (xO t (qO t (qO t off e) (qE t off e)) (qE t (qO t off e) (qE t off e))) (xE t (qO t (qO t off e) (qE t off e)) (qE t (qO t off e) (qE t off e))))))]), some
    (Blk.arr (1 : Nat) (ByteArray.size t) (bsF t))])) (Tree.leaf (Ans.mk (AV.agg [AV.v (Value.int IntKind.i64 (qN t off e)), AV.v (Value.string (xS t (qO t (qO t off e) (qE t off e)) (qE t
    (qO t off e) (qE t off e)))), AV.v (Value.string (ByteArray.mk #[])), AV.v (Value.string (xS t (xO t (qO t (qO t off e) (qE t off e)) (qE t (qO t off e) (qE t off e))) (xE t (qO t (qO t
    off e) (qE t off e)) (qE t (qO t off e) (qE t off e))))), AV.v (Value.string (xS t (xO t (xO t (qO t (qO t off e) (qE t off e)) (qE t (qO t off e) (qE t off e))) (xE t (qO t (qO t off e)
    (qE t off e)) (qE t (qO t off e) (qE t off e)))) (xE t (xO t (qO t (qO t off e) (qE t off e)) (qE t (qO t off e) (qE t off e))) (xE t (qO t (qO t off e) (qE t off e)) (qE t (qO t off e)
    (qE t off e)))))), AV.v (Value.int IntKind.i64 (0 : Int)), AV.v (Value.int IntKind.i64 (qN t (qO t off e) (qE t off e)))]) [some (Blk.row [AV.hs (1 : Nat) (xO t (xO t (xO t (qO t (qO t
    off e) (qE t off e)) (qE t (qO t off e) (qE t off e))) (xE t (qO t (qO t off e) (qE t off e)) (qE t (qO t off e) (qE t off e)))) (xE t (xO t (qO t (qO t off e) (qE t off e)) (qE t (qO t
    off e) (qE t off e))) (xE t (qO t (qO t off e) (qE t off e)) (qE t (qO t off e) (qE t off e))))) (ByteArray.size t - xO t (xO t (xO t (qO t (qO t off e) (qE t off e)) (qE t (qO t off e)
    (qE t off e))) (xE t (qO t (qO t off e) (qE t off e)) (qE t (qO t off e) (qE t off e)))) (xE t (xO t (qO t (qO t off e) (qE t off e)) (qE t (qO t off e) (qE t off e))) (xE t (qO t (qO t
    off e) (qE t off e)) (qE t (qO t off e) (qE t off e))))), AV.v (Value.int IntKind.i64 (xE t (xO t (xO t (qO t (qO t off e) (qE t off e)) (qE t (qO t off e) (qE t off e))) (xE t (qO t (qO
    t off e) (qE t off e)) (qE t (qO t off e) (qE t off e)))) (xE t (xO t (qO t (qO t off e) (qE t off e)) (qE t (qO t off e) (qE t off e))) (xE t (qO t (qO t off e) (qE t off e)) (qE t (qO
    t off e) (qE t off e))))))]), some (Blk.arr (1 : Nat) (ByteArray.size t) (bsF t))]))))))))))) (Tree.chk (cl (RX.ok t (RX.mk (qO t off e) (ByteArray.size t - qO t off e) (qE t off e)
    (ByteArray.size t) (bsF t)))) (Tree.leaf (Ans.mk (AV.agg [AV.v (Value.int IntKind.i64 (0 : Int)), AV.v (Value.string (ByteArray.mk #[])), AV.v (Value.string (ByteArray.mk #[])), AV.v
    (Value.string (ByteArray.mk #[])), AV.v (Value.string (ByteArray.mk #[])), AV.v (Value.int IntKind.i64 (0 : Int)), AV.v (Value.int IntKind.i64 (0 : Int))]) [some (Blk.row [AV.hs (1 :
    Nat) (fO (ByteArray.size t) (qO t off e) (qE t off e) (80 : Int)) (ByteArray.size t - fO (ByteArray.size t) (qO t off e) (qE t off e) (80 : Int)), AV.v (Value.int IntKind.i64 (fE (qE t
    off e) (80 : Int)))]), some (Blk.arr (1 : Nat) (ByteArray.size t) (bsF t))]))))) := by kernel_rfl
theorem runRefTake (S : ByteArray) (e : Int) : bodyE (P := Tryd.prog) (Γ := Γm) [hQn, hQt, hFr, hTxR] Lno false 73 [.cell 2 40, .cell 3 55] (bodyOf Tryd.f40) [rdV S e] [] =
  Tree.chk (cl (ByteArray.size S ≤ (1000000000000 : Nat))) (Tree.br (bif !decide (qN S (0 : Nat) e = (1 : Int)) then !decide (qN S (0 : Nat) e = (2 : Int)) else false) (Tree.chk (cl True)
    (Tree.leaf (Ans.mk (AV.tup [AV.agg [AV.v (Value.int IntKind.i64 (0 : Int)), AV.v (Value.string (ByteArray.mk #[])), AV.v (Value.string (ByteArray.mk #[])), AV.v (Value.string
    (ByteArray.mk #[])), AV.v (Value.string (ByteArray.mk #[])), AV.v (Value.int IntKind.i64 (0 : Int)), AV.v (Value.int IntKind.i64 (0 : Int))], AV.agg [AV.v (Value.string (fS (sR S e) (qE
    S (0 : Nat) e) (80 : Int))), AV.v (Value.int IntKind.i64 (fE (qE S (0 : Nat) e) (80 : Int)))]]) []))) (Tree.chk (cl (ByteArray.size (sR S e) ≤ (1000000000000 : Nat))) (Tree.chk (cl
    (ByteArray.size (sR (sR S e) (qE S (0 : Nat) e)) ≤ (1000000000000 : Nat) ∧ okS (sR (sR S e) (qE S (0 : Nat) e)) (0 : Nat) (qE (sR S e) (0 : Nat) (qE S (0 : Nat) e)))) (Tree.br (decide
    (qN S (0 : Nat) e = (1 : Int))) (Tree.chk (cl (ByteArray.size (sX (sR (sR S e) (qE S (0 : Nat) e)) (qE (sR S e) (0 : Nat) (qE S (0 : Nat) e))) ≤ (1000000000000 : Nat) ∧ okS (sX (sR (sR S
    e) (qE S (0 : Nat) e)) (qE (sR S e) (0 : Nat) (qE S (0 : Nat) e))) (0 : Nat) (xE (sR (sR S e) (qE S (0 : Nat) e)) (0 : Nat) (qE (sR S e) (0 : Nat) (qE S (0 : Nat) e))))) (Tree.chk (cl
    (ByteArray.size (sX (sX (sR (sR S e) (qE S (0 : Nat) e)) (qE (sR S e) (0 : Nat) (qE S (0 : Nat) e))) (xE (sR (sR S e) (qE S (0 : Nat) e)) (0 : Nat) (qE (sR S e) (0 : Nat) (qE S (0 : Nat)
    e)))) ≤ (1000000000000 : Nat))) (Tree.chk (bif !decide (qE (sX (sX (sR (sR S e) (qE S (0 : Nat) e)) (qE (sR S e) (0 : Nat) (qE S (0 : Nat) e))) (xE (sR (sR S e) (qE S (0 : Nat) e)) (0 :
    Nat) (qE (sR S e) (0 : Nat) (qE S (0 : Nat) e)))) (0 : Nat) (xE (sX (sR (sR S e) (qE S (0 : Nat) e)) (qE (sR S e) (0 : Nat) (qE S (0 : Nat) e))) (0 : Nat) (xE (sR (sR S e) (qE S (0 :
    Nat) e)) (0 : Nat) (qE (sR S e) (0 : Nat) (qE S (0 : Nat) e)))) = (0 : Int)) then true else cl (smallT (Tx.mk (qN S (0 : Nat) e) (xS (sR (sR S e) (qE S (0 : Nat) e)) (0 : Nat) (qE (sR S
    e) (0 : Nat) (qE S (0 : Nat) e))) (xS (sX (sR (sR S e) (qE S (0 : Nat) e)) (qE (sR S e) (0 : Nat) (qE S (0 : Nat) e))) (0 : Nat) (xE (sR (sR S e) (qE S (0 : Nat) e)) (0 : Nat) (qE (sR S
    e) (0 : Nat) (qE S (0 : Nat) e)))) (ByteArray.mk #[]) (ByteArray.mk #[]) (qN (sX (sX (sR (sR S e) (qE S (0 : Nat) e)) (qE (sR S e) (0 : Nat) (qE S (0 : Nat) e))) (xE (sR (sR S e) (qE S
    (0 : Nat) e)) (0 : Nat) (qE (sR S e) (0 : Nat) (qE S (0 : Nat) e)))) (0 : Nat) (xE (sX (sR (sR S e) (qE S (0 : Nat) e)) (qE (sR S e) (0 : Nat) (qE S (0 : Nat) e))) (0 : Nat) (xE (sR (sR
    S e) (qE S (0 : Nat) e)) (0 : Nat) (qE (sR S e) (0 : Nat) (qE S (0 : Nat) e))))) (qN (sR S e) (0 : Nat) (qE S (0 : Nat) e))))) (Tree.br (bif !decide (qE (sX (sX (sR (sR S e) (qE S (0 :
    Nat) e)) (qE (sR S e) (0 : Nat) (qE S (0 : Nat) e))) (xE (sR (sR S e) (qE S (0 : Nat) e)) (0 : Nat) (qE (sR S e) (0 : Nat) (qE S (0 : Nat) e)))) (0 : Nat) (xE (sX (sR (sR S e) (qE S (0 :
    Nat) e)) (qE (sR S e) (0 : Nat) (qE S (0 : Nat) e))) (0 : Nat) (xE (sR (sR S e) (qE S (0 : Nat) e)) (0 : Nat) (qE (sR S e) (0 : Nat) (qE S (0 : Nat) e)))) = (0 : Int)) then true else
    !txB (Tx.mk (qN S (0 : Nat) e) (xS (sR (sR S e) (qE S (0 : Nat) e)) (0 : Nat) (qE (sR S e) (0 : Nat) (qE S (0 : Nat) e))) (xS (sX (sR (sR S e) (qE S (0 : Nat) e)) (qE (sR S e) (0 : Nat)
    (qE S (0 : Nat) e))) (0 : Nat) (xE (sR (sR S e) (qE S (0 : Nat) e)) (0 : Nat) (qE (sR S e) (0 : Nat) (qE S (0 : Nat) e)))) (ByteArray.mk #[]) (ByteArray.mk #[]) (qN (sX (sX (sR (sR S e)
    (qE S (0 : Nat) e)) (qE (sR S e) (0 : Nat) (qE S (0 : Nat) e))) (xE (sR (sR S e) (qE S (0 : Nat) e)) (0 : Nat) (qE (sR S e) (0 : Nat) (qE S (0 : Nat) e)))) (0 : Nat) (xE (sX (sR (sR S e)
    (qE S (0 : Nat) e)) (qE (sR S e) (0 : Nat) (qE S (0 : Nat) e))) (0 : Nat) (xE (sR (sR S e) (qE S (0 : Nat) e)) (0 : Nat) (qE (sR S e) (0 : Nat) (qE S (0 : Nat) e))))) (qN (sR S e) (0 :
    Nat) (qE S (0 : Nat) e)))) (Tree.chk (cl True) (Tree.leaf (Ans.mk (AV.tup [AV.agg [AV.v (Value.int IntKind.i64 (0 : Int)), AV.v (Value.string (ByteArray.mk #[])), AV.v (Value.string
    (ByteArray.mk #[])), AV.v (Value.string (ByteArray.mk #[])), AV.v (Value.string (ByteArray.mk #[])), AV.v (Value.int IntKind.i64 (0 : Int)), AV.v (Value.int IntKind.i64 (0 : Int))],
    AV.agg [AV.v (Value.string (fS (sR (sX (sX (sR (sR S e) (qE S (0 : Nat) e)) (qE (sR S e) (0 : Nat) (qE S (0 : Nat) e))) (xE (sR (sR S e) (qE S (0 : Nat) e)) (0 : Nat) (qE (sR S e) (0 :
    Nat) (qE S (0 : Nat) e)))) (xE (sX (sR (sR S e) (qE S (0 : Nat) e)) (qE (sR S e) (0 : Nat) (qE S (0 : Nat) e))) (0 : Nat) (xE (sR (sR S e) (qE S (0 : Nat) e)) (0 : Nat) (qE (sR S e) (0 :
    Nat) (qE S (0 : Nat) e))))) (qE (sX (sX (sR (sR S e) (qE S (0 : Nat) e)) (qE (sR S e) (0 : Nat) (qE S (0 : Nat) e))) (xE (sR (sR S e) (qE S (0 : Nat) e)) (0 : Nat) (qE (sR S e) (0 : Nat)
    (qE S (0 : Nat) e)))) (0 : Nat) (xE (sX (sR (sR S e) (qE S (0 : Nat) e)) (qE (sR S e) (0 : Nat) (qE S (0 : Nat) e))) (0 : Nat) (xE (sR (sR S e) (qE S (0 : Nat) e)) (0 : Nat) (qE (sR S e)
    (0 : Nat) (qE S (0 : Nat) e))))) (80 : Int))), AV.v (Value.int IntKind.i64 (fE (qE (sX (sX (sR (sR S e) (qE S (0 : Nat) e)) (qE (sR S e) (0 : Nat) (qE S (0 : Nat) e))) (xE (sR (sR S e)
    (qE S (0 : Nat) e)) (0 : Nat) (qE (sR S e) (0 : Nat) (qE S (0 : Nat) e)))) (0 : Nat) (xE (sX (sR (sR S e) (qE S (0 : Nat) e)) (qE (sR S e) (0 : Nat) (qE S (0 : Nat) e))) (0 : Nat) (xE
    (sR (sR S e) (qE S (0 : Nat) e)) (0 : Nat) (qE (sR S e) (0 : Nat) (qE S (0 : Nat) e))))) (80 : Int)))]]) []))) (Tree.leaf (Ans.mk (AV.tup [AV.agg [AV.v (Value.int IntKind.i64 (qN S (0 :
    Nat) e)), AV.v (Value.string (xS (sR (sR S e) (qE S (0 : Nat) e)) (0 : Nat) (qE (sR S e) (0 : Nat) (qE S (0 : Nat) e)))), AV.v (Value.string (xS (sX (sR (sR S e) (qE S (0 : Nat) e)) (qE
    (sR S e) (0 : Nat) (qE S (0 : Nat) e))) (0 : Nat) (xE (sR (sR S e) (qE S (0 : Nat) e)) (0 : Nat) (qE (sR S e) (0 : Nat) (qE S (0 : Nat) e))))), AV.v (Value.string (ByteArray.mk #[])),
    AV.v (Value.string (ByteArray.mk #[])), AV.v (Value.int IntKind.i64 (qN (sX (sX (sR (sR S e) (qE S (0 : Nat) e)) (qE (sR S e) (0 : Nat) (qE S (0 : Nat) e))) (xE (sR (sR S e) (qE S (0 :
    Nat) e)) (0 : Nat) (qE (sR S e) (0 : Nat) (qE S (0 : Nat) e)))) (0 : Nat) (xE (sX (sR (sR S e) (qE S (0 : Nat) e)) (qE (sR S e) (0 : Nat) (qE S (0 : Nat) e))) (0 : Nat) (xE (sR (sR S e)
    (qE S (0 : Nat) e)) (0 : Nat) (qE (sR S e) (0 : Nat) (qE S (0 : Nat) e)))))), AV.v (Value.int IntKind.i64 (qN (sR S e) (0 : Nat) (qE S (0 : Nat) e)))], AV.agg [AV.v (Value.string (sR (sX
    (sX (sR (sR S e) (qE S (0 : Nat) e)) (qE (sR S e) (0 : Nat) (qE S (0 : Nat) e))) (xE (sR (sR S e) (qE S (0 : Nat) e)) (0 : Nat) (qE (sR S e) (0 : Nat) (qE S (0 : Nat) e)))) (xE (sX (sR
    (sR S e) (qE S (0 : Nat) e)) (qE (sR S e) (0 : Nat) (qE S (0 : Nat) e))) (0 : Nat) (xE (sR (sR S e) (qE S (0 : Nat) e)) (0 : Nat) (qE (sR S e) (0 : Nat) (qE S (0 : Nat) e)))))), AV.v
    (Value.int IntKind.i64 (qE (sX (sX (sR (sR S e) (qE S (0 : Nat) e)) (qE (sR S e) (0 : Nat) (qE S (0 : Nat) e))) (xE (sR (sR S e) (qE S (0 : Nat) e)) (0 : Nat) (qE (sR S e) (0 : Nat) (qE
    S (0 : Nat) e)))) (0 : Nat) (xE (sX (sR (sR S e) (qE S (0 : Nat) e)) (qE (sR S e) (0 : Nat) (qE S (0 : Nat) e))) (0 : Nat) (xE (sR (sR S e) (qE S (0 : Nat) e)) (0 : Nat) (qE (sR S e) (0
    : Nat) (qE S (0 : Nat) e))))))]]) [])))))) (Tree.chk (cl (ByteArray.size (sX (sR (sR S e) (qE S (0 : Nat) e)) (qE (sR S e) (0 : Nat) (qE S (0 : Nat) e))) ≤ (1000000000000 : Nat) ∧ okS
    (sX (sR (sR S e) (qE S (0 : Nat) e)) (qE (sR S e) (0 : Nat) (qE S (0 : Nat) e))) (0 : Nat) (xE (sR (sR S e) (qE S (0 : Nat) e)) (0 : Nat) (qE (sR S e) (0 : Nat) (qE S (0 : Nat) e)))))
    (Tree.chk (cl (ByteArray.size (sX (sX (sR (sR S e) (qE S (0 : Nat) e)) (qE (sR S e) (0 : Nat) (qE S (0 : Nat) e))) (xE (sR (sR S e) (qE S (0 : Nat) e)) (0 : Nat) (qE (sR S e) (0 : Nat)
    (qE S (0 : Nat) e)))) ≤ (1000000000000 : Nat) ∧ okS (sX (sX (sR (sR S e) (qE S (0 : Nat) e)) (qE (sR S e) (0 : Nat) (qE S (0 : Nat) e))) (xE (sR (sR S e) (qE S (0 : Nat) e)) (0 : Nat)
    (qE (sR S e) (0 : Nat) (qE S (0 : Nat) e)))) (0 : Nat) (xE (sX (sR (sR S e) (qE S (0 : Nat) e)) (qE (sR S e) (0 : Nat) (qE S (0 : Nat) e))) (0 : Nat) (xE (sR (sR S e) (qE S (0 : Nat) e))
    (0 : Nat) (qE (sR S e) (0 : Nat) (qE S (0 : Nat) e)))))) (Tree.chk (bif !decide (xE (sX (sX (sR (sR S e) (qE S (0 : Nat) e)) (qE (sR S e) (0 : Nat) (qE S (0 : Nat) e))) (xE (sR (sR S e)
    (qE S (0 : Nat) e)) (0 : Nat) (qE (sR S e) (0 : Nat) (qE S (0 : Nat) e)))) (0 : Nat) (xE (sX (sR (sR S e) (qE S (0 : Nat) e)) (qE (sR S e) (0 : Nat) (qE S (0 : Nat) e))) (0 : Nat) (xE
    (sR (sR S e) (qE S (0 : Nat) e)) (0 : Nat) (qE (sR S e) (0 : Nat) (qE S (0 : Nat) e)))) = (0 : Int)) then true else cl (smallT (Tx.mk (qN S (0 : Nat) e) (xS (sR (sR S e) (qE S (0 : Nat)
    e)) (0 : Nat) (qE (sR S e) (0 : Nat) (qE S (0 : Nat) e))) (ByteArray.mk #[]) (xS (sX (sR (sR S e) (qE S (0 : Nat) e)) (qE (sR S e) (0 : Nat) (qE S (0 : Nat) e))) (0 : Nat) (xE (sR (sR S
    e) (qE S (0 : Nat) e)) (0 : Nat) (qE (sR S e) (0 : Nat) (qE S (0 : Nat) e)))) (xS (sX (sX (sR (sR S e) (qE S (0 : Nat) e)) (qE (sR S e) (0 : Nat) (qE S (0 : Nat) e))) (xE (sR (sR S e)
    (qE S (0 : Nat) e)) (0 : Nat) (qE (sR S e) (0 : Nat) (qE S (0 : Nat) e)))) (0 : Nat) (xE (sX (sR (sR S e) (qE S (0 : Nat) e)) (qE (sR S e) (0 : Nat) (qE S (0 : Nat) e))) (0 : Nat) (xE
    (sR (sR S e) (qE S (0 : Nat) e)) (0 : Nat) (qE (sR S e) (0 : Nat) (qE S (0 : Nat) e))))) (0 : Int) (qN (sR S e) (0 : Nat) (qE S (0 : Nat) e))))) (Tree.br (bif !decide (xE (sX (sX (sR (sR
    S e) (qE S (0 : Nat) e)) (qE (sR S e) (0 : Nat) (qE S (0 : Nat) e))) (xE (sR (sR S e) (qE S (0 : Nat) e)) (0 : Nat) (qE (sR S e) (0 : Nat) (qE S (0 : Nat) e)))) (0 : Nat) (xE (sX (sR (sR
    S e) (qE S (0 : Nat) e)) (qE (sR S e) (0 : Nat) (qE S (0 : Nat) e))) (0 : Nat) (xE (sR (sR S e) (qE S (0 : Nat) e)) (0 : Nat) (qE (sR S e) (0 : Nat) (qE S (0 : Nat) e)))) = (0 : Int))
    then true else !txB (Tx.mk (qN S (0 : Nat) e) (xS (sR (sR S e) (qE S (0 : Nat) e)) (0 : Nat) (qE (sR S e) (0 : Nat) (qE S (0 : Nat) e))) (ByteArray.mk #[]) (xS (sX (sR (sR S e) (qE S (0
    : Nat) e)) (qE (sR S e) (0 : Nat) (qE S (0 : Nat) e))) (0 : Nat) (xE (sR (sR S e) (qE S (0 : Nat) e)) (0 : Nat) (qE (sR S e) (0 : Nat) (qE S (0 : Nat) e)))) (xS (sX (sX (sR (sR S e) (qE
    S (0 : Nat) e)) (qE (sR S e) (0 : Nat) (qE S (0 : Nat) e))) (xE (sR (sR S e) (qE S (0 : Nat) e)) (0 : Nat) (qE (sR S e) (0 : Nat) (qE S (0 : Nat) e)))) (0 : Nat) (xE (sX (sR (sR S e) (qE
    S (0 : Nat) e)) (qE (sR S e) (0 : Nat) (qE S (0 : Nat) e))) (0 : Nat) (xE (sR (sR S e) (qE S (0 : Nat) e)) (0 : Nat) (qE (sR S e) (0 : Nat) (qE S (0 : Nat) e))))) (0 : Int) (qN (sR S e)
    (0 : Nat) (qE S (0 : Nat) e)))) (Tree.chk (cl True) (Tree.leaf (Ans.mk (AV.tup [AV.agg [AV.v (Value.int IntKind.i64 (0 : Int)), AV.v (Value.string (ByteArray.mk #[])), AV.v (Value.string
    (ByteArray.mk #[])), AV.v (Value.string (ByteArray.mk #[])), AV.v (Value.string (ByteArray.mk #[])), AV.v (Value.int IntKind.i64 (0 : Int)), AV.v (Value.int IntKind.i64 (0 : Int))],
    AV.agg [AV.v (Value.string (fS (sX (sX (sX (sR (sR S e) (qE S (0 : Nat) e)) (qE (sR S e) (0 : Nat) (qE S (0 : Nat) e))) (xE (sR (sR S e) (qE S (0 : Nat) e)) (0 : Nat) (qE (sR S e) (0 :
    Nat) (qE S (0 : Nat) e)))) (xE (sX (sR (sR S e) (qE S (0 : Nat) e)) (qE (sR S e) (0 : Nat) (qE S (0 : Nat) e))) (0 : Nat) (xE (sR (sR S e) (qE S (0 : Nat) e)) (0 : Nat) (qE (sR S e) (0 :
    Nat) (qE S (0 : Nat) e))))) (xE (sX (sX (sR (sR S e) (qE S (0 : Nat) e)) (qE (sR S e) (0 : Nat) (qE S (0 : Nat) e))) (xE (sR (sR S e) (qE S (0 : Nat) e)) (0 : Nat) (qE (sR S e) (0 : Nat)
    (qE S (0 : Nat) e)))) (0 : Nat) (xE (sX (sR (sR S e) (qE S (0 : Nat) e)) (qE (sR S e) (0 : Nat) (qE S (0 : Nat) e))) (0 : Nat) (xE (sR (sR S e) (qE S (0 : Nat) e)) (0 : Nat) (qE (sR S e)
    (0 : Nat) (qE S (0 : Nat) e))))) (80 : Int))), AV.v (Value.int IntKind.i64 (fE (xE (sX (sX (sR (sR S e) (qE S (0 : Nat) e)) (qE (sR S e) (0 : Nat) (qE S (0 : Nat) e))) (xE (sR (sR S e)
    (qE S (0 : Nat) e)) (0 : Nat) (qE (sR S e) (0 : Nat) (qE S (0 : Nat) e)))) (0 : Nat) (xE (sX (sR (sR S e) (qE S (0 : Nat) e)) (qE (sR S e) (0 : Nat) (qE S (0 : Nat) e))) (0 : Nat) (xE
    (sR (sR S e) (qE S (0 : Nat) e)) (0 : Nat) (qE (sR S e) (0 : Nat) (qE S (0 : Nat) e))))) (80 : Int)))]]) []))) (Tree.leaf (Ans.mk (AV.tup [AV.agg [AV.v (Value.int IntKind.i64 (qN S (0 :
    Nat) e)), AV.v (Value.string (xS (sR (sR S e) (qE S (0 : Nat) e)) (0 : Nat) (qE (sR S e) (0 : Nat) (qE S (0 : Nat) e)))), AV.v (Value.string (ByteArray.mk #[])), AV.v (Value.string (xS
    (sX (sR (sR S e) (qE S (0 : Nat) e)) (qE (sR S e) (0 : Nat) (qE S (0 : Nat) e))) (0 : Nat) (xE (sR (sR S e) (qE S (0 : Nat) e)) (0 : Nat) (qE (sR S e) (0 : Nat) (qE S (0 : Nat) e))))),
    AV.v (Value.string (xS (sX (sX (sR (sR S e) (qE S (0 : Nat) e)) (qE (sR S e) (0 : Nat) (qE S (0 : Nat) e))) (xE (sR (sR S e) (qE S (0 : Nat) e)) (0 : Nat) (qE (sR S e) (0 : Nat) (qE S (0
    : Nat) e)))) (0 : Nat) (xE (sX (sR (sR S e) (qE S (0 : Nat) e)) (qE (sR S e) (0 : Nat) (qE S (0 : Nat) e))) (0 : Nat) (xE (sR (sR S e) (qE S (0 : Nat) e)) (0 : Nat) (qE (sR S e) (0 :
    Nat) (qE S (0 : Nat) e)))))), AV.v (Value.int IntKind.i64 (0 : Int)), AV.v (Value.int IntKind.i64 (qN (sR S e) (0 : Nat) (qE S (0 : Nat) e)))], AV.agg [AV.v (Value.string (sX (sX (sX (sR
    (sR S e) (qE S (0 : Nat) e)) (qE (sR S e) (0 : Nat) (qE S (0 : Nat) e))) (xE (sR (sR S e) (qE S (0 : Nat) e)) (0 : Nat) (qE (sR S e) (0 : Nat) (qE S (0 : Nat) e)))) (xE (sX (sR (sR S e)
    (qE S (0 : Nat) e)) (qE (sR S e) (0 : Nat) (qE S (0 : Nat) e))) (0 : Nat) (xE (sR (sR S e) (qE S (0 : Nat) e)) (0 : Nat) (qE (sR S e) (0 : Nat) (qE S (0 : Nat) e)))))), AV.v (Value.int
    IntKind.i64 (xE (sX (sX (sR (sR S e) (qE S (0 : Nat) e)) (qE (sR S e) (0 : Nat) (qE S (0 : Nat) e))) (xE (sR (sR S e) (qE S (0 : Nat) e)) (0 : Nat) (qE (sR S e) (0 : Nat) (qE S (0 : Nat)
    e)))) (0 : Nat) (xE (sX (sR (sR S e) (qE S (0 : Nat) e)) (qE (sR S e) (0 : Nat) (qE S (0 : Nat) e))) (0 : Nat) (xE (sR (sR S e) (qE S (0 : Nat) e)) (0 : Nat) (qE (sR S e) (0 : Nat) (qE S
    (0 : Nat) e))))))]]) [])))))))))) := by kernel_rfl
end Go.Eng.TA.R

/- transactions: out of bytes: both take the same. -/
namespace Go.Eng.TA.R
open Go Go.Eng Go.Eng.M Go.Eng.RD Go.Lib Go.Proofs
set_option linter.unusedSimpArgs false
set_option linter.unusedVariables false
/-- a reader's state: nothing is left behind an error, which is none of those that are told of the rest -/
def okT (t : ByteArray) (off : Nat) (e : Int) : Prop := okS t off e ∧ ¬ e = 32
theorem q_okT {t : ByteArray} {off : Nat} {e : Int} (h : okT t off e) : okT t (qO t off e) (qE t off e) := by
  refine ⟨q_okS h.1, ?_⟩
  by_cases he : e = 0
  · subst he
    rcases classify t off (t.size - off) with ⟨k, hk⟩ | hc | ⟨k, hk⟩
    · rw [(q_good hk).2.2]; decide
    · rw [(q_cut hc).2.2]; decide
    · rw [(q_no hk).2.2]; decide
  · rw [qE_bad he]; exact h.2
theorem fE_32 {e x : Int} (h : ¬ e = 32) (hx : ¬ x = 32) : ¬ fE e x = 32 := by
  unfold fE
  by_cases hc : e = 0 ∧ ¬ x = 0
  · rw [if_pos hc]; exact hx
  · rw [if_neg hc]; exact h
theorem f_okT {t : ByteArray} {off : Nat} {e x : Int} (h : okT t off e) (hx : ¬ x = 0) (hx2 : ¬ x = 32) : okT t (fO t.size off e x) (fE e x) := ⟨fO_ok h.1 hx, fE_32 h.2 hx2⟩
theorem m_okT {t : ByteArray} {off : Nat} {e m : Int} (h : okT t off e) : okT t (mO t off e m) (mE t off e m) := by
  refine ⟨m_ok h.1, ?_⟩
  unfold mE
  by_cases hm : m < qN t off e
  · rw [if_pos hm]; exact fE_32 (q_okT h).2 (by decide)
  · rw [if_neg hm]; exact (q_okT h).2
theorem x_okT {t : ByteArray} {off : Nat} {e : Int} (h : okT t off e) : okT t (xO t off e) (xE t off e) := by
  refine ⟨x_ok h.1, ?_⟩
  have hm : okT t (oT t off e) (eT t off e) := m_okT h
  unfold xE
  by_cases hl : t.size - oT t off e < lT t off e
  · rw [if_pos hl]; exact fE_32 hm.2 (by decide)
  · rw [if_neg hl]; exact hm.2
theorem xS_small {t : ByteArray} {off : Nat} {e : Int} (h : okT t off e) : (xS t off e).size ≤ 10000000 := by
  have hl : lT t off e ≤ 65536 := by
    have := (m_range (t := t) (off := off) (e := e) (m := 65536) (by decide)).2
    unfold lT; omega
  have hm := (m_ok (m := 65536) h.1).1
  have hm : oT t off e ≤ t.size := hm
  unfold xS
  by_cases hc : t.size - oT t off e < lT t off e
  · rw [if_pos hc]; exact Nat.zero_le _
  · rw [if_neg hc, ext_size _ _ _ (by omega)]; omega
theorem rx_ok {t : ByteArray} {o : Nat} {e : Int} : RX.ok t (RX.mk o (t.size - o) e t.size (bsF t)) = True := eq_true ⟨rfl, rfl, rfl⟩
theorem d_eq {t : ByteArray} {o : Nat} {e : Int} (h : okT t o e) : (¬ dE t o e = 0 ∧ ¬ dE t o e = 32) ↔ ¬ e = 0 := by
  unfold dE
  by_cases hc : e = 0 ∧ o < t.size
  · rw [if_pos hc]; simp [hc.1]
  · rw [if_neg hc]
    have := h.2
    omega
def tz : Tx := ⟨0, ⟨#[]⟩, ⟨#[]⟩, ⟨#[]⟩, ⟨#[]⟩, 0, 0⟩
theorem take_both {t : ByteArray} (hz : t.size ≤ 1000000000000) {off : Nat} {e : Int} (hk : okT t off e) : ∃ (x : Tx) (o' : Nat) (e' : Int), okT t o' e' ∧
    Answers Tryd.prog Γm 39 [.ptr 0 0] (rdb t off e) (txV x) ((rdb t o' e').map some) [] ∧ Answers Tryd.prog Γm 40 [rdV (t.extract off t.size) e] [] (.tup [txV x, rdV (t.extract o' t.size) e']) [] [] := by
  have hzE : ∀ o, (t.extract o t.size).size ≤ 1000000000000 := fun o => by rw [size_ext]; omega
  have R1 := runTake t hz off e
  have R2 := runRefTake (t.extract off t.size) e
  simp only [rx_ok, true_and] at R1
  have hk1 := q_okT hk
  simp only [sR_ext hk.1.1, (q_ext (e := e) hk.1.1).1, (q_ext (e := e) hk.1.1).2.2] at R2
  generalize qN t off e = k at *
  generalize qO t off e = o1 at *
  generalize qE t off e = e1 at *
  have hk2 := q_okT hk1
  simp only [sR_ext hk1.1.1, (q_ext (e := e1) hk1.1.1).1, (q_ext (e := e1) hk1.1.1).2.2] at R2
  by_cases hk12 : k = 1 ∨ k = 2
  · generalize qN t o1 e1 = n at *
    generalize qO t o1 e1 = o2 at *
    generalize qE t o1 e1 = e2 at *
    have hk3 := x_okT hk2
    have s3 := xS_small hk2
    simp only [sX_ext hk2.1, (x_ext hk2.1).1, (x_ext hk2.1).2.2] at R2
    generalize xS t o2 e2 = fr at *
    generalize xO t o2 e2 = o3 at *
    generalize xE t o2 e2 = e3 at *
    have hk4 := x_okT hk3
    have s4 := xS_small hk3
    simp only [sX_ext hk3.1, (x_ext hk3.1).1, (x_ext hk3.1).2.2] at R2
    generalize xS t o3 e3 = a at *
    generalize xO t o3 e3 = o4 at *
    generalize xE t o3 e3 = e4 at *
    rcases hk12 with rfl | rfl
    · have hk5 := q_okT hk4
      simp only [sR_ext hk4.1.1, (q_ext (e := e4) hk4.1.1).1, (q_ext (e := e4) hk4.1.1).2.2] at R2
      generalize qN t o4 e4 = b at *
      generalize qO t o4 e4 = o5 at *
      generalize qE t o4 e4 = e5 at *
      have hs : smallT (Tx.mk 1 fr a ⟨#[]⟩ ⟨#[]⟩ b n) := ⟨s3, s4, Nat.zero_le _, Nat.zero_le _⟩
      have et : erT true = 0 := rfl
      have ef : erT false = 80 := rfl
      generalize hb : txB (Tx.mk 1 fr a ⟨#[]⟩ ⟨#[]⟩ b n) = bb at *
      have P1 : ∀ (x : Tx) (o' : Nat) (e' : Int), okT t o' e' → _ → _ → _ := fun x o' e' h1 h2 h3 => (⟨x, o', e', h1, h2, h3⟩ : ∃ (x : Tx) (o' : Nat) (e' : Int), okT t o' e' ∧
    Answers Tryd.prog Γm 39 [.ptr 0 0] (rdb t off e) (txV x) ((rdb t o' e').map some) [] ∧ Answers Tryd.prog Γm 40 [rdV (t.extract off t.size) e] [] (.tup [txV x, rdV (t.extract o' t.size) e']) [] [])
      by_cases he5 : e5 = 0
      · subst he5
        cases bb with
        | true =>
          refine P1 ⟨1, fr, a, ⟨#[]⟩, ⟨#[]⟩, b, n⟩ o5 0 hk5 ?_ ?_
          · refine answers (fn := Tryd.f39) (c := bodyOf Tryd.f39) (ntmps := 52) (results := [.cell 2 40]) [hRn t hz, hTt t hz, hFl t, hDn t, hTx] (Lno) false Tryd.func39 (by kernel_rfl) (by kernel_rfl) (by kernel_rfl) (by kernel_rfl) (by simp) rfl (failOK fun _ _ _ => rfl) <| Meets.of (R1) <| ?_
            have hd : ¬ (¬ dE t o5 0 = 0 ∧ ¬ dE t o5 0 = 32) := fun h => (d_eq hk5).1 h rfl
            repeat' (first | refine wC (by first | omega | (simp only [W1, cond_true, cond_false, hk2.1, hk3.1, hk4.1, hs, hb, et]; first | done | omega)) ?_ | refine wT (by first | omega | (simp only [W1, cond_true, cond_false, hk2.1, hk3.1, hk4.1, hs, hb, et]; first | done | omega)) ?_ | refine wF (by intro _h; first | omega | (simp only [W1, cond_true, cond_false, hk2.1, hk3.1, hk4.1, hs, hb, et] at _h; first | done | omega)) ?_ | (refine wS ?_ ?_ <;> intro _h <;> simp only [W1, cond_true, cond_false, hk2.1, hk3.1, hk4.1, hs, hb, et] at _h))
            all_goals simp only [W1, W2, owesN, owesX, owesR, cond_true, cond_false, hk2.1, hk3.1, hk4.1, hs, hb, et]
            repeat' (first | apply And.intro | intro _hc)
            all_goals first | exact AV.le_refl _ | exact AV.le_any _ | exact OLe.refl _ | exact OLe.none _ | exact LeH.refl _ | exact LeL.refl _ | exact AV.le.bs _ | exact AV.le.sb _ | omega | contradiction
          · refine answers (fn := Tryd.f40) (c := bodyOf Tryd.f40) (ntmps := 73) (results := [.cell 2 40, .cell 3 55]) [hQn, hQt, hFr, hTxR] (Lno) false Tryd.func40 (by kernel_rfl) (by kernel_rfl) (by kernel_rfl) (by kernel_rfl) (by simp) rfl (failOK fun _ _ _ => rfl) <| Meets.of (R2) <| ?_
            repeat' (first | refine wC (by first | omega | (simp only [W1, cond_true, cond_false, hzE, okS_ext hk2.1, okS_ext hk3.1, okS_ext hk4.1, hs, hb]; first | done | omega)) ?_ | refine wT (by first | omega | (simp only [W1, cond_true, cond_false, hzE, okS_ext hk2.1, okS_ext hk3.1, okS_ext hk4.1, hs, hb]; first | done | omega)) ?_ | refine wF (by intro _h; first | omega | (simp only [W1, cond_true, cond_false, hzE, okS_ext hk2.1, okS_ext hk3.1, okS_ext hk4.1, hs, hb] at _h; first | done | omega)) ?_ | (refine wS ?_ ?_ <;> intro _h <;> simp only [W1, cond_true, cond_false, hzE, okS_ext hk2.1, okS_ext hk3.1, okS_ext hk4.1, hs, hb] at _h))
            all_goals simp only [W1, W2, owesN, owesX, owesR, cond_true, cond_false, hzE, okS_ext hk2.1, okS_ext hk3.1, okS_ext hk4.1, hs, hb]
            repeat' (first | apply And.intro | intro _hc)
            all_goals first | exact AV.le_refl _ | exact AV.le_any _ | exact OLe.refl _ | exact OLe.none _ | exact LeH.refl _ | exact LeL.refl _ | exact AV.le.bs _ | exact AV.le.sb _ | omega | contradiction
        | false =>
          have f1 : fO t.size o5 0 80 = t.size := rfl
          have f2 : fE 0 80 = 80 := rfl
          have f3 : ∀ S, fS S 0 80 = ⟨#[]⟩ := fun S => rfl
          refine P1 tz t.size 80 ⟨⟨Nat.le_refl _, .inr rfl⟩, by decide⟩ ?_ ?_
          · refine answers (fn := Tryd.f39) (c := bodyOf Tryd.f39) (ntmps := 52) (results := [.cell 2 40]) [hRn t hz, hTt t hz, hFl t, hDn t, hTx] (Lno) false Tryd.func39 (by kernel_rfl) (by kernel_rfl) (by kernel_rfl) (by kernel_rfl) (by simp) rfl (failOK fun _ _ _ => rfl) <| Meets.of (R1) <| ?_
            have hd := (d_eq (t := t) (o := t.size) (e := 80) ⟨⟨Nat.le_refl _, .inr rfl⟩, by decide⟩).2 (by decide)
            repeat' (first | refine wC (by first | omega | (simp only [W1, cond_true, cond_false, hk2.1, hk3.1, hk4.1, hs, hb, ef, f1, f2]; first | done | omega)) ?_ | refine wT (by first | omega | (simp only [W1, cond_true, cond_false, hk2.1, hk3.1, hk4.1, hs, hb, ef, f1, f2]; first | done | omega)) ?_ | refine wF (by intro _h; first | omega | (simp only [W1, cond_true, cond_false, hk2.1, hk3.1, hk4.1, hs, hb, ef, f1, f2] at _h; first | done | omega)) ?_ | (refine wS ?_ ?_ <;> intro _h <;> simp only [W1, cond_true, cond_false, hk2.1, hk3.1, hk4.1, hs, hb, ef, f1, f2] at _h))
            all_goals simp only [W1, W2, owesN, owesX, owesR, cond_true, cond_false, hk2.1, hk3.1, hk4.1, hs, hb, ef, f1, f2]
            repeat' (first | apply And.intro | intro _hc)
            all_goals first | exact AV.le_refl _ | exact AV.le_any _ | exact OLe.refl _ | exact OLe.none _ | exact LeH.refl _ | exact LeL.refl _ | exact AV.le.bs _ | exact AV.le.sb _ | omega | contradiction
          · refine answers (fn := Tryd.f40) (c := bodyOf Tryd.f40) (ntmps := 73) (results := [.cell 2 40, .cell 3 55]) [hQn, hQt, hFr, hTxR] (Lno) false Tryd.func40 (by kernel_rfl) (by kernel_rfl) (by kernel_rfl) (by kernel_rfl) (by simp) rfl (failOK fun _ _ _ => rfl) <| Meets.of (R2) <| ?_
            simp only [ext_none]
            repeat' (first | refine wC (by first | omega | (simp only [W1, cond_true, cond_false, hzE, okS_ext hk2.1, okS_ext hk3.1, okS_ext hk4.1, hs, hb, f3, f2]; first | done | omega)) ?_ | refine wT (by first | omega | (simp only [W1, cond_true, cond_false, hzE, okS_ext hk2.1, okS_ext hk3.1, okS_ext hk4.1, hs, hb, f3, f2]; first | done | omega)) ?_ | refine wF (by intro _h; first | omega | (simp only [W1, cond_true, cond_false, hzE, okS_ext hk2.1, okS_ext hk3.1, okS_ext hk4.1, hs, hb, f3, f2] at _h; first | done | omega)) ?_ | (refine wS ?_ ?_ <;> intro _h <;> simp only [W1, cond_true, cond_false, hzE, okS_ext hk2.1, okS_ext hk3.1, okS_ext hk4.1, hs, hb, f3, f2] at _h))
            all_goals simp only [W1, W2, owesN, owesX, owesR, cond_true, cond_false, hzE, okS_ext hk2.1, okS_ext hk3.1, okS_ext hk4.1, hs, hb, f3, f2]
            repeat' (first | apply And.intro | intro _hc)
            all_goals first | exact AV.le_refl _ | exact AV.le_any _ | exact OLe.refl _ | exact OLe.none _ | exact LeH.refl _ | exact LeL.refl _ | exact AV.le.bs _ | exact AV.le.sb _ | omega | contradiction
      · have f1 : fO t.size o5 e5 80 = o5 := if_neg fun h => he5 h.1
        have f2 : fE e5 80 = e5 := if_neg fun h => he5 h.1
        have f3 : ∀ S, fS S e5 80 = S := fun S => if_neg fun h => he5 h.1
        have hd := (d_eq hk5).2 he5
        refine P1 tz o5 e5 hk5 ?_ ?_
        · refine answers (fn := Tryd.f39) (c := bodyOf Tryd.f39) (ntmps := 52) (results := [.cell 2 40]) [hRn t hz, hTt t hz, hFl t, hDn t, hTx] (Lno) false Tryd.func39 (by kernel_rfl) (by kernel_rfl) (by kernel_rfl) (by kernel_rfl) (by simp) rfl (failOK fun _ _ _ => rfl) <| Meets.of (R1) <| ?_
          cases bb with
          | true =>
            repeat' (first | refine wC (by first | omega | (simp only [W1, cond_true, cond_false, hk2.1, hk3.1, hk4.1, hs, hb, et, f1, f2]; first | done | omega)) ?_ | refine wT (by first | omega | (simp only [W1, cond_true, cond_false, hk2.1, hk3.1, hk4.1, hs, hb, et, f1, f2]; first | done | omega)) ?_ | refine wF (by intro _h; first | omega | (simp only [W1, cond_true, cond_false, hk2.1, hk3.1, hk4.1, hs, hb, et, f1, f2] at _h; first | done | omega)) ?_ | (refine wS ?_ ?_ <;> intro _h <;> simp only [W1, cond_true, cond_false, hk2.1, hk3.1, hk4.1, hs, hb, et, f1, f2] at _h))
            all_goals simp only [W1, W2, owesN, owesX, owesR, cond_true, cond_false, hk2.1, hk3.1, hk4.1, hs, hb, et, f1, f2]
            repeat' (first | apply And.intro | intro _hc)
            all_goals first | exact AV.le_refl _ | exact AV.le_any _ | exact OLe.refl _ | exact OLe.none _ | exact LeH.refl _ | exact LeL.refl _ | exact AV.le.bs _ | exact AV.le.sb _ | omega | contradiction
          | false =>
            repeat' (first | refine wC (by first | omega | (simp only [W1, cond_true, cond_false, hk2.1, hk3.1, hk4.1, hs, hb, ef, f1, f2]; first | done | omega)) ?_ | refine wT (by first | omega | (simp only [W1, cond_true, cond_false, hk2.1, hk3.1, hk4.1, hs, hb, ef, f1, f2]; first | done | omega)) ?_ | refine wF (by intro _h; first | omega | (simp only [W1, cond_true, cond_false, hk2.1, hk3.1, hk4.1, hs, hb, ef, f1, f2] at _h; first | done | omega)) ?_ | (refine wS ?_ ?_ <;> intro _h <;> simp only [W1, cond_true, cond_false, hk2.1, hk3.1, hk4.1, hs, hb, ef, f1, f2] at _h))
            all_goals simp only [W1, W2, owesN, owesX, owesR, cond_true, cond_false, hk2.1, hk3.1, hk4.1, hs, hb, ef, f1, f2]
            repeat' (first | apply And.intro | intro _hc)
            all_goals first | exact AV.le_refl _ | exact AV.le_any _ | exact OLe.refl _ | exact OLe.none _ | exact LeH.refl _ | exact LeL.refl _ | exact AV.le.bs _ | exact AV.le.sb _ | omega | contradiction
        · refine answers (fn := Tryd.f40) (c := bodyOf Tryd.f40) (ntmps := 73) (results := [.cell 2 40, .cell 3 55]) [hQn, hQt, hFr, hTxR] (Lno) false Tryd.func40 (by kernel_rfl) (by kernel_rfl) (by kernel_rfl) (by kernel_rfl) (by simp) rfl (failOK fun _ _ _ => rfl) <| Meets.of (R2) <| ?_
          cases bb with
          | true =>
            repeat' (first | refine wC (by first | omega | (simp only [W1, cond_true, cond_false, hzE, okS_ext hk2.1, okS_ext hk3.1, okS_ext hk4.1, hs, hb, f3, f2]; first | done | omega)) ?_ | refine wT (by first | omega | (simp only [W1, cond_true, cond_false, hzE, okS_ext hk2.1, okS_ext hk3.1, okS_ext hk4.1, hs, hb, f3, f2]; first | done | omega)) ?_ | refine wF (by intro _h; first | omega | (simp only [W1, cond_true, cond_false, hzE, okS_ext hk2.1, okS_ext hk3.1, okS_ext hk4.1, hs, hb, f3, f2] at _h; first | done | omega)) ?_ | (refine wS ?_ ?_ <;> intro _h <;> simp only [W1, cond_true, cond_false, hzE, okS_ext hk2.1, okS_ext hk3.1, okS_ext hk4.1, hs, hb, f3, f2] at _h))
            all_goals simp only [W1, W2, owesN, owesX, owesR, cond_true, cond_false, hzE, okS_ext hk2.1, okS_ext hk3.1, okS_ext hk4.1, hs, hb, f3, f2]
            repeat' (first | apply And.intro | intro _hc)
            all_goals first | exact AV.le_refl _ | exact AV.le_any _ | exact OLe.refl _ | exact OLe.none _ | exact LeH.refl _ | exact LeL.refl _ | exact AV.le.bs _ | exact AV.le.sb _ | omega | contradiction
          | false =>
            repeat' (first | refine wC (by first | omega | (simp only [W1, cond_true, cond_false, hzE, okS_ext hk2.1, okS_ext hk3.1, okS_ext hk4.1, hs, hb, f3, f2]; first | done | omega)) ?_ | refine wT (by first | omega | (simp only [W1, cond_true, cond_false, hzE, okS_ext hk2.1, okS_ext hk3.1, okS_ext hk4.1, hs, hb, f3, f2]; first | done | omega)) ?_ | refine wF (by intro _h; first | omega | (simp only [W1, cond_true, cond_false, hzE, okS_ext hk2.1, okS_ext hk3.1, okS_ext hk4.1, hs, hb, f3, f2] at _h; first | done | omega)) ?_ | (refine wS ?_ ?_ <;> intro _h <;> simp only [W1, cond_true, cond_false, hzE, okS_ext hk2.1, okS_ext hk3.1, okS_ext hk4.1, hs, hb, f3, f2] at _h))
            all_goals simp only [W1, W2, owesN, owesX, owesR, cond_true, cond_false, hzE, okS_ext hk2.1, okS_ext hk3.1, okS_ext hk4.1, hs, hb, f3, f2]
            repeat' (first | apply And.intro | intro _hc)
            all_goals first | exact AV.le_refl _ | exact AV.le_any _ | exact OLe.refl _ | exact OLe.none _ | exact LeH.refl _ | exact LeL.refl _ | exact AV.le.bs _ | exact AV.le.sb _ | omega | contradiction
    · have hk5 := x_okT hk4
      have s5 := xS_small hk4
      simp only [sX_ext hk4.1, (x_ext hk4.1).1, (x_ext hk4.1).2.2] at R2
      generalize xS t o4 e4 = b at *
      generalize xO t o4 e4 = o5 at *
      generalize xE t o4 e4 = e5 at *
      have hs : smallT (Tx.mk 2 fr ⟨#[]⟩ a b 0 n) := ⟨s3, Nat.zero_le _, s4, s5⟩
      have et : erT true = 0 := rfl
      have ef : erT false = 80 := rfl
      generalize hb : txB (Tx.mk 2 fr ⟨#[]⟩ a b 0 n) = bb at *
      have P1 : ∀ (x : Tx) (o' : Nat) (e' : Int), okT t o' e' → _ → _ → _ := fun x o' e' h1 h2 h3 => (⟨x, o', e', h1, h2, h3⟩ : ∃ (x : Tx) (o' : Nat) (e' : Int), okT t o' e' ∧
    Answers Tryd.prog Γm 39 [.ptr 0 0] (rdb t off e) (txV x) ((rdb t o' e').map some) [] ∧ Answers Tryd.prog Γm 40 [rdV (t.extract off t.size) e] [] (.tup [txV x, rdV (t.extract o' t.size) e']) [] [])
      by_cases he5 : e5 = 0
      · subst he5
        cases bb with
        | true =>
          refine P1 ⟨2, fr, ⟨#[]⟩, a, b, 0, n⟩ o5 0 hk5 ?_ ?_
          · refine answers (fn := Tryd.f39) (c := bodyOf Tryd.f39) (ntmps := 52) (results := [.cell 2 40]) [hRn t hz, hTt t hz, hFl t, hDn t, hTx] (Lno) false Tryd.func39 (by kernel_rfl) (by kernel_rfl) (by kernel_rfl) (by kernel_rfl) (by simp) rfl (failOK fun _ _ _ => rfl) <| Meets.of (R1) <| ?_
            have hd : ¬ (¬ dE t o5 0 = 0 ∧ ¬ dE t o5 0 = 32) := fun h => (d_eq hk5).1 h rfl
            repeat' (first | refine wC (by first | omega | (simp only [W1, cond_true, cond_false, hk2.1, hk3.1, hk4.1, hs, hb, et]; first | done | omega)) ?_ | refine wT (by first | omega | (simp only [W1, cond_true, cond_false, hk2.1, hk3.1, hk4.1, hs, hb, et]; first | done | omega)) ?_ | refine wF (by intro _h; first | omega | (simp only [W1, cond_true, cond_false, hk2.1, hk3.1, hk4.1, hs, hb, et] at _h; first | done | omega)) ?_ | (refine wS ?_ ?_ <;> intro _h <;> simp only [W1, cond_true, cond_false, hk2.1, hk3.1, hk4.1, hs, hb, et] at _h))
            all_goals simp only [W1, W2, owesN, owesX, owesR, cond_true, cond_false, hk2.1, hk3.1, hk4.1, hs, hb, et]
            repeat' (first | apply And.intro | intro _hc)
            all_goals first | exact AV.le_refl _ | exact AV.le_any _ | exact OLe.refl _ | exact OLe.none _ | exact LeH.refl _ | exact LeL.refl _ | exact AV.le.bs _ | exact AV.le.sb _ | omega | contradiction
          · refine answers (fn := Tryd.f40) (c := bodyOf Tryd.f40) (ntmps := 73) (results := [.cell 2 40, .cell 3 55]) [hQn, hQt, hFr, hTxR] (Lno) false Tryd.func40 (by kernel_rfl) (by kernel_rfl) (by kernel_rfl) (by kernel_rfl) (by simp) rfl (failOK fun _ _ _ => rfl) <| Meets.of (R2) <| ?_
            repeat' (first | refine wC (by first | omega | (simp only [W1, cond_true, cond_false, hzE, okS_ext hk2.1, okS_ext hk3.1, okS_ext hk4.1, hs, hb]; first | done | omega)) ?_ | refine wT (by first | omega | (simp only [W1, cond_true, cond_false, hzE, okS_ext hk2.1, okS_ext hk3.1, okS_ext hk4.1, hs, hb]; first | done | omega)) ?_ | refine wF (by intro _h; first | omega | (simp only [W1, cond_true, cond_false, hzE, okS_ext hk2.1, okS_ext hk3.1, okS_ext hk4.1, hs, hb] at _h; first | done | omega)) ?_ | (refine wS ?_ ?_ <;> intro _h <;> simp only [W1, cond_true, cond_false, hzE, okS_ext hk2.1, okS_ext hk3.1, okS_ext hk4.1, hs, hb] at _h))
            all_goals simp only [W1, W2, owesN, owesX, owesR, cond_true, cond_false, hzE, okS_ext hk2.1, okS_ext hk3.1, okS_ext hk4.1, hs, hb]
            repeat' (first | apply And.intro | intro _hc)
            all_goals first | exact AV.le_refl _ | exact AV.le_any _ | exact OLe.refl _ | exact OLe.none _ | exact LeH.refl _ | exact LeL.refl _ | exact AV.le.bs _ | exact AV.le.sb _ | omega | contradiction
        | false =>
          have f1 : fO t.size o5 0 80 = t.size := rfl
          have f2 : fE 0 80 = 80 := rfl
          have f3 : ∀ S, fS S 0 80 = ⟨#[]⟩ := fun S => rfl
          refine P1 tz t.size 80 ⟨⟨Nat.le_refl _, .inr rfl⟩, by decide⟩ ?_ ?_
          · refine answers (fn := Tryd.f39) (c := bodyOf Tryd.f39) (ntmps := 52) (results := [.cell 2 40]) [hRn t hz, hTt t hz, hFl t, hDn t, hTx] (Lno) false Tryd.func39 (by kernel_rfl) (by kernel_rfl) (by kernel_rfl) (by kernel_rfl) (by simp) rfl (failOK fun _ _ _ => rfl) <| Meets.of (R1) <| ?_
            have hd := (d_eq (t := t) (o := t.size) (e := 80) ⟨⟨Nat.le_refl _, .inr rfl⟩, by decide⟩).2 (by decide)
            repeat' (first | refine wC (by first | omega | (simp only [W1, cond_true, cond_false, hk2.1, hk3.1, hk4.1, hs, hb, ef, f1, f2]; first | done | omega)) ?_ | refine wT (by first | omega | (simp only [W1, cond_true, cond_false, hk2.1, hk3.1, hk4.1, hs, hb, ef, f1, f2]; first | done | omega)) ?_ | refine wF (by intro _h; first | omega | (simp only [W1, cond_true, cond_false, hk2.1, hk3.1, hk4.1, hs, hb, ef, f1, f2] at _h; first | done | omega)) ?_ | (refine wS ?_ ?_ <;> intro _h <;> simp only [W1, cond_true, cond_false, hk2.1, hk3.1, hk4.1, hs, hb, ef, f1, f2] at _h))
            all_goals simp only [W1, W2, owesN, owesX, owesR, cond_true, cond_false, hk2.1, hk3.1, hk4.1, hs, hb, ef, f1, f2]
            repeat' (first | apply And.intro | intro _hc)
            all_goals first | exact AV.le_refl _ | exact AV.le_any _ | exact OLe.refl _ | exact OLe.none _ | exact LeH.refl _ | exact LeL.refl _ | exact AV.le.bs _ | exact AV.le.sb _ | omega | contradiction
          · refine answers (fn := Tryd.f40) (c := bodyOf Tryd.f40) (ntmps := 73) (results := [.cell 2 40, .cell 3 55]) [hQn, hQt, hFr, hTxR] (Lno) false Tryd.func40 (by kernel_rfl) (by kernel_rfl) (by kernel_rfl) (by kernel_rfl) (by simp) rfl (failOK fun _ _ _ => rfl) <| Meets.of (R2) <| ?_
            simp only [ext_none]
            repeat' (first | refine wC (by first | omega | (simp only [W1, cond_true, cond_false, hzE, okS_ext hk2.1, okS_ext hk3.1, okS_ext hk4.1, hs, hb, f3, f2]; first | done | omega)) ?_ | refine wT (by first | omega | (simp only [W1, cond_true, cond_false, hzE, okS_ext hk2.1, okS_ext hk3.1, okS_ext hk4.1, hs, hb, f3, f2]; first | done | omega)) ?_ | refine wF (by intro _h; first | omega | (simp only [W1, cond_true, cond_false, hzE, okS_ext hk2.1, okS_ext hk3.1, okS_ext hk4.1, hs, hb, f3, f2] at _h; first | done | omega)) ?_ | (refine wS ?_ ?_ <;> intro _h <;> simp only [W1, cond_true, cond_false, hzE, okS_ext hk2.1, okS_ext hk3.1, okS_ext hk4.1, hs, hb, f3, f2] at _h))
            all_goals simp only [W1, W2, owesN, owesX, owesR, cond_true, cond_false, hzE, okS_ext hk2.1, okS_ext hk3.1, okS_ext hk4.1, hs, hb, f3, f2]
            repeat' (first | apply And.intro | intro _hc)
            all_goals first | exact AV.le_refl _ | exact AV.le_any _ | exact OLe.refl _ | exact OLe.none _ | exact LeH.refl _ | exact LeL.refl _ | exact AV.le.bs _ | exact AV.le.sb _ | omega | contradiction
      · have f1 : fO t.size o5 e5 80 = o5 := if_neg fun h => he5 h.1
        have f2 : fE e5 80 = e5 := if_neg fun h => he5 h.1
        have f3 : ∀ S, fS S e5 80 = S := fun S => if_neg fun h => he5 h.1
        have hd := (d_eq hk5).2 he5
        refine P1 tz o5 e5 hk5 ?_ ?_
        · refine answers (fn := Tryd.f39) (c := bodyOf Tryd.f39) (ntmps := 52) (results := [.cell 2 40]) [hRn t hz, hTt t hz, hFl t, hDn t, hTx] (Lno) false Tryd.func39 (by kernel_rfl) (by kernel_rfl) (by kernel_rfl) (by kernel_rfl) (by simp) rfl (failOK fun _ _ _ => rfl) <| Meets.of (R1) <| ?_
          cases bb with
          | true =>
            repeat' (first | refine wC (by first | omega | (simp only [W1, cond_true, cond_false, hk2.1, hk3.1, hk4.1, hs, hb, et, f1, f2]; first | done | omega)) ?_ | refine wT (by first | omega | (simp only [W1, cond_true, cond_false, hk2.1, hk3.1, hk4.1, hs, hb, et, f1, f2]; first | done | omega)) ?_ | refine wF (by intro _h; first | omega | (simp only [W1, cond_true, cond_false, hk2.1, hk3.1, hk4.1, hs, hb, et, f1, f2] at _h; first | done | omega)) ?_ | (refine wS ?_ ?_ <;> intro _h <;> simp only [W1, cond_true, cond_false, hk2.1, hk3.1, hk4.1, hs, hb, et, f1, f2] at _h))
            all_goals simp only [W1, W2, owesN, owesX, owesR, cond_true, cond_false, hk2.1, hk3.1, hk4.1, hs, hb, et, f1, f2]
            repeat' (first | apply And.intro | intro _hc)
            all_goals first | exact AV.le_refl _ | exact AV.le_any _ | exact OLe.refl _ | exact OLe.none _ | exact LeH.refl _ | exact LeL.refl _ | exact AV.le.bs _ | exact AV.le.sb _ | omega | contradiction
          | false =>
            repeat' (first | refine wC (by first | omega | (simp only [W1, cond_true, cond_false, hk2.1, hk3.1, hk4.1, hs, hb, ef, f1, f2]; first | done | omega)) ?_ | refine wT (by first | omega | (simp only [W1, cond_true, cond_false, hk2.1, hk3.1, hk4.1, hs, hb, ef, f1, f2]; first | done | omega)) ?_ | refine wF (by intro _h; first | omega | (simp only [W1, cond_true, cond_false, hk2.1, hk3.1, hk4.1, hs, hb, ef, f1, f2] at _h; first | done | omega)) ?_ | (refine wS ?_ ?_ <;> intro _h <;> simp only [W1, cond_true, cond_false, hk2.1, hk3.1, hk4.1, hs, hb, ef, f1, f2] at _h))
            all_goals simp only [W1, W2, owesN, owesX, owesR, cond_true, cond_false, hk2.1, hk3.1, hk4.1, hs, hb, ef, f1, f2]
            repeat' (first | apply And.intro | intro _hc)
            all_goals first | exact AV.le_refl _ | exact AV.le_any _ | exact OLe.refl _ | exact OLe.none _ | exact LeH.refl _ | exact LeL.refl _ | exact AV.le.bs _ | exact AV.le.sb _ | omega | contradiction
        · refine answers (fn := Tryd.f40) (c := bodyOf Tryd.f40) (ntmps := 73) (results := [.cell 2 40, .cell 3 55]) [hQn, hQt, hFr, hTxR] (Lno) false Tryd.func40 (by kernel_rfl) (by kernel_rfl) (by kernel_rfl) (by kernel_rfl) (by simp) rfl (failOK fun _ _ _ => rfl) <| Meets.of (R2) <| ?_
          cases bb with
          | true =>
            repeat' (first | refine wC (by first | omega | (simp only [W1, cond_true, cond_false, hzE, okS_ext hk2.1, okS_ext hk3.1, okS_ext hk4.1, hs, hb, f3, f2]; first | done | omega)) ?_ | refine wT (by first | omega | (simp only [W1, cond_true, cond_false, hzE, okS_ext hk2.1, okS_ext hk3.1, okS_ext hk4.1, hs, hb, f3, f2]; first | done | omega)) ?_ | refine wF (by intro _h; first | omega | (simp only [W1, cond_true, cond_false, hzE, okS_ext hk2.1, okS_ext hk3.1, okS_ext hk4.1, hs, hb, f3, f2] at _h; first | done | omega)) ?_ | (refine wS ?_ ?_ <;> intro _h <;> simp only [W1, cond_true, cond_false, hzE, okS_ext hk2.1, okS_ext hk3.1, okS_ext hk4.1, hs, hb, f3, f2] at _h))
            all_goals simp only [W1, W2, owesN, owesX, owesR, cond_true, cond_false, hzE, okS_ext hk2.1, okS_ext hk3.1, okS_ext hk4.1, hs, hb, f3, f2]
            repeat' (first | apply And.intro | intro _hc)
            all_goals first | exact AV.le_refl _ | exact AV.le_any _ | exact OLe.refl _ | exact OLe.none _ | exact LeH.refl _ | exact LeL.refl _ | exact AV.le.bs _ | exact AV.le.sb _ | omega | contradiction
          | false =>
            repeat' (first | refine wC (by first | omega | (simp only [W1, cond_true, cond_false, hzE, okS_ext hk2.1, okS_ext hk3.1, okS_ext hk4.1, hs, hb, f3, f2]; first | done | omega)) ?_ | refine wT (by first | omega | (simp only [W1, cond_true, cond_false, hzE, okS_ext hk2.1, okS_ext hk3.1, okS_ext hk4.1, hs, hb, f3, f2]; first | done | omega)) ?_ | refine wF (by intro _h; first | omega | (simp only [W1, cond_true, cond_false, hzE, okS_ext hk2.1, okS_ext hk3.1, okS_ext hk4.1, hs, hb, f3, f2] at _h; first | done | omega)) ?_ | (refine wS ?_ ?_ <;> intro _h <;> simp only [W1, cond_true, cond_false, hzE, okS_ext hk2.1, okS_ext hk3.1, okS_ext hk4.1, hs, hb, f3, f2] at _h))
            all_goals simp only [W1, W2, owesN, owesX, owesR, cond_true, cond_false, hzE, okS_ext hk2.1, okS_ext hk3.1, okS_ext hk4.1, hs, hb, f3, f2]
            repeat' (first | apply And.intro | intro _hc)
            all_goals first | exact AV.le_refl _ | exact AV.le_any _ | exact OLe.refl _ | exact OLe.none _ | exact LeH.refl _ | exact LeL.refl _ | exact AV.le.bs _ | exact AV.le.sb _ | omega | contradiction
  · refine ⟨tz, fO t.size o1 e1 80, fE e1 80, f_okT hk1 (by decide) (by decide), ?_, ?_⟩
    · refine answers (fn := Tryd.f39) (c := bodyOf Tryd.f39) (ntmps := 52) (results := [.cell 2 40]) [hRn t hz, hTt t hz, hFl t, hDn t, hTx] (Lno) false Tryd.func39 (by kernel_rfl) (by kernel_rfl) (by kernel_rfl) (by kernel_rfl) (by simp) rfl (failOK fun _ _ _ => rfl) <| Meets.of (R1) <| ?_
      repeat' (first | refine wC (by first | omega | (simp only [W1, cond_true, cond_false]; first | done | omega)) ?_ | refine wT (by first | omega | (simp only [W1, cond_true, cond_false]; first | done | omega)) ?_ | refine wF (by intro _h; first | omega | (simp only [W1, cond_true, cond_false] at _h; first | done | omega)) ?_ | (refine wS ?_ ?_ <;> intro _h <;> simp only [W1, cond_true, cond_false] at _h))
      all_goals simp only [W1, W2, owesN, owesX, owesR, cond_true, cond_false]
      repeat' (first | apply And.intro | intro _hc)
      all_goals first | exact AV.le_refl _ | exact AV.le_any _ | exact OLe.refl _ | exact OLe.none _ | exact LeH.refl _ | exact LeL.refl _ | exact AV.le.bs _ | exact AV.le.sb _ | omega | contradiction
    · refine answers (fn := Tryd.f40) (c := bodyOf Tryd.f40) (ntmps := 73) (results := [.cell 2 40, .cell 3 55]) [hQn, hQt, hFr, hTxR] (Lno) false Tryd.func40 (by kernel_rfl) (by kernel_rfl) (by kernel_rfl) (by kernel_rfl) (by simp) rfl (failOK fun _ _ _ => rfl) <| Meets.of (R2) <| ?_
      simp only [fS_ext]
      repeat' (first | refine wC (by first | omega | (simp only [W1, cond_true, cond_false, hzE]; first | done | omega)) ?_ | refine wT (by first | omega | (simp only [W1, cond_true, cond_false, hzE]; first | done | omega)) ?_ | refine wF (by intro _h; first | omega | (simp only [W1, cond_true, cond_false, hzE] at _h; first | done | omega)) ?_ | (refine wS ?_ ?_ <;> intro _h <;> simp only [W1, cond_true, cond_false, hzE] at _h))
      all_goals simp only [W1, W2, owesN, owesX, owesR, cond_true, cond_false, hzE]
      repeat' (first | apply And.intro | intro _hc)
      all_goals first | exact AV.le_refl _ | exact AV.le_any _ | exact OLe.refl _ | exact OLe.none _ | exact LeH.refl _ | exact LeL.refl _ | exact AV.le.bs _ | exact AV.le.sb _ | omega | contradiction
end Go.Eng.TA.R

/- names: the chapter's example. -/
namespace Go.Eng.TA
open Go Go.Eng Go.Proofs
set_option linter.unusedSimpArgs false
set_option linter.unusedVariables false
/-- (hallmoot/name.span).has -/
noncomputable def z25 : CT Tryd.prog Γm := CT.auto true 100 3 [] 109 Tryd.f109 (bodyOf Tryd.f109) false 21 [.tmp 4] Tryd.func109 (by kernel_rfl) (by kernel_rfl) (by kernel_rfl) (by kernel_rfl)
/-- hallmoot/name.great -/
noncomputable def z26 : CT Tryd.prog Γm := CT.auto true 100 3 [z25] 112 Tryd.f112 (bodyOf Tryd.f112) false 16 [.tmp 2] Tryd.func112 (by kernel_rfl) (by kernel_rfl) (by kernel_rfl) (by kernel_rfl)
/-- hallmoot/name.Small -/
noncomputable def z12 : CT Tryd.prog Γm := CT.auto true 100 3 [z26] 77 Tryd.f77 (bodyOf Tryd.f77) false 8 [.tmp 2] Tryd.func77 (by kernel_rfl) (by kernel_rfl) (by kernel_rfl) (by kernel_rfl)
/-- hallmoot/name.Letter -/
noncomputable def z10 : CT Tryd.prog Γm := CT.auto true 100 3 [z25] 73 Tryd.f73 (bodyOf Tryd.f73) false 19 [.tmp 2] Tryd.func73 (by kernel_rfl) (by kernel_rfl) (by kernel_rfl) (by kernel_rfl)
/-- hallmoot/name.broken -/
noncomputable def z28 : CT Tryd.prog Γm := CT.auto true 100 3 [] 75 Tryd.f75 (bodyOf Tryd.f75) false 20 [.tmp 6] Tryd.func75 (by kernel_rfl) (by kernel_rfl) (by kernel_rfl) (by kernel_rfl)
/-- unicode/utf8.appendRuneNonASCII -/
noncomputable def z34 : CT Tryd.prog Γm := CT.auto true 100 3 [] 111 Tryd.f111 (bodyOf Tryd.f111) false 78 [.tmp 4] Tryd.func111 (by kernel_rfl) (by kernel_rfl) (by kernel_rfl) (by kernel_rfl)
/-- unicode/utf8.AppendRune -/
noncomputable def z29 : CT Tryd.prog Γm := CT.auto true 100 3 [z34] 76 Tryd.f76 (bodyOf Tryd.f76) false 16 [.tmp 4] Tryd.func76 (by kernel_rfl) (by kernel_rfl) (by kernel_rfl) (by kernel_rfl)
/-- hallmoot/name.Check -/
noncomputable def z17 : CT Tryd.prog Γm := CT.auto true 100 3 [z10] 20 Tryd.f20 (bodyOf Tryd.f20) false 41 [.tmp 2] Tryd.func20 (by kernel_rfl) (by kernel_rfl) (by kernel_rfl) (by kernel_rfl)
/-- hallmoot/name.Fold -/
noncomputable def z21 : CT Tryd.prog Γm := CT.auto true 100 3 [z28, z29, z12, z17] 24 Tryd.f24 (bodyOf Tryd.f24) false 30 [.tmp 2, .tmp 3] Tryd.func24 (by kernel_rfl) (by kernel_rfl) (by kernel_rfl) (by kernel_rfl)
/-- hallmoot/name.Cut -/
noncomputable def z14 : CT Tryd.prog Γm := CT.auto true 100 3 [] 17 Tryd.f17 (bodyOf Tryd.f17) false 25 [.tmp 4, .tmp 5] Tryd.func17 (by kernel_rfl) (by kernel_rfl) (by kernel_rfl) (by kernel_rfl)
theorem run8 : (bodyE (P := Tryd.prog) (Γ := Γm) [z21, z14, z17] (autoL true 100 [z21, z14, z17] false 0 35 (loopBodies (bodyOf Tryd.f15)) 3) false 35 [.tmp 0] (bodyOf Tryd.f15) [] []).get = some ⟨.sb true, []⟩ := by kernel_rfl
/-- the example holds -/
noncomputable def z8 : CT Tryd.prog Γm := CT.fact 15 Tryd.f15 (bodyOf Tryd.f15) [z21, z14, z17] (autoL true 100 [z21, z14, z17] false 0 35 (loopBodies (bodyOf Tryd.f15)) 3) false 35 [.tmp 0] Tryd.func15 (by kernel_rfl) (by kernel_rfl) (by kernel_rfl) (by kernel_rfl) (autoL_ok 3) (.sb true) (.sb true) run8
end Go.Eng.TA

/- the chapters' examples. -/
namespace Go.Eng.TA
open Go Go.Eng Go.Proofs
set_option linter.unusedSimpArgs false
set_option linter.unusedVariables false
/-- hallmoot/tx.words -/
noncomputable def z90x : CT Tryd.prog Γm := CT.auto true 100 3 [] 90 Tryd.f90 (bodyOf Tryd.f90) false 35 [.tmp 4, .tmp 5, .tmp 6] Tryd.func90 (by kernel_rfl) (by kernel_rfl) (by kernel_rfl) (by kernel_rfl)
/-- hallmoot/num.form -/
noncomputable def z113x : CT Tryd.prog Γm := CT.auto true 100 3 [] 113 Tryd.f113 (bodyOf Tryd.f113) false 54 [.tmp 2, .tmp 3, .tmp 4] Tryd.func113 (by kernel_rfl) (by kernel_rfl) (by kernel_rfl) (by kernel_rfl)
/-- hallmoot/num.Within -/
noncomputable def z85x : CT Tryd.prog Γm := CT.auto true 100 3 [] 85 Tryd.f85 (bodyOf Tryd.f85) false 15 [.tmp 6] Tryd.func85 (by kernel_rfl) (by kernel_rfl) (by kernel_rfl) (by kernel_rfl)
/-- hallmoot/num.Read -/
noncomputable def z91x : CT Tryd.prog Γm := CT.auto true 100 3 [z113x, z85x] 91 Tryd.f91 (bodyOf Tryd.f91) false 59 [.tmp 6, .tmp 7] Tryd.func91 (by kernel_rfl) (by kernel_rfl) (by kernel_rfl) (by kernel_rfl)
/-- unicode/utf8.decodeRuneInStringSlow -/
noncomputable def z120x : CT Tryd.prog Γm := CT.auto true 100 3 [] 120 Tryd.f120 (bodyOf Tryd.f120) false 117 [.tmp 2, .tmp 3] Tryd.func120 (by kernel_rfl) (by kernel_rfl) (by kernel_rfl) (by kernel_rfl)
/-- unicode/utf8.DecodeRuneInString -/
noncomputable def z110x : CT Tryd.prog Γm := CT.auto true 100 3 [z120x] 110 Tryd.f110 (bodyOf Tryd.f110) false 19 [.tmp 2, .tmp 3] Tryd.func110 (by kernel_rfl) (by kernel_rfl) (by kernel_rfl) (by kernel_rfl)
/-- hallmoot/name.Value -/
noncomputable def z22x : CT Tryd.prog Γm := CT.auto true 100 3 [z28] 22 Tryd.f22 (bodyOf Tryd.f22) false 28 [.tmp 2] Tryd.func22 (by kernel_rfl) (by kernel_rfl) (by kernel_rfl) (by kernel_rfl)
/-- hallmoot/tx.Check -/
noncomputable def z32x : CT Tryd.prog Γm := CT.auto true 100 3 [z17, z85x, z22x] 32 Tryd.f32 (bodyOf Tryd.f32) false 66 [.tmp 2] Tryd.func32 (by kernel_rfl) (by kernel_rfl) (by kernel_rfl) (by kernel_rfl)
/-- hallmoot/tx.Parse -/
noncomputable def z36x : CT Tryd.prog Γm := CT.auto true 100 3 [z90x, z91x, z32x] 36 Tryd.f36 (bodyOf Tryd.f36) false 112 [.cell 2 40, .tmp 3] Tryd.func36 (by kernel_rfl) (by kernel_rfl) (by kernel_rfl) (by kernel_rfl)
/-- hallmoot/num.Print -/
noncomputable def z84x : CT Tryd.prog Γm := CT.auto true 100 3 [] 84 Tryd.f84 (bodyOf Tryd.f84) false 35 [.tmp 2] Tryd.func84 (by kernel_rfl) (by kernel_rfl) (by kernel_rfl) (by kernel_rfl)
/-- hallmoot/tx.Print -/
noncomputable def z31x : CT Tryd.prog Γm := CT.auto true 100 3 [z32x, z84x] 31 Tryd.f31 (bodyOf Tryd.f31) false 42 [.tmp 2, .tmp 3] Tryd.func31 (by kernel_rfl) (by kernel_rfl) (by kernel_rfl) (by kernel_rfl)
/-- slices.Clone[[]byte,byte] -/
noncomputable def z94x : CT Tryd.prog Γm := CT.auto true 100 3 [] 94 Tryd.f94 (bodyOf Tryd.f94) false 8 [.tmp 2] Tryd.func94 (by kernel_rfl) (by kernel_rfl) (by kernel_rfl) (by kernel_rfl)
/-- hallmoot/wire.Num -/
noncomputable def z83x : CT Tryd.prog Γm := CT.auto true 100 3 [z94x] 83 Tryd.f83 (bodyOf Tryd.f83) false 30 [.tmp 4, .tmp 5] Tryd.func83 (by kernel_rfl) (by kernel_rfl) (by kernel_rfl) (by kernel_rfl)
/-- hallmoot/wire.Nums -/
noncomputable def z81x : CT Tryd.prog Γm := CT.auto true 100 3 [z83x] 81 Tryd.f81 (bodyOf Tryd.f81) false 25 [.tmp 2, .tmp 3] Tryd.func81 (by kernel_rfl) (by kernel_rfl) (by kernel_rfl) (by kernel_rfl)
/-- hallmoot/wire.Text -/
noncomputable def z82x : CT Tryd.prog Γm := CT.auto true 100 3 [z83x] 82 Tryd.f82 (bodyOf Tryd.f82) false 22 [.tmp 4, .tmp 5] Tryd.func82 (by kernel_rfl) (by kernel_rfl) (by kernel_rfl) (by kernel_rfl)
/-- hallmoot/tx.Bytes -/
noncomputable def z30x : CT Tryd.prog Γm := CT.auto true 100 3 [z32x, z81x, z82x, z83x] 30 Tryd.f30 (bodyOf Tryd.f30) false 57 [.tmp 2, .tmp 3] Tryd.func30 (by kernel_rfl) (by kernel_rfl) (by kernel_rfl) (by kernel_rfl)
theorem zrun28 : (bodyE (P := Tryd.prog) (Γ := Γm) [z36x, z31x, z30x] (autoL true 100 [z36x, z31x, z30x] false 0 40 (loopBodies (bodyOf Tryd.f28)) 3) false 40 [.tmp 0] (bodyOf Tryd.f28) [] []).get = some ⟨.sb true, []⟩ := by kernel_rfl
/-- hallmoot/hallmootlaw08.alive: it holds -/
noncomputable def z28' : CT Tryd.prog Γm := CT.fact 28 Tryd.f28 (bodyOf Tryd.f28) [z36x, z31x, z30x] (autoL true 100 [z36x, z31x, z30x] false 0 40 (loopBodies (bodyOf Tryd.f28)) 3) false 40 [.tmp 0] Tryd.func28 (by kernel_rfl) (by kernel_rfl) (by kernel_rfl) (by kernel_rfl) (autoL_ok 3) (.sb true) (.sb true) zrun28
end Go.Eng.TA

/- TxTakes: the law. -/
namespace Go.Eng.TA.R
open Go Go.Eng Go.Eng.M Go.Eng.RD Go.Lib Go.Proofs
set_option linter.unusedSimpArgs false
set_option linter.unusedVariables false
noncomputable def loopT : Code := loopOf (bodyOf Tryd.f9) 0
def rowV (t : ByteArray) (off : Nat) (e : Int) : Blk := .row [.v (.string (t.extract off t.size)), .v (.int .i64 e)]
def ST (t : ByteArray) (x : Nat × Nat × Int) : List AV × Heap := ([.ptr 0 0, .ptr 2 0, .v (.int .i64 (x.1 : Int))], (rdb t x.2.1 x.2.2).map some ++ [some (rowV t x.2.1 x.2.2)])
def OT : Out := ⟨.exit 0, [.any, .any, .any], [none, none, none]⟩
theorem roundT (t : ByteArray) (i off : Nat) (e : Int) (x : Tx) (o' : Nat) (e' : Int) (hA : Answers Tryd.prog Γm 39 [.ptr 0 0] (rdb t off e) (txV x) ((rdb t o' e').map some) []) (hB : Answers Tryd.prog Γm 40 [rdV (t.extract off t.size) e] [] (.tup [txV x, rdV (t.extract o' t.size) e']) [] []) : roundE (P := Tryd.prog) (Γ := Γm) [CT.at 39 hA, CT.at 40 hB, hDn t, hQd, hRs t] Lno false 0 0 loopT [3, 4, 5] [] 49 [.ptr 0 0, .ptr 2 0, .v (.int .i64 (i : Int))] ((rdb t off e).map some ++ [some (rowV t off e)]) =
  Tree.br (decide ((↑i : Int) < (4 : Int))) (Tree.chk (cl (LeL [AV.ptr (0 : Nat) (0 : Nat)] [AV.ptr (0 : Nat) (0 : Nat)] ∧ LeH [some (Blk.row [AV.hs (1 : Nat) off (ByteArray.size t - off),
    AV.v (Value.int IntKind.i64 e)]), some (Blk.arr (1 : Nat) (ByteArray.size t) (bsF t))] [some (Blk.row [AV.hs (1 : Nat) off (ByteArray.size t - off), AV.v (Value.int IntKind.i64 e)]),
    some (Blk.arr (1 : Nat) (ByteArray.size t) (bsF t))])) (Tree.chk (cl (LeL [AV.agg [AV.v (Value.string (ByteArray.extract t off (ByteArray.size t))), AV.v (Value.int IntKind.i64 e)]]
    [AV.agg [AV.v (Value.string (ByteArray.extract t off (ByteArray.size t))), AV.v (Value.int IntKind.i64 e)]] ∧ LeH [] [])) (Tree.chk (bif !(decide (x.k = x.k) && (decide (x.fr = x.fr) &&
    (decide (x.to = x.to) && (decide (x.ky = x.ky) && (decide (x.vl = x.vl) && (decide (x.am = x.am) && decide (x.nn = x.nn))))))) then true else cl (RX.ok t (RX.mk o' (ByteArray.size t -
    o') e' (ByteArray.size t) (bsF t))) && (cl True && bif !decide (dE t o' e' = dE (ByteArray.extract t o' (ByteArray.size t)) (0 : Nat) e') then true else cl (RX.ok t (RX.mk o'
    (ByteArray.size t - o') e' (ByteArray.size t) (bsF t))))) (Tree.br (bif !(decide (x.k = x.k) && (decide (x.fr = x.fr) && (decide (x.to = x.to) && (decide (x.ky = x.ky) && (decide (x.vl =
    x.vl) && (decide (x.am = x.am) && decide (x.nn = x.nn))))))) then true else bif !decide (dE t o' e' = dE (ByteArray.extract t o' (ByteArray.size t)) (0 : Nat) e') then true else !decide
    ((↑(ByteArray.size t - o') : Int) = (↑(ByteArray.size (ByteArray.extract t o' (ByteArray.size t))) : Int))) (Tree.leaf (Out.mk AEx.ret [AV.ptr (0 : Nat) (0 : Nat), AV.ptr (2 : Nat) (0 :
    Nat), AV.v (Value.int IntKind.i64 (↑i : Int))] [some (Blk.row [AV.hs (1 : Nat) o' (ByteArray.size t - o'), AV.v (Value.int IntKind.i64 e')]), some (Blk.arr (1 : Nat) (ByteArray.size t)
    (bsF t)), some (Blk.row [AV.v (Value.string (ByteArray.extract t o' (ByteArray.size t))), AV.v (Value.int IntKind.i64 e')])])) (Tree.leaf (Out.mk AEx.normal [AV.ptr (0 : Nat) (0 : Nat),
    AV.ptr (2 : Nat) (0 : Nat), AV.v (Value.int IntKind.i64 (IntKind.wrap IntKind.i64 ((↑i : Int) + (1 : Int))))] [some (Blk.row [AV.hs (1 : Nat) o' (ByteArray.size t - o'), AV.v (Value.int
    IntKind.i64 e')]), some (Blk.arr (1 : Nat) (ByteArray.size t) (bsF t)), some (Blk.row [AV.v (Value.string (ByteArray.extract t o' (ByteArray.size t))), AV.v (Value.int IntKind.i64
    e')])])))))) (Tree.leaf (Out.mk (AEx.exit (0 : Nat)) [AV.ptr (0 : Nat) (0 : Nat), AV.ptr (2 : Nat) (0 : Nat), AV.v (Value.int IntKind.i64 (↑i : Int))] [some (Blk.row [AV.hs (1 : Nat) off
    (ByteArray.size t - off), AV.v (Value.int IntKind.i64 e)]), some (Blk.arr (1 : Nat) (ByteArray.size t) (bsF t)), some (Blk.row [AV.v (Value.string (ByteArray.extract t off
    (ByteArray.size t))), AV.v (Value.int IntKind.i64 e)])])) := by kernel_rfl
theorem loopT_ok {t : ByteArray} (hz : t.size ≤ 1000000000000) : ∀ x : Nat × Nat × Int, (x.1 ≤ 4 ∧ okT t x.2.1 x.2.2) → LoopOK Tryd.prog Γm 0 49 loopT (LSpec.at [3, 4, 5] [] (ST t x) OT) := by
  refine loop_at (S := ST t) (pre := fun x => x.1 ≤ 4 ∧ okT t x.2.1 x.2.2) (O := fun _ => OT) (k := 0) (fun x => 4 - x.1) fun x hx => ?_
  obtain ⟨i, off, e⟩ := x
  obtain ⟨hi, hk⟩ := hx
  obtain ⟨x, o', e', hk', hA, hB⟩ := take_both hz hk
  refine ⟨[CT.at 39 hA, CT.at 40 hB, hDn t, hQd, hRs t], Lno, false, noLoops (by kernel_rfl), ?_⟩
  show (roundE (P := Tryd.prog) (Γ := Γm) [CT.at 39 hA, CT.at 40 hB, hDn t, hQd, hRs t] Lno false 0 0 loopT [3, 4, 5] [] 49 [.ptr 0 0, .ptr 2 0, .v (.int .i64 (i : Int))] ((rdb t off e).map some ++ [some (rowV t off e)])).sat _
  rw [roundT]
  have hc : cl True = true := cl_iff.2 trivial
  simp only [d_ext, size_ext, decide_true, Bool.and_true, Bool.not_true, cond_false, rx_ok, hc]
  have hi' : i ≤ 4 := hi
  by_cases h4 : i < 4
  · have e5 : IntKind.i64.wrap ((i : Int) + 1) = ((i + 1 : Nat) : Int) := by rw [wrap64E]; omega
    rw [e5]
    refine wT (decide_eq_true (by omega)) (wC (cl_iff.2 ⟨LeL.refl _, LeH.refl _⟩) (wC (cl_iff.2 ⟨LeL.refl _, trivial⟩) (wC rfl (wF (by simp) ?_))))
    exact ⟨(i + 1, o', e'), LeL.refl _, LeH.refl _, ⟨by show i + 1 ≤ 4; omega, hk'⟩, rfl, by show 4 - (i + 1) < 4 - i; omega⟩
  · refine wF (by simp; omega) ?_
    exact ⟨rfl, ⟨.any _, .any _, .any _, trivial⟩, ⟨OLe.none _, OLe.none _, OLe.none _, trivial⟩⟩
def AK (s : ByteArray) : List AV := [.v (.string s)]
theorem law9n (s : ByteArray) : bodyE (P := Tryd.prog) (Γ := Γm) [z28'] Lno false 49 [.tmp 2] (bodyOf Tryd.f9) (AK s) [] =
  Tree.br (decide ((5000 : Int) < (↑(ByteArray.size s) : Int))) (Tree.leaf (Ans.mk (AV.v (Value.bool true)) [])) (Tree.br (Nat.beq (ByteArray.size s) (0 : Nat)) Tree.fail Tree.fail) := by kernel_rfl
theorem law9e (g : Nat → List AV) (h : Answers Tryd.prog Γm 38 [.sl 1 0 fun j => [.v (.int .u8 (sbyte ⟨#[]⟩ j))]] [] (.ptr 0 0) [] (rdb ⟨#[]⟩ 0 0)) : bodyE (P := Tryd.prog) (Γ := Γm) [z28', CT.at 38 h] (fun _ => LSpec.at [3, 4, 5] [] (ST ⟨#[]⟩ (0, 0, 0)) OT) false 49 [.tmp 2] (bodyOf Tryd.f9) (AK ⟨#[]⟩) [] =
  Tree.br false (Tree.leaf (Ans.mk (AV.v (Value.bool true)) [])) (Tree.br true (Tree.chk (cl (LeL [AV.sl (1 : Nat) (0 : Nat) fun j => [AV.v (Value.int IntKind.u8 (sbyte (ByteArray.mk #[])
    j))]] [AV.sl (1 : Nat) (0 : Nat) fun j => [AV.v (Value.int IntKind.u8 (sbyte (ByteArray.mk #[]) j))]] ∧ LeH [] [])) (Tree.chk (cl (LeL [AV.ptr (0 : Nat) (0 : Nat), AV.ptr (2 : Nat) (0 :
    Nat), AV.v (Value.int IntKind.i64 (0 : Int))] [AV.ptr (0 : Nat) (0 : Nat), AV.ptr (2 : Nat) (0 : Nat), AV.v (Value.int IntKind.i64 (↑(0 : Nat) : Int))] ∧ LeH [some (Blk.row [AV.hs (1 :
    Nat) (0 : Nat) (0 : Nat), AV.v (Value.int IntKind.i64 (0 : Int))]), some (Blk.arr (1 : Nat) (0 : Nat) (bsF (ByteArray.mk #[]))), some (Blk.row [AV.v (Value.string (ByteArray.mk #[])),
    AV.v (Value.int IntKind.i64 (0 : Int))])] [some (Blk.row [AV.hs (1 : Nat) (0 : Nat) (0 : Nat), AV.v (Value.int IntKind.i64 (0 : Int))]), some (Blk.arr (1 : Nat) (0 : Nat) (bsF
    (ByteArray.mk #[]))), some (Blk.row [AV.v (Value.string (ByteArray.extract (ByteArray.mk #[]) (0 : Nat) (0 : Nat))), AV.v (Value.int IntKind.i64 (0 : Int))])])) (Tree.leaf (Ans.mk (AV.v
    (Value.bool true)) [])))) (Tree.chk (cl (LeL [AV.hs (0 : Nat) (0 : Nat) (0 : Nat)] [AV.sl (1 : Nat) (0 : Nat) fun j => [AV.v (Value.int IntKind.u8 (sbyte (ByteArray.mk #[]) j))]] ∧ LeH
    [some (Blk.arr (1 : Nat) (0 : Nat) fun j => [AV.v (Value.int IntKind.u8 (sbyte (ByteArray.mk #[]) j))])] [])) (Tree.chk (cl (LeL [AV.ptr (0 : Nat) (0 : Nat), AV.ptr (1 : Nat) (0 : Nat),
    AV.v (Value.int IntKind.i64 (0 : Int))] [AV.ptr (0 : Nat) (0 : Nat), AV.ptr (2 : Nat) (0 : Nat), AV.v (Value.int IntKind.i64 (↑(0 : Nat) : Int))] ∧ LeH [some (Blk.arr (1 : Nat) (0 : Nat)
    fun j => [AV.v (Value.int IntKind.u8 (sbyte (ByteArray.mk #[]) j))]), some (Blk.row [AV.v (Value.string (ByteArray.mk #[])), AV.v (Value.int IntKind.i64 (0 : Int))])] [some (Blk.row
    [AV.hs (1 : Nat) (0 : Nat) (0 : Nat), AV.v (Value.int IntKind.i64 (0 : Int))]), some (Blk.arr (1 : Nat) (0 : Nat) (bsF (ByteArray.mk #[]))), some (Blk.row [AV.v (Value.string
    (ByteArray.extract (ByteArray.mk #[]) (0 : Nat) (0 : Nat))), AV.v (Value.int IntKind.i64 (0 : Int))])])) (Tree.leaf (Ans.mk (AV.v (Value.bool true)) []))))) := by kernel_rfl
theorem law9h (s : ByteArray) (h : Answers Tryd.prog Γm 38 [.hs 0 0 s.size] [.arr 1 s.size (bsF s)] (.ptr 1 0) [some (.arr 1 s.size (bsF s))] [.row [.hs 2 0 s.size, .v (.int .i64 0)], .arr 1 s.size (bsF s)]) : bodyE (P := Tryd.prog) (Γ := Γm) [z28', CT.at 38 h] (fun _ => LSpec.at [3, 4, 5] [] (ST s (0, 0, 0)) OT) false 49 [.tmp 2] (bodyOf Tryd.f9) (AK s) [] =
  Tree.br (decide ((5000 : Int) < (↑(ByteArray.size s) : Int))) (Tree.leaf (Ans.mk (AV.v (Value.bool true)) [])) (Tree.br (Nat.beq (ByteArray.size s) (0 : Nat)) (Tree.chk (cl (LeL [AV.sl (1 :
    Nat) (0 : Nat) fun j => [AV.v (Value.int IntKind.u8 (sbyte s j))]] [AV.hs (0 : Nat) (0 : Nat) (ByteArray.size s)] ∧ LeH [] [some (Blk.arr (1 : Nat) (ByteArray.size s) (bsF s))]))
    (Tree.chk (cl (LeL [AV.ptr (0 : Nat) (0 : Nat), AV.ptr (1 : Nat) (0 : Nat), AV.v (Value.int IntKind.i64 (0 : Int))] [AV.ptr (0 : Nat) (0 : Nat), AV.ptr (2 : Nat) (0 : Nat), AV.v
    (Value.int IntKind.i64 (↑(0 : Nat) : Int))] ∧ LeH [some (Blk.arr (1 : Nat) (ByteArray.size s) (bsF s)), some (Blk.row [AV.v (Value.string s), AV.v (Value.int IntKind.i64 (0 : Int))])]
    [some (Blk.row [AV.hs (1 : Nat) (0 : Nat) (ByteArray.size s), AV.v (Value.int IntKind.i64 (0 : Int))]), some (Blk.arr (1 : Nat) (ByteArray.size s) (bsF s)), some (Blk.row [AV.v
    (Value.string (ByteArray.extract s (0 : Nat) (ByteArray.size s))), AV.v (Value.int IntKind.i64 (0 : Int))])])) (Tree.leaf (Ans.mk (AV.v (Value.bool true)) [])))) (Tree.chk (cl (LeL
    [AV.hs (0 : Nat) (0 : Nat) (ByteArray.size s)] [AV.hs (0 : Nat) (0 : Nat) (ByteArray.size s)] ∧ LeH [some (Blk.arr (1 : Nat) (ByteArray.size s) fun j => [AV.v (Value.int IntKind.u8
    (sbyte s j))])] [some (Blk.arr (1 : Nat) (ByteArray.size s) (bsF s))])) (Tree.chk (cl (LeL [AV.ptr (0 : Nat) (0 : Nat), AV.ptr (2 : Nat) (0 : Nat), AV.v (Value.int IntKind.i64 (0 :
    Int))] [AV.ptr (0 : Nat) (0 : Nat), AV.ptr (2 : Nat) (0 : Nat), AV.v (Value.int IntKind.i64 (↑(0 : Nat) : Int))] ∧ LeH [some (Blk.row [AV.hs (1 : Nat) (0 : Nat) (ByteArray.size s), AV.v
    (Value.int IntKind.i64 (0 : Int))]), some (Blk.arr (1 : Nat) (ByteArray.size s) (bsF s)), some (Blk.row [AV.v (Value.string s), AV.v (Value.int IntKind.i64 (0 : Int))])] [some (Blk.row
    [AV.hs (1 : Nat) (0 : Nat) (ByteArray.size s), AV.v (Value.int IntKind.i64 (0 : Int))]), some (Blk.arr (1 : Nat) (ByteArray.size s) (bsF s)), some (Blk.row [AV.v (Value.string
    (ByteArray.extract s (0 : Nat) (ByteArray.size s))), AV.v (Value.int IntKind.i64 (0 : Int))])])) (Tree.leaf (Ans.mk (AV.v (Value.bool true)) []))))) := by kernel_rfl
theorem lawTK (s : ByteArray) : LawOK Tryd.prog Γm 49 [.tmp 2] (bodyOf Tryd.f9) (AK s) := by
  by_cases hs : 5000 < s.size
  · refine .mk' (T := [z28']) (ip := false) (L := Lno) (failOK fun _ _ _ => rfl) (Right.of (law9n s) ?_)
    repeat' (first | refine wC (by first | omega | (simp only [W1, cond_true, cond_false]; first | done | omega)) ?_ | refine wT (by first | omega | (simp only [W1, cond_true, cond_false]; first | done | omega)) ?_ | refine wF (by intro _h; first | omega | (simp only [W1, cond_true, cond_false] at _h; first | done | omega)) ?_ | (refine wS ?_ ?_ <;> intro _h <;> simp only [W1, cond_true, cond_false] at _h))
    all_goals simp only [W1, W2, owesN, owesX, owesR, cond_true, cond_false]
    repeat' (first | apply And.intro | intro _hc)
    all_goals first | exact AV.le_refl _ | exact AV.le_any _ | exact OLe.refl _ | exact OLe.none _ | exact LeH.refl _ | exact LeL.refl _ | exact AV.le.bs _ | exact AV.le.sb _ | omega | contradiction
  · by_cases h0 : s.size = 0
    · obtain rfl := emp_size.2 h0
      have hN : Answers Tryd.prog Γm 38 [.sl 1 0 fun j => [.v (.int .u8 (sbyte ⟨#[]⟩ j))]] [] (.ptr 0 0) [] (rdb ⟨#[]⟩ 0 0) := ansNwE
      refine .mk' (T := [z28', CT.at 38 hN]) (ip := false) (L := fun _ => LSpec.at [3, 4, 5] [] (ST ⟨#[]⟩ (0, 0, 0)) OT) (oneLoop (b := loopT) (by kernel_rfl) (loopT_ok (by decide) (0, 0, 0) ⟨by decide, ⟨Nat.le_refl _, .inl rfl⟩, by decide⟩)) (Right.of (law9e (bsF ⟨#[]⟩) hN) ?_)
      repeat' (first | refine wC (by first | omega | (simp only [W1, cond_true, cond_false]; first | done | omega)) ?_ | refine wT (by first | omega | (simp only [W1, cond_true, cond_false]; first | done | omega)) ?_ | refine wF (by intro _h; first | omega | (simp only [W1, cond_true, cond_false] at _h; first | done | omega)) ?_ | (refine wS ?_ ?_ <;> intro _h <;> simp only [W1, cond_true, cond_false] at _h))
      all_goals simp only [W1, W2, owesN, owesX, owesR, cond_true, cond_false]
      repeat' (first | apply And.intro | intro _hc)
      all_goals first | exact AV.le_refl _ | exact AV.le_any _ | exact OLe.refl _ | exact OLe.none _ | exact LeH.refl _ | exact LeL.refl _ | exact AV.le.bs _ | exact AV.le.sb _ | omega | contradiction
    · have hok : (BA.hs s).ok := ⟨by unfold small; omega, by omega⟩
      have hN := ansNwH hok
      refine .mk' (T := [z28', CT.at 38 hN]) (ip := false) (L := fun _ => LSpec.at [3, 4, 5] [] (ST s (0, 0, 0)) OT) (oneLoop (b := loopT) (by kernel_rfl) (loopT_ok (by omega) (0, 0, 0) ⟨by decide, ⟨Nat.zero_le _, .inl rfl⟩, by decide⟩)) (Right.of (law9h s hN) ?_)
      have hb : Nat.beq s.size 0 = false := by
        cases hq : Nat.beq s.size 0 with
        | false => rfl
        | true => exact absurd (Nat.eq_of_beq_eq_true hq) h0
      have hx : s.extract 0 s.size = s := ext_all s
      simp only [hb, hx, Nat.sub_zero]
      repeat' (first | refine wC (by first | omega | (simp only [W1, cond_true, cond_false]; first | done | omega)) ?_ | refine wT (by first | omega | (simp only [W1, cond_true, cond_false]; first | done | omega)) ?_ | refine wF (by intro _h; first | omega | (simp only [W1, cond_true, cond_false] at _h; first | done | omega)) ?_ | (refine wS ?_ ?_ <;> intro _h <;> simp only [W1, cond_true, cond_false] at _h))
      all_goals simp only [W1, W2, owesN, owesX, owesR, cond_true, cond_false]
      repeat' (first | apply And.intro | intro _hc)
      all_goals first | exact AV.le_refl _ | exact AV.le_any _ | exact OLe.refl _ | exact OLe.none _ | exact LeH.refl _ | exact LeL.refl _ | exact AV.le.bs _ | exact AV.le.sb _ | omega | contradiction
noncomputable def c9L : CT Tryd.prog Γm := CT.lawE AK (fun _ => True) 9 Tryd.f9 (bodyOf Tryd.f9) 49 [.tmp 2] Tryd.func9 (by kernel_rfl) (by kernel_rfl) (by kernel_rfl) (by kernel_rfl) (fun _ _ => by simp [AK]) (fun s _ => lawTK s)
end Go.Eng.TA.R

/- The tables that the rows name: what the rows' condition gives. -/
namespace Go.Proofs.YtmjbindplgpjjaaDoor
open Go Go.ChangeShapes Go.WideShapes Go.ChangeAt Go.WideMaps Go.WideElems Go.RowKit Go.Eng Go.Eng.TA
set_option linter.unusedSimpArgs false
set_option linter.unusedVariables false
theorem own : ownKnob Tryd.prog.godebug = none := by kernel_rfl
abbrev laidL : List (String × DataW Unit) := [("unicode/utf8.acceptRanges", Rows.laid_unicode_utf8_acceptRanges), ("unicode/utf8.first", Rows.laid_unicode_utf8_first)]
def ren8 : Go.Shelf.Ren := ⟨id, fun t => if t = 5 then 5 else if t = 119 then 192 else if t = 138 then 194 else 195, fun g => if g = 3 then 0 else 1⟩
theorem ren8T : U8Types Tryd.prog ren8 where
  t5 := Tryd.underlying5
  t119 := Tryd.underlying192
  t138 := Tryd.underlying194
  t139 := Tryd.underlying195
theorem ren8X : U8Extra Tryd.prog ren8 where
  n3 := by kernel_rfl
  n4 := by kernel_rfl
  y3 := by kernel_rfl
  y4 := by kernel_rfl
  c5 := by kernel_rfl
  c119 := by kernel_rfl
  c138 := by kernel_rfl
theorem data8 : Rows.laid_unicode_utf8_first = Lib.firstData ∧ (Rows.laid_unicode_utf8_acceptRanges : DataW Unit) = Lib.acceptData := ⟨by kernel_rfl, by kernel_rfl⟩
theorem globals_ok {W : World} (h : laidMetH Tryd.prog laidL W) : Globals Γm (σof W) := by
  rw [MakeChecks.laidMetH_plain _ _ _ (by kernel_rfl)] at h
  have h1 := Go.Lib.laidMet.reads h (n := "unicode/utf8.first") (d := Lib.firstData) (by rw [← data8.1]; exact List.mem_cons_of_mem _ (List.mem_cons_self ..))
  have h2 := Go.Lib.laidMet.reads h (n := "unicode/utf8.acceptRanges") (d := Lib.acceptData) (by rw [← data8.2]; exact List.mem_cons_self ..)
  have hT : Lib.Utf8Tabs 0 1 W := utf8Tabs_of_readsT ren8T ren8X h1 h2
  intro g
  unfold Γm
  split
  · rename_i hg
    obtain rfl := Nat.eq_of_beq_eq_true hg
    refine .pa 1 256 _ ⟨0, 0, none⟩ (fun e j => .int .u8 (Lib.firstT e : Int)) rfl (fun _ => rfl) (fun e j c he hc => ?_) (fun e j c he hc => ?_)
    · cases j with
      | zero => simpa using σof_of (hT.1 e he)
      | succ j => simp [fstF] at hc
    · cases j with
      | zero => simp [fstF] at hc; subst hc; exact .v _
      | succ j => simp [fstF] at hc
  · split
    · rename_i hg
      obtain rfl := Nat.eq_of_beq_eq_true hg
      refine .pa 2 16 _ ⟨1, 0, none⟩ (fun e j => .int .u8 (if j = 0 then (Lib.accLo e : Int) else (Lib.accHi e : Int))) rfl (fun _ => rfl) (fun e j c he hc => ?_) (fun e j c he hc => ?_)
      · match j with
        | 0 => simpa [Nat.mul_comm] using σof_of (hT.2 e he).1
        | 1 => simpa [Nat.mul_comm] using σof_of (hT.2 e he).2
        | j + 2 => simp [accF] at hc
      · match j with
        | 0 => simp [accF] at hc; subst hc; exact .v _
        | 1 => simp [accF] at hc; subst hc; exact .v _
        | j + 2 => simp [accF] at hc
    · exact .any _
end Go.Proofs.YtmjbindplgpjjaaDoor

/- TxTakes holds at every input: the tables unicode/utf8.first and unicode/utf8.acceptRanges as the program lays them (tied). -/
namespace Go.Proofs.YtmjbindplgpjjaaDoor
open Go Go.ChangeShapes Go.WideShapes Go.ChangeAt Go.WideMaps Go.WideElems Go.RowKit Go.Eng Go.Eng.TA Go.Eng.TA.R
set_option linter.unusedSimpArgs false
set_option linter.unusedVariables false

set_option maxRecDepth 100000 in
theorem txTakes_lifted (os : Os) (started : os.Started) (H : Type) (enc : TypeId × Value → H) :
    ReturnsInHanded {} Tryd.checked os 9 .any (fun w args => (Rows.txTakesSpec.pre enc Tryd.prog Tryd.f9 [] false w args ∧ laidMetH Tryd.prog laidL w) ∧ sizedMet enc Tryd.prog Tryd.f9 (OpenSpec.ofChange Rows.txTakesSpec) false w args)
      (Rows.txTakesSpec.post enc Tryd.prog Tryd.f9 false true false false) := by
  refine returnsInHanded_of_change_and (C := Tryd.checked) (X := fun w _ => laidMetH Tryd.prog laidL w) (fun _ _ _ hh h => h.of_heap hh) own started (by kernel_rfl) Tryd.func9
    (ChangeSpec.witness_shaped (enc := enc) (C := Tryd.checked) (os := os) (X := fun w _ => laidMetH Tryd.prog laidL w) false (World.laidAll Tryd.prog os laidL) #[.string ⟨#[]⟩] 8 (World.laidAll_os _ _ _) (World.shaped_of_ZipB (by kernel_rfl) (by kernel_rfl)) (by kernel_rfl) (by kernel_rfl) (by kernel_rfl)
      (by rw [MakeChecks.laidMetH_plain _ _ _ (by kernel_rfl)]; exact laidMet_laidAll _ (by kernel_rfl) (by kernel_rfl))) ?_
  intro W base args ds gs before hval0 hW _ _ hL _
  have hval : ∀ (j : Nat) t v, Tryd.f9.params[j]? = some t → args[j]? = some v → Value.okWide Tryd.prog W .any base t v := hval0
  have hW' := hW
  obtain ⟨p, q, hA0, hV, rfl, hfz, hnd⟩ := hW
  have hA : DataW.TrodAll enc Tryd.prog W 0 (fun _ => true) true Tryd.f9.params.toList args.toList ds p := hA0
  rw [Tryd.params9] at hA hval
  obtain ⟨v0, d0, rfl, rfl, h0⟩ := trodAll_one hA
  obtain ⟨rfl, rfl⟩ := trodVars_none hV
  obtain ⟨n0, rfl, rfl, rfl, w0⟩ := Go.ChangeMaps.open_string Tryd.underlying9 (hval 0 9 v0 rfl rfl) h0
  refine (calls_true c9L (xs := [.v (.string n0)]) (law_in (A := AK) (pre := fun _ => True) (x := n0) trivial (.refl _)) (globals_ok hL) (.one (V_v _) .none)).mono fun e W' ⟨he, ho⟩ => ?_
  subst he
  exact ⟨_, rfl, post_true (tb := 4) (by kernel_rfl) (by kernel_rfl) (by kernel_rfl) (by kernel_rfl) (by kernel_rfl) Tryd.underlying4 hW' rfl rfl ho⟩

theorem txTakes_holds : Rows.TxTakesSaid :=
  OpenClaim.holds_of_wide 9 Tryd.f9 rfl rfl rfl rfl rfl rfl rfl ⟨rfl, rfl, rfl, rfl, rfl⟩ rfl rfl rfl rfl rfl (by kernel_rfl) Tryd.func9 (by kernel_rfl)
    (of_decide_eq_true (by kernel_rfl)) (by unfold Func.isWrapper; first | (rw [if_pos (by decide +kernel)]; kernel_rfl) | (rw [if_neg (by decide +kernel)]; exact ⟨rfl, rfl⟩))
    (fun os started H enc _ => txTakes_lifted os started H enc)
theorem txTakes_card : Rows.TxTakesCardSaid :=
  Claim7.holds_tied_plain_at .later [] [.data, .pinned] true (true, "04bf13180d5c01f5cefcb13e3375edc3305cec317436f21bd83698835d5e56cf") false
    txTakes_holds (fun _ h => by cases h) (by kernel_rfl) (fun _ h => by cases h) txTakes_row_tie rfl ⟨rfl, rfl⟩ (by kernel_rfl) rfl
    (fun f fn hf hfn => by
      obtain rfl : f = 9 := Option.some.inj ((show Tryd.prog.funcNamed "hallmoot/hallmootlaw08.TxTakes" = some 9 by kernel_rfl).symm.trans hf) |>.symm
      obtain rfl : fn = Tryd.f9 := (Option.some.inj (Tryd.func9.symm.trans hfn)).symm
      exact ⟨by kernel_rfl, fun j t ht => by
        rw [Tryd.params9] at ht
        have hm : t ∈ [9] := by simpa using Array.mem_of_getElem? ht
        have hall : ([9].all fun u => !Tryd.prog.wantsStandIn u) = true := by kernel_rfl
        exact (show Tryd.prog.wantsStandIn t = false by simpa using List.all_eq_true.1 hall t hm)⟩)
    (by kernel_rfl)
#print axioms txTakes_card
end Go.Proofs.YtmjbindplgpjjaaDoor
