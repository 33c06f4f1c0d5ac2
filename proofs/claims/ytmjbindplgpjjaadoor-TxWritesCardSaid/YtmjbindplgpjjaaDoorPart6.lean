/- TxWrites holds at every input: the tables unicode/utf8.first and unicode/utf8.acceptRanges as the program lays them (tied). -/
import Derived.Test.YtmjbindplgpjjaaDoorPart5
import Derived.Test.YtmjbindplgpjjaaDoorRows
import Derived.Test.YtmjbindplgpjjaaDoorTie
import Derived.Test.YtmjbindplgpjjaaDoorCards
import Derived.ProofKit
import Derived.LaidMore
import Derived.OpenShut
import Derived.Stop.Joined
import Derived.SevenTiedAt
import Derived.Lib.LaidU8T
import Derived.Lay
/- transactions: words written. -/
namespace Go.Eng.TA
open Go Go.Eng Go.Eng.M Go.Lib Go.Proofs
set_option linter.unusedSimpArgs false
set_option linter.unusedVariables false
theorem runPP (x : Tx) : bodyE (P := Tryd.prog) (Γ := Γm) [kTx, kPr] Lno false 42 [.tmp 2, .tmp 3] (bodyOf Tryd.f31) [txV x] [] =
  Tree.chk (cl (smallT (Tx.mk x.k x.fr x.to x.ky x.vl x.am x.nn) ∧ LeL [AV.agg [AV.v (Value.int IntKind.i64 x.k), AV.v (Value.string x.fr), AV.v (Value.string x.to), AV.v (Value.string x.ky),
    AV.v (Value.string x.vl), AV.v (Value.int IntKind.i64 x.am), AV.v (Value.int IntKind.i64 x.nn)]] [AV.agg [AV.v (Value.int IntKind.i64 x.k), AV.v (Value.string x.fr), AV.v (Value.string
    x.to), AV.v (Value.string x.ky), AV.v (Value.string x.vl), AV.v (Value.int IntKind.i64 x.am), AV.v (Value.int IntKind.i64 x.nn)]] ∧ LeH [] [])) (Tree.br (!decide (erT (txB (Tx.mk x.k
    x.fr x.to x.ky x.vl x.am x.nn)) = (0 : Int))) (Tree.leaf (Ans.mk (AV.tup [AV.v (Value.string (ByteArray.mk #[])), AV.v (Value.int IntKind.i64 (erT (txB (Tx.mk x.k x.fr x.to x.ky x.vl
    x.am x.nn))))]) [])) (Tree.chk (cl (inI64 x.nn ∧ LeL [AV.v (Value.int IntKind.i64 x.nn)] [AV.v (Value.int IntKind.i64 x.nn)] ∧ LeH [] []) && (decide (ByteArray.size (prS x.nn) + (2 :
    Nat) ≤ (9223372036854775807 : Nat)) && decide (ByteArray.size (prS x.nn ++ ByteArray.mk #[(58 : UInt8), (32 : UInt8)]) + ByteArray.size x.fr ≤ (9223372036854775807 : Nat)))) (Tree.br
    (decide (x.k = (1 : Int))) (Tree.chk (decide ((5 : Nat) + ByteArray.size (prS x.nn ++ ByteArray.mk #[(58 : UInt8), (32 : UInt8)] ++ x.fr) ≤ (9223372036854775807 : Nat)) && (decide
    (ByteArray.size (ByteArray.mk #[(109 : UInt8), (111 : UInt8), (118 : UInt8), (101 : UInt8), (32 : UInt8)] ++ (prS x.nn ++ ByteArray.mk #[(58 : UInt8), (32 : UInt8)] ++ x.fr)) + (7 : Nat)
    ≤ (9223372036854775807 : Nat)) && (cl (inI64 x.am ∧ LeL [AV.v (Value.int IntKind.i64 x.am)] [AV.v (Value.int IntKind.i64 x.am)] ∧ LeH [] []) && (decide (ByteArray.size (ByteArray.mk
    #[(109 : UInt8), (111 : UInt8), (118 : UInt8), (101 : UInt8), (32 : UInt8)] ++ (prS x.nn ++ ByteArray.mk #[(58 : UInt8), (32 : UInt8)] ++ x.fr) ++ ByteArray.mk #[(32 : UInt8), (103 :
    UInt8), (105 : UInt8), (118 : UInt8), (101 : UInt8), (115 : UInt8), (32 : UInt8)]) + ByteArray.size (prS x.am) ≤ (9223372036854775807 : Nat)) && (decide (ByteArray.size (ByteArray.mk
    #[(109 : UInt8), (111 : UInt8), (118 : UInt8), (101 : UInt8), (32 : UInt8)] ++ (prS x.nn ++ ByteArray.mk #[(58 : UInt8), (32 : UInt8)] ++ x.fr) ++ ByteArray.mk #[(32 : UInt8), (103 :
    UInt8), (105 : UInt8), (118 : UInt8), (101 : UInt8), (115 : UInt8), (32 : UInt8)] ++ prS x.am) + (4 : Nat) ≤ (9223372036854775807 : Nat)) && decide (ByteArray.size (ByteArray.mk #[(109 :
    UInt8), (111 : UInt8), (118 : UInt8), (101 : UInt8), (32 : UInt8)] ++ (prS x.nn ++ ByteArray.mk #[(58 : UInt8), (32 : UInt8)] ++ x.fr) ++ ByteArray.mk #[(32 : UInt8), (103 : UInt8), (105
    : UInt8), (118 : UInt8), (101 : UInt8), (115 : UInt8), (32 : UInt8)] ++ prS x.am ++ ByteArray.mk #[(32 : UInt8), (116 : UInt8), (111 : UInt8), (32 : UInt8)]) + ByteArray.size x.to ≤
    (9223372036854775807 : Nat))))))) (Tree.leaf (Ans.mk (AV.tup [AV.v (Value.string (ByteArray.mk #[(109 : UInt8), (111 : UInt8), (118 : UInt8), (101 : UInt8), (32 : UInt8)] ++ (prS x.nn ++
    ByteArray.mk #[(58 : UInt8), (32 : UInt8)] ++ x.fr) ++ ByteArray.mk #[(32 : UInt8), (103 : UInt8), (105 : UInt8), (118 : UInt8), (101 : UInt8), (115 : UInt8), (32 : UInt8)] ++ prS x.am
    ++ ByteArray.mk #[(32 : UInt8), (116 : UInt8), (111 : UInt8), (32 : UInt8)] ++ x.to)), AV.v (Value.int IntKind.i64 (0 : Int))]) []))) (Tree.chk (decide ((4 : Nat) + ByteArray.size (prS
    x.nn ++ ByteArray.mk #[(58 : UInt8), (32 : UInt8)] ++ x.fr) ≤ (9223372036854775807 : Nat)) && (decide (ByteArray.size (ByteArray.mk #[(112 : UInt8), (117 : UInt8), (116 : UInt8), (32 :
    UInt8)] ++ (prS x.nn ++ ByteArray.mk #[(58 : UInt8), (32 : UInt8)] ++ x.fr)) + (6 : Nat) ≤ (9223372036854775807 : Nat)) && (decide (ByteArray.size (ByteArray.mk #[(112 : UInt8), (117 :
    UInt8), (116 : UInt8), (32 : UInt8)] ++ (prS x.nn ++ ByteArray.mk #[(58 : UInt8), (32 : UInt8)] ++ x.fr) ++ ByteArray.mk #[(32 : UInt8), (115 : UInt8), (101 : UInt8), (116 : UInt8), (115
    : UInt8), (32 : UInt8)]) + ByteArray.size x.ky ≤ (9223372036854775807 : Nat)) && (decide (ByteArray.size (ByteArray.mk #[(112 : UInt8), (117 : UInt8), (116 : UInt8), (32 : UInt8)] ++
    (prS x.nn ++ ByteArray.mk #[(58 : UInt8), (32 : UInt8)] ++ x.fr) ++ ByteArray.mk #[(32 : UInt8), (115 : UInt8), (101 : UInt8), (116 : UInt8), (115 : UInt8), (32 : UInt8)] ++ x.ky) + (4 :
    Nat) ≤ (9223372036854775807 : Nat)) && decide (ByteArray.size (ByteArray.mk #[(112 : UInt8), (117 : UInt8), (116 : UInt8), (32 : UInt8)] ++ (prS x.nn ++ ByteArray.mk #[(58 : UInt8), (32
    : UInt8)] ++ x.fr) ++ ByteArray.mk #[(32 : UInt8), (115 : UInt8), (101 : UInt8), (116 : UInt8), (115 : UInt8), (32 : UInt8)] ++ x.ky ++ ByteArray.mk #[(32 : UInt8), (116 : UInt8), (111 :
    UInt8), (32 : UInt8)]) + ByteArray.size x.vl ≤ (9223372036854775807 : Nat)))))) (Tree.leaf (Ans.mk (AV.tup [AV.v (Value.string (ByteArray.mk #[(112 : UInt8), (117 : UInt8), (116 :
    UInt8), (32 : UInt8)] ++ (prS x.nn ++ ByteArray.mk #[(58 : UInt8), (32 : UInt8)] ++ x.fr) ++ ByteArray.mk #[(32 : UInt8), (115 : UInt8), (101 : UInt8), (116 : UInt8), (115 : UInt8), (32
    : UInt8)] ++ x.ky ++ ByteArray.mk #[(32 : UInt8), (116 : UInt8), (111 : UInt8), (32 : UInt8)] ++ x.vl)), AV.v (Value.int IntKind.i64 (0 : Int))]) [])))))) := by kernel_rfl
theorem runPQ (x : Tx) : bodyE (P := Tryd.prog) (Γ := Γm) [kPrR] Lno false 35 [.tmp 2] (bodyOf Tryd.f35) [txV x] [] =
  Tree.chk (cl (inI64 x.nn ∧ LeL [AV.v (Value.int IntKind.i64 x.nn)] [AV.v (Value.int IntKind.i64 x.nn)] ∧ LeH [] []) && (decide (ByteArray.size (prS x.nn) + (2 : Nat) ≤ (9223372036854775807 :
    Nat)) && decide (ByteArray.size (prS x.nn ++ ByteArray.mk #[(58 : UInt8), (32 : UInt8)]) + ByteArray.size x.fr ≤ (9223372036854775807 : Nat)))) (Tree.br (decide (x.k = (1 : Int)))
    (Tree.chk (decide ((5 : Nat) + ByteArray.size (prS x.nn ++ ByteArray.mk #[(58 : UInt8), (32 : UInt8)] ++ x.fr) ≤ (9223372036854775807 : Nat)) && (decide (ByteArray.size (ByteArray.mk
    #[(109 : UInt8), (111 : UInt8), (118 : UInt8), (101 : UInt8), (32 : UInt8)] ++ (prS x.nn ++ ByteArray.mk #[(58 : UInt8), (32 : UInt8)] ++ x.fr)) + (7 : Nat) ≤ (9223372036854775807 :
    Nat)) && (cl (inI64 x.am ∧ LeL [AV.v (Value.int IntKind.i64 x.am)] [AV.v (Value.int IntKind.i64 x.am)] ∧ LeH [] []) && (decide (ByteArray.size (ByteArray.mk #[(109 : UInt8), (111 :
    UInt8), (118 : UInt8), (101 : UInt8), (32 : UInt8)] ++ (prS x.nn ++ ByteArray.mk #[(58 : UInt8), (32 : UInt8)] ++ x.fr) ++ ByteArray.mk #[(32 : UInt8), (103 : UInt8), (105 : UInt8), (118
    : UInt8), (101 : UInt8), (115 : UInt8), (32 : UInt8)]) + ByteArray.size (prS x.am) ≤ (9223372036854775807 : Nat)) && (decide (ByteArray.size (ByteArray.mk #[(109 : UInt8), (111 : UInt8),
    (118 : UInt8), (101 : UInt8), (32 : UInt8)] ++ (prS x.nn ++ ByteArray.mk #[(58 : UInt8), (32 : UInt8)] ++ x.fr) ++ ByteArray.mk #[(32 : UInt8), (103 : UInt8), (105 : UInt8), (118 :
    UInt8), (101 : UInt8), (115 : UInt8), (32 : UInt8)] ++ prS x.am) + (4 : Nat) ≤ (9223372036854775807 : Nat)) && decide (ByteArray.size (ByteArray.mk #[(109 : UInt8), (111 : UInt8), (118 :
    UInt8), (101 : UInt8), (32 : UInt8)] ++ (prS x.nn ++ ByteArray.mk #[(58 : UInt8), (32 : UInt8)] ++ x.fr) ++ ByteArray.mk #[(32 : UInt8), (103 : UInt8), (105 : UInt8), (118 : UInt8), (101
    : UInt8), (115 : UInt8), (32 : UInt8)] ++ prS x.am ++ ByteArray.mk #[(32 : UInt8), (116 : UInt8), (111 : UInt8), (32 : UInt8)]) + ByteArray.size x.to ≤ (9223372036854775807 : Nat)))))))
    (Tree.leaf (Ans.mk (AV.v (Value.string (ByteArray.mk #[(109 : UInt8), (111 : UInt8), (118 : UInt8), (101 : UInt8), (32 : UInt8)] ++ (prS x.nn ++ ByteArray.mk #[(58 : UInt8), (32 :
    UInt8)] ++ x.fr) ++ ByteArray.mk #[(32 : UInt8), (103 : UInt8), (105 : UInt8), (118 : UInt8), (101 : UInt8), (115 : UInt8), (32 : UInt8)] ++ prS x.am ++ ByteArray.mk #[(32 : UInt8), (116
    : UInt8), (111 : UInt8), (32 : UInt8)] ++ x.to))) []))) (Tree.chk (decide ((4 : Nat) + ByteArray.size (prS x.nn ++ ByteArray.mk #[(58 : UInt8), (32 : UInt8)] ++ x.fr) ≤
    (9223372036854775807 : Nat)) && (decide (ByteArray.size (ByteArray.mk #[(112 : UInt8), (117 : UInt8), (116 : UInt8), (32 : UInt8)] ++ (prS x.nn ++ ByteArray.mk #[(58 : UInt8), (32 :
    UInt8)] ++ x.fr)) + (6 : Nat) ≤ (9223372036854775807 : Nat)) && (decide (ByteArray.size (ByteArray.mk #[(112 : UInt8), (117 : UInt8), (116 : UInt8), (32 : UInt8)] ++ (prS x.nn ++
    ByteArray.mk #[(58 : UInt8), (32 : UInt8)] ++ x.fr) ++ ByteArray.mk #[(32 : UInt8), (115 : UInt8), (101 : UInt8), (116 : UInt8), (115 : UInt8), (32 : UInt8)]) + ByteArray.size x.ky ≤
    (9223372036854775807 : Nat)) && (decide (ByteArray.size (ByteArray.mk #[(112 : UInt8), (117 : UInt8), (116 : UInt8), (32 : UInt8)] ++ (prS x.nn ++ ByteArray.mk #[(58 : UInt8), (32 :
    UInt8)] ++ x.fr) ++ ByteArray.mk #[(32 : UInt8), (115 : UInt8), (101 : UInt8), (116 : UInt8), (115 : UInt8), (32 : UInt8)] ++ x.ky) + (4 : Nat) ≤ (9223372036854775807 : Nat)) && decide
    (ByteArray.size (ByteArray.mk #[(112 : UInt8), (117 : UInt8), (116 : UInt8), (32 : UInt8)] ++ (prS x.nn ++ ByteArray.mk #[(58 : UInt8), (32 : UInt8)] ++ x.fr) ++ ByteArray.mk #[(32 :
    UInt8), (115 : UInt8), (101 : UInt8), (116 : UInt8), (115 : UInt8), (32 : UInt8)] ++ x.ky ++ ByteArray.mk #[(32 : UInt8), (116 : UInt8), (111 : UInt8), (32 : UInt8)]) + ByteArray.size
    x.vl ≤ (9223372036854775807 : Nat)))))) (Tree.leaf (Ans.mk (AV.v (Value.string (ByteArray.mk #[(112 : UInt8), (117 : UInt8), (116 : UInt8), (32 : UInt8)] ++ (prS x.nn ++ ByteArray.mk
    #[(58 : UInt8), (32 : UInt8)] ++ x.fr) ++ ByteArray.mk #[(32 : UInt8), (115 : UInt8), (101 : UInt8), (116 : UInt8), (115 : UInt8), (32 : UInt8)] ++ x.ky ++ ByteArray.mk #[(32 : UInt8),
    (116 : UInt8), (111 : UInt8), (32 : UInt8)] ++ x.vl))) [])))) := by kernel_rfl
def hdS (x : Tx) : ByteArray := prS x.nn ++ ⟨#[58, 32]⟩ ++ x.fr
def mvS (x : Tx) : ByteArray := ⟨#[109, 111, 118, 101, 32]⟩ ++ (prS x.nn ++ ⟨#[58, 32]⟩ ++ x.fr) ++ ⟨#[32, 103, 105, 118, 101, 115, 32]⟩ ++ prS x.am ++ ⟨#[32, 116, 111, 32]⟩ ++ x.to
def ptS (x : Tx) : ByteArray := ⟨#[112, 117, 116, 32]⟩ ++ (prS x.nn ++ ⟨#[58, 32]⟩ ++ x.fr) ++ ⟨#[32, 115, 101, 116, 115, 32]⟩ ++ x.ky ++ ⟨#[32, 116, 111, 32]⟩ ++ x.vl
/-- the words of a right one -/
def prT (x : Tx) : ByteArray := if x.k = 1 then mvS x else ptS x
def okI (x : Tx) : Prop := smallT x ∧ inI64 x.nn ∧ inI64 x.am
theorem szM (l : List UInt8) : ByteArray.size ⟨⟨l⟩⟩ = l.length := rfl
theorem ansPP {x : Tx} (h : okI x) : Answers Tryd.prog Γm 31 [txV x] [] (.tup [.v (.string (if txB x then prT x else ⟨#[]⟩)), .v (.int .i64 (if txB x then 0 else 80))]) [] [] :=
  answers (fn := Tryd.f31) (c := bodyOf Tryd.f31) (ntmps := 42) (results := [.tmp 2, .tmp 3]) [kTx, kPr] Lno false Tryd.func31 (by kernel_rfl) (by kernel_rfl) (by kernel_rfl) (by kernel_rfl) (by simp) rfl (noLoops (by kernel_rfl)) <| Meets.of (runPP x) <| by
    obtain ⟨hs, hn, ha⟩ := h
    have hx : Tx.mk x.k x.fr x.to x.ky x.vl x.am x.nn = x := rfl
    have z1 := pr_size hn
    have z2 := pr_size ha
    have s1 := hs.1
    have s2 := hs.2.1
    have s3 := hs.2.2.1
    have s4 := hs.2.2.2
    cases hb : txB x with
    | false =>
      have et : erT false = 80 := rfl
      repeat' (first | refine wC (by first | omega | (simp only [W1, cond_true, cond_false, hx, hs, hb, et]; first | done | omega)) ?_ | refine wT (by first | omega | (simp only [W1, cond_true, cond_false, hx, hs, hb, et]; first | done | omega)) ?_ | refine wF (by intro _h; first | omega | (simp only [W1, cond_true, cond_false, hx, hs, hb, et] at _h; first | done | omega)) ?_ | (refine wS ?_ ?_ <;> intro _h <;> simp only [W1, cond_true, cond_false, hx, hs, hb, et] at _h))
      all_goals simp only [W1, W2, owesN, owesX, owesR, cond_true, cond_false, hx, hs, hb, et]
      repeat' (first | apply And.intro | intro _hc)
      all_goals first | exact tup2 (leS rfl) (leI rfl) | exact AV.le_refl _ | exact AV.le_any _ | exact OLe.refl _ | exact OLe.none _ | exact LeH.refl _ | exact LeL.refl _ | exact AV.le.bs _ | exact AV.le.sb _ | omega | contradiction
    | true =>
      have et : erT true = 0 := rfl
      simp only [ByteArray.size_append, szM, List.length_cons, List.length_nil]
      by_cases hk : x.k = 1
      · have hp : prT x = mvS x := if_pos hk
        repeat' (first | refine wC (by first | omega | (simp only [W1, cond_true, cond_false, hx, hs, hb, et, hn, ha, hp]; first | done | omega)) ?_ | refine wT (by first | omega | (simp only [W1, cond_true, cond_false, hx, hs, hb, et, hn, ha, hp]; first | done | omega)) ?_ | refine wF (by intro _h; first | omega | (simp only [W1, cond_true, cond_false, hx, hs, hb, et, hn, ha, hp] at _h; first | done | omega)) ?_ | (refine wS ?_ ?_ <;> intro _h <;> simp only [W1, cond_true, cond_false, hx, hs, hb, et, hn, ha, hp] at _h))
        all_goals simp only [W1, W2, owesN, owesX, owesR, cond_true, cond_false, hx, hs, hb, et, hn, ha, hp]
        repeat' (first | apply And.intro | intro _hc)
        all_goals first | exact tup2 (leS rfl) (leI rfl) | exact AV.le_refl _ | exact AV.le_any _ | exact OLe.refl _ | exact OLe.none _ | exact LeH.refl _ | exact LeL.refl _ | exact AV.le.bs _ | exact AV.le.sb _ | omega | contradiction
      · have hp : prT x = ptS x := if_neg hk
        repeat' (first | refine wC (by first | omega | (simp only [W1, cond_true, cond_false, hx, hs, hb, et, hn, ha, hp]; first | done | omega)) ?_ | refine wT (by first | omega | (simp only [W1, cond_true, cond_false, hx, hs, hb, et, hn, ha, hp]; first | done | omega)) ?_ | refine wF (by intro _h; first | omega | (simp only [W1, cond_true, cond_false, hx, hs, hb, et, hn, ha, hp] at _h; first | done | omega)) ?_ | (refine wS ?_ ?_ <;> intro _h <;> simp only [W1, cond_true, cond_false, hx, hs, hb, et, hn, ha, hp] at _h))
        all_goals simp only [W1, W2, owesN, owesX, owesR, cond_true, cond_false, hx, hs, hb, et, hn, ha, hp]
        repeat' (first | apply And.intro | intro _hc)
        all_goals first | exact tup2 (leS rfl) (leI rfl) | exact AV.le_refl _ | exact AV.le_any _ | exact OLe.refl _ | exact OLe.none _ | exact LeH.refl _ | exact LeL.refl _ | exact AV.le.bs _ | exact AV.le.sb _ | omega | contradiction
theorem ansPQ {x : Tx} (h : okI x) : Answers Tryd.prog Γm 35 [txV x] [] (.v (.string (prT x))) [] [] :=
  answers (fn := Tryd.f35) (c := bodyOf Tryd.f35) (ntmps := 35) (results := [.tmp 2]) [kPrR] Lno false Tryd.func35 (by kernel_rfl) (by kernel_rfl) (by kernel_rfl) (by kernel_rfl) (by simp) rfl (noLoops (by kernel_rfl)) <| Meets.of (runPQ x) <| by
    obtain ⟨hs, hn, ha⟩ := h
    have z1 := pr_size hn
    have z2 := pr_size ha
    have s1 := hs.1
    have s2 := hs.2.1
    have s3 := hs.2.2.1
    have s4 := hs.2.2.2
    simp only [ByteArray.size_append, szM, List.length_cons, List.length_nil]
    by_cases hk : x.k = 1
    · have hp : prT x = mvS x := if_pos hk
      repeat' (first | refine wC (by first | omega | (simp only [W1, cond_true, cond_false, hn, ha, hp]; first | done | omega)) ?_ | refine wT (by first | omega | (simp only [W1, cond_true, cond_false, hn, ha, hp]; first | done | omega)) ?_ | refine wF (by intro _h; first | omega | (simp only [W1, cond_true, cond_false, hn, ha, hp] at _h; first | done | omega)) ?_ | (refine wS ?_ ?_ <;> intro _h <;> simp only [W1, cond_true, cond_false, hn, ha, hp] at _h))
      all_goals simp only [W1, W2, owesN, owesX, owesR, cond_true, cond_false, hn, ha, hp]
      repeat' (first | apply And.intro | intro _hc)
      all_goals first | exact leS rfl | exact AV.le_refl _ | exact AV.le_any _ | exact OLe.refl _ | exact OLe.none _ | exact LeH.refl _ | exact LeL.refl _ | exact AV.le.bs _ | exact AV.le.sb _ | omega | contradiction
    · have hp : prT x = ptS x := if_neg hk
      repeat' (first | refine wC (by first | omega | (simp only [W1, cond_true, cond_false, hn, ha, hp]; first | done | omega)) ?_ | refine wT (by first | omega | (simp only [W1, cond_true, cond_false, hn, ha, hp]; first | done | omega)) ?_ | refine wF (by intro _h; first | omega | (simp only [W1, cond_true, cond_false, hn, ha, hp] at _h; first | done | omega)) ?_ | (refine wS ?_ ?_ <;> intro _h <;> simp only [W1, cond_true, cond_false, hn, ha, hp] at _h))
      all_goals simp only [W1, W2, owesN, owesX, owesR, cond_true, cond_false, hn, ha, hp]
      repeat' (first | apply And.intro | intro _hc)
      all_goals first | exact leS rfl | exact AV.le_refl _ | exact AV.le_any _ | exact OLe.refl _ | exact OLe.none _ | exact LeH.refl _ | exact LeL.refl _ | exact AV.le.bs _ | exact AV.le.sb _ | omega | contradiction
end Go.Eng.TA

/- wire: copies of bytes, and the bytes of a number: what the program answers. -/
namespace Go.Eng.TA
open Go Go.Eng Go.Eng.M Go.Lib Go.Proofs
set_option linter.unusedSimpArgs false
set_option linter.unusedVariables false
/-- bytes as an argument: nil, of the caller's own, or only read -/
inductive BA where
  | nil
  | sl (t : ByteArray)
  | hs (t : ByteArray)
def BA.t : BA → ByteArray
  | .nil => ⟨#[]⟩
  | .sl t => t
  | .hs t => t
def BA.av : BA → AV
  | .nil => .v (.slice none 0 0)
  | .sl t => .sl 1 t.size (bsF t)
  | .hs t => .hs 0 0 t.size
def BA.bl : BA → List Blk
  | .hs t => [.arr 1 t.size (bsF t)]
  | _ => []
def BA.n : BA → Nat
  | .hs _ => 1
  | _ => 0
def small (t : ByteArray) : Prop := t.size ≤ 1000000000
theorem runCn  : bodyE (P := Tryd.prog) (Γ := Γm) [] Lno false 8 [.tmp 2] (bodyOf Tryd.f94) [.v (.slice none 0 0)] [] =
  Tree.leaf (Ans.mk (AV.v (Value.slice none (0 : Nat) (0 : Nat))) []) := by kernel_rfl
theorem runCs (t : ByteArray) : bodyE (P := Tryd.prog) (Γ := Γm) [] Lno false 8 [.tmp 2] (bodyOf Tryd.f94) [.sl 1 t.size (bsF t)] [] =
  Tree.chk (Nat.blt (0 : Nat) (ByteArray.size t) || mkd [AV.v (Value.int IntKind.u8 (sbyte t (ByteArray.size t)))]) (Tree.chk (roomOk (1 : Nat) ((0 : Nat) + ByteArray.size t)) (Tree.leaf
    (Ans.mk (AV.hs (0 : Nat) (0 : Nat) ((0 : Nat) + ByteArray.size t)) [some (Blk.arr (1 : Nat) ((0 : Nat) + ByteArray.size t) fun j => mixL (decide (j < (0 : Nat))) (chain [AV.v (Value.int
    IntKind.u8 (0 : Int))] (0 : Nat) [] ((0 : Nat) + j)) [AV.v (Value.int IntKind.u8 (sbyte t j))])]))) := by kernel_rfl
theorem runCh (t : ByteArray) : bodyE (P := Tryd.prog) (Γ := Γm) [] Lno false 8 [.tmp 2] (bodyOf Tryd.f94) [.hs 0 0 t.size] [.arr 1 t.size (bsF t)] =
  Tree.chk (Nat.blt (0 : Nat) (ByteArray.size t) || Nat.blt (0 : Nat) (ByteArray.size t)) (Tree.chk (roomOk (1 : Nat) ((0 : Nat) + ByteArray.size t)) (Tree.leaf (Ans.mk (AV.hs (1 : Nat) (0 :
    Nat) ((0 : Nat) + ByteArray.size t)) [some (Blk.arr (1 : Nat) (ByteArray.size t) fun j => [AV.v (Value.int IntKind.u8 (sbyte t j))]), some (Blk.arr (1 : Nat) ((0 : Nat) + ByteArray.size
    t) fun j => mixL (decide (j < (0 : Nat))) (chain [AV.v (Value.int IntKind.u8 (0 : Int))] (0 : Nat) [] ((0 : Nat) + j)) [AV.v (Value.int IntKind.u8 (sbyte t ((0 : Nat) + j)))])]))) := by kernel_rfl
def BA.ok : BA → Prop
  | .nil => True
  | .sl t => small t ∧ 0 < t.size
  | .hs t => small t ∧ 0 < t.size
theorem room {n : Nat} (h : n ≤ 2000000000) : roomOk 1 (0 + n) = true := by
  unfold roomOk
  exact decide_eq_true (by omega)
theorem room' {n : Nat} (h : n ≤ 2000000000) : roomOk 1 n = true := by
  unfold roomOk
  exact decide_eq_true (by omega)
theorem cut0 (t : ByteArray) (j : Nat) : (bif decide (j < (0 : Nat)) then (0 : Int) else sbyte t (j - (0 : Nat))) = sbyte t j := by
  rw [decide_eq_false (Nat.not_lt_zero _)]; rfl
theorem cut1 (t : ByteArray) (j : Nat) : (bif decide (j < (0 : Nat)) then (0 : Int) else sbyte t ((0 : Nat) + (j - (0 : Nat)))) = sbyte t j := by
  rw [decide_eq_false (Nat.not_lt_zero _), Nat.zero_add]; rfl
def cloneV : BA → AV
  | .nil => nilSlice
  | .sl t => .hs 0 0 t.size
  | .hs t => .hs 1 0 t.size
def cloneN : BA → List Blk
  | .nil => []
  | .sl t => [.arr 1 t.size (bsF t)]
  | .hs t => [.arr 1 t.size (bsF t)]
theorem cutU (t : ByteArray) : (fun j => mixL (decide (j < 0)) (chain [AV.v (Value.int IntKind.u8 0)] 0 [] j) [AV.v (Value.int IntKind.u8 (sbyte t j))]) = bsF t := by
  funext j
  show mixL _ [AV.v (Value.int IntKind.u8 0)] _ = _
  rw [mixU, decide_eq_false (Nat.not_lt_zero j)]
  rfl
theorem cutO (t : ByteArray) : OLe (some (.arr 1 t.size fun j => mixL (decide (j < 0)) (chain [AV.v (Value.int IntKind.u8 0)] 0 [] j) [AV.v (Value.int IntKind.u8 (sbyte t j))])) (some (.arr 1 t.size (bsF t))) := by
  rw [cutU]; exact OLe.refl _
theorem ansClone (x : BA) (hp : x.ok) : Answers Tryd.prog Γm 94 [x.av] x.bl (cloneV x) (x.bl.map some) (cloneN x) := by
  cases x with
  | nil =>
    refine answers (fn := Tryd.f94) (c := bodyOf Tryd.f94) (ntmps := 8) (results := [.tmp 2]) [] (Lno) false Tryd.func94 (by kernel_rfl) (by kernel_rfl) (by kernel_rfl) (by kernel_rfl) (by simp) rfl (failOK fun _ _ _ => rfl) <| Meets.of (runCn) <| ?_
    repeat' (first | refine wC (by first | omega | (simp only [W1, cond_true, cond_false]; first | done | omega)) ?_ | refine wT (by first | omega | (simp only [W1, cond_true, cond_false]; first | done | omega)) ?_ | refine wF (by intro _h; first | omega | (simp only [W1, cond_true, cond_false] at _h; first | done | omega)) ?_ | (refine wS ?_ ?_ <;> intro _h <;> simp only [W1, cond_true, cond_false] at _h))
    all_goals simp only [W1, W2, owesN, owesX, owesR, cond_true, cond_false]
    repeat' (first | apply And.intro | intro _hc)
    all_goals first | exact AV.le_refl _ | exact AV.le_any _ | exact OLe.refl _ | exact OLe.none _ | exact LeH.refl _ | exact LeL.refl _ | exact AV.le.bs _ | exact AV.le.sb _ | omega | contradiction
  | sl t =>
    refine answers (fn := Tryd.f94) (c := bodyOf Tryd.f94) (ntmps := 8) (results := [.tmp 2]) [] (Lno) false Tryd.func94 (by kernel_rfl) (by kernel_rfl) (by kernel_rfl) (by kernel_rfl) (by simp) rfl (failOK fun _ _ _ => rfl) <| Meets.of (runCs t) <| ?_
    have h1 : Nat.blt 0 t.size = true := by rw [Nat.blt_eq]; exact hp.2
    have h2 : t.size ≤ 1000000000 := hp.1
    have hO := cutO t
    simp only [Nat.zero_add, h1, Bool.true_or]
    repeat' (first | refine wC (by first | omega | (simp only [W1, cond_true, cond_false]; first | done | omega)) ?_ | refine wT (by first | omega | (simp only [W1, cond_true, cond_false]; first | done | omega)) ?_ | refine wF (by intro _h; first | omega | (simp only [W1, cond_true, cond_false] at _h; first | done | omega)) ?_ | (refine wS ?_ ?_ <;> intro _h <;> simp only [W1, cond_true, cond_false] at _h))
    all_goals simp only [W1, W2, owesN, owesX, owesR, cond_true, cond_false]
    repeat' (first | apply And.intro | intro _hc)
    all_goals first | exact room' (by omega) | exact hO | exact ⟨hO, trivial⟩ | exact AV.le_refl _ | exact AV.le_any _ | exact OLe.refl _ | exact OLe.none _ | exact LeH.refl _ | exact LeL.refl _ | exact AV.le.bs _ | exact AV.le.sb _ | omega | contradiction
  | hs t =>
    refine answers (fn := Tryd.f94) (c := bodyOf Tryd.f94) (ntmps := 8) (results := [.tmp 2]) [] (Lno) false Tryd.func94 (by kernel_rfl) (by kernel_rfl) (by kernel_rfl) (by kernel_rfl) (by simp) rfl (failOK fun _ _ _ => rfl) <| Meets.of (runCh t) <| ?_
    have h1 : Nat.blt 0 t.size = true := by rw [Nat.blt_eq]; exact hp.2
    have h2 : t.size ≤ 1000000000 := hp.1
    have hO := cutO t
    simp only [Nat.zero_add, h1, Bool.true_or]
    repeat' (first | refine wC (by first | omega | (simp only [W1, cond_true, cond_false]; first | done | omega)) ?_ | refine wT (by first | omega | (simp only [W1, cond_true, cond_false]; first | done | omega)) ?_ | refine wF (by intro _h; first | omega | (simp only [W1, cond_true, cond_false] at _h; first | done | omega)) ?_ | (refine wS ?_ ?_ <;> intro _h <;> simp only [W1, cond_true, cond_false] at _h))
    all_goals simp only [W1, W2, owesN, owesX, owesR, cond_true, cond_false]
    repeat' (first | apply And.intro | intro _hc)
    all_goals first | exact room' (by omega) | exact hO | exact ⟨OLe.refl _, hO, trivial⟩ | exact AV.le_refl _ | exact AV.le_any _ | exact OLe.refl _ | exact OLe.none _ | exact LeH.refl _ | exact LeL.refl _ | exact AV.le.bs _ | exact AV.le.sb _ | omega | contradiction
/-! ### a number's bytes: the loop -/
noncomputable def loopN : Code := loopOf (bodyOf Tryd.f83) 0
theorem roundN0 (n : Nat) (t : ByteArray) : roundE (P := Tryd.prog) (Γ := Γm) [] Lno false 0 0 loopN [1, 6] [(1, 5)] 30 [.v (.int .i64 (n : Int)), .hs 0 0 t.size] [some (.arr 1 t.size (bsF t))] =
  Tree.br (decide ((128 : Int) ≤ (↑n : Int))) (Tree.chk (roomOk (1 : Nat) (ByteArray.size t + (1 : Nat))) (Tree.chk true (Tree.leaf (Out.mk AEx.normal [AV.v (Value.int IntKind.i64 (Int.fdiv
    (↑n : Int) ((2 : Int) ^ min (Int.toNat (7 : Int)) (64 : Nat)))), AV.hs (0 : Nat) (0 : Nat) (ByteArray.size t + (1 : Nat))] [some (Blk.arr (1 : Nat) (ByteArray.size t + (1 : Nat)) fun j
    => mixL (decide (j < ByteArray.size t)) [AV.v (Value.int IntKind.u8 (sbyte t ((0 : Nat) + j)))] (chain [AV.v (Value.int IntKind.u8 (0 : Int))] (0 : Nat) [[AV.v (Value.int IntKind.u8
    (bitI BinOp.or IntKind.u8 (IntKind.wrap IntKind.u8 (↑n : Int)) (128 : Int)))]] ((0 : Nat) + (j - ByteArray.size t))))])))) (Tree.leaf (Out.mk (AEx.exit (0 : Nat)) [AV.v (Value.int
    IntKind.i64 (↑n : Int)), AV.hs (0 : Nat) (0 : Nat) (ByteArray.size t)] [some (Blk.arr (1 : Nat) (ByteArray.size t) fun j => [AV.v (Value.int IntKind.u8 (sbyte t j))])])) := by kernel_rfl
theorem roundN1 (n : Nat) (t b : ByteArray) : roundE (P := Tryd.prog) (Γ := Γm) [] Lno false 1 0 loopN [1, 6] [(1, 5)] 30 [.v (.int .i64 (n : Int)), .hs 1 0 t.size] [some (.arr 1 b.size (bsF b)), some (.arr 1 t.size (bsF t))] =
  Tree.br (decide ((128 : Int) ≤ (↑n : Int))) (Tree.chk (roomOk (1 : Nat) (ByteArray.size t + (1 : Nat))) (Tree.chk true (Tree.leaf (Out.mk AEx.normal [AV.v (Value.int IntKind.i64 (Int.fdiv
    (↑n : Int) ((2 : Int) ^ min (Int.toNat (7 : Int)) (64 : Nat)))), AV.hs (1 : Nat) (0 : Nat) (ByteArray.size t + (1 : Nat))] [some (Blk.arr (1 : Nat) (ByteArray.size b) fun j => [AV.v
    (Value.int IntKind.u8 (sbyte b j))]), some (Blk.arr (1 : Nat) (ByteArray.size t + (1 : Nat)) fun j => mixL (decide (j < ByteArray.size t)) [AV.v (Value.int IntKind.u8 (sbyte t ((0 : Nat)
    + j)))] (chain [AV.v (Value.int IntKind.u8 (0 : Int))] (0 : Nat) [[AV.v (Value.int IntKind.u8 (bitI BinOp.or IntKind.u8 (IntKind.wrap IntKind.u8 (↑n : Int)) (128 : Int)))]] ((0 : Nat) +
    (j - ByteArray.size t))))])))) (Tree.leaf (Out.mk (AEx.exit (0 : Nat)) [AV.v (Value.int IntKind.i64 (↑n : Int)), AV.hs (1 : Nat) (0 : Nat) (ByteArray.size t)] [some (Blk.arr (1 : Nat)
    (ByteArray.size b) fun j => [AV.v (Value.int IntKind.u8 (sbyte b j))]), some (Blk.arr (1 : Nat) (ByteArray.size t) fun j => [AV.v (Value.int IntKind.u8 (sbyte t j))])])) := by kernel_rfl
def SN (a : BA) (n : Nat) (t : ByteArray) : List AV × Heap := ([.v (.int .i64 (n : Int)), .hs a.n 0 t.size], a.bl.map some ++ [some (.arr 1 t.size (bsF t))])
def preN (x : Nat × ByteArray) : Prop := x.1 ≤ 4611686018427387904 ∧ x.2.size + (hiB x.1).size ≤ 1000000100
def ON (a : BA) (n : Nat) (t : ByteArray) : Out := ⟨.exit 0, [.v (.int .i64 (loN n : Int)), .hs a.n 0 (t ++ hiB n).size], a.bl.map some ++ [some (.arr 1 (t ++ hiB n).size (bsF (t ++ hiB n)))]⟩
theorem stepN {n : Nat} {t : ByteArray} (hp : preN (n, t)) (h : 128 ≤ n) : ((n : Int).fdiv ((2 : Int) ^ min (Int.toNat (7 : Int)) (64 : Nat))) = ((n / 128 : Nat) : Int) ∧ (t ++ oneB (n % 128 + 128)).size = t.size + 1 ∧ t.size + 1 ≤ 1000000100 ∧
    preN (n / 128, t ++ oneB (n % 128 + 128)) ∧ (t ++ oneB (n % 128 + 128)) ++ hiB (n / 128) = t ++ hiB n ∧
    ∀ j, j < t.size + 1 → (bif decide (j < t.size) then sbyte t ((0 : Nat) + j) else bif ((0 : Nat) + (j - t.size)).beq (0 : Nat) then bitI BinOp.or IntKind.u8 (IntKind.u8.wrap (n : Int)) (128 : Int) else (0 : Int)) = sbyte (t ++ oneB (n % 128 + 128)) j := by
  have hge : ¬ n < 128 := by omega
  have e1 := hiB_ge hge
  have hp1 := hp.1
  have hp2 := hp.2
  simp only [e1, ByteArray.size_append, oneB_size] at hp2
  refine ⟨?_, by simp, by omega, ⟨?_, ?_⟩, ?_, fun j hj => ?_⟩
  · show (n : Int).fdiv 128 = _
    rw [Int.fdiv_eq_ediv_of_nonneg _ (by decide)]
    omega
  · show n / 128 ≤ _
    have : n / 128 ≤ n := Nat.div_le_self _ _
    simp only at hp1
    omega
  · simp only [ByteArray.size_append, oneB_size]; omega
  · rw [e1, ByteArray.append_assoc]
  · have hv : bitI BinOp.or IntKind.u8 (IntKind.u8.wrap (n : Int)) (128 : Int) = ((n % 128 + 128 : Nat) : Int) := by
      rw [wrapU8, or128 _ (by omega) (by omega)]
      omega
    rw [hv, push_eq (by omega) (by omega) hj, Int.toNat_natCast]
theorem loopN_ok (a : BA) : ∀ x : Nat × ByteArray, preN x → LoopOK Tryd.prog Γm a.bl.length 30 loopN (LSpec.at [1, 6] [(1, 5)] (SN a x.1 x.2) (ON a x.1 x.2)) := by
  refine loop_at (S := fun x : Nat × ByteArray => SN a x.1 x.2) (O := fun x => ON a x.1 x.2) (k := 0) (fun x => x.1) fun x hp => ⟨[], Lno, false, noLoops (by kernel_rfl), ?_⟩
  obtain ⟨n, t⟩ := x
  have fin : ¬ 128 ≤ n → hiB n = ⟨#[]⟩ ∧ loN n = n := fun h => ⟨hiB_lt (by omega), loN_lt (by omega)⟩
  have hd : (128 : Int) ≤ (n : Int) ↔ 128 ≤ n := by omega
  cases a with
  | hs b =>
    show (roundE (P := Tryd.prog) (Γ := Γm) [] Lno false 1 0 loopN [1, 6] [(1, 5)] 30 [.v (.int .i64 (n : Int)), .hs 1 0 t.size] [some (.arr 1 b.size (bsF b)), some (.arr 1 t.size (bsF t))]).sat _
    rw [roundN1]
    refine ⟨fun hc => ?_, fun hc => ?_⟩
    · have h := hd.1 (of_decide_eq_true hc)
      obtain ⟨s1, s2, s3, s4, s5, s6⟩ := stepN hp h
      refine ⟨room' (by omega), rfl, (n / 128, t ++ oneB (n % 128 + 128)), ?_, ?_, s4, ?_, ?_⟩
      · rw [s1]; exact ⟨.refl _, .of_eq (by rw [s2]; rfl), trivial⟩
      · exact ⟨.refl _, .arr s2.symm (fun j hj => by show mixL _ _ (mixL _ _ [AV.v (Value.int IntKind.u8 0)]) = _; rw [mixU, mixU, s6 j hj]; rfl) (fun _ => rfl), trivial⟩
      · simp only [ON]; rw [show loN (n / 128) = loN n from (loN_ge (by omega)).symm, s5]
      · show n / 128 < n; omega
    · have h := mt hd.2 (of_decide_eq_false hc)
      obtain ⟨f1, f2⟩ := fin h
      refine ⟨rfl, ?_, ?_⟩
      · simp only [ON, f1, f2, append_empty]; exact LeL.refl _
      · simp only [ON, f1, append_empty]; exact LeH.refl _
  | nil =>
    show (roundE (P := Tryd.prog) (Γ := Γm) [] Lno false 0 0 loopN [1, 6] [(1, 5)] 30 [.v (.int .i64 (n : Int)), .hs 0 0 t.size] [some (.arr 1 t.size (bsF t))]).sat _
    rw [roundN0]
    refine ⟨fun hc => ?_, fun hc => ?_⟩
    · have h := hd.1 (of_decide_eq_true hc)
      obtain ⟨s1, s2, s3, s4, s5, s6⟩ := stepN hp h
      refine ⟨room' (by omega), rfl, (n / 128, t ++ oneB (n % 128 + 128)), ?_, ?_, s4, ?_, ?_⟩
      · rw [s1]; exact ⟨.refl _, .of_eq (by rw [s2]; rfl), trivial⟩
      · exact ⟨.arr s2.symm (fun j hj => by show mixL _ _ (mixL _ _ [AV.v (Value.int IntKind.u8 0)]) = _; rw [mixU, mixU, s6 j hj]; rfl) (fun _ => rfl), trivial⟩
      · simp only [ON]; rw [show loN (n / 128) = loN n from (loN_ge (by omega)).symm, s5]
      · show n / 128 < n; omega
    · have h := mt hd.2 (of_decide_eq_false hc)
      obtain ⟨f1, f2⟩ := fin h
      refine ⟨rfl, ?_, ?_⟩
      · simp only [ON, f1, f2, append_empty]; exact LeL.refl _
      · simp only [ON, f1, append_empty]; exact LeH.refl _
  | sl b =>
    show (roundE (P := Tryd.prog) (Γ := Γm) [] Lno false 0 0 loopN [1, 6] [(1, 5)] 30 [.v (.int .i64 (n : Int)), .hs 0 0 t.size] [some (.arr 1 t.size (bsF t))]).sat _
    rw [roundN0]
    refine ⟨fun hc => ?_, fun hc => ?_⟩
    · have h := hd.1 (of_decide_eq_true hc)
      obtain ⟨s1, s2, s3, s4, s5, s6⟩ := stepN hp h
      refine ⟨room' (by omega), rfl, (n / 128, t ++ oneB (n % 128 + 128)), ?_, ?_, s4, ?_, ?_⟩
      · rw [s1]; exact ⟨.refl _, .of_eq (by rw [s2]; rfl), trivial⟩
      · exact ⟨.arr s2.symm (fun j hj => by show mixL _ _ (mixL _ _ [AV.v (Value.int IntKind.u8 0)]) = _; rw [mixU, mixU, s6 j hj]; rfl) (fun _ => rfl), trivial⟩
      · simp only [ON]; rw [show loN (n / 128) = loN n from (loN_ge (by omega)).symm, s5]
      · show n / 128 < n; omega
    · have h := mt hd.2 (of_decide_eq_false hc)
      obtain ⟨f1, f2⟩ := fin h
      refine ⟨rfl, ?_, ?_⟩
      · simp only [ON, f1, f2, append_empty]; exact LeL.refl _
      · simp only [ON, f1, append_empty]; exact LeH.refl _
noncomputable def LN (a : BA) (n : Nat) (t : ByteArray) : Nat → LSpec := fun _ => LSpec.at [1, 6] [(1, 5)] (SN a n t) (ON a n t)
theorem runNn (n : Nat) (h : BA.nil.ok) : bodyE (P := Tryd.prog) (Γ := Γm) [CT.at 94 (ansClone .nil h)] (LN .nil n ⟨#[]⟩) false 30 [.tmp 4, .tmp 5] (bodyOf Tryd.f83) [.v (.slice none 0 0), .v (.int .i64 (n : Int))] [] =
  Tree.br (bif decide ((↑n : Int) < (0 : Int)) then true else decide ((4611686018427387904 : Int) < (↑n : Int))) (Tree.leaf (Ans.mk (AV.tup [AV.v (Value.slice none (0 : Nat) (0 : Nat)), AV.v
    (Value.int IntKind.i64 (10 : Int))]) [])) (Tree.chk (cl (LeL [AV.v (Value.slice none (0 : Nat) (0 : Nat))] [AV.v (Value.slice none (0 : Nat) (0 : Nat))] ∧ LeH [] [])) (Tree.chk (cl (LeL
    [AV.v (Value.int IntKind.i64 (↑n : Int)), AV.hs (0 : Nat) (0 : Nat) (0 : Nat)] [AV.v (Value.int IntKind.i64 (↑n : Int)), AV.hs (0 : Nat) (0 : Nat) (0 : Nat)] ∧ LeH [some (Blk.arr (1 :
    Nat) (0 : Nat) fun x => [AV.v (Value.int IntKind.u8 (0 : Int))])] [some (Blk.arr (1 : Nat) (0 : Nat) fun j => [AV.v (Value.int IntKind.u8 (sbyte (ByteArray.mk #[]) j))])])) (Tree.chk
    (roomOk (1 : Nat) (ByteArray.size (ByteArray.mk #[] ++ hiB n) + (1 : Nat))) (Tree.leaf (Ans.mk (AV.tup [AV.hs (0 : Nat) (0 : Nat) (ByteArray.size (ByteArray.mk #[] ++ hiB n) + (1 :
    Nat)), AV.v (Value.int IntKind.i64 (0 : Int))]) [some (Blk.arr (1 : Nat) (ByteArray.size (ByteArray.mk #[] ++ hiB n) + (1 : Nat)) fun j => mixL (decide (j < ByteArray.size (ByteArray.mk
    #[] ++ hiB n))) [AV.v (Value.int IntKind.u8 (sbyte (ByteArray.mk #[] ++ hiB n) ((0 : Nat) + j)))] (chain [AV.v (Value.int IntKind.u8 (0 : Int))] (0 : Nat) [[AV.v (Value.int IntKind.u8
    (IntKind.wrap IntKind.u8 (↑(loN n) : Int)))]] ((0 : Nat) + (j - ByteArray.size (ByteArray.mk #[] ++ hiB n)))))]))))) := by kernel_rfl
theorem runNs (t : ByteArray) (n : Nat) (h : (BA.sl t).ok) : bodyE (P := Tryd.prog) (Γ := Γm) [CT.at 94 (ansClone (.sl t) h)] (LN (.sl t) n t) false 30 [.tmp 4, .tmp 5] (bodyOf Tryd.f83) [.sl 1 t.size (bsF t), .v (.int .i64 (n : Int))] [] =
  Tree.br (bif decide ((↑n : Int) < (0 : Int)) then true else decide ((4611686018427387904 : Int) < (↑n : Int))) (Tree.leaf (Ans.mk (AV.tup [AV.v (Value.slice none (0 : Nat) (0 : Nat)), AV.v
    (Value.int IntKind.i64 (10 : Int))]) [])) (Tree.chk (cl (LeL [AV.sl (1 : Nat) (ByteArray.size t) fun j => [AV.v (Value.int IntKind.u8 (sbyte t j))]] [AV.sl (1 : Nat) (ByteArray.size t)
    fun j => [AV.v (Value.int IntKind.u8 (sbyte t j))]] ∧ LeH [] [])) (Tree.chk (cl (LeL [AV.v (Value.int IntKind.i64 (↑n : Int)), AV.hs (0 : Nat) (0 : Nat) (ByteArray.size t)] [AV.v
    (Value.int IntKind.i64 (↑n : Int)), AV.hs (0 : Nat) (0 : Nat) (ByteArray.size t)] ∧ LeH [some (Blk.arr (1 : Nat) (ByteArray.size t) fun j => [AV.v (Value.int IntKind.u8 (sbyte t j))])]
    [some (Blk.arr (1 : Nat) (ByteArray.size t) fun j => [AV.v (Value.int IntKind.u8 (sbyte t j))])])) (Tree.chk (roomOk (1 : Nat) (ByteArray.size (t ++ hiB n) + (1 : Nat))) (Tree.leaf
    (Ans.mk (AV.tup [AV.hs (0 : Nat) (0 : Nat) (ByteArray.size (t ++ hiB n) + (1 : Nat)), AV.v (Value.int IntKind.i64 (0 : Int))]) [some (Blk.arr (1 : Nat) (ByteArray.size (t ++ hiB n) + (1
    : Nat)) fun j => mixL (decide (j < ByteArray.size (t ++ hiB n))) [AV.v (Value.int IntKind.u8 (sbyte (t ++ hiB n) ((0 : Nat) + j)))] (chain [AV.v (Value.int IntKind.u8 (0 : Int))] (0 :
    Nat) [[AV.v (Value.int IntKind.u8 (IntKind.wrap IntKind.u8 (↑(loN n) : Int)))]] ((0 : Nat) + (j - ByteArray.size (t ++ hiB n)))))]))))) := by kernel_rfl
theorem runNh (t : ByteArray) (n : Nat) (h : (BA.hs t).ok) : bodyE (P := Tryd.prog) (Γ := Γm) [CT.at 94 (ansClone (.hs t) h)] (LN (.hs t) n t) false 30 [.tmp 4, .tmp 5] (bodyOf Tryd.f83) [.hs 0 0 t.size, .v (.int .i64 (n : Int))] [.arr 1 t.size (bsF t)] =
  Tree.br (bif decide ((↑n : Int) < (0 : Int)) then true else decide ((4611686018427387904 : Int) < (↑n : Int))) (Tree.leaf (Ans.mk (AV.tup [AV.v (Value.slice none (0 : Nat) (0 : Nat)), AV.v
    (Value.int IntKind.i64 (10 : Int))]) [some (Blk.arr (1 : Nat) (ByteArray.size t) fun j => [AV.v (Value.int IntKind.u8 (sbyte t j))])])) (Tree.chk (cl (LeL [AV.hs (0 : Nat) (0 : Nat)
    (ByteArray.size t)] [AV.hs (0 : Nat) (0 : Nat) (ByteArray.size t)] ∧ LeH [some (Blk.arr (1 : Nat) (ByteArray.size t) fun j => [AV.v (Value.int IntKind.u8 (sbyte t j))])] [some (Blk.arr
    (1 : Nat) (ByteArray.size t) fun j => [AV.v (Value.int IntKind.u8 (sbyte t j))])])) (Tree.chk (cl (LeL [AV.v (Value.int IntKind.i64 (↑n : Int)), AV.hs (1 : Nat) (0 : Nat) (ByteArray.size
    t)] [AV.v (Value.int IntKind.i64 (↑n : Int)), AV.hs (1 : Nat) (0 : Nat) (ByteArray.size t)] ∧ LeH [some (Blk.arr (1 : Nat) (ByteArray.size t) fun j => [AV.v (Value.int IntKind.u8 (sbyte
    t j))]), some (Blk.arr (1 : Nat) (ByteArray.size t) fun j => [AV.v (Value.int IntKind.u8 (sbyte t j))])] [some (Blk.arr (1 : Nat) (ByteArray.size t) fun j => [AV.v (Value.int IntKind.u8
    (sbyte t j))]), some (Blk.arr (1 : Nat) (ByteArray.size t) fun j => [AV.v (Value.int IntKind.u8 (sbyte t j))])])) (Tree.chk (roomOk (1 : Nat) (ByteArray.size (t ++ hiB n) + (1 : Nat)))
    (Tree.leaf (Ans.mk (AV.tup [AV.hs (1 : Nat) (0 : Nat) (ByteArray.size (t ++ hiB n) + (1 : Nat)), AV.v (Value.int IntKind.i64 (0 : Int))]) [some (Blk.arr (1 : Nat) (ByteArray.size t) fun
    j => [AV.v (Value.int IntKind.u8 (sbyte t j))]), some (Blk.arr (1 : Nat) (ByteArray.size (t ++ hiB n) + (1 : Nat)) fun j => mixL (decide (j < ByteArray.size (t ++ hiB n))) [AV.v
    (Value.int IntKind.u8 (sbyte (t ++ hiB n) ((0 : Nat) + j)))] (chain [AV.v (Value.int IntKind.u8 (0 : Int))] (0 : Nat) [[AV.v (Value.int IntKind.u8 (IntKind.wrap IntKind.u8 (↑(loN n) :
    Int)))]] ((0 : Nat) + (j - ByteArray.size (t ++ hiB n)))))]))))) := by kernel_rfl
theorem runXn (n : Int) (h : BA.nil.ok) : bodyE (P := Tryd.prog) (Γ := Γm) [CT.at 94 (ansClone .nil h)] Lno false 30 [.tmp 4, .tmp 5] (bodyOf Tryd.f83) [.v (.slice none 0 0), .v (.int .i64 n)] [] =
  Tree.br (bif decide (n < (0 : Int)) then true else decide ((4611686018427387904 : Int) < n)) (Tree.leaf (Ans.mk (AV.tup [AV.v (Value.slice none (0 : Nat) (0 : Nat)), AV.v (Value.int
    IntKind.i64 (10 : Int))]) [])) (Tree.chk (cl (LeL [AV.v (Value.slice none (0 : Nat) (0 : Nat))] [AV.v (Value.slice none (0 : Nat) (0 : Nat))] ∧ LeH [] [])) Tree.fail) := by kernel_rfl
theorem runXs (t : ByteArray) (n : Int) (h : (BA.sl t).ok) : bodyE (P := Tryd.prog) (Γ := Γm) [CT.at 94 (ansClone (.sl t) h)] Lno false 30 [.tmp 4, .tmp 5] (bodyOf Tryd.f83) [.sl 1 t.size (bsF t), .v (.int .i64 n)] [] =
  Tree.br (bif decide (n < (0 : Int)) then true else decide ((4611686018427387904 : Int) < n)) (Tree.leaf (Ans.mk (AV.tup [AV.v (Value.slice none (0 : Nat) (0 : Nat)), AV.v (Value.int
    IntKind.i64 (10 : Int))]) [])) (Tree.chk (cl (LeL [AV.sl (1 : Nat) (ByteArray.size t) fun j => [AV.v (Value.int IntKind.u8 (sbyte t j))]] [AV.sl (1 : Nat) (ByteArray.size t) fun j =>
    [AV.v (Value.int IntKind.u8 (sbyte t j))]] ∧ LeH [] [])) Tree.fail) := by kernel_rfl
theorem runXh (t : ByteArray) (n : Int) (h : (BA.hs t).ok) : bodyE (P := Tryd.prog) (Γ := Γm) [CT.at 94 (ansClone (.hs t) h)] Lno false 30 [.tmp 4, .tmp 5] (bodyOf Tryd.f83) [.hs 0 0 t.size, .v (.int .i64 n)] [.arr 1 t.size (bsF t)] =
  Tree.br (bif decide (n < (0 : Int)) then true else decide ((4611686018427387904 : Int) < n)) (Tree.leaf (Ans.mk (AV.tup [AV.v (Value.slice none (0 : Nat) (0 : Nat)), AV.v (Value.int
    IntKind.i64 (10 : Int))]) [some (Blk.arr (1 : Nat) (ByteArray.size t) fun j => [AV.v (Value.int IntKind.u8 (sbyte t j))])])) (Tree.chk (cl (LeL [AV.hs (0 : Nat) (0 : Nat) (ByteArray.size
    t)] [AV.hs (0 : Nat) (0 : Nat) (ByteArray.size t)] ∧ LeH [some (Blk.arr (1 : Nat) (ByteArray.size t) fun j => [AV.v (Value.int IntKind.u8 (sbyte t j))])] [some (Blk.arr (1 : Nat)
    (ByteArray.size t) fun j => [AV.v (Value.int IntKind.u8 (sbyte t j))])])) Tree.fail) := by kernel_rfl
theorem BA.ok_small : ∀ {a : BA}, a.ok → small a.t
  | .nil, _ => by unfold small BA.t; decide
  | .sl _, h => h.1
  | .hs _, h => h.1
theorem numTail (t : ByteArray) (n : Nat) : (t ++ hiB n).size + 1 = (t ++ numB n).size ∧ ∀ j, j < (t ++ hiB n).size + 1 →
    (bif decide (j < (t ++ hiB n).size) then sbyte (t ++ hiB n) ((0 : Nat) + j) else bif ((0 : Nat) + (j - (t ++ hiB n).size)).beq (0 : Nat) then IntKind.u8.wrap (loN n : Int) else (0 : Int)) = sbyte (t ++ numB n) j := by
  have hl := loN_small n
  refine ⟨by simp [numB]; omega, fun j hj => ?_⟩
  have e : IntKind.u8.wrap (loN n : Int) = ((loN n : Nat) : Int) := by rw [wrapU8]; omega
  rw [e, push_eq (by omega) (by omega) hj, Int.toNat_natCast, numB, ByteArray.append_assoc]
theorem pre_of {t : ByteArray} {n : Nat} (h : small t) (hn : n ≤ 4611686018427387904) : preN (n, t) := by
  have := numB_size hn
  unfold numB at this
  simp only [ByteArray.size_append, oneB_size] at this
  unfold small at h
  refine ⟨hn, ?_⟩
  show t.size + (hiB n).size ≤ _
  omega
theorem notBad {n : Nat} (hn : n ≤ 4611686018427387904) : (bif decide ((n : Int) < (0 : Int)) then true else decide ((4611686018427387904 : Int) < (n : Int))) = false := by
  rw [decide_eq_false (by omega), decide_eq_false (by omega)]; rfl
theorem isBad {n : Int} (hn : n < 0 ∨ 4611686018427387904 < n) : (bif decide (n < (0 : Int)) then true else decide ((4611686018427387904 : Int) < n)) = true := by
  by_cases h : n < 0
  · rw [decide_eq_true h]; rfl
  · rw [decide_eq_false h, decide_eq_true (by omega)]; rfl
theorem roomN {t : ByteArray} {n : Nat} (h : small t) (hn : n ≤ 4611686018427387904) : roomOk 1 ((t ++ hiB n).size + 1) = true := by
  have := (pre_of h hn).2
  simp only at this
  exact room' (by simp only [ByteArray.size_append]; omega)
theorem ansNum : ∀ (a : BA) (n : Nat), a.ok → n ≤ 4611686018427387904 → Answers Tryd.prog Γm 83 [a.av, .v (.int .i64 (n : Int))] a.bl (.tup [.hs a.n 0 (a.t ++ numB n).size, .v (.int .i64 0)]) (a.bl.map some) [.arr 1 (a.t ++ numB n).size (bsF (a.t ++ numB n))]
  | .nil, n, h, hn => answers (fn := Tryd.f83) (c := bodyOf Tryd.f83) (ntmps := 30) (results := [.tmp 4, .tmp 5]) [CT.at 94 (ansClone .nil h)] (LN .nil n ⟨#[]⟩) false Tryd.func83 (by kernel_rfl) (by kernel_rfl) (by kernel_rfl) (by kernel_rfl) (by simp) rfl
    (oneLoop (b := loopN) (by kernel_rfl) (loopN_ok .nil (n, ⟨#[]⟩) (pre_of (BA.ok_small h) hn)))
    (Meets.of (runNn n h) ⟨fun hc => by rw [notBad hn] at hc; simp at hc, fun _ => ⟨cl_iff.2 ⟨LeL.refl _, trivial⟩, cl_iff.2 ⟨LeL.refl _, .arr rfl (fun j hj => absurd hj (Nat.not_lt_zero _)) (fun _ => rfl), trivial⟩, roomN (BA.ok_small h) hn, by
      obtain ⟨e1, e2⟩ := numTail ⟨#[]⟩ n
      exact ⟨.of_eq (by rw [e1]; rfl), .arr e1 (fun j hj => by show mixL _ _ (mixL _ _ [AV.v (Value.int IntKind.u8 0)]) = _; rw [mixU, mixU, e2 j hj]; rfl) (fun _ => rfl), trivial⟩⟩⟩)
  | .sl t, n, h, hn => answers (fn := Tryd.f83) (c := bodyOf Tryd.f83) (ntmps := 30) (results := [.tmp 4, .tmp 5]) [CT.at 94 (ansClone (.sl t) h)] (LN (.sl t) n t) false Tryd.func83 (by kernel_rfl) (by kernel_rfl) (by kernel_rfl) (by kernel_rfl) (by simp) rfl
    (oneLoop (b := loopN) (by kernel_rfl) (loopN_ok (.sl t) (n, t) (pre_of (BA.ok_small h) hn)))
    (Meets.of (runNs t n h) ⟨fun hc => by rw [notBad hn] at hc; simp at hc, fun _ => ⟨cl_iff.2 ⟨LeL.refl _, LeH.refl _⟩, cl_iff.2 ⟨LeL.refl _, LeH.refl _⟩, roomN (BA.ok_small h) hn, by
      obtain ⟨e1, e2⟩ := numTail t n
      exact ⟨.of_eq (by rw [e1]; rfl), .arr e1 (fun j hj => by show mixL _ _ (mixL _ _ [AV.v (Value.int IntKind.u8 0)]) = _; rw [mixU, mixU, e2 j hj]; rfl) (fun _ => rfl), trivial⟩⟩⟩)
  | .hs t, n, h, hn => answers (fn := Tryd.f83) (c := bodyOf Tryd.f83) (ntmps := 30) (results := [.tmp 4, .tmp 5]) [CT.at 94 (ansClone (.hs t) h)] (LN (.hs t) n t) false Tryd.func83 (by kernel_rfl) (by kernel_rfl) (by kernel_rfl) (by kernel_rfl) (by simp) rfl
    (oneLoop (b := loopN) (by kernel_rfl) (loopN_ok (.hs t) (n, t) (pre_of (BA.ok_small h) hn)))
    (Meets.of (runNh t n h) ⟨fun hc => by rw [notBad hn] at hc; simp at hc, fun _ => ⟨cl_iff.2 ⟨LeL.refl _, LeH.refl _⟩, cl_iff.2 ⟨LeL.refl _, LeH.refl _⟩, roomN (BA.ok_small h) hn, by
      obtain ⟨e1, e2⟩ := numTail t n
      exact ⟨.of_eq (by rw [e1]; rfl), .refl _, .arr e1 (fun j hj => by show mixL _ _ (mixL _ _ [AV.v (Value.int IntKind.u8 0)]) = _; rw [mixU, mixU, e2 j hj]; rfl) (fun _ => rfl), trivial⟩⟩⟩)
theorem ansBad : ∀ (a : BA) (n : Int), a.ok → n < 0 ∨ 4611686018427387904 < n → Answers Tryd.prog Γm 83 [a.av, .v (.int .i64 n)] a.bl (.tup [.v (.slice none 0 0), .v (.int .i64 10)]) (a.bl.map some) []
  | .nil, n, h, hn => answers (fn := Tryd.f83) (c := bodyOf Tryd.f83) (ntmps := 30) (results := [.tmp 4, .tmp 5]) [CT.at 94 (ansClone .nil h)] Lno false Tryd.func83 (by kernel_rfl) (by kernel_rfl) (by kernel_rfl) (by kernel_rfl) (by simp) rfl
    (fun _ _ _ => fail_ok) (Meets.of (runXn n h) ⟨fun _ => ⟨.refl _, trivial⟩, fun hc => by rw [isBad hn] at hc; simp at hc⟩)
  | .sl t, n, h, hn => answers (fn := Tryd.f83) (c := bodyOf Tryd.f83) (ntmps := 30) (results := [.tmp 4, .tmp 5]) [CT.at 94 (ansClone (.sl t) h)] Lno false Tryd.func83 (by kernel_rfl) (by kernel_rfl) (by kernel_rfl) (by kernel_rfl) (by simp) rfl
    (fun _ _ _ => fail_ok) (Meets.of (runXs t n h) ⟨fun _ => ⟨.refl _, trivial⟩, fun hc => by rw [isBad hn] at hc; simp at hc⟩)
  | .hs t, n, h, hn => answers (fn := Tryd.f83) (c := bodyOf Tryd.f83) (ntmps := 30) (results := [.tmp 4, .tmp 5]) [CT.at 94 (ansClone (.hs t) h)] Lno false Tryd.func83 (by kernel_rfl) (by kernel_rfl) (by kernel_rfl) (by kernel_rfl) (by simp) rfl
    (fun _ _ _ => fail_ok) (Meets.of (runXh t n h) ⟨fun _ => ⟨.refl _, .refl _, trivial⟩, fun hc => by rw [isBad hn] at hc; simp at hc⟩)
end Go.Eng.TA

/- wire: the bytes of a number: what the document answers. -/
namespace Go.Eng.TA
open Go Go.Eng Go.Proofs
set_option linter.unusedSimpArgs false
set_option linter.unusedVariables false
noncomputable def loopR : Code := loopOf (bodyOf Tryd.f86) 0
theorem roundR (n : Nat) (t : ByteArray) : roundE (P := Tryd.prog) (Γ := Γm) [] Lno false 0 0 loopR [0, 4] [] 29 [.v (.int .i64 (n : Int)), .v (.string t)] [] =
  Tree.br (decide ((127 : Int) < (↑n : Int))) (Tree.chk true (Tree.chk (allBytes (1 : Nat) fun j => chain [AV.v (Value.int IntKind.u8 (0 : Int))] (0 : Nat) [[AV.v (Value.int IntKind.u8
    (IntKind.wrap IntKind.u8 (IntKind.wrap IntKind.i64 (Int.tmod (↑n : Int) (128 : Int) + (128 : Int)))))]] ((0 : Nat) + j)) (Tree.chk (decide (ByteArray.size t + (1 : Nat) ≤
    (9223372036854775807 : Nat))) (Tree.chk true (Tree.leaf (Out.mk AEx.normal [AV.v (Value.int IntKind.i64 (IntKind.wrap IntKind.i64 (Int.tdiv (↑n : Int) (128 : Int)))), AV.v (Value.string
    (t ++ textOf (1 : Nat) fun j => chain [AV.v (Value.int IntKind.u8 (0 : Int))] (0 : Nat) [[AV.v (Value.int IntKind.u8 (IntKind.wrap IntKind.u8 (IntKind.wrap IntKind.i64 (Int.tmod (↑n :
    Int) (128 : Int) + (128 : Int)))))]] ((0 : Nat) + j)))] [])))))) (Tree.leaf (Out.mk (AEx.exit (0 : Nat)) [AV.v (Value.int IntKind.i64 (↑n : Int)), AV.v (Value.string t)] [])) := by kernel_rfl
def SR (n : Nat) (t : ByteArray) : List AV × Heap := ([.v (.int .i64 (n : Int)), .v (.string t)], [])
def OR (n : Nat) (t : ByteArray) : Out := ⟨.exit 0, [.v (.int .i64 (loN n : Int)), .v (.string (t ++ hiB n))], []⟩
theorem digitR (n : Nat) : IntKind.u8.wrap (IntKind.i64.wrap ((n : Int).tmod (128 : Int) + (128 : Int))) = ((n % 128 + 128 : Nat) : Int) := by
  rw [show (128 : Int) = ((128 : Nat) : Int) from rfl, tmod_nat, wrap64E, wrapU8]
  omega
theorem loopR_ok : ∀ x : Nat × ByteArray, preN x → LoopOK Tryd.prog Γm 0 29 loopR (LSpec.at [0, 4] [] (SR x.1 x.2) (OR x.1 x.2)) := by
  refine loop_at (S := fun x : Nat × ByteArray => SR x.1 x.2) (O := fun x => OR x.1 x.2) (k := 0) (fun x => x.1) fun x hp => ⟨[], Lno, false, noLoops (by kernel_rfl), ?_⟩
  obtain ⟨n, t⟩ := x
  show (roundE (P := Tryd.prog) (Γ := Γm) [] Lno false 0 0 loopR [0, 4] [] 29 [.v (.int .i64 (n : Int)), .v (.string t)] []).sat _
  rw [roundR]
  have hp1 : n ≤ 4611686018427387904 := hp.1
  have hp2 : t.size + (hiB n).size ≤ 1000000100 := hp.2
  refine ⟨fun hc => ?_, fun hc => ?_⟩
  · have h : (127 : Int) < (n : Int) := of_decide_eq_true hc
    have hge : ¬ n < 128 := by omega
    have e1 := hiB_ge hge
    rw [e1] at hp2
    simp only [ByteArray.size_append, oneB_size] at hp2
    have e2 : IntKind.i64.wrap ((n : Int).tdiv (128 : Int)) = ((n / 128 : Nat) : Int) := by
      rw [show (128 : Int) = ((128 : Nat) : Int) from rfl, tdiv_nat, wrap64E]
      omega
    refine ⟨rfl, rfl, decide_eq_true (by omega), rfl, (n / 128, t ++ oneB (n % 128 + 128)), ?_, trivial, ⟨?_, ?_⟩, ?_, ?_⟩
    · simp only [textOf_one, digitR, Int.toNat_natCast, e2]
      exact ⟨.refl _, .refl _, trivial⟩
    · show n / 128 ≤ _; omega
    · show (t ++ oneB (n % 128 + 128)).size + (hiB (n / 128)).size ≤ _
      simp only [ByteArray.size_append, oneB_size]; omega
    · simp only [OR]; rw [show loN (n / 128) = loN n from (loN_ge hge).symm, e1, ByteArray.append_assoc]
    · show n / 128 < n; omega
  · have h : ¬ (127 : Int) < (n : Int) := of_decide_eq_false hc
    refine ⟨rfl, ?_, trivial⟩
    simp only [OR, hiB_lt (show n < 128 by omega), loN_lt (show n < 128 by omega), append_empty]
    exact LeL.refl _
/-- may a number be written? -/
def okN (n : Int) : Bool := decide (0 ≤ n) && decide (n ≤ 4611686018427387904)
def capN (n : Int) : Nat := min n.toNat 4611686018427387904
theorem capN_nat {k : Nat} (h : k ≤ 4611686018427387904) : capN (k : Int) = k := by
  unfold capN
  rw [Int.toNat_natCast]
  exact Nat.min_eq_left h
noncomputable def LR : List KC → Nat → LSpec
  | [.i n] => fun _ => LSpec.at [0, 4] [] (SR (capN n) ⟨#[]⟩) (OR (capN n) ⟨#[]⟩)
  | _ => Lno
noncomputable def gR : List KC → AV
  | [.i n] => .tup [.v (.string (bif okN n then numB n.toNat else ⟨#[]⟩)), .sb (okN n)]
  | _ => .any
theorem runR (n : Int) : bodyE (P := Tryd.prog) (Γ := Γm) [] (LR [.i n]) false 29 [.tmp 2, .tmp 3] (bodyOf Tryd.f86) [.v (.int .i64 n)] [] =
  Tree.br (bif decide (n < (0 : Int)) then true else decide ((4611686018427387904 : Int) < n)) (Tree.leaf (Ans.mk (AV.tup [AV.v (Value.string (ByteArray.mk #[])), AV.v (Value.bool false)])
    [])) (Tree.chk (cl (LeL [AV.v (Value.int IntKind.i64 n), AV.v (Value.string (ByteArray.mk #[]))] [AV.v (Value.int IntKind.i64 (↑(capN n) : Int)), AV.v (Value.string (ByteArray.mk #[]))]
    ∧ LeH [] [])) (Tree.chk (allBytes (1 : Nat) fun j => chain [AV.v (Value.int IntKind.u8 (0 : Int))] (0 : Nat) [[AV.v (Value.int IntKind.u8 (IntKind.wrap IntKind.u8 (↑(loN (capN n)) :
    Int)))]] ((0 : Nat) + j)) (Tree.chk (decide (ByteArray.size (ByteArray.mk #[] ++ hiB (capN n)) + (1 : Nat) ≤ (9223372036854775807 : Nat))) (Tree.leaf (Ans.mk (AV.tup [AV.v (Value.string
    (ByteArray.mk #[] ++ hiB (capN n) ++ textOf (1 : Nat) fun j => chain [AV.v (Value.int IntKind.u8 (0 : Int))] (0 : Nat) [[AV.v (Value.int IntKind.u8 (IntKind.wrap IntKind.u8 (↑(loN (capN
    n)) : Int)))]] ((0 : Nat) + j))), AV.v (Value.bool true)]) []))))) := by kernel_rfl
theorem badN (n : Int) : (bif decide (n < (0 : Int)) then true else decide ((4611686018427387904 : Int) < n)) = !okN n := by
  unfold okN
  by_cases h : n < 0
  · rw [decide_eq_true h, decide_eq_false (show ¬ 0 ≤ n by omega)]; rfl
  · rw [decide_eq_false h, decide_eq_true (show 0 ≤ n by omega)]
    by_cases h2 : 4611686018427387904 < n
    · rw [decide_eq_true h2, decide_eq_false (show ¬ n ≤ 4611686018427387904 by omega)]; rfl
    · rw [decide_eq_false h2, decide_eq_true (show n ≤ 4611686018427387904 by omega)]; rfl
theorem okN_nat {n : Int} (h : okN n = true) : ∃ k : Nat, n = k ∧ k ≤ 4611686018427387904 := by
  unfold okN at h
  simp only [Bool.and_eq_true, decide_eq_true_eq] at h
  exact ⟨n.toNat, by omega, by omega⟩
theorem small_nil : small ⟨#[]⟩ := by unfold small; decide
theorem givesR (n : Int) : Gives (bodyE (P := Tryd.prog) (Γ := Γm) [] (LR [.i n]) false 29 [.tmp 2, .tmp 3] (bodyOf Tryd.f86) [.v (.int .i64 n)] []) (.tup [.v (.string (bif okN n then numB n.toNat else ⟨#[]⟩)), .sb (okN n)]) := by
  refine Gives.of (runR n) ?_
  rw [badN]
  cases hok : okN n with
  | false => exact ⟨fun _ => ⟨le_tup ⟨.refl _, .bs _, trivial⟩, trivial⟩, fun hc => by simp at hc⟩
  | true =>
    obtain ⟨k, rfl, hk⟩ := okN_nat hok
    have hl := loN_small k
    have hp : ((⟨#[]⟩ : ByteArray).size) + (hiB k).size ≤ 1000000100 := (pre_of small_nil hk).2
    have e : IntKind.u8.wrap (loN k : Int) = ((loN k : Nat) : Int) := by rw [wrapU8]; omega
    refine ⟨fun hc => by simp at hc, fun _ => ⟨cl_iff.2 ⟨by rw [capN_nat hk]; exact LeL.refl _, trivial⟩, rfl, decide_eq_true (by rw [capN_nat hk]; simp only [ByteArray.size_append] at *; omega), ?_, trivial⟩⟩
    simp only [capN_nat hk, Int.toNat_natCast, textOf_one, e, empty_append]
    exact le_tup ⟨.refl _, .bs _, trivial⟩
theorem fit1c {c : Cel} {l : List KC} (h : kFit [c] l = true) : ∃ x, l = [x] ∧ kcFit c x = true := by
  match l, h with
  | [x], h => simp only [kFit, Bool.and_true] at h; exact ⟨x, rfl, h⟩
  | [], h => simp [kFit] at h
  | _ :: _ :: _, h => simp [kFit] at h
noncomputable def Z.c86 : CT Tryd.prog Γm := CT.funL 86 Tryd.f86 (bodyOf Tryd.f86) [] LR false 29 [.tmp 2, .tmp 3] [.c (.int .i64)] (fun l => match l with | [.i n] => true | _ => false) gR Tryd.func86 (by kernel_rfl) (by kernel_rfl) (by kernel_rfl) (by kernel_rfl) (by decide)
  (fun l h _ => by
    obtain ⟨x, rfl, hx⟩ := fit1c h
    cases x <;> simp [kcFit] at hx
    rename_i n _
    exact oneLoop (b := loopR) (by kernel_rfl) (loopR_ok (capN n, ⟨#[]⟩) (pre_of small_nil (Nat.min_le_right _ _))))
  (fun l h _ => by
    obtain ⟨x, rfl, hx⟩ := fit1c h
    cases x <;> simp [kcFit] at hx
    exact givesR _)
end Go.Eng.TA

/- wire: a text's bytes, the bytes of many numbers. -/
namespace Go.Eng.TA
open Go Go.Eng Go.Proofs
set_option linter.unusedSimpArgs false
set_option linter.unusedVariables false
/-- numbers as an argument -/
inductive NA where
  | nil
  | sl (m : Nat) (g : Nat → Int)
  | hs (m : Nat) (g : Nat → Int)
def NA.m : NA → Nat
  | .nil => 0
  | .sl m _ => m
  | .hs m _ => m
def NA.g : NA → Nat → Int
  | .nil => fun _ => 0
  | .sl _ g => g
  | .hs _ g => g
def i64F (g : Nat → Int) : Nat → List AV := fun j => [.v (.int .i64 (g j))]
def NA.av : NA → AV
  | .nil => .v (.slice none 0 0)
  | .sl m g => .sl 1 m (i64F g)
  | .hs m _ => .hs 0 0 m
def NA.bl : NA → List Blk
  | .hs m g => [.arr 1 m (i64F g)]
  | _ => []
def NA.k : NA → Nat
  | .hs _ _ => 1
  | _ => 0
/-- the bytes of the first numbers -/
def catN (g : Nat → Int) : Nat → ByteArray
  | 0 => ⟨#[]⟩
  | i + 1 => catN g i ++ numB (g i).toNat
def outV (k : Nat) (g : Nat → Int) : Nat → AV
  | 0 => .v (.slice none 0 0)
  | i + 1 => .hs k 0 (catN g (i + 1)).size
def outB (g : Nat → Int) : Nat → Heap
  | 0 => []
  | i + 1 => [some (.arr 1 (catN g (i + 1)).size (bsF (catN g (i + 1))))]
noncomputable def loopM : Code := loopOf (bodyOf Tryd.f81) 0
def SM (a : NA) (i : Nat) : List AV × Heap := ([.any, .any, outV a.k a.g i, a.av, .v (.int .i64 (a.m : Int)), .v (.int .i64 (i : Int))], a.bl.map some ++ outB a.g i)
def OMg (a : NA) : Out := ⟨.exit 0, [.any, .any, outV a.k a.g a.m, .any, .any, .any], a.bl.map some ++ outB a.g a.m⟩
def OMb (a : NA) : Out := ⟨.ret, [.v (.slice none 0 0), .v (.int .i64 10), .any, .any, .any, .any], a.bl.map some⟩
theorem catN_small {g : Nat → Int} : ∀ {i : Nat}, (∀ j, j < i → okN (g j) = true) → (catN g i).size ≤ 9 * i ∧ (0 < i → 0 < (catN g i).size)
  | 0, _ => ⟨Nat.zero_le _, fun h => by omega⟩
  | i + 1, h => by
    obtain ⟨h1, _⟩ := catN_small (g := g) (i := i) fun j hj => h j (by omega)
    obtain ⟨k, hk, hk2⟩ := okN_nat (h i (by omega))
    have := numB_size hk2
    simp only [catN, ByteArray.size_append, hk, Int.toNat_natCast]
    omega
theorem small_cat {g : Nat → Int} {i : Nat} (h : ∀ j, j < i → okN (g j) = true) (hi : i ≤ 100000) : small (catN g i) := by
  have := (catN_small h).1
  unfold small; omega
theorem roundMn  : roundE (P := Tryd.prog) (Γ := Γm) [] Lno false 0 0 loopM [2, 3, 4, 8, 9, 10] [] 25 [.any, .any, .v (.slice none 0 0), .v (.slice none 0 0), .v (.int .i64 (0 : Nat)), .v (.int .i64 (0 : Nat))] [] =
  Tree.br false Tree.fail (Tree.leaf (Out.mk (AEx.exit (0 : Nat)) [AV.any, AV.any, AV.v (Value.slice none (0 : Nat) (0 : Nat)), AV.v (Value.slice none (0 : Nat) (0 : Nat)), AV.v (Value.int
    IntKind.i64 (↑(0 : Nat) : Int)), AV.v (Value.int IntKind.i64 (↑(0 : Nat) : Int))] [])) := by kernel_rfl
theorem roundMs0 (m : Nat) (g : Nat → Int) (n : Nat) (h : n ≤ 4611686018427387904) : roundE (P := Tryd.prog) (Γ := Γm) [CT.at 83 (ansNum .nil n trivial h)] Lno false 0 0 loopM [2, 3, 4, 8, 9, 10] [] 25 [.any, .any, .v (.slice none 0 0), .sl 1 m (i64F g), .v (.int .i64 (m : Int)), .v (.int .i64 (0 : Nat))] [] =
  Tree.br (decide ((↑(0 : Nat) : Int) < (↑m : Int))) (Tree.chk (decide ((↑(0 : Nat) : Int) < (↑m : Int))) (Tree.chk (cl (LeL [AV.v (Value.slice none (0 : Nat) (0 : Nat)), AV.v (Value.int
    IntKind.i64 (g (Int.toNat (↑(0 : Nat) : Int))))] [AV.v (Value.slice none (0 : Nat) (0 : Nat)), AV.v (Value.int IntKind.i64 (↑n : Int))] ∧ LeH [] [])) (Tree.br false (Tree.leaf (Out.mk
    AEx.ret [AV.v (Value.slice none (0 : Nat) (0 : Nat)), AV.v (Value.int IntKind.i64 (0 : Int)), AV.hs (0 : Nat) (0 : Nat) (ByteArray.size (BA.t BA.nil ++ numB n)), AV.sl (1 : Nat) m fun j
    => [AV.v (Value.int IntKind.i64 (g j))], AV.v (Value.int IntKind.i64 (↑m : Int)), AV.v (Value.int IntKind.i64 (↑(0 : Nat) : Int))] [some (Blk.arr (1 : Nat) (ByteArray.size (BA.t BA.nil
    ++ numB n)) fun j => [AV.v (Value.int IntKind.u8 (sbyte (BA.t BA.nil ++ numB n) j))])])) (Tree.leaf (Out.mk AEx.normal [AV.any, AV.any, AV.hs (0 : Nat) (0 : Nat) (ByteArray.size (BA.t
    BA.nil ++ numB n)), AV.sl (1 : Nat) m fun j => [AV.v (Value.int IntKind.i64 (g j))], AV.v (Value.int IntKind.i64 (↑m : Int)), AV.v (Value.int IntKind.i64 (IntKind.wrap IntKind.i64 ((↑(0
    : Nat) : Int) + (1 : Int))))] [some (Blk.arr (1 : Nat) (ByteArray.size (BA.t BA.nil ++ numB n)) fun j => [AV.v (Value.int IntKind.u8 (sbyte (BA.t BA.nil ++ numB n) j))])]))))) (Tree.leaf
    (Out.mk (AEx.exit (0 : Nat)) [AV.any, AV.any, AV.v (Value.slice none (0 : Nat) (0 : Nat)), AV.sl (1 : Nat) m fun j => [AV.v (Value.int IntKind.i64 (g j))], AV.v (Value.int IntKind.i64
    (↑m : Int)), AV.v (Value.int IntKind.i64 (↑(0 : Nat) : Int))] [])) := by kernel_rfl
theorem roundMs1 (m : Nat) (g : Nat → Int) (n i : Nat) (t : ByteArray) (ht : (BA.hs t).ok) (h : n ≤ 4611686018427387904) : roundE (P := Tryd.prog) (Γ := Γm) [CT.at 83 (ansNum (.hs t) n ht h)] Lno false 0 0 loopM [2, 3, 4, 8, 9, 10] [] 25 [.any, .any, .hs 0 0 t.size, .sl 1 m (i64F g), .v (.int .i64 (m : Int)), .v (.int .i64 (i : Int))] [some (.arr 1 t.size (bsF t))] =
  Tree.br (decide ((↑i : Int) < (↑m : Int))) (Tree.chk (decide ((0 : Int) ≤ (↑i : Int)) && decide ((↑i : Int) < (↑m : Int))) (Tree.chk (cl (LeL [AV.hs (0 : Nat) (0 : Nat) (ByteArray.size t),
    AV.v (Value.int IntKind.i64 (g (Int.toNat (↑i : Int))))] [AV.hs (0 : Nat) (0 : Nat) (ByteArray.size t), AV.v (Value.int IntKind.i64 (↑n : Int))] ∧ LeH [some (Blk.arr (1 : Nat)
    (ByteArray.size t) fun j => [AV.v (Value.int IntKind.u8 (sbyte t j))])] [some (Blk.arr (1 : Nat) (ByteArray.size t) fun j => [AV.v (Value.int IntKind.u8 (sbyte t j))])])) (Tree.br false
    (Tree.leaf (Out.mk AEx.ret [AV.v (Value.slice none (0 : Nat) (0 : Nat)), AV.v (Value.int IntKind.i64 (0 : Int)), AV.hs (0 : Nat) (0 : Nat) (ByteArray.size (BA.t (BA.hs t) ++ numB n)),
    AV.sl (1 : Nat) m fun j => [AV.v (Value.int IntKind.i64 (g j))], AV.v (Value.int IntKind.i64 (↑m : Int)), AV.v (Value.int IntKind.i64 (↑i : Int))] [some (Blk.arr (1 : Nat)
    (ByteArray.size (BA.t (BA.hs t) ++ numB n)) fun j => [AV.v (Value.int IntKind.u8 (sbyte (BA.t (BA.hs t) ++ numB n) j))])])) (Tree.leaf (Out.mk AEx.normal [AV.any, AV.any, AV.hs (0 : Nat)
    (0 : Nat) (ByteArray.size (BA.t (BA.hs t) ++ numB n)), AV.sl (1 : Nat) m fun j => [AV.v (Value.int IntKind.i64 (g j))], AV.v (Value.int IntKind.i64 (↑m : Int)), AV.v (Value.int
    IntKind.i64 (IntKind.wrap IntKind.i64 ((↑i : Int) + (1 : Int))))] [some (Blk.arr (1 : Nat) (ByteArray.size (BA.t (BA.hs t) ++ numB n)) fun j => [AV.v (Value.int IntKind.u8 (sbyte (BA.t
    (BA.hs t) ++ numB n) j))])]))))) (Tree.leaf (Out.mk (AEx.exit (0 : Nat)) [AV.any, AV.any, AV.hs (0 : Nat) (0 : Nat) (ByteArray.size t), AV.sl (1 : Nat) m fun j => [AV.v (Value.int
    IntKind.i64 (g j))], AV.v (Value.int IntKind.i64 (↑m : Int)), AV.v (Value.int IntKind.i64 (↑i : Int))] [some (Blk.arr (1 : Nat) (ByteArray.size t) fun j => [AV.v (Value.int IntKind.u8
    (sbyte t j))])])) := by kernel_rfl
theorem roundMh0 (m : Nat) (g : Nat → Int) (n : Nat) (h : n ≤ 4611686018427387904) : roundE (P := Tryd.prog) (Γ := Γm) [CT.at 83 (ansNum .nil n trivial h)] Lno false 1 0 loopM [2, 3, 4, 8, 9, 10] [] 25 [.any, .any, .v (.slice none 0 0), .hs 0 0 m, .v (.int .i64 (m : Int)), .v (.int .i64 (0 : Nat))] [some (.arr 1 m (i64F g))] =
  Tree.br (decide ((↑(0 : Nat) : Int) < (↑m : Int))) (Tree.chk (decide ((↑(0 : Nat) : Int) < (↑m : Int))) (Tree.chk (cl (LeL [AV.v (Value.slice none (0 : Nat) (0 : Nat)), AV.v (Value.int
    IntKind.i64 (g ((0 : Nat) + Int.toNat (↑(0 : Nat) : Int))))] [AV.v (Value.slice none (0 : Nat) (0 : Nat)), AV.v (Value.int IntKind.i64 (↑n : Int))] ∧ LeH [] [])) (Tree.br false
    (Tree.leaf (Out.mk AEx.ret [AV.v (Value.slice none (0 : Nat) (0 : Nat)), AV.v (Value.int IntKind.i64 (0 : Int)), AV.hs (1 : Nat) (0 : Nat) (ByteArray.size (BA.t BA.nil ++ numB n)), AV.hs
    (0 : Nat) (0 : Nat) m, AV.v (Value.int IntKind.i64 (↑m : Int)), AV.v (Value.int IntKind.i64 (↑(0 : Nat) : Int))] [some (Blk.arr (1 : Nat) m fun j => [AV.v (Value.int IntKind.i64 (g
    j))]), some (Blk.arr (1 : Nat) (ByteArray.size (BA.t BA.nil ++ numB n)) fun j => [AV.v (Value.int IntKind.u8 (sbyte (BA.t BA.nil ++ numB n) j))])])) (Tree.leaf (Out.mk AEx.normal
    [AV.any, AV.any, AV.hs (1 : Nat) (0 : Nat) (ByteArray.size (BA.t BA.nil ++ numB n)), AV.hs (0 : Nat) (0 : Nat) m, AV.v (Value.int IntKind.i64 (↑m : Int)), AV.v (Value.int IntKind.i64
    (IntKind.wrap IntKind.i64 ((↑(0 : Nat) : Int) + (1 : Int))))] [some (Blk.arr (1 : Nat) m fun j => [AV.v (Value.int IntKind.i64 (g j))]), some (Blk.arr (1 : Nat) (ByteArray.size (BA.t
    BA.nil ++ numB n)) fun j => [AV.v (Value.int IntKind.u8 (sbyte (BA.t BA.nil ++ numB n) j))])]))))) (Tree.leaf (Out.mk (AEx.exit (0 : Nat)) [AV.any, AV.any, AV.v (Value.slice none (0 :
    Nat) (0 : Nat)), AV.hs (0 : Nat) (0 : Nat) m, AV.v (Value.int IntKind.i64 (↑m : Int)), AV.v (Value.int IntKind.i64 (↑(0 : Nat) : Int))] [some (Blk.arr (1 : Nat) m fun j => [AV.v
    (Value.int IntKind.i64 (g j))])])) := by kernel_rfl
theorem roundMh1 (m : Nat) (g : Nat → Int) (n i : Nat) (t : ByteArray) (ht : (BA.hs t).ok) (h : n ≤ 4611686018427387904) : roundE (P := Tryd.prog) (Γ := Γm) [CT.at 83 (ansNum (.hs t) n ht h)] Lno false 1 0 loopM [2, 3, 4, 8, 9, 10] [] 25 [.any, .any, .hs 1 0 t.size, .hs 0 0 m, .v (.int .i64 (m : Int)), .v (.int .i64 (i : Int))] [some (.arr 1 m (i64F g)), some (.arr 1 t.size (bsF t))] =
  Tree.br (decide ((↑i : Int) < (↑m : Int))) (Tree.chk (decide ((0 : Int) ≤ (↑i : Int)) && decide ((↑i : Int) < (↑m : Int))) (Tree.chk (cl (LeL [AV.hs (0 : Nat) (0 : Nat) (ByteArray.size t),
    AV.v (Value.int IntKind.i64 (g ((0 : Nat) + Int.toNat (↑i : Int))))] [AV.hs (0 : Nat) (0 : Nat) (ByteArray.size t), AV.v (Value.int IntKind.i64 (↑n : Int))] ∧ LeH [some (Blk.arr (1 :
    Nat) (ByteArray.size t) fun j => [AV.v (Value.int IntKind.u8 (sbyte t j))])] [some (Blk.arr (1 : Nat) (ByteArray.size t) fun j => [AV.v (Value.int IntKind.u8 (sbyte t j))])])) (Tree.br
    false (Tree.leaf (Out.mk AEx.ret [AV.v (Value.slice none (0 : Nat) (0 : Nat)), AV.v (Value.int IntKind.i64 (0 : Int)), AV.hs (1 : Nat) (0 : Nat) (ByteArray.size (BA.t (BA.hs t) ++ numB
    n)), AV.hs (0 : Nat) (0 : Nat) m, AV.v (Value.int IntKind.i64 (↑m : Int)), AV.v (Value.int IntKind.i64 (↑i : Int))] [some (Blk.arr (1 : Nat) m fun j => [AV.v (Value.int IntKind.i64 (g
    j))]), some (Blk.arr (1 : Nat) (ByteArray.size (BA.t (BA.hs t) ++ numB n)) fun j => [AV.v (Value.int IntKind.u8 (sbyte (BA.t (BA.hs t) ++ numB n) j))])])) (Tree.leaf (Out.mk AEx.normal
    [AV.any, AV.any, AV.hs (1 : Nat) (0 : Nat) (ByteArray.size (BA.t (BA.hs t) ++ numB n)), AV.hs (0 : Nat) (0 : Nat) m, AV.v (Value.int IntKind.i64 (↑m : Int)), AV.v (Value.int IntKind.i64
    (IntKind.wrap IntKind.i64 ((↑i : Int) + (1 : Int))))] [some (Blk.arr (1 : Nat) m fun j => [AV.v (Value.int IntKind.i64 (g j))]), some (Blk.arr (1 : Nat) (ByteArray.size (BA.t (BA.hs t)
    ++ numB n)) fun j => [AV.v (Value.int IntKind.u8 (sbyte (BA.t (BA.hs t) ++ numB n) j))])]))))) (Tree.leaf (Out.mk (AEx.exit (0 : Nat)) [AV.any, AV.any, AV.hs (1 : Nat) (0 : Nat)
    (ByteArray.size t), AV.hs (0 : Nat) (0 : Nat) m, AV.v (Value.int IntKind.i64 (↑m : Int)), AV.v (Value.int IntKind.i64 (↑i : Int))] [some (Blk.arr (1 : Nat) m fun j => [AV.v (Value.int
    IntKind.i64 (g j))]), some (Blk.arr (1 : Nat) (ByteArray.size t) fun j => [AV.v (Value.int IntKind.u8 (sbyte t j))])])) := by kernel_rfl
theorem roundMb0 (m : Nat) (g : Nat → Int) (n : Int) (h : n < 0 ∨ 4611686018427387904 < n) : roundE (P := Tryd.prog) (Γ := Γm) [CT.at 83 (ansBad .nil n trivial h)] Lno false 0 0 loopM [2, 3, 4, 8, 9, 10] [] 25 [.any, .any, .v (.slice none 0 0), .sl 1 m (i64F g), .v (.int .i64 (m : Int)), .v (.int .i64 (0 : Nat))] [] =
  Tree.br (decide ((↑(0 : Nat) : Int) < (↑m : Int))) (Tree.chk (decide ((↑(0 : Nat) : Int) < (↑m : Int))) (Tree.chk (cl (LeL [AV.v (Value.slice none (0 : Nat) (0 : Nat)), AV.v (Value.int
    IntKind.i64 (g (Int.toNat (↑(0 : Nat) : Int))))] [AV.v (Value.slice none (0 : Nat) (0 : Nat)), AV.v (Value.int IntKind.i64 n)] ∧ LeH [] [])) (Tree.br true (Tree.leaf (Out.mk AEx.ret
    [AV.v (Value.slice none (0 : Nat) (0 : Nat)), AV.v (Value.int IntKind.i64 (10 : Int)), AV.v (Value.slice none (0 : Nat) (0 : Nat)), AV.sl (1 : Nat) m fun j => [AV.v (Value.int
    IntKind.i64 (g j))], AV.v (Value.int IntKind.i64 (↑m : Int)), AV.v (Value.int IntKind.i64 (↑(0 : Nat) : Int))] [])) (Tree.leaf (Out.mk AEx.normal [AV.any, AV.any, AV.v (Value.slice none
    (0 : Nat) (0 : Nat)), AV.sl (1 : Nat) m fun j => [AV.v (Value.int IntKind.i64 (g j))], AV.v (Value.int IntKind.i64 (↑m : Int)), AV.v (Value.int IntKind.i64 (IntKind.wrap IntKind.i64
    ((↑(0 : Nat) : Int) + (1 : Int))))] []))))) (Tree.leaf (Out.mk (AEx.exit (0 : Nat)) [AV.any, AV.any, AV.v (Value.slice none (0 : Nat) (0 : Nat)), AV.sl (1 : Nat) m fun j => [AV.v
    (Value.int IntKind.i64 (g j))], AV.v (Value.int IntKind.i64 (↑m : Int)), AV.v (Value.int IntKind.i64 (↑(0 : Nat) : Int))] [])) := by kernel_rfl
theorem roundMb1 (m : Nat) (g : Nat → Int) (n : Int) (i : Nat) (t : ByteArray) (ht : (BA.hs t).ok) (h : n < 0 ∨ 4611686018427387904 < n) : roundE (P := Tryd.prog) (Γ := Γm) [CT.at 83 (ansBad (.hs t) n ht h)] Lno false 0 0 loopM [2, 3, 4, 8, 9, 10] [] 25 [.any, .any, .hs 0 0 t.size, .sl 1 m (i64F g), .v (.int .i64 (m : Int)), .v (.int .i64 (i : Int))] [some (.arr 1 t.size (bsF t))] =
  Tree.br (decide ((↑i : Int) < (↑m : Int))) (Tree.chk (decide ((0 : Int) ≤ (↑i : Int)) && decide ((↑i : Int) < (↑m : Int))) (Tree.chk (cl (LeL [AV.hs (0 : Nat) (0 : Nat) (ByteArray.size t),
    AV.v (Value.int IntKind.i64 (g (Int.toNat (↑i : Int))))] [AV.hs (0 : Nat) (0 : Nat) (ByteArray.size t), AV.v (Value.int IntKind.i64 n)] ∧ LeH [some (Blk.arr (1 : Nat) (ByteArray.size t)
    fun j => [AV.v (Value.int IntKind.u8 (sbyte t j))])] [some (Blk.arr (1 : Nat) (ByteArray.size t) fun j => [AV.v (Value.int IntKind.u8 (sbyte t j))])])) (Tree.br true (Tree.leaf (Out.mk
    AEx.ret [AV.v (Value.slice none (0 : Nat) (0 : Nat)), AV.v (Value.int IntKind.i64 (10 : Int)), AV.v (Value.slice none (0 : Nat) (0 : Nat)), AV.sl (1 : Nat) m fun j => [AV.v (Value.int
    IntKind.i64 (g j))], AV.v (Value.int IntKind.i64 (↑m : Int)), AV.v (Value.int IntKind.i64 (↑i : Int))] [])) (Tree.leaf (Out.mk AEx.normal [AV.any, AV.any, AV.v (Value.slice none (0 :
    Nat) (0 : Nat)), AV.sl (1 : Nat) m fun j => [AV.v (Value.int IntKind.i64 (g j))], AV.v (Value.int IntKind.i64 (↑m : Int)), AV.v (Value.int IntKind.i64 (IntKind.wrap IntKind.i64 ((↑i :
    Int) + (1 : Int))))] []))))) (Tree.leaf (Out.mk (AEx.exit (0 : Nat)) [AV.any, AV.any, AV.hs (0 : Nat) (0 : Nat) (ByteArray.size t), AV.sl (1 : Nat) m fun j => [AV.v (Value.int
    IntKind.i64 (g j))], AV.v (Value.int IntKind.i64 (↑m : Int)), AV.v (Value.int IntKind.i64 (↑i : Int))] [some (Blk.arr (1 : Nat) (ByteArray.size t) fun j => [AV.v (Value.int IntKind.u8
    (sbyte t j))])])) := by kernel_rfl
theorem pick {g : Nat → Int} {m i : Nat} (hok : ∀ j, j < m → okN (g j) = true) : ∃ k : Nat, k ≤ 4611686018427387904 ∧ (i < m → g i = k) := by
  by_cases h : i < m
  · obtain ⟨k, h1, h2⟩ := okN_nat (hok i h)
    exact ⟨k, h2, fun _ => h1⟩
  · exact ⟨0, by decide, fun h' => absurd h' h⟩
theorem hs_ok {g : Nat → Int} {i : Nat} (h : ∀ j, j < i + 1 → okN (g j) = true) (hi : i + 1 ≤ 100000) : (BA.hs (catN g (i + 1))).ok := ⟨small_cat h hi, (catN_small h).2 (by omega)⟩
theorem loopMg_ok (a : NA) (hok : ∀ j, j < a.m → okN (a.g j) = true) (hm : a.m ≤ 100000) : ∀ i, i ≤ a.m → LoopOK Tryd.prog Γm a.bl.length 25 loopM (LSpec.at [2, 3, 4, 8, 9, 10] [] (SM a i) (OMg a)) := by
  refine loop_at (S := SM a) (pre := fun i => i ≤ a.m) (O := fun _ => OMg a) (k := 0) (fun i => a.m - i) fun i hi => ?_
  cases a with
  | nil =>
    obtain rfl : i = 0 := Nat.le_zero.1 hi
    refine ⟨[], Lno, false, noLoops (by kernel_rfl), ?_⟩
    show (roundE (P := Tryd.prog) (Γ := Γm) [] Lno false 0 0 loopM [2, 3, 4, 8, 9, 10] [] 25 [.any, .any, .v (.slice none 0 0), .v (.slice none 0 0), .v (.int .i64 (0 : Nat)), .v (.int .i64 (0 : Nat))] []).sat _
    rw [roundMn]
    exact ⟨fun h => by simp at h, fun _ => ⟨rfl, ⟨.any _, .any _, .refl _, .any _, .any _, .any _, trivial⟩, trivial⟩⟩
  | sl m g =>
    have hok : ∀ j, j < m → okN (g j) = true := hok
    have hm : m ≤ 100000 := hm
    obtain ⟨n, hn, hg⟩ := pick (i := i) hok
    cases i with
    | zero =>
      refine ⟨[CT.at 83 (ansNum .nil n trivial hn)], Lno, false, noLoops (by kernel_rfl), ?_⟩
      show (roundE (P := Tryd.prog) (Γ := Γm) [CT.at 83 (ansNum .nil n trivial hn)] Lno false 0 0 loopM [2, 3, 4, 8, 9, 10] [] 25 [.any, .any, .v (.slice none 0 0), .sl 1 m (i64F g), .v (.int .i64 (m : Int)), .v (.int .i64 (0 : Nat))] []).sat _
      rw [roundMs0 m g n hn]
      refine ⟨fun hc => ?_, fun hc => ?_⟩
      · have hlt : 0 < m := by have := of_decide_eq_true hc; omega
        have h := hg hlt
        have e : BA.nil.t ++ numB n = catN g (0 + 1) := by
          show catN g (0) ++ numB n = catN g (0) ++ numB (g (0)).toNat
          rw [h, Int.toNat_natCast]
        have e3 : IntKind.i64.wrap (((0 : Nat) : Int) + (1 : Int)) = ((0 + 1 : Nat) : Int) := by rw [wrap64E]; omega
        rw [e, e3]
        refine ⟨by first | exact hc | (rw [Bool.true_and]; exact hc), cl_iff.2 ⟨⟨.refl _, .of_eq (by simp only [Int.toNat_natCast]; rw [h]), trivial⟩, trivial⟩, fun h => by simp at h, fun _ => ⟨0 + 1, LeL.refl _, LeH.refl _, hlt, rfl, ?_⟩⟩
        show m - (0 + 1) < m - (0); omega
      · have h := of_decide_eq_false hc
        obtain rfl : m = 0 := by have h2 : 0 ≤ m := hi; omega
        exact ⟨rfl, ⟨.any _, .any _, .refl _, .any _, .any _, .any _, trivial⟩, LeH.refl _⟩
    | succ i =>
      have hb : (BA.hs (catN g (i + 1))).ok := hs_ok (fun j hj => hok j (Nat.lt_of_lt_of_le hj hi)) (Nat.le_trans hi hm)
      refine ⟨[CT.at 83 (ansNum (.hs (catN g (i + 1))) n hb hn)], Lno, false, noLoops (by kernel_rfl), ?_⟩
      show (roundE (P := Tryd.prog) (Γ := Γm) [CT.at 83 (ansNum (.hs (catN g (i + 1))) n hb hn)] Lno false 0 0 loopM [2, 3, 4, 8, 9, 10] [] 25 [.any, .any, .hs 0 0 (catN g (i + 1)).size, .sl 1 m (i64F g), .v (.int .i64 (m : Int)), .v (.int .i64 ((i + 1 : Nat) : Int))] [some (.arr 1 (catN g (i + 1)).size (bsF (catN g (i + 1))))]).sat _
      rw [roundMs1 m g n (i + 1) (catN g (i + 1)) hb hn]
      refine ⟨fun hc => ?_, fun hc => ?_⟩
      · have hlt : i + 1 < m := by have := of_decide_eq_true hc; omega
        have h := hg hlt
        have e : (BA.hs (catN g (i + 1))).t ++ numB n = catN g (i + 1 + 1) := by
          show catN g (i + 1) ++ numB n = catN g (i + 1) ++ numB (g (i + 1)).toNat
          rw [h, Int.toNat_natCast]
        have e3 : IntKind.i64.wrap (((i + 1 : Nat) : Int) + (1 : Int)) = ((i + 1 + 1 : Nat) : Int) := by rw [wrap64E]; omega
        rw [e, e3]
        refine ⟨by rw [hc]; simp; omega, cl_iff.2 ⟨⟨.refl _, .of_eq (by simp only [Int.toNat_natCast]; rw [h]), trivial⟩, LeH.refl _⟩, fun h => by simp at h, fun _ => ⟨i + 1 + 1, LeL.refl _, LeH.refl _, hlt, rfl, ?_⟩⟩
        show m - (i + 1 + 1) < m - (i + 1); omega
      · have h := of_decide_eq_false hc
        obtain rfl : m = i + 1 := by have h2 : i + 1 ≤ m := hi; omega
        exact ⟨rfl, ⟨.any _, .any _, .refl _, .any _, .any _, .any _, trivial⟩, LeH.refl _⟩
  | hs m g =>
    have hok : ∀ j, j < m → okN (g j) = true := hok
    have hm : m ≤ 100000 := hm
    obtain ⟨n, hn, hg⟩ := pick (i := i) hok
    cases i with
    | zero =>
      refine ⟨[CT.at 83 (ansNum .nil n trivial hn)], Lno, false, noLoops (by kernel_rfl), ?_⟩
      show (roundE (P := Tryd.prog) (Γ := Γm) [CT.at 83 (ansNum .nil n trivial hn)] Lno false 1 0 loopM [2, 3, 4, 8, 9, 10] [] 25 [.any, .any, .v (.slice none 0 0), .hs 0 0 m, .v (.int .i64 (m : Int)), .v (.int .i64 (0 : Nat))] [some (.arr 1 m (i64F g))]).sat _
      rw [roundMh0 m g n hn]
      refine ⟨fun hc => ?_, fun hc => ?_⟩
      · have hlt : 0 < m := by have := of_decide_eq_true hc; omega
        have h := hg hlt
        have e : BA.nil.t ++ numB n = catN g (0 + 1) := by
          show catN g (0) ++ numB n = catN g (0) ++ numB (g (0)).toNat
          rw [h, Int.toNat_natCast]
        have e3 : IntKind.i64.wrap (((0 : Nat) : Int) + (1 : Int)) = ((0 + 1 : Nat) : Int) := by rw [wrap64E]; omega
        rw [e, e3]
        refine ⟨by first | exact hc | (rw [Bool.true_and]; exact hc), cl_iff.2 ⟨⟨.refl _, .of_eq (by simp only [Int.toNat_natCast, Nat.zero_add]; rw [h]), trivial⟩, trivial⟩, fun h => by simp at h, fun _ => ⟨0 + 1, LeL.refl _, LeH.refl _, hlt, rfl, ?_⟩⟩
        show m - (0 + 1) < m - (0); omega
      · have h := of_decide_eq_false hc
        obtain rfl : m = 0 := by have h2 : 0 ≤ m := hi; omega
        exact ⟨rfl, ⟨.any _, .any _, .refl _, .any _, .any _, .any _, trivial⟩, LeH.refl _⟩
    | succ i =>
      have hb : (BA.hs (catN g (i + 1))).ok := hs_ok (fun j hj => hok j (Nat.lt_of_lt_of_le hj hi)) (Nat.le_trans hi hm)
      refine ⟨[CT.at 83 (ansNum (.hs (catN g (i + 1))) n hb hn)], Lno, false, noLoops (by kernel_rfl), ?_⟩
      show (roundE (P := Tryd.prog) (Γ := Γm) [CT.at 83 (ansNum (.hs (catN g (i + 1))) n hb hn)] Lno false 1 0 loopM [2, 3, 4, 8, 9, 10] [] 25 [.any, .any, .hs 1 0 (catN g (i + 1)).size, .hs 0 0 m, .v (.int .i64 (m : Int)), .v (.int .i64 ((i + 1 : Nat) : Int))] [some (.arr 1 m (i64F g)), some (.arr 1 (catN g (i + 1)).size (bsF (catN g (i + 1))))]).sat _
      rw [roundMh1 m g n (i + 1) (catN g (i + 1)) hb hn]
      refine ⟨fun hc => ?_, fun hc => ?_⟩
      · have hlt : i + 1 < m := by have := of_decide_eq_true hc; omega
        have h := hg hlt
        have e : (BA.hs (catN g (i + 1))).t ++ numB n = catN g (i + 1 + 1) := by
          show catN g (i + 1) ++ numB n = catN g (i + 1) ++ numB (g (i + 1)).toNat
          rw [h, Int.toNat_natCast]
        have e3 : IntKind.i64.wrap (((i + 1 : Nat) : Int) + (1 : Int)) = ((i + 1 + 1 : Nat) : Int) := by rw [wrap64E]; omega
        rw [e, e3]
        refine ⟨by rw [hc]; simp; omega, cl_iff.2 ⟨⟨.refl _, .of_eq (by simp only [Int.toNat_natCast, Nat.zero_add]; rw [h]), trivial⟩, LeH.refl _⟩, fun h => by simp at h, fun _ => ⟨i + 1 + 1, LeL.refl _, LeH.refl _, hlt, rfl, ?_⟩⟩
        show m - (i + 1 + 1) < m - (i + 1); omega
      · have h := of_decide_eq_false hc
        obtain rfl : m = i + 1 := by have h2 : i + 1 ≤ m := hi; omega
        exact ⟨rfl, ⟨.any _, .any _, .refl _, .any _, .any _, .any _, trivial⟩, LeH.refl _⟩
theorem okN_bad {n : Int} (h : okN n = false) : n < 0 ∨ 4611686018427387904 < n := by
  unfold okN at h
  by_cases h1 : n < 0
  · exact .inl h1
  · rw [decide_eq_true (show 0 ≤ n by omega), Bool.true_and, decide_eq_false_iff_not] at h
    exact .inr (by omega)
theorem loopMb_ok (m : Nat) (g : Nat → Int) (b : Nat) (hb : b < m) (hok : ∀ j, j < b → okN (g j) = true) (hbad : okN (g b) = false) (hm : m ≤ 100000) : ∀ i, i ≤ b → LoopOK Tryd.prog Γm 0 25 loopM (LSpec.at [2, 3, 4, 8, 9, 10] [] (SM (.sl m g) i) (OMb (.sl m g))) := by
  refine loop_at (S := SM (.sl m g)) (pre := fun i => i ≤ b) (O := fun _ => OMb (.sl m g)) (k := 0) (fun i => b - i) fun i hi => ?_
  rcases Nat.lt_or_ge i b with hib | hib
  · obtain ⟨n, hg, hn⟩ := okN_nat (hok i hib)
    cases i with
    | zero =>
      refine ⟨[CT.at 83 (ansNum .nil n trivial hn)], Lno, false, noLoops (by kernel_rfl), ?_⟩
      show (roundE (P := Tryd.prog) (Γ := Γm) [CT.at 83 (ansNum .nil n trivial hn)] Lno false 0 0 loopM [2, 3, 4, 8, 9, 10] [] 25 [.any, .any, .v (.slice none 0 0), .sl 1 m (i64F g), .v (.int .i64 (m : Int)), .v (.int .i64 (0 : Nat))] []).sat _
      rw [roundMs0 m g n hn]
      refine ⟨fun hc => ?_, fun hc => ?_⟩
      · have hlt : 0 < m := by have := of_decide_eq_true hc; omega
        have h := hg
        have e : BA.nil.t ++ numB n = catN g (0 + 1) := by
          show catN g (0) ++ numB n = catN g (0) ++ numB (g (0)).toNat
          rw [h, Int.toNat_natCast]
        have e3 : IntKind.i64.wrap (((0 : Nat) : Int) + (1 : Int)) = ((0 + 1 : Nat) : Int) := by rw [wrap64E]; omega
        rw [e, e3]
        refine ⟨by first | exact hc | (rw [Bool.true_and]; exact hc), cl_iff.2 ⟨⟨.refl _, .of_eq (by simp only [Int.toNat_natCast]; rw [h]), trivial⟩, trivial⟩, fun h => by simp at h, fun _ => ⟨0 + 1, LeL.refl _, LeH.refl _, Nat.succ_le_of_lt hib, rfl, ?_⟩⟩
        show b - (0 + 1) < b - (0); omega
      · have h := of_decide_eq_false hc
        omega
    | succ i =>
      have hb' : (BA.hs (catN g (i + 1))).ok := hs_ok (fun j hj => hok j (Nat.lt_of_lt_of_le hj hi)) (by omega)
      refine ⟨[CT.at 83 (ansNum (.hs (catN g (i + 1))) n hb' hn)], Lno, false, noLoops (by kernel_rfl), ?_⟩
      show (roundE (P := Tryd.prog) (Γ := Γm) [CT.at 83 (ansNum (.hs (catN g (i + 1))) n hb' hn)] Lno false 0 0 loopM [2, 3, 4, 8, 9, 10] [] 25 [.any, .any, .hs 0 0 (catN g (i + 1)).size, .sl 1 m (i64F g), .v (.int .i64 (m : Int)), .v (.int .i64 ((i + 1 : Nat) : Int))] [some (.arr 1 (catN g (i + 1)).size (bsF (catN g (i + 1))))]).sat _
      rw [roundMs1 m g n (i + 1) (catN g (i + 1)) hb' hn]
      refine ⟨fun hc => ?_, fun hc => ?_⟩
      · have hlt : i + 1 < m := by have := of_decide_eq_true hc; omega
        have h := hg
        have e : (BA.hs (catN g (i + 1))).t ++ numB n = catN g (i + 1 + 1) := by
          show catN g (i + 1) ++ numB n = catN g (i + 1) ++ numB (g (i + 1)).toNat
          rw [h, Int.toNat_natCast]
        have e3 : IntKind.i64.wrap (((i + 1 : Nat) : Int) + (1 : Int)) = ((i + 1 + 1 : Nat) : Int) := by rw [wrap64E]; omega
        rw [e, e3]
        refine ⟨by rw [hc]; simp; omega, cl_iff.2 ⟨⟨.refl _, .of_eq (by simp only [Int.toNat_natCast]; rw [h]), trivial⟩, LeH.refl _⟩, fun h => by simp at h, fun _ => ⟨i + 1 + 1, LeL.refl _, LeH.refl _, Nat.succ_le_of_lt hib, rfl, ?_⟩⟩
        show b - (i + 1 + 1) < b - (i + 1); omega
      · have h := of_decide_eq_false hc
        omega
  · obtain rfl : i = b := Nat.le_antisymm hi hib
    have hn := okN_bad hbad
    cases i with
    | zero =>
      refine ⟨[CT.at 83 (ansBad .nil (g 0) trivial hn)], Lno, false, noLoops (by kernel_rfl), ?_⟩
      show (roundE (P := Tryd.prog) (Γ := Γm) [CT.at 83 (ansBad .nil (g 0) trivial hn)] Lno false 0 0 loopM [2, 3, 4, 8, 9, 10] [] 25 [.any, .any, .v (.slice none 0 0), .sl 1 m (i64F g), .v (.int .i64 (m : Int)), .v (.int .i64 (0 : Nat))] []).sat _
      rw [roundMb0 m g (g 0) hn]
      have hc : decide (((0 : Nat) : Int) < (m : Int)) = true := decide_eq_true (by omega)
      rw [hc]
      exact ⟨fun _ => ⟨rfl, cl_iff.2 ⟨LeL.refl _, trivial⟩, fun _ => ⟨rfl, ⟨.refl _, .refl _, .any _, .any _, .any _, .any _, trivial⟩, trivial⟩, fun h => by simp at h⟩, fun h => by simp at h⟩
    | succ i =>
      have hb' : (BA.hs (catN g (i + 1))).ok := hs_ok (fun j hj => hok j hj) (by omega)
      refine ⟨[CT.at 83 (ansBad (.hs (catN g (i + 1))) (g (i + 1)) hb' hn)], Lno, false, noLoops (by kernel_rfl), ?_⟩
      show (roundE (P := Tryd.prog) (Γ := Γm) [CT.at 83 (ansBad (.hs (catN g (i + 1))) (g (i + 1)) hb' hn)] Lno false 0 0 loopM [2, 3, 4, 8, 9, 10] [] 25 [.any, .any, .hs 0 0 (catN g (i + 1)).size, .sl 1 m (i64F g), .v (.int .i64 (m : Int)), .v (.int .i64 ((i + 1 : Nat) : Int))] [some (.arr 1 (catN g (i + 1)).size (bsF (catN g (i + 1))))]).sat _
      rw [roundMb1 m g (g (i + 1)) (i + 1) (catN g (i + 1)) hb' hn]
      have hc : decide (((i + 1 : Nat) : Int) < (m : Int)) = true := decide_eq_true (by omega)
      rw [hc]
      exact ⟨fun _ => ⟨by rw [decide_eq_true (show (0 : Int) ≤ ((i + 1 : Nat) : Int) by omega)]; rfl, cl_iff.2 ⟨LeL.refl _, LeH.refl _⟩, fun _ => ⟨rfl, ⟨.refl _, .refl _, .any _, .any _, .any _, .any _, trivial⟩, trivial⟩, fun h => by simp at h⟩, fun h => by simp at h⟩
theorem runMg (a : NA) (m : Nat) (g : Nat → Int) : bodyE (P := Tryd.prog) (Γ := Γm) [] (fun _ => LSpec.at [2, 3, 4, 8, 9, 10] [] (SM (.sl (m + 1) g) 0) (OMg (.sl (m + 1) g))) false 25 [.tmp 2, .tmp 3] (bodyOf Tryd.f81) [.sl 1 (m + 1) (i64F g)] [] =
  Tree.chk (cl (LeL [AV.v (Value.slice none (0 : Nat) (0 : Nat)), AV.v (Value.int IntKind.i64 (0 : Int)), AV.v (Value.slice none (0 : Nat) (0 : Nat)), AV.sl (1 : Nat) (m + (1 : Nat)) fun j =>
    [AV.v (Value.int IntKind.i64 (g j))], AV.v (Value.int IntKind.i64 (↑(m + (1 : Nat)) : Int)), AV.v (Value.int IntKind.i64 (0 : Int))] [AV.any, AV.any, AV.v (Value.slice none (0 : Nat) (0
    : Nat)), AV.sl (1 : Nat) (m + (1 : Nat)) fun j => [AV.v (Value.int IntKind.i64 (g j))], AV.v (Value.int IntKind.i64 (↑(NA.m (NA.sl (m + (1 : Nat)) g)) : Int)), AV.v (Value.int
    IntKind.i64 (↑(0 : Nat) : Int))] ∧ LeH [] [])) (Tree.leaf (Ans.mk (AV.tup [AV.hs (0 : Nat) (0 : Nat) (ByteArray.size (catN (NA.g (NA.sl (m + (1 : Nat)) g)) (Nat.add._f Nat.zero
    PUnit.unit m + (1 : Nat)))), AV.v (Value.int IntKind.i64 (0 : Int))]) [some (Blk.arr (1 : Nat) (ByteArray.size (catN (NA.g (NA.sl (m + (1 : Nat)) g)) (Nat.add._f Nat.zero PUnit.unit m +
    (1 : Nat)))) fun j => [AV.v (Value.int IntKind.u8 (sbyte (catN (NA.g (NA.sl (m + (1 : Nat)) g)) (Nat.add._f Nat.zero PUnit.unit m + (1 : Nat))) j))])])) := by kernel_rfl
theorem runM0 (g : Nat → Int) : bodyE (P := Tryd.prog) (Γ := Γm) [] (fun _ => LSpec.at [2, 3, 4, 8, 9, 10] [] (SM (.sl 0 g) 0) (OMg (.sl 0 g))) false 25 [.tmp 2, .tmp 3] (bodyOf Tryd.f81) [.sl 1 0 (i64F g)] [] =
  Tree.chk (cl (LeL [AV.v (Value.slice none (0 : Nat) (0 : Nat)), AV.v (Value.int IntKind.i64 (0 : Int)), AV.v (Value.slice none (0 : Nat) (0 : Nat)), AV.sl (1 : Nat) (0 : Nat) fun j => [AV.v
    (Value.int IntKind.i64 (g j))], AV.v (Value.int IntKind.i64 (↑(0 : Nat) : Int)), AV.v (Value.int IntKind.i64 (0 : Int))] [AV.any, AV.any, AV.v (Value.slice none (0 : Nat) (0 : Nat)),
    AV.sl (1 : Nat) (0 : Nat) fun j => [AV.v (Value.int IntKind.i64 (g j))], AV.v (Value.int IntKind.i64 (↑(0 : Nat) : Int)), AV.v (Value.int IntKind.i64 (↑(0 : Nat) : Int))] ∧ LeH [] []))
    (Tree.leaf (Ans.mk (AV.tup [AV.v (Value.slice none (0 : Nat) (0 : Nat)), AV.v (Value.int IntKind.i64 (0 : Int))]) [])) := by kernel_rfl
theorem runMn  : bodyE (P := Tryd.prog) (Γ := Γm) [] (fun _ => LSpec.at [2, 3, 4, 8, 9, 10] [] (SM .nil 0) (OMg .nil)) false 25 [.tmp 2, .tmp 3] (bodyOf Tryd.f81) [.v (.slice none 0 0)] [] =
  Tree.chk (cl (LeL [AV.v (Value.slice none (0 : Nat) (0 : Nat)), AV.v (Value.int IntKind.i64 (0 : Int)), AV.v (Value.slice none (0 : Nat) (0 : Nat)), AV.v (Value.slice none (0 : Nat) (0 :
    Nat)), AV.v (Value.int IntKind.i64 (0 : Int)), AV.v (Value.int IntKind.i64 (0 : Int))] [AV.any, AV.any, AV.v (Value.slice none (0 : Nat) (0 : Nat)), AV.v (Value.slice none (0 : Nat) (0 :
    Nat)), AV.v (Value.int IntKind.i64 (↑(0 : Nat) : Int)), AV.v (Value.int IntKind.i64 (↑(0 : Nat) : Int))] ∧ LeH [] [])) (Tree.leaf (Ans.mk (AV.tup [AV.v (Value.slice none (0 : Nat) (0 :
    Nat)), AV.v (Value.int IntKind.i64 (0 : Int))]) [])) := by kernel_rfl
theorem runMh (m : Nat) (g : Nat → Int) : bodyE (P := Tryd.prog) (Γ := Γm) [] (fun _ => LSpec.at [2, 3, 4, 8, 9, 10] [] (SM (.hs (m + 1) g) 0) (OMg (.hs (m + 1) g))) false 25 [.tmp 2, .tmp 3] (bodyOf Tryd.f81) [.hs 0 0 (m + 1)] [.arr 1 (m + 1) (i64F g)] =
  Tree.chk (cl (LeL [AV.v (Value.slice none (0 : Nat) (0 : Nat)), AV.v (Value.int IntKind.i64 (0 : Int)), AV.v (Value.slice none (0 : Nat) (0 : Nat)), AV.hs (0 : Nat) (0 : Nat) (m + (1 :
    Nat)), AV.v (Value.int IntKind.i64 (↑(m + (1 : Nat)) : Int)), AV.v (Value.int IntKind.i64 (0 : Int))] [AV.any, AV.any, AV.v (Value.slice none (0 : Nat) (0 : Nat)), AV.hs (0 : Nat) (0 :
    Nat) (m + (1 : Nat)), AV.v (Value.int IntKind.i64 (↑(NA.m (NA.hs (m + (1 : Nat)) g)) : Int)), AV.v (Value.int IntKind.i64 (↑(0 : Nat) : Int))] ∧ LeH [some (Blk.arr (1 : Nat) (m + (1 :
    Nat)) fun j => [AV.v (Value.int IntKind.i64 (g j))])] [some (Blk.arr (1 : Nat) (m + (1 : Nat)) fun j => [AV.v (Value.int IntKind.i64 (g j))])])) (Tree.leaf (Ans.mk (AV.tup [AV.hs (1 :
    Nat) (0 : Nat) (ByteArray.size (catN (NA.g (NA.hs (m + (1 : Nat)) g)) (Nat.add._f Nat.zero PUnit.unit m + (1 : Nat)))), AV.v (Value.int IntKind.i64 (0 : Int))]) [some (Blk.arr (1 : Nat)
    (m + (1 : Nat)) fun j => [AV.v (Value.int IntKind.i64 (g j))]), some (Blk.arr (1 : Nat) (ByteArray.size (catN (NA.g (NA.hs (m + (1 : Nat)) g)) (Nat.add._f Nat.zero PUnit.unit m + (1 :
    Nat)))) fun j => [AV.v (Value.int IntKind.u8 (sbyte (catN (NA.g (NA.hs (m + (1 : Nat)) g)) (Nat.add._f Nat.zero PUnit.unit m + (1 : Nat))) j))])])) := by kernel_rfl
theorem runMb (m : Nat) (g : Nat → Int) : bodyE (P := Tryd.prog) (Γ := Γm) [] (fun _ => LSpec.at [2, 3, 4, 8, 9, 10] [] (SM (.sl m g) 0) (OMb (.sl m g))) false 25 [.tmp 2, .tmp 3] (bodyOf Tryd.f81) [.sl 1 m (i64F g)] [] =
  Tree.chk (cl (LeL [AV.v (Value.slice none (0 : Nat) (0 : Nat)), AV.v (Value.int IntKind.i64 (0 : Int)), AV.v (Value.slice none (0 : Nat) (0 : Nat)), AV.sl (1 : Nat) m fun j => [AV.v
    (Value.int IntKind.i64 (g j))], AV.v (Value.int IntKind.i64 (↑m : Int)), AV.v (Value.int IntKind.i64 (0 : Int))] [AV.any, AV.any, AV.v (Value.slice none (0 : Nat) (0 : Nat)), AV.sl (1 :
    Nat) m fun j => [AV.v (Value.int IntKind.i64 (g j))], AV.v (Value.int IntKind.i64 (↑(NA.m (NA.sl m g)) : Int)), AV.v (Value.int IntKind.i64 (↑(0 : Nat) : Int))] ∧ LeH [] [])) (Tree.leaf
    (Ans.mk (AV.tup [AV.v (Value.slice none (0 : Nat) (0 : Nat)), AV.v (Value.int IntKind.i64 (10 : Int))]) [])) := by kernel_rfl
def outBl (g : Nat → Int) : Nat → List Blk
  | 0 => []
  | i + 1 => [.arr 1 (catN g (i + 1)).size (bsF (catN g (i + 1)))]
def NA.ok (a : NA) : Prop := (∀ j, j < a.m → okN (a.g j) = true) ∧ a.m ≤ 100000 ∧ (a.k = 1 → 0 < a.m)
theorem ansNums : ∀ (a : NA), a.ok → Answers Tryd.prog Γm 81 [a.av] a.bl (.tup [outV a.k a.g a.m, .v (.int .i64 0)]) (a.bl.map some) (outBl a.g a.m)
  | .nil, h => answers (fn := Tryd.f81) (c := bodyOf Tryd.f81) (ntmps := 25) (results := [.tmp 2, .tmp 3]) [] (fun _ => LSpec.at [2, 3, 4, 8, 9, 10] [] (SM .nil 0) (OMg .nil)) false Tryd.func81 (by kernel_rfl) (by kernel_rfl) (by kernel_rfl) (by kernel_rfl) (by simp) rfl
    (oneLoop (b := loopM) (by kernel_rfl) (loopMg_ok .nil h.1 h.2.1 0 (Nat.zero_le _))) (Meets.of runMn ⟨cl_iff.2 ⟨⟨.any _, .any _, .refl _, .refl _, .refl _, .refl _, trivial⟩, trivial⟩, .refl _, trivial⟩)
  | .sl 0 g, h => answers (fn := Tryd.f81) (c := bodyOf Tryd.f81) (ntmps := 25) (results := [.tmp 2, .tmp 3]) [] (fun _ => LSpec.at [2, 3, 4, 8, 9, 10] [] (SM (.sl 0 g) 0) (OMg (.sl 0 g))) false Tryd.func81 (by kernel_rfl) (by kernel_rfl) (by kernel_rfl) (by kernel_rfl) (by simp) rfl
    (oneLoop (b := loopM) (by kernel_rfl) (loopMg_ok (.sl 0 g) h.1 h.2.1 0 (Nat.zero_le _))) (Meets.of (runM0 g) ⟨cl_iff.2 ⟨⟨.any _, .any _, .refl _, .refl _, .refl _, .refl _, trivial⟩, trivial⟩, .refl _, trivial⟩)
  | .sl (m + 1) g, h => answers (fn := Tryd.f81) (c := bodyOf Tryd.f81) (ntmps := 25) (results := [.tmp 2, .tmp 3]) [] (fun _ => LSpec.at [2, 3, 4, 8, 9, 10] [] (SM (.sl (m + 1) g) 0) (OMg (.sl (m + 1) g))) false Tryd.func81 (by kernel_rfl) (by kernel_rfl) (by kernel_rfl) (by kernel_rfl) (by simp) rfl
    (oneLoop (b := loopM) (by kernel_rfl) (loopMg_ok (.sl (m + 1) g) h.1 h.2.1 0 (Nat.zero_le _))) (Meets.of (runMg .nil m g) ⟨cl_iff.2 ⟨⟨.any _, .any _, .refl _, .refl _, .refl _, .refl _, trivial⟩, trivial⟩, .refl _, .refl _, trivial⟩)
  | .hs (m + 1) g, h => answers (fn := Tryd.f81) (c := bodyOf Tryd.f81) (ntmps := 25) (results := [.tmp 2, .tmp 3]) [] (fun _ => LSpec.at [2, 3, 4, 8, 9, 10] [] (SM (.hs (m + 1) g) 0) (OMg (.hs (m + 1) g))) false Tryd.func81 (by kernel_rfl) (by kernel_rfl) (by kernel_rfl) (by kernel_rfl) (by simp) rfl
    (oneLoop (b := loopM) (by kernel_rfl) (loopMg_ok (.hs (m + 1) g) h.1 h.2.1 0 (Nat.zero_le _))) (Meets.of (runMh m g) ⟨cl_iff.2 ⟨⟨.any _, .any _, .refl _, .refl _, .refl _, .refl _, trivial⟩, LeH.refl _⟩, .refl _, .refl _, .refl _, trivial⟩)
  | .hs 0 g, h => absurd (h.2.2 rfl) (Nat.lt_irrefl _)
theorem ansNumsBad (m : Nat) (g : Nat → Int) (b : Nat) (hb : b < m) (hok : ∀ j, j < b → okN (g j) = true) (hbad : okN (g b) = false) (hm : m ≤ 100000) : Answers Tryd.prog Γm 81 [.sl 1 m (i64F g)] [] (.tup [.v (.slice none 0 0), .v (.int .i64 10)]) [] [] :=
  answers (fn := Tryd.f81) (c := bodyOf Tryd.f81) (ntmps := 25) (results := [.tmp 2, .tmp 3]) [] (fun _ => LSpec.at [2, 3, 4, 8, 9, 10] [] (SM (.sl m g) 0) (OMb (.sl m g))) false Tryd.func81 (by kernel_rfl) (by kernel_rfl) (by kernel_rfl) (by kernel_rfl) (by simp) rfl
    (oneLoop (b := loopM) (by kernel_rfl) (loopMb_ok m g b hb hok hbad hm 0 (Nat.zero_le _))) (Meets.of (runMb m g) ⟨cl_iff.2 ⟨⟨.any _, .any _, .refl _, .refl _, .refl _, .refl _, trivial⟩, trivial⟩, .refl _, trivial⟩)
theorem ansNumsS (m : Nat) (g : Nat → Int) (h : (NA.sl (m + 1) g).ok) : Answers Tryd.prog Γm 81 [.sl 1 (m + 1) (i64F g)] [] (.tup [.hs 0 0 (catN g (m + 1)).size, .v (.int .i64 0)]) [] [.arr 1 (catN g (m + 1)).size (bsF (catN g (m + 1)))] := ansNums (.sl (m + 1) g) h
theorem ansNums0 (g : Nat → Int) (h : (NA.sl 0 g).ok) : Answers Tryd.prog Γm 81 [.sl 1 0 (i64F g)] [] (.tup [.v (.slice none 0 0), .v (.int .i64 0)]) [] [] := ansNums (.sl 0 g) h
theorem ansNumsN (h : NA.nil.ok) : Answers Tryd.prog Γm 81 [.v (.slice none 0 0)] [] (.tup [.v (.slice none 0 0), .v (.int .i64 0)]) [] [] := ansNums .nil h
theorem allBytes0 (n : Nat) (t : ByteArray) : (allBytes n fun j => [AV.v (Value.int IntKind.u8 (sbyte t ((0 : Nat) + j)))]) = true := by
  simp only [Nat.zero_add]; exact allBytes_bsF n t
theorem textOf0 (t : ByteArray) : (textOf t.size fun j => [AV.v (Value.int IntKind.u8 (sbyte t ((0 : Nat) + j)))]) = t := by
  simp only [Nat.zero_add]; exact textOf_bsF t
theorem okN_of {n : Nat} (h : n ≤ 4611686018427387904) : okN (n : Int) = true := by
  unfold okN
  rw [decide_eq_true (show (0 : Int) ≤ (n : Int) by omega), decide_eq_true (show (n : Int) ≤ 4611686018427387904 by omega)]; rfl
theorem okN_not {n : Int} (h : n < 0 ∨ 4611686018427387904 < n) : okN n = false := by
  cases hh : okN n with
  | false => rfl
  | true => obtain ⟨k, rfl, hk⟩ := okN_nat hh; omega
theorem guard3 {a b c : Bool} (h : (bif a then true else bif b then true else c) = false) : a = false ∧ b = false ∧ c = false := by
  cases a <;> cases b <;> cases c <;> simp at h ⊢
theorem LeL_self (xs : List AV) : LeL xs xs = True := eq_true (LeL.refl xs)
theorem LeH_self (xs : Heap) : LeH xs xs = True := eq_true (LeH.refl xs)
theorem cl_true : cl True = true := cl_iff.2 trivial
theorem allBytesF (n : Nat) (t : ByteArray) : (allBytes n fun j => [AV.v (Value.int IntKind.u8 (sbyte t j))]) = true := allBytes_bsF n t
theorem textOfF (t : ByteArray) : (textOf t.size fun j => [AV.v (Value.int IntKind.u8 (sbyte t j))]) = t := textOf_bsF t
theorem textOfF2 (a b : ByteArray) : (textOf (a.size + b.size) fun j => [AV.v (Value.int IntKind.u8 (sbyte (a ++ b) j))]) = a ++ b := by
  have := textOfF (a ++ b)
  rwa [ByteArray.size_append] at this
theorem textOfF3 (a b c : ByteArray) : (textOf (a.size + (b.size + c.size)) fun j => [AV.v (Value.int IntKind.u8 (sbyte (a ++ (b ++ c)) j))]) = a ++ (b ++ c) := by
  have := textOfF (a ++ (b ++ c))
  rwa [ByteArray.size_append, ByteArray.size_append] at this
end Go.Eng.TA

/- wire: a text's bytes. -/
namespace Go.Eng.TA
open Go Go.Eng Go.Proofs
set_option linter.unusedSimpArgs false
set_option linter.unusedVariables false
/-! ### a text's bytes -/
theorem runTn (s : ByteArray) (h : s.size ≤ 4611686018427387904) : bodyE (P := Tryd.prog) (Γ := Γm) [CT.at 83 (ansNum .nil s.size trivial h)] Lno false 22 [.tmp 4, .tmp 5] (bodyOf Tryd.f82) [.v (.slice none 0 0), .v (.string s)] [] =
  Tree.br (decide ((65536 : Int) < (↑(ByteArray.size s) : Int))) (Tree.leaf (Ans.mk (AV.tup [AV.v (Value.slice none (0 : Nat) (0 : Nat)), AV.v (Value.int IntKind.i64 (2 : Int))]) []))
    (Tree.chk (cl (LeL [AV.v (Value.slice none (0 : Nat) (0 : Nat)), AV.v (Value.int IntKind.i64 (↑(ByteArray.size s) : Int))] [AV.v (Value.slice none (0 : Nat) (0 : Nat)), AV.v (Value.int
    IntKind.i64 (↑(ByteArray.size s) : Int))] ∧ LeH [] [])) (Tree.chk (roomOk (1 : Nat) (ByteArray.size (BA.t BA.nil ++ numB (ByteArray.size s)) + ByteArray.size s)) (Tree.leaf (Ans.mk
    (AV.tup [AV.hs (0 : Nat) (0 : Nat) (ByteArray.size (BA.t BA.nil ++ numB (ByteArray.size s)) + ByteArray.size s), AV.v (Value.int IntKind.i64 (0 : Int))]) [some (Blk.arr (1 : Nat)
    (ByteArray.size (BA.t BA.nil ++ numB (ByteArray.size s)) + ByteArray.size s) fun j => mixL (decide (j < ByteArray.size (BA.t BA.nil ++ numB (ByteArray.size s)))) [AV.v (Value.int
    IntKind.u8 (sbyte (BA.t BA.nil ++ numB (ByteArray.size s)) ((0 : Nat) + j)))] [AV.v (Value.int IntKind.u8 (sbyte s (j - ByteArray.size (BA.t BA.nil ++ numB (ByteArray.size s)))))])])))) := by kernel_rfl
theorem runTs (t : ByteArray) (s : ByteArray) (ht : (BA.sl t).ok) (h : s.size ≤ 4611686018427387904) : bodyE (P := Tryd.prog) (Γ := Γm) [CT.at 83 (ansNum (.sl t) s.size ht h)] Lno false 22 [.tmp 4, .tmp 5] (bodyOf Tryd.f82) [.sl 1 t.size (bsF t), .v (.string s)] [] =
  Tree.br (decide ((65536 : Int) < (↑(ByteArray.size s) : Int))) (Tree.leaf (Ans.mk (AV.tup [AV.v (Value.slice none (0 : Nat) (0 : Nat)), AV.v (Value.int IntKind.i64 (2 : Int))]) []))
    (Tree.chk (cl (LeL [AV.sl (1 : Nat) (ByteArray.size t) fun j => [AV.v (Value.int IntKind.u8 (sbyte t j))], AV.v (Value.int IntKind.i64 (↑(ByteArray.size s) : Int))] [AV.sl (1 : Nat)
    (ByteArray.size t) fun j => [AV.v (Value.int IntKind.u8 (sbyte t j))], AV.v (Value.int IntKind.i64 (↑(ByteArray.size s) : Int))] ∧ LeH [] [])) (Tree.chk (roomOk (1 : Nat) (ByteArray.size
    (BA.t (BA.sl t) ++ numB (ByteArray.size s)) + ByteArray.size s)) (Tree.leaf (Ans.mk (AV.tup [AV.hs (0 : Nat) (0 : Nat) (ByteArray.size (BA.t (BA.sl t) ++ numB (ByteArray.size s)) +
    ByteArray.size s), AV.v (Value.int IntKind.i64 (0 : Int))]) [some (Blk.arr (1 : Nat) (ByteArray.size (BA.t (BA.sl t) ++ numB (ByteArray.size s)) + ByteArray.size s) fun j => mixL (decide
    (j < ByteArray.size (BA.t (BA.sl t) ++ numB (ByteArray.size s)))) [AV.v (Value.int IntKind.u8 (sbyte (BA.t (BA.sl t) ++ numB (ByteArray.size s)) ((0 : Nat) + j)))] [AV.v (Value.int
    IntKind.u8 (sbyte s (j - ByteArray.size (BA.t (BA.sl t) ++ numB (ByteArray.size s)))))])])))) := by kernel_rfl
theorem runTh (t : ByteArray) (s : ByteArray) (ht : (BA.hs t).ok) (h : s.size ≤ 4611686018427387904) : bodyE (P := Tryd.prog) (Γ := Γm) [CT.at 83 (ansNum (.hs t) s.size ht h)] Lno false 22 [.tmp 4, .tmp 5] (bodyOf Tryd.f82) [.hs 0 0 t.size, .v (.string s)] [.arr 1 t.size (bsF t)] =
  Tree.br (decide ((65536 : Int) < (↑(ByteArray.size s) : Int))) (Tree.leaf (Ans.mk (AV.tup [AV.v (Value.slice none (0 : Nat) (0 : Nat)), AV.v (Value.int IntKind.i64 (2 : Int))]) [some
    (Blk.arr (1 : Nat) (ByteArray.size t) fun j => [AV.v (Value.int IntKind.u8 (sbyte t j))])])) (Tree.chk (cl (LeL [AV.hs (0 : Nat) (0 : Nat) (ByteArray.size t), AV.v (Value.int IntKind.i64
    (↑(ByteArray.size s) : Int))] [AV.hs (0 : Nat) (0 : Nat) (ByteArray.size t), AV.v (Value.int IntKind.i64 (↑(ByteArray.size s) : Int))] ∧ LeH [some (Blk.arr (1 : Nat) (ByteArray.size t)
    fun j => [AV.v (Value.int IntKind.u8 (sbyte t j))])] [some (Blk.arr (1 : Nat) (ByteArray.size t) fun j => [AV.v (Value.int IntKind.u8 (sbyte t j))])])) (Tree.chk (roomOk (1 : Nat)
    (ByteArray.size (BA.t (BA.hs t) ++ numB (ByteArray.size s)) + ByteArray.size s)) (Tree.leaf (Ans.mk (AV.tup [AV.hs (1 : Nat) (0 : Nat) (ByteArray.size (BA.t (BA.hs t) ++ numB
    (ByteArray.size s)) + ByteArray.size s), AV.v (Value.int IntKind.i64 (0 : Int))]) [some (Blk.arr (1 : Nat) (ByteArray.size t) fun j => [AV.v (Value.int IntKind.u8 (sbyte t j))]), some
    (Blk.arr (1 : Nat) (ByteArray.size (BA.t (BA.hs t) ++ numB (ByteArray.size s)) + ByteArray.size s) fun j => mixL (decide (j < ByteArray.size (BA.t (BA.hs t) ++ numB (ByteArray.size s))))
    [AV.v (Value.int IntKind.u8 (sbyte (BA.t (BA.hs t) ++ numB (ByteArray.size s)) ((0 : Nat) + j)))] [AV.v (Value.int IntKind.u8 (sbyte s (j - ByteArray.size (BA.t (BA.hs t) ++ numB
    (ByteArray.size s)))))])])))) := by kernel_rfl
theorem joinF (a b : ByteArray) (j : Nat) : (bif decide (j < a.size) then sbyte a ((0 : Nat) + j) else sbyte b (j - a.size)) = sbyte (a ++ b) j := by
  rw [sbyte_append]
  by_cases h : j < a.size
  · rw [decide_eq_true h, if_pos h, Nat.zero_add]; rfl
  · rw [decide_eq_false h, if_neg h]; rfl
theorem join_size (a b : ByteArray) : a.size + b.size = (a ++ b).size := by simp
def textB (t s : ByteArray) : ByteArray := t ++ numB s.size ++ s
theorem ansText : ∀ (a : BA) (s : ByteArray), a.ok → a.n = 0 → s.size ≤ 65536 → Answers Tryd.prog Γm 82 [a.av, .v (.string s)] a.bl (.tup [.hs 0 0 (textB a.t s).size, .v (.int .i64 0)]) (a.bl.map some) [.arr 1 (textB a.t s).size (bsF (textB a.t s))]
  | .nil, s, ht, _, hs => by
    have h : s.size ≤ 4611686018427387904 := by omega
    exact answers (fn := Tryd.f82) (c := bodyOf Tryd.f82) (ntmps := 22) (results := [.tmp 4, .tmp 5]) [CT.at 83 (ansNum .nil s.size ht h)] Lno false Tryd.func82 (by kernel_rfl) (by kernel_rfl) (by kernel_rfl) (by kernel_rfl) (by simp) rfl (noLoops (by kernel_rfl))
      (Meets.of (runTn s h) ⟨fun hc => by have := of_decide_eq_true hc; omega, fun _ => ⟨cl_iff.2 ⟨LeL.refl _, trivial⟩, room' (by
      have h1 : (⟨#[]⟩ : ByteArray).size ≤ 1000000000 := BA.ok_small ht
      have := (numB_size h).1
      simp only [ByteArray.size_append]
      show (⟨#[]⟩ : ByteArray).size + (numB s.size).size + s.size ≤ _
      omega), by
      simp only [mixU, joinF, join_size]
      exact ⟨.refl _, .refl _, trivial⟩⟩⟩)
  | .sl t, s, ht, _, hs => by
    have h : s.size ≤ 4611686018427387904 := by omega
    exact answers (fn := Tryd.f82) (c := bodyOf Tryd.f82) (ntmps := 22) (results := [.tmp 4, .tmp 5]) [CT.at 83 (ansNum (.sl t) s.size ht h)] Lno false Tryd.func82 (by kernel_rfl) (by kernel_rfl) (by kernel_rfl) (by kernel_rfl) (by simp) rfl (noLoops (by kernel_rfl))
      (Meets.of (runTs t s ht h) ⟨fun hc => by have := of_decide_eq_true hc; omega, fun _ => ⟨cl_iff.2 ⟨LeL.refl _, trivial⟩, room' (by
      have h1 : (t).size ≤ 1000000000 := BA.ok_small ht
      have := (numB_size h).1
      simp only [ByteArray.size_append]
      show (t).size + (numB s.size).size + s.size ≤ _
      omega), by
      simp only [mixU, joinF, join_size]
      exact ⟨.refl _, .refl _, trivial⟩⟩⟩)
  | .hs t, s, _, h0, _ => absurd h0 (by simp [BA.n])
theorem ansTextH (t s : ByteArray) (ht : (BA.hs t).ok) (hs : s.size ≤ 65536) : Answers Tryd.prog Γm 82 [.hs 0 0 t.size, .v (.string s)] [.arr 1 t.size (bsF t)] (.tup [.hs 1 0 (textB t s).size, .v (.int .i64 0)]) [some (.arr 1 t.size (bsF t))] [.arr 1 (textB t s).size (bsF (textB t s))] := by
    have h : s.size ≤ 4611686018427387904 := by omega
    exact answers (fn := Tryd.f82) (c := bodyOf Tryd.f82) (ntmps := 22) (results := [.tmp 4, .tmp 5]) [CT.at 83 (ansNum (.hs t) s.size ht h)] Lno false Tryd.func82 (by kernel_rfl) (by kernel_rfl) (by kernel_rfl) (by kernel_rfl) (by simp) rfl (noLoops (by kernel_rfl))
      (Meets.of (runTh t s ht h) ⟨fun hc => by have := of_decide_eq_true hc; omega, fun _ => ⟨cl_iff.2 ⟨LeL.refl _, LeH.refl _⟩, room' (by
      have h1 : (t).size ≤ 1000000000 := BA.ok_small ht
      have := (numB_size h).1
      simp only [ByteArray.size_append]
      show (t).size + (numB s.size).size + s.size ≤ _
      omega), by
      simp only [mixU, joinF, join_size]
      exact ⟨.refl _, .refl _, .refl _, trivial⟩⟩⟩)
theorem ansTextHBad (t s : ByteArray) (ht : (BA.hs t).ok) (hs : 65536 < s.size) (h : s.size ≤ 4611686018427387904) : Answers Tryd.prog Γm 82 [.hs 0 0 t.size, .v (.string s)] [.arr 1 t.size (bsF t)] (.tup [.v (.slice none 0 0), .v (.int .i64 2)]) [some (.arr 1 t.size (bsF t))] [] :=
  answers (fn := Tryd.f82) (c := bodyOf Tryd.f82) (ntmps := 22) (results := [.tmp 4, .tmp 5]) [CT.at 83 (ansNum (.hs t) s.size ht h)] Lno false Tryd.func82 (by kernel_rfl) (by kernel_rfl) (by kernel_rfl) (by kernel_rfl) (by simp) rfl (noLoops (by kernel_rfl))
      (Meets.of (runTh t s ht h) ⟨fun _ => ⟨.refl _, .refl _, trivial⟩, fun hc => by have := of_decide_eq_false hc; omega⟩)
theorem ansTextBad : ∀ (a : BA) (s : ByteArray), a.ok → a.n = 0 → 65536 < s.size → s.size ≤ 4611686018427387904 → Answers Tryd.prog Γm 82 [a.av, .v (.string s)] a.bl (.tup [.v (.slice none 0 0), .v (.int .i64 2)]) (a.bl.map some) []
  | .nil, s, ht, _, hs, h => answers (fn := Tryd.f82) (c := bodyOf Tryd.f82) (ntmps := 22) (results := [.tmp 4, .tmp 5]) [CT.at 83 (ansNum .nil s.size ht h)] Lno false Tryd.func82 (by kernel_rfl) (by kernel_rfl) (by kernel_rfl) (by kernel_rfl) (by simp) rfl (noLoops (by kernel_rfl))
      (Meets.of (runTn s h) ⟨fun _ => ⟨.refl _, trivial⟩, fun hc => by have := of_decide_eq_false hc; omega⟩)
  | .sl t, s, ht, _, hs, h => answers (fn := Tryd.f82) (c := bodyOf Tryd.f82) (ntmps := 22) (results := [.tmp 4, .tmp 5]) [CT.at 83 (ansNum (.sl t) s.size ht h)] Lno false Tryd.func82 (by kernel_rfl) (by kernel_rfl) (by kernel_rfl) (by kernel_rfl) (by simp) rfl (noLoops (by kernel_rfl))
      (Meets.of (runTs t s ht h) ⟨fun _ => ⟨.refl _, trivial⟩, fun hc => by have := of_decide_eq_false hc; omega⟩)
  | .hs t, s, _, h0, _, _ => absurd h0 (by simp [BA.n])
end Go.Eng.TA

/- transactions: bytes written: the document. -/
namespace Go.Eng.TA
open Go Go.Eng Go.Eng.M Go.Lib Go.Proofs
set_option linter.unusedSimpArgs false
set_option linter.unusedVariables false
noncomputable def kRN : CT Tryd.prog Γm := CT.auto false 3 3 [Z.c86] 87 Tryd.f87 (bodyOf Tryd.f87) false 11 [.tmp 2] Tryd.func87 (by kernel_rfl) (by kernel_rfl) (by kernel_rfl) (by kernel_rfl)
noncomputable def kRT : CT Tryd.prog Γm := CT.auto false 3 3 [kRN] 88 Tryd.f88 (bodyOf Tryd.f88) false 8 [.tmp 2] Tryd.func88 (by kernel_rfl) (by kernel_rfl) (by kernel_rfl) (by kernel_rfl)
theorem runRB (x : Tx) : bodyE (P := Tryd.prog) (Γ := Γm) [Z.c86, kRN, kRT] Lno false 48 [.tmp 2] (bodyOf Tryd.f34) [txV x] [] =
  Tree.chk true (Tree.chk (decide (ByteArray.size (bif okN x.k then numB (Int.toNat x.k) else ByteArray.mk #[]) + ByteArray.size (bif okN x.nn then numB (Int.toNat x.nn) else ByteArray.mk #[])
    ≤ (9223372036854775807 : Nat)) && (decide (ByteArray.size (bif okN (↑(ByteArray.size x.fr) : Int) then numB (ByteArray.size x.fr) else ByteArray.mk #[]) + ByteArray.size x.fr ≤
    (9223372036854775807 : Nat)) && decide (ByteArray.size ((bif okN x.k then numB (Int.toNat x.k) else ByteArray.mk #[]) ++ bif okN x.nn then numB (Int.toNat x.nn) else ByteArray.mk #[]) +
    ByteArray.size ((bif okN (↑(ByteArray.size x.fr) : Int) then numB (ByteArray.size x.fr) else ByteArray.mk #[]) ++ x.fr) ≤ (9223372036854775807 : Nat)))) (Tree.br (decide (x.k = (1 :
    Int))) (Tree.chk true (Tree.chk (decide (ByteArray.size (bif okN (↑(ByteArray.size x.to) : Int) then numB (ByteArray.size x.to) else ByteArray.mk #[]) + ByteArray.size x.to ≤
    (9223372036854775807 : Nat)) && (decide (ByteArray.size (((bif okN x.k then numB (Int.toNat x.k) else ByteArray.mk #[]) ++ bif okN x.nn then numB (Int.toNat x.nn) else ByteArray.mk #[])
    ++ ((bif okN (↑(ByteArray.size x.fr) : Int) then numB (ByteArray.size x.fr) else ByteArray.mk #[]) ++ x.fr)) + ByteArray.size ((bif okN (↑(ByteArray.size x.to) : Int) then numB
    (ByteArray.size x.to) else ByteArray.mk #[]) ++ x.to) ≤ (9223372036854775807 : Nat)) && decide (ByteArray.size (((bif okN x.k then numB (Int.toNat x.k) else ByteArray.mk #[]) ++ bif okN
    x.nn then numB (Int.toNat x.nn) else ByteArray.mk #[]) ++ ((bif okN (↑(ByteArray.size x.fr) : Int) then numB (ByteArray.size x.fr) else ByteArray.mk #[]) ++ x.fr) ++ ((bif okN
    (↑(ByteArray.size x.to) : Int) then numB (ByteArray.size x.to) else ByteArray.mk #[]) ++ x.to)) + ByteArray.size (bif okN x.am then numB (Int.toNat x.am) else ByteArray.mk #[]) ≤
    (9223372036854775807 : Nat)))) (Tree.leaf (Ans.mk (AV.v (Value.string (((bif okN x.k then numB (Int.toNat x.k) else ByteArray.mk #[]) ++ bif okN x.nn then numB (Int.toNat x.nn) else
    ByteArray.mk #[]) ++ ((bif okN (↑(ByteArray.size x.fr) : Int) then numB (ByteArray.size x.fr) else ByteArray.mk #[]) ++ x.fr) ++ ((bif okN (↑(ByteArray.size x.to) : Int) then numB
    (ByteArray.size x.to) else ByteArray.mk #[]) ++ x.to) ++ bif okN x.am then numB (Int.toNat x.am) else ByteArray.mk #[]))) [])))) (Tree.chk (decide (ByteArray.size (bif okN
    (↑(ByteArray.size x.ky) : Int) then numB (ByteArray.size x.ky) else ByteArray.mk #[]) + ByteArray.size x.ky ≤ (9223372036854775807 : Nat)) && (decide (ByteArray.size (((bif okN x.k then
    numB (Int.toNat x.k) else ByteArray.mk #[]) ++ bif okN x.nn then numB (Int.toNat x.nn) else ByteArray.mk #[]) ++ ((bif okN (↑(ByteArray.size x.fr) : Int) then numB (ByteArray.size x.fr)
    else ByteArray.mk #[]) ++ x.fr)) + ByteArray.size ((bif okN (↑(ByteArray.size x.ky) : Int) then numB (ByteArray.size x.ky) else ByteArray.mk #[]) ++ x.ky) ≤ (9223372036854775807 : Nat))
    && (decide (ByteArray.size (bif okN (↑(ByteArray.size x.vl) : Int) then numB (ByteArray.size x.vl) else ByteArray.mk #[]) + ByteArray.size x.vl ≤ (9223372036854775807 : Nat)) && decide
    (ByteArray.size (((bif okN x.k then numB (Int.toNat x.k) else ByteArray.mk #[]) ++ bif okN x.nn then numB (Int.toNat x.nn) else ByteArray.mk #[]) ++ ((bif okN (↑(ByteArray.size x.fr) :
    Int) then numB (ByteArray.size x.fr) else ByteArray.mk #[]) ++ x.fr) ++ ((bif okN (↑(ByteArray.size x.ky) : Int) then numB (ByteArray.size x.ky) else ByteArray.mk #[]) ++ x.ky)) +
    ByteArray.size ((bif okN (↑(ByteArray.size x.vl) : Int) then numB (ByteArray.size x.vl) else ByteArray.mk #[]) ++ x.vl) ≤ (9223372036854775807 : Nat))))) (Tree.leaf (Ans.mk (AV.v
    (Value.string (((bif okN x.k then numB (Int.toNat x.k) else ByteArray.mk #[]) ++ bif okN x.nn then numB (Int.toNat x.nn) else ByteArray.mk #[]) ++ ((bif okN (↑(ByteArray.size x.fr) :
    Int) then numB (ByteArray.size x.fr) else ByteArray.mk #[]) ++ x.fr) ++ ((bif okN (↑(ByteArray.size x.ky) : Int) then numB (ByteArray.size x.ky) else ByteArray.mk #[]) ++ x.ky) ++ ((bif
    okN (↑(ByteArray.size x.vl) : Int) then numB (ByteArray.size x.vl) else ByteArray.mk #[]) ++ x.vl)))) []))))) := by kernel_rfl
theorem txB_facts {x : Tx} (h : txB x = true) : 1 ≤ x.nn ∧ x.nn ≤ 4611686018427387904 ∧ ((x.k = 1 ∧ 1 ≤ x.am ∧ x.am ≤ 4611686018427387904) ∨ x.k = 2) := by
  unfold txB at h
  by_cases k1 : x.k = 1
  · rw [if_pos k1] at h
    unfold okM at h
    simp only [Bool.and_eq_true, decide_eq_true_eq] at h
    exact ⟨h.1.2.1, h.1.2.2, .inl ⟨k1, h.2.2.1.1, h.2.2.1.2⟩⟩
  · rw [if_neg k1] at h
    by_cases k2 : x.k = 2
    · rw [if_pos k2] at h
      simp only [Bool.and_eq_true, decide_eq_true_eq] at h
      exact ⟨h.1.2.1, h.1.2.2, .inr k2⟩
    · rw [if_neg k2, Bool.and_false] at h; cases h
def tS (s : ByteArray) : ByteArray := numB s.size ++ s
/-- the bytes of a right one -/
def byS (x : Tx) : ByteArray := if x.k = 1 then numB x.k.toNat ++ numB x.nn.toNat ++ tS x.fr ++ tS x.to ++ numB x.am.toNat else numB x.k.toNat ++ numB x.nn.toNat ++ tS x.fr ++ tS x.ky ++ tS x.vl
theorem okN_size {s : ByteArray} (h : s.size ≤ 10000000) : okN ((s.size : Nat) : Int) = true := by
  unfold okN; rw [decide_eq_true (by omega), decide_eq_true (by omega)]; rfl
theorem ansRB {x : Tx} (h : okI x) (hb : txB x = true) : Answers Tryd.prog Γm 34 [txV x] [] (.v (.string (byS x))) [] [] :=
  answers (fn := Tryd.f34) (c := bodyOf Tryd.f34) (ntmps := 48) (results := [.tmp 2]) [Z.c86, kRN, kRT] Lno false Tryd.func34 (by kernel_rfl) (by kernel_rfl) (by kernel_rfl) (by kernel_rfl) (by simp) rfl (noLoops (by kernel_rfl)) <| Meets.of (runRB x) <| by
    obtain ⟨hs, hn, ha⟩ := h
    obtain ⟨s1, s2, s3, s4⟩ := hs
    obtain ⟨f1, f2, f3⟩ := txB_facts hb
    have o1 := okN_size s1
    have o2 := okN_size s2
    have o3 := okN_size s3
    have o4 := okN_size s4
    have o5 : okN x.nn = true := by unfold okN; rw [decide_eq_true (by omega), decide_eq_true (by omega)]; rfl
    have o6 : okN x.k = true := by unfold okN; rw [decide_eq_true (by omega), decide_eq_true (by omega)]; rfl
    have z1 := (numB_size (n := x.fr.size) (by omega)).1
    have z2 := (numB_size (n := x.to.size) (by omega)).1
    have z3 := (numB_size (n := x.ky.size) (by omega)).1
    have z4 := (numB_size (n := x.vl.size) (by omega)).1
    have z5 := (numB_size (n := x.nn.toNat) (by omega)).1
    have z6 := (numB_size (n := x.k.toNat) (by omega)).1
    simp only [o1, o2, o3, o4, o5, o6, cond_true]
    rcases f3 with ⟨hk, a1, a2⟩ | hk
    · have o7 : okN x.am = true := by unfold okN; rw [decide_eq_true (by omega), decide_eq_true (by omega)]; rfl
      have z7 := (numB_size (n := x.am.toNat) (by omega)).1
      have hp : byS x = numB x.k.toNat ++ numB x.nn.toNat ++ tS x.fr ++ tS x.to ++ numB x.am.toNat := if_pos hk
      rw [hp]
      simp only [o7, cond_true, ByteArray.size_append]
      repeat' (first | refine wC (by first | omega | (simp only [W1, cond_true, cond_false]; first | done | omega)) ?_ | refine wT (by first | omega | (simp only [W1, cond_true, cond_false]; first | done | omega)) ?_ | refine wF (by intro _h; first | omega | (simp only [W1, cond_true, cond_false] at _h; first | done | omega)) ?_ | (refine wS ?_ ?_ <;> intro _h <;> simp only [W1, cond_true, cond_false] at _h))
      all_goals simp only [W1, W2, owesN, owesX, owesR, cond_true, cond_false]
      repeat' (first | apply And.intro | intro _hc)
      all_goals first | exact leS rfl | exact AV.le_refl _ | exact AV.le_any _ | exact OLe.refl _ | exact OLe.none _ | exact LeH.refl _ | exact LeL.refl _ | exact AV.le.bs _ | exact AV.le.sb _ | omega | contradiction
    · have hp : byS x = numB x.k.toNat ++ numB x.nn.toNat ++ tS x.fr ++ tS x.ky ++ tS x.vl := if_neg (by omega)
      rw [hp]
      simp only [ByteArray.size_append]
      repeat' (first | refine wC (by first | omega | (simp only [W1, cond_true, cond_false]; first | done | omega)) ?_ | refine wT (by first | omega | (simp only [W1, cond_true, cond_false]; first | done | omega)) ?_ | refine wF (by intro _h; first | omega | (simp only [W1, cond_true, cond_false] at _h; first | done | omega)) ?_ | (refine wS ?_ ?_ <;> intro _h <;> simp only [W1, cond_true, cond_false] at _h))
      all_goals simp only [W1, W2, owesN, owesX, owesR, cond_true, cond_false]
      repeat' (first | apply And.intro | intro _hc)
      all_goals first | exact leS rfl | exact AV.le_refl _ | exact AV.le_any _ | exact OLe.refl _ | exact OLe.none _ | exact LeH.refl _ | exact LeL.refl _ | exact AV.le.bs _ | exact AV.le.sb _ | omega | contradiction
end Go.Eng.TA

/- transactions: bytes written: the program. -/
namespace Go.Eng.TA
open Go Go.Eng Go.Eng.M Go.Lib Go.Proofs
set_option linter.unusedSimpArgs false
set_option linter.unusedVariables false
def ofHS : List AV → List Blk → Option (ByteArray × ByteArray)
  | [.hs 0 0 _, .v (.string s)], [.arr 1 n f] => some (textOf n f, s)
  | _, _ => none
def ofHI : List AV → List Blk → Option (ByteArray × Int)
  | [.hs 0 0 _, .v (.int _ n)], [.arr 1 m f] => some (textOf m f, n)
  | _, _ => none
noncomputable def kTxt : CT Tryd.prog Γm := CT.par 82 ofHS (fun | (t, s) => (BA.hs t).ok ∧ s.size ≤ 65536) (fun | (t, s) => [.hs 0 0 t.size, .v (.string s)]) (fun | (t, s) => [.arr 1 t.size (bsF t)])
  (fun | (t, s) => .tup [.hs 1 0 (textB t s).size, .v (.int .i64 0)]) (fun | (t, s) => [some (.arr 1 t.size (bsF t))]) (fun | (t, s) => [.arr 1 (textB t s).size (bsF (textB t s))])
  (callFunc_enters Tryd.func82 (by kernel_rfl) (by kernel_rfl)) (fun | (t, s), h => ansTextH t s h.1 h.2)
theorem kNum_ok (t : ByteArray) (n : Int) (h : (BA.hs t).ok) (h1 : 0 ≤ n) (h2 : n ≤ 4611686018427387904) : Answers Tryd.prog Γm 83 [.hs 0 0 t.size, .v (.int .i64 n)] [.arr 1 t.size (bsF t)] (.tup [.hs 1 0 (t ++ numB n.toNat).size, .v (.int .i64 0)]) [some (.arr 1 t.size (bsF t))] [.arr 1 (t ++ numB n.toNat).size (bsF (t ++ numB n.toNat))] := by
  have := ansNum (.hs t) n.toNat h (by omega)
  rw [Int.toNat_of_nonneg h1] at this
  exact this
noncomputable def kNum : CT Tryd.prog Γm := CT.par 83 ofHI (fun | (t, n) => (BA.hs t).ok ∧ 0 ≤ n ∧ n ≤ 4611686018427387904) (fun | (t, n) => [.hs 0 0 t.size, .v (.int .i64 n)]) (fun | (t, n) => [.arr 1 t.size (bsF t)])
  (fun | (t, n) => .tup [.hs 1 0 (t ++ numB n.toNat).size, .v (.int .i64 0)]) (fun | (t, n) => [some (.arr 1 t.size (bsF t))]) (fun | (t, n) => [.arr 1 (t ++ numB n.toNat).size (bsF (t ++ numB n.toNat))])
  (callFunc_enters Tryd.func83 (by kernel_rfl) (by kernel_rfl)) (fun | (t, n), h => kNum_ok t n h.1 h.2.1 h.2.2)
def kn (x : Tx) : Nat → Int := fun j => match j with
  | 0 => x.k
  | _ => x.nn
theorem runTB0 (x : Tx) : bodyE (P := Tryd.prog) (Γ := Γm) [kTx] Lno false 57 [.tmp 2, .tmp 3] (bodyOf Tryd.f30) [txV x] [] =
  Tree.chk (cl (smallT (Tx.mk x.k x.fr x.to x.ky x.vl x.am x.nn) ∧ LeL [AV.agg [AV.v (Value.int IntKind.i64 x.k), AV.v (Value.string x.fr), AV.v (Value.string x.to), AV.v (Value.string x.ky),
    AV.v (Value.string x.vl), AV.v (Value.int IntKind.i64 x.am), AV.v (Value.int IntKind.i64 x.nn)]] [AV.agg [AV.v (Value.int IntKind.i64 x.k), AV.v (Value.string x.fr), AV.v (Value.string
    x.to), AV.v (Value.string x.ky), AV.v (Value.string x.vl), AV.v (Value.int IntKind.i64 x.am), AV.v (Value.int IntKind.i64 x.nn)]] ∧ LeH [] [])) (Tree.br (!decide (erT (txB (Tx.mk x.k
    x.fr x.to x.ky x.vl x.am x.nn)) = (0 : Int))) (Tree.leaf (Ans.mk (AV.tup [AV.v (Value.slice none (0 : Nat) (0 : Nat)), AV.v (Value.int IntKind.i64 (erT (txB (Tx.mk x.k x.fr x.to x.ky
    x.vl x.am x.nn))))]) [])) Tree.fail) := by kernel_rfl
theorem runTB (x : Tx) (t : ByteArray) (h : Answers Tryd.prog Γm 81 [.hs 0 0 2] [.arr 1 2 (i64F (kn x))] (.tup [.hs 1 0 t.size, .v (.int .i64 0)]) [some (.arr 1 2 (i64F (kn x)))] [.arr 1 t.size (bsF t)]) : bodyE (P := Tryd.prog) (Γ := Γm) [kTx, CT.at 81 h, kTxt, kNum] Lno false 57 [.tmp 2, .tmp 3] (bodyOf Tryd.f30) [txV x] [] =
  Tree.chk (cl (smallT (Tx.mk x.k x.fr x.to x.ky x.vl x.am x.nn) ∧ LeL [AV.agg [AV.v (Value.int IntKind.i64 x.k), AV.v (Value.string x.fr), AV.v (Value.string x.to), AV.v (Value.string x.ky),
    AV.v (Value.string x.vl), AV.v (Value.int IntKind.i64 x.am), AV.v (Value.int IntKind.i64 x.nn)]] [AV.agg [AV.v (Value.int IntKind.i64 x.k), AV.v (Value.string x.fr), AV.v (Value.string
    x.to), AV.v (Value.string x.ky), AV.v (Value.string x.vl), AV.v (Value.int IntKind.i64 x.am), AV.v (Value.int IntKind.i64 x.nn)]] ∧ LeH [] [])) (Tree.br (!decide (erT (txB (Tx.mk x.k
    x.fr x.to x.ky x.vl x.am x.nn)) = (0 : Int))) (Tree.leaf (Ans.mk (AV.tup [AV.v (Value.slice none (0 : Nat) (0 : Nat)), AV.v (Value.int IntKind.i64 (erT (txB (Tx.mk x.k x.fr x.to x.ky
    x.vl x.am x.nn))))]) [])) (Tree.chk (cl (LeL [AV.hs (0 : Nat) (0 : Nat) (2 : Nat)] [AV.hs (0 : Nat) (0 : Nat) (2 : Nat)] ∧ LeH [some (Blk.arr (1 : Nat) (2 : Nat) fun x_1 => [AV.v
    (Value.int IntKind.i64 (bif Nat.beq x_1 (0 : Nat) then x.k else bif Nat.beq x_1 (1 : Nat) then x.nn else (0 : Int)))])] [some (Blk.arr (1 : Nat) (2 : Nat) fun j => [AV.v (Value.int
    IntKind.i64 (kn x j))])])) (Tree.chk (cl ((BA.ok (BA.hs (textOf (ByteArray.size t) (bsF t))) ∧ ByteArray.size x.fr ≤ (65536 : Nat)) ∧ LeL [AV.hs (0 : Nat) (0 : Nat) (ByteArray.size t),
    AV.v (Value.string x.fr)] [AV.hs (0 : Nat) (0 : Nat) (ByteArray.size (textOf (ByteArray.size t) (bsF t))), AV.v (Value.string x.fr)] ∧ LeH [some (Blk.arr (1 : Nat) (ByteArray.size t) fun
    j => [AV.v (Value.int IntKind.u8 (sbyte t j))])] [some (Blk.arr (1 : Nat) (ByteArray.size (textOf (ByteArray.size t) (bsF t))) fun j => [AV.v (Value.int IntKind.u8 (sbyte (textOf
    (ByteArray.size t) (bsF t)) j))])])) (Tree.br (decide (x.k = (1 : Int))) (Tree.chk (cl ((BA.ok (BA.hs (textOf (ByteArray.size (textB (textOf (ByteArray.size t) (bsF t)) x.fr)) (bsF
    (textB (textOf (ByteArray.size t) (bsF t)) x.fr)))) ∧ ByteArray.size x.to ≤ (65536 : Nat)) ∧ LeL [AV.hs (0 : Nat) (0 : Nat) (ByteArray.size (textB (textOf (ByteArray.size t) (bsF t))
    x.fr)), AV.v (Value.string x.to)] [AV.hs (0 : Nat) (0 : Nat) (ByteArray.size (textOf (ByteArray.size (textB (textOf (ByteArray.size t) (bsF t)) x.fr)) (bsF (textB (textOf (ByteArray.size
    t) (bsF t)) x.fr)))), AV.v (Value.string x.to)] ∧ LeH [some (Blk.arr (1 : Nat) (ByteArray.size (textB (textOf (ByteArray.size t) (bsF t)) x.fr)) fun j => [AV.v (Value.int IntKind.u8
    (sbyte (textB (textOf (ByteArray.size t) (bsF t)) x.fr) j))])] [some (Blk.arr (1 : Nat) (ByteArray.size (textOf (ByteArray.size (textB (textOf (ByteArray.size t) (bsF t)) x.fr)) (bsF
    (textB (textOf (ByteArray.size t) (bsF t)) x.fr)))) fun j => [AV.v (Value.int IntKind.u8 (sbyte (textOf (ByteArray.size (textB (textOf (ByteArray.size t) (bsF t)) x.fr)) (bsF (textB
    (textOf (ByteArray.size t) (bsF t)) x.fr))) j))])])) (Tree.chk (cl ((BA.ok (BA.hs (textOf (ByteArray.size (textB (textOf (ByteArray.size (textB (textOf (ByteArray.size t) (bsF t)) x.fr))
    (bsF (textB (textOf (ByteArray.size t) (bsF t)) x.fr))) x.to)) (bsF (textB (textOf (ByteArray.size (textB (textOf (ByteArray.size t) (bsF t)) x.fr)) (bsF (textB (textOf (ByteArray.size
    t) (bsF t)) x.fr))) x.to)))) ∧ (0 : Int) ≤ x.am ∧ x.am ≤ (4611686018427387904 : Int)) ∧ LeL [AV.hs (0 : Nat) (0 : Nat) (ByteArray.size (textB (textOf (ByteArray.size (textB (textOf
    (ByteArray.size t) (bsF t)) x.fr)) (bsF (textB (textOf (ByteArray.size t) (bsF t)) x.fr))) x.to)), AV.v (Value.int IntKind.i64 x.am)] [AV.hs (0 : Nat) (0 : Nat) (ByteArray.size (textOf
    (ByteArray.size (textB (textOf (ByteArray.size (textB (textOf (ByteArray.size t) (bsF t)) x.fr)) (bsF (textB (textOf (ByteArray.size t) (bsF t)) x.fr))) x.to)) (bsF (textB (textOf
    (ByteArray.size (textB (textOf (ByteArray.size t) (bsF t)) x.fr)) (bsF (textB (textOf (ByteArray.size t) (bsF t)) x.fr))) x.to)))), AV.v (Value.int IntKind.i64 x.am)] ∧ LeH [some
    (Blk.arr (1 : Nat) (ByteArray.size (textB (textOf (ByteArray.size (textB (textOf (ByteArray.size t) (bsF t)) x.fr)) (bsF (textB (textOf (ByteArray.size t) (bsF t)) x.fr))) x.to)) fun j
    => [AV.v (Value.int IntKind.u8 (sbyte (textB (textOf (ByteArray.size (textB (textOf (ByteArray.size t) (bsF t)) x.fr)) (bsF (textB (textOf (ByteArray.size t) (bsF t)) x.fr))) x.to)
    j))])] [some (Blk.arr (1 : Nat) (ByteArray.size (textOf (ByteArray.size (textB (textOf (ByteArray.size (textB (textOf (ByteArray.size t) (bsF t)) x.fr)) (bsF (textB (textOf
    (ByteArray.size t) (bsF t)) x.fr))) x.to)) (bsF (textB (textOf (ByteArray.size (textB (textOf (ByteArray.size t) (bsF t)) x.fr)) (bsF (textB (textOf (ByteArray.size t) (bsF t)) x.fr)))
    x.to)))) fun j => [AV.v (Value.int IntKind.u8 (sbyte (textOf (ByteArray.size (textB (textOf (ByteArray.size (textB (textOf (ByteArray.size t) (bsF t)) x.fr)) (bsF (textB (textOf
    (ByteArray.size t) (bsF t)) x.fr))) x.to)) (bsF (textB (textOf (ByteArray.size (textB (textOf (ByteArray.size t) (bsF t)) x.fr)) (bsF (textB (textOf (ByteArray.size t) (bsF t)) x.fr)))
    x.to))) j))])])) (Tree.leaf (Ans.mk (AV.tup [AV.hs (0 : Nat) (0 : Nat) (ByteArray.size (textOf (ByteArray.size (textB (textOf (ByteArray.size (textB (textOf (ByteArray.size t) (bsF t))
    x.fr)) (bsF (textB (textOf (ByteArray.size t) (bsF t)) x.fr))) x.to)) (bsF (textB (textOf (ByteArray.size (textB (textOf (ByteArray.size t) (bsF t)) x.fr)) (bsF (textB (textOf
    (ByteArray.size t) (bsF t)) x.fr))) x.to)) ++ numB (Int.toNat x.am))), AV.v (Value.int IntKind.i64 (0 : Int))]) [some (Blk.arr (1 : Nat) (ByteArray.size (textOf (ByteArray.size (textB
    (textOf (ByteArray.size (textB (textOf (ByteArray.size t) (bsF t)) x.fr)) (bsF (textB (textOf (ByteArray.size t) (bsF t)) x.fr))) x.to)) (bsF (textB (textOf (ByteArray.size (textB
    (textOf (ByteArray.size t) (bsF t)) x.fr)) (bsF (textB (textOf (ByteArray.size t) (bsF t)) x.fr))) x.to)) ++ numB (Int.toNat x.am))) fun j => [AV.v (Value.int IntKind.u8 (sbyte (textOf
    (ByteArray.size (textB (textOf (ByteArray.size (textB (textOf (ByteArray.size t) (bsF t)) x.fr)) (bsF (textB (textOf (ByteArray.size t) (bsF t)) x.fr))) x.to)) (bsF (textB (textOf
    (ByteArray.size (textB (textOf (ByteArray.size t) (bsF t)) x.fr)) (bsF (textB (textOf (ByteArray.size t) (bsF t)) x.fr))) x.to)) ++ numB (Int.toNat x.am)) j))])])))) (Tree.chk (cl
    ((BA.ok (BA.hs (textOf (ByteArray.size (textB (textOf (ByteArray.size t) (bsF t)) x.fr)) (bsF (textB (textOf (ByteArray.size t) (bsF t)) x.fr)))) ∧ ByteArray.size x.ky ≤ (65536 : Nat)) ∧
    LeL [AV.hs (0 : Nat) (0 : Nat) (ByteArray.size (textB (textOf (ByteArray.size t) (bsF t)) x.fr)), AV.v (Value.string x.ky)] [AV.hs (0 : Nat) (0 : Nat) (ByteArray.size (textOf
    (ByteArray.size (textB (textOf (ByteArray.size t) (bsF t)) x.fr)) (bsF (textB (textOf (ByteArray.size t) (bsF t)) x.fr)))), AV.v (Value.string x.ky)] ∧ LeH [some (Blk.arr (1 : Nat)
    (ByteArray.size (textB (textOf (ByteArray.size t) (bsF t)) x.fr)) fun j => [AV.v (Value.int IntKind.u8 (sbyte (textB (textOf (ByteArray.size t) (bsF t)) x.fr) j))])] [some (Blk.arr (1 :
    Nat) (ByteArray.size (textOf (ByteArray.size (textB (textOf (ByteArray.size t) (bsF t)) x.fr)) (bsF (textB (textOf (ByteArray.size t) (bsF t)) x.fr)))) fun j => [AV.v (Value.int
    IntKind.u8 (sbyte (textOf (ByteArray.size (textB (textOf (ByteArray.size t) (bsF t)) x.fr)) (bsF (textB (textOf (ByteArray.size t) (bsF t)) x.fr))) j))])])) (Tree.chk (cl ((BA.ok (BA.hs
    (textOf (ByteArray.size (textB (textOf (ByteArray.size (textB (textOf (ByteArray.size t) (bsF t)) x.fr)) (bsF (textB (textOf (ByteArray.size t) (bsF t)) x.fr))) x.ky)) (bsF (textB
    (textOf (ByteArray.size (textB (textOf (ByteArray.size t) (bsF t)) x.fr)) (bsF (textB (textOf (ByteArray.size t) (bsF t)) x.fr))) x.ky)))) ∧ ByteArray.size x.vl ≤ (65536 : Nat)) ∧ LeL
    [AV.hs (0 : Nat) (0 : Nat) (ByteArray.size (textB (textOf (ByteArray.size (textB (textOf (ByteArray.size t) (bsF t)) x.fr)) (bsF (textB (textOf (ByteArray.size t) (bsF t)) x.fr)))
    x.ky)), AV.v (Value.string x.vl)] [AV.hs (0 : Nat) (0 : Nat) (ByteArray.size (textOf (ByteArray.size (textB (textOf (ByteArray.size (textB (textOf (ByteArray.size t) (bsF t)) x.fr)) (bsF
    (textB (textOf (ByteArray.size t) (bsF t)) x.fr))) x.ky)) (bsF (textB (textOf (ByteArray.size (textB (textOf (ByteArray.size t) (bsF t)) x.fr)) (bsF (textB (textOf (ByteArray.size t)
    (bsF t)) x.fr))) x.ky)))), AV.v (Value.string x.vl)] ∧ LeH [some (Blk.arr (1 : Nat) (ByteArray.size (textB (textOf (ByteArray.size (textB (textOf (ByteArray.size t) (bsF t)) x.fr)) (bsF
    (textB (textOf (ByteArray.size t) (bsF t)) x.fr))) x.ky)) fun j => [AV.v (Value.int IntKind.u8 (sbyte (textB (textOf (ByteArray.size (textB (textOf (ByteArray.size t) (bsF t)) x.fr))
    (bsF (textB (textOf (ByteArray.size t) (bsF t)) x.fr))) x.ky) j))])] [some (Blk.arr (1 : Nat) (ByteArray.size (textOf (ByteArray.size (textB (textOf (ByteArray.size (textB (textOf
    (ByteArray.size t) (bsF t)) x.fr)) (bsF (textB (textOf (ByteArray.size t) (bsF t)) x.fr))) x.ky)) (bsF (textB (textOf (ByteArray.size (textB (textOf (ByteArray.size t) (bsF t)) x.fr))
    (bsF (textB (textOf (ByteArray.size t) (bsF t)) x.fr))) x.ky)))) fun j => [AV.v (Value.int IntKind.u8 (sbyte (textOf (ByteArray.size (textB (textOf (ByteArray.size (textB (textOf
    (ByteArray.size t) (bsF t)) x.fr)) (bsF (textB (textOf (ByteArray.size t) (bsF t)) x.fr))) x.ky)) (bsF (textB (textOf (ByteArray.size (textB (textOf (ByteArray.size t) (bsF t)) x.fr))
    (bsF (textB (textOf (ByteArray.size t) (bsF t)) x.fr))) x.ky))) j))])])) (Tree.leaf (Ans.mk (AV.tup [AV.hs (0 : Nat) (0 : Nat) (ByteArray.size (textB (textOf (ByteArray.size (textB
    (textOf (ByteArray.size (textB (textOf (ByteArray.size t) (bsF t)) x.fr)) (bsF (textB (textOf (ByteArray.size t) (bsF t)) x.fr))) x.ky)) (bsF (textB (textOf (ByteArray.size (textB
    (textOf (ByteArray.size t) (bsF t)) x.fr)) (bsF (textB (textOf (ByteArray.size t) (bsF t)) x.fr))) x.ky))) x.vl)), AV.v (Value.int IntKind.i64 (0 : Int))]) [some (Blk.arr (1 : Nat)
    (ByteArray.size (textB (textOf (ByteArray.size (textB (textOf (ByteArray.size (textB (textOf (ByteArray.size t) (bsF t)) x.fr)) (bsF (textB (textOf (ByteArray.size t) (bsF t)) x.fr)))
    x.ky)) (bsF (textB (textOf (ByteArray.size (textB (textOf (ByteArray.size t) (bsF t)) x.fr)) (bsF (textB (textOf (ByteArray.size t) (bsF t)) x.fr))) x.ky))) x.vl)) fun j => [AV.v
    (Value.int IntKind.u8 (sbyte (textB (textOf (ByteArray.size (textB (textOf (ByteArray.size (textB (textOf (ByteArray.size t) (bsF t)) x.fr)) (bsF (textB (textOf (ByteArray.size t) (bsF
    t)) x.fr))) x.ky)) (bsF (textB (textOf (ByteArray.size (textB (textOf (ByteArray.size t) (bsF t)) x.fr)) (bsF (textB (textOf (ByteArray.size t) (bsF t)) x.fr))) x.ky))) x.vl)
    j))])])))))))) := by kernel_rfl
theorem textOf_u {t : ByteArray} : textOf t.size (fun j => [AV.v (Value.int IntKind.u8 (sbyte t j))]) = t := textOf_bsF t
theorem textB_small {t s : ByteArray} (h : t.size ≤ 1000000) (hs : s.size ≤ 1000) : (textB t s).size ≤ t.size + 1010 := by
  unfold textB
  have := (numB_size (n := s.size) (by omega)).1
  simp only [ByteArray.size_append]
  omega
theorem textB_pos {t s : ByteArray} (hs : s.size ≤ 1000) : 0 < (textB t s).size := by
  unfold textB
  have := (numB_size (n := s.size) (by omega)).2
  simp only [ByteArray.size_append]
  omega
theorem textB_ok {t s : ByteArray} (h : t.size ≤ 1000000) (hs : s.size ≤ 1000) : (BA.hs (textB t s)).ok := by
  have := textB_small h hs
  exact ⟨by unfold small; omega, textB_pos hs⟩
theorem gr_sizes {x : Tx} (g : grT x = false) : x.fr.size ≤ 1000 ∧ x.to.size ≤ 1000 ∧ x.ky.size ≤ 1000 ∧ x.vl.size ≤ 1000 := by
  unfold grT at g
  have := of_decide_eq_false g
  omega
theorem ansBy0 {x : Tx} (h : okI x) (g : grT x = false) (hb : txB x = false) : Answers Tryd.prog Γm 30 [txV x] [] (.tup [.v (.slice none 0 0), .v (.int .i64 80)]) [] [] := by
  have hn : (NA.nil).ok := ⟨fun j hj => absurd hj (Nat.not_lt_zero j), by decide, fun h => by cases h⟩
  refine answers (fn := Tryd.f30) (c := bodyOf Tryd.f30) (ntmps := 57) (results := [.tmp 2, .tmp 3]) [kTx] (Lno) false Tryd.func30 (by kernel_rfl) (by kernel_rfl) (by kernel_rfl) (by kernel_rfl) (by simp) rfl (failOK fun _ _ _ => rfl) <| Meets.of (runTB0 x) <| ?_
  have hs := h.1
  have hx : Tx.mk x.k x.fr x.to x.ky x.vl x.am x.nn = x := rfl
  have et : erT false = 80 := rfl
  repeat' (first | refine wC (by first | omega | (simp only [W1, cond_true, cond_false, hx, hs, hb, et]; first | done | omega)) ?_ | refine wT (by first | omega | (simp only [W1, cond_true, cond_false, hx, hs, hb, et]; first | done | omega)) ?_ | refine wF (by intro _h; first | omega | (simp only [W1, cond_true, cond_false, hx, hs, hb, et] at _h; first | done | omega)) ?_ | (refine wS ?_ ?_ <;> intro _h <;> simp only [W1, cond_true, cond_false, hx, hs, hb, et] at _h))
  all_goals simp only [W1, W2, owesN, owesX, owesR, cond_true, cond_false, hx, hs, hb, et]
  repeat' (first | apply And.intro | intro _hc)
  all_goals first | exact tup2 (.refl _) (leI rfl) | exact AV.le_refl _ | exact AV.le_any _ | exact OLe.refl _ | exact OLe.none _ | exact LeH.refl _ | exact LeL.refl _ | exact AV.le.bs _ | exact AV.le.sb _ | omega | contradiction
theorem ansBy1 {x : Tx} (h : okI x) (g : grT x = false) (hb : txB x = true) : Answers Tryd.prog Γm 30 [txV x] [] (.tup [.hs 0 0 (byS x).size, .v (.int .i64 0)]) [] [.arr 1 (byS x).size (bsF (byS x))] := by
  obtain ⟨f1, f2, f3⟩ := txB_facts hb
  obtain ⟨g1, g2, g3, g4⟩ := gr_sizes g
  have hok : ∀ j, j < 2 → okN (kn x j) = true := fun j hj => by
    match j, hj with
    | 0, _ => show okN x.k = true; unfold okN; rw [decide_eq_true (by omega), decide_eq_true (by omega)]; rfl
    | 1, _ => show okN x.nn = true; unfold okN; rw [decide_eq_true (by omega), decide_eq_true (by omega)]; rfl
  have hN : (NA.hs 2 (kn x)).ok := ⟨hok, (by show 2 ≤ 100000; decide), fun _ => (by show 0 < 2; decide)⟩
  have hc := catN_small (g := kn x) (i := 2) hok
  have hA : Answers Tryd.prog Γm 81 [.hs 0 0 2] [.arr 1 2 (i64F (kn x))] (.tup [.hs 1 0 (catN (kn x) 2).size, .v (.int .i64 0)]) [some (.arr 1 2 (i64F (kn x)))] [.arr 1 (catN (kn x) 2).size (bsF (catN (kn x) 2))] := ansNums (.hs 2 (kn x)) hN
  have hB : byS x = if x.k = 1 then textB (textB (catN (kn x) 2) x.fr) x.to ++ numB x.am.toNat else textB (textB (textB (catN (kn x) 2) x.fr) x.ky) x.vl := by
    have e : catN (kn x) 2 = numB x.k.toNat ++ numB x.nn.toNat := by
      show (⟨#[]⟩ ++ numB x.k.toNat) ++ numB x.nn.toNat = _
      rw [show (⟨#[]⟩ : ByteArray) = ByteArray.empty from rfl, ByteArray.empty_append]
    rw [e]
    unfold byS textB tS
    simp only [ByteArray.append_assoc]
  generalize catN (kn x) 2 = t at hA hB hc
  refine answers (fn := Tryd.f30) (c := bodyOf Tryd.f30) (ntmps := 57) (results := [.tmp 2, .tmp 3]) [kTx, CT.at 81 hA, kTxt, kNum] (Lno) false Tryd.func30 (by kernel_rfl) (by kernel_rfl) (by kernel_rfl) (by kernel_rfl) (by simp) rfl (failOK fun _ _ _ => rfl) <| Meets.of (runTB x t hA) <| ?_
  have hs := h.1
  have hx : Tx.mk x.k x.fr x.to x.ky x.vl x.am x.nn = x := rfl
  have et : erT true = 0 := rfl
  have q0 : (BA.hs t).ok := ⟨by unfold small; omega, by omega⟩
  have q1 := textB_ok (t := t) (s := x.fr) (by omega) g1
  have z1 := textB_small (t := t) (s := x.fr) (by omega) g1
  have q2 := textB_ok (t := textB t x.fr) (s := x.to) (by omega) g2
  have q3 := textB_ok (t := textB t x.fr) (s := x.ky) (by omega) g3
  have hO : OLe (some (Blk.arr 1 2 fun i => [AV.v (Value.int IntKind.i64 (bif Nat.beq i 0 then x.k else bif Nat.beq i 1 then x.nn else 0))])) (some (.arr 1 2 fun j => [AV.v (Value.int IntKind.i64 (kn x j))])) :=
    OLe.arr rfl (fun e he => by
      match e, he with
      | 0, _ => rfl
      | 1, _ => rfl) (fun _ => rfl)
  simp only [textOf_u, textOf_bsF, hx, hb, et]
  rcases f3 with ⟨hk, a1, a2⟩ | hk
  · have a3 : 0 ≤ x.am := by omega
    rw [hB, if_pos hk]
    have hO1 := hO
    simp only [hk] at hO1
    repeat' (first | refine wC (by first | omega | (simp only [W1, cond_true, cond_false, hx, hs, hb, et, hk, q0, q1, q2, g1, g2, a3, a2]; first | done | omega)) ?_ | refine wT (by first | omega | (simp only [W1, cond_true, cond_false, hx, hs, hb, et, hk, q0, q1, q2, g1, g2, a3, a2]; first | done | omega)) ?_ | refine wF (by intro _h; first | omega | (simp only [W1, cond_true, cond_false, hx, hs, hb, et, hk, q0, q1, q2, g1, g2, a3, a2] at _h; first | done | omega)) ?_ | (refine wS ?_ ?_ <;> intro _h <;> simp only [W1, cond_true, cond_false, hx, hs, hb, et, hk, q0, q1, q2, g1, g2, a3, a2] at _h))
    all_goals simp only [W1, W2, owesN, owesX, owesR, cond_true, cond_false, hx, hs, hb, et, hk, q0, q1, q2, g1, g2, a3, a2]
    repeat' (first | apply And.intro | intro _hc)
    all_goals first | exact hO1 | exact AV.le_refl _ | exact AV.le_any _ | exact OLe.refl _ | exact OLe.none _ | exact LeH.refl _ | exact LeL.refl _ | exact AV.le.bs _ | exact AV.le.sb _ | omega | contradiction
  · have hk1 : ¬ x.k = 1 := by omega
    rw [hB, if_neg hk1]
    repeat' (first | refine wC (by first | omega | (simp only [W1, cond_true, cond_false, hx, hs, hb, et, hk1, q0, q1, q3, g1, g3, g4]; first | done | omega)) ?_ | refine wT (by first | omega | (simp only [W1, cond_true, cond_false, hx, hs, hb, et, hk1, q0, q1, q3, g1, g3, g4]; first | done | omega)) ?_ | refine wF (by intro _h; first | omega | (simp only [W1, cond_true, cond_false, hx, hs, hb, et, hk1, q0, q1, q3, g1, g3, g4] at _h; first | done | omega)) ?_ | (refine wS ?_ ?_ <;> intro _h <;> simp only [W1, cond_true, cond_false, hx, hs, hb, et, hk1, q0, q1, q3, g1, g3, g4] at _h))
    all_goals simp only [W1, W2, owesN, owesX, owesR, cond_true, cond_false, hx, hs, hb, et, hk1, q0, q1, q3, g1, g3, g4]
    repeat' (first | apply And.intro | intro _hc)
    all_goals first | exact hO | exact AV.le_refl _ | exact AV.le_any _ | exact OLe.refl _ | exact OLe.none _ | exact LeH.refl _ | exact LeL.refl _ | exact AV.le.bs _ | exact AV.le.sb _ | omega | contradiction
end Go.Eng.TA

/- names: the chapter's example. -/
namespace Go.Eng.TA
open Go Go.Eng Go.Proofs
set_option linter.unusedSimpArgs false
set_option linter.unusedVariables false
/-- (hallmoot/name.span).has -/
noncomputable def z25 : CT Tryd.prog Γm := CT.auto true 100 3 [] 109 Tryd.f109 (bodyOf Tryd.f109) false 21 [.tmp 4] Tryd.func109 (by kernel_rfl) (by kernel_rfl) (by kernel_rfl) (by kernel_rfl)
/-- hallmoot/name.great -/
noncomputable def z26 : CT Tryd.prog Γm := CT.auto true 100 3 [z25] 112 Tryd.f112 (bodyOf Tryd.f112) false 16 [.tmp 2] Tryd.func112 (by kernel_rfl) (by kernel_rfl) (by kernel_rfl) (by kernel_rfl)
/-- hallmoot/name.Small -/
noncomputable def z12 : CT Tryd.prog Γm := CT.auto true 100 3 [z26] 77 Tryd.f77 (bodyOf Tryd.f77) false 8 [.tmp 2] Tryd.func77 (by kernel_rfl) (by kernel_rfl) (by kernel_rfl) (by kernel_rfl)
/-- hallmoot/name.Letter -/
noncomputable def z10 : CT Tryd.prog Γm := CT.auto true 100 3 [z25] 73 Tryd.f73 (bodyOf Tryd.f73) false 19 [.tmp 2] Tryd.func73 (by kernel_rfl) (by kernel_rfl) (by kernel_rfl) (by kernel_rfl)
/-- hallmoot/name.broken -/
noncomputable def z28 : CT Tryd.prog Γm := CT.auto true 100 3 [] 75 Tryd.f75 (bodyOf Tryd.f75) false 20 [.tmp 6] Tryd.func75 (by kernel_rfl) (by kernel_rfl) (by kernel_rfl) (by kernel_rfl)
/-- unicode/utf8.appendRuneNonASCII -/
noncomputable def z34 : CT Tryd.prog Γm := CT.auto true 100 3 [] 111 Tryd.f111 (bodyOf Tryd.f111) false 78 [.tmp 4] Tryd.func111 (by kernel_rfl) (by kernel_rfl) (by kernel_rfl) (by kernel_rfl)
/-- unicode/utf8.AppendRune -/
noncomputable def z29 : CT Tryd.prog Γm := CT.auto true 100 3 [z34] 76 Tryd.f76 (bodyOf Tryd.f76) false 16 [.tmp 4] Tryd.func76 (by kernel_rfl) (by kernel_rfl) (by kernel_rfl) (by kernel_rfl)
/-- hallmoot/name.Check -/
noncomputable def z17 : CT Tryd.prog Γm := CT.auto true 100 3 [z10] 20 Tryd.f20 (bodyOf Tryd.f20) false 41 [.tmp 2] Tryd.func20 (by kernel_rfl) (by kernel_rfl) (by kernel_rfl) (by kernel_rfl)
/-- hallmoot/name.Fold -/
noncomputable def z21 : CT Tryd.prog Γm := CT.auto true 100 3 [z28, z29, z12, z17] 24 Tryd.f24 (bodyOf Tryd.f24) false 30 [.tmp 2, .tmp 3] Tryd.func24 (by kernel_rfl) (by kernel_rfl) (by kernel_rfl) (by kernel_rfl)
/-- hallmoot/name.Cut -/
noncomputable def z14 : CT Tryd.prog Γm := CT.auto true 100 3 [] 17 Tryd.f17 (bodyOf Tryd.f17) false 25 [.tmp 4, .tmp 5] Tryd.func17 (by kernel_rfl) (by kernel_rfl) (by kernel_rfl) (by kernel_rfl)
theorem run8 : (bodyE (P := Tryd.prog) (Γ := Γm) [z21, z14, z17] (autoL true 100 [z21, z14, z17] false 0 35 (loopBodies (bodyOf Tryd.f15)) 3) false 35 [.tmp 0] (bodyOf Tryd.f15) [] []).get = some ⟨.sb true, []⟩ := by kernel_rfl
/-- the example holds -/
noncomputable def z8 : CT Tryd.prog Γm := CT.fact 15 Tryd.f15 (bodyOf Tryd.f15) [z21, z14, z17] (autoL true 100 [z21, z14, z17] false 0 35 (loopBodies (bodyOf Tryd.f15)) 3) false 35 [.tmp 0] Tryd.func15 (by kernel_rfl) (by kernel_rfl) (by kernel_rfl) (by kernel_rfl) (autoL_ok 3) (.sb true) (.sb true) run8
end Go.Eng.TA

/- the chapters' examples. -/
namespace Go.Eng.TA
open Go Go.Eng Go.Proofs
set_option linter.unusedSimpArgs false
set_option linter.unusedVariables false
/-- hallmoot/tx.words -/
noncomputable def z90x : CT Tryd.prog Γm := CT.auto true 100 3 [] 90 Tryd.f90 (bodyOf Tryd.f90) false 35 [.tmp 4, .tmp 5, .tmp 6] Tryd.func90 (by kernel_rfl) (by kernel_rfl) (by kernel_rfl) (by kernel_rfl)
/-- hallmoot/num.form -/
noncomputable def z113x : CT Tryd.prog Γm := CT.auto true 100 3 [] 113 Tryd.f113 (bodyOf Tryd.f113) false 54 [.tmp 2, .tmp 3, .tmp 4] Tryd.func113 (by kernel_rfl) (by kernel_rfl) (by kernel_rfl) (by kernel_rfl)
/-- hallmoot/num.Within -/
noncomputable def z85x : CT Tryd.prog Γm := CT.auto true 100 3 [] 85 Tryd.f85 (bodyOf Tryd.f85) false 15 [.tmp 6] Tryd.func85 (by kernel_rfl) (by kernel_rfl) (by kernel_rfl) (by kernel_rfl)
/-- hallmoot/num.Read -/
noncomputable def z91x : CT Tryd.prog Γm := CT.auto true 100 3 [z113x, z85x] 91 Tryd.f91 (bodyOf Tryd.f91) false 59 [.tmp 6, .tmp 7] Tryd.func91 (by kernel_rfl) (by kernel_rfl) (by kernel_rfl) (by kernel_rfl)
/-- unicode/utf8.decodeRuneInStringSlow -/
noncomputable def z120x : CT Tryd.prog Γm := CT.auto true 100 3 [] 120 Tryd.f120 (bodyOf Tryd.f120) false 117 [.tmp 2, .tmp 3] Tryd.func120 (by kernel_rfl) (by kernel_rfl) (by kernel_rfl) (by kernel_rfl)
/-- unicode/utf8.DecodeRuneInString -/
noncomputable def z110x : CT Tryd.prog Γm := CT.auto true 100 3 [z120x] 110 Tryd.f110 (bodyOf Tryd.f110) false 19 [.tmp 2, .tmp 3] Tryd.func110 (by kernel_rfl) (by kernel_rfl) (by kernel_rfl) (by kernel_rfl)
/-- hallmoot/name.Value -/
noncomputable def z22x : CT Tryd.prog Γm := CT.auto true 100 3 [z28] 22 Tryd.f22 (bodyOf Tryd.f22) false 28 [.tmp 2] Tryd.func22 (by kernel_rfl) (by kernel_rfl) (by kernel_rfl) (by kernel_rfl)
/-- hallmoot/tx.Check -/
noncomputable def z32x : CT Tryd.prog Γm := CT.auto true 100 3 [z17, z85x, z22x] 32 Tryd.f32 (bodyOf Tryd.f32) false 66 [.tmp 2] Tryd.func32 (by kernel_rfl) (by kernel_rfl) (by kernel_rfl) (by kernel_rfl)
/-- hallmoot/tx.Parse -/
noncomputable def z36x : CT Tryd.prog Γm := CT.auto true 100 3 [z90x, z91x, z32x] 36 Tryd.f36 (bodyOf Tryd.f36) false 112 [.cell 2 40, .tmp 3] Tryd.func36 (by kernel_rfl) (by kernel_rfl) (by kernel_rfl) (by kernel_rfl)
/-- hallmoot/num.Print -/
noncomputable def z84x : CT Tryd.prog Γm := CT.auto true 100 3 [] 84 Tryd.f84 (bodyOf Tryd.f84) false 35 [.tmp 2] Tryd.func84 (by kernel_rfl) (by kernel_rfl) (by kernel_rfl) (by kernel_rfl)
/-- hallmoot/tx.Print -/
noncomputable def z31x : CT Tryd.prog Γm := CT.auto true 100 3 [z32x, z84x] 31 Tryd.f31 (bodyOf Tryd.f31) false 42 [.tmp 2, .tmp 3] Tryd.func31 (by kernel_rfl) (by kernel_rfl) (by kernel_rfl) (by kernel_rfl)
/-- slices.Clone[[]byte,byte] -/
noncomputable def z94x : CT Tryd.prog Γm := CT.auto true 100 3 [] 94 Tryd.f94 (bodyOf Tryd.f94) false 8 [.tmp 2] Tryd.func94 (by kernel_rfl) (by kernel_rfl) (by kernel_rfl) (by kernel_rfl)
/-- hallmoot/wire.Num -/
noncomputable def z83x : CT Tryd.prog Γm := CT.auto true 100 3 [z94x] 83 Tryd.f83 (bodyOf Tryd.f83) false 30 [.tmp 4, .tmp 5] Tryd.func83 (by kernel_rfl) (by kernel_rfl) (by kernel_rfl) (by kernel_rfl)
/-- hallmoot/wire.Nums -/
noncomputable def z81x : CT Tryd.prog Γm := CT.auto true 100 3 [z83x] 81 Tryd.f81 (bodyOf Tryd.f81) false 25 [.tmp 2, .tmp 3] Tryd.func81 (by kernel_rfl) (by kernel_rfl) (by kernel_rfl) (by kernel_rfl)
/-- hallmoot/wire.Text -/
noncomputable def z82x : CT Tryd.prog Γm := CT.auto true 100 3 [z83x] 82 Tryd.f82 (bodyOf Tryd.f82) false 22 [.tmp 4, .tmp 5] Tryd.func82 (by kernel_rfl) (by kernel_rfl) (by kernel_rfl) (by kernel_rfl)
/-- hallmoot/tx.Bytes -/
noncomputable def z30x : CT Tryd.prog Γm := CT.auto true 100 3 [z32x, z81x, z82x, z83x] 30 Tryd.f30 (bodyOf Tryd.f30) false 57 [.tmp 2, .tmp 3] Tryd.func30 (by kernel_rfl) (by kernel_rfl) (by kernel_rfl) (by kernel_rfl)
theorem zrun28 : (bodyE (P := Tryd.prog) (Γ := Γm) [z36x, z31x, z30x] (autoL true 100 [z36x, z31x, z30x] false 0 40 (loopBodies (bodyOf Tryd.f28)) 3) false 40 [.tmp 0] (bodyOf Tryd.f28) [] []).get = some ⟨.sb true, []⟩ := by kernel_rfl
/-- hallmoot/hallmootlaw08.alive: it holds -/
noncomputable def z28' : CT Tryd.prog Γm := CT.fact 28 Tryd.f28 (bodyOf Tryd.f28) [z36x, z31x, z30x] (autoL true 100 [z36x, z31x, z30x] false 0 40 (loopBodies (bodyOf Tryd.f28)) 3) false 40 [.tmp 0] Tryd.func28 (by kernel_rfl) (by kernel_rfl) (by kernel_rfl) (by kernel_rfl) (autoL_ok 3) (.sb true) (.sb true) zrun28
end Go.Eng.TA

/- TxWrites: the law. -/
namespace Go.Eng.TA
open Go Go.Eng Go.Eng.M Go.Lib Go.Proofs
set_option linter.unusedSimpArgs false
set_option linter.unusedVariables false
def AW (x : Tx) : List AV := [txV x]
theorem leT {a : Bool} (h : a = true) : AV.le (.sb a) (.v (.bool true)) := by rw [h]; exact .sb true
theorem allB_u {n : Nat} {t : ByteArray} : allBytes n (fun j => [AV.v (Value.int IntKind.u8 (sbyte t j))]) = true := allBytes_bsF n t
theorem lawW0 (x : Tx) : bodyE (P := Tryd.prog) (Γ := Γm) [z28', kGr] Lno false 69 [.tmp 2] (bodyOf Tryd.f7) (AW x) [] =
  Tree.chk (cl (True ∧ LeL [AV.agg [AV.v (Value.int IntKind.i64 x.k), AV.v (Value.string x.fr), AV.v (Value.string x.to), AV.v (Value.string x.ky), AV.v (Value.string x.vl), AV.v (Value.int
    IntKind.i64 x.am), AV.v (Value.int IntKind.i64 x.nn)]] [AV.agg [AV.v (Value.int IntKind.i64 x.k), AV.v (Value.string x.fr), AV.v (Value.string x.to), AV.v (Value.string x.ky), AV.v
    (Value.string x.vl), AV.v (Value.int IntKind.i64 x.am), AV.v (Value.int IntKind.i64 x.nn)]] ∧ LeH [] [])) (Tree.br (grT (Tx.mk x.k x.fr x.to x.ky x.vl x.am x.nn)) (Tree.leaf (Ans.mk
    (AV.v (Value.bool true)) [])) Tree.fail) := by kernel_rfl
theorem lawW1 (x : Tx) (s : ByteArray) (c e f : Int) (h1 : Answers Tryd.prog Γm 30 [txV x] [] (.tup [.v (.slice none 0 0), .v (.int .i64 e)]) [] []) (h2 : Answers Tryd.prog Γm 31 [txV x] [] (.tup [.v (.string s), .v (.int .i64 f)]) [] []) (h3 : Answers Tryd.prog Γm 32 [txV x] [] (.v (.int .i64 c)) [] []) (h4 : Answers Tryd.prog Γm 33 [txV x] [] (.sb false) [] []) : bodyE (P := Tryd.prog) (Γ := Γm) [z28', kGr, CT.at 30 h1, CT.at 31 h2, CT.at 32 h3, CT.at 33 h4] Lno false 69 [.tmp 2] (bodyOf Tryd.f7) (AW x) [] =
  Tree.chk (cl (True ∧ LeL [AV.agg [AV.v (Value.int IntKind.i64 x.k), AV.v (Value.string x.fr), AV.v (Value.string x.to), AV.v (Value.string x.ky), AV.v (Value.string x.vl), AV.v (Value.int
    IntKind.i64 x.am), AV.v (Value.int IntKind.i64 x.nn)]] [AV.agg [AV.v (Value.int IntKind.i64 x.k), AV.v (Value.string x.fr), AV.v (Value.string x.to), AV.v (Value.string x.ky), AV.v
    (Value.string x.vl), AV.v (Value.int IntKind.i64 x.am), AV.v (Value.int IntKind.i64 x.nn)]] ∧ LeH [] [])) (Tree.br (grT (Tx.mk x.k x.fr x.to x.ky x.vl x.am x.nn)) (Tree.leaf (Ans.mk
    (AV.v (Value.bool true)) [])) (Tree.chk (cl (LeL [AV.agg [AV.v (Value.int IntKind.i64 x.k), AV.v (Value.string x.fr), AV.v (Value.string x.to), AV.v (Value.string x.ky), AV.v
    (Value.string x.vl), AV.v (Value.int IntKind.i64 x.am), AV.v (Value.int IntKind.i64 x.nn)]] [AV.agg [AV.v (Value.int IntKind.i64 x.k), AV.v (Value.string x.fr), AV.v (Value.string x.to),
    AV.v (Value.string x.ky), AV.v (Value.string x.vl), AV.v (Value.int IntKind.i64 x.am), AV.v (Value.int IntKind.i64 x.nn)]] ∧ LeH [] [])) (Tree.chk (cl (LeL [AV.agg [AV.v (Value.int
    IntKind.i64 x.k), AV.v (Value.string x.fr), AV.v (Value.string x.to), AV.v (Value.string x.ky), AV.v (Value.string x.vl), AV.v (Value.int IntKind.i64 x.am), AV.v (Value.int IntKind.i64
    x.nn)]] [AV.agg [AV.v (Value.int IntKind.i64 x.k), AV.v (Value.string x.fr), AV.v (Value.string x.to), AV.v (Value.string x.ky), AV.v (Value.string x.vl), AV.v (Value.int IntKind.i64
    x.am), AV.v (Value.int IntKind.i64 x.nn)]] ∧ LeH [] [])) (Tree.chk (cl (LeL [AV.agg [AV.v (Value.int IntKind.i64 x.k), AV.v (Value.string x.fr), AV.v (Value.string x.to), AV.v
    (Value.string x.ky), AV.v (Value.string x.vl), AV.v (Value.int IntKind.i64 x.am), AV.v (Value.int IntKind.i64 x.nn)]] [AV.agg [AV.v (Value.int IntKind.i64 x.k), AV.v (Value.string x.fr),
    AV.v (Value.string x.to), AV.v (Value.string x.ky), AV.v (Value.string x.vl), AV.v (Value.int IntKind.i64 x.am), AV.v (Value.int IntKind.i64 x.nn)]] ∧ LeH [] [])) (Tree.chk (cl (LeL
    [AV.agg [AV.v (Value.int IntKind.i64 x.k), AV.v (Value.string x.fr), AV.v (Value.string x.to), AV.v (Value.string x.ky), AV.v (Value.string x.vl), AV.v (Value.int IntKind.i64 x.am), AV.v
    (Value.int IntKind.i64 x.nn)]] [AV.agg [AV.v (Value.int IntKind.i64 x.k), AV.v (Value.string x.fr), AV.v (Value.string x.to), AV.v (Value.string x.ky), AV.v (Value.string x.vl), AV.v
    (Value.int IntKind.i64 x.am), AV.v (Value.int IntKind.i64 x.nn)]] ∧ LeH [] [])) (Tree.br true (Tree.leaf (Ans.mk (AV.sb (bif decide (s = ByteArray.mk #[]) then bif decide (e = (80 :
    Int)) then bif decide (f = (80 : Int)) then decide (c = (80 : Int)) else false else false else false)) [])) (Tree.br (decide (e = (0 : Int))) (Tree.br (decide (f = (0 : Int))) (Tree.br
    (decide (c = (0 : Int))) Tree.fail (Tree.leaf (Ans.mk (AV.v (Value.bool false)) []))) (Tree.leaf (Ans.mk (AV.v (Value.bool false)) []))) (Tree.leaf (Ans.mk (AV.v (Value.bool false))
    []))))))))) := by kernel_rfl
theorem lawW2 (x : Tx) (s b s' b' : ByteArray) (c e f : Int) (h1 : Answers Tryd.prog Γm 30 [txV x] [] (.tup [.hs 0 0 b.size, .v (.int .i64 e)]) [] [.arr 1 b.size (bsF b)]) (h2 : Answers Tryd.prog Γm 31 [txV x] [] (.tup [.v (.string s), .v (.int .i64 f)]) [] []) (h3 : Answers Tryd.prog Γm 32 [txV x] [] (.v (.int .i64 c)) [] []) (h4 : Answers Tryd.prog Γm 33 [txV x] [] (.sb true) [] []) (h5 : Answers Tryd.prog Γm 34 [txV x] [] (.v (.string b')) [] []) (h6 : Answers Tryd.prog Γm 35 [txV x] [] (.v (.string s')) [] []) : bodyE (P := Tryd.prog) (Γ := Γm) [z28', kGr, CT.at 30 h1, CT.at 31 h2, CT.at 32 h3, CT.at 33 h4, CT.at 34 h5, CT.at 35 h6] Lno false 69 [.tmp 2] (bodyOf Tryd.f7) (AW x) [] =
  Tree.chk (cl (True ∧ LeL [AV.agg [AV.v (Value.int IntKind.i64 x.k), AV.v (Value.string x.fr), AV.v (Value.string x.to), AV.v (Value.string x.ky), AV.v (Value.string x.vl), AV.v (Value.int
    IntKind.i64 x.am), AV.v (Value.int IntKind.i64 x.nn)]] [AV.agg [AV.v (Value.int IntKind.i64 x.k), AV.v (Value.string x.fr), AV.v (Value.string x.to), AV.v (Value.string x.ky), AV.v
    (Value.string x.vl), AV.v (Value.int IntKind.i64 x.am), AV.v (Value.int IntKind.i64 x.nn)]] ∧ LeH [] [])) (Tree.br (grT (Tx.mk x.k x.fr x.to x.ky x.vl x.am x.nn)) (Tree.leaf (Ans.mk
    (AV.v (Value.bool true)) [])) (Tree.chk (cl (LeL [AV.agg [AV.v (Value.int IntKind.i64 x.k), AV.v (Value.string x.fr), AV.v (Value.string x.to), AV.v (Value.string x.ky), AV.v
    (Value.string x.vl), AV.v (Value.int IntKind.i64 x.am), AV.v (Value.int IntKind.i64 x.nn)]] [AV.agg [AV.v (Value.int IntKind.i64 x.k), AV.v (Value.string x.fr), AV.v (Value.string x.to),
    AV.v (Value.string x.ky), AV.v (Value.string x.vl), AV.v (Value.int IntKind.i64 x.am), AV.v (Value.int IntKind.i64 x.nn)]] ∧ LeH [] [])) (Tree.chk (cl (LeL [AV.agg [AV.v (Value.int
    IntKind.i64 x.k), AV.v (Value.string x.fr), AV.v (Value.string x.to), AV.v (Value.string x.ky), AV.v (Value.string x.vl), AV.v (Value.int IntKind.i64 x.am), AV.v (Value.int IntKind.i64
    x.nn)]] [AV.agg [AV.v (Value.int IntKind.i64 x.k), AV.v (Value.string x.fr), AV.v (Value.string x.to), AV.v (Value.string x.ky), AV.v (Value.string x.vl), AV.v (Value.int IntKind.i64
    x.am), AV.v (Value.int IntKind.i64 x.nn)]] ∧ LeH [] [])) (Tree.chk (cl (LeL [AV.agg [AV.v (Value.int IntKind.i64 x.k), AV.v (Value.string x.fr), AV.v (Value.string x.to), AV.v
    (Value.string x.ky), AV.v (Value.string x.vl), AV.v (Value.int IntKind.i64 x.am), AV.v (Value.int IntKind.i64 x.nn)]] [AV.agg [AV.v (Value.int IntKind.i64 x.k), AV.v (Value.string x.fr),
    AV.v (Value.string x.to), AV.v (Value.string x.ky), AV.v (Value.string x.vl), AV.v (Value.int IntKind.i64 x.am), AV.v (Value.int IntKind.i64 x.nn)]] ∧ LeH [] [])) (Tree.chk (cl (LeL
    [AV.agg [AV.v (Value.int IntKind.i64 x.k), AV.v (Value.string x.fr), AV.v (Value.string x.to), AV.v (Value.string x.ky), AV.v (Value.string x.vl), AV.v (Value.int IntKind.i64 x.am), AV.v
    (Value.int IntKind.i64 x.nn)]] [AV.agg [AV.v (Value.int IntKind.i64 x.k), AV.v (Value.string x.fr), AV.v (Value.string x.to), AV.v (Value.string x.ky), AV.v (Value.string x.vl), AV.v
    (Value.int IntKind.i64 x.am), AV.v (Value.int IntKind.i64 x.nn)]] ∧ LeH [] [])) (Tree.br false (Tree.leaf (Ans.mk (AV.sb (bif decide ((↑(ByteArray.size b) : Int) = (0 : Int)) then bif
    decide (s = ByteArray.mk #[]) then bif decide (e = (80 : Int)) then bif decide (f = (80 : Int)) then decide (c = (80 : Int)) else false else false else false else false)) [])) (Tree.chk
    (bif decide (e = (0 : Int)) then bif decide (f = (0 : Int)) then bif decide (c = (0 : Int)) then (allBytes (ByteArray.size b) fun j => [AV.v (Value.int IntKind.u8 (sbyte b ((0 : Nat) +
    j)))]) && (cl (LeL [AV.agg [AV.v (Value.int IntKind.i64 x.k), AV.v (Value.string x.fr), AV.v (Value.string x.to), AV.v (Value.string x.ky), AV.v (Value.string x.vl), AV.v (Value.int
    IntKind.i64 x.am), AV.v (Value.int IntKind.i64 x.nn)]] [AV.agg [AV.v (Value.int IntKind.i64 x.k), AV.v (Value.string x.fr), AV.v (Value.string x.to), AV.v (Value.string x.ky), AV.v
    (Value.string x.vl), AV.v (Value.int IntKind.i64 x.am), AV.v (Value.int IntKind.i64 x.nn)]] ∧ LeH [] []) && bif decide ((textOf (ByteArray.size b) fun j => [AV.v (Value.int IntKind.u8
    (sbyte b ((0 : Nat) + j)))]) = b') then cl (LeL [AV.agg [AV.v (Value.int IntKind.i64 x.k), AV.v (Value.string x.fr), AV.v (Value.string x.to), AV.v (Value.string x.ky), AV.v
    (Value.string x.vl), AV.v (Value.int IntKind.i64 x.am), AV.v (Value.int IntKind.i64 x.nn)]] [AV.agg [AV.v (Value.int IntKind.i64 x.k), AV.v (Value.string x.fr), AV.v (Value.string x.to),
    AV.v (Value.string x.ky), AV.v (Value.string x.vl), AV.v (Value.int IntKind.i64 x.am), AV.v (Value.int IntKind.i64 x.nn)]] ∧ LeH [] []) else true) else true else true else true)
    (Tree.leaf (Ans.mk (AV.sb (bif decide (e = (0 : Int)) then bif decide (f = (0 : Int)) then bif decide (c = (0 : Int)) then bif decide ((textOf (ByteArray.size b) fun j => [AV.v
    (Value.int IntKind.u8 (sbyte b ((0 : Nat) + j)))]) = b') then decide (s = s') else false else false else false else false)) []))))))))) := by kernel_rfl
theorem lawTW (x : Tx) (h : inI64 x.nn ∧ inI64 x.am) : LawOK Tryd.prog Γm 69 [.tmp 2] (bodyOf Tryd.f7) (AW x) := by
  cases g : grT x with
  | true =>
    refine .mk' (T := [z28', kGr]) (ip := false) (L := Lno) (failOK fun _ _ _ => rfl) (Right.of (lawW0 x) ?_)
    have hx : Tx.mk x.k x.fr x.to x.ky x.vl x.am x.nn = x := rfl
    repeat' (first | refine wC (by first | omega | (simp only [W1, cond_true, cond_false, hx, g]; first | done | omega)) ?_ | refine wT (by first | omega | (simp only [W1, cond_true, cond_false, hx, g]; first | done | omega)) ?_ | refine wF (by intro _h; first | omega | (simp only [W1, cond_true, cond_false, hx, g] at _h; first | done | omega)) ?_ | (refine wS ?_ ?_ <;> intro _h <;> simp only [W1, cond_true, cond_false, hx, g] at _h))
    all_goals simp only [W1, W2, owesN, owesX, owesR, cond_true, cond_false, hx, g]
    repeat' (first | apply And.intro | intro _hc)
    all_goals first | exact AV.le_refl _ | exact AV.le_any _ | exact OLe.refl _ | exact OLe.none _ | exact LeH.refl _ | exact LeL.refl _ | exact AV.le.bs _ | exact AV.le.sb _ | omega | contradiction
  | false =>
    obtain ⟨g1, g2, g3, g4⟩ := gr_sizes g
    have ho : okI x := ⟨⟨by omega, by omega, by omega, by omega⟩, h.1, h.2⟩
    have hx : Tx.mk x.k x.fr x.to x.ky x.vl x.am x.nn = x := rfl
    have ef : erT false = 80 := rfl
    have et : erT true = 0 := rfl
    cases hb : txB x with
    | false =>
      have h1 := ansBy0 ho g hb
      have h2 := ansPP ho
      have h3 := ansTx ho.1
      have h4 := ansTxR ho.1
      rw [hb] at h2 h3 h4
      simp only [if_true, Bool.false_eq_true, if_false, ef, et] at h2 h3
      refine .mk' (T := [z28', kGr, CT.at 30 h1, CT.at 31 h2, CT.at 32 h3, CT.at 33 h4]) (ip := false) (L := Lno) (failOK fun _ _ _ => rfl) (Right.of (lawW1 x _ _ _ _ h1 h2 h3 h4) ?_)
      repeat' (first | refine wC (by first | omega | (simp only [W1, cond_true, cond_false, hx, g]; first | done | omega)) ?_ | refine wT (by first | omega | (simp only [W1, cond_true, cond_false, hx, g]; first | done | omega)) ?_ | refine wF (by intro _h; first | omega | (simp only [W1, cond_true, cond_false, hx, g] at _h; first | done | omega)) ?_ | (refine wS ?_ ?_ <;> intro _h <;> simp only [W1, cond_true, cond_false, hx, g] at _h))
      all_goals simp only [W1, W2, owesN, owesX, owesR, cond_true, cond_false, hx, g]
      repeat' (first | apply And.intro | intro _hc)
      all_goals first | exact leT (by simp) | exact leT (by decide) | exact AV.le_refl _ | exact AV.le_any _ | exact OLe.refl _ | exact OLe.none _ | exact LeH.refl _ | exact LeL.refl _ | exact AV.le.bs _ | exact AV.le.sb _ | omega | contradiction
    | true =>
      have h1 := ansBy1 ho g hb
      have h2 := ansPP ho
      have h3 := ansTx ho.1
      have h4 := ansTxR ho.1
      have h5 := ansRB ho hb
      have h6 := ansPQ ho
      rw [hb] at h2 h3 h4
      simp only [if_true, Bool.false_eq_true, if_false, ef, et] at h2 h3
      refine .mk' (T := [z28', kGr, CT.at 30 h1, CT.at 31 h2, CT.at 32 h3, CT.at 33 h4, CT.at 34 h5, CT.at 35 h6]) (ip := false) (L := Lno) (failOK fun _ _ _ => rfl) (Right.of (lawW2 x _ _ _ _ _ _ _ h1 h2 h3 h4 h5 h6) ?_)
      repeat' (first | refine wC (by first | omega | (simp only [W1, cond_true, cond_false, hx, g, allB_u, textOf_u]; first | done | omega)) ?_ | refine wT (by first | omega | (simp only [W1, cond_true, cond_false, hx, g, allB_u, textOf_u]; first | done | omega)) ?_ | refine wF (by intro _h; first | omega | (simp only [W1, cond_true, cond_false, hx, g, allB_u, textOf_u] at _h; first | done | omega)) ?_ | (refine wS ?_ ?_ <;> intro _h <;> simp only [W1, cond_true, cond_false, hx, g, allB_u, textOf_u] at _h))
      all_goals simp only [W1, W2, owesN, owesX, owesR, cond_true, cond_false, hx, g, allB_u, textOf_u]
      repeat' (first | apply And.intro | intro _hc)
      all_goals first | exact leT (by simp) | exact leT (by decide) | exact AV.le_refl _ | exact AV.le_any _ | exact OLe.refl _ | exact OLe.none _ | exact LeH.refl _ | exact LeL.refl _ | exact AV.le.bs _ | exact AV.le.sb _ | omega | contradiction
noncomputable def c7L : CT Tryd.prog Γm := CT.lawE AW (fun x => inI64 x.nn ∧ inI64 x.am) 7 Tryd.f7 (bodyOf Tryd.f7) 69 [.tmp 2] Tryd.func7 (by kernel_rfl) (by kernel_rfl) (by kernel_rfl) (by kernel_rfl) (fun _ _ => by simp [AW]) (fun x h => lawTW x h)
end Go.Eng.TA

/- The tables that the rows name: what the rows' condition gives. -/
namespace Go.Proofs.YtmjbindplgpjjaaDoor
open Go Go.ChangeShapes Go.WideShapes Go.ChangeAt Go.WideMaps Go.WideElems Go.RowKit Go.Eng Go.Eng.TA
set_option linter.unusedSimpArgs false
set_option linter.unusedVariables false
theorem own : ownKnob Tryd.prog.godebug = none := by kernel_rfl
abbrev laidL : List (String × DataW Unit) := [("unicode/utf8.acceptRanges", Rows.laid_unicode_utf8_acceptRanges), ("unicode/utf8.first", Rows.laid_unicode_utf8_first)]
def ren8 : Go.Shelf.Ren := ⟨id, fun t => if t = 5 then 5 else if t = 119 then 192 else if t = 138 then 194 else 195, fun g => if g = 3 then 0 else 1⟩
theorem ren8T : U8Types Tryd.prog ren8 where
  t5 := Tryd.underlying5
  t119 := Tryd.underlying192
  t138 := Tryd.underlying194
  t139 := Tryd.underlying195
theorem ren8X : U8Extra Tryd.prog ren8 where
  n3 := by kernel_rfl
  n4 := by kernel_rfl
  y3 := by kernel_rfl
  y4 := by kernel_rfl
  c5 := by kernel_rfl
  c119 := by kernel_rfl
  c138 := by kernel_rfl
theorem data8 : Rows.laid_unicode_utf8_first = Lib.firstData ∧ (Rows.laid_unicode_utf8_acceptRanges : DataW Unit) = Lib.acceptData := ⟨by kernel_rfl, by kernel_rfl⟩
theorem globals_ok {W : World} (h : laidMetH Tryd.prog laidL W) : Globals Γm (σof W) := by
  rw [MakeChecks.laidMetH_plain _ _ _ (by kernel_rfl)] at h
  have h1 := Go.Lib.laidMet.reads h (n := "unicode/utf8.first") (d := Lib.firstData) (by rw [← data8.1]; exact List.mem_cons_of_mem _ (List.mem_cons_self ..))
  have h2 := Go.Lib.laidMet.reads h (n := "unicode/utf8.acceptRanges") (d := Lib.acceptData) (by rw [← data8.2]; exact List.mem_cons_self ..)
  have hT : Lib.Utf8Tabs 0 1 W := utf8Tabs_of_readsT ren8T ren8X h1 h2
  intro g
  unfold Γm
  split
  · rename_i hg
    obtain rfl := Nat.eq_of_beq_eq_true hg
    refine .pa 1 256 _ ⟨0, 0, none⟩ (fun e j => .int .u8 (Lib.firstT e : Int)) rfl (fun _ => rfl) (fun e j c he hc => ?_) (fun e j c he hc => ?_)
    · cases j with
      | zero => simpa using σof_of (hT.1 e he)
      | succ j => simp [fstF] at hc
    · cases j with
      | zero => simp [fstF] at hc; subst hc; exact .v _
      | succ j => simp [fstF] at hc
  · split
    · rename_i hg
      obtain rfl := Nat.eq_of_beq_eq_true hg
      refine .pa 2 16 _ ⟨1, 0, none⟩ (fun e j => .int .u8 (if j = 0 then (Lib.accLo e : Int) else (Lib.accHi e : Int))) rfl (fun _ => rfl) (fun e j c he hc => ?_) (fun e j c he hc => ?_)
      · match j with
        | 0 => simpa [Nat.mul_comm] using σof_of (hT.2 e he).1
        | 1 => simpa [Nat.mul_comm] using σof_of (hT.2 e he).2
        | j + 2 => simp [accF] at hc
      · match j with
        | 0 => simp [accF] at hc; subst hc; exact .v _
        | 1 => simp [accF] at hc; subst hc; exact .v _
        | j + 2 => simp [accF] at hc
    · exact .any _
end Go.Proofs.YtmjbindplgpjjaaDoor

/- TxWrites holds at every input: the tables unicode/utf8.first and unicode/utf8.acceptRanges as the program lays them (tied). -/
namespace Go.Proofs.YtmjbindplgpjjaaDoor
open Go Go.ChangeShapes Go.WideShapes Go.ChangeAt Go.WideMaps Go.WideElems Go.RowKit Go.Eng Go.Eng.TA
set_option linter.unusedSimpArgs false
set_option linter.unusedVariables false

set_option maxRecDepth 100000 in
theorem txWrites_lifted (os : Os) (started : os.Started) (H : Type) (enc : TypeId × Value → H) :
    ReturnsInHanded {} Tryd.checked os 7 .any (fun w args => (Rows.txWritesSpec.pre enc Tryd.prog Tryd.f7 [] false w args ∧ laidMetH Tryd.prog laidL w) ∧ sizedMet enc Tryd.prog Tryd.f7 (OpenSpec.ofChange Rows.txWritesSpec) false w args)
      (Rows.txWritesSpec.post enc Tryd.prog Tryd.f7 false true false false) := by
  refine returnsInHanded_of_change_and (C := Tryd.checked) (X := fun w _ => laidMetH Tryd.prog laidL w) (fun _ _ _ hh h => h.of_heap hh) own started (by kernel_rfl) Tryd.func7
    (ChangeSpec.witness_shaped (enc := enc) (C := Tryd.checked) (os := os) (X := fun w _ => laidMetH Tryd.prog laidL w) false (World.laidAll Tryd.prog os laidL) #[.agg #[.int .i64 0, .string ⟨#[]⟩, .string ⟨#[]⟩, .string ⟨#[]⟩, .string ⟨#[]⟩, .int .i64 0, .int .i64 0]] 8 (World.laidAll_os _ _ _) (World.shaped_of_ZipB (by kernel_rfl) (by kernel_rfl)) (by kernel_rfl) (by kernel_rfl) (by kernel_rfl)
      (by rw [MakeChecks.laidMetH_plain _ _ _ (by kernel_rfl)]; exact laidMet_laidAll _ (by kernel_rfl) (by kernel_rfl))) ?_
  intro W base args ds gs before hval0 hW _ _ hL _
  have hval : ∀ (j : Nat) t v, Tryd.f7.params[j]? = some t → args[j]? = some v → Value.okWide Tryd.prog W .any base t v := hval0
  have hW' := hW
  obtain ⟨p, q, hA0, hV, rfl, hfz, hnd⟩ := hW
  have hA : DataW.TrodAll enc Tryd.prog W 0 (fun _ => true) true Tryd.f7.params.toList args.toList ds p := hA0
  rw [Tryd.params7] at hA hval
  obtain ⟨v0, d0, rfl, rfl, h0⟩ := trodAll_one hA
  obtain ⟨rfl, rfl⟩ := trodVars_none hV
  obtain ⟨l0, rfl, g0_0⟩ := open_agg 9 (ks := [.int .i64, .str, .str, .str, .str, .int .i64, .int .i64]) Tryd.underlying40 (by kernel_rfl) (hval 0 40 v0 rfl rfl) h0
  obtain ⟨_, _, rfl, ⟨m0_0, rfl, w0_0⟩, g0_1⟩ := g0_0.cons
  obtain ⟨_, _, rfl, ⟨m0_1, rfl, w0_1⟩, g0_2⟩ := g0_1.cons
  obtain ⟨_, _, rfl, ⟨m0_2, rfl, w0_2⟩, g0_3⟩ := g0_2.cons
  obtain ⟨_, _, rfl, ⟨m0_3, rfl, w0_3⟩, g0_4⟩ := g0_3.cons
  obtain ⟨_, _, rfl, ⟨m0_4, rfl, w0_4⟩, g0_5⟩ := g0_4.cons
  obtain ⟨_, _, rfl, ⟨m0_5, rfl, w0_5⟩, g0_6⟩ := g0_5.cons
  obtain ⟨_, _, rfl, ⟨m0_6, rfl, w0_6⟩, g0_7⟩ := g0_6.cons
  obtain rfl := g0_7.nil
  refine (calls_true c7L (xs := [.agg [.v (.int .i64 m0_0), .v (.string m0_1), .v (.string m0_2), .v (.string m0_3), .v (.string m0_4), .v (.int .i64 m0_5), .v (.int .i64 m0_6)]]) (law_in (A := AW) (pre := fun x => inI64 x.nn ∧ inI64 x.am) (x := ⟨m0_0, m0_1, m0_2, m0_3, m0_4, m0_5, m0_6⟩) (by have h1 := bounds_i64 w0_5; have h2 := bounds_i64 w0_6; exact ⟨h2, h1⟩) (.refl _)) (globals_ok hL) (.one (V_agg (.one (V_v _) (.one (V_v _) (.one (V_v _) (.one (V_v _) (.one (V_v _) (.one (V_v _) (.one (V_v _) (.none))))))))) .none)).mono fun e W' ⟨he, ho⟩ => ?_
  subst he
  exact ⟨_, rfl, post_true (tb := 4) (by kernel_rfl) (by kernel_rfl) (by kernel_rfl) (by kernel_rfl) (by kernel_rfl) Tryd.underlying4 hW' rfl rfl ho⟩

theorem txWrites_holds : Rows.TxWritesSaid :=
  OpenClaim.holds_of_wide 7 Tryd.f7 rfl rfl rfl rfl rfl rfl rfl ⟨rfl, rfl, rfl, rfl, rfl⟩ rfl rfl rfl rfl rfl (by kernel_rfl) Tryd.func7 (by kernel_rfl)
    (of_decide_eq_true (by kernel_rfl)) (by unfold Func.isWrapper; first | (rw [if_pos (by decide +kernel)]; kernel_rfl) | (rw [if_neg (by decide +kernel)]; exact ⟨rfl, rfl⟩))
    (fun os started H enc _ => txWrites_lifted os started H enc)
theorem txWrites_card : Rows.TxWritesCardSaid :=
  Claim7.holds_tied_plain_at .later [] [.data, .pinned] true (true, "04bf13180d5c01f5cefcb13e3375edc3305cec317436f21bd83698835d5e56cf") false
    txWrites_holds (fun _ h => by cases h) (by kernel_rfl) (fun _ h => by cases h) txWrites_row_tie rfl ⟨rfl, rfl⟩ (by kernel_rfl) rfl
    (fun f fn hf hfn => by
      obtain rfl : f = 7 := Option.some.inj ((show Tryd.prog.funcNamed "hallmoot/hallmootlaw08.TxWrites" = some 7 by kernel_rfl).symm.trans hf) |>.symm
      obtain rfl : fn = Tryd.f7 := (Option.some.inj (Tryd.func7.symm.trans hfn)).symm
      exact ⟨by kernel_rfl, fun j t ht => by
        rw [Tryd.params7] at ht
        have hm : t ∈ [40] := by simpa using Array.mem_of_getElem? ht
        have hall : ([40].all fun u => !Tryd.prog.wantsStandIn u) = true := by kernel_rfl
        exact (show Tryd.prog.wantsStandIn t = false by simpa using List.all_eq_true.1 hall t hm)⟩)
    (by kernel_rfl)
#print axioms txWrites_card
end Go.Proofs.YtmjbindplgpjjaaDoor
