/- PoolBatch holds at every input: the tables unicode/utf8.first and unicode/utf8.acceptRanges as the program lays them (tied). -/
import Derived.Test.YtmjbindplgpjjaaDoorPart5
import Derived.Test.YtmjbindplgpjjaaDoorRows
import Derived.Test.YtmjbindplgpjjaaDoorTie
import Derived.Test.YtmjbindplgpjjaaDoorCards
import Derived.ProofKit
import Derived.LaidMore
import Derived.OpenShut
import Derived.Stop.Joined
import Derived.SevenTiedAt
import Derived.Lib.LaidU8T
import Derived.Lay
/- PoolBatch: the law: what is checked of a batch. -/
namespace Go.Eng.TA
open Go Go.Eng Go.Eng.M Go.Lib Go.Proofs
set_option linter.unusedSimpArgs false
set_option linter.unusedVariables false
abbrev lvA1 : List Nat := [2, 3, 12, 13, 14, 8]
abbrev lvA2 : List Nat := [2, 3, 12, 13, 14, 15, 8]
def vA (w : List Tx) (n : Int) (P B : List Tx) : List AV := [.sl 7 w.length (lsF Tx.c w), .v (.int .i64 n), .hs 0 0 P.length, .hs 1 0 B.length]
def HA (P B : List Tx) : Heap := [some (txB' P), some (txB' B)]
def SA1 (w : List Tx) (n : Int) (P B : List Tx) (i : Nat) : List AV × Heap := (vA w n P B ++ [.v (.int .i64 (i : Int)), .any], HA P B)
def SA2 (w : List Tx) (n : Int) (P B : List Tx) (i k : Nat) : List AV × Heap := (vA w n P B ++ [.v (.int .i64 (i : Int)), .v (.int .i64 (k : Int)), .any], HA P B)
def OA1 (w : List Tx) (n : Int) (P B : List Tx) : Out := ⟨.exit 2, vA w n P B ++ [.any, .any], HA P B⟩
def OA2 (w : List Tx) (n : Int) (P B : List Tx) (i : Nat) : Out := ⟨.exit 4, vA w n P B ++ [.v (.int .i64 (i : Int)), .any, .any], HA P B⟩
theorem rA2 (w : List Tx) (n : Int) (P B : List Tx) (i k : Nat) : roundE (P := Tryd.prog) (Γ := Γm) [] Lno false 0 0 (lp11 2) lvA2 [] 174 (SA2 w n P B i k).1 (SA2 w n P B i k).2 =
  Tree.br (decide ((↑k : Int) < (↑i : Int))) (Tree.chk (decide ((0 : Int) ≤ (↑k : Int)) && decide ((↑k : Int) < (↑(List.length B) : Int)) && (decide ((0 : Int) ≤ (↑i : Int)) && decide ((↑i :
    Int) < (↑(List.length B) : Int)) && bif decide ((List.getD B ((0 : Nat) + k) default).fr = (List.getD B ((0 : Nat) + i) default).fr) then decide ((0 : Int) ≤ (↑k : Int)) && decide ((↑k :
    Int) < (↑(List.length B) : Int)) && (decide ((0 : Int) ≤ (↑i : Int)) && decide ((↑i : Int) < (↑(List.length B) : Int))) else true)) (Tree.br (bif decide ((List.getD B ((0 : Nat) + k)
    default).fr = (List.getD B ((0 : Nat) + i) default).fr) then decide ((List.getD B ((0 : Nat) + k) default).nn = (List.getD B ((0 : Nat) + i) default).nn) else false) (Tree.leaf (Out.mk
    AEx.ret [AV.sl (7 : Nat) (List.length w) (lsF Tx.c w), AV.v (Value.int IntKind.i64 n), AV.hs (0 : Nat) (0 : Nat) (List.length P), AV.hs (1 : Nat) (0 : Nat) (List.length B), AV.v
    (Value.int IntKind.i64 (↑i : Int)), AV.v (Value.int IntKind.i64 (↑k : Int)), AV.v (Value.bool false)] [some (Blk.arr (7 : Nat) (List.length P) (lsF Tx.c P)), some (Blk.arr (7 : Nat)
    (List.length B) (lsF Tx.c B))])) (Tree.leaf (Out.mk AEx.normal [AV.sl (7 : Nat) (List.length w) (lsF Tx.c w), AV.v (Value.int IntKind.i64 n), AV.hs (0 : Nat) (0 : Nat) (List.length P),
    AV.hs (1 : Nat) (0 : Nat) (List.length B), AV.v (Value.int IntKind.i64 (↑i : Int)), AV.v (Value.int IntKind.i64 (IntKind.wrap IntKind.i64 ((↑k : Int) + (1 : Int)))), AV.any] [some
    (Blk.arr (7 : Nat) (List.length P) (lsF Tx.c P)), some (Blk.arr (7 : Nat) (List.length B) (lsF Tx.c B))])))) (Tree.leaf (Out.mk (AEx.exit (4 : Nat)) [AV.sl (7 : Nat) (List.length w) (lsF
    Tx.c w), AV.v (Value.int IntKind.i64 n), AV.hs (0 : Nat) (0 : Nat) (List.length P), AV.hs (1 : Nat) (0 : Nat) (List.length B), AV.v (Value.int IntKind.i64 (↑i : Int)), AV.v (Value.int
    IntKind.i64 (↑k : Int)), AV.any] [some (Blk.arr (7 : Nat) (List.length P) (lsF Tx.c P)), some (Blk.arr (7 : Nat) (List.length B) (lsF Tx.c B))])) := by kernel_rfl
theorem rA1 (w : List Tx) (n : Int) (P B : List Tx) (i : Nat) : roundE (P := Tryd.prog) (Γ := Γm) [kHs] (fun _ => LSpec.at lvA2 [] (SA2 w n P B i 0) (OA2 w n P B i)) false 0 0 (lp11 1) lvA1 [] 174 (SA1 w n P B i).1 (SA1 w n P B i).2 =
  Tree.br (decide ((↑i : Int) < (↑(List.length B) : Int))) (Tree.chk (decide ((0 : Int) ≤ (↑i : Int)) && decide ((↑i : Int) < (↑(List.length B) : Int))) (Tree.chk (cl ((isTx (lsF Tx.c P) ∧
    List.length P ≤ List.length P ∧ List.length P ≤ (1000000000 : Nat)) ∧ LeL [AV.hs (0 : Nat) (0 : Nat) (List.length P), AV.agg [AV.v (Value.int IntKind.i64 (List.getD B ((0 : Nat) + i)
    default).k), AV.v (Value.string (List.getD B ((0 : Nat) + i) default).fr), AV.v (Value.string (List.getD B ((0 : Nat) + i) default).to), AV.v (Value.string (List.getD B ((0 : Nat) + i)
    default).ky), AV.v (Value.string (List.getD B ((0 : Nat) + i) default).vl), AV.v (Value.int IntKind.i64 (List.getD B ((0 : Nat) + i) default).am), AV.v (Value.int IntKind.i64 (List.getD
    B ((0 : Nat) + i) default).nn)]] [AV.hs (0 : Nat) (0 : Nat) (List.length P), AV.agg [AV.v (Value.int IntKind.i64 (List.getD B ((0 : Nat) + i) default).k), AV.v (Value.string (List.getD B
    ((0 : Nat) + i) default).fr), AV.v (Value.string (List.getD B ((0 : Nat) + i) default).to), AV.v (Value.string (List.getD B ((0 : Nat) + i) default).ky), AV.v (Value.string (List.getD B
    ((0 : Nat) + i) default).vl), AV.v (Value.int IntKind.i64 (List.getD B ((0 : Nat) + i) default).am), AV.v (Value.int IntKind.i64 (List.getD B ((0 : Nat) + i) default).nn)]] ∧ LeH [some
    (Blk.arr (7 : Nat) (List.length P) (lsF Tx.c P))] [some (Blk.arr (7 : Nat) (List.length P) (lsF Tx.c P))])) (Tree.br (!hasF (List.length P) (lsF Tx.c P) (Tx.mk (List.getD B ((0 : Nat) +
    i) default).k (List.getD B ((0 : Nat) + i) default).fr (List.getD B ((0 : Nat) + i) default).to (List.getD B ((0 : Nat) + i) default).ky (List.getD B ((0 : Nat) + i) default).vl
    (List.getD B ((0 : Nat) + i) default).am (List.getD B ((0 : Nat) + i) default).nn)) (Tree.leaf (Out.mk AEx.ret [AV.sl (7 : Nat) (List.length w) (lsF Tx.c w), AV.v (Value.int IntKind.i64
    n), AV.hs (0 : Nat) (0 : Nat) (List.length P), AV.hs (1 : Nat) (0 : Nat) (List.length B), AV.v (Value.int IntKind.i64 (↑i : Int)), AV.v (Value.bool false)] [some (Blk.arr (7 : Nat)
    (List.length P) (lsF Tx.c P)), some (Blk.arr (7 : Nat) (List.length B) (lsF Tx.c B))])) (Tree.chk (decide ((0 : Int) ≤ (↑i : Int)) && decide ((↑i : Int) < (↑(List.length B) : Int)))
    (Tree.chk (cl ((isTx (lsF Tx.c w) ∧ List.length w ≤ (1000000000 : Nat)) ∧ LeL [AV.sl (7 : Nat) (List.length w) (lsF Tx.c w), AV.agg [AV.v (Value.int IntKind.i64 (List.getD B ((0 : Nat) +
    i) default).k), AV.v (Value.string (List.getD B ((0 : Nat) + i) default).fr), AV.v (Value.string (List.getD B ((0 : Nat) + i) default).to), AV.v (Value.string (List.getD B ((0 : Nat) +
    i) default).ky), AV.v (Value.string (List.getD B ((0 : Nat) + i) default).vl), AV.v (Value.int IntKind.i64 (List.getD B ((0 : Nat) + i) default).am), AV.v (Value.int IntKind.i64
    (List.getD B ((0 : Nat) + i) default).nn)]] [AV.sl (7 : Nat) (List.length w) (lsF Tx.c w), AV.agg [AV.v (Value.int IntKind.i64 (List.getD B ((0 : Nat) + i) default).k), AV.v
    (Value.string (List.getD B ((0 : Nat) + i) default).fr), AV.v (Value.string (List.getD B ((0 : Nat) + i) default).to), AV.v (Value.string (List.getD B ((0 : Nat) + i) default).ky), AV.v
    (Value.string (List.getD B ((0 : Nat) + i) default).vl), AV.v (Value.int IntKind.i64 (List.getD B ((0 : Nat) + i) default).am), AV.v (Value.int IntKind.i64 (List.getD B ((0 : Nat) + i)
    default).nn)]] ∧ LeH [] [])) (Tree.br (hasF (List.length w) (lsF Tx.c w) (Tx.mk (List.getD B ((0 : Nat) + i) default).k (List.getD B ((0 : Nat) + i) default).fr (List.getD B ((0 : Nat) +
    i) default).to (List.getD B ((0 : Nat) + i) default).ky (List.getD B ((0 : Nat) + i) default).vl (List.getD B ((0 : Nat) + i) default).am (List.getD B ((0 : Nat) + i) default).nn))
    (Tree.leaf (Out.mk AEx.ret [AV.sl (7 : Nat) (List.length w) (lsF Tx.c w), AV.v (Value.int IntKind.i64 n), AV.hs (0 : Nat) (0 : Nat) (List.length P), AV.hs (1 : Nat) (0 : Nat)
    (List.length B), AV.v (Value.int IntKind.i64 (↑i : Int)), AV.v (Value.bool false)] [some (Blk.arr (7 : Nat) (List.length P) (lsF Tx.c P)), some (Blk.arr (7 : Nat) (List.length B) (lsF
    Tx.c B))])) (Tree.chk (cl (LeL [AV.sl (7 : Nat) (List.length w) (lsF Tx.c w), AV.v (Value.int IntKind.i64 n), AV.hs (0 : Nat) (0 : Nat) (List.length P), AV.hs (1 : Nat) (0 : Nat)
    (List.length B), AV.v (Value.int IntKind.i64 (↑i : Int)), AV.v (Value.int IntKind.i64 (0 : Int)), AV.any] [AV.sl (7 : Nat) (List.length w) (lsF Tx.c w), AV.v (Value.int IntKind.i64 n),
    AV.hs (0 : Nat) (0 : Nat) (List.length P), AV.hs (1 : Nat) (0 : Nat) (List.length B), AV.v (Value.int IntKind.i64 (↑i : Int)), AV.v (Value.int IntKind.i64 (↑(0 : Nat) : Int)), AV.any] ∧
    LeH [some (Blk.arr (7 : Nat) (List.length P) (lsF Tx.c P)), some (Blk.arr (7 : Nat) (List.length B) (lsF Tx.c B))] [some (Blk.arr (7 : Nat) (List.length P) (lsF Tx.c P)), some (Blk.arr
    (7 : Nat) (List.length B) (lsF Tx.c B))])) (Tree.leaf (Out.mk AEx.normal [AV.sl (7 : Nat) (List.length w) (lsF Tx.c w), AV.v (Value.int IntKind.i64 n), AV.hs (0 : Nat) (0 : Nat)
    (List.length P), AV.hs (1 : Nat) (0 : Nat) (List.length B), AV.v (Value.int IntKind.i64 (IntKind.wrap IntKind.i64 ((↑i : Int) + (1 : Int)))), AV.any] [some (Blk.arr (7 : Nat)
    (List.length P) (lsF Tx.c P)), some (Blk.arr (7 : Nat) (List.length B) (lsF Tx.c B))]))))))))) (Tree.leaf (Out.mk (AEx.exit (2 : Nat)) [AV.sl (7 : Nat) (List.length w) (lsF Tx.c w), AV.v
    (Value.int IntKind.i64 n), AV.hs (0 : Nat) (0 : Nat) (List.length P), AV.hs (1 : Nat) (0 : Nat) (List.length B), AV.v (Value.int IntKind.i64 (↑i : Int)), AV.any] [some (Blk.arr (7 : Nat)
    (List.length P) (lsF Tx.c P)), some (Blk.arr (7 : Nat) (List.length B) (lsF Tx.c B))])) := by kernel_rfl
theorem rA1e (w : List Tx) (n : Int) (P B : List Tx) (i : Nat) : roundE (P := Tryd.prog) (Γ := Γm) [] Lno false 0 0 (lp11 1) lvA1 [] 174 (SA1 w n P B i).1 (SA1 w n P B i).2 =
  Tree.br (decide ((↑i : Int) < (↑(List.length B) : Int))) (Tree.chk (decide ((0 : Int) ≤ (↑i : Int)) && decide ((↑i : Int) < (↑(List.length B) : Int))) Tree.fail) (Tree.leaf (Out.mk (AEx.exit
    (2 : Nat)) [AV.sl (7 : Nat) (List.length w) (lsF Tx.c w), AV.v (Value.int IntKind.i64 n), AV.hs (0 : Nat) (0 : Nat) (List.length P), AV.hs (1 : Nat) (0 : Nat) (List.length B), AV.v
    (Value.int IntKind.i64 (↑i : Int)), AV.any] [some (Blk.arr (7 : Nat) (List.length P) (lsF Tx.c P)), some (Blk.arr (7 : Nat) (List.length B) (lsF Tx.c B))])) := by kernel_rfl
abbrev lvA3 : List Nat := [2, 12, 13, 16, 8]
abbrev lvA4 : List Nat := [2, 12, 13, 16, 17, 18, 8]
def vB (w : List Tx) (P B : List Tx) : List AV := [.sl 7 w.length (lsF Tx.c w), .hs 0 0 P.length, .hs 1 0 B.length]
def SA3 (w : List Tx) (P B : List Tx) (i : Nat) : List AV × Heap := (vB w P B ++ [.v (.int .i64 (i : Int)), .any], HA P B)
def SA4 (w : List Tx) (P B : List Tx) (i : Nat) (o : Bool) (k : Nat) : List AV × Heap := (vB w P B ++ [.v (.int .i64 (i : Int)), .sb o, .v (.int .i64 (k : Int)), .any], HA P B)
def OA3 : Out := ⟨.exit 6, [.any, .any, .any, .any, .any], [none, none]⟩
def OA4 (w : List Tx) (P B : List Tx) (i : Nat) : Out := ⟨.exit 8, vB w P B ++ [.v (.int .i64 (i : Int)), .v (.bool true), .any, .any], HA P B⟩
theorem rA4 (w : List Tx) (P B : List Tx) (i : Nat) (o : Bool) (k : Nat) : roundE (P := Tryd.prog) (Γ := Γm) [] Lno false 0 0 (lp11 4) lvA4 [] 174 (SA4 w P B i o k).1 (SA4 w P B i o k).2 =
  Tree.br (decide ((↑k : Int) < (↑(List.length B) : Int))) (Tree.chk (bif o then true else decide ((0 : Int) ≤ (↑k : Int)) && decide ((↑k : Int) < (↑(List.length B) : Int)) && (decide ((0 :
    Int) ≤ (↑i : Int)) && decide ((↑i : Int) < (↑(List.length P) : Int)) && bif decide ((List.getD B ((0 : Nat) + k) default).fr = (List.getD P ((0 : Nat) + i) default).fr) then decide ((0 :
    Int) ≤ (↑k : Int)) && decide ((↑k : Int) < (↑(List.length B) : Int)) && (decide ((0 : Int) ≤ (↑i : Int)) && decide ((↑i : Int) < (↑(List.length P) : Int))) else true)) (Tree.leaf (Out.mk
    AEx.normal [AV.sl (7 : Nat) (List.length w) (lsF Tx.c w), AV.hs (0 : Nat) (0 : Nat) (List.length P), AV.hs (1 : Nat) (0 : Nat) (List.length B), AV.v (Value.int IntKind.i64 (↑i : Int)),
    AV.sb (bif o then true else bif decide ((List.getD B ((0 : Nat) + k) default).fr = (List.getD P ((0 : Nat) + i) default).fr) then decide ((List.getD B ((0 : Nat) + k) default).nn =
    (List.getD P ((0 : Nat) + i) default).nn) else false), AV.v (Value.int IntKind.i64 (IntKind.wrap IntKind.i64 ((↑k : Int) + (1 : Int)))), AV.any] [some (Blk.arr (7 : Nat) (List.length P)
    (lsF Tx.c P)), some (Blk.arr (7 : Nat) (List.length B) (lsF Tx.c B))]))) (Tree.leaf (Out.mk (AEx.exit (8 : Nat)) [AV.sl (7 : Nat) (List.length w) (lsF Tx.c w), AV.hs (0 : Nat) (0 : Nat)
    (List.length P), AV.hs (1 : Nat) (0 : Nat) (List.length B), AV.v (Value.int IntKind.i64 (↑i : Int)), AV.sb o, AV.v (Value.int IntKind.i64 (↑k : Int)), AV.any] [some (Blk.arr (7 : Nat)
    (List.length P) (lsF Tx.c P)), some (Blk.arr (7 : Nat) (List.length B) (lsF Tx.c B))])) := by kernel_rfl
theorem rA3 (w : List Tx) (P B : List Tx) (i : Nat) : roundE (P := Tryd.prog) (Γ := Γm) [kHs] (fun _ => LSpec.at lvA4 [] (SA4 w P B i (hasT w (P.getD i default)) 0) (OA4 w P B i)) false 0 0 (lp11 3) lvA3 [] 174 (SA3 w P B i).1 (SA3 w P B i).2 =
  Tree.br (decide ((↑i : Int) < (↑(List.length P) : Int))) (Tree.chk (decide ((0 : Int) ≤ (↑i : Int)) && decide ((↑i : Int) < (↑(List.length P) : Int)) && cl ((isTx (lsF Tx.c w) ∧ List.length
    w ≤ (1000000000 : Nat)) ∧ LeL [AV.sl (7 : Nat) (List.length w) (lsF Tx.c w), AV.agg [AV.v (Value.int IntKind.i64 (List.getD P ((0 : Nat) + i) default).k), AV.v (Value.string (List.getD P
    ((0 : Nat) + i) default).fr), AV.v (Value.string (List.getD P ((0 : Nat) + i) default).to), AV.v (Value.string (List.getD P ((0 : Nat) + i) default).ky), AV.v (Value.string (List.getD P
    ((0 : Nat) + i) default).vl), AV.v (Value.int IntKind.i64 (List.getD P ((0 : Nat) + i) default).am), AV.v (Value.int IntKind.i64 (List.getD P ((0 : Nat) + i) default).nn)]] [AV.sl (7 :
    Nat) (List.length w) (lsF Tx.c w), AV.agg [AV.v (Value.int IntKind.i64 (List.getD P ((0 : Nat) + i) default).k), AV.v (Value.string (List.getD P ((0 : Nat) + i) default).fr), AV.v
    (Value.string (List.getD P ((0 : Nat) + i) default).to), AV.v (Value.string (List.getD P ((0 : Nat) + i) default).ky), AV.v (Value.string (List.getD P ((0 : Nat) + i) default).vl), AV.v
    (Value.int IntKind.i64 (List.getD P ((0 : Nat) + i) default).am), AV.v (Value.int IntKind.i64 (List.getD P ((0 : Nat) + i) default).nn)]] ∧ LeH [] [])) (Tree.chk (cl (LeL [AV.sl (7 :
    Nat) (List.length w) (lsF Tx.c w), AV.hs (0 : Nat) (0 : Nat) (List.length P), AV.hs (1 : Nat) (0 : Nat) (List.length B), AV.v (Value.int IntKind.i64 (↑i : Int)), AV.sb (hasF (List.length
    w) (lsF Tx.c w) (Tx.mk (List.getD P ((0 : Nat) + i) default).k (List.getD P ((0 : Nat) + i) default).fr (List.getD P ((0 : Nat) + i) default).to (List.getD P ((0 : Nat) + i) default).ky
    (List.getD P ((0 : Nat) + i) default).vl (List.getD P ((0 : Nat) + i) default).am (List.getD P ((0 : Nat) + i) default).nn)), AV.v (Value.int IntKind.i64 (0 : Int)), AV.any] [AV.sl (7 :
    Nat) (List.length w) (lsF Tx.c w), AV.hs (0 : Nat) (0 : Nat) (List.length P), AV.hs (1 : Nat) (0 : Nat) (List.length B), AV.v (Value.int IntKind.i64 (↑i : Int)), AV.sb (hasT w (List.getD
    P i default)), AV.v (Value.int IntKind.i64 (↑(0 : Nat) : Int)), AV.any] ∧ LeH [some (Blk.arr (7 : Nat) (List.length P) (lsF Tx.c P)), some (Blk.arr (7 : Nat) (List.length B) (lsF Tx.c
    B))] [some (Blk.arr (7 : Nat) (List.length P) (lsF Tx.c P)), some (Blk.arr (7 : Nat) (List.length B) (lsF Tx.c B))])) (Tree.leaf (Out.mk AEx.normal [AV.sl (7 : Nat) (List.length w) (lsF
    Tx.c w), AV.hs (0 : Nat) (0 : Nat) (List.length P), AV.hs (1 : Nat) (0 : Nat) (List.length B), AV.v (Value.int IntKind.i64 (IntKind.wrap IntKind.i64 ((↑i : Int) + (1 : Int)))), AV.any]
    [some (Blk.arr (7 : Nat) (List.length P) (lsF Tx.c P)), some (Blk.arr (7 : Nat) (List.length B) (lsF Tx.c B))])))) (Tree.leaf (Out.mk (AEx.exit (6 : Nat)) [AV.sl (7 : Nat) (List.length
    w) (lsF Tx.c w), AV.hs (0 : Nat) (0 : Nat) (List.length P), AV.hs (1 : Nat) (0 : Nat) (List.length B), AV.v (Value.int IntKind.i64 (↑i : Int)), AV.any] [some (Blk.arr (7 : Nat)
    (List.length P) (lsF Tx.c P)), some (Blk.arr (7 : Nat) (List.length B) (lsF Tx.c B))])) := by kernel_rfl
theorem rA3e (w : List Tx) (P B : List Tx) (i : Nat) : roundE (P := Tryd.prog) (Γ := Γm) [] Lno false 0 0 (lp11 3) lvA3 [] 174 (SA3 w P B i).1 (SA3 w P B i).2 =
  Tree.br (decide ((↑i : Int) < (↑(List.length P) : Int))) (Tree.chk (decide ((0 : Int) ≤ (↑i : Int)) && decide ((↑i : Int) < (↑(List.length P) : Int))) Tree.fail) (Tree.leaf (Out.mk (AEx.exit
    (6 : Nat)) [AV.sl (7 : Nat) (List.length w) (lsF Tx.c w), AV.hs (0 : Nat) (0 : Nat) (List.length P), AV.hs (1 : Nat) (0 : Nat) (List.length B), AV.v (Value.int IntKind.i64 (↑i : Int)),
    AV.any] [some (Blk.arr (7 : Nat) (List.length P) (lsF Tx.c P)), some (Blk.arr (7 : Nat) (List.length B) (lsF Tx.c B))])) := by kernel_rfl
theorem loopA2 {w : List Tx} {n : Int} {P B : List Tx} {i : Nat} (hi : i < B.length) (hB : B.length ≤ 100000) (h2 : ∀ k, k < i → ¬ sameTurn (B.getD k default) (B.getD i default)) : ∀ k : Nat, k ≤ i → LoopOK Tryd.prog Γm 0 174 (lp11 2) (LSpec.at lvA2 [] (SA2 w n P B i k) (OA2 w n P B i)) := by
  refine loop_at (S := SA2 w n P B i) (O := fun _ => OA2 w n P B i) (k := 0) (fun k => i - k) fun k hp => .of (L := Lno) (failOK fun _ _ _ => rfl) (rA2 w n P B i k) ?_
  rcases Nat.lt_or_ge k i with hk | hk
  · have hn := h2 k hk
    unfold sameTurn at hn
    simp only [Nat.zero_add]
    by_cases e1 : (B.getD k default).fr = (B.getD i default).fr
    · have e2 : ¬ (B.getD k default).nn = (B.getD i default).nn := fun e => hn ⟨e1, e⟩
      repeat' (first | refine wC (by first | omega | (simp only [W1, cond_true, cond_false, e1, e2, decide_true, wrapUpN (show k ≤ 10000000000 by omega)]; first | done | omega)) ?_ | refine wT (by first | omega | (simp only [W1, cond_true, cond_false, e1, e2, decide_true, wrapUpN (show k ≤ 10000000000 by omega)]; first | done | omega)) ?_ | refine wF (by intro _h; first | omega | (simp only [W1, cond_true, cond_false, e1, e2, decide_true, wrapUpN (show k ≤ 10000000000 by omega)] at _h; first | done | omega)) ?_ | (refine wS ?_ ?_ <;> intro _h <;> simp only [W1, cond_true, cond_false, e1, e2, decide_true, wrapUpN (show k ≤ 10000000000 by omega)] at _h))
      all_goals simp only [W1, W2, owesN, owesX, owesR, cond_true, cond_false, e1, e2, decide_true, wrapUpN (show k ≤ 10000000000 by omega)]
      repeat' (first | apply And.intro | intro _hc)
      all_goals first | exact ⟨k + 1, LeL.refl _, LeH.refl _, hk, by omega⟩ | exact AV.le_refl _ | exact AV.le_any _ | exact OLe.refl _ | exact OLe.none _ | exact LeH.refl _ | exact LeL.refl _ | exact AV.le.bs _ | exact AV.le.sb _ | omega | contradiction
    · repeat' (first | refine wC (by first | omega | (simp only [W1, cond_true, cond_false, e1, decide_false, wrapUpN (show k ≤ 10000000000 by omega)]; first | done | omega)) ?_ | refine wT (by first | omega | (simp only [W1, cond_true, cond_false, e1, decide_false, wrapUpN (show k ≤ 10000000000 by omega)]; first | done | omega)) ?_ | refine wF (by intro _h; first | omega | (simp only [W1, cond_true, cond_false, e1, decide_false, wrapUpN (show k ≤ 10000000000 by omega)] at _h; first | done | omega)) ?_ | (refine wS ?_ ?_ <;> intro _h <;> simp only [W1, cond_true, cond_false, e1, decide_false, wrapUpN (show k ≤ 10000000000 by omega)] at _h))
      all_goals simp only [W1, W2, owesN, owesX, owesR, cond_true, cond_false, e1, decide_false, wrapUpN (show k ≤ 10000000000 by omega)]
      repeat' (first | apply And.intro | intro _hc)
      all_goals first | exact ⟨k + 1, LeL.refl _, LeH.refl _, hk, by omega⟩ | exact AV.le_refl _ | exact AV.le_any _ | exact OLe.refl _ | exact OLe.none _ | exact LeH.refl _ | exact LeL.refl _ | exact AV.le.bs _ | exact AV.le.sb _ | omega | contradiction
  · obtain rfl : k = i := by omega
    repeat' (first | refine wC (by first | omega | (simp only [W1, cond_true, cond_false]; first | done | omega)) ?_ | refine wT (by first | omega | (simp only [W1, cond_true, cond_false]; first | done | omega)) ?_ | refine wF (by intro _h; first | omega | (simp only [W1, cond_true, cond_false] at _h; first | done | omega)) ?_ | (refine wS ?_ ?_ <;> intro _h <;> simp only [W1, cond_true, cond_false] at _h))
    all_goals simp only [W1, W2, owesN, owesX, owesR, cond_true, cond_false]
    repeat' (first | apply And.intro | intro _hc)
    all_goals first | exact rfl | exact AV.le_refl _ | exact AV.le_any _ | exact OLe.refl _ | exact OLe.none _ | exact LeH.refl _ | exact LeL.refl _ | exact AV.le.bs _ | exact AV.le.sb _ | omega | contradiction
theorem loopA1 {w : List Tx} {n : Int} {P B : List Tx} (hB : B.length ≤ 100000) (hP : P.length ≤ 100000) (hw : w.length ≤ 100000) (hm : ∀ u ∈ B, u ∈ P ∧ hasT w u = false) (h2 : ∀ k i, k < i → i < B.length → ¬ sameTurn (B.getD k default) (B.getD i default)) : ∀ i : Nat, i ≤ B.length → LoopOK Tryd.prog Γm 0 174 (lp11 1) (LSpec.at lvA1 [] (SA1 w n P B i) (OA1 w n P B)) := by
  refine loop_at (S := SA1 w n P B) (O := fun _ => OA1 w n P B) (k := 0) (fun i => B.length - i) fun i hp => ?_
  have hg : isTx (lsF Tx.c w) := isTx_ls w
  have hg2 : isTx (lsF Tx.c P) := isTx_ls P
  rcases Nat.lt_or_ge i B.length with hi | hi
  · obtain ⟨m1, m2⟩ := hm (B.getD i default) (by rw [getD_get hi]; exact List.getElem_mem hi)
    have m1 := hasT_iff.2 m1
    refine .of (oneLoop (b := lp11 2) (by kernel_rfl) (loopA2 hi hB (fun k hk => h2 k i hk hi) 0 (Nat.zero_le _))) (rA1 w n P B i) ?_
    have hx : Tx.mk (B.getD i default).k (B.getD i default).fr (B.getD i default).to (B.getD i default).ky (B.getD i default).vl (B.getD i default).am (B.getD i default).nn = B.getD i default := rfl
    simp only [Nat.zero_add]
    repeat' (first | refine wC (by first | omega | (simp only [W1, cond_true, cond_false, hx, hg, hg2, hasF_l, m1, m2, wrapUpN (show i ≤ 10000000000 by omega)]; first | done | omega)) ?_ | refine wT (by first | omega | (simp only [W1, cond_true, cond_false, hx, hg, hg2, hasF_l, m1, m2, wrapUpN (show i ≤ 10000000000 by omega)]; first | done | omega)) ?_ | refine wF (by intro _h; first | omega | (simp only [W1, cond_true, cond_false, hx, hg, hg2, hasF_l, m1, m2, wrapUpN (show i ≤ 10000000000 by omega)] at _h; first | done | omega)) ?_ | (refine wS ?_ ?_ <;> intro _h <;> simp only [W1, cond_true, cond_false, hx, hg, hg2, hasF_l, m1, m2, wrapUpN (show i ≤ 10000000000 by omega)] at _h))
    all_goals simp only [W1, W2, owesN, owesX, owesR, cond_true, cond_false, hx, hg, hg2, hasF_l, m1, m2, wrapUpN (show i ≤ 10000000000 by omega)]
    repeat' (first | apply And.intro | intro _hc)
    all_goals first | exact ⟨i + 1, LeL.refl _, LeH.refl _, hi, by omega⟩ | exact AV.le_refl _ | exact AV.le_any _ | exact OLe.refl _ | exact OLe.none _ | exact LeH.refl _ | exact LeL.refl _ | exact AV.le.bs _ | exact AV.le.sb _ | omega | contradiction
  · obtain rfl : i = B.length := by omega
    refine .of (L := Lno) (failOK fun _ _ _ => rfl) (rA1e w n P B B.length) ?_
    repeat' (first | refine wC (by first | omega | (simp only [W1, cond_true, cond_false]; first | done | omega)) ?_ | refine wT (by first | omega | (simp only [W1, cond_true, cond_false]; first | done | omega)) ?_ | refine wF (by intro _h; first | omega | (simp only [W1, cond_true, cond_false] at _h; first | done | omega)) ?_ | (refine wS ?_ ?_ <;> intro _h <;> simp only [W1, cond_true, cond_false] at _h))
    all_goals simp only [W1, W2, owesN, owesX, owesR, cond_true, cond_false]
    repeat' (first | apply And.intro | intro _hc)
    all_goals first | exact rfl | exact AV.le_refl _ | exact AV.le_any _ | exact OLe.refl _ | exact OLe.none _ | exact LeH.refl _ | exact LeL.refl _ | exact AV.le.bs _ | exact AV.le.sb _ | omega | contradiction
theorem loopA4 {w P B : List Tx} {i : Nat} (hi : i < P.length) (hB : B.length ≤ 100000) : ∀ x : Bool × Nat, (x.2 ≤ B.length ∧ (x.1 || turnB (B.drop x.2) (P.getD i default).fr (P.getD i default).nn) = true) → LoopOK Tryd.prog Γm 0 174 (lp11 4) (LSpec.at lvA4 [] (SA4 w P B i x.1 x.2) (OA4 w P B i)) := by
  refine loop_at (S := fun x : Bool × Nat => SA4 w P B i x.1 x.2) (O := fun _ => OA4 w P B i) (k := 0) (fun x => B.length - x.2) fun x hp => .of (L := Lno) (failOK fun _ _ _ => rfl) (rA4 w P B i x.1 x.2) ?_
  obtain ⟨o, k⟩ := x
  obtain ⟨h1, h2⟩ := hp
  dsimp only at h1 h2
  simp only [Nat.zero_add]
  rcases Nat.lt_or_ge k B.length with hk | hk
  · have hd : B.drop k = B.getD k default :: B.drop (k + 1) := by rw [List.drop_eq_getElem_cons hk, getD_get hk]
    rw [hd] at h2
    have h2 : (o || ((decide ((B.getD k default).fr = (P.getD i default).fr) && decide ((B.getD k default).nn = (P.getD i default).nn)) || turnB (B.drop (k + 1)) (P.getD i default).fr (P.getD i default).nn)) = true := h2
    rw [← Bool.or_assoc] at h2
    have hc : ∀ a b c : Bool, (bif a then true else bif b then c else false) = (a || (b && c)) := by decide
    simp only [hc]
    have d1 : decide ((0 : Int) ≤ (k : Int)) = true := decide_eq_true (by omega)
    have d2 : decide ((k : Int) < (B.length : Int)) = true := decide_eq_true (by omega)
    have d3 : decide ((0 : Int) ≤ (i : Int)) = true := decide_eq_true (by omega)
    have d4 : decide ((i : Int) < (P.length : Int)) = true := decide_eq_true (by omega)
    simp only [d1, d2, d3, d4, Bool.and_true, condSelf]
    generalize (decide ((B.getD k default).fr = (P.getD i default).fr) && decide ((B.getD k default).nn = (P.getD i default).nn)) = d at *
    repeat' (first | refine wC (by first | omega | (simp only [W1, cond_true, cond_false, wrapUpN (show k ≤ 10000000000 by omega)]; first | done | omega)) ?_ | refine wT (by first | omega | (simp only [W1, cond_true, cond_false, wrapUpN (show k ≤ 10000000000 by omega)]; first | done | omega)) ?_ | refine wF (by intro _h; first | omega | (simp only [W1, cond_true, cond_false, wrapUpN (show k ≤ 10000000000 by omega)] at _h; first | done | omega)) ?_ | (refine wS ?_ ?_ <;> intro _h <;> simp only [W1, cond_true, cond_false, wrapUpN (show k ≤ 10000000000 by omega)] at _h))
    all_goals simp only [W1, W2, owesN, owesX, owesR, cond_true, cond_false, wrapUpN (show k ≤ 10000000000 by omega)]
    repeat' (first | apply And.intro | intro _hc)
    all_goals first | exact ⟨(or o d, k + 1), LeL.refl _, LeH.refl _, ⟨hk, by rw [Bool.or_eq_true] at h2; exact h2⟩, by dsimp only; omega⟩ | exact AV.le_refl _ | exact AV.le_any _ | exact OLe.refl _ | exact OLe.none _ | exact LeH.refl _ | exact LeL.refl _ | exact AV.le.bs _ | exact AV.le.sb _ | omega | contradiction
  · rw [List.drop_eq_nil_of_le hk] at h2
    have h2 : o = true := by simpa [turnB] using h2
    subst h2
    repeat' (first | refine wC (by first | omega | (simp only [W1, cond_true, cond_false]; first | done | omega)) ?_ | refine wT (by first | omega | (simp only [W1, cond_true, cond_false]; first | done | omega)) ?_ | refine wF (by intro _h; first | omega | (simp only [W1, cond_true, cond_false] at _h; first | done | omega)) ?_ | (refine wS ?_ ?_ <;> intro _h <;> simp only [W1, cond_true, cond_false] at _h))
    all_goals simp only [W1, W2, owesN, owesX, owesR, cond_true, cond_false]
    repeat' (first | apply And.intro | intro _hc)
    all_goals first | exact rfl | exact AV.le_refl _ | exact AV.le_any _ | exact OLe.refl _ | exact OLe.none _ | exact LeH.refl _ | exact LeL.refl _ | exact AV.le.bs _ | exact AV.le.sb _ | omega | contradiction
theorem loopA3 {w P B : List Tx} (hB : B.length ≤ 100000) (hP : P.length ≤ 100000) (hw : w.length ≤ 100000) (ha : ∀ u ∈ P, hasT w u = true ∨ turnB B u.fr u.nn = true) : ∀ i : Nat, i ≤ P.length → LoopOK Tryd.prog Γm 0 174 (lp11 3) (LSpec.at lvA3 [] (SA3 w P B i) OA3) := by
  refine loop_at (S := SA3 w P B) (O := fun _ => OA3) (k := 0) (fun i => P.length - i) fun i hp => ?_
  have hg : isTx (lsF Tx.c w) := isTx_ls w
  rcases Nat.lt_or_ge i P.length with hi | hi
  · have hm := ha (P.getD i default) (by rw [getD_get hi]; exact List.getElem_mem hi)
    have hl := loopA4 (w := w) (P := P) (B := B) hi hB (hasT w (P.getD i default), 0) ⟨Nat.zero_le _, by rw [List.drop_zero]; simpa using hm⟩
    refine .of (oneLoop (b := lp11 4) (by kernel_rfl) hl) (rA3 w P B i) ?_
    have hx : Tx.mk (P.getD i default).k (P.getD i default).fr (P.getD i default).to (P.getD i default).ky (P.getD i default).vl (P.getD i default).am (P.getD i default).nn = P.getD i default := rfl
    simp only [Nat.zero_add]
    repeat' (first | refine wC (by first | omega | (simp only [W1, cond_true, cond_false, hx, hg, hasF_l, wrapUpN (show i ≤ 10000000000 by omega)]; first | done | omega)) ?_ | refine wT (by first | omega | (simp only [W1, cond_true, cond_false, hx, hg, hasF_l, wrapUpN (show i ≤ 10000000000 by omega)]; first | done | omega)) ?_ | refine wF (by intro _h; first | omega | (simp only [W1, cond_true, cond_false, hx, hg, hasF_l, wrapUpN (show i ≤ 10000000000 by omega)] at _h; first | done | omega)) ?_ | (refine wS ?_ ?_ <;> intro _h <;> simp only [W1, cond_true, cond_false, hx, hg, hasF_l, wrapUpN (show i ≤ 10000000000 by omega)] at _h))
    all_goals simp only [W1, W2, owesN, owesX, owesR, cond_true, cond_false, hx, hg, hasF_l, wrapUpN (show i ≤ 10000000000 by omega)]
    repeat' (first | apply And.intro | intro _hc)
    all_goals first | exact ⟨i + 1, LeL.refl _, LeH.refl _, hi, by omega⟩ | exact AV.le_refl _ | exact AV.le_any _ | exact OLe.refl _ | exact OLe.none _ | exact LeH.refl _ | exact LeL.refl _ | exact AV.le.bs _ | exact AV.le.sb _ | omega | contradiction
  · obtain rfl : i = P.length := by omega
    refine .of (L := Lno) (failOK fun _ _ _ => rfl) (rA3e w P B P.length) ?_
    repeat' (first | refine wC (by first | omega | (simp only [W1, cond_true, cond_false]; first | done | omega)) ?_ | refine wT (by first | omega | (simp only [W1, cond_true, cond_false]; first | done | omega)) ?_ | refine wF (by intro _h; first | omega | (simp only [W1, cond_true, cond_false] at _h; first | done | omega)) ?_ | (refine wS ?_ ?_ <;> intro _h <;> simp only [W1, cond_true, cond_false] at _h))
    all_goals simp only [W1, W2, owesN, owesX, owesR, cond_true, cond_false]
    repeat' (first | apply And.intro | intro _hc)
    all_goals first | exact rfl | exact AV.le_refl _ | exact AV.le_any _ | exact OLe.refl _ | exact OLe.none _ | exact LeH.refl _ | exact LeL.refl _ | exact AV.le.bs _ | exact AV.le.sb _ | omega | contradiction
end Go.Eng.TA

/- PoolBatch: the law. -/
namespace Go.Eng.TA
open Go Go.Eng Go.Eng.M Go.Lib Go.Proofs
set_option linter.unusedSimpArgs false
set_option linter.unusedVariables false
def isL (n : Nat) (F : Nat → List AV) (l : List Tx) : Prop := n = l.length ∧ F = lsF Tx.c l
theorem isL_inj {n : Nat} {F : Nat → List AV} {l m : List Tx} (h : isL n F l) (k : isL n F m) : l = m := by
  obtain ⟨h1, h2⟩ := h
  obtain ⟨k1, k2⟩ := k
  refine List.ext_getElem (by omega) fun i hi hj => ?_
  have : lsF Tx.c l i = lsF Tx.c m i := by rw [← h2, ← k2]
  rw [lsF_at, lsF_at] at this
  have := Tx.c_inj this
  rw [getD_get hi, getD_get hj] at this
  exact this
noncomputable def grF (n : Nat) (F : Nat → List AV) : Bool := cl (∃ l, isL n F l ∧ grL l = true)
theorem grF_l {l : List Tx} : grF l.length (lsF Tx.c l) = grL l := by
  rw [Bool.eq_iff_iff]
  unfold grF
  rw [cl_iff]
  exact ⟨fun ⟨m, h1, h2⟩ => by rw [isL_inj (l := l) ⟨rfl, rfl⟩ h1]; exact h2, fun h => ⟨l, ⟨rfl, rfl⟩, h⟩⟩
def ofLs : List AV → List Blk → Option (Nat × (Nat → List AV))
  | [.sl _ n f], [] => some (n, f)
  | _, _ => none
noncomputable def kGrL : CT Tryd.prog Γm := CT.par 46 ofLs (fun | (n, F) => ∃ l, isL n F l) (fun | (n, F) => [.sl 7 n F]) (fun _ => []) (fun | (n, F) => .sb (grF n F)) (fun _ => []) (fun _ => []) (callFunc_enters Tryd.func46 (by kernel_rfl) (by kernel_rfl)) fun ⟨n, F⟩ ⟨l, h⟩ => by
  obtain ⟨rfl, rfl⟩ := h
  show Answers _ _ _ [.sl 7 l.length (lsF Tx.c l)] [] (.sb (grF l.length (lsF Tx.c l))) [] []
  rw [grF_l]
  exact ansGrL
theorem isL_l (l : List Tx) : ∃ m, isL l.length (lsF Tx.c l) m := ⟨l, rfl, rfl⟩
def A11 (y : X11) : List AV := [.v (.int .i64 y.mo), .sl 7 y.l.length (lsF Tx.c y.l), .sl 7 y.w.length (lsF Tx.c y.w), .v (.int .i64 y.n)]
noncomputable def LA11 (y : X11) (P B : List Tx) : Nat → LSpec
  | 0 => LSpec.at lvA0 nlA0 (SA0 y ⟨0, []⟩) (OA0 y P)
  | 1 => LSpec.at lvA1 [] (SA1 y.w y.n P B 0) (OA1 y.w y.n P B)
  | 3 => LSpec.at lvA3 [] (SA3 y.w P B 0) OA3
  | _ => ⟨[], [], fun _ _ => .fail⟩
theorem law11a (y : X11) : bodyE (P := Tryd.prog) (Γ := Γm) [z44', kNewP, kGrL] Lno false 174 [.tmp 8] (bodyOf Tryd.f11) (A11 y) [] =
  Tree.br (bif decide (y.mo < (1 : Int)) then true else decide ((64 : Int) < y.mo)) (Tree.chk true (Tree.br true (Tree.leaf (Ans.mk (AV.v (Value.bool true)) [])) Tree.fail)) (Tree.chk (cl ((∃
    l, isL (List.length y.l) (lsF Tx.c y.l) l) ∧ LeL [AV.sl (7 : Nat) (List.length y.l) (lsF Tx.c y.l)] [AV.sl (7 : Nat) (List.length y.l) (lsF Tx.c y.l)] ∧ LeH [] []) && bif grF
    (List.length y.l) (lsF Tx.c y.l) then true else cl ((∃ l, isL (List.length y.w) (lsF Tx.c y.w) l) ∧ LeL [AV.sl (7 : Nat) (List.length y.w) (lsF Tx.c y.w)] [AV.sl (7 : Nat) (List.length
    y.w) (lsF Tx.c y.w)] ∧ LeH [] [])) (Tree.br (bif grF (List.length y.l) (lsF Tx.c y.l) then true else grF (List.length y.w) (lsF Tx.c y.w)) (Tree.leaf (Ans.mk (AV.v (Value.bool true))
    [])) Tree.fail)) := by kernel_rfl
theorem law11k (y : X11) (P B : List Tx) (hP : P.length ≤ 1000000000) (hB : Answers Tryd.prog Γm 49 [.ptr 0 0, .v (.int .i64 y.n), .sl 7 y.w.length (lsF Tx.c y.w)] [plR 1 y.mo P.length, txB' (P ++ [])] (.hs 2 0 B.length) [some (plR 1 y.mo P.length), some (txB' (P ++ []))] [txB' B]) : bodyE (P := Tryd.prog) (Γ := Γm) [z44', kNewP, kGrL, CT.at 48 (ansAll (mo := y.mo) (l := P) (j := []) hP), CT.at 49 hB, kLenP, CT.at 51 (ansSm (l := P) (j := []) (j' := []) hP)] (LA11 y P B) false 174 [.tmp 8] (bodyOf Tryd.f11) (A11 y) [] =
  Tree.br (bif decide (y.mo < (1 : Int)) then true else decide ((64 : Int) < y.mo)) (Tree.chk true (Tree.br true (Tree.leaf (Ans.mk (AV.v (Value.bool true)) [])) (Tree.chk (cl (LeL [AV.v
    (Value.int IntKind.i64 y.mo), AV.sl (7 : Nat) (List.length y.l) (lsF Tx.c y.l), AV.sl (7 : Nat) (List.length y.w) (lsF Tx.c y.w), AV.v (Value.int IntKind.i64 y.n), AV.v (Value.pointer
    none), AV.v (Value.int IntKind.i64 (0 : Int))] [AV.v (Value.int IntKind.i64 y.mo), AV.sl (7 : Nat) (List.length y.l) (lsF Tx.c y.l), AV.sl (7 : Nat) (List.length y.w) (lsF Tx.c y.w),
    AV.v (Value.int IntKind.i64 y.n), AV.ptr (0 : Nat) (0 : Nat), AV.v (Value.int IntKind.i64 (↑(0 : Nat) : Int))] ∧ LeH [] [some (Blk.row [AV.v (Value.int IntKind.i64 y.mo), AV.hs (1 : Nat)
    (0 : Nat) (0 : Nat)]), some (Blk.arr (7 : Nat) (0 : Nat) (lsF Tx.c (XA.mk (0 : Nat) []).P))])) (Tree.chk (cl (LeL [AV.ptr (0 : Nat) (0 : Nat)] [AV.ptr (0 : Nat) (0 : Nat)] ∧ LeH [some
    (Blk.row [AV.v (Value.int IntKind.i64 y.mo), AV.hs (1 : Nat) (0 : Nat) (List.length P)]), some (Blk.arr (7 : Nat) (List.length P) (lsF Tx.c P))] [some (Blk.row [AV.v (Value.int
    IntKind.i64 y.mo), AV.hs (1 : Nat) (0 : Nat) (List.length P)]), some (Blk.arr (7 : Nat) (List.length (P ++ [])) (lsF Tx.c (P ++ [])))])) (Tree.chk (cl (LeL [AV.ptr (0 : Nat) (0 : Nat),
    AV.v (Value.int IntKind.i64 y.n), AV.sl (7 : Nat) (List.length y.w) (lsF Tx.c y.w)] [AV.ptr (0 : Nat) (0 : Nat), AV.v (Value.int IntKind.i64 y.n), AV.sl (7 : Nat) (List.length y.w) (lsF
    Tx.c y.w)] ∧ LeH [some (Blk.row [AV.v (Value.int IntKind.i64 y.mo), AV.hs (1 : Nat) (0 : Nat) (List.length P)]), some (Blk.arr (7 : Nat) (List.length (P ++ [])) (lsF Tx.c (P ++ [])))]
    [some (Blk.row [AV.v (Value.int IntKind.i64 y.mo), AV.hs (1 : Nat) (0 : Nat) (List.length P)]), some (Blk.arr (7 : Nat) (List.length (P ++ [])) (lsF Tx.c (P ++ [])))])) (Tree.br (decide
    (y.mo < (↑(List.length P) : Int))) (Tree.leaf (Ans.mk (AV.v (Value.bool false)) [])) (Tree.br (decide ((if (0 : Int) > y.n then (0 : Int) else y.n) < (↑(List.length B) : Int)))
    (Tree.leaf (Ans.mk (AV.v (Value.bool false)) [])) (Tree.chk (cl (LeL [AV.ptr (0 : Nat) (0 : Nat)] [AV.ptr (0 : Nat) (0 : Nat)] ∧ LeH [some (Blk.row [AV.v (Value.int IntKind.i64 y.mo),
    AV.hs (1 : Nat) (0 : Nat) (List.length P)]), some (Blk.arr (7 : Nat) (List.length (P ++ [])) (lsF Tx.c (P ++ [])))] [some (Blk.row [AV.v (Value.int IntKind.i64 y.mo), AV.hs (1 : Nat) (0
    : Nat) (List.length P)]), some (Blk.arr (7 : Nat) (List.length (P ++ [])) (lsF Tx.c (P ++ [])))])) (Tree.chk (cl (LeL [AV.hs (0 : Nat) (0 : Nat) (List.length P), AV.hs (1 : Nat) (0 :
    Nat) (List.length P)] [AV.hs (0 : Nat) (0 : Nat) (List.length P), AV.hs (1 : Nat) (0 : Nat) (List.length P)] ∧ LeH [some (Blk.arr (7 : Nat) (List.length P) (lsF Tx.c P)), some (Blk.arr
    (7 : Nat) (List.length P) (lsF Tx.c P))] [some (Blk.arr (7 : Nat) (List.length (P ++ [])) (lsF Tx.c (P ++ []))), some (Blk.arr (7 : Nat) (List.length (P ++ [])) (lsF Tx.c (P ++ [])))]))
    (Tree.chk (cl (LeL [AV.sl (7 : Nat) (List.length y.w) (lsF Tx.c y.w), AV.v (Value.int IntKind.i64 y.n), AV.hs (0 : Nat) (0 : Nat) (List.length P), AV.hs (1 : Nat) (0 : Nat) (List.length
    B), AV.v (Value.int IntKind.i64 (0 : Int)), AV.any] [AV.sl (7 : Nat) (List.length y.w) (lsF Tx.c y.w), AV.v (Value.int IntKind.i64 y.n), AV.hs (0 : Nat) (0 : Nat) (List.length P), AV.hs
    (1 : Nat) (0 : Nat) (List.length B), AV.v (Value.int IntKind.i64 (↑(0 : Nat) : Int)), AV.any] ∧ LeH [some (Blk.arr (7 : Nat) (List.length (P ++ [])) (lsF Tx.c (P ++ []))), some (Blk.arr
    (7 : Nat) (List.length B) (lsF Tx.c B))] [some (Blk.arr (7 : Nat) (List.length P) (lsF Tx.c P)), some (Blk.arr (7 : Nat) (List.length B) (lsF Tx.c B))])) (Tree.br (decide ((↑(List.length
    B) : Int) = if (0 : Int) > y.n then (0 : Int) else y.n)) (Tree.leaf (Ans.mk (AV.v (Value.bool true)) [])) (Tree.chk (cl (LeL [AV.sl (7 : Nat) (List.length y.w) (lsF Tx.c y.w), AV.hs (0 :
    Nat) (0 : Nat) (List.length P), AV.hs (1 : Nat) (0 : Nat) (List.length B), AV.v (Value.int IntKind.i64 (0 : Int)), AV.any] [AV.sl (7 : Nat) (List.length y.w) (lsF Tx.c y.w), AV.hs (0 :
    Nat) (0 : Nat) (List.length P), AV.hs (1 : Nat) (0 : Nat) (List.length B), AV.v (Value.int IntKind.i64 (↑(0 : Nat) : Int)), AV.any] ∧ LeH [some (Blk.arr (7 : Nat) (List.length P) (lsF
    Tx.c P)), some (Blk.arr (7 : Nat) (List.length B) (lsF Tx.c B))] [some (Blk.arr (7 : Nat) (List.length P) (lsF Tx.c P)), some (Blk.arr (7 : Nat) (List.length B) (lsF Tx.c B))]))
    (Tree.leaf (Ans.mk (AV.v (Value.bool true)) [])))))))))))))) (Tree.chk (cl ((∃ l, isL (List.length y.l) (lsF Tx.c y.l) l) ∧ LeL [AV.sl (7 : Nat) (List.length y.l) (lsF Tx.c y.l)] [AV.sl
    (7 : Nat) (List.length y.l) (lsF Tx.c y.l)] ∧ LeH [] []) && bif grF (List.length y.l) (lsF Tx.c y.l) then true else cl ((∃ l, isL (List.length y.w) (lsF Tx.c y.w) l) ∧ LeL [AV.sl (7 :
    Nat) (List.length y.w) (lsF Tx.c y.w)] [AV.sl (7 : Nat) (List.length y.w) (lsF Tx.c y.w)] ∧ LeH [] [])) (Tree.br (bif grF (List.length y.l) (lsF Tx.c y.l) then true else grF (List.length
    y.w) (lsF Tx.c y.w)) (Tree.leaf (Ans.mk (AV.v (Value.bool true)) [])) (Tree.chk (cl (LeL [AV.v (Value.int IntKind.i64 y.mo), AV.sl (7 : Nat) (List.length y.l) (lsF Tx.c y.l), AV.sl (7 :
    Nat) (List.length y.w) (lsF Tx.c y.w), AV.v (Value.int IntKind.i64 y.n), AV.ptr (0 : Nat) (0 : Nat), AV.v (Value.int IntKind.i64 (0 : Int))] [AV.v (Value.int IntKind.i64 y.mo), AV.sl (7
    : Nat) (List.length y.l) (lsF Tx.c y.l), AV.sl (7 : Nat) (List.length y.w) (lsF Tx.c y.w), AV.v (Value.int IntKind.i64 y.n), AV.ptr (0 : Nat) (0 : Nat), AV.v (Value.int IntKind.i64 (↑(0
    : Nat) : Int))] ∧ LeH [some (Blk.row [AV.v (Value.int IntKind.i64 y.mo), AV.hs (1 : Nat) (0 : Nat) (0 : Nat)]), some (Blk.arr (7 : Nat) (0 : Nat) fun x => [AV.v (Value.int IntKind.i64 (0
    : Int)), AV.v (Value.string (ByteArray.mk #[])), AV.v (Value.string (ByteArray.mk #[])), AV.v (Value.string (ByteArray.mk #[])), AV.v (Value.string (ByteArray.mk #[])), AV.v (Value.int
    IntKind.i64 (0 : Int)), AV.v (Value.int IntKind.i64 (0 : Int))])] [some (Blk.row [AV.v (Value.int IntKind.i64 y.mo), AV.hs (1 : Nat) (0 : Nat) (0 : Nat)]), some (Blk.arr (7 : Nat) (0 :
    Nat) (lsF Tx.c (XA.mk (0 : Nat) []).P))])) (Tree.chk (cl (LeL [AV.ptr (0 : Nat) (0 : Nat)] [AV.ptr (0 : Nat) (0 : Nat)] ∧ LeH [some (Blk.row [AV.v (Value.int IntKind.i64 y.mo), AV.hs (1
    : Nat) (0 : Nat) (List.length P)]), some (Blk.arr (7 : Nat) (List.length P) (lsF Tx.c P))] [some (Blk.row [AV.v (Value.int IntKind.i64 y.mo), AV.hs (1 : Nat) (0 : Nat) (List.length P)]),
    some (Blk.arr (7 : Nat) (List.length (P ++ [])) (lsF Tx.c (P ++ [])))])) (Tree.chk (cl (LeL [AV.ptr (0 : Nat) (0 : Nat), AV.v (Value.int IntKind.i64 y.n), AV.sl (7 : Nat) (List.length
    y.w) (lsF Tx.c y.w)] [AV.ptr (0 : Nat) (0 : Nat), AV.v (Value.int IntKind.i64 y.n), AV.sl (7 : Nat) (List.length y.w) (lsF Tx.c y.w)] ∧ LeH [some (Blk.row [AV.v (Value.int IntKind.i64
    y.mo), AV.hs (1 : Nat) (0 : Nat) (List.length P)]), some (Blk.arr (7 : Nat) (List.length (P ++ [])) (lsF Tx.c (P ++ [])))] [some (Blk.row [AV.v (Value.int IntKind.i64 y.mo), AV.hs (1 :
    Nat) (0 : Nat) (List.length P)]), some (Blk.arr (7 : Nat) (List.length (P ++ [])) (lsF Tx.c (P ++ [])))])) (Tree.br (decide (y.mo < (↑(List.length P) : Int))) (Tree.leaf (Ans.mk (AV.v
    (Value.bool false)) [])) (Tree.br (decide ((if (0 : Int) > y.n then (0 : Int) else y.n) < (↑(List.length B) : Int))) (Tree.leaf (Ans.mk (AV.v (Value.bool false)) [])) (Tree.chk (cl (LeL
    [AV.ptr (0 : Nat) (0 : Nat)] [AV.ptr (0 : Nat) (0 : Nat)] ∧ LeH [some (Blk.row [AV.v (Value.int IntKind.i64 y.mo), AV.hs (1 : Nat) (0 : Nat) (List.length P)]), some (Blk.arr (7 : Nat)
    (List.length (P ++ [])) (lsF Tx.c (P ++ [])))] [some (Blk.row [AV.v (Value.int IntKind.i64 y.mo), AV.hs (1 : Nat) (0 : Nat) (List.length P)]), some (Blk.arr (7 : Nat) (List.length (P ++
    [])) (lsF Tx.c (P ++ [])))])) (Tree.chk (cl (LeL [AV.hs (0 : Nat) (0 : Nat) (List.length P), AV.hs (1 : Nat) (0 : Nat) (List.length P)] [AV.hs (0 : Nat) (0 : Nat) (List.length P), AV.hs
    (1 : Nat) (0 : Nat) (List.length P)] ∧ LeH [some (Blk.arr (7 : Nat) (List.length P) (lsF Tx.c P)), some (Blk.arr (7 : Nat) (List.length P) (lsF Tx.c P))] [some (Blk.arr (7 : Nat)
    (List.length (P ++ [])) (lsF Tx.c (P ++ []))), some (Blk.arr (7 : Nat) (List.length (P ++ [])) (lsF Tx.c (P ++ [])))])) (Tree.chk (cl (LeL [AV.sl (7 : Nat) (List.length y.w) (lsF Tx.c
    y.w), AV.v (Value.int IntKind.i64 y.n), AV.hs (0 : Nat) (0 : Nat) (List.length P), AV.hs (1 : Nat) (0 : Nat) (List.length B), AV.v (Value.int IntKind.i64 (0 : Int)), AV.any] [AV.sl (7 :
    Nat) (List.length y.w) (lsF Tx.c y.w), AV.v (Value.int IntKind.i64 y.n), AV.hs (0 : Nat) (0 : Nat) (List.length P), AV.hs (1 : Nat) (0 : Nat) (List.length B), AV.v (Value.int IntKind.i64
    (↑(0 : Nat) : Int)), AV.any] ∧ LeH [some (Blk.arr (7 : Nat) (List.length (P ++ [])) (lsF Tx.c (P ++ []))), some (Blk.arr (7 : Nat) (List.length B) (lsF Tx.c B))] [some (Blk.arr (7 : Nat)
    (List.length P) (lsF Tx.c P)), some (Blk.arr (7 : Nat) (List.length B) (lsF Tx.c B))])) (Tree.br (decide ((↑(List.length B) : Int) = if (0 : Int) > y.n then (0 : Int) else y.n))
    (Tree.leaf (Ans.mk (AV.v (Value.bool true)) [])) (Tree.chk (cl (LeL [AV.sl (7 : Nat) (List.length y.w) (lsF Tx.c y.w), AV.hs (0 : Nat) (0 : Nat) (List.length P), AV.hs (1 : Nat) (0 :
    Nat) (List.length B), AV.v (Value.int IntKind.i64 (0 : Int)), AV.any] [AV.sl (7 : Nat) (List.length y.w) (lsF Tx.c y.w), AV.hs (0 : Nat) (0 : Nat) (List.length P), AV.hs (1 : Nat) (0 :
    Nat) (List.length B), AV.v (Value.int IntKind.i64 (↑(0 : Nat) : Int)), AV.any] ∧ LeH [some (Blk.arr (7 : Nat) (List.length P) (lsF Tx.c P)), some (Blk.arr (7 : Nat) (List.length B) (lsF
    Tx.c B))] [some (Blk.arr (7 : Nat) (List.length P) (lsF Tx.c P)), some (Blk.arr (7 : Nat) (List.length B) (lsF Tx.c B))])) (Tree.leaf (Ans.mk (AV.v (Value.bool true)) [])))))))))))))) := by kernel_rfl
noncomputable def LA11' (y : X11) (P B : List Tx) : Nat → LSpec
  | 0 => LSpec.at lvA0 nlA0 (SA0 y ⟨0, []⟩) (OA0 y P)
  | 1 => LSpec.at lvA1 [] (SA1 y.w y.n P B 0) (OA1 y.w y.n P B)
  | _ => ⟨[], [], fun _ _ => .fail⟩
theorem law11q (y : X11) (P B : List Tx) (hP : P.length ≤ 1000000000) (hB : Answers Tryd.prog Γm 49 [.ptr 0 0, .v (.int .i64 y.n), .sl 7 y.w.length (lsF Tx.c y.w)] [plR 1 y.mo P.length, txB' (P ++ [])] (.hs 2 0 B.length) [some (plR 1 y.mo P.length), some (txB' (P ++ []))] [txB' B]) : bodyE (P := Tryd.prog) (Γ := Γm) [z44', kNewP, kGrL, CT.at 48 (ansAll (mo := y.mo) (l := P) (j := []) hP), CT.at 49 hB, kLenP, CT.at 51 (ansSm (l := P) (j := []) (j' := []) hP)] (LA11' y P B) false 174 [.tmp 8] (bodyOf Tryd.f11) (A11 y) [] =
  Tree.br (bif decide (y.mo < (1 : Int)) then true else decide ((64 : Int) < y.mo)) (Tree.chk true (Tree.br true (Tree.leaf (Ans.mk (AV.v (Value.bool true)) [])) (Tree.chk (cl (LeL [AV.v
    (Value.int IntKind.i64 y.mo), AV.sl (7 : Nat) (List.length y.l) (lsF Tx.c y.l), AV.sl (7 : Nat) (List.length y.w) (lsF Tx.c y.w), AV.v (Value.int IntKind.i64 y.n), AV.v (Value.pointer
    none), AV.v (Value.int IntKind.i64 (0 : Int))] [AV.v (Value.int IntKind.i64 y.mo), AV.sl (7 : Nat) (List.length y.l) (lsF Tx.c y.l), AV.sl (7 : Nat) (List.length y.w) (lsF Tx.c y.w),
    AV.v (Value.int IntKind.i64 y.n), AV.ptr (0 : Nat) (0 : Nat), AV.v (Value.int IntKind.i64 (↑(0 : Nat) : Int))] ∧ LeH [] [some (Blk.row [AV.v (Value.int IntKind.i64 y.mo), AV.hs (1 : Nat)
    (0 : Nat) (0 : Nat)]), some (Blk.arr (7 : Nat) (0 : Nat) (lsF Tx.c (XA.mk (0 : Nat) []).P))])) (Tree.chk (cl (LeL [AV.ptr (0 : Nat) (0 : Nat)] [AV.ptr (0 : Nat) (0 : Nat)] ∧ LeH [some
    (Blk.row [AV.v (Value.int IntKind.i64 y.mo), AV.hs (1 : Nat) (0 : Nat) (List.length P)]), some (Blk.arr (7 : Nat) (List.length P) (lsF Tx.c P))] [some (Blk.row [AV.v (Value.int
    IntKind.i64 y.mo), AV.hs (1 : Nat) (0 : Nat) (List.length P)]), some (Blk.arr (7 : Nat) (List.length (P ++ [])) (lsF Tx.c (P ++ [])))])) (Tree.chk (cl (LeL [AV.ptr (0 : Nat) (0 : Nat),
    AV.v (Value.int IntKind.i64 y.n), AV.sl (7 : Nat) (List.length y.w) (lsF Tx.c y.w)] [AV.ptr (0 : Nat) (0 : Nat), AV.v (Value.int IntKind.i64 y.n), AV.sl (7 : Nat) (List.length y.w) (lsF
    Tx.c y.w)] ∧ LeH [some (Blk.row [AV.v (Value.int IntKind.i64 y.mo), AV.hs (1 : Nat) (0 : Nat) (List.length P)]), some (Blk.arr (7 : Nat) (List.length (P ++ [])) (lsF Tx.c (P ++ [])))]
    [some (Blk.row [AV.v (Value.int IntKind.i64 y.mo), AV.hs (1 : Nat) (0 : Nat) (List.length P)]), some (Blk.arr (7 : Nat) (List.length (P ++ [])) (lsF Tx.c (P ++ [])))])) (Tree.br (decide
    (y.mo < (↑(List.length P) : Int))) (Tree.leaf (Ans.mk (AV.v (Value.bool false)) [])) (Tree.br (decide ((if (0 : Int) > y.n then (0 : Int) else y.n) < (↑(List.length B) : Int)))
    (Tree.leaf (Ans.mk (AV.v (Value.bool false)) [])) (Tree.chk (cl (LeL [AV.ptr (0 : Nat) (0 : Nat)] [AV.ptr (0 : Nat) (0 : Nat)] ∧ LeH [some (Blk.row [AV.v (Value.int IntKind.i64 y.mo),
    AV.hs (1 : Nat) (0 : Nat) (List.length P)]), some (Blk.arr (7 : Nat) (List.length (P ++ [])) (lsF Tx.c (P ++ [])))] [some (Blk.row [AV.v (Value.int IntKind.i64 y.mo), AV.hs (1 : Nat) (0
    : Nat) (List.length P)]), some (Blk.arr (7 : Nat) (List.length (P ++ [])) (lsF Tx.c (P ++ [])))])) (Tree.chk (cl (LeL [AV.hs (0 : Nat) (0 : Nat) (List.length P), AV.hs (1 : Nat) (0 :
    Nat) (List.length P)] [AV.hs (0 : Nat) (0 : Nat) (List.length P), AV.hs (1 : Nat) (0 : Nat) (List.length P)] ∧ LeH [some (Blk.arr (7 : Nat) (List.length P) (lsF Tx.c P)), some (Blk.arr
    (7 : Nat) (List.length P) (lsF Tx.c P))] [some (Blk.arr (7 : Nat) (List.length (P ++ [])) (lsF Tx.c (P ++ []))), some (Blk.arr (7 : Nat) (List.length (P ++ [])) (lsF Tx.c (P ++ [])))]))
    (Tree.chk (cl (LeL [AV.sl (7 : Nat) (List.length y.w) (lsF Tx.c y.w), AV.v (Value.int IntKind.i64 y.n), AV.hs (0 : Nat) (0 : Nat) (List.length P), AV.hs (1 : Nat) (0 : Nat) (List.length
    B), AV.v (Value.int IntKind.i64 (0 : Int)), AV.any] [AV.sl (7 : Nat) (List.length y.w) (lsF Tx.c y.w), AV.v (Value.int IntKind.i64 y.n), AV.hs (0 : Nat) (0 : Nat) (List.length P), AV.hs
    (1 : Nat) (0 : Nat) (List.length B), AV.v (Value.int IntKind.i64 (↑(0 : Nat) : Int)), AV.any] ∧ LeH [some (Blk.arr (7 : Nat) (List.length (P ++ [])) (lsF Tx.c (P ++ []))), some (Blk.arr
    (7 : Nat) (List.length B) (lsF Tx.c B))] [some (Blk.arr (7 : Nat) (List.length P) (lsF Tx.c P)), some (Blk.arr (7 : Nat) (List.length B) (lsF Tx.c B))])) (Tree.br (decide ((↑(List.length
    B) : Int) = if (0 : Int) > y.n then (0 : Int) else y.n)) (Tree.leaf (Ans.mk (AV.v (Value.bool true)) [])) Tree.fail))))))))))) (Tree.chk (cl ((∃ l, isL (List.length y.l) (lsF Tx.c y.l)
    l) ∧ LeL [AV.sl (7 : Nat) (List.length y.l) (lsF Tx.c y.l)] [AV.sl (7 : Nat) (List.length y.l) (lsF Tx.c y.l)] ∧ LeH [] []) && bif grF (List.length y.l) (lsF Tx.c y.l) then true else cl
    ((∃ l, isL (List.length y.w) (lsF Tx.c y.w) l) ∧ LeL [AV.sl (7 : Nat) (List.length y.w) (lsF Tx.c y.w)] [AV.sl (7 : Nat) (List.length y.w) (lsF Tx.c y.w)] ∧ LeH [] [])) (Tree.br (bif grF
    (List.length y.l) (lsF Tx.c y.l) then true else grF (List.length y.w) (lsF Tx.c y.w)) (Tree.leaf (Ans.mk (AV.v (Value.bool true)) [])) (Tree.chk (cl (LeL [AV.v (Value.int IntKind.i64
    y.mo), AV.sl (7 : Nat) (List.length y.l) (lsF Tx.c y.l), AV.sl (7 : Nat) (List.length y.w) (lsF Tx.c y.w), AV.v (Value.int IntKind.i64 y.n), AV.ptr (0 : Nat) (0 : Nat), AV.v (Value.int
    IntKind.i64 (0 : Int))] [AV.v (Value.int IntKind.i64 y.mo), AV.sl (7 : Nat) (List.length y.l) (lsF Tx.c y.l), AV.sl (7 : Nat) (List.length y.w) (lsF Tx.c y.w), AV.v (Value.int
    IntKind.i64 y.n), AV.ptr (0 : Nat) (0 : Nat), AV.v (Value.int IntKind.i64 (↑(0 : Nat) : Int))] ∧ LeH [some (Blk.row [AV.v (Value.int IntKind.i64 y.mo), AV.hs (1 : Nat) (0 : Nat) (0 :
    Nat)]), some (Blk.arr (7 : Nat) (0 : Nat) fun x => [AV.v (Value.int IntKind.i64 (0 : Int)), AV.v (Value.string (ByteArray.mk #[])), AV.v (Value.string (ByteArray.mk #[])), AV.v
    (Value.string (ByteArray.mk #[])), AV.v (Value.string (ByteArray.mk #[])), AV.v (Value.int IntKind.i64 (0 : Int)), AV.v (Value.int IntKind.i64 (0 : Int))])] [some (Blk.row [AV.v
    (Value.int IntKind.i64 y.mo), AV.hs (1 : Nat) (0 : Nat) (0 : Nat)]), some (Blk.arr (7 : Nat) (0 : Nat) (lsF Tx.c (XA.mk (0 : Nat) []).P))])) (Tree.chk (cl (LeL [AV.ptr (0 : Nat) (0 :
    Nat)] [AV.ptr (0 : Nat) (0 : Nat)] ∧ LeH [some (Blk.row [AV.v (Value.int IntKind.i64 y.mo), AV.hs (1 : Nat) (0 : Nat) (List.length P)]), some (Blk.arr (7 : Nat) (List.length P) (lsF Tx.c
    P))] [some (Blk.row [AV.v (Value.int IntKind.i64 y.mo), AV.hs (1 : Nat) (0 : Nat) (List.length P)]), some (Blk.arr (7 : Nat) (List.length (P ++ [])) (lsF Tx.c (P ++ [])))])) (Tree.chk
    (cl (LeL [AV.ptr (0 : Nat) (0 : Nat), AV.v (Value.int IntKind.i64 y.n), AV.sl (7 : Nat) (List.length y.w) (lsF Tx.c y.w)] [AV.ptr (0 : Nat) (0 : Nat), AV.v (Value.int IntKind.i64 y.n),
    AV.sl (7 : Nat) (List.length y.w) (lsF Tx.c y.w)] ∧ LeH [some (Blk.row [AV.v (Value.int IntKind.i64 y.mo), AV.hs (1 : Nat) (0 : Nat) (List.length P)]), some (Blk.arr (7 : Nat)
    (List.length (P ++ [])) (lsF Tx.c (P ++ [])))] [some (Blk.row [AV.v (Value.int IntKind.i64 y.mo), AV.hs (1 : Nat) (0 : Nat) (List.length P)]), some (Blk.arr (7 : Nat) (List.length (P ++
    [])) (lsF Tx.c (P ++ [])))])) (Tree.br (decide (y.mo < (↑(List.length P) : Int))) (Tree.leaf (Ans.mk (AV.v (Value.bool false)) [])) (Tree.br (decide ((if (0 : Int) > y.n then (0 : Int)
    else y.n) < (↑(List.length B) : Int))) (Tree.leaf (Ans.mk (AV.v (Value.bool false)) [])) (Tree.chk (cl (LeL [AV.ptr (0 : Nat) (0 : Nat)] [AV.ptr (0 : Nat) (0 : Nat)] ∧ LeH [some (Blk.row
    [AV.v (Value.int IntKind.i64 y.mo), AV.hs (1 : Nat) (0 : Nat) (List.length P)]), some (Blk.arr (7 : Nat) (List.length (P ++ [])) (lsF Tx.c (P ++ [])))] [some (Blk.row [AV.v (Value.int
    IntKind.i64 y.mo), AV.hs (1 : Nat) (0 : Nat) (List.length P)]), some (Blk.arr (7 : Nat) (List.length (P ++ [])) (lsF Tx.c (P ++ [])))])) (Tree.chk (cl (LeL [AV.hs (0 : Nat) (0 : Nat)
    (List.length P), AV.hs (1 : Nat) (0 : Nat) (List.length P)] [AV.hs (0 : Nat) (0 : Nat) (List.length P), AV.hs (1 : Nat) (0 : Nat) (List.length P)] ∧ LeH [some (Blk.arr (7 : Nat)
    (List.length P) (lsF Tx.c P)), some (Blk.arr (7 : Nat) (List.length P) (lsF Tx.c P))] [some (Blk.arr (7 : Nat) (List.length (P ++ [])) (lsF Tx.c (P ++ []))), some (Blk.arr (7 : Nat)
    (List.length (P ++ [])) (lsF Tx.c (P ++ [])))])) (Tree.chk (cl (LeL [AV.sl (7 : Nat) (List.length y.w) (lsF Tx.c y.w), AV.v (Value.int IntKind.i64 y.n), AV.hs (0 : Nat) (0 : Nat)
    (List.length P), AV.hs (1 : Nat) (0 : Nat) (List.length B), AV.v (Value.int IntKind.i64 (0 : Int)), AV.any] [AV.sl (7 : Nat) (List.length y.w) (lsF Tx.c y.w), AV.v (Value.int IntKind.i64
    y.n), AV.hs (0 : Nat) (0 : Nat) (List.length P), AV.hs (1 : Nat) (0 : Nat) (List.length B), AV.v (Value.int IntKind.i64 (↑(0 : Nat) : Int)), AV.any] ∧ LeH [some (Blk.arr (7 : Nat)
    (List.length (P ++ [])) (lsF Tx.c (P ++ []))), some (Blk.arr (7 : Nat) (List.length B) (lsF Tx.c B))] [some (Blk.arr (7 : Nat) (List.length P) (lsF Tx.c P)), some (Blk.arr (7 : Nat)
    (List.length B) (lsF Tx.c B))])) (Tree.br (decide ((↑(List.length B) : Int) = if (0 : Int) > y.n then (0 : Int) else y.n)) (Tree.leaf (Ans.mk (AV.v (Value.bool true)) []))
    Tree.fail))))))))))) := by kernel_rfl
theorem five {m N : Nat} {c b0 b1 b2 b3 b4 : Code} {L : Nat → LSpec} (h : loopBodies c = [b0, b1, b2, b3, b4]) (h0 : LoopOK Tryd.prog Γm m N b0 (L 0)) (h1 : LoopOK Tryd.prog Γm m N b1 (L 1)) (h2 : LoopOK Tryd.prog Γm m N b2 (L 2)) (h3 : LoopOK Tryd.prog Γm m N b3 (L 3)) (h4 : LoopOK Tryd.prog Γm m N b4 (L 4)) : ∀ (j : Nat) (b : Code), (loopBodies c)[j]? = some b → LoopOK Tryd.prog Γm m N b (L j) := by
  intro j b hj
  rw [h] at hj
  match j, hj with
  | 0, hj => simp at hj; subst hj; exact h0
  | 1, hj => simp at hj; subst hj; exact h1
  | 2, hj => simp at hj; subst hj; exact h2
  | 3, hj => simp at hj; subst hj; exact h3
  | 4, hj => simp at hj; subst hj; exact h4
  | j + 5, hj => simp at hj
theorem bat_len {w : List Tx} {n : Int} : ∀ {l out : List Tx}, (batF w n l out).length ≤ out.length + l.length := by
  intro l
  induction l with
  | nil => intro out; exact Nat.le_refl _
  | cons t l ih =>
    intro out
    have h1 := ih (out := bstep w n out t)
    have h2 : (bstep w n out t).length ≤ out.length + 1 := by
      unfold bstep
      split
      · omega
      · simp
    show (batF w n l (bstep w n out t)).length ≤ out.length + (l.length + 1)
    omega
theorem lawPB (y : X11) : LawOK Tryd.prog Γm 174 [.tmp 8] (bodyOf Tryd.f11) (A11 y) := by
  have i1 : (∃ m, isL y.l.length (lsF Tx.c y.l) m) = True := eq_true (isL_l _)
  have i2 : (∃ m, isL y.w.length (lsF Tx.c y.w) m) = True := eq_true (isL_l _)
  by_cases hm : y.mo < 1 ∨ 64 < y.mo
  · refine .mk' (T := [z44', kNewP, kGrL]) (ip := false) (L := Lno) (failOK fun _ _ _ => rfl) (Right.of (law11a y) ?_)
    repeat' (first | refine wC (by first | omega | (simp only [W1, cond_true, cond_false]; first | done | omega)) ?_ | refine wT (by first | omega | (simp only [W1, cond_true, cond_false]; first | done | omega)) ?_ | refine wF (by intro _h; first | omega | (simp only [W1, cond_true, cond_false] at _h; first | done | omega)) ?_ | (refine wS ?_ ?_ <;> intro _h <;> simp only [W1, cond_true, cond_false] at _h))
    all_goals simp only [W1, W2, owesN, owesX, owesR, cond_true, cond_false]
    repeat' (first | apply And.intro | intro _hc)
    all_goals first | exact AV.le_refl _ | exact AV.le_any _ | exact OLe.refl _ | exact OLe.none _ | exact LeH.refl _ | exact LeL.refl _ | exact AV.le.bs _ | exact AV.le.sb _ | omega | contradiction
  cases hg : grL y.l with
  | true =>
    refine .mk' (T := [z44', kNewP, kGrL]) (ip := false) (L := Lno) (failOK fun _ _ _ => rfl) (Right.of (law11a y) ?_)
    repeat' (first | refine wC (by first | omega | (simp only [W1, cond_true, cond_false, i1, i2, grF_l, hg]; first | done | omega)) ?_ | refine wT (by first | omega | (simp only [W1, cond_true, cond_false, i1, i2, grF_l, hg]; first | done | omega)) ?_ | refine wF (by intro _h; first | omega | (simp only [W1, cond_true, cond_false, i1, i2, grF_l, hg] at _h; first | done | omega)) ?_ | (refine wS ?_ ?_ <;> intro _h <;> simp only [W1, cond_true, cond_false, i1, i2, grF_l, hg] at _h))
    all_goals simp only [W1, W2, owesN, owesX, owesR, cond_true, cond_false, i1, i2, grF_l, hg]
    repeat' (first | apply And.intro | intro _hc)
    all_goals first | exact AV.le_refl _ | exact AV.le_any _ | exact OLe.refl _ | exact OLe.none _ | exact LeH.refl _ | exact LeL.refl _ | exact AV.le.bs _ | exact AV.le.sb _ | omega | contradiction
  | false =>
    cases hg2 : grL y.w with
    | true =>
      refine .mk' (T := [z44', kNewP, kGrL]) (ip := false) (L := Lno) (failOK fun _ _ _ => rfl) (Right.of (law11a y) ?_)
      repeat' (first | refine wC (by first | omega | (simp only [W1, cond_true, cond_false, i1, i2, grF_l, hg, hg2]; first | done | omega)) ?_ | refine wT (by first | omega | (simp only [W1, cond_true, cond_false, i1, i2, grF_l, hg, hg2]; first | done | omega)) ?_ | refine wF (by intro _h; first | omega | (simp only [W1, cond_true, cond_false, i1, i2, grF_l, hg, hg2] at _h; first | done | omega)) ?_ | (refine wS ?_ ?_ <;> intro _h <;> simp only [W1, cond_true, cond_false, i1, i2, grF_l, hg, hg2] at _h))
      all_goals simp only [W1, W2, owesN, owesX, owesR, cond_true, cond_false, i1, i2, grF_l, hg, hg2]
      repeat' (first | apply And.intro | intro _hc)
      all_goals first | exact AV.le_refl _ | exact AV.le_any _ | exact OLe.refl _ | exact OLe.none _ | exact LeH.refl _ | exact LeL.refl _ | exact AV.le.bs _ | exact AV.le.sb _ | omega | contradiction
    | false =>
      obtain ⟨hl, hsm⟩ := gr_small hg
      obtain ⟨hw, _⟩ := gr_small hg2
      obtain ⟨a1, a2⟩ := adds_len (mo := y.mo) (by omega) (l := y.l) (P := []) (by show ((0 : Nat) : Int) ≤ _; omega)
      have a2 : (addsP y.mo y.l []).length ≤ 0 + y.l.length := a2
      have l0 := loopA0 (y := y) hl hsm (res := addsP y.mo y.l []) ⟨0, []⟩ ⟨Nat.zero_le _, Nat.le_refl _, rfl⟩
      generalize addsP y.mo y.l [] = P at *
      have hB := ansBa (mo := y.mo) (P := P) (j := []) (w := y.w) (n := y.n) (by omega) (by omega)
      obtain ⟨b1, b2, b3, b4⟩ := bat_all y.w y.n P
      have bl : (batF y.w y.n P []).length ≤ 0 + P.length := bat_len
      generalize batF y.w y.n P [] = B at *
      have l1 := loopA1 (w := y.w) (n := y.n) (P := P) (B := B) (by omega) (by omega) (by omega) b1 b2 0 (Nat.zero_le _)
      have hN : OLe (some (.arr 7 0 fun _ => [AV.v (Value.int IntKind.i64 0), AV.v (Value.string ⟨#[]⟩), AV.v (Value.string ⟨#[]⟩), AV.v (Value.string ⟨#[]⟩), AV.v (Value.string ⟨#[]⟩), AV.v (Value.int IntKind.i64 0), AV.v (Value.int IntKind.i64 0)])) (some (txB' [])) := OLe.arr rfl (fun e he => absurd he (Nat.not_lt_zero e)) (fun _ => rfl)
      have hmx : (if (0 : Int) > y.n then (0 : Int) else y.n) = max y.n 0 := by split <;> omega
      by_cases hq : (B.length : Int) = max y.n 0
      · refine .mk' (T := [z44', kNewP, kGrL, CT.at 48 (ansAll (mo := y.mo) (l := P) (j := []) (by omega)), CT.at 49 hB, kLenP, CT.at 51 (ansSm (l := P) (j := []) (j' := []) (by omega))]) (ip := false) (L := LA11' y P B) ?_ (Right.of (law11q y P B (by omega) hB) ?_)
        · exact five (b0 := lp11 0) (b1 := lp11 1) (b2 := lp11 2) (b3 := lp11 3) (b4 := lp11 4) (by kernel_rfl) l0 l1 (fun _ _ _ h => by simp [LA11', Tree.get] at h) (fun _ _ _ h => by simp [LA11', Tree.get] at h) (fun _ _ _ h => by simp [LA11', Tree.get] at h)
        · repeat' (first | refine wC (by first | omega | (simp only [W1, cond_true, cond_false, i1, i2, grF_l, hg, hg2, List.append_nil, hmx]; first | done | omega)) ?_ | refine wT (by first | omega | (simp only [W1, cond_true, cond_false, i1, i2, grF_l, hg, hg2, List.append_nil, hmx]; first | done | omega)) ?_ | refine wF (by intro _h; first | omega | (simp only [W1, cond_true, cond_false, i1, i2, grF_l, hg, hg2, List.append_nil, hmx] at _h; first | done | omega)) ?_ | (refine wS ?_ ?_ <;> intro _h <;> simp only [W1, cond_true, cond_false, i1, i2, grF_l, hg, hg2, List.append_nil, hmx] at _h))
          all_goals simp only [W1, W2, owesN, owesX, owesR, cond_true, cond_false, i1, i2, grF_l, hg, hg2, List.append_nil, hmx]
          repeat' (first | apply And.intro | intro _hc)
          all_goals first | exact hN | exact AV.le_refl _ | exact AV.le_any _ | exact OLe.refl _ | exact OLe.none _ | exact LeH.refl _ | exact LeL.refl _ | exact AV.le.bs _ | exact AV.le.sb _ | omega | contradiction
      · have l3 := loopA3 (w := y.w) (P := P) (B := B) (by omega) (by omega) (by omega) (b4 (by omega)) 0 (Nat.zero_le _)
        refine .mk' (T := [z44', kNewP, kGrL, CT.at 48 (ansAll (mo := y.mo) (l := P) (j := []) (by omega)), CT.at 49 hB, kLenP, CT.at 51 (ansSm (l := P) (j := []) (j' := []) (by omega))]) (ip := false) (L := LA11 y P B) ?_ (Right.of (law11k y P B (by omega) hB) ?_)
        · exact five (b0 := lp11 0) (b1 := lp11 1) (b2 := lp11 2) (b3 := lp11 3) (b4 := lp11 4) (by kernel_rfl) l0 l1 (fun _ _ _ h => by simp [LA11, Tree.get] at h) l3 (fun _ _ _ h => by simp [LA11, Tree.get] at h)
        · repeat' (first | refine wC (by first | omega | (simp only [W1, cond_true, cond_false, i1, i2, grF_l, hg, hg2, List.append_nil, hmx]; first | done | omega)) ?_ | refine wT (by first | omega | (simp only [W1, cond_true, cond_false, i1, i2, grF_l, hg, hg2, List.append_nil, hmx]; first | done | omega)) ?_ | refine wF (by intro _h; first | omega | (simp only [W1, cond_true, cond_false, i1, i2, grF_l, hg, hg2, List.append_nil, hmx] at _h; first | done | omega)) ?_ | (refine wS ?_ ?_ <;> intro _h <;> simp only [W1, cond_true, cond_false, i1, i2, grF_l, hg, hg2, List.append_nil, hmx] at _h))
          all_goals simp only [W1, W2, owesN, owesX, owesR, cond_true, cond_false, i1, i2, grF_l, hg, hg2, List.append_nil, hmx]
          repeat' (first | apply And.intro | intro _hc)
          all_goals first | exact hN | exact AV.le_refl _ | exact AV.le_any _ | exact OLe.refl _ | exact OLe.none _ | exact LeH.refl _ | exact LeL.refl _ | exact AV.le.bs _ | exact AV.le.sb _ | omega | contradiction
noncomputable def c11L : CT Tryd.prog Γm := CT.lawE A11 (fun _ => True) 11 Tryd.f11 (bodyOf Tryd.f11) 174 [.tmp 8] Tryd.func11 (by kernel_rfl) (by kernel_rfl) (by kernel_rfl) (by kernel_rfl) (fun _ _ => by simp [A11]) (fun x _ => lawPB x)
end Go.Eng.TA

/- The tables that the rows name: what the rows' condition gives. -/
namespace Go.Proofs.YtmjbindplgpjjaaDoor
open Go Go.ChangeShapes Go.WideShapes Go.ChangeAt Go.WideMaps Go.WideElems Go.RowKit Go.Eng Go.Eng.TA
set_option linter.unusedSimpArgs false
set_option linter.unusedVariables false
theorem own : ownKnob Tryd.prog.godebug = none := by kernel_rfl
abbrev laidL : List (String × DataW Unit) := [("unicode/utf8.acceptRanges", Rows.laid_unicode_utf8_acceptRanges), ("unicode/utf8.first", Rows.laid_unicode_utf8_first)]
def ren8 : Go.Shelf.Ren := ⟨id, fun t => if t = 5 then 5 else if t = 119 then 192 else if t = 138 then 194 else 195, fun g => if g = 3 then 0 else 1⟩
theorem ren8T : U8Types Tryd.prog ren8 where
  t5 := Tryd.underlying5
  t119 := Tryd.underlying192
  t138 := Tryd.underlying194
  t139 := Tryd.underlying195
theorem ren8X : U8Extra Tryd.prog ren8 where
  n3 := by kernel_rfl
  n4 := by kernel_rfl
  y3 := by kernel_rfl
  y4 := by kernel_rfl
  c5 := by kernel_rfl
  c119 := by kernel_rfl
  c138 := by kernel_rfl
theorem data8 : Rows.laid_unicode_utf8_first = Lib.firstData ∧ (Rows.laid_unicode_utf8_acceptRanges : DataW Unit) = Lib.acceptData := ⟨by kernel_rfl, by kernel_rfl⟩
theorem globals_ok {W : World} (h : laidMetH Tryd.prog laidL W) : Globals Γm (σof W) := by
  rw [MakeChecks.laidMetH_plain _ _ _ (by kernel_rfl)] at h
  have h1 := Go.Lib.laidMet.reads h (n := "unicode/utf8.first") (d := Lib.firstData) (by rw [← data8.1]; exact List.mem_cons_of_mem _ (List.mem_cons_self ..))
  have h2 := Go.Lib.laidMet.reads h (n := "unicode/utf8.acceptRanges") (d := Lib.acceptData) (by rw [← data8.2]; exact List.mem_cons_self ..)
  have hT : Lib.Utf8Tabs 0 1 W := utf8Tabs_of_readsT ren8T ren8X h1 h2
  intro g
  unfold Γm
  split
  · rename_i hg
    obtain rfl := Nat.eq_of_beq_eq_true hg
    refine .pa 1 256 _ ⟨0, 0, none⟩ (fun e j => .int .u8 (Lib.firstT e : Int)) rfl (fun _ => rfl) (fun e j c he hc => ?_) (fun e j c he hc => ?_)
    · cases j with
      | zero => simpa using σof_of (hT.1 e he)
      | succ j => simp [fstF] at hc
    · cases j with
      | zero => simp [fstF] at hc; subst hc; exact .v _
      | succ j => simp [fstF] at hc
  · split
    · rename_i hg
      obtain rfl := Nat.eq_of_beq_eq_true hg
      refine .pa 2 16 _ ⟨1, 0, none⟩ (fun e j => .int .u8 (if j = 0 then (Lib.accLo e : Int) else (Lib.accHi e : Int))) rfl (fun _ => rfl) (fun e j c he hc => ?_) (fun e j c he hc => ?_)
      · match j with
        | 0 => simpa [Nat.mul_comm] using σof_of (hT.2 e he).1
        | 1 => simpa [Nat.mul_comm] using σof_of (hT.2 e he).2
        | j + 2 => simp [accF] at hc
      · match j with
        | 0 => simp [accF] at hc; subst hc; exact .v _
        | 1 => simp [accF] at hc; subst hc; exact .v _
        | j + 2 => simp [accF] at hc
    · exact .any _
end Go.Proofs.YtmjbindplgpjjaaDoor

/- PoolBatch holds at every input: the tables unicode/utf8.first and unicode/utf8.acceptRanges as the program lays them (tied). -/
namespace Go.Proofs.YtmjbindplgpjjaaDoor
open Go Go.ChangeShapes Go.WideShapes Go.ChangeAt Go.WideMaps Go.WideElems Go.RowKit Go.Eng Go.Eng.TA
set_option linter.unusedSimpArgs false
set_option linter.unusedVariables false

set_option maxRecDepth 100000 in
theorem poolBatch_lifted (os : Os) (started : os.Started) (H : Type) (enc : TypeId × Value → H) :
    ReturnsInHanded {} Tryd.checked os 11 .any (fun w args => (Rows.poolBatchSpec.pre enc Tryd.prog Tryd.f11 [] false w args ∧ laidMetH Tryd.prog laidL w) ∧ sizedMet enc Tryd.prog Tryd.f11 (OpenSpec.ofChange Rows.poolBatchSpec) false w args)
      (Rows.poolBatchSpec.post enc Tryd.prog Tryd.f11 false true false false) := by
  refine returnsInHanded_of_change_and (C := Tryd.checked) (X := fun w _ => laidMetH Tryd.prog laidL w) (fun _ _ _ hh h => h.of_heap hh) own started (by kernel_rfl) Tryd.func11
    (ChangeSpec.witness_shaped (enc := enc) (C := Tryd.checked) (os := os) (X := fun w _ => laidMetH Tryd.prog laidL w) false (World.laidAll Tryd.prog os laidL) #[.int .i64 1, .slice none 0 0, .slice none 0 0, .int .i64 1] 8 (World.laidAll_os _ _ _) (World.shaped_of_ZipB (by kernel_rfl) (by kernel_rfl)) (by kernel_rfl) (by kernel_rfl) (by kernel_rfl)
      (by rw [MakeChecks.laidMetH_plain _ _ _ (by kernel_rfl)]; exact laidMet_laidAll _ (by kernel_rfl) (by kernel_rfl))) ?_
  intro W base args ds gs before hval0 hW _ _ hL _
  have hval : ∀ (j : Nat) t v, Tryd.f11.params[j]? = some t → args[j]? = some v → Value.okWide Tryd.prog W .any base t v := hval0
  have hW' := hW
  obtain ⟨p, q, hA0, hV, rfl, hfz, hnd⟩ := hW
  have hA : DataW.TrodAll enc Tryd.prog W 0 (fun _ => true) true Tryd.f11.params.toList args.toList ds p := hA0
  rw [Tryd.params11] at hA hval
  obtain ⟨v0, v1, v2, v3, d0, d1, d2, d3, p0, p1, p2, p3, rfl, rfl, rfl, h0, h1, h2, h3⟩ := trodAll_four hA
  obtain ⟨rfl, rfl⟩ := trodVars_none hV
  obtain ⟨n0, rfl, rfl, rfl, w0⟩ := open_int Tryd.underlying3 (hval 0 3 v0 rfl rfl) h0
  obtain ⟨n1, s1, w1⟩ := open_slL 9 TA.Tx.cells TA.Tx.c (ks := [.int .i64, .str, .str, .str, .str, .int .i64, .int .i64]) (sz := 7) rfl (fun _ => rfl) (fun _ => rfl) TA.Tx.dec rfl Tryd.underlying62 (by kernel_rfl) (by kernel_rfl) (hval 1 62 v1 rfl rfl) h1
  obtain ⟨n2, s2, w2⟩ := open_slL 9 TA.Tx.cells TA.Tx.c (ks := [.int .i64, .str, .str, .str, .str, .int .i64, .int .i64]) (sz := 7) rfl (fun _ => rfl) (fun _ => rfl) TA.Tx.dec rfl Tryd.underlying62 (by kernel_rfl) (by kernel_rfl) (hval 2 62 v2 rfl rfl) h2
  obtain ⟨n3, rfl, rfl, rfl, w3⟩ := open_int Tryd.underlying3 (hval 3 3 v3 rfl rfl) h3
  refine (calls_true c11L (xs := [.v (.int .i64 n0), .sl 7 n1.length (lsF TA.Tx.c n1), .sl 7 n2.length (lsF TA.Tx.c n2), .v (.int .i64 n3)]) (law_in (A := A11) (pre := fun _ => True) (x := ⟨n0, n1, n2, n3⟩) trivial (.refl _)) (globals_ok hL) (.one (V_v _) (.one (.base s1) (.one (.base s2) (.one (V_v _) .none))))).mono fun e W' ⟨he, ho⟩ => ?_
  subst he
  exact ⟨_, rfl, post_true (tb := 4) (by kernel_rfl) (by kernel_rfl) (by kernel_rfl) (by kernel_rfl) (by kernel_rfl) Tryd.underlying4 hW' rfl rfl ho⟩

theorem poolBatch_holds : Rows.PoolBatchSaid :=
  OpenClaim.holds_of_wide 11 Tryd.f11 rfl rfl rfl rfl rfl rfl rfl ⟨rfl, rfl, rfl, rfl, rfl⟩ rfl rfl rfl rfl rfl (by kernel_rfl) Tryd.func11 (by kernel_rfl)
    (of_decide_eq_true (by kernel_rfl)) (by unfold Func.isWrapper; first | (rw [if_pos (by decide +kernel)]; kernel_rfl) | (rw [if_neg (by decide +kernel)]; exact ⟨rfl, rfl⟩))
    (fun os started H enc _ => poolBatch_lifted os started H enc)
theorem poolBatch_card : Rows.PoolBatchCardSaid :=
  Claim7.holds_tied_plain_at .later [] [.data, .pinned] true (true, "04bf13180d5c01f5cefcb13e3375edc3305cec317436f21bd83698835d5e56cf") false
    poolBatch_holds (fun _ h => by cases h) (by kernel_rfl) (fun _ h => by cases h) poolBatch_row_tie rfl ⟨rfl, rfl⟩ (by kernel_rfl) rfl
    (fun f fn hf hfn => by
      obtain rfl : f = 11 := Option.some.inj ((show Tryd.prog.funcNamed "hallmoot/hallmootlaw10.PoolBatch" = some 11 by kernel_rfl).symm.trans hf) |>.symm
      obtain rfl : fn = Tryd.f11 := (Option.some.inj (Tryd.func11.symm.trans hfn)).symm
      exact ⟨by kernel_rfl, fun j t ht => by
        rw [Tryd.params11] at ht
        have hm : t ∈ [3, 62, 62, 3] := by simpa using Array.mem_of_getElem? ht
        have hall : ([3, 62, 62, 3].all fun u => !Tryd.prog.wantsStandIn u) = true := by kernel_rfl
        exact (show Tryd.prog.wantsStandIn t = false by simpa using List.all_eq_true.1 hall t hm)⟩)
    (by kernel_rfl)
#print axioms poolBatch_card
end Go.Proofs.YtmjbindplgpjjaaDoor
