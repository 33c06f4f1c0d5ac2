/- NetPlays holds at every input: no condition beyond the row own cells. -/
import Derived.Test.YtdgmdjoaapdgbaaPart4
import Derived.Test.YtdgmdjoaapdgbaaRows
import Derived.ProofKit
import Derived.LaidMore
import Derived.OpenShut
import Derived.Stop.Joined
/- net: any calls: the rounds. -/
namespace Go.Eng.N
open Go Go.Eng Go.Proofs
set_option linter.unusedSimpArgs false
set_option linter.unusedVariables false
/-- a call -/
structure Act where
  k : Int
  i : Int
  x : It
instance : Inhabited Act := ⟨⟨0, 0, default⟩⟩
def Act.c (x : Act) : List AV := [.v (.int .i64 x.k), .v (.int .i64 x.i), .v (.int .i64 x.x.a), .v (.int .i64 x.x.b), .v (.string x.x.t)]
noncomputable abbrev lp4 : Code := loopOf (bodyOf Try.f4) 0
abbrev lv4 : List Nat := [1, 5, 7, 8, 4]
abbrev nl4 : List (Nat × TypeId) := [(301, 30), (302, 45)]
def S4 (mo lo : Int) (l j j' : List It) (acts : List Act) (i : Nat) : List AV × Heap := ([.sl 5 acts.length (lsF Act.c acts), .ptr 0 0, .ptr 2 0, .v (.int .i64 (i : Int)), .any], (H18 mo lo mo lo l j j').map some)
theorem r4long (mo lo : Int) (l j j' : List It) (acts : List Act) (i : Nat) : roundE (P := Try.prog) (Γ := Γn) [] Lno false 0 0 lp4 lv4 nl4 154 (S4 mo lo l j j' acts i).1 (S4 mo lo l j j' acts i).2 =
  Tree.br (decide ((↑i : Int) < (↑(List.length acts) : Int)))
  (Tree.chk (decide ((0 : Int) ≤ (↑i : Int)) && decide ((↑i : Int) < (↑(List.length acts) : Int)))
    (Tree.br (decide ((70000 : Int) < (↑(ByteArray.size (List.getD acts i default).x.t) : Int)))
      (Tree.leaf
        (Out.mk AEx.ret
          [AV.sl (5 : Nat) (List.length acts) (lsF Act.c acts), AV.ptr (0 : Nat) (0 : Nat), AV.ptr (2 : Nat) (0 : Nat),
            AV.v (Value.int IntKind.i64 (↑i : Int)), AV.v (Value.bool true)]
          [some
              (Blk.row
                [AV.v (Value.int IntKind.i64 mo), AV.v (Value.int IntKind.i64 lo),
                  AV.hs (1 : Nat) (0 : Nat) (List.length l)]),
            some (Blk.arr (3 : Nat) (List.length (l ++ j)) (lsF It.c (l ++ j))),
            some
              (Blk.row
                [AV.v (Value.int IntKind.i64 mo), AV.v (Value.int IntKind.i64 lo),
                  AV.hs (3 : Nat) (0 : Nat) (List.length l)]),
            some (Blk.arr (3 : Nat) (List.length (l ++ j')) (lsF It.c (l ++ j')))]))
      (Tree.br (decide ((List.getD acts i default).k = (0 : Int))) Tree.fail
        (Tree.br (decide ((List.getD acts i default).k = (1 : Int))) Tree.fail
          (Tree.br (decide ((List.getD acts i default).k = (2 : Int))) Tree.fail
            (Tree.br (decide ((List.getD acts i default).k = (3 : Int))) Tree.fail
              (Tree.br false
                (Tree.leaf
                  (Out.mk AEx.ret
                    [AV.sl (5 : Nat) (List.length acts) (lsF Act.c acts), AV.ptr (0 : Nat) (0 : Nat),
                      AV.ptr (2 : Nat) (0 : Nat), AV.v (Value.int IntKind.i64 (↑i : Int)), AV.v (Value.bool false)]
                    [some
                        (Blk.row
                          [AV.v (Value.int IntKind.i64 mo), AV.v (Value.int IntKind.i64 lo),
                            AV.hs (1 : Nat) (0 : Nat) (List.length l)]),
                      some (Blk.arr (3 : Nat) (List.length (l ++ j)) (lsF It.c (l ++ j))),
                      some
                        (Blk.row
                          [AV.v (Value.int IntKind.i64 mo), AV.v (Value.int IntKind.i64 lo),
                            AV.hs (3 : Nat) (0 : Nat) (List.length l)]),
                      some (Blk.arr (3 : Nat) (List.length (l ++ j')) (lsF It.c (l ++ j')))]))
                Tree.fail)))))))
  (Tree.leaf
    (Out.mk (AEx.exit (0 : Nat))
      [AV.sl (5 : Nat) (List.length acts) (lsF Act.c acts), AV.ptr (0 : Nat) (0 : Nat), AV.ptr (2 : Nat) (0 : Nat),
        AV.v (Value.int IntKind.i64 (↑i : Int)), AV.any]
      [some
          (Blk.row
            [AV.v (Value.int IntKind.i64 mo), AV.v (Value.int IntKind.i64 lo),
              AV.hs (1 : Nat) (0 : Nat) (List.length l)]),
        some (Blk.arr (3 : Nat) (List.length (l ++ j)) (lsF It.c (l ++ j))),
        some
          (Blk.row
            [AV.v (Value.int IntKind.i64 mo), AV.v (Value.int IntKind.i64 lo),
              AV.hs (3 : Nat) (0 : Nat) (List.length l)]),
        some (Blk.arr (3 : Nat) (List.length (l ++ j')) (lsF It.c (l ++ j')))])) := by kernel_rfl
theorem r4sendLong (mo lo : Int) (l j j' : List It) (acts : List Act) (i : Nat) (h : 65536 < (acts.getD i default).x.t.size) (hs : l.length ≤ 100000000) : roundE (P := Try.prog) (Γ := Γn) [CT.at 9 (ansSendLong (mo := mo) (lo := lo) (l := l) (junk := j) h), CT.at 13 (ansSendRLong (mo := mo) (lo := lo) (l := l) (junk := j') h), CT.at 18 (ansShows (mo := mo) (mo' := mo) (lo := lo) (l := l) (j := j) (j' := j') hs)] Lno false 0 0 lp4 lv4 nl4 154 (S4 mo lo l j j' acts i).1 (S4 mo lo l j j' acts i).2 =
  Tree.br (decide ((↑i : Int) < (↑(List.length acts) : Int)))
  (Tree.chk (decide ((0 : Int) ≤ (↑i : Int)) && decide ((↑i : Int) < (↑(List.length acts) : Int)))
    (Tree.br (decide ((70000 : Int) < (↑(ByteArray.size (List.getD acts i default).x.t) : Int)))
      (Tree.leaf
        (Out.mk AEx.ret
          [AV.sl (5 : Nat) (List.length acts) (lsF Act.c acts), AV.ptr (0 : Nat) (0 : Nat), AV.ptr (2 : Nat) (0 : Nat),
            AV.v (Value.int IntKind.i64 (↑i : Int)), AV.v (Value.bool true)]
          [some
              (Blk.row
                [AV.v (Value.int IntKind.i64 mo), AV.v (Value.int IntKind.i64 lo),
                  AV.hs (1 : Nat) (0 : Nat) (List.length l)]),
            some (Blk.arr (3 : Nat) (List.length (l ++ j)) (lsF It.c (l ++ j))),
            some
              (Blk.row
                [AV.v (Value.int IntKind.i64 mo), AV.v (Value.int IntKind.i64 lo),
                  AV.hs (3 : Nat) (0 : Nat) (List.length l)]),
            some (Blk.arr (3 : Nat) (List.length (l ++ j')) (lsF It.c (l ++ j')))]))
      (Tree.br (decide ((List.getD acts i default).k = (0 : Int)))
        (Tree.chk
          (cl
            (LeL
                [AV.ptr (0 : Nat) (0 : Nat),
                  AV.agg
                    [AV.v (Value.int IntKind.i64 (List.getD acts i default).x.a),
                      AV.v (Value.int IntKind.i64 (List.getD acts i default).x.b),
                      AV.v (Value.string (List.getD acts i default).x.t)]]
                [AV.ptr (0 : Nat) (0 : Nat),
                  AV.agg
                    [AV.v (Value.int IntKind.i64 (List.getD acts i default).x.a),
                      AV.v (Value.int IntKind.i64 (List.getD acts i default).x.b),
                      AV.v (Value.string (List.getD acts i default).x.t)]] ∧
              LeH
                [some
                    (Blk.row
                      [AV.v (Value.int IntKind.i64 mo), AV.v (Value.int IntKind.i64 lo),
                        AV.hs (1 : Nat) (0 : Nat) (List.length l)]),
                  some (Blk.arr (3 : Nat) (List.length (l ++ j)) (lsF It.c (l ++ j)))]
                [some
                    (Blk.row
                      [AV.v (Value.int IntKind.i64 mo), AV.v (Value.int IntKind.i64 lo),
                        AV.hs (1 : Nat) (0 : Nat) (List.length l)]),
                  some (Blk.arr (3 : Nat) (List.length (l ++ j)) (lsF It.c (l ++ j)))]))
          (Tree.chk
            (cl
              (LeL
                  [AV.ptr (0 : Nat) (0 : Nat),
                    AV.agg
                      [AV.v (Value.int IntKind.i64 (List.getD acts i default).x.a),
                        AV.v (Value.int IntKind.i64 (List.getD acts i default).x.b),
                        AV.v (Value.string (List.getD acts i default).x.t)]]
                  [AV.ptr (0 : Nat) (0 : Nat),
                    AV.agg
                      [AV.v (Value.int IntKind.i64 (List.getD acts i default).x.a),
                        AV.v (Value.int IntKind.i64 (List.getD acts i default).x.b),
                        AV.v (Value.string (List.getD acts i default).x.t)]] ∧
                LeH
                  [some
                      (Blk.row
                        [AV.v (Value.int IntKind.i64 mo), AV.v (Value.int IntKind.i64 lo),
                          AV.hs (1 : Nat) (0 : Nat) (List.length l)]),
                    some (Blk.arr (3 : Nat) (List.length (l ++ j')) (lsF It.c (l ++ j')))]
                  [some
                      (Blk.row
                        [AV.v (Value.int IntKind.i64 mo), AV.v (Value.int IntKind.i64 lo),
                          AV.hs (1 : Nat) (0 : Nat) (List.length l)]),
                    some (Blk.arr (3 : Nat) (List.length (l ++ j')) (lsF It.c (l ++ j')))]))
            (Tree.br false
              (Tree.leaf
                (Out.mk AEx.ret
                  [AV.sl (5 : Nat) (List.length acts) (lsF Act.c acts), AV.ptr (0 : Nat) (0 : Nat),
                    AV.ptr (2 : Nat) (0 : Nat), AV.v (Value.int IntKind.i64 (↑i : Int)), AV.v (Value.bool false)]
                  [some
                      (Blk.row
                        [AV.v (Value.int IntKind.i64 mo), AV.v (Value.int IntKind.i64 lo),
                          AV.hs (1 : Nat) (0 : Nat) (List.length l)]),
                    some (Blk.arr (3 : Nat) (List.length (l ++ j)) (lsF It.c (l ++ j))),
                    some
                      (Blk.row
                        [AV.v (Value.int IntKind.i64 mo), AV.v (Value.int IntKind.i64 lo),
                          AV.hs (3 : Nat) (0 : Nat) (List.length l)]),
                    some (Blk.arr (3 : Nat) (List.length (l ++ j')) (lsF It.c (l ++ j')))]))
              (Tree.chk
                (cl
                  (LeL [AV.ptr (0 : Nat) (0 : Nat), AV.ptr (2 : Nat) (0 : Nat)]
                      [AV.ptr (0 : Nat) (0 : Nat), AV.ptr (2 : Nat) (0 : Nat)] ∧
                    LeH
                      [some
                          (Blk.row
                            [AV.v (Value.int IntKind.i64 mo), AV.v (Value.int IntKind.i64 lo),
                              AV.hs (1 : Nat) (0 : Nat) (List.length l)]),
                        some (Blk.arr (3 : Nat) (List.length (l ++ j)) (lsF It.c (l ++ j))),
                        some
                          (Blk.row
                            [AV.v (Value.int IntKind.i64 mo), AV.v (Value.int IntKind.i64 lo),
                              AV.hs (3 : Nat) (0 : Nat) (List.length l)]),
                        some (Blk.arr (3 : Nat) (List.length (l ++ j')) (lsF It.c (l ++ j')))]
                      [some
                          (Blk.row
                            [AV.v (Value.int IntKind.i64 mo), AV.v (Value.int IntKind.i64 lo),
                              AV.hs (1 : Nat) (0 : Nat) (List.length l)]),
                        some (Blk.arr (3 : Nat) (List.length (l ++ j)) (lsF It.c (l ++ j))),
                        some
                          (Blk.row
                            [AV.v (Value.int IntKind.i64 mo), AV.v (Value.int IntKind.i64 lo),
                              AV.hs (3 : Nat) (0 : Nat) (List.length l)]),
                        some (Blk.arr (3 : Nat) (List.length (l ++ j')) (lsF It.c (l ++ j')))]))
                (Tree.br false
                  (Tree.leaf
                    (Out.mk AEx.ret
                      [AV.sl (5 : Nat) (List.length acts) (lsF Act.c acts), AV.ptr (0 : Nat) (0 : Nat),
                        AV.ptr (2 : Nat) (0 : Nat), AV.v (Value.int IntKind.i64 (↑i : Int)), AV.v (Value.bool false)]
                      [some
                          (Blk.row
                            [AV.v (Value.int IntKind.i64 mo), AV.v (Value.int IntKind.i64 lo),
                              AV.hs (1 : Nat) (0 : Nat) (List.length l)]),
                        some (Blk.arr (3 : Nat) (List.length (l ++ j)) (lsF It.c (l ++ j))),
                        some
                          (Blk.row
                            [AV.v (Value.int IntKind.i64 mo), AV.v (Value.int IntKind.i64 lo),
                              AV.hs (3 : Nat) (0 : Nat) (List.length l)]),
                        some (Blk.arr (3 : Nat) (List.length (l ++ j')) (lsF It.c (l ++ j')))]))
                  (Tree.leaf
                    (Out.mk AEx.normal
                      [AV.sl (5 : Nat) (List.length acts) (lsF Act.c acts), AV.ptr (0 : Nat) (0 : Nat),
                        AV.ptr (2 : Nat) (0 : Nat),
                        AV.v (Value.int IntKind.i64 (IntKind.wrap IntKind.i64 ((↑i : Int) + (1 : Int)))), AV.any]
                      [some
                          (Blk.row
                            [AV.v (Value.int IntKind.i64 mo), AV.v (Value.int IntKind.i64 lo),
                              AV.hs (1 : Nat) (0 : Nat) (List.length l)]),
                        some (Blk.arr (3 : Nat) (List.length (l ++ j)) (lsF It.c (l ++ j))),
                        some
                          (Blk.row
                            [AV.v (Value.int IntKind.i64 mo), AV.v (Value.int IntKind.i64 lo),
                              AV.hs (3 : Nat) (0 : Nat) (List.length l)]),
                        some (Blk.arr (3 : Nat) (List.length (l ++ j')) (lsF It.c (l ++ j')))])))))))
        (Tree.br (decide ((List.getD acts i default).k = (1 : Int))) Tree.fail
          (Tree.br (decide ((List.getD acts i default).k = (2 : Int))) Tree.fail
            (Tree.br (decide ((List.getD acts i default).k = (3 : Int))) Tree.fail
              (Tree.br false
                (Tree.leaf
                  (Out.mk AEx.ret
                    [AV.sl (5 : Nat) (List.length acts) (lsF Act.c acts), AV.ptr (0 : Nat) (0 : Nat),
                      AV.ptr (2 : Nat) (0 : Nat), AV.v (Value.int IntKind.i64 (↑i : Int)), AV.v (Value.bool false)]
                    [some
                        (Blk.row
                          [AV.v (Value.int IntKind.i64 mo), AV.v (Value.int IntKind.i64 lo),
                            AV.hs (1 : Nat) (0 : Nat) (List.length l)]),
                      some (Blk.arr (3 : Nat) (List.length (l ++ j)) (lsF It.c (l ++ j))),
                      some
                        (Blk.row
                          [AV.v (Value.int IntKind.i64 mo), AV.v (Value.int IntKind.i64 lo),
                            AV.hs (3 : Nat) (0 : Nat) (List.length l)]),
                      some (Blk.arr (3 : Nat) (List.length (l ++ j')) (lsF It.c (l ++ j')))]))
                (Tree.chk
                  (cl
                    (LeL [AV.ptr (0 : Nat) (0 : Nat), AV.ptr (2 : Nat) (0 : Nat)]
                        [AV.ptr (0 : Nat) (0 : Nat), AV.ptr (2 : Nat) (0 : Nat)] ∧
                      LeH
                        [some
                            (Blk.row
                              [AV.v (Value.int IntKind.i64 mo), AV.v (Value.int IntKind.i64 lo),
                                AV.hs (1 : Nat) (0 : Nat) (List.length l)]),
                          some (Blk.arr (3 : Nat) (List.length (l ++ j)) (lsF It.c (l ++ j))),
                          some
                            (Blk.row
                              [AV.v (Value.int IntKind.i64 mo), AV.v (Value.int IntKind.i64 lo),
                                AV.hs (3 : Nat) (0 : Nat) (List.length l)]),
                          some (Blk.arr (3 : Nat) (List.length (l ++ j')) (lsF It.c (l ++ j')))]
                        [some
                            (Blk.row
                              [AV.v (Value.int IntKind.i64 mo), AV.v (Value.int IntKind.i64 lo),
                                AV.hs (1 : Nat) (0 : Nat) (List.length l)]),
                          some (Blk.arr (3 : Nat) (List.length (l ++ j)) (lsF It.c (l ++ j))),
                          some
                            (Blk.row
                              [AV.v (Value.int IntKind.i64 mo), AV.v (Value.int IntKind.i64 lo),
                                AV.hs (3 : Nat) (0 : Nat) (List.length l)]),
                          some (Blk.arr (3 : Nat) (List.length (l ++ j')) (lsF It.c (l ++ j')))]))
                  (Tree.br false
                    (Tree.leaf
                      (Out.mk AEx.ret
                        [AV.sl (5 : Nat) (List.length acts) (lsF Act.c acts), AV.ptr (0 : Nat) (0 : Nat),
                          AV.ptr (2 : Nat) (0 : Nat), AV.v (Value.int IntKind.i64 (↑i : Int)), AV.v (Value.bool false)]
                        [some
                            (Blk.row
                              [AV.v (Value.int IntKind.i64 mo), AV.v (Value.int IntKind.i64 lo),
                                AV.hs (1 : Nat) (0 : Nat) (List.length l)]),
                          some (Blk.arr (3 : Nat) (List.length (l ++ j)) (lsF It.c (l ++ j))),
                          some
                            (Blk.row
                              [AV.v (Value.int IntKind.i64 mo), AV.v (Value.int IntKind.i64 lo),
                                AV.hs (3 : Nat) (0 : Nat) (List.length l)]),
                          some (Blk.arr (3 : Nat) (List.length (l ++ j')) (lsF It.c (l ++ j')))]))
                    (Tree.leaf
                      (Out.mk AEx.normal
                        [AV.sl (5 : Nat) (List.length acts) (lsF Act.c acts), AV.ptr (0 : Nat) (0 : Nat),
                          AV.ptr (2 : Nat) (0 : Nat),
                          AV.v (Value.int IntKind.i64 (IntKind.wrap IntKind.i64 ((↑i : Int) + (1 : Int)))), AV.any]
                        [some
                            (Blk.row
                              [AV.v (Value.int IntKind.i64 mo), AV.v (Value.int IntKind.i64 lo),
                                AV.hs (1 : Nat) (0 : Nat) (List.length l)]),
                          some (Blk.arr (3 : Nat) (List.length (l ++ j)) (lsF It.c (l ++ j))),
                          some
                            (Blk.row
                              [AV.v (Value.int IntKind.i64 mo), AV.v (Value.int IntKind.i64 lo),
                                AV.hs (3 : Nat) (0 : Nat) (List.length l)]),
                          some (Blk.arr (3 : Nat) (List.length (l ++ j')) (lsF It.c (l ++ j')))])))))))))))
  (Tree.leaf
    (Out.mk (AEx.exit (0 : Nat))
      [AV.sl (5 : Nat) (List.length acts) (lsF Act.c acts), AV.ptr (0 : Nat) (0 : Nat), AV.ptr (2 : Nat) (0 : Nat),
        AV.v (Value.int IntKind.i64 (↑i : Int)), AV.any]
      [some
          (Blk.row
            [AV.v (Value.int IntKind.i64 mo), AV.v (Value.int IntKind.i64 lo),
              AV.hs (1 : Nat) (0 : Nat) (List.length l)]),
        some (Blk.arr (3 : Nat) (List.length (l ++ j)) (lsF It.c (l ++ j))),
        some
          (Blk.row
            [AV.v (Value.int IntKind.i64 mo), AV.v (Value.int IntKind.i64 lo),
              AV.hs (3 : Nat) (0 : Nat) (List.length l)]),
        some (Blk.arr (3 : Nat) (List.length (l ++ j')) (lsF It.c (l ++ j')))])) := by kernel_rfl
theorem r4sendFull (mo lo : Int) (l j j' : List It) (acts : List Act) (i : Nat) (h : (acts.getD i default).x.t.size ≤ 65536) (h2 : (l.length : Int) = mo) (h0 : 0 ≤ lo) (h1 : lo ≤ 1000000000) (hs : l.length ≤ 100000000) : roundE (P := Try.prog) (Γ := Γn) [CT.at 9 (ansSendFull (mo := mo) (lo := lo) (l := l) (junk := j) h h2 h0 h1), CT.at 13 (ansSendRFull (mo := mo) (lo := lo) (l := l) (junk := j') h (Int.le_of_eq h2.symm) h0 h1), CT.at 18 (ansShows (mo := mo) (mo' := mo) (lo := lo + 1) (l := l) (j := j) (j' := j') hs)] Lno false 0 0 lp4 lv4 nl4 154 (S4 mo lo l j j' acts i).1 (S4 mo lo l j j' acts i).2 =
  Tree.br (decide ((↑i : Int) < (↑(List.length acts) : Int)))
  (Tree.chk (decide ((0 : Int) ≤ (↑i : Int)) && decide ((↑i : Int) < (↑(List.length acts) : Int)))
    (Tree.br (decide ((70000 : Int) < (↑(ByteArray.size (List.getD acts i default).x.t) : Int)))
      (Tree.leaf
        (Out.mk AEx.ret
          [AV.sl (5 : Nat) (List.length acts) (lsF Act.c acts), AV.ptr (0 : Nat) (0 : Nat), AV.ptr (2 : Nat) (0 : Nat),
            AV.v (Value.int IntKind.i64 (↑i : Int)), AV.v (Value.bool true)]
          [some
              (Blk.row
                [AV.v (Value.int IntKind.i64 mo), AV.v (Value.int IntKind.i64 lo),
                  AV.hs (1 : Nat) (0 : Nat) (List.length l)]),
            some (Blk.arr (3 : Nat) (List.length (l ++ j)) (lsF It.c (l ++ j))),
            some
              (Blk.row
                [AV.v (Value.int IntKind.i64 mo), AV.v (Value.int IntKind.i64 lo),
                  AV.hs (3 : Nat) (0 : Nat) (List.length l)]),
            some (Blk.arr (3 : Nat) (List.length (l ++ j')) (lsF It.c (l ++ j')))]))
      (Tree.br (decide ((List.getD acts i default).k = (0 : Int)))
        (Tree.chk
          (cl
            (LeL
                [AV.ptr (0 : Nat) (0 : Nat),
                  AV.agg
                    [AV.v (Value.int IntKind.i64 (List.getD acts i default).x.a),
                      AV.v (Value.int IntKind.i64 (List.getD acts i default).x.b),
                      AV.v (Value.string (List.getD acts i default).x.t)]]
                [AV.ptr (0 : Nat) (0 : Nat),
                  AV.agg
                    [AV.v (Value.int IntKind.i64 (List.getD acts i default).x.a),
                      AV.v (Value.int IntKind.i64 (List.getD acts i default).x.b),
                      AV.v (Value.string (List.getD acts i default).x.t)]] ∧
              LeH
                [some
                    (Blk.row
                      [AV.v (Value.int IntKind.i64 mo), AV.v (Value.int IntKind.i64 lo),
                        AV.hs (1 : Nat) (0 : Nat) (List.length l)]),
                  some (Blk.arr (3 : Nat) (List.length (l ++ j)) (lsF It.c (l ++ j)))]
                [some
                    (Blk.row
                      [AV.v (Value.int IntKind.i64 mo), AV.v (Value.int IntKind.i64 lo),
                        AV.hs (1 : Nat) (0 : Nat) (List.length l)]),
                  some (Blk.arr (3 : Nat) (List.length (l ++ j)) (lsF It.c (l ++ j)))]))
          (Tree.chk
            (cl
              (LeL
                  [AV.ptr (0 : Nat) (0 : Nat),
                    AV.agg
                      [AV.v (Value.int IntKind.i64 (List.getD acts i default).x.a),
                        AV.v (Value.int IntKind.i64 (List.getD acts i default).x.b),
                        AV.v (Value.string (List.getD acts i default).x.t)]]
                  [AV.ptr (0 : Nat) (0 : Nat),
                    AV.agg
                      [AV.v (Value.int IntKind.i64 (List.getD acts i default).x.a),
                        AV.v (Value.int IntKind.i64 (List.getD acts i default).x.b),
                        AV.v (Value.string (List.getD acts i default).x.t)]] ∧
                LeH
                  [some
                      (Blk.row
                        [AV.v (Value.int IntKind.i64 mo), AV.v (Value.int IntKind.i64 lo),
                          AV.hs (1 : Nat) (0 : Nat) (List.length l)]),
                    some (Blk.arr (3 : Nat) (List.length (l ++ j')) (lsF It.c (l ++ j')))]
                  [some
                      (Blk.row
                        [AV.v (Value.int IntKind.i64 mo), AV.v (Value.int IntKind.i64 lo),
                          AV.hs (1 : Nat) (0 : Nat) (List.length l)]),
                    some (Blk.arr (3 : Nat) (List.length (l ++ j')) (lsF It.c (l ++ j')))]))
            (Tree.br false
              (Tree.leaf
                (Out.mk AEx.ret
                  [AV.sl (5 : Nat) (List.length acts) (lsF Act.c acts), AV.ptr (0 : Nat) (0 : Nat),
                    AV.ptr (2 : Nat) (0 : Nat), AV.v (Value.int IntKind.i64 (↑i : Int)), AV.v (Value.bool false)]
                  [some
                      (Blk.row
                        [AV.v (Value.int IntKind.i64 mo), AV.v (Value.int IntKind.i64 (lo + (1 : Int))),
                          AV.hs (1 : Nat) (0 : Nat) (List.length l)]),
                    some (Blk.arr (3 : Nat) (List.length (l ++ j)) (lsF It.c (l ++ j))),
                    some
                      (Blk.row
                        [AV.v (Value.int IntKind.i64 mo), AV.v (Value.int IntKind.i64 (lo + (1 : Int))),
                          AV.hs (3 : Nat) (0 : Nat) (List.length l)]),
                    some (Blk.arr (3 : Nat) (List.length (l ++ j')) (lsF It.c (l ++ j')))]))
              (Tree.chk
                (cl
                  (LeL [AV.ptr (0 : Nat) (0 : Nat), AV.ptr (2 : Nat) (0 : Nat)]
                      [AV.ptr (0 : Nat) (0 : Nat), AV.ptr (2 : Nat) (0 : Nat)] ∧
                    LeH
                      [some
                          (Blk.row
                            [AV.v (Value.int IntKind.i64 mo), AV.v (Value.int IntKind.i64 (lo + (1 : Int))),
                              AV.hs (1 : Nat) (0 : Nat) (List.length l)]),
                        some (Blk.arr (3 : Nat) (List.length (l ++ j)) (lsF It.c (l ++ j))),
                        some
                          (Blk.row
                            [AV.v (Value.int IntKind.i64 mo), AV.v (Value.int IntKind.i64 (lo + (1 : Int))),
                              AV.hs (3 : Nat) (0 : Nat) (List.length l)]),
                        some (Blk.arr (3 : Nat) (List.length (l ++ j')) (lsF It.c (l ++ j')))]
                      [some
                          (Blk.row
                            [AV.v (Value.int IntKind.i64 mo), AV.v (Value.int IntKind.i64 (lo + (1 : Int))),
                              AV.hs (1 : Nat) (0 : Nat) (List.length l)]),
                        some (Blk.arr (3 : Nat) (List.length (l ++ j)) (lsF It.c (l ++ j))),
                        some
                          (Blk.row
                            [AV.v (Value.int IntKind.i64 mo), AV.v (Value.int IntKind.i64 (lo + (1 : Int))),
                              AV.hs (3 : Nat) (0 : Nat) (List.length l)]),
                        some (Blk.arr (3 : Nat) (List.length (l ++ j')) (lsF It.c (l ++ j')))]))
                (Tree.br false
                  (Tree.leaf
                    (Out.mk AEx.ret
                      [AV.sl (5 : Nat) (List.length acts) (lsF Act.c acts), AV.ptr (0 : Nat) (0 : Nat),
                        AV.ptr (2 : Nat) (0 : Nat), AV.v (Value.int IntKind.i64 (↑i : Int)), AV.v (Value.bool false)]
                      [some
                          (Blk.row
                            [AV.v (Value.int IntKind.i64 mo), AV.v (Value.int IntKind.i64 (lo + (1 : Int))),
                              AV.hs (1 : Nat) (0 : Nat) (List.length l)]),
                        some (Blk.arr (3 : Nat) (List.length (l ++ j)) (lsF It.c (l ++ j))),
                        some
                          (Blk.row
                            [AV.v (Value.int IntKind.i64 mo), AV.v (Value.int IntKind.i64 (lo + (1 : Int))),
                              AV.hs (3 : Nat) (0 : Nat) (List.length l)]),
                        some (Blk.arr (3 : Nat) (List.length (l ++ j')) (lsF It.c (l ++ j')))]))
                  (Tree.leaf
                    (Out.mk AEx.normal
                      [AV.sl (5 : Nat) (List.length acts) (lsF Act.c acts), AV.ptr (0 : Nat) (0 : Nat),
                        AV.ptr (2 : Nat) (0 : Nat),
                        AV.v (Value.int IntKind.i64 (IntKind.wrap IntKind.i64 ((↑i : Int) + (1 : Int)))), AV.any]
                      [some
                          (Blk.row
                            [AV.v (Value.int IntKind.i64 mo), AV.v (Value.int IntKind.i64 (lo + (1 : Int))),
                              AV.hs (1 : Nat) (0 : Nat) (List.length l)]),
                        some (Blk.arr (3 : Nat) (List.length (l ++ j)) (lsF It.c (l ++ j))),
                        some
                          (Blk.row
                            [AV.v (Value.int IntKind.i64 mo), AV.v (Value.int IntKind.i64 (lo + (1 : Int))),
                              AV.hs (3 : Nat) (0 : Nat) (List.length l)]),
                        some (Blk.arr (3 : Nat) (List.length (l ++ j')) (lsF It.c (l ++ j')))])))))))
        (Tree.br (decide ((List.getD acts i default).k = (1 : Int))) Tree.fail
          (Tree.br (decide ((List.getD acts i default).k = (2 : Int))) Tree.fail
            (Tree.br (decide ((List.getD acts i default).k = (3 : Int))) Tree.fail
              (Tree.br false
                (Tree.leaf
                  (Out.mk AEx.ret
                    [AV.sl (5 : Nat) (List.length acts) (lsF Act.c acts), AV.ptr (0 : Nat) (0 : Nat),
                      AV.ptr (2 : Nat) (0 : Nat), AV.v (Value.int IntKind.i64 (↑i : Int)), AV.v (Value.bool false)]
                    [some
                        (Blk.row
                          [AV.v (Value.int IntKind.i64 mo), AV.v (Value.int IntKind.i64 lo),
                            AV.hs (1 : Nat) (0 : Nat) (List.length l)]),
                      some (Blk.arr (3 : Nat) (List.length (l ++ j)) (lsF It.c (l ++ j))),
                      some
                        (Blk.row
                          [AV.v (Value.int IntKind.i64 mo), AV.v (Value.int IntKind.i64 lo),
                            AV.hs (3 : Nat) (0 : Nat) (List.length l)]),
                      some (Blk.arr (3 : Nat) (List.length (l ++ j')) (lsF It.c (l ++ j')))]))
                (Tree.chk
                  (cl
                    (LeL [AV.ptr (0 : Nat) (0 : Nat), AV.ptr (2 : Nat) (0 : Nat)]
                        [AV.ptr (0 : Nat) (0 : Nat), AV.ptr (2 : Nat) (0 : Nat)] ∧
                      LeH
                        [some
                            (Blk.row
                              [AV.v (Value.int IntKind.i64 mo), AV.v (Value.int IntKind.i64 lo),
                                AV.hs (1 : Nat) (0 : Nat) (List.length l)]),
                          some (Blk.arr (3 : Nat) (List.length (l ++ j)) (lsF It.c (l ++ j))),
                          some
                            (Blk.row
                              [AV.v (Value.int IntKind.i64 mo), AV.v (Value.int IntKind.i64 lo),
                                AV.hs (3 : Nat) (0 : Nat) (List.length l)]),
                          some (Blk.arr (3 : Nat) (List.length (l ++ j')) (lsF It.c (l ++ j')))]
                        [some
                            (Blk.row
                              [AV.v (Value.int IntKind.i64 mo), AV.v (Value.int IntKind.i64 (lo + (1 : Int))),
                                AV.hs (1 : Nat) (0 : Nat) (List.length l)]),
                          some (Blk.arr (3 : Nat) (List.length (l ++ j)) (lsF It.c (l ++ j))),
                          some
                            (Blk.row
                              [AV.v (Value.int IntKind.i64 mo), AV.v (Value.int IntKind.i64 (lo + (1 : Int))),
                                AV.hs (3 : Nat) (0 : Nat) (List.length l)]),
                          some (Blk.arr (3 : Nat) (List.length (l ++ j')) (lsF It.c (l ++ j')))]))
                  (Tree.br false
                    (Tree.leaf
                      (Out.mk AEx.ret
                        [AV.sl (5 : Nat) (List.length acts) (lsF Act.c acts), AV.ptr (0 : Nat) (0 : Nat),
                          AV.ptr (2 : Nat) (0 : Nat), AV.v (Value.int IntKind.i64 (↑i : Int)), AV.v (Value.bool false)]
                        [some
                            (Blk.row
                              [AV.v (Value.int IntKind.i64 mo), AV.v (Value.int IntKind.i64 (lo + (1 : Int))),
                                AV.hs (1 : Nat) (0 : Nat) (List.length l)]),
                          some (Blk.arr (3 : Nat) (List.length (l ++ j)) (lsF It.c (l ++ j))),
                          some
                            (Blk.row
                              [AV.v (Value.int IntKind.i64 mo), AV.v (Value.int IntKind.i64 (lo + (1 : Int))),
                                AV.hs (3 : Nat) (0 : Nat) (List.length l)]),
                          some (Blk.arr (3 : Nat) (List.length (l ++ j')) (lsF It.c (l ++ j')))]))
                    (Tree.leaf
                      (Out.mk AEx.normal
                        [AV.sl (5 : Nat) (List.length acts) (lsF Act.c acts), AV.ptr (0 : Nat) (0 : Nat),
                          AV.ptr (2 : Nat) (0 : Nat),
                          AV.v (Value.int IntKind.i64 (IntKind.wrap IntKind.i64 ((↑i : Int) + (1 : Int)))), AV.any]
                        [some
                            (Blk.row
                              [AV.v (Value.int IntKind.i64 mo), AV.v (Value.int IntKind.i64 (lo + (1 : Int))),
                                AV.hs (1 : Nat) (0 : Nat) (List.length l)]),
                          some (Blk.arr (3 : Nat) (List.length (l ++ j)) (lsF It.c (l ++ j))),
                          some
                            (Blk.row
                              [AV.v (Value.int IntKind.i64 mo), AV.v (Value.int IntKind.i64 (lo + (1 : Int))),
                                AV.hs (3 : Nat) (0 : Nat) (List.length l)]),
                          some (Blk.arr (3 : Nat) (List.length (l ++ j')) (lsF It.c (l ++ j')))])))))))))))
  (Tree.leaf
    (Out.mk (AEx.exit (0 : Nat))
      [AV.sl (5 : Nat) (List.length acts) (lsF Act.c acts), AV.ptr (0 : Nat) (0 : Nat), AV.ptr (2 : Nat) (0 : Nat),
        AV.v (Value.int IntKind.i64 (↑i : Int)), AV.any]
      [some
          (Blk.row
            [AV.v (Value.int IntKind.i64 mo), AV.v (Value.int IntKind.i64 lo),
              AV.hs (1 : Nat) (0 : Nat) (List.length l)]),
        some (Blk.arr (3 : Nat) (List.length (l ++ j)) (lsF It.c (l ++ j))),
        some
          (Blk.row
            [AV.v (Value.int IntKind.i64 mo), AV.v (Value.int IntKind.i64 lo),
              AV.hs (3 : Nat) (0 : Nat) (List.length l)]),
        some (Blk.arr (3 : Nat) (List.length (l ++ j')) (lsF It.c (l ++ j')))])) := by kernel_rfl
theorem r4sendOk (mo lo : Int) (l j j' : List It) (acts : List Act) (i : Nat) (h : (acts.getD i default).x.t.size ≤ 65536) (h2 : (l.length : Int) ≠ mo) (h3 : ¬ mo ≤ (l.length : Int)) (hs : (l ++ [(acts.getD i default).x]).length ≤ 100000000) (hs' : l.length ≤ 999999999) : roundE (P := Try.prog) (Γ := Γn) [CT.at 9 (ansSendOk (mo := mo) (lo := lo) (l := l) (junk := j) h h2 hs'), CT.at 13 (ansSendROk (mo := mo) (lo := lo) (l := l) (junk := j') h h3 hs'), CT.at 18 (ansShows (mo := mo) (mo' := mo) (lo := lo) (l := l ++ [(acts.getD i default).x]) (j := []) (j' := []) hs)] Lno false 0 0 lp4 lv4 nl4 154 (S4 mo lo l j j' acts i).1 (S4 mo lo l j j' acts i).2 =
  Tree.br (decide ((↑i : Int) < (↑(List.length acts) : Int)))
  (Tree.chk (decide ((0 : Int) ≤ (↑i : Int)) && decide ((↑i : Int) < (↑(List.length acts) : Int)))
    (Tree.br (decide ((70000 : Int) < (↑(ByteArray.size (List.getD acts i default).x.t) : Int)))
      (Tree.leaf
        (Out.mk AEx.ret
          [AV.sl (5 : Nat) (List.length acts) (lsF Act.c acts), AV.ptr (0 : Nat) (0 : Nat), AV.ptr (2 : Nat) (0 : Nat),
            AV.v (Value.int IntKind.i64 (↑i : Int)), AV.v (Value.bool true)]
          [some
              (Blk.row
                [AV.v (Value.int IntKind.i64 mo), AV.v (Value.int IntKind.i64 lo),
                  AV.hs (1 : Nat) (0 : Nat) (List.length l)]),
            some (Blk.arr (3 : Nat) (List.length (l ++ j)) (lsF It.c (l ++ j))),
            some
              (Blk.row
                [AV.v (Value.int IntKind.i64 mo), AV.v (Value.int IntKind.i64 lo),
                  AV.hs (3 : Nat) (0 : Nat) (List.length l)]),
            some (Blk.arr (3 : Nat) (List.length (l ++ j')) (lsF It.c (l ++ j')))]))
      (Tree.br (decide ((List.getD acts i default).k = (0 : Int)))
        (Tree.chk
          (cl
            (LeL
                [AV.ptr (0 : Nat) (0 : Nat),
                  AV.agg
                    [AV.v (Value.int IntKind.i64 (List.getD acts i default).x.a),
                      AV.v (Value.int IntKind.i64 (List.getD acts i default).x.b),
                      AV.v (Value.string (List.getD acts i default).x.t)]]
                [AV.ptr (0 : Nat) (0 : Nat),
                  AV.agg
                    [AV.v (Value.int IntKind.i64 (List.getD acts i default).x.a),
                      AV.v (Value.int IntKind.i64 (List.getD acts i default).x.b),
                      AV.v (Value.string (List.getD acts i default).x.t)]] ∧
              LeH
                [some
                    (Blk.row
                      [AV.v (Value.int IntKind.i64 mo), AV.v (Value.int IntKind.i64 lo),
                        AV.hs (1 : Nat) (0 : Nat) (List.length l)]),
                  some (Blk.arr (3 : Nat) (List.length (l ++ j)) (lsF It.c (l ++ j)))]
                [some
                    (Blk.row
                      [AV.v (Value.int IntKind.i64 mo), AV.v (Value.int IntKind.i64 lo),
                        AV.hs (1 : Nat) (0 : Nat) (List.length l)]),
                  some (Blk.arr (3 : Nat) (List.length (l ++ j)) (lsF It.c (l ++ j)))]))
          (Tree.chk
            (cl
              (LeL
                  [AV.ptr (0 : Nat) (0 : Nat),
                    AV.agg
                      [AV.v (Value.int IntKind.i64 (List.getD acts i default).x.a),
                        AV.v (Value.int IntKind.i64 (List.getD acts i default).x.b),
                        AV.v (Value.string (List.getD acts i default).x.t)]]
                  [AV.ptr (0 : Nat) (0 : Nat),
                    AV.agg
                      [AV.v (Value.int IntKind.i64 (List.getD acts i default).x.a),
                        AV.v (Value.int IntKind.i64 (List.getD acts i default).x.b),
                        AV.v (Value.string (List.getD acts i default).x.t)]] ∧
                LeH
                  [some
                      (Blk.row
                        [AV.v (Value.int IntKind.i64 mo), AV.v (Value.int IntKind.i64 lo),
                          AV.hs (1 : Nat) (0 : Nat) (List.length l)]),
                    some (Blk.arr (3 : Nat) (List.length (l ++ j')) (lsF It.c (l ++ j')))]
                  [some
                      (Blk.row
                        [AV.v (Value.int IntKind.i64 mo), AV.v (Value.int IntKind.i64 lo),
                          AV.hs (1 : Nat) (0 : Nat) (List.length l)]),
                    some (Blk.arr (3 : Nat) (List.length (l ++ j')) (lsF It.c (l ++ j')))]))
            (Tree.br false
              (Tree.leaf
                (Out.mk AEx.ret
                  [AV.sl (5 : Nat) (List.length acts) (lsF Act.c acts), AV.ptr (0 : Nat) (0 : Nat),
                    AV.ptr (2 : Nat) (0 : Nat), AV.v (Value.int IntKind.i64 (↑i : Int)), AV.v (Value.bool false)]
                  [some
                      (Blk.row
                        [AV.v (Value.int IntKind.i64 mo), AV.v (Value.int IntKind.i64 lo),
                          AV.hs (1 : Nat) (0 : Nat) (List.length (l ++ [(List.getD acts i default).x]))]),
                    some
                      (Blk.arr (3 : Nat) (List.length (l ++ [(List.getD acts i default).x]))
                        (lsF It.c (l ++ [(List.getD acts i default).x]))),
                    some
                      (Blk.row
                        [AV.v (Value.int IntKind.i64 mo), AV.v (Value.int IntKind.i64 lo),
                          AV.hs (3 : Nat) (0 : Nat) (List.length (l ++ [(List.getD acts i default).x]))]),
                    some
                      (Blk.arr (3 : Nat) (List.length (l ++ [(List.getD acts i default).x]))
                        (lsF It.c (l ++ [(List.getD acts i default).x])))]))
              (Tree.chk
                (cl
                  (LeL [AV.ptr (0 : Nat) (0 : Nat), AV.ptr (2 : Nat) (0 : Nat)]
                      [AV.ptr (0 : Nat) (0 : Nat), AV.ptr (2 : Nat) (0 : Nat)] ∧
                    LeH
                      [some
                          (Blk.row
                            [AV.v (Value.int IntKind.i64 mo), AV.v (Value.int IntKind.i64 lo),
                              AV.hs (1 : Nat) (0 : Nat) (List.length (l ++ [(List.getD acts i default).x]))]),
                        some
                          (Blk.arr (3 : Nat) (List.length (l ++ [(List.getD acts i default).x]))
                            (lsF It.c (l ++ [(List.getD acts i default).x]))),
                        some
                          (Blk.row
                            [AV.v (Value.int IntKind.i64 mo), AV.v (Value.int IntKind.i64 lo),
                              AV.hs (3 : Nat) (0 : Nat) (List.length (l ++ [(List.getD acts i default).x]))]),
                        some
                          (Blk.arr (3 : Nat) (List.length (l ++ [(List.getD acts i default).x]))
                            (lsF It.c (l ++ [(List.getD acts i default).x])))]
                      [some
                          (Blk.row
                            [AV.v (Value.int IntKind.i64 mo), AV.v (Value.int IntKind.i64 lo),
                              AV.hs (1 : Nat) (0 : Nat) (List.length (l ++ [(List.getD acts i default).x]))]),
                        some
                          (Blk.arr (3 : Nat) (List.length (l ++ [(List.getD acts i default).x] ++ []))
                            (lsF It.c (l ++ [(List.getD acts i default).x] ++ []))),
                        some
                          (Blk.row
                            [AV.v (Value.int IntKind.i64 mo), AV.v (Value.int IntKind.i64 lo),
                              AV.hs (3 : Nat) (0 : Nat) (List.length (l ++ [(List.getD acts i default).x]))]),
                        some
                          (Blk.arr (3 : Nat) (List.length (l ++ [(List.getD acts i default).x] ++ []))
                            (lsF It.c (l ++ [(List.getD acts i default).x] ++ [])))]))
                (Tree.br false
                  (Tree.leaf
                    (Out.mk AEx.ret
                      [AV.sl (5 : Nat) (List.length acts) (lsF Act.c acts), AV.ptr (0 : Nat) (0 : Nat),
                        AV.ptr (2 : Nat) (0 : Nat), AV.v (Value.int IntKind.i64 (↑i : Int)), AV.v (Value.bool false)]
                      [some
                          (Blk.row
                            [AV.v (Value.int IntKind.i64 mo), AV.v (Value.int IntKind.i64 lo),
                              AV.hs (1 : Nat) (0 : Nat) (List.length (l ++ [(List.getD acts i default).x]))]),
                        some
                          (Blk.arr (3 : Nat) (List.length (l ++ [(List.getD acts i default).x] ++ []))
                            (lsF It.c (l ++ [(List.getD acts i default).x] ++ []))),
                        some
                          (Blk.row
                            [AV.v (Value.int IntKind.i64 mo), AV.v (Value.int IntKind.i64 lo),
                              AV.hs (3 : Nat) (0 : Nat) (List.length (l ++ [(List.getD acts i default).x]))]),
                        some
                          (Blk.arr (3 : Nat) (List.length (l ++ [(List.getD acts i default).x] ++ []))
                            (lsF It.c (l ++ [(List.getD acts i default).x] ++ [])))]))
                  (Tree.leaf
                    (Out.mk AEx.normal
                      [AV.sl (5 : Nat) (List.length acts) (lsF Act.c acts), AV.ptr (0 : Nat) (0 : Nat),
                        AV.ptr (2 : Nat) (0 : Nat),
                        AV.v (Value.int IntKind.i64 (IntKind.wrap IntKind.i64 ((↑i : Int) + (1 : Int)))), AV.any]
                      [some
                          (Blk.row
                            [AV.v (Value.int IntKind.i64 mo), AV.v (Value.int IntKind.i64 lo),
                              AV.hs (1 : Nat) (0 : Nat) (List.length (l ++ [(List.getD acts i default).x]))]),
                        some
                          (Blk.arr (3 : Nat) (List.length (l ++ [(List.getD acts i default).x] ++ []))
                            (lsF It.c (l ++ [(List.getD acts i default).x] ++ []))),
                        some
                          (Blk.row
                            [AV.v (Value.int IntKind.i64 mo), AV.v (Value.int IntKind.i64 lo),
                              AV.hs (3 : Nat) (0 : Nat) (List.length (l ++ [(List.getD acts i default).x]))]),
                        some
                          (Blk.arr (3 : Nat) (List.length (l ++ [(List.getD acts i default).x] ++ []))
                            (lsF It.c (l ++ [(List.getD acts i default).x] ++ [])))])))))))
        (Tree.br (decide ((List.getD acts i default).k = (1 : Int))) Tree.fail
          (Tree.br (decide ((List.getD acts i default).k = (2 : Int))) Tree.fail
            (Tree.br (decide ((List.getD acts i default).k = (3 : Int))) Tree.fail
              (Tree.br false
                (Tree.leaf
                  (Out.mk AEx.ret
                    [AV.sl (5 : Nat) (List.length acts) (lsF Act.c acts), AV.ptr (0 : Nat) (0 : Nat),
                      AV.ptr (2 : Nat) (0 : Nat), AV.v (Value.int IntKind.i64 (↑i : Int)), AV.v (Value.bool false)]
                    [some
                        (Blk.row
                          [AV.v (Value.int IntKind.i64 mo), AV.v (Value.int IntKind.i64 lo),
                            AV.hs (1 : Nat) (0 : Nat) (List.length l)]),
                      some (Blk.arr (3 : Nat) (List.length (l ++ j)) (lsF It.c (l ++ j))),
                      some
                        (Blk.row
                          [AV.v (Value.int IntKind.i64 mo), AV.v (Value.int IntKind.i64 lo),
                            AV.hs (3 : Nat) (0 : Nat) (List.length l)]),
                      some (Blk.arr (3 : Nat) (List.length (l ++ j')) (lsF It.c (l ++ j')))]))
                (Tree.chk
                  (cl
                    (LeL [AV.ptr (0 : Nat) (0 : Nat), AV.ptr (2 : Nat) (0 : Nat)]
                        [AV.ptr (0 : Nat) (0 : Nat), AV.ptr (2 : Nat) (0 : Nat)] ∧
                      LeH
                        [some
                            (Blk.row
                              [AV.v (Value.int IntKind.i64 mo), AV.v (Value.int IntKind.i64 lo),
                                AV.hs (1 : Nat) (0 : Nat) (List.length l)]),
                          some (Blk.arr (3 : Nat) (List.length (l ++ j)) (lsF It.c (l ++ j))),
                          some
                            (Blk.row
                              [AV.v (Value.int IntKind.i64 mo), AV.v (Value.int IntKind.i64 lo),
                                AV.hs (3 : Nat) (0 : Nat) (List.length l)]),
                          some (Blk.arr (3 : Nat) (List.length (l ++ j')) (lsF It.c (l ++ j')))]
                        [some
                            (Blk.row
                              [AV.v (Value.int IntKind.i64 mo), AV.v (Value.int IntKind.i64 lo),
                                AV.hs (1 : Nat) (0 : Nat) (List.length (l ++ [(List.getD acts i default).x]))]),
                          some
                            (Blk.arr (3 : Nat) (List.length (l ++ [(List.getD acts i default).x] ++ []))
                              (lsF It.c (l ++ [(List.getD acts i default).x] ++ []))),
                          some
                            (Blk.row
                              [AV.v (Value.int IntKind.i64 mo), AV.v (Value.int IntKind.i64 lo),
                                AV.hs (3 : Nat) (0 : Nat) (List.length (l ++ [(List.getD acts i default).x]))]),
                          some
                            (Blk.arr (3 : Nat) (List.length (l ++ [(List.getD acts i default).x] ++ []))
                              (lsF It.c (l ++ [(List.getD acts i default).x] ++ [])))]))
                  (Tree.br false
                    (Tree.leaf
                      (Out.mk AEx.ret
                        [AV.sl (5 : Nat) (List.length acts) (lsF Act.c acts), AV.ptr (0 : Nat) (0 : Nat),
                          AV.ptr (2 : Nat) (0 : Nat), AV.v (Value.int IntKind.i64 (↑i : Int)), AV.v (Value.bool false)]
                        [some
                            (Blk.row
                              [AV.v (Value.int IntKind.i64 mo), AV.v (Value.int IntKind.i64 lo),
                                AV.hs (1 : Nat) (0 : Nat) (List.length (l ++ [(List.getD acts i default).x]))]),
                          some
                            (Blk.arr (3 : Nat) (List.length (l ++ [(List.getD acts i default).x] ++ []))
                              (lsF It.c (l ++ [(List.getD acts i default).x] ++ []))),
                          some
                            (Blk.row
                              [AV.v (Value.int IntKind.i64 mo), AV.v (Value.int IntKind.i64 lo),
                                AV.hs (3 : Nat) (0 : Nat) (List.length (l ++ [(List.getD acts i default).x]))]),
                          some
                            (Blk.arr (3 : Nat) (List.length (l ++ [(List.getD acts i default).x] ++ []))
                              (lsF It.c (l ++ [(List.getD acts i default).x] ++ [])))]))
                    (Tree.leaf
                      (Out.mk AEx.normal
                        [AV.sl (5 : Nat) (List.length acts) (lsF Act.c acts), AV.ptr (0 : Nat) (0 : Nat),
                          AV.ptr (2 : Nat) (0 : Nat),
                          AV.v (Value.int IntKind.i64 (IntKind.wrap IntKind.i64 ((↑i : Int) + (1 : Int)))), AV.any]
                        [some
                            (Blk.row
                              [AV.v (Value.int IntKind.i64 mo), AV.v (Value.int IntKind.i64 lo),
                                AV.hs (1 : Nat) (0 : Nat) (List.length (l ++ [(List.getD acts i default).x]))]),
                          some
                            (Blk.arr (3 : Nat) (List.length (l ++ [(List.getD acts i default).x] ++ []))
                              (lsF It.c (l ++ [(List.getD acts i default).x] ++ []))),
                          some
                            (Blk.row
                              [AV.v (Value.int IntKind.i64 mo), AV.v (Value.int IntKind.i64 lo),
                                AV.hs (3 : Nat) (0 : Nat) (List.length (l ++ [(List.getD acts i default).x]))]),
                          some
                            (Blk.arr (3 : Nat) (List.length (l ++ [(List.getD acts i default).x] ++ []))
                              (lsF It.c (l ++ [(List.getD acts i default).x] ++ [])))])))))))))))
  (Tree.leaf
    (Out.mk (AEx.exit (0 : Nat))
      [AV.sl (5 : Nat) (List.length acts) (lsF Act.c acts), AV.ptr (0 : Nat) (0 : Nat), AV.ptr (2 : Nat) (0 : Nat),
        AV.v (Value.int IntKind.i64 (↑i : Int)), AV.any]
      [some
          (Blk.row
            [AV.v (Value.int IntKind.i64 mo), AV.v (Value.int IntKind.i64 lo),
              AV.hs (1 : Nat) (0 : Nat) (List.length l)]),
        some (Blk.arr (3 : Nat) (List.length (l ++ j)) (lsF It.c (l ++ j))),
        some
          (Blk.row
            [AV.v (Value.int IntKind.i64 mo), AV.v (Value.int IntKind.i64 lo),
              AV.hs (3 : Nat) (0 : Nat) (List.length l)]),
        some (Blk.arr (3 : Nat) (List.length (l ++ j')) (lsF It.c (l ++ j')))])) := by kernel_rfl
theorem r4takeNo (mo lo : Int) (l j j' : List It) (acts : List Act) (i : Nat) (h : (acts.getD i default).i < 0 ∨ (l.length : Int) ≤ (acts.getD i default).i) (hs : l.length ≤ 100000000) : roundE (P := Try.prog) (Γ := Γn) [CT.at 11 (ansTakeNo (mo := mo) (lo := lo) (l := l) (junk := j) h), CT.at 14 (ansTakeRNo (mo := mo) (lo := lo) (l := l) (junk := j') h), CT.at 18 (ansShows (mo := mo) (mo' := mo) (lo := lo) (l := l) (j := j) (j' := j') hs)] Lno false 0 0 lp4 lv4 nl4 154 (S4 mo lo l j j' acts i).1 (S4 mo lo l j j' acts i).2 =
  Tree.br (decide ((↑i : Int) < (↑(List.length acts) : Int)))
  (Tree.chk (decide ((0 : Int) ≤ (↑i : Int)) && decide ((↑i : Int) < (↑(List.length acts) : Int)))
    (Tree.br (decide ((70000 : Int) < (↑(ByteArray.size (List.getD acts i default).x.t) : Int)))
      (Tree.leaf
        (Out.mk AEx.ret
          [AV.sl (5 : Nat) (List.length acts) (lsF Act.c acts), AV.ptr (0 : Nat) (0 : Nat), AV.ptr (2 : Nat) (0 : Nat),
            AV.v (Value.int IntKind.i64 (↑i : Int)), AV.v (Value.bool true)]
          [some
              (Blk.row
                [AV.v (Value.int IntKind.i64 mo), AV.v (Value.int IntKind.i64 lo),
                  AV.hs (1 : Nat) (0 : Nat) (List.length l)]),
            some (Blk.arr (3 : Nat) (List.length (l ++ j)) (lsF It.c (l ++ j))),
            some
              (Blk.row
                [AV.v (Value.int IntKind.i64 mo), AV.v (Value.int IntKind.i64 lo),
                  AV.hs (3 : Nat) (0 : Nat) (List.length l)]),
            some (Blk.arr (3 : Nat) (List.length (l ++ j')) (lsF It.c (l ++ j')))]))
      (Tree.br (decide ((List.getD acts i default).k = (0 : Int))) Tree.fail
        (Tree.br (decide ((List.getD acts i default).k = (1 : Int)))
          (Tree.chk
            (cl
              (LeL [AV.ptr (0 : Nat) (0 : Nat), AV.v (Value.int IntKind.i64 (List.getD acts i default).i)]
                  [AV.ptr (0 : Nat) (0 : Nat), AV.v (Value.int IntKind.i64 (List.getD acts i default).i)] ∧
                LeH
                  [some
                      (Blk.row
                        [AV.v (Value.int IntKind.i64 mo), AV.v (Value.int IntKind.i64 lo),
                          AV.hs (1 : Nat) (0 : Nat) (List.length l)]),
                    some (Blk.arr (3 : Nat) (List.length (l ++ j)) (lsF It.c (l ++ j)))]
                  [some
                      (Blk.row
                        [AV.v (Value.int IntKind.i64 mo), AV.v (Value.int IntKind.i64 lo),
                          AV.hs (1 : Nat) (0 : Nat) (List.length l)]),
                    some (Blk.arr (3 : Nat) (List.length (l ++ j)) (lsF It.c (l ++ j)))]))
            (Tree.chk
              (cl
                (LeL [AV.ptr (0 : Nat) (0 : Nat), AV.v (Value.int IntKind.i64 (List.getD acts i default).i)]
                    [AV.ptr (0 : Nat) (0 : Nat), AV.v (Value.int IntKind.i64 (List.getD acts i default).i)] ∧
                  LeH
                    [some
                        (Blk.row
                          [AV.v (Value.int IntKind.i64 mo), AV.v (Value.int IntKind.i64 lo),
                            AV.hs (1 : Nat) (0 : Nat) (List.length l)]),
                      some (Blk.arr (3 : Nat) (List.length (l ++ j')) (lsF It.c (l ++ j')))]
                    [some
                        (Blk.row
                          [AV.v (Value.int IntKind.i64 mo), AV.v (Value.int IntKind.i64 lo),
                            AV.hs (1 : Nat) (0 : Nat) (List.length l)]),
                      some (Blk.arr (3 : Nat) (List.length (l ++ j')) (lsF It.c (l ++ j')))]))
              (Tree.br false
                (Tree.leaf
                  (Out.mk AEx.ret
                    [AV.sl (5 : Nat) (List.length acts) (lsF Act.c acts), AV.ptr (0 : Nat) (0 : Nat),
                      AV.ptr (2 : Nat) (0 : Nat), AV.v (Value.int IntKind.i64 (↑i : Int)), AV.v (Value.bool false)]
                    [some
                        (Blk.row
                          [AV.v (Value.int IntKind.i64 mo), AV.v (Value.int IntKind.i64 lo),
                            AV.hs (1 : Nat) (0 : Nat) (List.length l)]),
                      some (Blk.arr (3 : Nat) (List.length (l ++ j)) (lsF It.c (l ++ j))),
                      some
                        (Blk.row
                          [AV.v (Value.int IntKind.i64 mo), AV.v (Value.int IntKind.i64 lo),
                            AV.hs (3 : Nat) (0 : Nat) (List.length l)]),
                      some (Blk.arr (3 : Nat) (List.length (l ++ j')) (lsF It.c (l ++ j')))]))
                (Tree.br false
                  (Tree.leaf
                    (Out.mk AEx.ret
                      [AV.sl (5 : Nat) (List.length acts) (lsF Act.c acts), AV.ptr (0 : Nat) (0 : Nat),
                        AV.ptr (2 : Nat) (0 : Nat), AV.v (Value.int IntKind.i64 (↑i : Int)), AV.v (Value.bool false)]
                      [some
                          (Blk.row
                            [AV.v (Value.int IntKind.i64 mo), AV.v (Value.int IntKind.i64 lo),
                              AV.hs (1 : Nat) (0 : Nat) (List.length l)]),
                        some (Blk.arr (3 : Nat) (List.length (l ++ j)) (lsF It.c (l ++ j))),
                        some
                          (Blk.row
                            [AV.v (Value.int IntKind.i64 mo), AV.v (Value.int IntKind.i64 lo),
                              AV.hs (3 : Nat) (0 : Nat) (List.length l)]),
                        some (Blk.arr (3 : Nat) (List.length (l ++ j')) (lsF It.c (l ++ j')))]))
                  (Tree.chk
                    (cl
                      (LeL [AV.ptr (0 : Nat) (0 : Nat), AV.ptr (2 : Nat) (0 : Nat)]
                          [AV.ptr (0 : Nat) (0 : Nat), AV.ptr (2 : Nat) (0 : Nat)] ∧
                        LeH
                          [some
                              (Blk.row
                                [AV.v (Value.int IntKind.i64 mo), AV.v (Value.int IntKind.i64 lo),
                                  AV.hs (1 : Nat) (0 : Nat) (List.length l)]),
                            some (Blk.arr (3 : Nat) (List.length (l ++ j)) (lsF It.c (l ++ j))),
                            some
                              (Blk.row
                                [AV.v (Value.int IntKind.i64 mo), AV.v (Value.int IntKind.i64 lo),
                                  AV.hs (3 : Nat) (0 : Nat) (List.length l)]),
                            some (Blk.arr (3 : Nat) (List.length (l ++ j')) (lsF It.c (l ++ j')))]
                          [some
                              (Blk.row
                                [AV.v (Value.int IntKind.i64 mo), AV.v (Value.int IntKind.i64 lo),
                                  AV.hs (1 : Nat) (0 : Nat) (List.length l)]),
                            some (Blk.arr (3 : Nat) (List.length (l ++ j)) (lsF It.c (l ++ j))),
                            some
                              (Blk.row
                                [AV.v (Value.int IntKind.i64 mo), AV.v (Value.int IntKind.i64 lo),
                                  AV.hs (3 : Nat) (0 : Nat) (List.length l)]),
                            some (Blk.arr (3 : Nat) (List.length (l ++ j')) (lsF It.c (l ++ j')))]))
                    (Tree.br false
                      (Tree.leaf
                        (Out.mk AEx.ret
                          [AV.sl (5 : Nat) (List.length acts) (lsF Act.c acts), AV.ptr (0 : Nat) (0 : Nat),
                            AV.ptr (2 : Nat) (0 : Nat), AV.v (Value.int IntKind.i64 (↑i : Int)),
                            AV.v (Value.bool false)]
                          [some
                              (Blk.row
                                [AV.v (Value.int IntKind.i64 mo), AV.v (Value.int IntKind.i64 lo),
                                  AV.hs (1 : Nat) (0 : Nat) (List.length l)]),
                            some (Blk.arr (3 : Nat) (List.length (l ++ j)) (lsF It.c (l ++ j))),
                            some
                              (Blk.row
                                [AV.v (Value.int IntKind.i64 mo), AV.v (Value.int IntKind.i64 lo),
                                  AV.hs (3 : Nat) (0 : Nat) (List.length l)]),
                            some (Blk.arr (3 : Nat) (List.length (l ++ j')) (lsF It.c (l ++ j')))]))
                      (Tree.leaf
                        (Out.mk AEx.normal
                          [AV.sl (5 : Nat) (List.length acts) (lsF Act.c acts), AV.ptr (0 : Nat) (0 : Nat),
                            AV.ptr (2 : Nat) (0 : Nat),
                            AV.v (Value.int IntKind.i64 (IntKind.wrap IntKind.i64 ((↑i : Int) + (1 : Int)))), AV.any]
                          [some
                              (Blk.row
                                [AV.v (Value.int IntKind.i64 mo), AV.v (Value.int IntKind.i64 lo),
                                  AV.hs (1 : Nat) (0 : Nat) (List.length l)]),
                            some (Blk.arr (3 : Nat) (List.length (l ++ j)) (lsF It.c (l ++ j))),
                            some
                              (Blk.row
                                [AV.v (Value.int IntKind.i64 mo), AV.v (Value.int IntKind.i64 lo),
                                  AV.hs (3 : Nat) (0 : Nat) (List.length l)]),
                            some (Blk.arr (3 : Nat) (List.length (l ++ j')) (lsF It.c (l ++ j')))]))))))))
          (Tree.br (decide ((List.getD acts i default).k = (2 : Int))) Tree.fail
            (Tree.br (decide ((List.getD acts i default).k = (3 : Int))) Tree.fail
              (Tree.br false
                (Tree.leaf
                  (Out.mk AEx.ret
                    [AV.sl (5 : Nat) (List.length acts) (lsF Act.c acts), AV.ptr (0 : Nat) (0 : Nat),
                      AV.ptr (2 : Nat) (0 : Nat), AV.v (Value.int IntKind.i64 (↑i : Int)), AV.v (Value.bool false)]
                    [some
                        (Blk.row
                          [AV.v (Value.int IntKind.i64 mo), AV.v (Value.int IntKind.i64 lo),
                            AV.hs (1 : Nat) (0 : Nat) (List.length l)]),
                      some (Blk.arr (3 : Nat) (List.length (l ++ j)) (lsF It.c (l ++ j))),
                      some
                        (Blk.row
                          [AV.v (Value.int IntKind.i64 mo), AV.v (Value.int IntKind.i64 lo),
                            AV.hs (3 : Nat) (0 : Nat) (List.length l)]),
                      some (Blk.arr (3 : Nat) (List.length (l ++ j')) (lsF It.c (l ++ j')))]))
                (Tree.chk
                  (cl
                    (LeL [AV.ptr (0 : Nat) (0 : Nat), AV.ptr (2 : Nat) (0 : Nat)]
                        [AV.ptr (0 : Nat) (0 : Nat), AV.ptr (2 : Nat) (0 : Nat)] ∧
                      LeH
                        [some
                            (Blk.row
                              [AV.v (Value.int IntKind.i64 mo), AV.v (Value.int IntKind.i64 lo),
                                AV.hs (1 : Nat) (0 : Nat) (List.length l)]),
                          some (Blk.arr (3 : Nat) (List.length (l ++ j)) (lsF It.c (l ++ j))),
                          some
                            (Blk.row
                              [AV.v (Value.int IntKind.i64 mo), AV.v (Value.int IntKind.i64 lo),
                                AV.hs (3 : Nat) (0 : Nat) (List.length l)]),
                          some (Blk.arr (3 : Nat) (List.length (l ++ j')) (lsF It.c (l ++ j')))]
                        [some
                            (Blk.row
                              [AV.v (Value.int IntKind.i64 mo), AV.v (Value.int IntKind.i64 lo),
                                AV.hs (1 : Nat) (0 : Nat) (List.length l)]),
                          some (Blk.arr (3 : Nat) (List.length (l ++ j)) (lsF It.c (l ++ j))),
                          some
                            (Blk.row
                              [AV.v (Value.int IntKind.i64 mo), AV.v (Value.int IntKind.i64 lo),
                                AV.hs (3 : Nat) (0 : Nat) (List.length l)]),
                          some (Blk.arr (3 : Nat) (List.length (l ++ j')) (lsF It.c (l ++ j')))]))
                  (Tree.br false
                    (Tree.leaf
                      (Out.mk AEx.ret
                        [AV.sl (5 : Nat) (List.length acts) (lsF Act.c acts), AV.ptr (0 : Nat) (0 : Nat),
                          AV.ptr (2 : Nat) (0 : Nat), AV.v (Value.int IntKind.i64 (↑i : Int)), AV.v (Value.bool false)]
                        [some
                            (Blk.row
                              [AV.v (Value.int IntKind.i64 mo), AV.v (Value.int IntKind.i64 lo),
                                AV.hs (1 : Nat) (0 : Nat) (List.length l)]),
                          some (Blk.arr (3 : Nat) (List.length (l ++ j)) (lsF It.c (l ++ j))),
                          some
                            (Blk.row
                              [AV.v (Value.int IntKind.i64 mo), AV.v (Value.int IntKind.i64 lo),
                                AV.hs (3 : Nat) (0 : Nat) (List.length l)]),
                          some (Blk.arr (3 : Nat) (List.length (l ++ j')) (lsF It.c (l ++ j')))]))
                    (Tree.leaf
                      (Out.mk AEx.normal
                        [AV.sl (5 : Nat) (List.length acts) (lsF Act.c acts), AV.ptr (0 : Nat) (0 : Nat),
                          AV.ptr (2 : Nat) (0 : Nat),
                          AV.v (Value.int IntKind.i64 (IntKind.wrap IntKind.i64 ((↑i : Int) + (1 : Int)))), AV.any]
                        [some
                            (Blk.row
                              [AV.v (Value.int IntKind.i64 mo), AV.v (Value.int IntKind.i64 lo),
                                AV.hs (1 : Nat) (0 : Nat) (List.length l)]),
                          some (Blk.arr (3 : Nat) (List.length (l ++ j)) (lsF It.c (l ++ j))),
                          some
                            (Blk.row
                              [AV.v (Value.int IntKind.i64 mo), AV.v (Value.int IntKind.i64 lo),
                                AV.hs (3 : Nat) (0 : Nat) (List.length l)]),
                          some (Blk.arr (3 : Nat) (List.length (l ++ j')) (lsF It.c (l ++ j')))])))))))))))
  (Tree.leaf
    (Out.mk (AEx.exit (0 : Nat))
      [AV.sl (5 : Nat) (List.length acts) (lsF Act.c acts), AV.ptr (0 : Nat) (0 : Nat), AV.ptr (2 : Nat) (0 : Nat),
        AV.v (Value.int IntKind.i64 (↑i : Int)), AV.any]
      [some
          (Blk.row
            [AV.v (Value.int IntKind.i64 mo), AV.v (Value.int IntKind.i64 lo),
              AV.hs (1 : Nat) (0 : Nat) (List.length l)]),
        some (Blk.arr (3 : Nat) (List.length (l ++ j)) (lsF It.c (l ++ j))),
        some
          (Blk.row
            [AV.v (Value.int IntKind.i64 mo), AV.v (Value.int IntKind.i64 lo),
              AV.hs (3 : Nat) (0 : Nat) (List.length l)]),
        some (Blk.arr (3 : Nat) (List.length (l ++ j')) (lsF It.c (l ++ j')))])) := by kernel_rfl
theorem r4take (mo lo : Int) (l j j' : List It) (acts : List Act) (i : Nat) (p : Nat) (h : p < l.length) (hs : (l.eraseIdx p).length ≤ 100000000) (hs' : l.length ≤ 999999999) : roundE (P := Try.prog) (Γ := Γn) [CT.at 11 (ansTake (i := p) (mo := mo) (lo := lo) (l := l) (junk := j) h hs'), CT.at 14 (ansTakeR (i := p) (mo := mo) (lo := lo) (l := l) (junk := j') h hs'), CT.at 18 (ansShows (mo := mo) (mo' := mo) (lo := lo) (l := l.eraseIdx p) (j := default :: j) (j' := []) hs)] Lno false 0 0 lp4 lv4 nl4 154 (S4 mo lo l j j' acts i).1 (S4 mo lo l j j' acts i).2 =
  Tree.br (decide ((↑i : Int) < (↑(List.length acts) : Int)))
  (Tree.chk (decide ((0 : Int) ≤ (↑i : Int)) && decide ((↑i : Int) < (↑(List.length acts) : Int)))
    (Tree.br (decide ((70000 : Int) < (↑(ByteArray.size (List.getD acts i default).x.t) : Int)))
      (Tree.leaf
        (Out.mk AEx.ret
          [AV.sl (5 : Nat) (List.length acts) (lsF Act.c acts), AV.ptr (0 : Nat) (0 : Nat), AV.ptr (2 : Nat) (0 : Nat),
            AV.v (Value.int IntKind.i64 (↑i : Int)), AV.v (Value.bool true)]
          [some
              (Blk.row
                [AV.v (Value.int IntKind.i64 mo), AV.v (Value.int IntKind.i64 lo),
                  AV.hs (1 : Nat) (0 : Nat) (List.length l)]),
            some (Blk.arr (3 : Nat) (List.length (l ++ j)) (lsF It.c (l ++ j))),
            some
              (Blk.row
                [AV.v (Value.int IntKind.i64 mo), AV.v (Value.int IntKind.i64 lo),
                  AV.hs (3 : Nat) (0 : Nat) (List.length l)]),
            some (Blk.arr (3 : Nat) (List.length (l ++ j')) (lsF It.c (l ++ j')))]))
      (Tree.br (decide ((List.getD acts i default).k = (0 : Int))) Tree.fail
        (Tree.br (decide ((List.getD acts i default).k = (1 : Int)))
          (Tree.chk
            (cl
              (LeL [AV.ptr (0 : Nat) (0 : Nat), AV.v (Value.int IntKind.i64 (List.getD acts i default).i)]
                  [AV.ptr (0 : Nat) (0 : Nat), AV.v (Value.int IntKind.i64 (↑p : Int))] ∧
                LeH
                  [some
                      (Blk.row
                        [AV.v (Value.int IntKind.i64 mo), AV.v (Value.int IntKind.i64 lo),
                          AV.hs (1 : Nat) (0 : Nat) (List.length l)]),
                    some (Blk.arr (3 : Nat) (List.length (l ++ j)) (lsF It.c (l ++ j)))]
                  [some
                      (Blk.row
                        [AV.v (Value.int IntKind.i64 mo), AV.v (Value.int IntKind.i64 lo),
                          AV.hs (1 : Nat) (0 : Nat) (List.length l)]),
                    some (Blk.arr (3 : Nat) (List.length (l ++ j)) (lsF It.c (l ++ j)))]))
            (Tree.chk
              (cl
                (LeL [AV.ptr (0 : Nat) (0 : Nat), AV.v (Value.int IntKind.i64 (List.getD acts i default).i)]
                    [AV.ptr (0 : Nat) (0 : Nat), AV.v (Value.int IntKind.i64 (↑p : Int))] ∧
                  LeH
                    [some
                        (Blk.row
                          [AV.v (Value.int IntKind.i64 mo), AV.v (Value.int IntKind.i64 lo),
                            AV.hs (1 : Nat) (0 : Nat) (List.length l)]),
                      some (Blk.arr (3 : Nat) (List.length (l ++ j')) (lsF It.c (l ++ j')))]
                    [some
                        (Blk.row
                          [AV.v (Value.int IntKind.i64 mo), AV.v (Value.int IntKind.i64 lo),
                            AV.hs (1 : Nat) (0 : Nat) (List.length l)]),
                      some (Blk.arr (3 : Nat) (List.length (l ++ j')) (lsF It.c (l ++ j')))]))
              (Tree.br
                (!(decide ((List.getD l p default).a = (List.getD l p default).a) &&
                    (decide ((List.getD l p default).b = (List.getD l p default).b) &&
                      decide ((List.getD l p default).t = (List.getD l p default).t))))
                (Tree.leaf
                  (Out.mk AEx.ret
                    [AV.sl (5 : Nat) (List.length acts) (lsF Act.c acts), AV.ptr (0 : Nat) (0 : Nat),
                      AV.ptr (2 : Nat) (0 : Nat), AV.v (Value.int IntKind.i64 (↑i : Int)), AV.v (Value.bool false)]
                    [some
                        (Blk.row
                          [AV.v (Value.int IntKind.i64 mo), AV.v (Value.int IntKind.i64 lo),
                            AV.hs (1 : Nat) (0 : Nat) (List.length (List.eraseIdx l p))]),
                      some
                        (Blk.arr (3 : Nat) (List.length (List.eraseIdx l p ++ default :: j))
                          (lsF It.c (List.eraseIdx l p ++ default :: j))),
                      some
                        (Blk.row
                          [AV.v (Value.int IntKind.i64 mo), AV.v (Value.int IntKind.i64 lo),
                            AV.hs (3 : Nat) (0 : Nat) (List.length (List.eraseIdx l p))]),
                      some (Blk.arr (3 : Nat) (List.length (List.eraseIdx l p)) (lsF It.c (List.eraseIdx l p)))]))
                (Tree.br false
                  (Tree.leaf
                    (Out.mk AEx.ret
                      [AV.sl (5 : Nat) (List.length acts) (lsF Act.c acts), AV.ptr (0 : Nat) (0 : Nat),
                        AV.ptr (2 : Nat) (0 : Nat), AV.v (Value.int IntKind.i64 (↑i : Int)), AV.v (Value.bool false)]
                      [some
                          (Blk.row
                            [AV.v (Value.int IntKind.i64 mo), AV.v (Value.int IntKind.i64 lo),
                              AV.hs (1 : Nat) (0 : Nat) (List.length (List.eraseIdx l p))]),
                        some
                          (Blk.arr (3 : Nat) (List.length (List.eraseIdx l p ++ default :: j))
                            (lsF It.c (List.eraseIdx l p ++ default :: j))),
                        some
                          (Blk.row
                            [AV.v (Value.int IntKind.i64 mo), AV.v (Value.int IntKind.i64 lo),
                              AV.hs (3 : Nat) (0 : Nat) (List.length (List.eraseIdx l p))]),
                        some (Blk.arr (3 : Nat) (List.length (List.eraseIdx l p)) (lsF It.c (List.eraseIdx l p)))]))
                  (Tree.chk
                    (cl
                      (LeL [AV.ptr (0 : Nat) (0 : Nat), AV.ptr (2 : Nat) (0 : Nat)]
                          [AV.ptr (0 : Nat) (0 : Nat), AV.ptr (2 : Nat) (0 : Nat)] ∧
                        LeH
                          [some
                              (Blk.row
                                [AV.v (Value.int IntKind.i64 mo), AV.v (Value.int IntKind.i64 lo),
                                  AV.hs (1 : Nat) (0 : Nat) (List.length (List.eraseIdx l p))]),
                            some
                              (Blk.arr (3 : Nat) (List.length (List.eraseIdx l p ++ default :: j))
                                (lsF It.c (List.eraseIdx l p ++ default :: j))),
                            some
                              (Blk.row
                                [AV.v (Value.int IntKind.i64 mo), AV.v (Value.int IntKind.i64 lo),
                                  AV.hs (3 : Nat) (0 : Nat) (List.length (List.eraseIdx l p))]),
                            some (Blk.arr (3 : Nat) (List.length (List.eraseIdx l p)) (lsF It.c (List.eraseIdx l p)))]
                          [some
                              (Blk.row
                                [AV.v (Value.int IntKind.i64 mo), AV.v (Value.int IntKind.i64 lo),
                                  AV.hs (1 : Nat) (0 : Nat) (List.length (List.eraseIdx l p))]),
                            some
                              (Blk.arr (3 : Nat) (List.length (List.eraseIdx l p ++ default :: j))
                                (lsF It.c (List.eraseIdx l p ++ default :: j))),
                            some
                              (Blk.row
                                [AV.v (Value.int IntKind.i64 mo), AV.v (Value.int IntKind.i64 lo),
                                  AV.hs (3 : Nat) (0 : Nat) (List.length (List.eraseIdx l p))]),
                            some
                              (Blk.arr (3 : Nat) (List.length (List.eraseIdx l p ++ []))
                                (lsF It.c (List.eraseIdx l p ++ [])))]))
                    (Tree.br false
                      (Tree.leaf
                        (Out.mk AEx.ret
                          [AV.sl (5 : Nat) (List.length acts) (lsF Act.c acts), AV.ptr (0 : Nat) (0 : Nat),
                            AV.ptr (2 : Nat) (0 : Nat), AV.v (Value.int IntKind.i64 (↑i : Int)),
                            AV.v (Value.bool false)]
                          [some
                              (Blk.row
                                [AV.v (Value.int IntKind.i64 mo), AV.v (Value.int IntKind.i64 lo),
                                  AV.hs (1 : Nat) (0 : Nat) (List.length (List.eraseIdx l p))]),
                            some
                              (Blk.arr (3 : Nat) (List.length (List.eraseIdx l p ++ default :: j))
                                (lsF It.c (List.eraseIdx l p ++ default :: j))),
                            some
                              (Blk.row
                                [AV.v (Value.int IntKind.i64 mo), AV.v (Value.int IntKind.i64 lo),
                                  AV.hs (3 : Nat) (0 : Nat) (List.length (List.eraseIdx l p))]),
                            some
                              (Blk.arr (3 : Nat) (List.length (List.eraseIdx l p ++ []))
                                (lsF It.c (List.eraseIdx l p ++ [])))]))
                      (Tree.leaf
                        (Out.mk AEx.normal
                          [AV.sl (5 : Nat) (List.length acts) (lsF Act.c acts), AV.ptr (0 : Nat) (0 : Nat),
                            AV.ptr (2 : Nat) (0 : Nat),
                            AV.v (Value.int IntKind.i64 (IntKind.wrap IntKind.i64 ((↑i : Int) + (1 : Int)))), AV.any]
                          [some
                              (Blk.row
                                [AV.v (Value.int IntKind.i64 mo), AV.v (Value.int IntKind.i64 lo),
                                  AV.hs (1 : Nat) (0 : Nat) (List.length (List.eraseIdx l p))]),
                            some
                              (Blk.arr (3 : Nat) (List.length (List.eraseIdx l p ++ default :: j))
                                (lsF It.c (List.eraseIdx l p ++ default :: j))),
                            some
                              (Blk.row
                                [AV.v (Value.int IntKind.i64 mo), AV.v (Value.int IntKind.i64 lo),
                                  AV.hs (3 : Nat) (0 : Nat) (List.length (List.eraseIdx l p))]),
                            some
                              (Blk.arr (3 : Nat) (List.length (List.eraseIdx l p ++ []))
                                (lsF It.c (List.eraseIdx l p ++ [])))]))))))))
          (Tree.br (decide ((List.getD acts i default).k = (2 : Int))) Tree.fail
            (Tree.br (decide ((List.getD acts i default).k = (3 : Int))) Tree.fail
              (Tree.br false
                (Tree.leaf
                  (Out.mk AEx.ret
                    [AV.sl (5 : Nat) (List.length acts) (lsF Act.c acts), AV.ptr (0 : Nat) (0 : Nat),
                      AV.ptr (2 : Nat) (0 : Nat), AV.v (Value.int IntKind.i64 (↑i : Int)), AV.v (Value.bool false)]
                    [some
                        (Blk.row
                          [AV.v (Value.int IntKind.i64 mo), AV.v (Value.int IntKind.i64 lo),
                            AV.hs (1 : Nat) (0 : Nat) (List.length l)]),
                      some (Blk.arr (3 : Nat) (List.length (l ++ j)) (lsF It.c (l ++ j))),
                      some
                        (Blk.row
                          [AV.v (Value.int IntKind.i64 mo), AV.v (Value.int IntKind.i64 lo),
                            AV.hs (3 : Nat) (0 : Nat) (List.length l)]),
                      some (Blk.arr (3 : Nat) (List.length (l ++ j')) (lsF It.c (l ++ j')))]))
                (Tree.chk
                  (cl
                    (LeL [AV.ptr (0 : Nat) (0 : Nat), AV.ptr (2 : Nat) (0 : Nat)]
                        [AV.ptr (0 : Nat) (0 : Nat), AV.ptr (2 : Nat) (0 : Nat)] ∧
                      LeH
                        [some
                            (Blk.row
                              [AV.v (Value.int IntKind.i64 mo), AV.v (Value.int IntKind.i64 lo),
                                AV.hs (1 : Nat) (0 : Nat) (List.length l)]),
                          some (Blk.arr (3 : Nat) (List.length (l ++ j)) (lsF It.c (l ++ j))),
                          some
                            (Blk.row
                              [AV.v (Value.int IntKind.i64 mo), AV.v (Value.int IntKind.i64 lo),
                                AV.hs (3 : Nat) (0 : Nat) (List.length l)]),
                          some (Blk.arr (3 : Nat) (List.length (l ++ j')) (lsF It.c (l ++ j')))]
                        [some
                            (Blk.row
                              [AV.v (Value.int IntKind.i64 mo), AV.v (Value.int IntKind.i64 lo),
                                AV.hs (1 : Nat) (0 : Nat) (List.length (List.eraseIdx l p))]),
                          some
                            (Blk.arr (3 : Nat) (List.length (List.eraseIdx l p ++ default :: j))
                              (lsF It.c (List.eraseIdx l p ++ default :: j))),
                          some
                            (Blk.row
                              [AV.v (Value.int IntKind.i64 mo), AV.v (Value.int IntKind.i64 lo),
                                AV.hs (3 : Nat) (0 : Nat) (List.length (List.eraseIdx l p))]),
                          some
                            (Blk.arr (3 : Nat) (List.length (List.eraseIdx l p ++ []))
                              (lsF It.c (List.eraseIdx l p ++ [])))]))
                  (Tree.br false
                    (Tree.leaf
                      (Out.mk AEx.ret
                        [AV.sl (5 : Nat) (List.length acts) (lsF Act.c acts), AV.ptr (0 : Nat) (0 : Nat),
                          AV.ptr (2 : Nat) (0 : Nat), AV.v (Value.int IntKind.i64 (↑i : Int)), AV.v (Value.bool false)]
                        [some
                            (Blk.row
                              [AV.v (Value.int IntKind.i64 mo), AV.v (Value.int IntKind.i64 lo),
                                AV.hs (1 : Nat) (0 : Nat) (List.length (List.eraseIdx l p))]),
                          some
                            (Blk.arr (3 : Nat) (List.length (List.eraseIdx l p ++ default :: j))
                              (lsF It.c (List.eraseIdx l p ++ default :: j))),
                          some
                            (Blk.row
                              [AV.v (Value.int IntKind.i64 mo), AV.v (Value.int IntKind.i64 lo),
                                AV.hs (3 : Nat) (0 : Nat) (List.length (List.eraseIdx l p))]),
                          some
                            (Blk.arr (3 : Nat) (List.length (List.eraseIdx l p ++ []))
                              (lsF It.c (List.eraseIdx l p ++ [])))]))
                    (Tree.leaf
                      (Out.mk AEx.normal
                        [AV.sl (5 : Nat) (List.length acts) (lsF Act.c acts), AV.ptr (0 : Nat) (0 : Nat),
                          AV.ptr (2 : Nat) (0 : Nat),
                          AV.v (Value.int IntKind.i64 (IntKind.wrap IntKind.i64 ((↑i : Int) + (1 : Int)))), AV.any]
                        [some
                            (Blk.row
                              [AV.v (Value.int IntKind.i64 mo), AV.v (Value.int IntKind.i64 lo),
                                AV.hs (1 : Nat) (0 : Nat) (List.length (List.eraseIdx l p))]),
                          some
                            (Blk.arr (3 : Nat) (List.length (List.eraseIdx l p ++ default :: j))
                              (lsF It.c (List.eraseIdx l p ++ default :: j))),
                          some
                            (Blk.row
                              [AV.v (Value.int IntKind.i64 mo), AV.v (Value.int IntKind.i64 lo),
                                AV.hs (3 : Nat) (0 : Nat) (List.length (List.eraseIdx l p))]),
                          some
                            (Blk.arr (3 : Nat) (List.length (List.eraseIdx l p ++ []))
                              (lsF It.c (List.eraseIdx l p ++ [])))])))))))))))
  (Tree.leaf
    (Out.mk (AEx.exit (0 : Nat))
      [AV.sl (5 : Nat) (List.length acts) (lsF Act.c acts), AV.ptr (0 : Nat) (0 : Nat), AV.ptr (2 : Nat) (0 : Nat),
        AV.v (Value.int IntKind.i64 (↑i : Int)), AV.any]
      [some
          (Blk.row
            [AV.v (Value.int IntKind.i64 mo), AV.v (Value.int IntKind.i64 lo),
              AV.hs (1 : Nat) (0 : Nat) (List.length l)]),
        some (Blk.arr (3 : Nat) (List.length (l ++ j)) (lsF It.c (l ++ j))),
        some
          (Blk.row
            [AV.v (Value.int IntKind.i64 mo), AV.v (Value.int IntKind.i64 lo),
              AV.hs (3 : Nat) (0 : Nat) (List.length l)]),
        some (Blk.arr (3 : Nat) (List.length (l ++ j')) (lsF It.c (l ++ j')))])) := by kernel_rfl
theorem r4dblNo (mo lo : Int) (l j j' : List It) (acts : List Act) (i : Nat) (h : (acts.getD i default).i < 0 ∨ (l.length : Int) ≤ (acts.getD i default).i) (hs : l.length ≤ 100000000) : roundE (P := Try.prog) (Γ := Γn) [CT.at 15 (ansDblNo (mo := mo) (lo := lo) (l := l) (junk := j) h), CT.at 16 (ansDblRNo (mo := mo) (lo := lo) (l := l) (junk := j') h), CT.at 18 (ansShows (mo := mo) (mo' := mo) (lo := lo) (l := l) (j := j) (j' := j') hs)] Lno false 0 0 lp4 lv4 nl4 154 (S4 mo lo l j j' acts i).1 (S4 mo lo l j j' acts i).2 =
  Tree.br (decide ((↑i : Int) < (↑(List.length acts) : Int)))
  (Tree.chk (decide ((0 : Int) ≤ (↑i : Int)) && decide ((↑i : Int) < (↑(List.length acts) : Int)))
    (Tree.br (decide ((70000 : Int) < (↑(ByteArray.size (List.getD acts i default).x.t) : Int)))
      (Tree.leaf
        (Out.mk AEx.ret
          [AV.sl (5 : Nat) (List.length acts) (lsF Act.c acts), AV.ptr (0 : Nat) (0 : Nat), AV.ptr (2 : Nat) (0 : Nat),
            AV.v (Value.int IntKind.i64 (↑i : Int)), AV.v (Value.bool true)]
          [some
              (Blk.row
                [AV.v (Value.int IntKind.i64 mo), AV.v (Value.int IntKind.i64 lo),
                  AV.hs (1 : Nat) (0 : Nat) (List.length l)]),
            some (Blk.arr (3 : Nat) (List.length (l ++ j)) (lsF It.c (l ++ j))),
            some
              (Blk.row
                [AV.v (Value.int IntKind.i64 mo), AV.v (Value.int IntKind.i64 lo),
                  AV.hs (3 : Nat) (0 : Nat) (List.length l)]),
            some (Blk.arr (3 : Nat) (List.length (l ++ j')) (lsF It.c (l ++ j')))]))
      (Tree.br (decide ((List.getD acts i default).k = (0 : Int))) Tree.fail
        (Tree.br (decide ((List.getD acts i default).k = (1 : Int))) Tree.fail
          (Tree.br (decide ((List.getD acts i default).k = (2 : Int)))
            (Tree.chk
              (cl
                (LeL [AV.ptr (0 : Nat) (0 : Nat), AV.v (Value.int IntKind.i64 (List.getD acts i default).i)]
                    [AV.ptr (0 : Nat) (0 : Nat), AV.v (Value.int IntKind.i64 (List.getD acts i default).i)] ∧
                  LeH
                    [some
                        (Blk.row
                          [AV.v (Value.int IntKind.i64 mo), AV.v (Value.int IntKind.i64 lo),
                            AV.hs (1 : Nat) (0 : Nat) (List.length l)]),
                      some (Blk.arr (3 : Nat) (List.length (l ++ j)) (lsF It.c (l ++ j)))]
                    [some
                        (Blk.row
                          [AV.v (Value.int IntKind.i64 mo), AV.v (Value.int IntKind.i64 lo),
                            AV.hs (1 : Nat) (0 : Nat) (List.length l)]),
                      some (Blk.arr (3 : Nat) (List.length (l ++ j)) (lsF It.c (l ++ j)))]))
              (Tree.chk
                (cl
                  (LeL [AV.ptr (0 : Nat) (0 : Nat), AV.v (Value.int IntKind.i64 (List.getD acts i default).i)]
                      [AV.ptr (0 : Nat) (0 : Nat), AV.v (Value.int IntKind.i64 (List.getD acts i default).i)] ∧
                    LeH
                      [some
                          (Blk.row
                            [AV.v (Value.int IntKind.i64 mo), AV.v (Value.int IntKind.i64 lo),
                              AV.hs (1 : Nat) (0 : Nat) (List.length l)]),
                        some (Blk.arr (3 : Nat) (List.length (l ++ j')) (lsF It.c (l ++ j')))]
                      [some
                          (Blk.row
                            [AV.v (Value.int IntKind.i64 mo), AV.v (Value.int IntKind.i64 lo),
                              AV.hs (1 : Nat) (0 : Nat) (List.length l)]),
                        some (Blk.arr (3 : Nat) (List.length (l ++ j')) (lsF It.c (l ++ j')))]))
                (Tree.br false
                  (Tree.leaf
                    (Out.mk AEx.ret
                      [AV.sl (5 : Nat) (List.length acts) (lsF Act.c acts), AV.ptr (0 : Nat) (0 : Nat),
                        AV.ptr (2 : Nat) (0 : Nat), AV.v (Value.int IntKind.i64 (↑i : Int)), AV.v (Value.bool false)]
                      [some
                          (Blk.row
                            [AV.v (Value.int IntKind.i64 mo), AV.v (Value.int IntKind.i64 lo),
                              AV.hs (1 : Nat) (0 : Nat) (List.length l)]),
                        some (Blk.arr (3 : Nat) (List.length (l ++ j)) (lsF It.c (l ++ j))),
                        some
                          (Blk.row
                            [AV.v (Value.int IntKind.i64 mo), AV.v (Value.int IntKind.i64 lo),
                              AV.hs (3 : Nat) (0 : Nat) (List.length l)]),
                        some (Blk.arr (3 : Nat) (List.length (l ++ j')) (lsF It.c (l ++ j')))]))
                  (Tree.chk
                    (cl
                      (LeL [AV.ptr (0 : Nat) (0 : Nat), AV.ptr (2 : Nat) (0 : Nat)]
                          [AV.ptr (0 : Nat) (0 : Nat), AV.ptr (2 : Nat) (0 : Nat)] ∧
                        LeH
                          [some
                              (Blk.row
                                [AV.v (Value.int IntKind.i64 mo), AV.v (Value.int IntKind.i64 lo),
                                  AV.hs (1 : Nat) (0 : Nat) (List.length l)]),
                            some (Blk.arr (3 : Nat) (List.length (l ++ j)) (lsF It.c (l ++ j))),
                            some
                              (Blk.row
                                [AV.v (Value.int IntKind.i64 mo), AV.v (Value.int IntKind.i64 lo),
                                  AV.hs (3 : Nat) (0 : Nat) (List.length l)]),
                            some (Blk.arr (3 : Nat) (List.length (l ++ j')) (lsF It.c (l ++ j')))]
                          [some
                              (Blk.row
                                [AV.v (Value.int IntKind.i64 mo), AV.v (Value.int IntKind.i64 lo),
                                  AV.hs (1 : Nat) (0 : Nat) (List.length l)]),
                            some (Blk.arr (3 : Nat) (List.length (l ++ j)) (lsF It.c (l ++ j))),
                            some
                              (Blk.row
                                [AV.v (Value.int IntKind.i64 mo), AV.v (Value.int IntKind.i64 lo),
                                  AV.hs (3 : Nat) (0 : Nat) (List.length l)]),
                            some (Blk.arr (3 : Nat) (List.length (l ++ j')) (lsF It.c (l ++ j')))]))
                    (Tree.br false
                      (Tree.leaf
                        (Out.mk AEx.ret
                          [AV.sl (5 : Nat) (List.length acts) (lsF Act.c acts), AV.ptr (0 : Nat) (0 : Nat),
                            AV.ptr (2 : Nat) (0 : Nat), AV.v (Value.int IntKind.i64 (↑i : Int)),
                            AV.v (Value.bool false)]
                          [some
                              (Blk.row
                                [AV.v (Value.int IntKind.i64 mo), AV.v (Value.int IntKind.i64 lo),
                                  AV.hs (1 : Nat) (0 : Nat) (List.length l)]),
                            some (Blk.arr (3 : Nat) (List.length (l ++ j)) (lsF It.c (l ++ j))),
                            some
                              (Blk.row
                                [AV.v (Value.int IntKind.i64 mo), AV.v (Value.int IntKind.i64 lo),
                                  AV.hs (3 : Nat) (0 : Nat) (List.length l)]),
                            some (Blk.arr (3 : Nat) (List.length (l ++ j')) (lsF It.c (l ++ j')))]))
                      (Tree.leaf
                        (Out.mk AEx.normal
                          [AV.sl (5 : Nat) (List.length acts) (lsF Act.c acts), AV.ptr (0 : Nat) (0 : Nat),
                            AV.ptr (2 : Nat) (0 : Nat),
                            AV.v (Value.int IntKind.i64 (IntKind.wrap IntKind.i64 ((↑i : Int) + (1 : Int)))), AV.any]
                          [some
                              (Blk.row
                                [AV.v (Value.int IntKind.i64 mo), AV.v (Value.int IntKind.i64 lo),
                                  AV.hs (1 : Nat) (0 : Nat) (List.length l)]),
                            some (Blk.arr (3 : Nat) (List.length (l ++ j)) (lsF It.c (l ++ j))),
                            some
                              (Blk.row
                                [AV.v (Value.int IntKind.i64 mo), AV.v (Value.int IntKind.i64 lo),
                                  AV.hs (3 : Nat) (0 : Nat) (List.length l)]),
                            some (Blk.arr (3 : Nat) (List.length (l ++ j')) (lsF It.c (l ++ j')))])))))))
            (Tree.br (decide ((List.getD acts i default).k = (3 : Int))) Tree.fail
              (Tree.br false
                (Tree.leaf
                  (Out.mk AEx.ret
                    [AV.sl (5 : Nat) (List.length acts) (lsF Act.c acts), AV.ptr (0 : Nat) (0 : Nat),
                      AV.ptr (2 : Nat) (0 : Nat), AV.v (Value.int IntKind.i64 (↑i : Int)), AV.v (Value.bool false)]
                    [some
                        (Blk.row
                          [AV.v (Value.int IntKind.i64 mo), AV.v (Value.int IntKind.i64 lo),
                            AV.hs (1 : Nat) (0 : Nat) (List.length l)]),
                      some (Blk.arr (3 : Nat) (List.length (l ++ j)) (lsF It.c (l ++ j))),
                      some
                        (Blk.row
                          [AV.v (Value.int IntKind.i64 mo), AV.v (Value.int IntKind.i64 lo),
                            AV.hs (3 : Nat) (0 : Nat) (List.length l)]),
                      some (Blk.arr (3 : Nat) (List.length (l ++ j')) (lsF It.c (l ++ j')))]))
                (Tree.chk
                  (cl
                    (LeL [AV.ptr (0 : Nat) (0 : Nat), AV.ptr (2 : Nat) (0 : Nat)]
                        [AV.ptr (0 : Nat) (0 : Nat), AV.ptr (2 : Nat) (0 : Nat)] ∧
                      LeH
                        [some
                            (Blk.row
                              [AV.v (Value.int IntKind.i64 mo), AV.v (Value.int IntKind.i64 lo),
                                AV.hs (1 : Nat) (0 : Nat) (List.length l)]),
                          some (Blk.arr (3 : Nat) (List.length (l ++ j)) (lsF It.c (l ++ j))),
                          some
                            (Blk.row
                              [AV.v (Value.int IntKind.i64 mo), AV.v (Value.int IntKind.i64 lo),
                                AV.hs (3 : Nat) (0 : Nat) (List.length l)]),
                          some (Blk.arr (3 : Nat) (List.length (l ++ j')) (lsF It.c (l ++ j')))]
                        [some
                            (Blk.row
                              [AV.v (Value.int IntKind.i64 mo), AV.v (Value.int IntKind.i64 lo),
                                AV.hs (1 : Nat) (0 : Nat) (List.length l)]),
                          some (Blk.arr (3 : Nat) (List.length (l ++ j)) (lsF It.c (l ++ j))),
                          some
                            (Blk.row
                              [AV.v (Value.int IntKind.i64 mo), AV.v (Value.int IntKind.i64 lo),
                                AV.hs (3 : Nat) (0 : Nat) (List.length l)]),
                          some (Blk.arr (3 : Nat) (List.length (l ++ j')) (lsF It.c (l ++ j')))]))
                  (Tree.br false
                    (Tree.leaf
                      (Out.mk AEx.ret
                        [AV.sl (5 : Nat) (List.length acts) (lsF Act.c acts), AV.ptr (0 : Nat) (0 : Nat),
                          AV.ptr (2 : Nat) (0 : Nat), AV.v (Value.int IntKind.i64 (↑i : Int)), AV.v (Value.bool false)]
                        [some
                            (Blk.row
                              [AV.v (Value.int IntKind.i64 mo), AV.v (Value.int IntKind.i64 lo),
                                AV.hs (1 : Nat) (0 : Nat) (List.length l)]),
                          some (Blk.arr (3 : Nat) (List.length (l ++ j)) (lsF It.c (l ++ j))),
                          some
                            (Blk.row
                              [AV.v (Value.int IntKind.i64 mo), AV.v (Value.int IntKind.i64 lo),
                                AV.hs (3 : Nat) (0 : Nat) (List.length l)]),
                          some (Blk.arr (3 : Nat) (List.length (l ++ j')) (lsF It.c (l ++ j')))]))
                    (Tree.leaf
                      (Out.mk AEx.normal
                        [AV.sl (5 : Nat) (List.length acts) (lsF Act.c acts), AV.ptr (0 : Nat) (0 : Nat),
                          AV.ptr (2 : Nat) (0 : Nat),
                          AV.v (Value.int IntKind.i64 (IntKind.wrap IntKind.i64 ((↑i : Int) + (1 : Int)))), AV.any]
                        [some
                            (Blk.row
                              [AV.v (Value.int IntKind.i64 mo), AV.v (Value.int IntKind.i64 lo),
                                AV.hs (1 : Nat) (0 : Nat) (List.length l)]),
                          some (Blk.arr (3 : Nat) (List.length (l ++ j)) (lsF It.c (l ++ j))),
                          some
                            (Blk.row
                              [AV.v (Value.int IntKind.i64 mo), AV.v (Value.int IntKind.i64 lo),
                                AV.hs (3 : Nat) (0 : Nat) (List.length l)]),
                          some (Blk.arr (3 : Nat) (List.length (l ++ j')) (lsF It.c (l ++ j')))])))))))))))
  (Tree.leaf
    (Out.mk (AEx.exit (0 : Nat))
      [AV.sl (5 : Nat) (List.length acts) (lsF Act.c acts), AV.ptr (0 : Nat) (0 : Nat), AV.ptr (2 : Nat) (0 : Nat),
        AV.v (Value.int IntKind.i64 (↑i : Int)), AV.any]
      [some
          (Blk.row
            [AV.v (Value.int IntKind.i64 mo), AV.v (Value.int IntKind.i64 lo),
              AV.hs (1 : Nat) (0 : Nat) (List.length l)]),
        some (Blk.arr (3 : Nat) (List.length (l ++ j)) (lsF It.c (l ++ j))),
        some
          (Blk.row
            [AV.v (Value.int IntKind.i64 mo), AV.v (Value.int IntKind.i64 lo),
              AV.hs (3 : Nat) (0 : Nat) (List.length l)]),
        some (Blk.arr (3 : Nat) (List.length (l ++ j')) (lsF It.c (l ++ j')))])) := by kernel_rfl
theorem r4dblFull (mo lo : Int) (l j j' : List It) (acts : List Act) (i : Nat) (p : Nat) (h : p < l.length) (h2 : (l.length : Int) = mo) (h0 : 0 ≤ lo) (h1 : lo ≤ 1000000000) (ht : (l.getD p default).t.size ≤ 65536) (hs : l.length ≤ 100000000) : roundE (P := Try.prog) (Γ := Γn) [CT.at 15 (ansDblFull (i := p) (mo := mo) (lo := lo) (l := l) (junk := j) h h2 h0 h1), CT.at 16 (ansDblRFull (i := p) (mo := mo) (lo := lo) (l := l) (junk := j') h ht (Int.le_of_eq h2.symm) h0 h1), CT.at 18 (ansShows (mo := mo) (mo' := mo) (lo := lo + 1) (l := l) (j := j) (j' := j') hs)] Lno false 0 0 lp4 lv4 nl4 154 (S4 mo lo l j j' acts i).1 (S4 mo lo l j j' acts i).2 =
  Tree.br (decide ((↑i : Int) < (↑(List.length acts) : Int)))
  (Tree.chk (decide ((0 : Int) ≤ (↑i : Int)) && decide ((↑i : Int) < (↑(List.length acts) : Int)))
    (Tree.br (decide ((70000 : Int) < (↑(ByteArray.size (List.getD acts i default).x.t) : Int)))
      (Tree.leaf
        (Out.mk AEx.ret
          [AV.sl (5 : Nat) (List.length acts) (lsF Act.c acts), AV.ptr (0 : Nat) (0 : Nat), AV.ptr (2 : Nat) (0 : Nat),
            AV.v (Value.int IntKind.i64 (↑i : Int)), AV.v (Value.bool true)]
          [some
              (Blk.row
                [AV.v (Value.int IntKind.i64 mo), AV.v (Value.int IntKind.i64 lo),
                  AV.hs (1 : Nat) (0 : Nat) (List.length l)]),
            some (Blk.arr (3 : Nat) (List.length (l ++ j)) (lsF It.c (l ++ j))),
            some
              (Blk.row
                [AV.v (Value.int IntKind.i64 mo), AV.v (Value.int IntKind.i64 lo),
                  AV.hs (3 : Nat) (0 : Nat) (List.length l)]),
            some (Blk.arr (3 : Nat) (List.length (l ++ j')) (lsF It.c (l ++ j')))]))
      (Tree.br (decide ((List.getD acts i default).k = (0 : Int))) Tree.fail
        (Tree.br (decide ((List.getD acts i default).k = (1 : Int))) Tree.fail
          (Tree.br (decide ((List.getD acts i default).k = (2 : Int)))
            (Tree.chk
              (cl
                (LeL [AV.ptr (0 : Nat) (0 : Nat), AV.v (Value.int IntKind.i64 (List.getD acts i default).i)]
                    [AV.ptr (0 : Nat) (0 : Nat), AV.v (Value.int IntKind.i64 (↑p : Int))] ∧
                  LeH
                    [some
                        (Blk.row
                          [AV.v (Value.int IntKind.i64 mo), AV.v (Value.int IntKind.i64 lo),
                            AV.hs (1 : Nat) (0 : Nat) (List.length l)]),
                      some (Blk.arr (3 : Nat) (List.length (l ++ j)) (lsF It.c (l ++ j)))]
                    [some
                        (Blk.row
                          [AV.v (Value.int IntKind.i64 mo), AV.v (Value.int IntKind.i64 lo),
                            AV.hs (1 : Nat) (0 : Nat) (List.length l)]),
                      some (Blk.arr (3 : Nat) (List.length (l ++ j)) (lsF It.c (l ++ j)))]))
              (Tree.chk
                (cl
                  (LeL [AV.ptr (0 : Nat) (0 : Nat), AV.v (Value.int IntKind.i64 (List.getD acts i default).i)]
                      [AV.ptr (0 : Nat) (0 : Nat), AV.v (Value.int IntKind.i64 (↑p : Int))] ∧
                    LeH
                      [some
                          (Blk.row
                            [AV.v (Value.int IntKind.i64 mo), AV.v (Value.int IntKind.i64 lo),
                              AV.hs (1 : Nat) (0 : Nat) (List.length l)]),
                        some (Blk.arr (3 : Nat) (List.length (l ++ j')) (lsF It.c (l ++ j')))]
                      [some
                          (Blk.row
                            [AV.v (Value.int IntKind.i64 mo), AV.v (Value.int IntKind.i64 lo),
                              AV.hs (1 : Nat) (0 : Nat) (List.length l)]),
                        some (Blk.arr (3 : Nat) (List.length (l ++ j')) (lsF It.c (l ++ j')))]))
                (Tree.br false
                  (Tree.leaf
                    (Out.mk AEx.ret
                      [AV.sl (5 : Nat) (List.length acts) (lsF Act.c acts), AV.ptr (0 : Nat) (0 : Nat),
                        AV.ptr (2 : Nat) (0 : Nat), AV.v (Value.int IntKind.i64 (↑i : Int)), AV.v (Value.bool false)]
                      [some
                          (Blk.row
                            [AV.v (Value.int IntKind.i64 mo), AV.v (Value.int IntKind.i64 (lo + (1 : Int))),
                              AV.hs (1 : Nat) (0 : Nat) (List.length l)]),
                        some (Blk.arr (3 : Nat) (List.length (l ++ j)) (lsF It.c (l ++ j))),
                        some
                          (Blk.row
                            [AV.v (Value.int IntKind.i64 mo), AV.v (Value.int IntKind.i64 (lo + (1 : Int))),
                              AV.hs (3 : Nat) (0 : Nat) (List.length l)]),
                        some (Blk.arr (3 : Nat) (List.length (l ++ j')) (lsF It.c (l ++ j')))]))
                  (Tree.chk
                    (cl
                      (LeL [AV.ptr (0 : Nat) (0 : Nat), AV.ptr (2 : Nat) (0 : Nat)]
                          [AV.ptr (0 : Nat) (0 : Nat), AV.ptr (2 : Nat) (0 : Nat)] ∧
                        LeH
                          [some
                              (Blk.row
                                [AV.v (Value.int IntKind.i64 mo), AV.v (Value.int IntKind.i64 (lo + (1 : Int))),
                                  AV.hs (1 : Nat) (0 : Nat) (List.length l)]),
                            some (Blk.arr (3 : Nat) (List.length (l ++ j)) (lsF It.c (l ++ j))),
                            some
                              (Blk.row
                                [AV.v (Value.int IntKind.i64 mo), AV.v (Value.int IntKind.i64 (lo + (1 : Int))),
                                  AV.hs (3 : Nat) (0 : Nat) (List.length l)]),
                            some (Blk.arr (3 : Nat) (List.length (l ++ j')) (lsF It.c (l ++ j')))]
                          [some
                              (Blk.row
                                [AV.v (Value.int IntKind.i64 mo), AV.v (Value.int IntKind.i64 (lo + (1 : Int))),
                                  AV.hs (1 : Nat) (0 : Nat) (List.length l)]),
                            some (Blk.arr (3 : Nat) (List.length (l ++ j)) (lsF It.c (l ++ j))),
                            some
                              (Blk.row
                                [AV.v (Value.int IntKind.i64 mo), AV.v (Value.int IntKind.i64 (lo + (1 : Int))),
                                  AV.hs (3 : Nat) (0 : Nat) (List.length l)]),
                            some (Blk.arr (3 : Nat) (List.length (l ++ j')) (lsF It.c (l ++ j')))]))
                    (Tree.br false
                      (Tree.leaf
                        (Out.mk AEx.ret
                          [AV.sl (5 : Nat) (List.length acts) (lsF Act.c acts), AV.ptr (0 : Nat) (0 : Nat),
                            AV.ptr (2 : Nat) (0 : Nat), AV.v (Value.int IntKind.i64 (↑i : Int)),
                            AV.v (Value.bool false)]
                          [some
                              (Blk.row
                                [AV.v (Value.int IntKind.i64 mo), AV.v (Value.int IntKind.i64 (lo + (1 : Int))),
                                  AV.hs (1 : Nat) (0 : Nat) (List.length l)]),
                            some (Blk.arr (3 : Nat) (List.length (l ++ j)) (lsF It.c (l ++ j))),
                            some
                              (Blk.row
                                [AV.v (Value.int IntKind.i64 mo), AV.v (Value.int IntKind.i64 (lo + (1 : Int))),
                                  AV.hs (3 : Nat) (0 : Nat) (List.length l)]),
                            some (Blk.arr (3 : Nat) (List.length (l ++ j')) (lsF It.c (l ++ j')))]))
                      (Tree.leaf
                        (Out.mk AEx.normal
                          [AV.sl (5 : Nat) (List.length acts) (lsF Act.c acts), AV.ptr (0 : Nat) (0 : Nat),
                            AV.ptr (2 : Nat) (0 : Nat),
                            AV.v (Value.int IntKind.i64 (IntKind.wrap IntKind.i64 ((↑i : Int) + (1 : Int)))), AV.any]
                          [some
                              (Blk.row
                                [AV.v (Value.int IntKind.i64 mo), AV.v (Value.int IntKind.i64 (lo + (1 : Int))),
                                  AV.hs (1 : Nat) (0 : Nat) (List.length l)]),
                            some (Blk.arr (3 : Nat) (List.length (l ++ j)) (lsF It.c (l ++ j))),
                            some
                              (Blk.row
                                [AV.v (Value.int IntKind.i64 mo), AV.v (Value.int IntKind.i64 (lo + (1 : Int))),
                                  AV.hs (3 : Nat) (0 : Nat) (List.length l)]),
                            some (Blk.arr (3 : Nat) (List.length (l ++ j')) (lsF It.c (l ++ j')))])))))))
            (Tree.br (decide ((List.getD acts i default).k = (3 : Int))) Tree.fail
              (Tree.br false
                (Tree.leaf
                  (Out.mk AEx.ret
                    [AV.sl (5 : Nat) (List.length acts) (lsF Act.c acts), AV.ptr (0 : Nat) (0 : Nat),
                      AV.ptr (2 : Nat) (0 : Nat), AV.v (Value.int IntKind.i64 (↑i : Int)), AV.v (Value.bool false)]
                    [some
                        (Blk.row
                          [AV.v (Value.int IntKind.i64 mo), AV.v (Value.int IntKind.i64 lo),
                            AV.hs (1 : Nat) (0 : Nat) (List.length l)]),
                      some (Blk.arr (3 : Nat) (List.length (l ++ j)) (lsF It.c (l ++ j))),
                      some
                        (Blk.row
                          [AV.v (Value.int IntKind.i64 mo), AV.v (Value.int IntKind.i64 lo),
                            AV.hs (3 : Nat) (0 : Nat) (List.length l)]),
                      some (Blk.arr (3 : Nat) (List.length (l ++ j')) (lsF It.c (l ++ j')))]))
                (Tree.chk
                  (cl
                    (LeL [AV.ptr (0 : Nat) (0 : Nat), AV.ptr (2 : Nat) (0 : Nat)]
                        [AV.ptr (0 : Nat) (0 : Nat), AV.ptr (2 : Nat) (0 : Nat)] ∧
                      LeH
                        [some
                            (Blk.row
                              [AV.v (Value.int IntKind.i64 mo), AV.v (Value.int IntKind.i64 lo),
                                AV.hs (1 : Nat) (0 : Nat) (List.length l)]),
                          some (Blk.arr (3 : Nat) (List.length (l ++ j)) (lsF It.c (l ++ j))),
                          some
                            (Blk.row
                              [AV.v (Value.int IntKind.i64 mo), AV.v (Value.int IntKind.i64 lo),
                                AV.hs (3 : Nat) (0 : Nat) (List.length l)]),
                          some (Blk.arr (3 : Nat) (List.length (l ++ j')) (lsF It.c (l ++ j')))]
                        [some
                            (Blk.row
                              [AV.v (Value.int IntKind.i64 mo), AV.v (Value.int IntKind.i64 (lo + (1 : Int))),
                                AV.hs (1 : Nat) (0 : Nat) (List.length l)]),
                          some (Blk.arr (3 : Nat) (List.length (l ++ j)) (lsF It.c (l ++ j))),
                          some
                            (Blk.row
                              [AV.v (Value.int IntKind.i64 mo), AV.v (Value.int IntKind.i64 (lo + (1 : Int))),
                                AV.hs (3 : Nat) (0 : Nat) (List.length l)]),
                          some (Blk.arr (3 : Nat) (List.length (l ++ j')) (lsF It.c (l ++ j')))]))
                  (Tree.br false
                    (Tree.leaf
                      (Out.mk AEx.ret
                        [AV.sl (5 : Nat) (List.length acts) (lsF Act.c acts), AV.ptr (0 : Nat) (0 : Nat),
                          AV.ptr (2 : Nat) (0 : Nat), AV.v (Value.int IntKind.i64 (↑i : Int)), AV.v (Value.bool false)]
                        [some
                            (Blk.row
                              [AV.v (Value.int IntKind.i64 mo), AV.v (Value.int IntKind.i64 (lo + (1 : Int))),
                                AV.hs (1 : Nat) (0 : Nat) (List.length l)]),
                          some (Blk.arr (3 : Nat) (List.length (l ++ j)) (lsF It.c (l ++ j))),
                          some
                            (Blk.row
                              [AV.v (Value.int IntKind.i64 mo), AV.v (Value.int IntKind.i64 (lo + (1 : Int))),
                                AV.hs (3 : Nat) (0 : Nat) (List.length l)]),
                          some (Blk.arr (3 : Nat) (List.length (l ++ j')) (lsF It.c (l ++ j')))]))
                    (Tree.leaf
                      (Out.mk AEx.normal
                        [AV.sl (5 : Nat) (List.length acts) (lsF Act.c acts), AV.ptr (0 : Nat) (0 : Nat),
                          AV.ptr (2 : Nat) (0 : Nat),
                          AV.v (Value.int IntKind.i64 (IntKind.wrap IntKind.i64 ((↑i : Int) + (1 : Int)))), AV.any]
                        [some
                            (Blk.row
                              [AV.v (Value.int IntKind.i64 mo), AV.v (Value.int IntKind.i64 (lo + (1 : Int))),
                                AV.hs (1 : Nat) (0 : Nat) (List.length l)]),
                          some (Blk.arr (3 : Nat) (List.length (l ++ j)) (lsF It.c (l ++ j))),
                          some
                            (Blk.row
                              [AV.v (Value.int IntKind.i64 mo), AV.v (Value.int IntKind.i64 (lo + (1 : Int))),
                                AV.hs (3 : Nat) (0 : Nat) (List.length l)]),
                          some (Blk.arr (3 : Nat) (List.length (l ++ j')) (lsF It.c (l ++ j')))])))))))))))
  (Tree.leaf
    (Out.mk (AEx.exit (0 : Nat))
      [AV.sl (5 : Nat) (List.length acts) (lsF Act.c acts), AV.ptr (0 : Nat) (0 : Nat), AV.ptr (2 : Nat) (0 : Nat),
        AV.v (Value.int IntKind.i64 (↑i : Int)), AV.any]
      [some
          (Blk.row
            [AV.v (Value.int IntKind.i64 mo), AV.v (Value.int IntKind.i64 lo),
              AV.hs (1 : Nat) (0 : Nat) (List.length l)]),
        some (Blk.arr (3 : Nat) (List.length (l ++ j)) (lsF It.c (l ++ j))),
        some
          (Blk.row
            [AV.v (Value.int IntKind.i64 mo), AV.v (Value.int IntKind.i64 lo),
              AV.hs (3 : Nat) (0 : Nat) (List.length l)]),
        some (Blk.arr (3 : Nat) (List.length (l ++ j')) (lsF It.c (l ++ j')))])) := by kernel_rfl
theorem r4dblOk (mo lo : Int) (l j j' : List It) (acts : List Act) (i : Nat) (p : Nat) (h : p < l.length) (h2 : (l.length : Int) ≠ mo) (h3 : ¬ mo ≤ (l.length : Int)) (ht : (l.getD p default).t.size ≤ 65536) (hs : (l ++ [l.getD p default]).length ≤ 100000000) (hs' : l.length ≤ 999999999) : roundE (P := Try.prog) (Γ := Γn) [CT.at 15 (ansDblOk (i := p) (mo := mo) (lo := lo) (l := l) (junk := j) h h2 hs'), CT.at 16 (ansDblROk (i := p) (mo := mo) (lo := lo) (l := l) (junk := j') h ht h3 hs'), CT.at 18 (ansShows (mo := mo) (mo' := mo) (lo := lo) (l := l ++ [l.getD p default]) (j := []) (j' := []) hs)] Lno false 0 0 lp4 lv4 nl4 154 (S4 mo lo l j j' acts i).1 (S4 mo lo l j j' acts i).2 =
  Tree.br (decide ((↑i : Int) < (↑(List.length acts) : Int)))
  (Tree.chk (decide ((0 : Int) ≤ (↑i : Int)) && decide ((↑i : Int) < (↑(List.length acts) : Int)))
    (Tree.br (decide ((70000 : Int) < (↑(ByteArray.size (List.getD acts i default).x.t) : Int)))
      (Tree.leaf
        (Out.mk AEx.ret
          [AV.sl (5 : Nat) (List.length acts) (lsF Act.c acts), AV.ptr (0 : Nat) (0 : Nat), AV.ptr (2 : Nat) (0 : Nat),
            AV.v (Value.int IntKind.i64 (↑i : Int)), AV.v (Value.bool true)]
          [some
              (Blk.row
                [AV.v (Value.int IntKind.i64 mo), AV.v (Value.int IntKind.i64 lo),
                  AV.hs (1 : Nat) (0 : Nat) (List.length l)]),
            some (Blk.arr (3 : Nat) (List.length (l ++ j)) (lsF It.c (l ++ j))),
            some
              (Blk.row
                [AV.v (Value.int IntKind.i64 mo), AV.v (Value.int IntKind.i64 lo),
                  AV.hs (3 : Nat) (0 : Nat) (List.length l)]),
            some (Blk.arr (3 : Nat) (List.length (l ++ j')) (lsF It.c (l ++ j')))]))
      (Tree.br (decide ((List.getD acts i default).k = (0 : Int))) Tree.fail
        (Tree.br (decide ((List.getD acts i default).k = (1 : Int))) Tree.fail
          (Tree.br (decide ((List.getD acts i default).k = (2 : Int)))
            (Tree.chk
              (cl
                (LeL [AV.ptr (0 : Nat) (0 : Nat), AV.v (Value.int IntKind.i64 (List.getD acts i default).i)]
                    [AV.ptr (0 : Nat) (0 : Nat), AV.v (Value.int IntKind.i64 (↑p : Int))] ∧
                  LeH
                    [some
                        (Blk.row
                          [AV.v (Value.int IntKind.i64 mo), AV.v (Value.int IntKind.i64 lo),
                            AV.hs (1 : Nat) (0 : Nat) (List.length l)]),
                      some (Blk.arr (3 : Nat) (List.length (l ++ j)) (lsF It.c (l ++ j)))]
                    [some
                        (Blk.row
                          [AV.v (Value.int IntKind.i64 mo), AV.v (Value.int IntKind.i64 lo),
                            AV.hs (1 : Nat) (0 : Nat) (List.length l)]),
                      some (Blk.arr (3 : Nat) (List.length (l ++ j)) (lsF It.c (l ++ j)))]))
              (Tree.chk
                (cl
                  (LeL [AV.ptr (0 : Nat) (0 : Nat), AV.v (Value.int IntKind.i64 (List.getD acts i default).i)]
                      [AV.ptr (0 : Nat) (0 : Nat), AV.v (Value.int IntKind.i64 (↑p : Int))] ∧
                    LeH
                      [some
                          (Blk.row
                            [AV.v (Value.int IntKind.i64 mo), AV.v (Value.int IntKind.i64 lo),
                              AV.hs (1 : Nat) (0 : Nat) (List.length l)]),
                        some (Blk.arr (3 : Nat) (List.length (l ++ j')) (lsF It.c (l ++ j')))]
                      [some
                          (Blk.row
                            [AV.v (Value.int IntKind.i64 mo), AV.v (Value.int IntKind.i64 lo),
                              AV.hs (1 : Nat) (0 : Nat) (List.length l)]),
                        some (Blk.arr (3 : Nat) (List.length (l ++ j')) (lsF It.c (l ++ j')))]))
                (Tree.br false
                  (Tree.leaf
                    (Out.mk AEx.ret
                      [AV.sl (5 : Nat) (List.length acts) (lsF Act.c acts), AV.ptr (0 : Nat) (0 : Nat),
                        AV.ptr (2 : Nat) (0 : Nat), AV.v (Value.int IntKind.i64 (↑i : Int)), AV.v (Value.bool false)]
                      [some
                          (Blk.row
                            [AV.v (Value.int IntKind.i64 mo), AV.v (Value.int IntKind.i64 lo),
                              AV.hs (1 : Nat) (0 : Nat) (List.length (l ++ [List.getD l p default]))]),
                        some
                          (Blk.arr (3 : Nat) (List.length (l ++ [List.getD l p default]))
                            (lsF It.c (l ++ [List.getD l p default]))),
                        some
                          (Blk.row
                            [AV.v (Value.int IntKind.i64 mo), AV.v (Value.int IntKind.i64 lo),
                              AV.hs (3 : Nat) (0 : Nat) (List.length (l ++ [List.getD l p default]))]),
                        some
                          (Blk.arr (3 : Nat) (List.length (l ++ [List.getD l p default]))
                            (lsF It.c (l ++ [List.getD l p default])))]))
                  (Tree.chk
                    (cl
                      (LeL [AV.ptr (0 : Nat) (0 : Nat), AV.ptr (2 : Nat) (0 : Nat)]
                          [AV.ptr (0 : Nat) (0 : Nat), AV.ptr (2 : Nat) (0 : Nat)] ∧
                        LeH
                          [some
                              (Blk.row
                                [AV.v (Value.int IntKind.i64 mo), AV.v (Value.int IntKind.i64 lo),
                                  AV.hs (1 : Nat) (0 : Nat) (List.length (l ++ [List.getD l p default]))]),
                            some
                              (Blk.arr (3 : Nat) (List.length (l ++ [List.getD l p default]))
                                (lsF It.c (l ++ [List.getD l p default]))),
                            some
                              (Blk.row
                                [AV.v (Value.int IntKind.i64 mo), AV.v (Value.int IntKind.i64 lo),
                                  AV.hs (3 : Nat) (0 : Nat) (List.length (l ++ [List.getD l p default]))]),
                            some
                              (Blk.arr (3 : Nat) (List.length (l ++ [List.getD l p default]))
                                (lsF It.c (l ++ [List.getD l p default])))]
                          [some
                              (Blk.row
                                [AV.v (Value.int IntKind.i64 mo), AV.v (Value.int IntKind.i64 lo),
                                  AV.hs (1 : Nat) (0 : Nat) (List.length (l ++ [List.getD l p default]))]),
                            some
                              (Blk.arr (3 : Nat) (List.length (l ++ [List.getD l p default] ++ []))
                                (lsF It.c (l ++ [List.getD l p default] ++ []))),
                            some
                              (Blk.row
                                [AV.v (Value.int IntKind.i64 mo), AV.v (Value.int IntKind.i64 lo),
                                  AV.hs (3 : Nat) (0 : Nat) (List.length (l ++ [List.getD l p default]))]),
                            some
                              (Blk.arr (3 : Nat) (List.length (l ++ [List.getD l p default] ++ []))
                                (lsF It.c (l ++ [List.getD l p default] ++ [])))]))
                    (Tree.br false
                      (Tree.leaf
                        (Out.mk AEx.ret
                          [AV.sl (5 : Nat) (List.length acts) (lsF Act.c acts), AV.ptr (0 : Nat) (0 : Nat),
                            AV.ptr (2 : Nat) (0 : Nat), AV.v (Value.int IntKind.i64 (↑i : Int)),
                            AV.v (Value.bool false)]
                          [some
                              (Blk.row
                                [AV.v (Value.int IntKind.i64 mo), AV.v (Value.int IntKind.i64 lo),
                                  AV.hs (1 : Nat) (0 : Nat) (List.length (l ++ [List.getD l p default]))]),
                            some
                              (Blk.arr (3 : Nat) (List.length (l ++ [List.getD l p default] ++ []))
                                (lsF It.c (l ++ [List.getD l p default] ++ []))),
                            some
                              (Blk.row
                                [AV.v (Value.int IntKind.i64 mo), AV.v (Value.int IntKind.i64 lo),
                                  AV.hs (3 : Nat) (0 : Nat) (List.length (l ++ [List.getD l p default]))]),
                            some
                              (Blk.arr (3 : Nat) (List.length (l ++ [List.getD l p default] ++ []))
                                (lsF It.c (l ++ [List.getD l p default] ++ [])))]))
                      (Tree.leaf
                        (Out.mk AEx.normal
                          [AV.sl (5 : Nat) (List.length acts) (lsF Act.c acts), AV.ptr (0 : Nat) (0 : Nat),
                            AV.ptr (2 : Nat) (0 : Nat),
                            AV.v (Value.int IntKind.i64 (IntKind.wrap IntKind.i64 ((↑i : Int) + (1 : Int)))), AV.any]
                          [some
                              (Blk.row
                                [AV.v (Value.int IntKind.i64 mo), AV.v (Value.int IntKind.i64 lo),
                                  AV.hs (1 : Nat) (0 : Nat) (List.length (l ++ [List.getD l p default]))]),
                            some
                              (Blk.arr (3 : Nat) (List.length (l ++ [List.getD l p default] ++ []))
                                (lsF It.c (l ++ [List.getD l p default] ++ []))),
                            some
                              (Blk.row
                                [AV.v (Value.int IntKind.i64 mo), AV.v (Value.int IntKind.i64 lo),
                                  AV.hs (3 : Nat) (0 : Nat) (List.length (l ++ [List.getD l p default]))]),
                            some
                              (Blk.arr (3 : Nat) (List.length (l ++ [List.getD l p default] ++ []))
                                (lsF It.c (l ++ [List.getD l p default] ++ [])))])))))))
            (Tree.br (decide ((List.getD acts i default).k = (3 : Int))) Tree.fail
              (Tree.br false
                (Tree.leaf
                  (Out.mk AEx.ret
                    [AV.sl (5 : Nat) (List.length acts) (lsF Act.c acts), AV.ptr (0 : Nat) (0 : Nat),
                      AV.ptr (2 : Nat) (0 : Nat), AV.v (Value.int IntKind.i64 (↑i : Int)), AV.v (Value.bool false)]
                    [some
                        (Blk.row
                          [AV.v (Value.int IntKind.i64 mo), AV.v (Value.int IntKind.i64 lo),
                            AV.hs (1 : Nat) (0 : Nat) (List.length l)]),
                      some (Blk.arr (3 : Nat) (List.length (l ++ j)) (lsF It.c (l ++ j))),
                      some
                        (Blk.row
                          [AV.v (Value.int IntKind.i64 mo), AV.v (Value.int IntKind.i64 lo),
                            AV.hs (3 : Nat) (0 : Nat) (List.length l)]),
                      some (Blk.arr (3 : Nat) (List.length (l ++ j')) (lsF It.c (l ++ j')))]))
                (Tree.chk
                  (cl
                    (LeL [AV.ptr (0 : Nat) (0 : Nat), AV.ptr (2 : Nat) (0 : Nat)]
                        [AV.ptr (0 : Nat) (0 : Nat), AV.ptr (2 : Nat) (0 : Nat)] ∧
                      LeH
                        [some
                            (Blk.row
                              [AV.v (Value.int IntKind.i64 mo), AV.v (Value.int IntKind.i64 lo),
                                AV.hs (1 : Nat) (0 : Nat) (List.length l)]),
                          some (Blk.arr (3 : Nat) (List.length (l ++ j)) (lsF It.c (l ++ j))),
                          some
                            (Blk.row
                              [AV.v (Value.int IntKind.i64 mo), AV.v (Value.int IntKind.i64 lo),
                                AV.hs (3 : Nat) (0 : Nat) (List.length l)]),
                          some (Blk.arr (3 : Nat) (List.length (l ++ j')) (lsF It.c (l ++ j')))]
                        [some
                            (Blk.row
                              [AV.v (Value.int IntKind.i64 mo), AV.v (Value.int IntKind.i64 lo),
                                AV.hs (1 : Nat) (0 : Nat) (List.length (l ++ [List.getD l p default]))]),
                          some
                            (Blk.arr (3 : Nat) (List.length (l ++ [List.getD l p default] ++ []))
                              (lsF It.c (l ++ [List.getD l p default] ++ []))),
                          some
                            (Blk.row
                              [AV.v (Value.int IntKind.i64 mo), AV.v (Value.int IntKind.i64 lo),
                                AV.hs (3 : Nat) (0 : Nat) (List.length (l ++ [List.getD l p default]))]),
                          some
                            (Blk.arr (3 : Nat) (List.length (l ++ [List.getD l p default] ++ []))
                              (lsF It.c (l ++ [List.getD l p default] ++ [])))]))
                  (Tree.br false
                    (Tree.leaf
                      (Out.mk AEx.ret
                        [AV.sl (5 : Nat) (List.length acts) (lsF Act.c acts), AV.ptr (0 : Nat) (0 : Nat),
                          AV.ptr (2 : Nat) (0 : Nat), AV.v (Value.int IntKind.i64 (↑i : Int)), AV.v (Value.bool false)]
                        [some
                            (Blk.row
                              [AV.v (Value.int IntKind.i64 mo), AV.v (Value.int IntKind.i64 lo),
                                AV.hs (1 : Nat) (0 : Nat) (List.length (l ++ [List.getD l p default]))]),
                          some
                            (Blk.arr (3 : Nat) (List.length (l ++ [List.getD l p default] ++ []))
                              (lsF It.c (l ++ [List.getD l p default] ++ []))),
                          some
                            (Blk.row
                              [AV.v (Value.int IntKind.i64 mo), AV.v (Value.int IntKind.i64 lo),
                                AV.hs (3 : Nat) (0 : Nat) (List.length (l ++ [List.getD l p default]))]),
                          some
                            (Blk.arr (3 : Nat) (List.length (l ++ [List.getD l p default] ++ []))
                              (lsF It.c (l ++ [List.getD l p default] ++ [])))]))
                    (Tree.leaf
                      (Out.mk AEx.normal
                        [AV.sl (5 : Nat) (List.length acts) (lsF Act.c acts), AV.ptr (0 : Nat) (0 : Nat),
                          AV.ptr (2 : Nat) (0 : Nat),
                          AV.v (Value.int IntKind.i64 (IntKind.wrap IntKind.i64 ((↑i : Int) + (1 : Int)))), AV.any]
                        [some
                            (Blk.row
                              [AV.v (Value.int IntKind.i64 mo), AV.v (Value.int IntKind.i64 lo),
                                AV.hs (1 : Nat) (0 : Nat) (List.length (l ++ [List.getD l p default]))]),
                          some
                            (Blk.arr (3 : Nat) (List.length (l ++ [List.getD l p default] ++ []))
                              (lsF It.c (l ++ [List.getD l p default] ++ []))),
                          some
                            (Blk.row
                              [AV.v (Value.int IntKind.i64 mo), AV.v (Value.int IntKind.i64 lo),
                                AV.hs (3 : Nat) (0 : Nat) (List.length (l ++ [List.getD l p default]))]),
                          some
                            (Blk.arr (3 : Nat) (List.length (l ++ [List.getD l p default] ++ []))
                              (lsF It.c (l ++ [List.getD l p default] ++ [])))])))))))))))
  (Tree.leaf
    (Out.mk (AEx.exit (0 : Nat))
      [AV.sl (5 : Nat) (List.length acts) (lsF Act.c acts), AV.ptr (0 : Nat) (0 : Nat), AV.ptr (2 : Nat) (0 : Nat),
        AV.v (Value.int IntKind.i64 (↑i : Int)), AV.any]
      [some
          (Blk.row
            [AV.v (Value.int IntKind.i64 mo), AV.v (Value.int IntKind.i64 lo),
              AV.hs (1 : Nat) (0 : Nat) (List.length l)]),
        some (Blk.arr (3 : Nat) (List.length (l ++ j)) (lsF It.c (l ++ j))),
        some
          (Blk.row
            [AV.v (Value.int IntKind.i64 mo), AV.v (Value.int IntKind.i64 lo),
              AV.hs (3 : Nat) (0 : Nat) (List.length l)]),
        some (Blk.arr (3 : Nat) (List.length (l ++ j')) (lsF It.c (l ++ j')))])) := by kernel_rfl
theorem r4atNo (mo lo : Int) (l j j' : List It) (acts : List Act) (i : Nat) (h : (acts.getD i default).i < 0 ∨ (l.length : Int) ≤ (acts.getD i default).i) (hs : l.length ≤ 100000000) : roundE (P := Try.prog) (Γ := Γn) [CT.at 17 (ansAtNo (mo := mo) (lo := lo) (l := l) (junk := j) h), CT.at 18 (ansShows (mo := mo) (mo' := mo) (lo := lo) (l := l) (j := j) (j' := j') hs)] Lno false 0 0 lp4 lv4 nl4 154 (S4 mo lo l j j' acts i).1 (S4 mo lo l j j' acts i).2 =
  Tree.br (decide ((↑i : Int) < (↑(List.length acts) : Int)))
  (Tree.chk (decide ((0 : Int) ≤ (↑i : Int)) && decide ((↑i : Int) < (↑(List.length acts) : Int)))
    (Tree.br (decide ((70000 : Int) < (↑(ByteArray.size (List.getD acts i default).x.t) : Int)))
      (Tree.leaf
        (Out.mk AEx.ret
          [AV.sl (5 : Nat) (List.length acts) (lsF Act.c acts), AV.ptr (0 : Nat) (0 : Nat), AV.ptr (2 : Nat) (0 : Nat),
            AV.v (Value.int IntKind.i64 (↑i : Int)), AV.v (Value.bool true)]
          [some
              (Blk.row
                [AV.v (Value.int IntKind.i64 mo), AV.v (Value.int IntKind.i64 lo),
                  AV.hs (1 : Nat) (0 : Nat) (List.length l)]),
            some (Blk.arr (3 : Nat) (List.length (l ++ j)) (lsF It.c (l ++ j))),
            some
              (Blk.row
                [AV.v (Value.int IntKind.i64 mo), AV.v (Value.int IntKind.i64 lo),
                  AV.hs (3 : Nat) (0 : Nat) (List.length l)]),
            some (Blk.arr (3 : Nat) (List.length (l ++ j')) (lsF It.c (l ++ j')))]))
      (Tree.br (decide ((List.getD acts i default).k = (0 : Int))) Tree.fail
        (Tree.br (decide ((List.getD acts i default).k = (1 : Int))) Tree.fail
          (Tree.br (decide ((List.getD acts i default).k = (2 : Int))) Tree.fail
            (Tree.br (decide ((List.getD acts i default).k = (3 : Int)))
              (Tree.chk
                (cl
                  (LeL [AV.ptr (0 : Nat) (0 : Nat), AV.v (Value.int IntKind.i64 (List.getD acts i default).i)]
                      [AV.ptr (0 : Nat) (0 : Nat), AV.v (Value.int IntKind.i64 (List.getD acts i default).i)] ∧
                    LeH
                      [some
                          (Blk.row
                            [AV.v (Value.int IntKind.i64 mo), AV.v (Value.int IntKind.i64 lo),
                              AV.hs (1 : Nat) (0 : Nat) (List.length l)]),
                        some (Blk.arr (3 : Nat) (List.length (l ++ j)) (lsF It.c (l ++ j)))]
                      [some
                          (Blk.row
                            [AV.v (Value.int IntKind.i64 mo), AV.v (Value.int IntKind.i64 lo),
                              AV.hs (1 : Nat) (0 : Nat) (List.length l)]),
                        some (Blk.arr (3 : Nat) (List.length (l ++ j)) (lsF It.c (l ++ j)))]))
                (Tree.br
                  (bif decide ((List.getD acts i default).i < (0 : Int)) then true
                  else decide ((↑(List.length l) : Int) ≤ (List.getD acts i default).i))
                  (Tree.br false
                    (Tree.leaf
                      (Out.mk AEx.ret
                        [AV.sl (5 : Nat) (List.length acts) (lsF Act.c acts), AV.ptr (0 : Nat) (0 : Nat),
                          AV.ptr (2 : Nat) (0 : Nat), AV.v (Value.int IntKind.i64 (↑i : Int)), AV.v (Value.bool false)]
                        [some
                            (Blk.row
                              [AV.v (Value.int IntKind.i64 mo), AV.v (Value.int IntKind.i64 lo),
                                AV.hs (1 : Nat) (0 : Nat) (List.length l)]),
                          some (Blk.arr (3 : Nat) (List.length (l ++ j)) (lsF It.c (l ++ j))),
                          some
                            (Blk.row
                              [AV.v (Value.int IntKind.i64 mo), AV.v (Value.int IntKind.i64 lo),
                                AV.hs (3 : Nat) (0 : Nat) (List.length l)]),
                          some (Blk.arr (3 : Nat) (List.length (l ++ j')) (lsF It.c (l ++ j')))]))
                    (Tree.br false
                      (Tree.leaf
                        (Out.mk AEx.ret
                          [AV.sl (5 : Nat) (List.length acts) (lsF Act.c acts), AV.ptr (0 : Nat) (0 : Nat),
                            AV.ptr (2 : Nat) (0 : Nat), AV.v (Value.int IntKind.i64 (↑i : Int)),
                            AV.v (Value.bool false)]
                          [some
                              (Blk.row
                                [AV.v (Value.int IntKind.i64 mo), AV.v (Value.int IntKind.i64 lo),
                                  AV.hs (1 : Nat) (0 : Nat) (List.length l)]),
                            some (Blk.arr (3 : Nat) (List.length (l ++ j)) (lsF It.c (l ++ j))),
                            some
                              (Blk.row
                                [AV.v (Value.int IntKind.i64 mo), AV.v (Value.int IntKind.i64 lo),
                                  AV.hs (3 : Nat) (0 : Nat) (List.length l)]),
                            some (Blk.arr (3 : Nat) (List.length (l ++ j')) (lsF It.c (l ++ j')))]))
                      (Tree.chk
                        (cl
                          (LeL [AV.ptr (0 : Nat) (0 : Nat), AV.ptr (2 : Nat) (0 : Nat)]
                              [AV.ptr (0 : Nat) (0 : Nat), AV.ptr (2 : Nat) (0 : Nat)] ∧
                            LeH
                              [some
                                  (Blk.row
                                    [AV.v (Value.int IntKind.i64 mo), AV.v (Value.int IntKind.i64 lo),
                                      AV.hs (1 : Nat) (0 : Nat) (List.length l)]),
                                some (Blk.arr (3 : Nat) (List.length (l ++ j)) (lsF It.c (l ++ j))),
                                some
                                  (Blk.row
                                    [AV.v (Value.int IntKind.i64 mo), AV.v (Value.int IntKind.i64 lo),
                                      AV.hs (3 : Nat) (0 : Nat) (List.length l)]),
                                some (Blk.arr (3 : Nat) (List.length (l ++ j')) (lsF It.c (l ++ j')))]
                              [some
                                  (Blk.row
                                    [AV.v (Value.int IntKind.i64 mo), AV.v (Value.int IntKind.i64 lo),
                                      AV.hs (1 : Nat) (0 : Nat) (List.length l)]),
                                some (Blk.arr (3 : Nat) (List.length (l ++ j)) (lsF It.c (l ++ j))),
                                some
                                  (Blk.row
                                    [AV.v (Value.int IntKind.i64 mo), AV.v (Value.int IntKind.i64 lo),
                                      AV.hs (3 : Nat) (0 : Nat) (List.length l)]),
                                some (Blk.arr (3 : Nat) (List.length (l ++ j')) (lsF It.c (l ++ j')))]))
                        (Tree.br false
                          (Tree.leaf
                            (Out.mk AEx.ret
                              [AV.sl (5 : Nat) (List.length acts) (lsF Act.c acts), AV.ptr (0 : Nat) (0 : Nat),
                                AV.ptr (2 : Nat) (0 : Nat), AV.v (Value.int IntKind.i64 (↑i : Int)),
                                AV.v (Value.bool false)]
                              [some
                                  (Blk.row
                                    [AV.v (Value.int IntKind.i64 mo), AV.v (Value.int IntKind.i64 lo),
                                      AV.hs (1 : Nat) (0 : Nat) (List.length l)]),
                                some (Blk.arr (3 : Nat) (List.length (l ++ j)) (lsF It.c (l ++ j))),
                                some
                                  (Blk.row
                                    [AV.v (Value.int IntKind.i64 mo), AV.v (Value.int IntKind.i64 lo),
                                      AV.hs (3 : Nat) (0 : Nat) (List.length l)]),
                                some (Blk.arr (3 : Nat) (List.length (l ++ j')) (lsF It.c (l ++ j')))]))
                          (Tree.leaf
                            (Out.mk AEx.normal
                              [AV.sl (5 : Nat) (List.length acts) (lsF Act.c acts), AV.ptr (0 : Nat) (0 : Nat),
                                AV.ptr (2 : Nat) (0 : Nat),
                                AV.v (Value.int IntKind.i64 (IntKind.wrap IntKind.i64 ((↑i : Int) + (1 : Int)))),
                                AV.any]
                              [some
                                  (Blk.row
                                    [AV.v (Value.int IntKind.i64 mo), AV.v (Value.int IntKind.i64 lo),
                                      AV.hs (1 : Nat) (0 : Nat) (List.length l)]),
                                some (Blk.arr (3 : Nat) (List.length (l ++ j)) (lsF It.c (l ++ j))),
                                some
                                  (Blk.row
                                    [AV.v (Value.int IntKind.i64 mo), AV.v (Value.int IntKind.i64 lo),
                                      AV.hs (3 : Nat) (0 : Nat) (List.length l)]),
                                some (Blk.arr (3 : Nat) (List.length (l ++ j')) (lsF It.c (l ++ j')))]))))))
                  (Tree.chk true
                    (Tree.br true
                      (Tree.leaf
                        (Out.mk AEx.ret
                          [AV.sl (5 : Nat) (List.length acts) (lsF Act.c acts), AV.ptr (0 : Nat) (0 : Nat),
                            AV.ptr (2 : Nat) (0 : Nat), AV.v (Value.int IntKind.i64 (↑i : Int)),
                            AV.v (Value.bool false)]
                          [some
                              (Blk.row
                                [AV.v (Value.int IntKind.i64 mo), AV.v (Value.int IntKind.i64 lo),
                                  AV.hs (1 : Nat) (0 : Nat) (List.length l)]),
                            some (Blk.arr (3 : Nat) (List.length (l ++ j)) (lsF It.c (l ++ j))),
                            some
                              (Blk.row
                                [AV.v (Value.int IntKind.i64 mo), AV.v (Value.int IntKind.i64 lo),
                                  AV.hs (3 : Nat) (0 : Nat) (List.length l)]),
                            some (Blk.arr (3 : Nat) (List.length (l ++ j')) (lsF It.c (l ++ j')))]))
                      (Tree.br false
                        (Tree.leaf
                          (Out.mk AEx.ret
                            [AV.sl (5 : Nat) (List.length acts) (lsF Act.c acts), AV.ptr (0 : Nat) (0 : Nat),
                              AV.ptr (2 : Nat) (0 : Nat), AV.v (Value.int IntKind.i64 (↑i : Int)),
                              AV.v (Value.bool false)]
                            [some
                                (Blk.row
                                  [AV.v (Value.int IntKind.i64 mo), AV.v (Value.int IntKind.i64 lo),
                                    AV.hs (1 : Nat) (0 : Nat) (List.length l)]),
                              some (Blk.arr (3 : Nat) (List.length (l ++ j)) (lsF It.c (l ++ j))),
                              some
                                (Blk.row
                                  [AV.v (Value.int IntKind.i64 mo), AV.v (Value.int IntKind.i64 lo),
                                    AV.hs (3 : Nat) (0 : Nat) (List.length l)]),
                              some (Blk.arr (3 : Nat) (List.length (l ++ j')) (lsF It.c (l ++ j')))]))
                        (Tree.chk
                          (cl
                            (LeL [AV.ptr (0 : Nat) (0 : Nat), AV.ptr (2 : Nat) (0 : Nat)]
                                [AV.ptr (0 : Nat) (0 : Nat), AV.ptr (2 : Nat) (0 : Nat)] ∧
                              LeH
                                [some
                                    (Blk.row
                                      [AV.v (Value.int IntKind.i64 mo), AV.v (Value.int IntKind.i64 lo),
                                        AV.hs (1 : Nat) (0 : Nat) (List.length l)]),
                                  some (Blk.arr (3 : Nat) (List.length (l ++ j)) (lsF It.c (l ++ j))),
                                  some
                                    (Blk.row
                                      [AV.v (Value.int IntKind.i64 mo), AV.v (Value.int IntKind.i64 lo),
                                        AV.hs (3 : Nat) (0 : Nat) (List.length l)]),
                                  some (Blk.arr (3 : Nat) (List.length (l ++ j')) (lsF It.c (l ++ j')))]
                                [some
                                    (Blk.row
                                      [AV.v (Value.int IntKind.i64 mo), AV.v (Value.int IntKind.i64 lo),
                                        AV.hs (1 : Nat) (0 : Nat) (List.length l)]),
                                  some (Blk.arr (3 : Nat) (List.length (l ++ j)) (lsF It.c (l ++ j))),
                                  some
                                    (Blk.row
                                      [AV.v (Value.int IntKind.i64 mo), AV.v (Value.int IntKind.i64 lo),
                                        AV.hs (3 : Nat) (0 : Nat) (List.length l)]),
                                  some (Blk.arr (3 : Nat) (List.length (l ++ j')) (lsF It.c (l ++ j')))]))
                          (Tree.br false
                            (Tree.leaf
                              (Out.mk AEx.ret
                                [AV.sl (5 : Nat) (List.length acts) (lsF Act.c acts), AV.ptr (0 : Nat) (0 : Nat),
                                  AV.ptr (2 : Nat) (0 : Nat), AV.v (Value.int IntKind.i64 (↑i : Int)),
                                  AV.v (Value.bool false)]
                                [some
                                    (Blk.row
                                      [AV.v (Value.int IntKind.i64 mo), AV.v (Value.int IntKind.i64 lo),
                                        AV.hs (1 : Nat) (0 : Nat) (List.length l)]),
                                  some (Blk.arr (3 : Nat) (List.length (l ++ j)) (lsF It.c (l ++ j))),
                                  some
                                    (Blk.row
                                      [AV.v (Value.int IntKind.i64 mo), AV.v (Value.int IntKind.i64 lo),
                                        AV.hs (3 : Nat) (0 : Nat) (List.length l)]),
                                  some (Blk.arr (3 : Nat) (List.length (l ++ j')) (lsF It.c (l ++ j')))]))
                            (Tree.leaf
                              (Out.mk AEx.normal
                                [AV.sl (5 : Nat) (List.length acts) (lsF Act.c acts), AV.ptr (0 : Nat) (0 : Nat),
                                  AV.ptr (2 : Nat) (0 : Nat),
                                  AV.v (Value.int IntKind.i64 (IntKind.wrap IntKind.i64 ((↑i : Int) + (1 : Int)))),
                                  AV.any]
                                [some
                                    (Blk.row
                                      [AV.v (Value.int IntKind.i64 mo), AV.v (Value.int IntKind.i64 lo),
                                        AV.hs (1 : Nat) (0 : Nat) (List.length l)]),
                                  some (Blk.arr (3 : Nat) (List.length (l ++ j)) (lsF It.c (l ++ j))),
                                  some
                                    (Blk.row
                                      [AV.v (Value.int IntKind.i64 mo), AV.v (Value.int IntKind.i64 lo),
                                        AV.hs (3 : Nat) (0 : Nat) (List.length l)]),
                                  some (Blk.arr (3 : Nat) (List.length (l ++ j')) (lsF It.c (l ++ j')))])))))))))
              (Tree.br false
                (Tree.leaf
                  (Out.mk AEx.ret
                    [AV.sl (5 : Nat) (List.length acts) (lsF Act.c acts), AV.ptr (0 : Nat) (0 : Nat),
                      AV.ptr (2 : Nat) (0 : Nat), AV.v (Value.int IntKind.i64 (↑i : Int)), AV.v (Value.bool false)]
                    [some
                        (Blk.row
                          [AV.v (Value.int IntKind.i64 mo), AV.v (Value.int IntKind.i64 lo),
                            AV.hs (1 : Nat) (0 : Nat) (List.length l)]),
                      some (Blk.arr (3 : Nat) (List.length (l ++ j)) (lsF It.c (l ++ j))),
                      some
                        (Blk.row
                          [AV.v (Value.int IntKind.i64 mo), AV.v (Value.int IntKind.i64 lo),
                            AV.hs (3 : Nat) (0 : Nat) (List.length l)]),
                      some (Blk.arr (3 : Nat) (List.length (l ++ j')) (lsF It.c (l ++ j')))]))
                (Tree.chk
                  (cl
                    (LeL [AV.ptr (0 : Nat) (0 : Nat), AV.ptr (2 : Nat) (0 : Nat)]
                        [AV.ptr (0 : Nat) (0 : Nat), AV.ptr (2 : Nat) (0 : Nat)] ∧
                      LeH
                        [some
                            (Blk.row
                              [AV.v (Value.int IntKind.i64 mo), AV.v (Value.int IntKind.i64 lo),
                                AV.hs (1 : Nat) (0 : Nat) (List.length l)]),
                          some (Blk.arr (3 : Nat) (List.length (l ++ j)) (lsF It.c (l ++ j))),
                          some
                            (Blk.row
                              [AV.v (Value.int IntKind.i64 mo), AV.v (Value.int IntKind.i64 lo),
                                AV.hs (3 : Nat) (0 : Nat) (List.length l)]),
                          some (Blk.arr (3 : Nat) (List.length (l ++ j')) (lsF It.c (l ++ j')))]
                        [some
                            (Blk.row
                              [AV.v (Value.int IntKind.i64 mo), AV.v (Value.int IntKind.i64 lo),
                                AV.hs (1 : Nat) (0 : Nat) (List.length l)]),
                          some (Blk.arr (3 : Nat) (List.length (l ++ j)) (lsF It.c (l ++ j))),
                          some
                            (Blk.row
                              [AV.v (Value.int IntKind.i64 mo), AV.v (Value.int IntKind.i64 lo),
                                AV.hs (3 : Nat) (0 : Nat) (List.length l)]),
                          some (Blk.arr (3 : Nat) (List.length (l ++ j')) (lsF It.c (l ++ j')))]))
                  (Tree.br false
                    (Tree.leaf
                      (Out.mk AEx.ret
                        [AV.sl (5 : Nat) (List.length acts) (lsF Act.c acts), AV.ptr (0 : Nat) (0 : Nat),
                          AV.ptr (2 : Nat) (0 : Nat), AV.v (Value.int IntKind.i64 (↑i : Int)), AV.v (Value.bool false)]
                        [some
                            (Blk.row
                              [AV.v (Value.int IntKind.i64 mo), AV.v (Value.int IntKind.i64 lo),
                                AV.hs (1 : Nat) (0 : Nat) (List.length l)]),
                          some (Blk.arr (3 : Nat) (List.length (l ++ j)) (lsF It.c (l ++ j))),
                          some
                            (Blk.row
                              [AV.v (Value.int IntKind.i64 mo), AV.v (Value.int IntKind.i64 lo),
                                AV.hs (3 : Nat) (0 : Nat) (List.length l)]),
                          some (Blk.arr (3 : Nat) (List.length (l ++ j')) (lsF It.c (l ++ j')))]))
                    (Tree.leaf
                      (Out.mk AEx.normal
                        [AV.sl (5 : Nat) (List.length acts) (lsF Act.c acts), AV.ptr (0 : Nat) (0 : Nat),
                          AV.ptr (2 : Nat) (0 : Nat),
                          AV.v (Value.int IntKind.i64 (IntKind.wrap IntKind.i64 ((↑i : Int) + (1 : Int)))), AV.any]
                        [some
                            (Blk.row
                              [AV.v (Value.int IntKind.i64 mo), AV.v (Value.int IntKind.i64 lo),
                                AV.hs (1 : Nat) (0 : Nat) (List.length l)]),
                          some (Blk.arr (3 : Nat) (List.length (l ++ j)) (lsF It.c (l ++ j))),
                          some
                            (Blk.row
                              [AV.v (Value.int IntKind.i64 mo), AV.v (Value.int IntKind.i64 lo),
                                AV.hs (3 : Nat) (0 : Nat) (List.length l)]),
                          some (Blk.arr (3 : Nat) (List.length (l ++ j')) (lsF It.c (l ++ j')))])))))))))))
  (Tree.leaf
    (Out.mk (AEx.exit (0 : Nat))
      [AV.sl (5 : Nat) (List.length acts) (lsF Act.c acts), AV.ptr (0 : Nat) (0 : Nat), AV.ptr (2 : Nat) (0 : Nat),
        AV.v (Value.int IntKind.i64 (↑i : Int)), AV.any]
      [some
          (Blk.row
            [AV.v (Value.int IntKind.i64 mo), AV.v (Value.int IntKind.i64 lo),
              AV.hs (1 : Nat) (0 : Nat) (List.length l)]),
        some (Blk.arr (3 : Nat) (List.length (l ++ j)) (lsF It.c (l ++ j))),
        some
          (Blk.row
            [AV.v (Value.int IntKind.i64 mo), AV.v (Value.int IntKind.i64 lo),
              AV.hs (3 : Nat) (0 : Nat) (List.length l)]),
        some (Blk.arr (3 : Nat) (List.length (l ++ j')) (lsF It.c (l ++ j')))])) := by kernel_rfl
theorem r4at (mo lo : Int) (l j j' : List It) (acts : List Act) (i : Nat) (p : Nat) (h : p < l.length) (hs : l.length ≤ 100000000) : roundE (P := Try.prog) (Γ := Γn) [CT.at 17 (ansAt (i := p) (mo := mo) (lo := lo) (l := l) (junk := j) h), CT.at 18 (ansShows (mo := mo) (mo' := mo) (lo := lo) (l := l) (j := j) (j' := j') hs)] Lno false 0 0 lp4 lv4 nl4 154 (S4 mo lo l j j' acts i).1 (S4 mo lo l j j' acts i).2 =
  Tree.br (decide ((↑i : Int) < (↑(List.length acts) : Int)))
  (Tree.chk (decide ((0 : Int) ≤ (↑i : Int)) && decide ((↑i : Int) < (↑(List.length acts) : Int)))
    (Tree.br (decide ((70000 : Int) < (↑(ByteArray.size (List.getD acts i default).x.t) : Int)))
      (Tree.leaf
        (Out.mk AEx.ret
          [AV.sl (5 : Nat) (List.length acts) (lsF Act.c acts), AV.ptr (0 : Nat) (0 : Nat), AV.ptr (2 : Nat) (0 : Nat),
            AV.v (Value.int IntKind.i64 (↑i : Int)), AV.v (Value.bool true)]
          [some
              (Blk.row
                [AV.v (Value.int IntKind.i64 mo), AV.v (Value.int IntKind.i64 lo),
                  AV.hs (1 : Nat) (0 : Nat) (List.length l)]),
            some (Blk.arr (3 : Nat) (List.length (l ++ j)) (lsF It.c (l ++ j))),
            some
              (Blk.row
                [AV.v (Value.int IntKind.i64 mo), AV.v (Value.int IntKind.i64 lo),
                  AV.hs (3 : Nat) (0 : Nat) (List.length l)]),
            some (Blk.arr (3 : Nat) (List.length (l ++ j')) (lsF It.c (l ++ j')))]))
      (Tree.br (decide ((List.getD acts i default).k = (0 : Int))) Tree.fail
        (Tree.br (decide ((List.getD acts i default).k = (1 : Int))) Tree.fail
          (Tree.br (decide ((List.getD acts i default).k = (2 : Int))) Tree.fail
            (Tree.br (decide ((List.getD acts i default).k = (3 : Int)))
              (Tree.chk
                (cl
                  (LeL [AV.ptr (0 : Nat) (0 : Nat), AV.v (Value.int IntKind.i64 (List.getD acts i default).i)]
                      [AV.ptr (0 : Nat) (0 : Nat), AV.v (Value.int IntKind.i64 (↑p : Int))] ∧
                    LeH
                      [some
                          (Blk.row
                            [AV.v (Value.int IntKind.i64 mo), AV.v (Value.int IntKind.i64 lo),
                              AV.hs (1 : Nat) (0 : Nat) (List.length l)]),
                        some (Blk.arr (3 : Nat) (List.length (l ++ j)) (lsF It.c (l ++ j)))]
                      [some
                          (Blk.row
                            [AV.v (Value.int IntKind.i64 mo), AV.v (Value.int IntKind.i64 lo),
                              AV.hs (1 : Nat) (0 : Nat) (List.length l)]),
                        some (Blk.arr (3 : Nat) (List.length (l ++ j)) (lsF It.c (l ++ j)))]))
                (Tree.br
                  (bif decide ((List.getD acts i default).i < (0 : Int)) then true
                  else decide ((↑(List.length l) : Int) ≤ (List.getD acts i default).i))
                  (Tree.br true
                    (Tree.leaf
                      (Out.mk AEx.ret
                        [AV.sl (5 : Nat) (List.length acts) (lsF Act.c acts), AV.ptr (0 : Nat) (0 : Nat),
                          AV.ptr (2 : Nat) (0 : Nat), AV.v (Value.int IntKind.i64 (↑i : Int)), AV.v (Value.bool false)]
                        [some
                            (Blk.row
                              [AV.v (Value.int IntKind.i64 mo), AV.v (Value.int IntKind.i64 lo),
                                AV.hs (1 : Nat) (0 : Nat) (List.length l)]),
                          some (Blk.arr (3 : Nat) (List.length (l ++ j)) (lsF It.c (l ++ j))),
                          some
                            (Blk.row
                              [AV.v (Value.int IntKind.i64 mo), AV.v (Value.int IntKind.i64 lo),
                                AV.hs (3 : Nat) (0 : Nat) (List.length l)]),
                          some (Blk.arr (3 : Nat) (List.length (l ++ j')) (lsF It.c (l ++ j')))]))
                    (Tree.br false
                      (Tree.leaf
                        (Out.mk AEx.ret
                          [AV.sl (5 : Nat) (List.length acts) (lsF Act.c acts), AV.ptr (0 : Nat) (0 : Nat),
                            AV.ptr (2 : Nat) (0 : Nat), AV.v (Value.int IntKind.i64 (↑i : Int)),
                            AV.v (Value.bool false)]
                          [some
                              (Blk.row
                                [AV.v (Value.int IntKind.i64 mo), AV.v (Value.int IntKind.i64 lo),
                                  AV.hs (1 : Nat) (0 : Nat) (List.length l)]),
                            some (Blk.arr (3 : Nat) (List.length (l ++ j)) (lsF It.c (l ++ j))),
                            some
                              (Blk.row
                                [AV.v (Value.int IntKind.i64 mo), AV.v (Value.int IntKind.i64 lo),
                                  AV.hs (3 : Nat) (0 : Nat) (List.length l)]),
                            some (Blk.arr (3 : Nat) (List.length (l ++ j')) (lsF It.c (l ++ j')))]))
                      (Tree.chk
                        (cl
                          (LeL [AV.ptr (0 : Nat) (0 : Nat), AV.ptr (2 : Nat) (0 : Nat)]
                              [AV.ptr (0 : Nat) (0 : Nat), AV.ptr (2 : Nat) (0 : Nat)] ∧
                            LeH
                              [some
                                  (Blk.row
                                    [AV.v (Value.int IntKind.i64 mo), AV.v (Value.int IntKind.i64 lo),
                                      AV.hs (1 : Nat) (0 : Nat) (List.length l)]),
                                some (Blk.arr (3 : Nat) (List.length (l ++ j)) (lsF It.c (l ++ j))),
                                some
                                  (Blk.row
                                    [AV.v (Value.int IntKind.i64 mo), AV.v (Value.int IntKind.i64 lo),
                                      AV.hs (3 : Nat) (0 : Nat) (List.length l)]),
                                some (Blk.arr (3 : Nat) (List.length (l ++ j')) (lsF It.c (l ++ j')))]
                              [some
                                  (Blk.row
                                    [AV.v (Value.int IntKind.i64 mo), AV.v (Value.int IntKind.i64 lo),
                                      AV.hs (1 : Nat) (0 : Nat) (List.length l)]),
                                some (Blk.arr (3 : Nat) (List.length (l ++ j)) (lsF It.c (l ++ j))),
                                some
                                  (Blk.row
                                    [AV.v (Value.int IntKind.i64 mo), AV.v (Value.int IntKind.i64 lo),
                                      AV.hs (3 : Nat) (0 : Nat) (List.length l)]),
                                some (Blk.arr (3 : Nat) (List.length (l ++ j')) (lsF It.c (l ++ j')))]))
                        (Tree.br false
                          (Tree.leaf
                            (Out.mk AEx.ret
                              [AV.sl (5 : Nat) (List.length acts) (lsF Act.c acts), AV.ptr (0 : Nat) (0 : Nat),
                                AV.ptr (2 : Nat) (0 : Nat), AV.v (Value.int IntKind.i64 (↑i : Int)),
                                AV.v (Value.bool false)]
                              [some
                                  (Blk.row
                                    [AV.v (Value.int IntKind.i64 mo), AV.v (Value.int IntKind.i64 lo),
                                      AV.hs (1 : Nat) (0 : Nat) (List.length l)]),
                                some (Blk.arr (3 : Nat) (List.length (l ++ j)) (lsF It.c (l ++ j))),
                                some
                                  (Blk.row
                                    [AV.v (Value.int IntKind.i64 mo), AV.v (Value.int IntKind.i64 lo),
                                      AV.hs (3 : Nat) (0 : Nat) (List.length l)]),
                                some (Blk.arr (3 : Nat) (List.length (l ++ j')) (lsF It.c (l ++ j')))]))
                          (Tree.leaf
                            (Out.mk AEx.normal
                              [AV.sl (5 : Nat) (List.length acts) (lsF Act.c acts), AV.ptr (0 : Nat) (0 : Nat),
                                AV.ptr (2 : Nat) (0 : Nat),
                                AV.v (Value.int IntKind.i64 (IntKind.wrap IntKind.i64 ((↑i : Int) + (1 : Int)))),
                                AV.any]
                              [some
                                  (Blk.row
                                    [AV.v (Value.int IntKind.i64 mo), AV.v (Value.int IntKind.i64 lo),
                                      AV.hs (1 : Nat) (0 : Nat) (List.length l)]),
                                some (Blk.arr (3 : Nat) (List.length (l ++ j)) (lsF It.c (l ++ j))),
                                some
                                  (Blk.row
                                    [AV.v (Value.int IntKind.i64 mo), AV.v (Value.int IntKind.i64 lo),
                                      AV.hs (3 : Nat) (0 : Nat) (List.length l)]),
                                some (Blk.arr (3 : Nat) (List.length (l ++ j')) (lsF It.c (l ++ j')))]))))))
                  (Tree.chk
                    (decide ((0 : Int) ≤ (List.getD acts i default).i) &&
                      decide ((List.getD acts i default).i < (↑(List.length l) : Int)))
                    (Tree.br
                      (!(decide
                            ((List.getD l p default).a =
                              (List.getD (l ++ j') ((0 : Nat) + Int.toNat (List.getD acts i default).i) default).a) &&
                          (decide
                              ((List.getD l p default).b =
                                (List.getD (l ++ j') ((0 : Nat) + Int.toNat (List.getD acts i default).i) default).b) &&
                            decide
                              ((List.getD l p default).t =
                                (List.getD (l ++ j') ((0 : Nat) + Int.toNat (List.getD acts i default).i) default).t))))
                      (Tree.leaf
                        (Out.mk AEx.ret
                          [AV.sl (5 : Nat) (List.length acts) (lsF Act.c acts), AV.ptr (0 : Nat) (0 : Nat),
                            AV.ptr (2 : Nat) (0 : Nat), AV.v (Value.int IntKind.i64 (↑i : Int)),
                            AV.v (Value.bool false)]
                          [some
                              (Blk.row
                                [AV.v (Value.int IntKind.i64 mo), AV.v (Value.int IntKind.i64 lo),
                                  AV.hs (1 : Nat) (0 : Nat) (List.length l)]),
                            some (Blk.arr (3 : Nat) (List.length (l ++ j)) (lsF It.c (l ++ j))),
                            some
                              (Blk.row
                                [AV.v (Value.int IntKind.i64 mo), AV.v (Value.int IntKind.i64 lo),
                                  AV.hs (3 : Nat) (0 : Nat) (List.length l)]),
                            some (Blk.arr (3 : Nat) (List.length (l ++ j')) (lsF It.c (l ++ j')))]))
                      (Tree.br false
                        (Tree.leaf
                          (Out.mk AEx.ret
                            [AV.sl (5 : Nat) (List.length acts) (lsF Act.c acts), AV.ptr (0 : Nat) (0 : Nat),
                              AV.ptr (2 : Nat) (0 : Nat), AV.v (Value.int IntKind.i64 (↑i : Int)),
                              AV.v (Value.bool false)]
                            [some
                                (Blk.row
                                  [AV.v (Value.int IntKind.i64 mo), AV.v (Value.int IntKind.i64 lo),
                                    AV.hs (1 : Nat) (0 : Nat) (List.length l)]),
                              some (Blk.arr (3 : Nat) (List.length (l ++ j)) (lsF It.c (l ++ j))),
                              some
                                (Blk.row
                                  [AV.v (Value.int IntKind.i64 mo), AV.v (Value.int IntKind.i64 lo),
                                    AV.hs (3 : Nat) (0 : Nat) (List.length l)]),
                              some (Blk.arr (3 : Nat) (List.length (l ++ j')) (lsF It.c (l ++ j')))]))
                        (Tree.chk
                          (cl
                            (LeL [AV.ptr (0 : Nat) (0 : Nat), AV.ptr (2 : Nat) (0 : Nat)]
                                [AV.ptr (0 : Nat) (0 : Nat), AV.ptr (2 : Nat) (0 : Nat)] ∧
                              LeH
                                [some
                                    (Blk.row
                                      [AV.v (Value.int IntKind.i64 mo), AV.v (Value.int IntKind.i64 lo),
                                        AV.hs (1 : Nat) (0 : Nat) (List.length l)]),
                                  some (Blk.arr (3 : Nat) (List.length (l ++ j)) (lsF It.c (l ++ j))),
                                  some
                                    (Blk.row
                                      [AV.v (Value.int IntKind.i64 mo), AV.v (Value.int IntKind.i64 lo),
                                        AV.hs (3 : Nat) (0 : Nat) (List.length l)]),
                                  some (Blk.arr (3 : Nat) (List.length (l ++ j')) (lsF It.c (l ++ j')))]
                                [some
                                    (Blk.row
                                      [AV.v (Value.int IntKind.i64 mo), AV.v (Value.int IntKind.i64 lo),
                                        AV.hs (1 : Nat) (0 : Nat) (List.length l)]),
                                  some (Blk.arr (3 : Nat) (List.length (l ++ j)) (lsF It.c (l ++ j))),
                                  some
                                    (Blk.row
                                      [AV.v (Value.int IntKind.i64 mo), AV.v (Value.int IntKind.i64 lo),
                                        AV.hs (3 : Nat) (0 : Nat) (List.length l)]),
                                  some (Blk.arr (3 : Nat) (List.length (l ++ j')) (lsF It.c (l ++ j')))]))
                          (Tree.br false
                            (Tree.leaf
                              (Out.mk AEx.ret
                                [AV.sl (5 : Nat) (List.length acts) (lsF Act.c acts), AV.ptr (0 : Nat) (0 : Nat),
                                  AV.ptr (2 : Nat) (0 : Nat), AV.v (Value.int IntKind.i64 (↑i : Int)),
                                  AV.v (Value.bool false)]
                                [some
                                    (Blk.row
                                      [AV.v (Value.int IntKind.i64 mo), AV.v (Value.int IntKind.i64 lo),
                                        AV.hs (1 : Nat) (0 : Nat) (List.length l)]),
                                  some (Blk.arr (3 : Nat) (List.length (l ++ j)) (lsF It.c (l ++ j))),
                                  some
                                    (Blk.row
                                      [AV.v (Value.int IntKind.i64 mo), AV.v (Value.int IntKind.i64 lo),
                                        AV.hs (3 : Nat) (0 : Nat) (List.length l)]),
                                  some (Blk.arr (3 : Nat) (List.length (l ++ j')) (lsF It.c (l ++ j')))]))
                            (Tree.leaf
                              (Out.mk AEx.normal
                                [AV.sl (5 : Nat) (List.length acts) (lsF Act.c acts), AV.ptr (0 : Nat) (0 : Nat),
                                  AV.ptr (2 : Nat) (0 : Nat),
                                  AV.v (Value.int IntKind.i64 (IntKind.wrap IntKind.i64 ((↑i : Int) + (1 : Int)))),
                                  AV.any]
                                [some
                                    (Blk.row
                                      [AV.v (Value.int IntKind.i64 mo), AV.v (Value.int IntKind.i64 lo),
                                        AV.hs (1 : Nat) (0 : Nat) (List.length l)]),
                                  some (Blk.arr (3 : Nat) (List.length (l ++ j)) (lsF It.c (l ++ j))),
                                  some
                                    (Blk.row
                                      [AV.v (Value.int IntKind.i64 mo), AV.v (Value.int IntKind.i64 lo),
                                        AV.hs (3 : Nat) (0 : Nat) (List.length l)]),
                                  some (Blk.arr (3 : Nat) (List.length (l ++ j')) (lsF It.c (l ++ j')))])))))))))
              (Tree.br false
                (Tree.leaf
                  (Out.mk AEx.ret
                    [AV.sl (5 : Nat) (List.length acts) (lsF Act.c acts), AV.ptr (0 : Nat) (0 : Nat),
                      AV.ptr (2 : Nat) (0 : Nat), AV.v (Value.int IntKind.i64 (↑i : Int)), AV.v (Value.bool false)]
                    [some
                        (Blk.row
                          [AV.v (Value.int IntKind.i64 mo), AV.v (Value.int IntKind.i64 lo),
                            AV.hs (1 : Nat) (0 : Nat) (List.length l)]),
                      some (Blk.arr (3 : Nat) (List.length (l ++ j)) (lsF It.c (l ++ j))),
                      some
                        (Blk.row
                          [AV.v (Value.int IntKind.i64 mo), AV.v (Value.int IntKind.i64 lo),
                            AV.hs (3 : Nat) (0 : Nat) (List.length l)]),
                      some (Blk.arr (3 : Nat) (List.length (l ++ j')) (lsF It.c (l ++ j')))]))
                (Tree.chk
                  (cl
                    (LeL [AV.ptr (0 : Nat) (0 : Nat), AV.ptr (2 : Nat) (0 : Nat)]
                        [AV.ptr (0 : Nat) (0 : Nat), AV.ptr (2 : Nat) (0 : Nat)] ∧
                      LeH
                        [some
                            (Blk.row
                              [AV.v (Value.int IntKind.i64 mo), AV.v (Value.int IntKind.i64 lo),
                                AV.hs (1 : Nat) (0 : Nat) (List.length l)]),
                          some (Blk.arr (3 : Nat) (List.length (l ++ j)) (lsF It.c (l ++ j))),
                          some
                            (Blk.row
                              [AV.v (Value.int IntKind.i64 mo), AV.v (Value.int IntKind.i64 lo),
                                AV.hs (3 : Nat) (0 : Nat) (List.length l)]),
                          some (Blk.arr (3 : Nat) (List.length (l ++ j')) (lsF It.c (l ++ j')))]
                        [some
                            (Blk.row
                              [AV.v (Value.int IntKind.i64 mo), AV.v (Value.int IntKind.i64 lo),
                                AV.hs (1 : Nat) (0 : Nat) (List.length l)]),
                          some (Blk.arr (3 : Nat) (List.length (l ++ j)) (lsF It.c (l ++ j))),
                          some
                            (Blk.row
                              [AV.v (Value.int IntKind.i64 mo), AV.v (Value.int IntKind.i64 lo),
                                AV.hs (3 : Nat) (0 : Nat) (List.length l)]),
                          some (Blk.arr (3 : Nat) (List.length (l ++ j')) (lsF It.c (l ++ j')))]))
                  (Tree.br false
                    (Tree.leaf
                      (Out.mk AEx.ret
                        [AV.sl (5 : Nat) (List.length acts) (lsF Act.c acts), AV.ptr (0 : Nat) (0 : Nat),
                          AV.ptr (2 : Nat) (0 : Nat), AV.v (Value.int IntKind.i64 (↑i : Int)), AV.v (Value.bool false)]
                        [some
                            (Blk.row
                              [AV.v (Value.int IntKind.i64 mo), AV.v (Value.int IntKind.i64 lo),
                                AV.hs (1 : Nat) (0 : Nat) (List.length l)]),
                          some (Blk.arr (3 : Nat) (List.length (l ++ j)) (lsF It.c (l ++ j))),
                          some
                            (Blk.row
                              [AV.v (Value.int IntKind.i64 mo), AV.v (Value.int IntKind.i64 lo),
                                AV.hs (3 : Nat) (0 : Nat) (List.length l)]),
                          some (Blk.arr (3 : Nat) (List.length (l ++ j')) (lsF It.c (l ++ j')))]))
                    (Tree.leaf
                      (Out.mk AEx.normal
                        [AV.sl (5 : Nat) (List.length acts) (lsF Act.c acts), AV.ptr (0 : Nat) (0 : Nat),
                          AV.ptr (2 : Nat) (0 : Nat),
                          AV.v (Value.int IntKind.i64 (IntKind.wrap IntKind.i64 ((↑i : Int) + (1 : Int)))), AV.any]
                        [some
                            (Blk.row
                              [AV.v (Value.int IntKind.i64 mo), AV.v (Value.int IntKind.i64 lo),
                                AV.hs (1 : Nat) (0 : Nat) (List.length l)]),
                          some (Blk.arr (3 : Nat) (List.length (l ++ j)) (lsF It.c (l ++ j))),
                          some
                            (Blk.row
                              [AV.v (Value.int IntKind.i64 mo), AV.v (Value.int IntKind.i64 lo),
                                AV.hs (3 : Nat) (0 : Nat) (List.length l)]),
                          some (Blk.arr (3 : Nat) (List.length (l ++ j')) (lsF It.c (l ++ j')))])))))))))))
  (Tree.leaf
    (Out.mk (AEx.exit (0 : Nat))
      [AV.sl (5 : Nat) (List.length acts) (lsF Act.c acts), AV.ptr (0 : Nat) (0 : Nat), AV.ptr (2 : Nat) (0 : Nat),
        AV.v (Value.int IntKind.i64 (↑i : Int)), AV.any]
      [some
          (Blk.row
            [AV.v (Value.int IntKind.i64 mo), AV.v (Value.int IntKind.i64 lo),
              AV.hs (1 : Nat) (0 : Nat) (List.length l)]),
        some (Blk.arr (3 : Nat) (List.length (l ++ j)) (lsF It.c (l ++ j))),
        some
          (Blk.row
            [AV.v (Value.int IntKind.i64 mo), AV.v (Value.int IntKind.i64 lo),
              AV.hs (3 : Nat) (0 : Nat) (List.length l)]),
        some (Blk.arr (3 : Nat) (List.length (l ++ j')) (lsF It.c (l ++ j')))])) := by kernel_rfl
theorem r4else (mo lo : Int) (l j j' : List It) (acts : List Act) (i : Nat) (hs : l.length ≤ 100000000) : roundE (P := Try.prog) (Γ := Γn) [CT.at 18 (ansShows (mo := mo) (mo' := mo) (lo := lo) (l := l) (j := j) (j' := j') hs)] Lno false 0 0 lp4 lv4 nl4 154 (S4 mo lo l j j' acts i).1 (S4 mo lo l j j' acts i).2 =
  Tree.br (decide ((↑i : Int) < (↑(List.length acts) : Int)))
  (Tree.chk (decide ((0 : Int) ≤ (↑i : Int)) && decide ((↑i : Int) < (↑(List.length acts) : Int)))
    (Tree.br (decide ((70000 : Int) < (↑(ByteArray.size (List.getD acts i default).x.t) : Int)))
      (Tree.leaf
        (Out.mk AEx.ret
          [AV.sl (5 : Nat) (List.length acts) (lsF Act.c acts), AV.ptr (0 : Nat) (0 : Nat), AV.ptr (2 : Nat) (0 : Nat),
            AV.v (Value.int IntKind.i64 (↑i : Int)), AV.v (Value.bool true)]
          [some
              (Blk.row
                [AV.v (Value.int IntKind.i64 mo), AV.v (Value.int IntKind.i64 lo),
                  AV.hs (1 : Nat) (0 : Nat) (List.length l)]),
            some (Blk.arr (3 : Nat) (List.length (l ++ j)) (lsF It.c (l ++ j))),
            some
              (Blk.row
                [AV.v (Value.int IntKind.i64 mo), AV.v (Value.int IntKind.i64 lo),
                  AV.hs (3 : Nat) (0 : Nat) (List.length l)]),
            some (Blk.arr (3 : Nat) (List.length (l ++ j')) (lsF It.c (l ++ j')))]))
      (Tree.br (decide ((List.getD acts i default).k = (0 : Int))) Tree.fail
        (Tree.br (decide ((List.getD acts i default).k = (1 : Int))) Tree.fail
          (Tree.br (decide ((List.getD acts i default).k = (2 : Int))) Tree.fail
            (Tree.br (decide ((List.getD acts i default).k = (3 : Int))) Tree.fail
              (Tree.br false
                (Tree.leaf
                  (Out.mk AEx.ret
                    [AV.sl (5 : Nat) (List.length acts) (lsF Act.c acts), AV.ptr (0 : Nat) (0 : Nat),
                      AV.ptr (2 : Nat) (0 : Nat), AV.v (Value.int IntKind.i64 (↑i : Int)), AV.v (Value.bool false)]
                    [some
                        (Blk.row
                          [AV.v (Value.int IntKind.i64 mo), AV.v (Value.int IntKind.i64 lo),
                            AV.hs (1 : Nat) (0 : Nat) (List.length l)]),
                      some (Blk.arr (3 : Nat) (List.length (l ++ j)) (lsF It.c (l ++ j))),
                      some
                        (Blk.row
                          [AV.v (Value.int IntKind.i64 mo), AV.v (Value.int IntKind.i64 lo),
                            AV.hs (3 : Nat) (0 : Nat) (List.length l)]),
                      some (Blk.arr (3 : Nat) (List.length (l ++ j')) (lsF It.c (l ++ j')))]))
                (Tree.chk
                  (cl
                    (LeL [AV.ptr (0 : Nat) (0 : Nat), AV.ptr (2 : Nat) (0 : Nat)]
                        [AV.ptr (0 : Nat) (0 : Nat), AV.ptr (2 : Nat) (0 : Nat)] ∧
                      LeH
                        [some
                            (Blk.row
                              [AV.v (Value.int IntKind.i64 mo), AV.v (Value.int IntKind.i64 lo),
                                AV.hs (1 : Nat) (0 : Nat) (List.length l)]),
                          some (Blk.arr (3 : Nat) (List.length (l ++ j)) (lsF It.c (l ++ j))),
                          some
                            (Blk.row
                              [AV.v (Value.int IntKind.i64 mo), AV.v (Value.int IntKind.i64 lo),
                                AV.hs (3 : Nat) (0 : Nat) (List.length l)]),
                          some (Blk.arr (3 : Nat) (List.length (l ++ j')) (lsF It.c (l ++ j')))]
                        [some
                            (Blk.row
                              [AV.v (Value.int IntKind.i64 mo), AV.v (Value.int IntKind.i64 lo),
                                AV.hs (1 : Nat) (0 : Nat) (List.length l)]),
                          some (Blk.arr (3 : Nat) (List.length (l ++ j)) (lsF It.c (l ++ j))),
                          some
                            (Blk.row
                              [AV.v (Value.int IntKind.i64 mo), AV.v (Value.int IntKind.i64 lo),
                                AV.hs (3 : Nat) (0 : Nat) (List.length l)]),
                          some (Blk.arr (3 : Nat) (List.length (l ++ j')) (lsF It.c (l ++ j')))]))
                  (Tree.br false
                    (Tree.leaf
                      (Out.mk AEx.ret
                        [AV.sl (5 : Nat) (List.length acts) (lsF Act.c acts), AV.ptr (0 : Nat) (0 : Nat),
                          AV.ptr (2 : Nat) (0 : Nat), AV.v (Value.int IntKind.i64 (↑i : Int)), AV.v (Value.bool false)]
                        [some
                            (Blk.row
                              [AV.v (Value.int IntKind.i64 mo), AV.v (Value.int IntKind.i64 lo),
                                AV.hs (1 : Nat) (0 : Nat) (List.length l)]),
                          some (Blk.arr (3 : Nat) (List.length (l ++ j)) (lsF It.c (l ++ j))),
                          some
                            (Blk.row
                              [AV.v (Value.int IntKind.i64 mo), AV.v (Value.int IntKind.i64 lo),
                                AV.hs (3 : Nat) (0 : Nat) (List.length l)]),
                          some (Blk.arr (3 : Nat) (List.length (l ++ j')) (lsF It.c (l ++ j')))]))
                    (Tree.leaf
                      (Out.mk AEx.normal
                        [AV.sl (5 : Nat) (List.length acts) (lsF Act.c acts), AV.ptr (0 : Nat) (0 : Nat),
                          AV.ptr (2 : Nat) (0 : Nat),
                          AV.v (Value.int IntKind.i64 (IntKind.wrap IntKind.i64 ((↑i : Int) + (1 : Int)))), AV.any]
                        [some
                            (Blk.row
                              [AV.v (Value.int IntKind.i64 mo), AV.v (Value.int IntKind.i64 lo),
                                AV.hs (1 : Nat) (0 : Nat) (List.length l)]),
                          some (Blk.arr (3 : Nat) (List.length (l ++ j)) (lsF It.c (l ++ j))),
                          some
                            (Blk.row
                              [AV.v (Value.int IntKind.i64 mo), AV.v (Value.int IntKind.i64 lo),
                                AV.hs (3 : Nat) (0 : Nat) (List.length l)]),
                          some (Blk.arr (3 : Nat) (List.length (l ++ j')) (lsF It.c (l ++ j')))])))))))))))
  (Tree.leaf
    (Out.mk (AEx.exit (0 : Nat))
      [AV.sl (5 : Nat) (List.length acts) (lsF Act.c acts), AV.ptr (0 : Nat) (0 : Nat), AV.ptr (2 : Nat) (0 : Nat),
        AV.v (Value.int IntKind.i64 (↑i : Int)), AV.any]
      [some
          (Blk.row
            [AV.v (Value.int IntKind.i64 mo), AV.v (Value.int IntKind.i64 lo),
              AV.hs (1 : Nat) (0 : Nat) (List.length l)]),
        some (Blk.arr (3 : Nat) (List.length (l ++ j)) (lsF It.c (l ++ j))),
        some
          (Blk.row
            [AV.v (Value.int IntKind.i64 mo), AV.v (Value.int IntKind.i64 lo),
              AV.hs (3 : Nat) (0 : Nat) (List.length l)]),
        some (Blk.arr (3 : Nat) (List.length (l ++ j')) (lsF It.c (l ++ j')))])) := by kernel_rfl
end Go.Eng.N

/- net: any calls: the loop. -/
namespace Go.Eng.N
open Go Go.Eng Go.Proofs
set_option linter.unusedSimpArgs false
set_option linter.unusedVariables false
structure X4 where
  i : Nat
  lo : Int
  l : List It
  j : List It
  j' : List It
structure pre4 (mo : Int) (acts : List Act) (x : X4) : Prop where
  i : x.i ≤ acts.length
  lo0 : 0 ≤ x.lo
  lo1 : x.lo ≤ x.i
  l : (x.l.length : Int) ≤ mo
  t : ∀ p, p < x.l.length → (x.l.getD p default).t.size ≤ 65536
abbrev ret4 : Out := ⟨.ret, [.any, .any, .any, .any, .sb true], [none, none, none, none]⟩
abbrev end4 : Out := ⟨.exit 0, [.any, .any, .any, .any, .any], [none, none, none, none]⟩
def far4 (acts : List Act) (i : Nat) : Prop := ∃ k, i ≤ k ∧ k < acts.length ∧ 70000 < (acts.getD k default).x.t.size
open Classical in
noncomputable def O4 (acts : List Act) (i : Nat) : Out := if far4 acts i then ret4 else end4
theorem O4_far {acts : List Act} {i : Nat} (hi : i < acts.length) (h : 70000 < (acts.getD i default).x.t.size) : O4 acts i = ret4 := if_pos ⟨i, Nat.le_refl _, hi, h⟩
theorem O4_end {acts : List Act} {i : Nat} (hi : acts.length ≤ i) : O4 acts i = end4 := if_neg fun ⟨k, h1, h2, _⟩ => by omega
theorem O4_next {acts : List Act} {i : Nat} (h : ¬ 70000 < (acts.getD i default).x.t.size) : O4 acts (i + 1) = O4 acts i := by
  have : far4 acts (i + 1) ↔ far4 acts i := ⟨fun ⟨k, h1, h2, h3⟩ => ⟨k, by omega, h2, h3⟩, fun ⟨k, h1, h2, h3⟩ => ⟨k, by
    rcases Nat.lt_or_ge i k with h4 | h4
    · exact h4
    · obtain rfl : k = i := by omega
      exact absurd h3 h, h2, h3⟩⟩
  unfold O4
  by_cases hf : far4 acts i
  · rw [if_pos hf, if_pos (this.2 hf)]
  · rw [if_neg hf, if_neg (fun h => hf (this.1 h))]
def SX (mo : Int) (acts : List Act) (x : X4) : List AV × Heap := S4 mo x.lo x.l x.j x.j' acts x.i
theorem t_app {l : List It} {x : It} (h : ∀ p, p < l.length → (l.getD p default).t.size ≤ 65536) (hx : x.t.size ≤ 65536) : ∀ p, p < (l ++ [x]).length → ((l ++ [x]).getD p default).t.size ≤ 65536 := fun p hp => by
  rcases Nat.lt_or_ge p l.length with h1 | h1
  · rw [getD_app h1]; exact h p h1
  · rw [getD_app' h1]
    simp only [List.length_append, List.length_singleton] at hp
    rw [show p - l.length = 0 by omega]; exact hx
theorem t_era {l : List It} {i : Nat} (hi : i < l.length) (h : ∀ p, p < l.length → (l.getD p default).t.size ≤ 65536) : ∀ p, p < (l.eraseIdx i).length → ((l.eraseIdx i).getD p default).t.size ≤ 65536 := fun p hp => by
  rw [List.length_eraseIdx_of_lt hi] at hp
  rw [getD_eraseIdx]
  split
  · exact h p (by omega)
  · exact h _ (by omega)
/-- what each round owes -/
abbrev Owes4 (mo : Int) (acts : List Act) (x : X4) : Out → Prop := OwesA (SX mo acts) (pre4 mo acts) (fun x => O4 acts x.i) (fun x => acts.length - x.i) (acts.length - x.i) (O4 acts x.i)
abbrev RO (mo : Int) (acts : List Act) (x : X4) : Prop := RoundOK Try.prog Γn 0 154 0 lp4 lv4 nl4 (SX mo acts x) (Owes4 mo acts x)
theorem go4 {mo : Int} {acts : List Act} {i : Nat} {fr : List AV} {H : Heap} {lo : Int} {l j j' : List It} (hi : i < acts.length) (hl : ¬ 70000 < (acts.getD i default).x.t.size)
    (h1 : LeL fr (S4 mo lo l j j' acts (i + 1)).1) (h2 : LeH H (S4 mo lo l j j' acts (i + 1)).2) (h3 : 0 ≤ lo) (h4 : lo ≤ ((i + 1 : Nat) : Int)) (h5 : (l.length : Int) ≤ mo) (h6 : ∀ p, p < l.length → (l.getD p default).t.size ≤ 65536) :
    ∃ x', LeL fr (SX mo acts x').fst ∧ LeH H (SX mo acts x').snd ∧ pre4 mo acts x' ∧ O4 acts x'.i = O4 acts i ∧ acts.length - x'.i < acts.length - i :=
  ⟨⟨i + 1, lo, l, j, j'⟩, h1, h2, ⟨hi, h3, h4, h5, h6⟩, O4_next hl, Nat.sub_lt_sub_left hi (Nat.lt_succ_self i)⟩
theorem c4end {mo lo : Int} {l j j' : List It} {acts : List Act} {i : Nat} (hp : pre4 mo acts ⟨i, lo, l, j, j'⟩) (hm : mo ≤ 4096) (hn : acts.length ≤ 100) (hi : acts.length ≤ i) : RO mo acts ⟨i, lo, l, j, j'⟩ := by
  obtain ⟨hp1, hp2, hp3, hp4, hp5⟩ := hp
  simp only at hp1 hp2 hp3 hp4 hp5
  refine .of (noLoops (by kernel_rfl)) (r4long mo lo l j j' acts i ) ?_
  simp only [not_true_eq_false, not_false_eq_true, false_implies, true_implies, implies_true, Nat.blt_eq, owesN, owesX, owesR, Bool.not_eq_true', Bool.not_eq_false', Bool.and_eq_false_iff, sat_brT, sat_brF, sat_chkT, cl_iff, cl_false, AV.le_refl, AV.le_any, OLe_refl, OLe_none, Tree.sat_br, Tree.sat_chk, Tree.sat_leaf, Tree.sat_fail, Nat.zero_add, Nat.sub_zero, Int.toNat_natCast, LeH_cons, LeH_nil, LeL_cons, LeL_nil, and_true, true_and, Bool.and_eq_true, Bool.or_eq_true, Bool.or_eq_false_iff, decide_eq_true_eq, decide_eq_false_iff_not, Bool.cond_true_left, Bool.cond_false_right, List.cons_append, List.nil_append, List.map_cons, List.map_nil, wrapUpN (show i ≤ 1000000000 by omega), O4_end hi]
  repeat' (first | apply And.intro | intro _hc)
  all_goals first | omega | exact AV.le_refl _ | exact OLe.refl _ | exact LeH.refl _ | exact LeL.refl _ | exact AV.le.bs _ | exact AV.le.sb _ | exact trivial | (exfalso; omega) | contradiction
theorem c4long {mo lo : Int} {l j j' : List It} {acts : List Act} {i : Nat} (hp : pre4 mo acts ⟨i, lo, l, j, j'⟩) (hm : mo ≤ 4096) (hn : acts.length ≤ 100) (hi : i < acts.length) (h : 70000 < (acts.getD i default).x.t.size) : RO mo acts ⟨i, lo, l, j, j'⟩ := by
  obtain ⟨hp1, hp2, hp3, hp4, hp5⟩ := hp
  simp only at hp1 hp2 hp3 hp4 hp5
  refine .of (noLoops (by kernel_rfl)) (r4long mo lo l j j' acts i ) ?_
  simp only [not_true_eq_false, not_false_eq_true, false_implies, true_implies, implies_true, Nat.blt_eq, owesN, owesX, owesR, Bool.not_eq_true', Bool.not_eq_false', Bool.and_eq_false_iff, sat_brT, sat_brF, sat_chkT, cl_iff, cl_false, AV.le_refl, AV.le_any, OLe_refl, OLe_none, Tree.sat_br, Tree.sat_chk, Tree.sat_leaf, Tree.sat_fail, Nat.zero_add, Nat.sub_zero, Int.toNat_natCast, LeH_cons, LeH_nil, LeL_cons, LeL_nil, and_true, true_and, Bool.and_eq_true, Bool.or_eq_true, Bool.or_eq_false_iff, decide_eq_true_eq, decide_eq_false_iff_not, Bool.cond_true_left, Bool.cond_false_right, List.cons_append, List.nil_append, List.map_cons, List.map_nil, wrapUpN (show i ≤ 1000000000 by omega), O4_far hi h]
  repeat' (first | apply And.intro | intro _hc)
  all_goals first | omega | exact AV.le_refl _ | exact OLe.refl _ | exact LeH.refl _ | exact LeL.refl _ | exact AV.le.bs _ | exact AV.le.sb _ | exact trivial | (exfalso; omega) | contradiction
theorem c4sendLong {mo lo : Int} {l j j' : List It} {acts : List Act} {i : Nat} (hp : pre4 mo acts ⟨i, lo, l, j, j'⟩) (hm : mo ≤ 4096) (hn : acts.length ≤ 100) (hi : i < acts.length) (hl : ¬ 70000 < (acts.getD i default).x.t.size) (hk : (acts.getD i default).k = 0) (h : 65536 < (acts.getD i default).x.t.size) : RO mo acts ⟨i, lo, l, j, j'⟩ := by
  obtain ⟨hp1, hp2, hp3, hp4, hp5⟩ := hp
  simp only at hp1 hp2 hp3 hp4 hp5
  refine .of (noLoops (by kernel_rfl)) (r4sendLong mo lo l j j' acts i h (by omega)) ?_
  simp only [not_true_eq_false, not_false_eq_true, false_implies, true_implies, implies_true, Nat.blt_eq, owesN, owesX, owesR, Bool.not_eq_true', Bool.not_eq_false', Bool.and_eq_false_iff, sat_brT, sat_brF, sat_chkT, cl_iff, cl_false, AV.le_refl, AV.le_any, OLe_refl, OLe_none, Tree.sat_br, Tree.sat_chk, Tree.sat_leaf, Tree.sat_fail, Nat.zero_add, Nat.sub_zero, Int.toNat_natCast, LeH_cons, LeH_nil, LeL_cons, LeL_nil, and_true, true_and, Bool.and_eq_true, Bool.or_eq_true, Bool.or_eq_false_iff, decide_eq_true_eq, decide_eq_false_iff_not, Bool.cond_true_left, Bool.cond_false_right, List.cons_append, List.nil_append, List.map_cons, List.map_nil, wrapUpN (show i ≤ 1000000000 by omega)]
  repeat' (first | apply And.intro | intro _hc)
  all_goals first | omega | exact AV.le_refl _ | exact OLe.refl _ | exact LeH.refl _ | exact LeL.refl _ | exact AV.le.bs _ | exact AV.le.sb _ | exact go4 (lo := lo) (l := l) (j := j) (j' := j') hi hl (LeL.refl _) (LeH.refl _) (by omega) (by omega) (hp4) (hp5) | ((rw [List.append_nil]; exact OLe.refl _)) | (exfalso; omega) | contradiction
theorem c4sendFull {mo lo : Int} {l j j' : List It} {acts : List Act} {i : Nat} (hp : pre4 mo acts ⟨i, lo, l, j, j'⟩) (hm : mo ≤ 4096) (hn : acts.length ≤ 100) (hi : i < acts.length) (hl : ¬ 70000 < (acts.getD i default).x.t.size) (hk : (acts.getD i default).k = 0) (h : (acts.getD i default).x.t.size ≤ 65536) (h2 : (l.length : Int) = mo) : RO mo acts ⟨i, lo, l, j, j'⟩ := by
  obtain ⟨hp1, hp2, hp3, hp4, hp5⟩ := hp
  simp only at hp1 hp2 hp3 hp4 hp5
  refine .of (noLoops (by kernel_rfl)) (r4sendFull mo lo l j j' acts i h h2 (by omega) (by omega) (by omega)) ?_
  simp only [not_true_eq_false, not_false_eq_true, false_implies, true_implies, implies_true, Nat.blt_eq, owesN, owesX, owesR, Bool.not_eq_true', Bool.not_eq_false', Bool.and_eq_false_iff, sat_brT, sat_brF, sat_chkT, cl_iff, cl_false, AV.le_refl, AV.le_any, OLe_refl, OLe_none, Tree.sat_br, Tree.sat_chk, Tree.sat_leaf, Tree.sat_fail, Nat.zero_add, Nat.sub_zero, Int.toNat_natCast, LeH_cons, LeH_nil, LeL_cons, LeL_nil, and_true, true_and, Bool.and_eq_true, Bool.or_eq_true, Bool.or_eq_false_iff, decide_eq_true_eq, decide_eq_false_iff_not, Bool.cond_true_left, Bool.cond_false_right, List.cons_append, List.nil_append, List.map_cons, List.map_nil, wrapUpN (show i ≤ 1000000000 by omega)]
  repeat' (first | apply And.intro | intro _hc)
  all_goals first | omega | exact AV.le_refl _ | exact OLe.refl _ | exact LeH.refl _ | exact LeL.refl _ | exact AV.le.bs _ | exact AV.le.sb _ | exact go4 (lo := lo + 1) (l := l) (j := j) (j' := j') hi hl (LeL.refl _) (LeH.refl _) (by omega) (by omega) (hp4) (hp5) | ((rw [List.append_nil]; exact OLe.refl _)) | (exfalso; omega) | contradiction
theorem c4sendOk {mo lo : Int} {l j j' : List It} {acts : List Act} {i : Nat} (hp : pre4 mo acts ⟨i, lo, l, j, j'⟩) (hm : mo ≤ 4096) (hn : acts.length ≤ 100) (hi : i < acts.length) (hl : ¬ 70000 < (acts.getD i default).x.t.size) (hk : (acts.getD i default).k = 0) (h : (acts.getD i default).x.t.size ≤ 65536) (h2 : (l.length : Int) ≠ mo) : RO mo acts ⟨i, lo, l, j, j'⟩ := by
  obtain ⟨hp1, hp2, hp3, hp4, hp5⟩ := hp
  simp only at hp1 hp2 hp3 hp4 hp5
  have hla : (l ++ [(acts.getD i default).x]).length = l.length + 1 := by simp
  refine .of (noLoops (by kernel_rfl)) (r4sendOk mo lo l j j' acts i h h2 (by omega) (by omega) (by omega)) ?_
  simp only [not_true_eq_false, not_false_eq_true, false_implies, true_implies, implies_true, Nat.blt_eq, owesN, owesX, owesR, Bool.not_eq_true', Bool.not_eq_false', Bool.and_eq_false_iff, sat_brT, sat_brF, sat_chkT, cl_iff, cl_false, AV.le_refl, AV.le_any, OLe_refl, OLe_none, Tree.sat_br, Tree.sat_chk, Tree.sat_leaf, Tree.sat_fail, Nat.zero_add, Nat.sub_zero, Int.toNat_natCast, LeH_cons, LeH_nil, LeL_cons, LeL_nil, and_true, true_and, Bool.and_eq_true, Bool.or_eq_true, Bool.or_eq_false_iff, decide_eq_true_eq, decide_eq_false_iff_not, Bool.cond_true_left, Bool.cond_false_right, List.cons_append, List.nil_append, List.map_cons, List.map_nil, wrapUpN (show i ≤ 1000000000 by omega)]
  repeat' (first | apply And.intro | intro _hc)
  all_goals first | omega | exact AV.le_refl _ | exact OLe.refl _ | exact LeH.refl _ | exact LeL.refl _ | exact AV.le.bs _ | exact AV.le.sb _ | exact go4 (lo := lo) (l := l ++ [(acts.getD i default).x]) (j := []) (j' := []) hi hl (LeL.refl _) (LeH.refl _) (by omega) (by omega) (by (show ((l ++ [_]).length : Int) ≤ mo); omega) (t_app hp5 h) | ((rw [List.append_nil]; exact OLe.refl _)) | (exfalso; omega) | contradiction
theorem c4takeNo {mo lo : Int} {l j j' : List It} {acts : List Act} {i : Nat} (hp : pre4 mo acts ⟨i, lo, l, j, j'⟩) (hm : mo ≤ 4096) (hn : acts.length ≤ 100) (hi : i < acts.length) (hl : ¬ 70000 < (acts.getD i default).x.t.size) (hk : (acts.getD i default).k = 1) (h : (acts.getD i default).i < 0 ∨ (l.length : Int) ≤ (acts.getD i default).i) : RO mo acts ⟨i, lo, l, j, j'⟩ := by
  obtain ⟨hp1, hp2, hp3, hp4, hp5⟩ := hp
  simp only at hp1 hp2 hp3 hp4 hp5
  refine .of (noLoops (by kernel_rfl)) (r4takeNo mo lo l j j' acts i h (by omega)) ?_
  simp only [not_true_eq_false, not_false_eq_true, false_implies, true_implies, implies_true, Nat.blt_eq, owesN, owesX, owesR, Bool.not_eq_true', Bool.not_eq_false', Bool.and_eq_false_iff, sat_brT, sat_brF, sat_chkT, cl_iff, cl_false, AV.le_refl, AV.le_any, OLe_refl, OLe_none, Tree.sat_br, Tree.sat_chk, Tree.sat_leaf, Tree.sat_fail, Nat.zero_add, Nat.sub_zero, Int.toNat_natCast, LeH_cons, LeH_nil, LeL_cons, LeL_nil, and_true, true_and, Bool.and_eq_true, Bool.or_eq_true, Bool.or_eq_false_iff, decide_eq_true_eq, decide_eq_false_iff_not, Bool.cond_true_left, Bool.cond_false_right, List.cons_append, List.nil_append, List.map_cons, List.map_nil, wrapUpN (show i ≤ 1000000000 by omega)]
  repeat' (first | apply And.intro | intro _hc)
  all_goals first | omega | exact AV.le_refl _ | exact OLe.refl _ | exact LeH.refl _ | exact LeL.refl _ | exact AV.le.bs _ | exact AV.le.sb _ | exact go4 (lo := lo) (l := l) (j := j) (j' := j') hi hl (LeL.refl _) (LeH.refl _) (by omega) (by omega) (hp4) (hp5) | ((rw [List.append_nil]; exact OLe.refl _)) | (exfalso; omega) | contradiction
theorem c4take {mo lo : Int} {l j j' : List It} {acts : List Act} {i : Nat} (hp : pre4 mo acts ⟨i, lo, l, j, j'⟩) (hm : mo ≤ 4096) (hn : acts.length ≤ 100) (hi : i < acts.length) (hl : ¬ 70000 < (acts.getD i default).x.t.size) (hk : (acts.getD i default).k = 1) (p : Nat) (hpi : (acts.getD i default).i = (p : Int)) (h : p < l.length) : RO mo acts ⟨i, lo, l, j, j'⟩ := by
  obtain ⟨hp1, hp2, hp3, hp4, hp5⟩ := hp
  simp only at hp1 hp2 hp3 hp4 hp5
  have hla : (l.eraseIdx p).length = l.length - 1 := List.length_eraseIdx_of_lt h
  refine .of (noLoops (by kernel_rfl)) (r4take mo lo l j j' acts i p h (by omega) (by omega)) ?_
  simp only [not_true_eq_false, not_false_eq_true, false_implies, true_implies, implies_true, Nat.blt_eq, owesN, owesX, owesR, Bool.not_eq_true', Bool.not_eq_false', Bool.and_eq_false_iff, sat_brT, sat_brF, sat_chkT, cl_iff, cl_false, AV.le_refl, AV.le_any, OLe_refl, OLe_none, Tree.sat_br, Tree.sat_chk, Tree.sat_leaf, Tree.sat_fail, Nat.zero_add, Nat.sub_zero, Int.toNat_natCast, LeH_cons, LeH_nil, LeL_cons, LeL_nil, and_true, true_and, Bool.and_eq_true, Bool.or_eq_true, Bool.or_eq_false_iff, decide_eq_true_eq, decide_eq_false_iff_not, Bool.cond_true_left, Bool.cond_false_right, List.cons_append, List.nil_append, List.map_cons, List.map_nil, wrapUpN (show i ≤ 1000000000 by omega), hpi]
  repeat' (first | apply And.intro | intro _hc)
  all_goals first | omega | exact AV.le_refl _ | exact OLe.refl _ | exact LeH.refl _ | exact LeL.refl _ | exact AV.le.bs _ | exact AV.le.sb _ | exact go4 (lo := lo) (l := l.eraseIdx p) (j := default :: j) (j' := []) hi hl (LeL.refl _) (LeH.refl _) (by omega) (by omega) (by (show ((l.eraseIdx p).length : Int) ≤ mo); omega) (t_era h hp5) | ((rw [List.append_nil]; exact OLe.refl _)) | (exfalso; omega) | contradiction
theorem c4dblNo {mo lo : Int} {l j j' : List It} {acts : List Act} {i : Nat} (hp : pre4 mo acts ⟨i, lo, l, j, j'⟩) (hm : mo ≤ 4096) (hn : acts.length ≤ 100) (hi : i < acts.length) (hl : ¬ 70000 < (acts.getD i default).x.t.size) (hk : (acts.getD i default).k = 2) (h : (acts.getD i default).i < 0 ∨ (l.length : Int) ≤ (acts.getD i default).i) : RO mo acts ⟨i, lo, l, j, j'⟩ := by
  obtain ⟨hp1, hp2, hp3, hp4, hp5⟩ := hp
  simp only at hp1 hp2 hp3 hp4 hp5
  refine .of (noLoops (by kernel_rfl)) (r4dblNo mo lo l j j' acts i h (by omega)) ?_
  simp only [not_true_eq_false, not_false_eq_true, false_implies, true_implies, implies_true, Nat.blt_eq, owesN, owesX, owesR, Bool.not_eq_true', Bool.not_eq_false', Bool.and_eq_false_iff, sat_brT, sat_brF, sat_chkT, cl_iff, cl_false, AV.le_refl, AV.le_any, OLe_refl, OLe_none, Tree.sat_br, Tree.sat_chk, Tree.sat_leaf, Tree.sat_fail, Nat.zero_add, Nat.sub_zero, Int.toNat_natCast, LeH_cons, LeH_nil, LeL_cons, LeL_nil, and_true, true_and, Bool.and_eq_true, Bool.or_eq_true, Bool.or_eq_false_iff, decide_eq_true_eq, decide_eq_false_iff_not, Bool.cond_true_left, Bool.cond_false_right, List.cons_append, List.nil_append, List.map_cons, List.map_nil, wrapUpN (show i ≤ 1000000000 by omega)]
  repeat' (first | apply And.intro | intro _hc)
  all_goals first | omega | exact AV.le_refl _ | exact OLe.refl _ | exact LeH.refl _ | exact LeL.refl _ | exact AV.le.bs _ | exact AV.le.sb _ | exact go4 (lo := lo) (l := l) (j := j) (j' := j') hi hl (LeL.refl _) (LeH.refl _) (by omega) (by omega) (hp4) (hp5) | ((rw [List.append_nil]; exact OLe.refl _)) | (exfalso; omega) | contradiction
theorem c4dblFull {mo lo : Int} {l j j' : List It} {acts : List Act} {i : Nat} (hp : pre4 mo acts ⟨i, lo, l, j, j'⟩) (hm : mo ≤ 4096) (hn : acts.length ≤ 100) (hi : i < acts.length) (hl : ¬ 70000 < (acts.getD i default).x.t.size) (hk : (acts.getD i default).k = 2) (p : Nat) (hpi : (acts.getD i default).i = (p : Int)) (h : p < l.length) (h2 : (l.length : Int) = mo) : RO mo acts ⟨i, lo, l, j, j'⟩ := by
  obtain ⟨hp1, hp2, hp3, hp4, hp5⟩ := hp
  simp only at hp1 hp2 hp3 hp4 hp5
  refine .of (noLoops (by kernel_rfl)) (r4dblFull mo lo l j j' acts i p h h2 (by omega) (by omega) (hp5 p h) (by omega)) ?_
  simp only [not_true_eq_false, not_false_eq_true, false_implies, true_implies, implies_true, Nat.blt_eq, owesN, owesX, owesR, Bool.not_eq_true', Bool.not_eq_false', Bool.and_eq_false_iff, sat_brT, sat_brF, sat_chkT, cl_iff, cl_false, AV.le_refl, AV.le_any, OLe_refl, OLe_none, Tree.sat_br, Tree.sat_chk, Tree.sat_leaf, Tree.sat_fail, Nat.zero_add, Nat.sub_zero, Int.toNat_natCast, LeH_cons, LeH_nil, LeL_cons, LeL_nil, and_true, true_and, Bool.and_eq_true, Bool.or_eq_true, Bool.or_eq_false_iff, decide_eq_true_eq, decide_eq_false_iff_not, Bool.cond_true_left, Bool.cond_false_right, List.cons_append, List.nil_append, List.map_cons, List.map_nil, wrapUpN (show i ≤ 1000000000 by omega), hpi]
  repeat' (first | apply And.intro | intro _hc)
  all_goals first | omega | exact AV.le_refl _ | exact OLe.refl _ | exact LeH.refl _ | exact LeL.refl _ | exact AV.le.bs _ | exact AV.le.sb _ | exact go4 (lo := lo + 1) (l := l) (j := j) (j' := j') hi hl (LeL.refl _) (LeH.refl _) (by omega) (by omega) (hp4) (hp5) | ((rw [List.append_nil]; exact OLe.refl _)) | (exfalso; omega) | contradiction
theorem c4dblOk {mo lo : Int} {l j j' : List It} {acts : List Act} {i : Nat} (hp : pre4 mo acts ⟨i, lo, l, j, j'⟩) (hm : mo ≤ 4096) (hn : acts.length ≤ 100) (hi : i < acts.length) (hl : ¬ 70000 < (acts.getD i default).x.t.size) (hk : (acts.getD i default).k = 2) (p : Nat) (hpi : (acts.getD i default).i = (p : Int)) (h : p < l.length) (h2 : (l.length : Int) ≠ mo) : RO mo acts ⟨i, lo, l, j, j'⟩ := by
  obtain ⟨hp1, hp2, hp3, hp4, hp5⟩ := hp
  simp only at hp1 hp2 hp3 hp4 hp5
  have hla : (l ++ [l.getD p default]).length = l.length + 1 := by simp
  refine .of (noLoops (by kernel_rfl)) (r4dblOk mo lo l j j' acts i p h h2 (by omega) (hp5 p h) (by omega) (by omega)) ?_
  simp only [not_true_eq_false, not_false_eq_true, false_implies, true_implies, implies_true, Nat.blt_eq, owesN, owesX, owesR, Bool.not_eq_true', Bool.not_eq_false', Bool.and_eq_false_iff, sat_brT, sat_brF, sat_chkT, cl_iff, cl_false, AV.le_refl, AV.le_any, OLe_refl, OLe_none, Tree.sat_br, Tree.sat_chk, Tree.sat_leaf, Tree.sat_fail, Nat.zero_add, Nat.sub_zero, Int.toNat_natCast, LeH_cons, LeH_nil, LeL_cons, LeL_nil, and_true, true_and, Bool.and_eq_true, Bool.or_eq_true, Bool.or_eq_false_iff, decide_eq_true_eq, decide_eq_false_iff_not, Bool.cond_true_left, Bool.cond_false_right, List.cons_append, List.nil_append, List.map_cons, List.map_nil, wrapUpN (show i ≤ 1000000000 by omega), hpi]
  repeat' (first | apply And.intro | intro _hc)
  all_goals first | omega | exact AV.le_refl _ | exact OLe.refl _ | exact LeH.refl _ | exact LeL.refl _ | exact AV.le.bs _ | exact AV.le.sb _ | exact go4 (lo := lo) (l := l ++ [l.getD p default]) (j := []) (j' := []) hi hl (LeL.refl _) (LeH.refl _) (by omega) (by omega) (by (show ((l ++ [_]).length : Int) ≤ mo); omega) (t_app hp5 (hp5 p h)) | ((rw [List.append_nil]; exact OLe.refl _)) | (exfalso; omega) | contradiction
theorem c4atNo {mo lo : Int} {l j j' : List It} {acts : List Act} {i : Nat} (hp : pre4 mo acts ⟨i, lo, l, j, j'⟩) (hm : mo ≤ 4096) (hn : acts.length ≤ 100) (hi : i < acts.length) (hl : ¬ 70000 < (acts.getD i default).x.t.size) (hk : (acts.getD i default).k = 3) (h : (acts.getD i default).i < 0 ∨ (l.length : Int) ≤ (acts.getD i default).i) : RO mo acts ⟨i, lo, l, j, j'⟩ := by
  obtain ⟨hp1, hp2, hp3, hp4, hp5⟩ := hp
  simp only at hp1 hp2 hp3 hp4 hp5
  refine .of (noLoops (by kernel_rfl)) (r4atNo mo lo l j j' acts i h (by omega)) ?_
  simp only [not_true_eq_false, not_false_eq_true, false_implies, true_implies, implies_true, Nat.blt_eq, owesN, owesX, owesR, Bool.not_eq_true', Bool.not_eq_false', Bool.and_eq_false_iff, sat_brT, sat_brF, sat_chkT, cl_iff, cl_false, AV.le_refl, AV.le_any, OLe_refl, OLe_none, Tree.sat_br, Tree.sat_chk, Tree.sat_leaf, Tree.sat_fail, Nat.zero_add, Nat.sub_zero, Int.toNat_natCast, LeH_cons, LeH_nil, LeL_cons, LeL_nil, and_true, true_and, Bool.and_eq_true, Bool.or_eq_true, Bool.or_eq_false_iff, decide_eq_true_eq, decide_eq_false_iff_not, Bool.cond_true_left, Bool.cond_false_right, List.cons_append, List.nil_append, List.map_cons, List.map_nil, wrapUpN (show i ≤ 1000000000 by omega)]
  repeat' (first | apply And.intro | intro _hc)
  all_goals first | omega | exact AV.le_refl _ | exact OLe.refl _ | exact LeH.refl _ | exact LeL.refl _ | exact AV.le.bs _ | exact AV.le.sb _ | exact go4 (lo := lo) (l := l) (j := j) (j' := j') hi hl (LeL.refl _) (LeH.refl _) (by omega) (by omega) (hp4) (hp5) | ((rw [List.append_nil]; exact OLe.refl _)) | (exfalso; omega) | contradiction
theorem c4at {mo lo : Int} {l j j' : List It} {acts : List Act} {i : Nat} (hp : pre4 mo acts ⟨i, lo, l, j, j'⟩) (hm : mo ≤ 4096) (hn : acts.length ≤ 100) (hi : i < acts.length) (hl : ¬ 70000 < (acts.getD i default).x.t.size) (hk : (acts.getD i default).k = 3) (p : Nat) (hpi : (acts.getD i default).i = (p : Int)) (h : p < l.length) : RO mo acts ⟨i, lo, l, j, j'⟩ := by
  obtain ⟨hp1, hp2, hp3, hp4, hp5⟩ := hp
  simp only at hp1 hp2 hp3 hp4 hp5
  refine .of (noLoops (by kernel_rfl)) (r4at mo lo l j j' acts i p h (by omega)) ?_
  simp only [not_true_eq_false, not_false_eq_true, false_implies, true_implies, implies_true, Nat.blt_eq, owesN, owesX, owesR, Bool.not_eq_true', Bool.not_eq_false', Bool.and_eq_false_iff, sat_brT, sat_brF, sat_chkT, cl_iff, cl_false, AV.le_refl, AV.le_any, OLe_refl, OLe_none, Tree.sat_br, Tree.sat_chk, Tree.sat_leaf, Tree.sat_fail, Nat.zero_add, Nat.sub_zero, Int.toNat_natCast, LeH_cons, LeH_nil, LeL_cons, LeL_nil, and_true, true_and, Bool.and_eq_true, Bool.or_eq_true, Bool.or_eq_false_iff, decide_eq_true_eq, decide_eq_false_iff_not, Bool.cond_true_left, Bool.cond_false_right, List.cons_append, List.nil_append, List.map_cons, List.map_nil, wrapUpN (show i ≤ 1000000000 by omega), hpi, getD_app h]
  repeat' (first | apply And.intro | intro _hc)
  all_goals first | omega | exact AV.le_refl _ | exact OLe.refl _ | exact LeH.refl _ | exact LeL.refl _ | exact AV.le.bs _ | exact AV.le.sb _ | exact go4 (lo := lo) (l := l) (j := j) (j' := j') hi hl (LeL.refl _) (LeH.refl _) (by omega) (by omega) (hp4) (hp5) | ((rw [List.append_nil]; exact OLe.refl _)) | (exfalso; omega) | contradiction
theorem c4else {mo lo : Int} {l j j' : List It} {acts : List Act} {i : Nat} (hp : pre4 mo acts ⟨i, lo, l, j, j'⟩) (hm : mo ≤ 4096) (hn : acts.length ≤ 100) (hi : i < acts.length) (hl : ¬ 70000 < (acts.getD i default).x.t.size) (h0 : (acts.getD i default).k ≠ 0) (h1 : (acts.getD i default).k ≠ 1) (h2 : (acts.getD i default).k ≠ 2) (h3 : (acts.getD i default).k ≠ 3) : RO mo acts ⟨i, lo, l, j, j'⟩ := by
  obtain ⟨hp1, hp2, hp3, hp4, hp5⟩ := hp
  simp only at hp1 hp2 hp3 hp4 hp5
  refine .of (noLoops (by kernel_rfl)) (r4else mo lo l j j' acts i (by omega)) ?_
  simp only [not_true_eq_false, not_false_eq_true, false_implies, true_implies, implies_true, Nat.blt_eq, owesN, owesX, owesR, Bool.not_eq_true', Bool.not_eq_false', Bool.and_eq_false_iff, sat_brT, sat_brF, sat_chkT, cl_iff, cl_false, AV.le_refl, AV.le_any, OLe_refl, OLe_none, Tree.sat_br, Tree.sat_chk, Tree.sat_leaf, Tree.sat_fail, Nat.zero_add, Nat.sub_zero, Int.toNat_natCast, LeH_cons, LeH_nil, LeL_cons, LeL_nil, and_true, true_and, Bool.and_eq_true, Bool.or_eq_true, Bool.or_eq_false_iff, decide_eq_true_eq, decide_eq_false_iff_not, Bool.cond_true_left, Bool.cond_false_right, List.cons_append, List.nil_append, List.map_cons, List.map_nil, wrapUpN (show i ≤ 1000000000 by omega)]
  repeat' (first | apply And.intro | intro _hc)
  all_goals first | omega | exact AV.le_refl _ | exact OLe.refl _ | exact LeH.refl _ | exact LeL.refl _ | exact AV.le.bs _ | exact AV.le.sb _ | exact go4 (lo := lo) (l := l) (j := j) (j' := j') hi hl (LeL.refl _) (LeH.refl _) (by omega) (by omega) (hp4) (hp5) | ((rw [List.append_nil]; exact OLe.refl _)) | (exfalso; omega) | contradiction
end Go.Eng.N

/- net: any calls. -/
namespace Go.Eng.N
open Go Go.Eng Go.Proofs
set_option linter.unusedSimpArgs false
set_option linter.unusedVariables false
theorem loop4 {mo : Int} {acts : List Act} (hm : mo ≤ 4096) (hn : acts.length ≤ 100) : ∀ x, pre4 mo acts x → LoopOK Try.prog Γn 0 154 lp4 (LSpec.at lv4 nl4 (SX mo acts x) (O4 acts x.i)) := by
  refine loop_at (S := SX mo acts) (O := fun x => O4 acts x.i) (k := 0) (fun x => acts.length - x.i) fun x hp => ?_
  obtain ⟨i, lo, l, j, j'⟩ := x
  show RO mo acts ⟨i, lo, l, j, j'⟩
  rcases Nat.lt_or_ge i acts.length with hi | hi
  case inr => exact c4end hp hm hn hi
  by_cases hl : 70000 < (acts.getD i default).x.t.size
  · exact c4long hp hm hn hi hl
  have hp4 : (l.length : Int) ≤ mo := hp.l
  by_cases k0 : (acts.getD i default).k = 0
  · by_cases h : 65536 < (acts.getD i default).x.t.size
    · exact c4sendLong hp hm hn hi hl k0 h
    · by_cases h2 : (l.length : Int) = mo
      · exact c4sendFull hp hm hn hi hl k0 (by omega) h2
      · exact c4sendOk hp hm hn hi hl k0 (by omega) h2
  by_cases hb : (acts.getD i default).i < 0 ∨ (l.length : Int) ≤ (acts.getD i default).i
  · by_cases k1 : (acts.getD i default).k = 1
    · exact c4takeNo hp hm hn hi hl k1 hb
    by_cases k2 : (acts.getD i default).k = 2
    · exact c4dblNo hp hm hn hi hl k2 hb
    by_cases k3 : (acts.getD i default).k = 3
    · exact c4atNo hp hm hn hi hl k3 hb
    exact c4else hp hm hn hi hl k0 k1 k2 k3
  · obtain ⟨p, hpi⟩ := Int.eq_ofNat_of_zero_le (show 0 ≤ (acts.getD i default).i by omega)
    have hpl : p < l.length := by omega
    by_cases k1 : (acts.getD i default).k = 1
    · exact c4take hp hm hn hi hl k1 p hpi hpl
    by_cases k2 : (acts.getD i default).k = 2
    · by_cases h2 : (l.length : Int) = mo
      · exact c4dblFull hp hm hn hi hl k2 p hpi hpl h2
      · exact c4dblOk hp hm hn hi hl k2 p hpi hpl h2
    by_cases k3 : (acts.getD i default).k = 3
    · exact c4at hp hm hn hi hl k3 p hpi hpl
    exact c4else hp hm hn hi hl k0 k1 k2 k3
/-- hallmoot/net.New -/
noncomputable def S8 : CT Try.prog Γn := CT.auto false 100 3 [] 8 Try.f8 (bodyOf Try.f8) false 13 [.tmp 2, .tmp 3] Try.func8 (by kernel_rfl) (by kernel_rfl) (by kernel_rfl) (by kernel_rfl)
noncomputable abbrev T4 : List (CT Try.prog Γn) := [c7, S8]
def A4 (mo : Int) (a : Option (List Act)) : List AV := [.v (.int .i64 mo), lArg Act.c 5 a]
theorem law4nil (mo : Int) : bodyE (P := Try.prog) (Γ := Γn) T4 (autoL false 100 T4 false 0 154 (loopBodies (bodyOf Try.f4)) 3) false 154 [.tmp 4] (bodyOf Try.f4) (A4 mo none) [] =
  Tree.br false (Tree.leaf (Ans.mk (AV.v (Value.bool true)) []))
  (Tree.br (bif decide (mo < (1 : Int)) then true else decide ((4096 : Int) < mo))
    (Tree.br (bif decide (mo < (1 : Int)) then true else decide ((4096 : Int) < mo))
      (Tree.leaf (Ans.mk (AV.sb true) []))
      (Tree.br true (Tree.leaf (Ans.mk (AV.v (Value.bool false)) []))
        (Tree.br false Tree.fail (Tree.leaf (Ans.mk (AV.v (Value.bool true)) [])))))
    (Tree.br (bif decide (mo < (1 : Int)) then true else decide ((4096 : Int) < mo))
      (Tree.leaf (Ans.mk (AV.v (Value.bool false)) []))
      (Tree.br false (Tree.leaf (Ans.mk (AV.v (Value.bool false)) []))
        (Tree.br false Tree.fail (Tree.leaf (Ans.mk (AV.v (Value.bool true)) [])))))) := by kernel_rfl
theorem law4no (mo : Int) (acts : List Act) : bodyE (P := Try.prog) (Γ := Γn) T4 Lno false 154 [.tmp 4] (bodyOf Try.f4) (A4 mo (some acts)) [] =
  Tree.br (decide ((100 : Int) < (↑(List.length acts) : Int))) (Tree.leaf (Ans.mk (AV.v (Value.bool true)) []))
  (Tree.br (bif decide (mo < (1 : Int)) then true else decide ((4096 : Int) < mo))
    (Tree.br (bif decide (mo < (1 : Int)) then true else decide ((4096 : Int) < mo))
      (Tree.leaf (Ans.mk (AV.sb true) [])) (Tree.br true (Tree.leaf (Ans.mk (AV.v (Value.bool false)) [])) Tree.fail))
    (Tree.br (bif decide (mo < (1 : Int)) then true else decide ((4096 : Int) < mo))
      (Tree.leaf (Ans.mk (AV.v (Value.bool false)) []))
      (Tree.br false (Tree.leaf (Ans.mk (AV.v (Value.bool false)) [])) Tree.fail))) := by kernel_rfl
theorem law4ret (mo : Int) (acts : List Act) : bodyE (P := Try.prog) (Γ := Γn) T4 (fun _ => LSpec.at lv4 nl4 (SX mo acts ⟨0, 0, [], [], []⟩) ret4) false 154 [.tmp 4] (bodyOf Try.f4) (A4 mo (some acts)) [] =
  Tree.br (decide ((100 : Int) < (↑(List.length acts) : Int))) (Tree.leaf (Ans.mk (AV.v (Value.bool true)) []))
  (Tree.br (bif decide (mo < (1 : Int)) then true else decide ((4096 : Int) < mo))
    (Tree.br (bif decide (mo < (1 : Int)) then true else decide ((4096 : Int) < mo))
      (Tree.leaf (Ans.mk (AV.sb true) []))
      (Tree.br true (Tree.leaf (Ans.mk (AV.v (Value.bool false)) []))
        (Tree.chk
          (cl
            (LeL
                [AV.sl (5 : Nat) (List.length acts) (lsF Act.c acts), AV.v (Value.pointer none),
                  AV.ptr (0 : Nat) (0 : Nat), AV.v (Value.int IntKind.i64 (0 : Int)), AV.v (Value.bool false)]
                [AV.sl (5 : Nat) (List.length acts) (lsF Act.c acts), AV.ptr (0 : Nat) (0 : Nat),
                  AV.ptr (2 : Nat) (0 : Nat), AV.v (Value.int IntKind.i64 (↑(0 : Nat) : Int)), AV.any] ∧
              LeH
                [some
                    (Blk.row
                      [AV.v (Value.int IntKind.i64 mo), AV.v (Value.int IntKind.i64 (0 : Int)),
                        AV.hs (1 : Nat) (0 : Nat) (0 : Nat)]),
                  some
                    (Blk.arr (3 : Nat) (0 : Nat) fun x =>
                      [AV.v (Value.int IntKind.i64 (0 : Int)), AV.v (Value.int IntKind.i64 (0 : Int)),
                        AV.v (Value.string (ByteArray.mk #[]))])]
                [some
                    (Blk.row
                      [AV.v (Value.int IntKind.i64 mo), AV.v (Value.int IntKind.i64 (0 : Int)),
                        AV.hs (1 : Nat) (0 : Nat) (0 : Nat)]),
                  some
                    (Blk.arr (3 : Nat) (0 : Nat)
                      (lsF It.c ((X4.mk (0 : Nat) (0 : Int) [] [] []).l ++ (X4.mk (0 : Nat) (0 : Int) [] [] []).j))),
                  some
                    (Blk.row
                      [AV.v (Value.int IntKind.i64 mo), AV.v (Value.int IntKind.i64 (0 : Int)),
                        AV.hs (3 : Nat) (0 : Nat) (0 : Nat)]),
                  some
                    (Blk.arr (3 : Nat) (0 : Nat)
                      (lsF It.c ((X4.mk (0 : Nat) (0 : Int) [] [] []).l ++ (X4.mk (0 : Nat) (0 : Int) [] [] []).j')))]))
          (Tree.leaf (Ans.mk (AV.sb true) [])))))
    (Tree.br (bif decide (mo < (1 : Int)) then true else decide ((4096 : Int) < mo))
      (Tree.leaf (Ans.mk (AV.v (Value.bool false)) []))
      (Tree.br false (Tree.leaf (Ans.mk (AV.v (Value.bool false)) []))
        (Tree.chk
          (cl
            (LeL
                [AV.sl (5 : Nat) (List.length acts) (lsF Act.c acts), AV.ptr (0 : Nat) (0 : Nat),
                  AV.ptr (2 : Nat) (0 : Nat), AV.v (Value.int IntKind.i64 (0 : Int)), AV.v (Value.bool false)]
                [AV.sl (5 : Nat) (List.length acts) (lsF Act.c acts), AV.ptr (0 : Nat) (0 : Nat),
                  AV.ptr (2 : Nat) (0 : Nat), AV.v (Value.int IntKind.i64 (↑(0 : Nat) : Int)), AV.any] ∧
              LeH
                [some
                    (Blk.row
                      [AV.v (Value.int IntKind.i64 mo), AV.v (Value.int IntKind.i64 (0 : Int)),
                        AV.hs (1 : Nat) (0 : Nat) (0 : Nat)]),
                  some
                    (Blk.arr (3 : Nat) (0 : Nat) fun x =>
                      [AV.v (Value.int IntKind.i64 (0 : Int)), AV.v (Value.int IntKind.i64 (0 : Int)),
                        AV.v (Value.string (ByteArray.mk #[]))]),
                  some
                    (Blk.row
                      [AV.v (Value.int IntKind.i64 mo), AV.v (Value.int IntKind.i64 (0 : Int)),
                        AV.hs (3 : Nat) (0 : Nat) (0 : Nat)]),
                  some
                    (Blk.arr (3 : Nat) (0 : Nat) fun x =>
                      [AV.v (Value.int IntKind.i64 (0 : Int)), AV.v (Value.int IntKind.i64 (0 : Int)),
                        AV.v (Value.string (ByteArray.mk #[]))])]
                [some
                    (Blk.row
                      [AV.v (Value.int IntKind.i64 mo), AV.v (Value.int IntKind.i64 (0 : Int)),
                        AV.hs (1 : Nat) (0 : Nat) (0 : Nat)]),
                  some
                    (Blk.arr (3 : Nat) (0 : Nat)
                      (lsF It.c ((X4.mk (0 : Nat) (0 : Int) [] [] []).l ++ (X4.mk (0 : Nat) (0 : Int) [] [] []).j))),
                  some
                    (Blk.row
                      [AV.v (Value.int IntKind.i64 mo), AV.v (Value.int IntKind.i64 (0 : Int)),
                        AV.hs (3 : Nat) (0 : Nat) (0 : Nat)]),
                  some
                    (Blk.arr (3 : Nat) (0 : Nat)
                      (lsF It.c ((X4.mk (0 : Nat) (0 : Int) [] [] []).l ++ (X4.mk (0 : Nat) (0 : Int) [] [] []).j')))]))
          (Tree.leaf (Ans.mk (AV.sb true) [])))))) := by kernel_rfl
theorem law4end (mo : Int) (acts : List Act) : bodyE (P := Try.prog) (Γ := Γn) T4 (fun _ => LSpec.at lv4 nl4 (SX mo acts ⟨0, 0, [], [], []⟩) end4) false 154 [.tmp 4] (bodyOf Try.f4) (A4 mo (some acts)) [] =
  Tree.br (decide ((100 : Int) < (↑(List.length acts) : Int))) (Tree.leaf (Ans.mk (AV.v (Value.bool true)) []))
  (Tree.br (bif decide (mo < (1 : Int)) then true else decide ((4096 : Int) < mo))
    (Tree.br (bif decide (mo < (1 : Int)) then true else decide ((4096 : Int) < mo))
      (Tree.leaf (Ans.mk (AV.sb true) []))
      (Tree.br true (Tree.leaf (Ans.mk (AV.v (Value.bool false)) []))
        (Tree.chk
          (cl
            (LeL
                [AV.sl (5 : Nat) (List.length acts) (lsF Act.c acts), AV.v (Value.pointer none),
                  AV.ptr (0 : Nat) (0 : Nat), AV.v (Value.int IntKind.i64 (0 : Int)), AV.v (Value.bool false)]
                [AV.sl (5 : Nat) (List.length acts) (lsF Act.c acts), AV.ptr (0 : Nat) (0 : Nat),
                  AV.ptr (2 : Nat) (0 : Nat), AV.v (Value.int IntKind.i64 (↑(0 : Nat) : Int)), AV.any] ∧
              LeH
                [some
                    (Blk.row
                      [AV.v (Value.int IntKind.i64 mo), AV.v (Value.int IntKind.i64 (0 : Int)),
                        AV.hs (1 : Nat) (0 : Nat) (0 : Nat)]),
                  some
                    (Blk.arr (3 : Nat) (0 : Nat) fun x =>
                      [AV.v (Value.int IntKind.i64 (0 : Int)), AV.v (Value.int IntKind.i64 (0 : Int)),
                        AV.v (Value.string (ByteArray.mk #[]))])]
                [some
                    (Blk.row
                      [AV.v (Value.int IntKind.i64 mo), AV.v (Value.int IntKind.i64 (0 : Int)),
                        AV.hs (1 : Nat) (0 : Nat) (0 : Nat)]),
                  some
                    (Blk.arr (3 : Nat) (0 : Nat)
                      (lsF It.c ((X4.mk (0 : Nat) (0 : Int) [] [] []).l ++ (X4.mk (0 : Nat) (0 : Int) [] [] []).j))),
                  some
                    (Blk.row
                      [AV.v (Value.int IntKind.i64 mo), AV.v (Value.int IntKind.i64 (0 : Int)),
                        AV.hs (3 : Nat) (0 : Nat) (0 : Nat)]),
                  some
                    (Blk.arr (3 : Nat) (0 : Nat)
                      (lsF It.c ((X4.mk (0 : Nat) (0 : Int) [] [] []).l ++ (X4.mk (0 : Nat) (0 : Int) [] [] []).j')))]))
          (Tree.leaf (Ans.mk (AV.v (Value.bool true)) [])))))
    (Tree.br (bif decide (mo < (1 : Int)) then true else decide ((4096 : Int) < mo))
      (Tree.leaf (Ans.mk (AV.v (Value.bool false)) []))
      (Tree.br false (Tree.leaf (Ans.mk (AV.v (Value.bool false)) []))
        (Tree.chk
          (cl
            (LeL
                [AV.sl (5 : Nat) (List.length acts) (lsF Act.c acts), AV.ptr (0 : Nat) (0 : Nat),
                  AV.ptr (2 : Nat) (0 : Nat), AV.v (Value.int IntKind.i64 (0 : Int)), AV.v (Value.bool false)]
                [AV.sl (5 : Nat) (List.length acts) (lsF Act.c acts), AV.ptr (0 : Nat) (0 : Nat),
                  AV.ptr (2 : Nat) (0 : Nat), AV.v (Value.int IntKind.i64 (↑(0 : Nat) : Int)), AV.any] ∧
              LeH
                [some
                    (Blk.row
                      [AV.v (Value.int IntKind.i64 mo), AV.v (Value.int IntKind.i64 (0 : Int)),
                        AV.hs (1 : Nat) (0 : Nat) (0 : Nat)]),
                  some
                    (Blk.arr (3 : Nat) (0 : Nat) fun x =>
                      [AV.v (Value.int IntKind.i64 (0 : Int)), AV.v (Value.int IntKind.i64 (0 : Int)),
                        AV.v (Value.string (ByteArray.mk #[]))]),
                  some
                    (Blk.row
                      [AV.v (Value.int IntKind.i64 mo), AV.v (Value.int IntKind.i64 (0 : Int)),
                        AV.hs (3 : Nat) (0 : Nat) (0 : Nat)]),
                  some
                    (Blk.arr (3 : Nat) (0 : Nat) fun x =>
                      [AV.v (Value.int IntKind.i64 (0 : Int)), AV.v (Value.int IntKind.i64 (0 : Int)),
                        AV.v (Value.string (ByteArray.mk #[]))])]
                [some
                    (Blk.row
                      [AV.v (Value.int IntKind.i64 mo), AV.v (Value.int IntKind.i64 (0 : Int)),
                        AV.hs (1 : Nat) (0 : Nat) (0 : Nat)]),
                  some
                    (Blk.arr (3 : Nat) (0 : Nat)
                      (lsF It.c ((X4.mk (0 : Nat) (0 : Int) [] [] []).l ++ (X4.mk (0 : Nat) (0 : Int) [] [] []).j))),
                  some
                    (Blk.row
                      [AV.v (Value.int IntKind.i64 mo), AV.v (Value.int IntKind.i64 (0 : Int)),
                        AV.hs (3 : Nat) (0 : Nat) (0 : Nat)]),
                  some
                    (Blk.arr (3 : Nat) (0 : Nat)
                      (lsF It.c ((X4.mk (0 : Nat) (0 : Int) [] [] []).l ++ (X4.mk (0 : Nat) (0 : Int) [] [] []).j')))]))
          (Tree.leaf (Ans.mk (AV.v (Value.bool true)) [])))))) := by kernel_rfl
theorem law4 (mo : Int) (a : Option (List Act)) : LawOK Try.prog Γn 154 [.tmp 4] (bodyOf Try.f4) (A4 mo a) := by
  cases a with
  | none =>
    refine .mk' (T := T4) (ip := false) (autoL_ok 3) (Right.of (law4nil mo) ?_)
    simp only [not_true_eq_false, not_false_eq_true, false_implies, true_implies, implies_true, Nat.blt_eq, owesN, owesX, owesR, Bool.not_eq_true', Bool.not_eq_false', Bool.and_eq_false_iff, sat_brT, sat_brF, sat_chkT, cl_iff, cl_false, AV.le_refl, AV.le_any, OLe_refl, OLe_none, Tree.sat_br, Tree.sat_chk, Tree.sat_leaf, Tree.sat_fail, Nat.zero_add, Nat.sub_zero, Int.toNat_natCast, LeH_cons, LeH_nil, LeL_cons, LeL_nil, and_true, true_and, Bool.and_eq_true, Bool.or_eq_true, Bool.or_eq_false_iff, decide_eq_true_eq, decide_eq_false_iff_not, Bool.cond_true_left, Bool.cond_false_right, List.cons_append, List.nil_append, List.map_cons, List.map_nil]
    repeat' (first | apply And.intro | intro _hc)
    all_goals first | omega | exact AV.le_refl _ | exact OLe.refl _ | exact LeH.refl _ | exact LeL.refl _ | exact AV.le.bs _ | exact AV.le.sb _ | (exfalso; omega) | contradiction
  | some acts =>
    by_cases h1 : 100 < acts.length
    · refine .mk' (T := T4) (ip := false) (L := Lno) (failOK fun _ _ _ => rfl) (Right.of (law4no mo acts) ?_)
      simp only [not_true_eq_false, not_false_eq_true, false_implies, true_implies, implies_true, Nat.blt_eq, owesN, owesX, owesR, Bool.not_eq_true', Bool.not_eq_false', Bool.and_eq_false_iff, sat_brT, sat_brF, sat_chkT, cl_iff, cl_false, AV.le_refl, AV.le_any, OLe_refl, OLe_none, Tree.sat_br, Tree.sat_chk, Tree.sat_leaf, Tree.sat_fail, Nat.zero_add, Nat.sub_zero, Int.toNat_natCast, LeH_cons, LeH_nil, LeL_cons, LeL_nil, and_true, true_and, Bool.and_eq_true, Bool.or_eq_true, Bool.or_eq_false_iff, decide_eq_true_eq, decide_eq_false_iff_not, Bool.cond_true_left, Bool.cond_false_right, List.cons_append, List.nil_append, List.map_cons, List.map_nil]
      repeat' (first | apply And.intro | intro _hc)
      all_goals first | omega | exact AV.le_refl _ | exact OLe.refl _ | exact LeH.refl _ | exact LeL.refl _ | exact AV.le.bs _ | exact AV.le.sb _ | (exfalso; omega) | contradiction
    by_cases h2 : mo < 1 ∨ 4096 < mo
    · refine .mk' (T := T4) (ip := false) (L := Lno) (failOK fun _ _ _ => rfl) (Right.of (law4no mo acts) ?_)
      simp only [not_true_eq_false, not_false_eq_true, false_implies, true_implies, implies_true, Nat.blt_eq, owesN, owesX, owesR, Bool.not_eq_true', Bool.not_eq_false', Bool.and_eq_false_iff, sat_brT, sat_brF, sat_chkT, cl_iff, cl_false, AV.le_refl, AV.le_any, OLe_refl, OLe_none, Tree.sat_br, Tree.sat_chk, Tree.sat_leaf, Tree.sat_fail, Nat.zero_add, Nat.sub_zero, Int.toNat_natCast, LeH_cons, LeH_nil, LeL_cons, LeL_nil, and_true, true_and, Bool.and_eq_true, Bool.or_eq_true, Bool.or_eq_false_iff, decide_eq_true_eq, decide_eq_false_iff_not, Bool.cond_true_left, Bool.cond_false_right, List.cons_append, List.nil_append, List.map_cons, List.map_nil]
      repeat' (first | apply And.intro | intro _hc)
      all_goals first | omega | exact AV.le_refl _ | exact OLe.refl _ | exact LeH.refl _ | exact LeL.refl _ | exact AV.le.bs _ | exact AV.le.sb _ | (exfalso; omega) | contradiction
    have hp : pre4 mo acts ⟨0, 0, [], [], []⟩ := ⟨Nat.zero_le _, Int.le_refl _, Int.le_refl _, show (0 : Int) ≤ mo by omega, fun p hp => absurd hp (Nat.not_lt_zero _)⟩
    have hl := loop4 (by omega) (by omega) _ hp
    have hO : O4 acts 0 = ret4 ∨ O4 acts 0 = end4 := by
      unfold O4
      by_cases hf : far4 acts 0
      · exact .inl (if_pos hf)
      · exact .inr (if_neg hf)
    have hN : ∀ (f : Nat → List AV), (∀ e, (f e).length = 3) → OLe (some (.arr 3 0 f)) (some (.arr 3 0 (lsF It.c (([] : List It) ++ [])))) := fun f _ => OLe.arr rfl (fun e he => absurd he (Nat.not_lt_zero e)) (fun _ => rfl)
    rcases hO with hO | hO <;> rw [show (X4.mk 0 0 [] [] []).i = 0 from rfl, hO] at hl
    · refine .mk' (T := T4) (ip := false) (oneLoop (b := lp4) (by kernel_rfl) hl) (Right.of (law4ret mo acts) ?_)
      simp only [not_true_eq_false, not_false_eq_true, false_implies, true_implies, implies_true, Nat.blt_eq, owesN, owesX, owesR, Bool.not_eq_true', Bool.not_eq_false', Bool.and_eq_false_iff, sat_brT, sat_brF, sat_chkT, cl_iff, cl_false, AV.le_refl, AV.le_any, OLe_refl, OLe_none, Tree.sat_br, Tree.sat_chk, Tree.sat_leaf, Tree.sat_fail, Nat.zero_add, Nat.sub_zero, Int.toNat_natCast, LeH_cons, LeH_nil, LeL_cons, LeL_nil, and_true, true_and, Bool.and_eq_true, Bool.or_eq_true, Bool.or_eq_false_iff, decide_eq_true_eq, decide_eq_false_iff_not, Bool.cond_true_left, Bool.cond_false_right, List.cons_append, List.nil_append, List.map_cons, List.map_nil]
      repeat' (first | apply And.intro | intro _hc)
      all_goals first | omega | exact AV.le_refl _ | exact OLe.refl _ | exact LeH.refl _ | exact LeL.refl _ | exact AV.le.bs _ | exact AV.le.sb _ | exact hN _ (fun _ => rfl) | (exfalso; omega) | contradiction
    · refine .mk' (T := T4) (ip := false) (oneLoop (b := lp4) (by kernel_rfl) hl) (Right.of (law4end mo acts) ?_)
      simp only [not_true_eq_false, not_false_eq_true, false_implies, true_implies, implies_true, Nat.blt_eq, owesN, owesX, owesR, Bool.not_eq_true', Bool.not_eq_false', Bool.and_eq_false_iff, sat_brT, sat_brF, sat_chkT, cl_iff, cl_false, AV.le_refl, AV.le_any, OLe_refl, OLe_none, Tree.sat_br, Tree.sat_chk, Tree.sat_leaf, Tree.sat_fail, Nat.zero_add, Nat.sub_zero, Int.toNat_natCast, LeH_cons, LeH_nil, LeL_cons, LeL_nil, and_true, true_and, Bool.and_eq_true, Bool.or_eq_true, Bool.or_eq_false_iff, decide_eq_true_eq, decide_eq_false_iff_not, Bool.cond_true_left, Bool.cond_false_right, List.cons_append, List.nil_append, List.map_cons, List.map_nil]
      repeat' (first | apply And.intro | intro _hc)
      all_goals first | omega | exact AV.le_refl _ | exact OLe.refl _ | exact LeH.refl _ | exact LeL.refl _ | exact AV.le.bs _ | exact AV.le.sb _ | exact hN _ (fun _ => rfl) | (exfalso; omega) | contradiction
noncomputable def c4 : CT Try.prog Γn := CT.lawE (fun x : Int × Option (List Act) => A4 x.1 x.2) (fun _ => True) 4 Try.f4 (bodyOf Try.f4) 154 [.tmp 4] Try.func4 (by kernel_rfl) (by kernel_rfl) (by kernel_rfl) (by kernel_rfl) (fun _ _ => by simp [A4]) (fun x _ => law4 x.1 x.2)
def Act.cells (x : Act) : List Value := [.int .i64 x.k, .int .i64 x.i, .int .i64 x.x.a, .int .i64 x.x.b, .string x.x.t]
theorem actDec (vs : List Value) (h : GoodVs [.int .i64, .int .i64, .int .i64, .int .i64, .str] vs) : ∃ a : Act, vs = a.cells := by
  obtain ⟨_, _, rfl, ⟨k, rfl, _⟩, h1⟩ := h.cons
  obtain ⟨_, _, rfl, ⟨i, rfl, _⟩, h2⟩ := h1.cons
  obtain ⟨_, _, rfl, ⟨a, rfl, _⟩, h3⟩ := h2.cons
  obtain ⟨_, _, rfl, ⟨b, rfl, _⟩, h4⟩ := h3.cons
  obtain ⟨_, _, rfl, ⟨t, rfl, _⟩, h5⟩ := h4.cons
  obtain rfl := h5.nil
  exact ⟨⟨k, i, ⟨a, b, t⟩⟩, rfl⟩
end Go.Eng.N

/- NetPlays holds at every input: no condition beyond the row own cells. -/
namespace Go.Proofs.Ytdgmdjoaapdgbaa
open Go Go.ChangeShapes Go.WideShapes Go.ChangeAt Go.WideMaps Go.WideElems Go.RowKit Go.Eng Go.Eng.N
set_option linter.unusedSimpArgs false
set_option linter.unusedVariables false

theorem own0 : ownKnob Try.prog.godebug = none := by kernel_rfl
set_option maxRecDepth 100000 in
theorem netPlays_lifted (os : Os) (started : os.Started) (H : Type) (enc : TypeId × Value → H) :
    ReturnsInHanded {} Try.checked os 4 .any (Rows.netPlaysSpec.pre6 enc Try.prog Try.f4 Rows.netPlaysRow.domain false)
      (Rows.netPlaysSpec.post enc Try.prog Try.f4 false true false false) := by
  refine returnsInHanded_of_change (C := Try.checked) own0 started (by kernel_rfl) Try.func4
    (ChangeSpec.witness6 (enc := enc) (C := Try.checked) false ⟨#[], #[.int .i64 1, .slice none 0 0], []⟩ 8 (by kernel_rfl) (by kernel_rfl) (by kernel_rfl) (by kernel_rfl)) ?_
  intro W base args ds gs before hval0 hW hcnd _
  have hval : ∀ (j : Nat) t v, Try.f4.params[j]? = some t → args[j]? = some v → Value.okWide Try.prog W .any base t v := hval0
  have hW' := hW
  obtain ⟨p, q, hA0, hV, rfl, hfz, hnd⟩ := hW
  have hA : DataW.TrodAll enc Try.prog W 0 (fun _ => true) true Try.f4.params.toList args.toList ds p := hA0
  rw [Try.params4] at hA hval
  obtain ⟨v0, v1, d0, d1, p0, p1, rfl, rfl, rfl, h0, h1⟩ := trodAll_two hA
  obtain ⟨rfl, rfl⟩ := trodVars_none hV
  obtain ⟨n0, rfl, rfl, rfl, w0⟩ := open_int Try.underlying3 (hval 0 3 v0 rfl rfl) h0
  obtain ⟨n1, s1, w1⟩ := open_slL 9 N.Act.cells N.Act.c (ks := [.int .i64, .int .i64, .int .i64, .int .i64, .str]) (sz := 5) rfl (fun _ => rfl) (fun _ => rfl) actDec Try.underlying37 (by kernel_rfl) (by kernel_rfl) (hval 1 37 v1 rfl rfl) h1
  refine (calls_true c4 (xs := [.v (.int .i64 n0), lArg N.Act.c 5 n1]) (law_in (A := fun x : Int × Option (List N.Act) => A4 x.1 x.2) (pre := fun _ => True) (x := (n0, n1)) trivial (.refl _)) (fun _ => .any _) (.one (V_v _) (.one (.base s1) .none))).mono fun e W' ⟨he, ho⟩ => ?_
  subst he
  exact ⟨_, rfl, post_true (tb := 4) (by kernel_rfl) (by kernel_rfl) (by kernel_rfl) (by kernel_rfl) (by kernel_rfl) Try.underlying4 hW' rfl rfl ho⟩

theorem netPlays_holds : Rows.NetPlaysSaid :=
  OpenClaim.holds_of_wide 4 Try.f4 rfl rfl rfl rfl rfl rfl rfl ⟨rfl, rfl, rfl, rfl, rfl⟩ rfl rfl rfl rfl rfl (by kernel_rfl) Try.func4 (by kernel_rfl)
    (of_decide_eq_true (by kernel_rfl)) (by unfold Func.isWrapper; first | (rw [if_pos (by decide +kernel)]; kernel_rfl) | (rw [if_neg (by decide +kernel)]; exact ⟨rfl, rfl⟩))
    (fun os started H enc _ => netPlays_lifted os started H enc)
#print axioms netPlays_holds
end Go.Proofs.Ytdgmdjoaapdgbaa
