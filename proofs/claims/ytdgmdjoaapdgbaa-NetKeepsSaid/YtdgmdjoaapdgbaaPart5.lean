/- net: nothing comes of itself: the rounds and what follows it. -/
import Derived.Test.YtdgmdjoaapdgbaaPart4
/- net: nothing comes of itself: the rounds. -/
namespace Go.Eng.N
open Go Go.Eng Go.Proofs
set_option linter.unusedSimpArgs false
set_option linter.unusedVariables false
noncomputable def L51 (x : X5) : Nat → LSpec
  | 0 => LSpec.at [0, 1, 5, 7, 8, 12, 13, 4] [] (S52 x 0) (O52 x)
  | _ => ⟨[], [], fun _ _ => .fail⟩
def S51 (x : X5) : List AV × Heap := (x.v ++ [.any], x.H.map some)
abbrev lv51 : List Nat := [0, 1, 5, 7, 8, 4]
abbrev nl51 : List (Nat × TypeId) := [(302, 30), (3, 30)]
theorem r5end (x : X5) : roundE (P := Try.prog) (Γ := Γn) [cItems, S.c10] (L51 x) false 0 0 (lp5 0) lv51 nl51 146 (S51 x).1 (S51 x).2 =
  Tree.br (decide ((↑x.i : Int) < (↑(List.length x.acts) : Int)))
  (Tree.chk true
    (Tree.chk
      (cl
        (List.length x.l ≤ (1000000000 : Nat) ∧
          ∃ l junk,
            List.length x.l = List.length l ∧
              List.length (x.l ++ x.j) = List.length (l ++ junk) ∧
                ∀ (e : Nat), lsF It.c (x.l ++ x.j) e = It.c (List.getD (l ++ junk) e default)))
      (Tree.chk (decide ((0 : Int) ≤ (↑x.i : Int)) && decide ((↑x.i : Int) < (↑(List.length x.acts) : Int)))
        (Tree.br (decide ((List.getD x.acts x.i default).k = (0 : Int)))
          (Tree.chk (decide ((0 : Int) ≤ (↑x.i : Int)) && decide ((↑x.i : Int) < (↑(List.length x.acts) : Int)))
            Tree.fail)
          (Tree.br (decide ((List.getD x.acts x.i default).k = (1 : Int)))
            (Tree.chk (decide ((0 : Int) ≤ (↑x.i : Int)) && decide ((↑x.i : Int) < (↑(List.length x.acts) : Int)))
              Tree.fail)
            (Tree.br (decide ((List.getD x.acts x.i default).k = (2 : Int)))
              (Tree.chk (decide ((0 : Int) ≤ (↑x.i : Int)) && decide ((↑x.i : Int) < (↑(List.length x.acts) : Int)))
                Tree.fail)
              (Tree.chk true
                (Tree.chk
                  (cl
                    (List.length x.l ≤ (1000000000 : Nat) ∧
                      ∃ l junk,
                        List.length x.l = List.length l ∧
                          List.length (x.l ++ x.j) = List.length (l ++ junk) ∧
                            ∀ (e : Nat), lsF It.c (x.l ++ x.j) e = It.c (List.getD (l ++ junk) e default)))
                  (Tree.br (decide (x.mo < (↑(List.length x.l) : Int)))
                    (Tree.leaf
                      (Out.mk AEx.ret
                        [AV.v (Value.int IntKind.i64 x.mo), AV.sl (5 : Nat) (List.length x.acts) (lsF Act.c x.acts),
                          AV.ptr (0 : Nat) (0 : Nat), AV.hs (2 : Nat) (0 : Nat) (List.length x.sent),
                          AV.v (Value.int IntKind.i64 (↑x.i : Int)), AV.v (Value.bool false)]
                        [some
                            (Blk.row
                              [AV.v (Value.int IntKind.i64 x.mo), AV.v (Value.int IntKind.i64 x.lo),
                                AV.hs (1 : Nat) (0 : Nat) (List.length x.l)]),
                          some (Blk.arr (3 : Nat) (List.length (x.l ++ x.j)) (lsF It.c (x.l ++ x.j))),
                          some (Blk.arr (3 : Nat) (List.length x.sent) (lsF It.c x.sent))]))
                    (Tree.chk
                      (cl
                        (LeL
                            [AV.v (Value.int IntKind.i64 x.mo), AV.sl (5 : Nat) (List.length x.acts) (lsF Act.c x.acts),
                              AV.ptr (0 : Nat) (0 : Nat), AV.hs (2 : Nat) (0 : Nat) (List.length x.sent),
                              AV.v (Value.int IntKind.i64 (↑x.i : Int)), AV.hs (3 : Nat) (0 : Nat) (List.length x.l),
                              AV.v (Value.int IntKind.i64 (0 : Int)), AV.any]
                            [AV.v (Value.int IntKind.i64 x.mo), AV.sl (5 : Nat) (List.length x.acts) (lsF Act.c x.acts),
                              AV.ptr (0 : Nat) (0 : Nat), AV.hs (2 : Nat) (0 : Nat) (List.length x.sent),
                              AV.v (Value.int IntKind.i64 (↑x.i : Int)), AV.hs (3 : Nat) (0 : Nat) (List.length x.l),
                              AV.v (Value.int IntKind.i64 (↑(0 : Nat) : Int)), AV.any] ∧
                          LeH
                            [some
                                (Blk.row
                                  [AV.v (Value.int IntKind.i64 x.mo), AV.v (Value.int IntKind.i64 x.lo),
                                    AV.hs (1 : Nat) (0 : Nat) (List.length x.l)]),
                              some (Blk.arr (3 : Nat) (List.length (x.l ++ x.j)) (lsF It.c (x.l ++ x.j))),
                              some (Blk.arr (3 : Nat) (List.length x.sent) (lsF It.c x.sent)),
                              some (Blk.arr (3 : Nat) (List.length x.l) (lsF It.c (x.l ++ x.j)))]
                            [some
                                (Blk.row
                                  [AV.v (Value.int IntKind.i64 x.mo), AV.v (Value.int IntKind.i64 x.lo),
                                    AV.hs (1 : Nat) (0 : Nat) (List.length x.l)]),
                              some (Blk.arr (3 : Nat) (List.length (x.l ++ x.j)) (lsF It.c (x.l ++ x.j))),
                              some (Blk.arr (3 : Nat) (List.length x.sent) (lsF It.c x.sent)),
                              some (Blk.arr (3 : Nat) (List.length x.l) (lsF It.c (x.l ++ x.j)))]))
                      (Tree.leaf
                        (Out.mk AEx.normal
                          [AV.v (Value.int IntKind.i64 x.mo), AV.sl (5 : Nat) (List.length x.acts) (lsF Act.c x.acts),
                            AV.ptr (0 : Nat) (0 : Nat), AV.hs (2 : Nat) (0 : Nat) (List.length x.sent),
                            AV.v (Value.int IntKind.i64 (IntKind.wrap IntKind.i64 ((↑x.i : Int) + (1 : Int)))), AV.any]
                          [some
                              (Blk.row
                                [AV.v (Value.int IntKind.i64 x.mo), AV.v (Value.int IntKind.i64 x.lo),
                                  AV.hs (1 : Nat) (0 : Nat) (List.length x.l)]),
                            some (Blk.arr (3 : Nat) (List.length (x.l ++ x.j)) (lsF It.c (x.l ++ x.j))),
                            some (Blk.arr (3 : Nat) (List.length x.sent) (lsF It.c x.sent))]))))))))))))
  (Tree.leaf
    (Out.mk (AEx.exit (0 : Nat))
      [AV.v (Value.int IntKind.i64 x.mo), AV.sl (5 : Nat) (List.length x.acts) (lsF Act.c x.acts),
        AV.ptr (0 : Nat) (0 : Nat), AV.hs (2 : Nat) (0 : Nat) (List.length x.sent),
        AV.v (Value.int IntKind.i64 (↑x.i : Int)), AV.any]
      [some
          (Blk.row
            [AV.v (Value.int IntKind.i64 x.mo), AV.v (Value.int IntKind.i64 x.lo),
              AV.hs (1 : Nat) (0 : Nat) (List.length x.l)]),
        some (Blk.arr (3 : Nat) (List.length (x.l ++ x.j)) (lsF It.c (x.l ++ x.j))),
        some (Blk.arr (3 : Nat) (List.length x.sent) (lsF It.c x.sent))])) := by kernel_rfl
theorem r5sendLong (x : X5) (h : 65536 < (x.acts.getD x.i default).x.t.size) : roundE (P := Try.prog) (Γ := Γn) [cItems, S.c10, CT.at 9 (ansSendLong (mo := x.mo) (lo := x.lo) (l := x.l) (junk := x.j) h)] (L51 x) false 0 0 (lp5 0) lv51 nl51 146 (S51 x).1 (S51 x).2 =
  Tree.br (decide ((↑x.i : Int) < (↑(List.length x.acts) : Int)))
  (Tree.chk true
    (Tree.chk
      (cl
        (List.length x.l ≤ (1000000000 : Nat) ∧
          ∃ l junk,
            List.length x.l = List.length l ∧
              List.length (x.l ++ x.j) = List.length (l ++ junk) ∧
                ∀ (e : Nat), lsF It.c (x.l ++ x.j) e = It.c (List.getD (l ++ junk) e default)))
      (Tree.chk (decide ((0 : Int) ≤ (↑x.i : Int)) && decide ((↑x.i : Int) < (↑(List.length x.acts) : Int)))
        (Tree.br (decide ((List.getD x.acts x.i default).k = (0 : Int)))
          (Tree.chk (decide ((0 : Int) ≤ (↑x.i : Int)) && decide ((↑x.i : Int) < (↑(List.length x.acts) : Int)))
            (Tree.chk
              (cl
                (LeL
                    [AV.ptr (0 : Nat) (0 : Nat),
                      AV.agg
                        [AV.v (Value.int IntKind.i64 (List.getD x.acts x.i default).x.a),
                          AV.v (Value.int IntKind.i64 (List.getD x.acts x.i default).x.b),
                          AV.v (Value.string (List.getD x.acts x.i default).x.t)]]
                    [AV.ptr (0 : Nat) (0 : Nat),
                      AV.agg
                        [AV.v (Value.int IntKind.i64 (List.getD x.acts x.i default).x.a),
                          AV.v (Value.int IntKind.i64 (List.getD x.acts x.i default).x.b),
                          AV.v (Value.string (List.getD x.acts x.i default).x.t)]] ∧
                  LeH
                    [some
                        (Blk.row
                          [AV.v (Value.int IntKind.i64 x.mo), AV.v (Value.int IntKind.i64 x.lo),
                            AV.hs (1 : Nat) (0 : Nat) (List.length x.l)]),
                      some (Blk.arr (3 : Nat) (List.length (x.l ++ x.j)) (lsF It.c (x.l ++ x.j)))]
                    [some
                        (Blk.row
                          [AV.v (Value.int IntKind.i64 x.mo), AV.v (Value.int IntKind.i64 x.lo),
                            AV.hs (1 : Nat) (0 : Nat) (List.length x.l)]),
                      some (Blk.arr (3 : Nat) (List.length (x.l ++ x.j)) (lsF It.c (x.l ++ x.j)))]))
              (Tree.br false
                (Tree.chk (decide ((0 : Int) ≤ (↑x.i : Int)) && decide ((↑x.i : Int) < (↑(List.length x.acts) : Int)))
                  (Tree.chk (roomOk (32 : Nat) (List.length x.sent + (1 : Nat)))
                    (Tree.chk true
                      (Tree.chk
                        (cl
                          (List.length x.l ≤ (1000000000 : Nat) ∧
                            ∃ l junk,
                              List.length x.l = List.length l ∧
                                List.length (x.l ++ x.j) = List.length (l ++ junk) ∧
                                  ∀ (e : Nat), lsF It.c (x.l ++ x.j) e = It.c (List.getD (l ++ junk) e default)))
                        (Tree.br (decide (x.mo < (↑(List.length x.l) : Int)))
                          (Tree.leaf
                            (Out.mk AEx.ret
                              [AV.v (Value.int IntKind.i64 x.mo),
                                AV.sl (5 : Nat) (List.length x.acts) (lsF Act.c x.acts), AV.ptr (0 : Nat) (0 : Nat),
                                AV.hs (2 : Nat) (0 : Nat) (List.length x.sent + (1 : Nat)),
                                AV.v (Value.int IntKind.i64 (↑x.i : Int)), AV.v (Value.bool false)]
                              [some
                                  (Blk.row
                                    [AV.v (Value.int IntKind.i64 x.mo), AV.v (Value.int IntKind.i64 x.lo),
                                      AV.hs (1 : Nat) (0 : Nat) (List.length x.l)]),
                                some (Blk.arr (3 : Nat) (List.length (x.l ++ x.j)) (lsF It.c (x.l ++ x.j))),
                                some
                                  (Blk.arr (3 : Nat) (List.length x.sent + (1 : Nat)) fun j =>
                                    mixL (decide (j < List.length x.sent)) (lsF It.c x.sent ((0 : Nat) + j))
                                      (chain
                                        [AV.v (Value.int IntKind.i64 (0 : Int)), AV.v (Value.int IntKind.i64 (0 : Int)),
                                          AV.v (Value.string (ByteArray.mk #[]))]
                                        (0 : Nat)
                                        [[AV.v (Value.int IntKind.i64 (List.getD x.acts x.i default).x.a),
                                            AV.v (Value.int IntKind.i64 (List.getD x.acts x.i default).x.b),
                                            AV.v (Value.string (List.getD x.acts x.i default).x.t)]]
                                        ((0 : Nat) + (j - List.length x.sent))))]))
                          (Tree.chk
                            (cl
                              (LeL
                                  [AV.v (Value.int IntKind.i64 x.mo),
                                    AV.sl (5 : Nat) (List.length x.acts) (lsF Act.c x.acts), AV.ptr (0 : Nat) (0 : Nat),
                                    AV.hs (2 : Nat) (0 : Nat) (List.length x.sent + (1 : Nat)),
                                    AV.v (Value.int IntKind.i64 (↑x.i : Int)),
                                    AV.hs (3 : Nat) (0 : Nat) (List.length x.l), AV.v (Value.int IntKind.i64 (0 : Int)),
                                    AV.any]
                                  [AV.v (Value.int IntKind.i64 x.mo),
                                    AV.sl (5 : Nat) (List.length x.acts) (lsF Act.c x.acts), AV.ptr (0 : Nat) (0 : Nat),
                                    AV.hs (2 : Nat) (0 : Nat) (List.length x.sent),
                                    AV.v (Value.int IntKind.i64 (↑x.i : Int)),
                                    AV.hs (3 : Nat) (0 : Nat) (List.length x.l),
                                    AV.v (Value.int IntKind.i64 (↑(0 : Nat) : Int)), AV.any] ∧
                                LeH
                                  [some
                                      (Blk.row
                                        [AV.v (Value.int IntKind.i64 x.mo), AV.v (Value.int IntKind.i64 x.lo),
                                          AV.hs (1 : Nat) (0 : Nat) (List.length x.l)]),
                                    some (Blk.arr (3 : Nat) (List.length (x.l ++ x.j)) (lsF It.c (x.l ++ x.j))),
                                    some
                                      (Blk.arr (3 : Nat) (List.length x.sent + (1 : Nat)) fun j =>
                                        mixL (decide (j < List.length x.sent)) (lsF It.c x.sent ((0 : Nat) + j))
                                          (chain
                                            [AV.v (Value.int IntKind.i64 (0 : Int)),
                                              AV.v (Value.int IntKind.i64 (0 : Int)),
                                              AV.v (Value.string (ByteArray.mk #[]))]
                                            (0 : Nat)
                                            [[AV.v (Value.int IntKind.i64 (List.getD x.acts x.i default).x.a),
                                                AV.v (Value.int IntKind.i64 (List.getD x.acts x.i default).x.b),
                                                AV.v (Value.string (List.getD x.acts x.i default).x.t)]]
                                            ((0 : Nat) + (j - List.length x.sent)))),
                                    some (Blk.arr (3 : Nat) (List.length x.l) (lsF It.c (x.l ++ x.j)))]
                                  [some
                                      (Blk.row
                                        [AV.v (Value.int IntKind.i64 x.mo), AV.v (Value.int IntKind.i64 x.lo),
                                          AV.hs (1 : Nat) (0 : Nat) (List.length x.l)]),
                                    some (Blk.arr (3 : Nat) (List.length (x.l ++ x.j)) (lsF It.c (x.l ++ x.j))),
                                    some (Blk.arr (3 : Nat) (List.length x.sent) (lsF It.c x.sent)),
                                    some (Blk.arr (3 : Nat) (List.length x.l) (lsF It.c (x.l ++ x.j)))]))
                            (Tree.leaf
                              (Out.mk AEx.normal
                                [AV.v (Value.int IntKind.i64 x.mo),
                                  AV.sl (5 : Nat) (List.length x.acts) (lsF Act.c x.acts), AV.ptr (0 : Nat) (0 : Nat),
                                  AV.hs (2 : Nat) (0 : Nat) (List.length x.sent),
                                  AV.v (Value.int IntKind.i64 (IntKind.wrap IntKind.i64 ((↑x.i : Int) + (1 : Int)))),
                                  AV.any]
                                [some
                                    (Blk.row
                                      [AV.v (Value.int IntKind.i64 x.mo), AV.v (Value.int IntKind.i64 x.lo),
                                        AV.hs (1 : Nat) (0 : Nat) (List.length x.l)]),
                                  some (Blk.arr (3 : Nat) (List.length (x.l ++ x.j)) (lsF It.c (x.l ++ x.j))),
                                  some (Blk.arr (3 : Nat) (List.length x.sent) (lsF It.c x.sent))]))))))))
                (Tree.chk true
                  (Tree.chk
                    (cl
                      (List.length x.l ≤ (1000000000 : Nat) ∧
                        ∃ l junk,
                          List.length x.l = List.length l ∧
                            List.length (x.l ++ x.j) = List.length (l ++ junk) ∧
                              ∀ (e : Nat), lsF It.c (x.l ++ x.j) e = It.c (List.getD (l ++ junk) e default)))
                    (Tree.br (decide (x.mo < (↑(List.length x.l) : Int)))
                      (Tree.leaf
                        (Out.mk AEx.ret
                          [AV.v (Value.int IntKind.i64 x.mo), AV.sl (5 : Nat) (List.length x.acts) (lsF Act.c x.acts),
                            AV.ptr (0 : Nat) (0 : Nat), AV.hs (2 : Nat) (0 : Nat) (List.length x.sent),
                            AV.v (Value.int IntKind.i64 (↑x.i : Int)), AV.v (Value.bool false)]
                          [some
                              (Blk.row
                                [AV.v (Value.int IntKind.i64 x.mo), AV.v (Value.int IntKind.i64 x.lo),
                                  AV.hs (1 : Nat) (0 : Nat) (List.length x.l)]),
                            some (Blk.arr (3 : Nat) (List.length (x.l ++ x.j)) (lsF It.c (x.l ++ x.j))),
                            some (Blk.arr (3 : Nat) (List.length x.sent) (lsF It.c x.sent))]))
                      (Tree.chk
                        (cl
                          (LeL
                              [AV.v (Value.int IntKind.i64 x.mo),
                                AV.sl (5 : Nat) (List.length x.acts) (lsF Act.c x.acts), AV.ptr (0 : Nat) (0 : Nat),
                                AV.hs (2 : Nat) (0 : Nat) (List.length x.sent),
                                AV.v (Value.int IntKind.i64 (↑x.i : Int)), AV.hs (3 : Nat) (0 : Nat) (List.length x.l),
                                AV.v (Value.int IntKind.i64 (0 : Int)), AV.any]
                              [AV.v (Value.int IntKind.i64 x.mo),
                                AV.sl (5 : Nat) (List.length x.acts) (lsF Act.c x.acts), AV.ptr (0 : Nat) (0 : Nat),
                                AV.hs (2 : Nat) (0 : Nat) (List.length x.sent),
                                AV.v (Value.int IntKind.i64 (↑x.i : Int)), AV.hs (3 : Nat) (0 : Nat) (List.length x.l),
                                AV.v (Value.int IntKind.i64 (↑(0 : Nat) : Int)), AV.any] ∧
                            LeH
                              [some
                                  (Blk.row
                                    [AV.v (Value.int IntKind.i64 x.mo), AV.v (Value.int IntKind.i64 x.lo),
                                      AV.hs (1 : Nat) (0 : Nat) (List.length x.l)]),
                                some (Blk.arr (3 : Nat) (List.length (x.l ++ x.j)) (lsF It.c (x.l ++ x.j))),
                                some (Blk.arr (3 : Nat) (List.length x.sent) (lsF It.c x.sent)),
                                some (Blk.arr (3 : Nat) (List.length x.l) (lsF It.c (x.l ++ x.j)))]
                              [some
                                  (Blk.row
                                    [AV.v (Value.int IntKind.i64 x.mo), AV.v (Value.int IntKind.i64 x.lo),
                                      AV.hs (1 : Nat) (0 : Nat) (List.length x.l)]),
                                some (Blk.arr (3 : Nat) (List.length (x.l ++ x.j)) (lsF It.c (x.l ++ x.j))),
                                some (Blk.arr (3 : Nat) (List.length x.sent) (lsF It.c x.sent)),
                                some (Blk.arr (3 : Nat) (List.length x.l) (lsF It.c (x.l ++ x.j)))]))
                        (Tree.leaf
                          (Out.mk AEx.normal
                            [AV.v (Value.int IntKind.i64 x.mo), AV.sl (5 : Nat) (List.length x.acts) (lsF Act.c x.acts),
                              AV.ptr (0 : Nat) (0 : Nat), AV.hs (2 : Nat) (0 : Nat) (List.length x.sent),
                              AV.v (Value.int IntKind.i64 (IntKind.wrap IntKind.i64 ((↑x.i : Int) + (1 : Int)))),
                              AV.any]
                            [some
                                (Blk.row
                                  [AV.v (Value.int IntKind.i64 x.mo), AV.v (Value.int IntKind.i64 x.lo),
                                    AV.hs (1 : Nat) (0 : Nat) (List.length x.l)]),
                              some (Blk.arr (3 : Nat) (List.length (x.l ++ x.j)) (lsF It.c (x.l ++ x.j))),
                              some (Blk.arr (3 : Nat) (List.length x.sent) (lsF It.c x.sent))])))))))))
          (Tree.br (decide ((List.getD x.acts x.i default).k = (1 : Int)))
            (Tree.chk (decide ((0 : Int) ≤ (↑x.i : Int)) && decide ((↑x.i : Int) < (↑(List.length x.acts) : Int)))
              Tree.fail)
            (Tree.br (decide ((List.getD x.acts x.i default).k = (2 : Int)))
              (Tree.chk (decide ((0 : Int) ≤ (↑x.i : Int)) && decide ((↑x.i : Int) < (↑(List.length x.acts) : Int)))
                Tree.fail)
              (Tree.chk true
                (Tree.chk
                  (cl
                    (List.length x.l ≤ (1000000000 : Nat) ∧
                      ∃ l junk,
                        List.length x.l = List.length l ∧
                          List.length (x.l ++ x.j) = List.length (l ++ junk) ∧
                            ∀ (e : Nat), lsF It.c (x.l ++ x.j) e = It.c (List.getD (l ++ junk) e default)))
                  (Tree.br (decide (x.mo < (↑(List.length x.l) : Int)))
                    (Tree.leaf
                      (Out.mk AEx.ret
                        [AV.v (Value.int IntKind.i64 x.mo), AV.sl (5 : Nat) (List.length x.acts) (lsF Act.c x.acts),
                          AV.ptr (0 : Nat) (0 : Nat), AV.hs (2 : Nat) (0 : Nat) (List.length x.sent),
                          AV.v (Value.int IntKind.i64 (↑x.i : Int)), AV.v (Value.bool false)]
                        [some
                            (Blk.row
                              [AV.v (Value.int IntKind.i64 x.mo), AV.v (Value.int IntKind.i64 x.lo),
                                AV.hs (1 : Nat) (0 : Nat) (List.length x.l)]),
                          some (Blk.arr (3 : Nat) (List.length (x.l ++ x.j)) (lsF It.c (x.l ++ x.j))),
                          some (Blk.arr (3 : Nat) (List.length x.sent) (lsF It.c x.sent))]))
                    (Tree.chk
                      (cl
                        (LeL
                            [AV.v (Value.int IntKind.i64 x.mo), AV.sl (5 : Nat) (List.length x.acts) (lsF Act.c x.acts),
                              AV.ptr (0 : Nat) (0 : Nat), AV.hs (2 : Nat) (0 : Nat) (List.length x.sent),
                              AV.v (Value.int IntKind.i64 (↑x.i : Int)), AV.hs (3 : Nat) (0 : Nat) (List.length x.l),
                              AV.v (Value.int IntKind.i64 (0 : Int)), AV.any]
                            [AV.v (Value.int IntKind.i64 x.mo), AV.sl (5 : Nat) (List.length x.acts) (lsF Act.c x.acts),
                              AV.ptr (0 : Nat) (0 : Nat), AV.hs (2 : Nat) (0 : Nat) (List.length x.sent),
                              AV.v (Value.int IntKind.i64 (↑x.i : Int)), AV.hs (3 : Nat) (0 : Nat) (List.length x.l),
                              AV.v (Value.int IntKind.i64 (↑(0 : Nat) : Int)), AV.any] ∧
                          LeH
                            [some
                                (Blk.row
                                  [AV.v (Value.int IntKind.i64 x.mo), AV.v (Value.int IntKind.i64 x.lo),
                                    AV.hs (1 : Nat) (0 : Nat) (List.length x.l)]),
                              some (Blk.arr (3 : Nat) (List.length (x.l ++ x.j)) (lsF It.c (x.l ++ x.j))),
                              some (Blk.arr (3 : Nat) (List.length x.sent) (lsF It.c x.sent)),
                              some (Blk.arr (3 : Nat) (List.length x.l) (lsF It.c (x.l ++ x.j)))]
                            [some
                                (Blk.row
                                  [AV.v (Value.int IntKind.i64 x.mo), AV.v (Value.int IntKind.i64 x.lo),
                                    AV.hs (1 : Nat) (0 : Nat) (List.length x.l)]),
                              some (Blk.arr (3 : Nat) (List.length (x.l ++ x.j)) (lsF It.c (x.l ++ x.j))),
                              some (Blk.arr (3 : Nat) (List.length x.sent) (lsF It.c x.sent)),
                              some (Blk.arr (3 : Nat) (List.length x.l) (lsF It.c (x.l ++ x.j)))]))
                      (Tree.leaf
                        (Out.mk AEx.normal
                          [AV.v (Value.int IntKind.i64 x.mo), AV.sl (5 : Nat) (List.length x.acts) (lsF Act.c x.acts),
                            AV.ptr (0 : Nat) (0 : Nat), AV.hs (2 : Nat) (0 : Nat) (List.length x.sent),
                            AV.v (Value.int IntKind.i64 (IntKind.wrap IntKind.i64 ((↑x.i : Int) + (1 : Int)))), AV.any]
                          [some
                              (Blk.row
                                [AV.v (Value.int IntKind.i64 x.mo), AV.v (Value.int IntKind.i64 x.lo),
                                  AV.hs (1 : Nat) (0 : Nat) (List.length x.l)]),
                            some (Blk.arr (3 : Nat) (List.length (x.l ++ x.j)) (lsF It.c (x.l ++ x.j))),
                            some (Blk.arr (3 : Nat) (List.length x.sent) (lsF It.c x.sent))]))))))))))))
  (Tree.leaf
    (Out.mk (AEx.exit (0 : Nat))
      [AV.v (Value.int IntKind.i64 x.mo), AV.sl (5 : Nat) (List.length x.acts) (lsF Act.c x.acts),
        AV.ptr (0 : Nat) (0 : Nat), AV.hs (2 : Nat) (0 : Nat) (List.length x.sent),
        AV.v (Value.int IntKind.i64 (↑x.i : Int)), AV.any]
      [some
          (Blk.row
            [AV.v (Value.int IntKind.i64 x.mo), AV.v (Value.int IntKind.i64 x.lo),
              AV.hs (1 : Nat) (0 : Nat) (List.length x.l)]),
        some (Blk.arr (3 : Nat) (List.length (x.l ++ x.j)) (lsF It.c (x.l ++ x.j))),
        some (Blk.arr (3 : Nat) (List.length x.sent) (lsF It.c x.sent))])) := by kernel_rfl
theorem r5sendFull (x : X5) (h : (x.acts.getD x.i default).x.t.size ≤ 65536) (h2 : (x.l.length : Int) = x.mo) (h0 : 0 ≤ x.lo) (h1 : x.lo ≤ 1000000000) : roundE (P := Try.prog) (Γ := Γn) [cItems, S.c10, CT.at 9 (ansSendFull (mo := x.mo) (lo := x.lo) (l := x.l) (junk := x.j) h h2 h0 h1)] (L51 { x with lo := x.lo + 1 }) false 0 0 (lp5 0) lv51 nl51 146 (S51 x).1 (S51 x).2 =
  Tree.br (decide ((↑x.i : Int) < (↑(List.length x.acts) : Int)))
  (Tree.chk true
    (Tree.chk
      (cl
        (List.length x.l ≤ (1000000000 : Nat) ∧
          ∃ l junk,
            List.length x.l = List.length l ∧
              List.length (x.l ++ x.j) = List.length (l ++ junk) ∧
                ∀ (e : Nat), lsF It.c (x.l ++ x.j) e = It.c (List.getD (l ++ junk) e default)))
      (Tree.chk (decide ((0 : Int) ≤ (↑x.i : Int)) && decide ((↑x.i : Int) < (↑(List.length x.acts) : Int)))
        (Tree.br (decide ((List.getD x.acts x.i default).k = (0 : Int)))
          (Tree.chk (decide ((0 : Int) ≤ (↑x.i : Int)) && decide ((↑x.i : Int) < (↑(List.length x.acts) : Int)))
            (Tree.chk
              (cl
                (LeL
                    [AV.ptr (0 : Nat) (0 : Nat),
                      AV.agg
                        [AV.v (Value.int IntKind.i64 (List.getD x.acts x.i default).x.a),
                          AV.v (Value.int IntKind.i64 (List.getD x.acts x.i default).x.b),
                          AV.v (Value.string (List.getD x.acts x.i default).x.t)]]
                    [AV.ptr (0 : Nat) (0 : Nat),
                      AV.agg
                        [AV.v (Value.int IntKind.i64 (List.getD x.acts x.i default).x.a),
                          AV.v (Value.int IntKind.i64 (List.getD x.acts x.i default).x.b),
                          AV.v (Value.string (List.getD x.acts x.i default).x.t)]] ∧
                  LeH
                    [some
                        (Blk.row
                          [AV.v (Value.int IntKind.i64 x.mo), AV.v (Value.int IntKind.i64 x.lo),
                            AV.hs (1 : Nat) (0 : Nat) (List.length x.l)]),
                      some (Blk.arr (3 : Nat) (List.length (x.l ++ x.j)) (lsF It.c (x.l ++ x.j)))]
                    [some
                        (Blk.row
                          [AV.v (Value.int IntKind.i64 x.mo), AV.v (Value.int IntKind.i64 x.lo),
                            AV.hs (1 : Nat) (0 : Nat) (List.length x.l)]),
                      some (Blk.arr (3 : Nat) (List.length (x.l ++ x.j)) (lsF It.c (x.l ++ x.j)))]))
              (Tree.br false
                (Tree.chk (decide ((0 : Int) ≤ (↑x.i : Int)) && decide ((↑x.i : Int) < (↑(List.length x.acts) : Int)))
                  (Tree.chk (roomOk (32 : Nat) (List.length x.sent + (1 : Nat)))
                    (Tree.chk true
                      (Tree.chk
                        (cl
                          (List.length x.l ≤ (1000000000 : Nat) ∧
                            ∃ l junk,
                              List.length x.l = List.length l ∧
                                List.length (x.l ++ x.j) = List.length (l ++ junk) ∧
                                  ∀ (e : Nat), lsF It.c (x.l ++ x.j) e = It.c (List.getD (l ++ junk) e default)))
                        (Tree.br (decide (x.mo < (↑(List.length x.l) : Int)))
                          (Tree.leaf
                            (Out.mk AEx.ret
                              [AV.v (Value.int IntKind.i64 x.mo),
                                AV.sl (5 : Nat) (List.length x.acts) (lsF Act.c x.acts), AV.ptr (0 : Nat) (0 : Nat),
                                AV.hs (2 : Nat) (0 : Nat) (List.length x.sent + (1 : Nat)),
                                AV.v (Value.int IntKind.i64 (↑x.i : Int)), AV.v (Value.bool false)]
                              [some
                                  (Blk.row
                                    [AV.v (Value.int IntKind.i64 x.mo), AV.v (Value.int IntKind.i64 (x.lo + (1 : Int))),
                                      AV.hs (1 : Nat) (0 : Nat) (List.length x.l)]),
                                some (Blk.arr (3 : Nat) (List.length (x.l ++ x.j)) (lsF It.c (x.l ++ x.j))),
                                some
                                  (Blk.arr (3 : Nat) (List.length x.sent + (1 : Nat)) fun j =>
                                    mixL (decide (j < List.length x.sent)) (lsF It.c x.sent ((0 : Nat) + j))
                                      (chain
                                        [AV.v (Value.int IntKind.i64 (0 : Int)), AV.v (Value.int IntKind.i64 (0 : Int)),
                                          AV.v (Value.string (ByteArray.mk #[]))]
                                        (0 : Nat)
                                        [[AV.v (Value.int IntKind.i64 (List.getD x.acts x.i default).x.a),
                                            AV.v (Value.int IntKind.i64 (List.getD x.acts x.i default).x.b),
                                            AV.v (Value.string (List.getD x.acts x.i default).x.t)]]
                                        ((0 : Nat) + (j - List.length x.sent))))]))
                          (Tree.chk
                            (cl
                              (LeL
                                  [AV.v (Value.int IntKind.i64 x.mo),
                                    AV.sl (5 : Nat) (List.length x.acts) (lsF Act.c x.acts), AV.ptr (0 : Nat) (0 : Nat),
                                    AV.hs (2 : Nat) (0 : Nat) (List.length x.sent + (1 : Nat)),
                                    AV.v (Value.int IntKind.i64 (↑x.i : Int)),
                                    AV.hs (3 : Nat) (0 : Nat) (List.length x.l), AV.v (Value.int IntKind.i64 (0 : Int)),
                                    AV.any]
                                  [AV.v (Value.int IntKind.i64 x.mo),
                                    AV.sl (5 : Nat)
                                      (List.length (X5.mk x.mo x.acts (x.lo + (1 : Int)) x.l x.j x.sent x.i).acts)
                                      (lsF Act.c (X5.mk x.mo x.acts (x.lo + (1 : Int)) x.l x.j x.sent x.i).acts),
                                    AV.ptr (0 : Nat) (0 : Nat),
                                    AV.hs (2 : Nat) (0 : Nat)
                                      (List.length (X5.mk x.mo x.acts (x.lo + (1 : Int)) x.l x.j x.sent x.i).sent),
                                    AV.v (Value.int IntKind.i64 (↑x.i : Int)),
                                    AV.hs (3 : Nat) (0 : Nat)
                                      (List.length (X5.mk x.mo x.acts (x.lo + (1 : Int)) x.l x.j x.sent x.i).l),
                                    AV.v (Value.int IntKind.i64 (↑(0 : Nat) : Int)), AV.any] ∧
                                LeH
                                  [some
                                      (Blk.row
                                        [AV.v (Value.int IntKind.i64 x.mo),
                                          AV.v (Value.int IntKind.i64 (x.lo + (1 : Int))),
                                          AV.hs (1 : Nat) (0 : Nat) (List.length x.l)]),
                                    some (Blk.arr (3 : Nat) (List.length (x.l ++ x.j)) (lsF It.c (x.l ++ x.j))),
                                    some
                                      (Blk.arr (3 : Nat) (List.length x.sent + (1 : Nat)) fun j =>
                                        mixL (decide (j < List.length x.sent)) (lsF It.c x.sent ((0 : Nat) + j))
                                          (chain
                                            [AV.v (Value.int IntKind.i64 (0 : Int)),
                                              AV.v (Value.int IntKind.i64 (0 : Int)),
                                              AV.v (Value.string (ByteArray.mk #[]))]
                                            (0 : Nat)
                                            [[AV.v (Value.int IntKind.i64 (List.getD x.acts x.i default).x.a),
                                                AV.v (Value.int IntKind.i64 (List.getD x.acts x.i default).x.b),
                                                AV.v (Value.string (List.getD x.acts x.i default).x.t)]]
                                            ((0 : Nat) + (j - List.length x.sent)))),
                                    some (Blk.arr (3 : Nat) (List.length x.l) (lsF It.c (x.l ++ x.j)))]
                                  [some
                                      (Blk.row
                                        [AV.v (Value.int IntKind.i64 x.mo),
                                          AV.v (Value.int IntKind.i64 (x.lo + (1 : Int))),
                                          AV.hs (1 : Nat) (0 : Nat)
                                            (List.length (X5.mk x.mo x.acts (x.lo + (1 : Int)) x.l x.j x.sent x.i).l)]),
                                    some
                                      (Blk.arr (3 : Nat)
                                        (List.length
                                          ((X5.mk x.mo x.acts (x.lo + (1 : Int)) x.l x.j x.sent x.i).l ++
                                            (X5.mk x.mo x.acts (x.lo + (1 : Int)) x.l x.j x.sent x.i).j))
                                        (lsF It.c
                                          ((X5.mk x.mo x.acts (x.lo + (1 : Int)) x.l x.j x.sent x.i).l ++
                                            (X5.mk x.mo x.acts (x.lo + (1 : Int)) x.l x.j x.sent x.i).j))),
                                    some
                                      (Blk.arr (3 : Nat)
                                        (List.length (X5.mk x.mo x.acts (x.lo + (1 : Int)) x.l x.j x.sent x.i).sent)
                                        (lsF It.c (X5.mk x.mo x.acts (x.lo + (1 : Int)) x.l x.j x.sent x.i).sent)),
                                    some
                                      (Blk.arr (3 : Nat)
                                        (List.length (X5.mk x.mo x.acts (x.lo + (1 : Int)) x.l x.j x.sent x.i).l)
                                        (lsF It.c
                                          ((X5.mk x.mo x.acts (x.lo + (1 : Int)) x.l x.j x.sent x.i).l ++
                                            (X5.mk x.mo x.acts (x.lo + (1 : Int)) x.l x.j x.sent x.i).j)))]))
                            (Tree.leaf
                              (Out.mk AEx.normal
                                [AV.v (Value.int IntKind.i64 x.mo),
                                  AV.sl (5 : Nat)
                                    (List.length (X5.mk x.mo x.acts (x.lo + (1 : Int)) x.l x.j x.sent x.i).acts)
                                    (lsF Act.c (X5.mk x.mo x.acts (x.lo + (1 : Int)) x.l x.j x.sent x.i).acts),
                                  AV.ptr (0 : Nat) (0 : Nat),
                                  AV.hs (2 : Nat) (0 : Nat)
                                    (List.length (X5.mk x.mo x.acts (x.lo + (1 : Int)) x.l x.j x.sent x.i).sent),
                                  AV.v (Value.int IntKind.i64 (IntKind.wrap IntKind.i64 ((↑x.i : Int) + (1 : Int)))),
                                  AV.any]
                                [some
                                    (Blk.row
                                      [AV.v (Value.int IntKind.i64 x.mo),
                                        AV.v (Value.int IntKind.i64 (x.lo + (1 : Int))),
                                        AV.hs (1 : Nat) (0 : Nat)
                                          (List.length (X5.mk x.mo x.acts (x.lo + (1 : Int)) x.l x.j x.sent x.i).l)]),
                                  some
                                    (Blk.arr (3 : Nat)
                                      (List.length
                                        ((X5.mk x.mo x.acts (x.lo + (1 : Int)) x.l x.j x.sent x.i).l ++
                                          (X5.mk x.mo x.acts (x.lo + (1 : Int)) x.l x.j x.sent x.i).j))
                                      (lsF It.c
                                        ((X5.mk x.mo x.acts (x.lo + (1 : Int)) x.l x.j x.sent x.i).l ++
                                          (X5.mk x.mo x.acts (x.lo + (1 : Int)) x.l x.j x.sent x.i).j))),
                                  some
                                    (Blk.arr (3 : Nat)
                                      (List.length (X5.mk x.mo x.acts (x.lo + (1 : Int)) x.l x.j x.sent x.i).sent)
                                      (lsF It.c
                                        (X5.mk x.mo x.acts (x.lo + (1 : Int)) x.l x.j x.sent x.i).sent))]))))))))
                (Tree.chk true
                  (Tree.chk
                    (cl
                      (List.length x.l ≤ (1000000000 : Nat) ∧
                        ∃ l junk,
                          List.length x.l = List.length l ∧
                            List.length (x.l ++ x.j) = List.length (l ++ junk) ∧
                              ∀ (e : Nat), lsF It.c (x.l ++ x.j) e = It.c (List.getD (l ++ junk) e default)))
                    (Tree.br (decide (x.mo < (↑(List.length x.l) : Int)))
                      (Tree.leaf
                        (Out.mk AEx.ret
                          [AV.v (Value.int IntKind.i64 x.mo), AV.sl (5 : Nat) (List.length x.acts) (lsF Act.c x.acts),
                            AV.ptr (0 : Nat) (0 : Nat), AV.hs (2 : Nat) (0 : Nat) (List.length x.sent),
                            AV.v (Value.int IntKind.i64 (↑x.i : Int)), AV.v (Value.bool false)]
                          [some
                              (Blk.row
                                [AV.v (Value.int IntKind.i64 x.mo), AV.v (Value.int IntKind.i64 (x.lo + (1 : Int))),
                                  AV.hs (1 : Nat) (0 : Nat) (List.length x.l)]),
                            some (Blk.arr (3 : Nat) (List.length (x.l ++ x.j)) (lsF It.c (x.l ++ x.j))),
                            some (Blk.arr (3 : Nat) (List.length x.sent) (lsF It.c x.sent))]))
                      (Tree.chk
                        (cl
                          (LeL
                              [AV.v (Value.int IntKind.i64 x.mo),
                                AV.sl (5 : Nat) (List.length x.acts) (lsF Act.c x.acts), AV.ptr (0 : Nat) (0 : Nat),
                                AV.hs (2 : Nat) (0 : Nat) (List.length x.sent),
                                AV.v (Value.int IntKind.i64 (↑x.i : Int)), AV.hs (3 : Nat) (0 : Nat) (List.length x.l),
                                AV.v (Value.int IntKind.i64 (0 : Int)), AV.any]
                              [AV.v (Value.int IntKind.i64 x.mo),
                                AV.sl (5 : Nat)
                                  (List.length (X5.mk x.mo x.acts (x.lo + (1 : Int)) x.l x.j x.sent x.i).acts)
                                  (lsF Act.c (X5.mk x.mo x.acts (x.lo + (1 : Int)) x.l x.j x.sent x.i).acts),
                                AV.ptr (0 : Nat) (0 : Nat),
                                AV.hs (2 : Nat) (0 : Nat)
                                  (List.length (X5.mk x.mo x.acts (x.lo + (1 : Int)) x.l x.j x.sent x.i).sent),
                                AV.v (Value.int IntKind.i64 (↑x.i : Int)),
                                AV.hs (3 : Nat) (0 : Nat)
                                  (List.length (X5.mk x.mo x.acts (x.lo + (1 : Int)) x.l x.j x.sent x.i).l),
                                AV.v (Value.int IntKind.i64 (↑(0 : Nat) : Int)), AV.any] ∧
                            LeH
                              [some
                                  (Blk.row
                                    [AV.v (Value.int IntKind.i64 x.mo), AV.v (Value.int IntKind.i64 (x.lo + (1 : Int))),
                                      AV.hs (1 : Nat) (0 : Nat) (List.length x.l)]),
                                some (Blk.arr (3 : Nat) (List.length (x.l ++ x.j)) (lsF It.c (x.l ++ x.j))),
                                some (Blk.arr (3 : Nat) (List.length x.sent) (lsF It.c x.sent)),
                                some (Blk.arr (3 : Nat) (List.length x.l) (lsF It.c (x.l ++ x.j)))]
                              [some
                                  (Blk.row
                                    [AV.v (Value.int IntKind.i64 x.mo), AV.v (Value.int IntKind.i64 (x.lo + (1 : Int))),
                                      AV.hs (1 : Nat) (0 : Nat)
                                        (List.length (X5.mk x.mo x.acts (x.lo + (1 : Int)) x.l x.j x.sent x.i).l)]),
                                some
                                  (Blk.arr (3 : Nat)
                                    (List.length
                                      ((X5.mk x.mo x.acts (x.lo + (1 : Int)) x.l x.j x.sent x.i).l ++
                                        (X5.mk x.mo x.acts (x.lo + (1 : Int)) x.l x.j x.sent x.i).j))
                                    (lsF It.c
                                      ((X5.mk x.mo x.acts (x.lo + (1 : Int)) x.l x.j x.sent x.i).l ++
                                        (X5.mk x.mo x.acts (x.lo + (1 : Int)) x.l x.j x.sent x.i).j))),
                                some
                                  (Blk.arr (3 : Nat)
                                    (List.length (X5.mk x.mo x.acts (x.lo + (1 : Int)) x.l x.j x.sent x.i).sent)
                                    (lsF It.c (X5.mk x.mo x.acts (x.lo + (1 : Int)) x.l x.j x.sent x.i).sent)),
                                some
                                  (Blk.arr (3 : Nat)
                                    (List.length (X5.mk x.mo x.acts (x.lo + (1 : Int)) x.l x.j x.sent x.i).l)
                                    (lsF It.c
                                      ((X5.mk x.mo x.acts (x.lo + (1 : Int)) x.l x.j x.sent x.i).l ++
                                        (X5.mk x.mo x.acts (x.lo + (1 : Int)) x.l x.j x.sent x.i).j)))]))
                        (Tree.leaf
                          (Out.mk AEx.normal
                            [AV.v (Value.int IntKind.i64 x.mo),
                              AV.sl (5 : Nat)
                                (List.length (X5.mk x.mo x.acts (x.lo + (1 : Int)) x.l x.j x.sent x.i).acts)
                                (lsF Act.c (X5.mk x.mo x.acts (x.lo + (1 : Int)) x.l x.j x.sent x.i).acts),
                              AV.ptr (0 : Nat) (0 : Nat),
                              AV.hs (2 : Nat) (0 : Nat)
                                (List.length (X5.mk x.mo x.acts (x.lo + (1 : Int)) x.l x.j x.sent x.i).sent),
                              AV.v (Value.int IntKind.i64 (IntKind.wrap IntKind.i64 ((↑x.i : Int) + (1 : Int)))),
                              AV.any]
                            [some
                                (Blk.row
                                  [AV.v (Value.int IntKind.i64 x.mo), AV.v (Value.int IntKind.i64 (x.lo + (1 : Int))),
                                    AV.hs (1 : Nat) (0 : Nat)
                                      (List.length (X5.mk x.mo x.acts (x.lo + (1 : Int)) x.l x.j x.sent x.i).l)]),
                              some
                                (Blk.arr (3 : Nat)
                                  (List.length
                                    ((X5.mk x.mo x.acts (x.lo + (1 : Int)) x.l x.j x.sent x.i).l ++
                                      (X5.mk x.mo x.acts (x.lo + (1 : Int)) x.l x.j x.sent x.i).j))
                                  (lsF It.c
                                    ((X5.mk x.mo x.acts (x.lo + (1 : Int)) x.l x.j x.sent x.i).l ++
                                      (X5.mk x.mo x.acts (x.lo + (1 : Int)) x.l x.j x.sent x.i).j))),
                              some
                                (Blk.arr (3 : Nat)
                                  (List.length (X5.mk x.mo x.acts (x.lo + (1 : Int)) x.l x.j x.sent x.i).sent)
                                  (lsF It.c (X5.mk x.mo x.acts (x.lo + (1 : Int)) x.l x.j x.sent x.i).sent))])))))))))
          (Tree.br (decide ((List.getD x.acts x.i default).k = (1 : Int)))
            (Tree.chk (decide ((0 : Int) ≤ (↑x.i : Int)) && decide ((↑x.i : Int) < (↑(List.length x.acts) : Int)))
              Tree.fail)
            (Tree.br (decide ((List.getD x.acts x.i default).k = (2 : Int)))
              (Tree.chk (decide ((0 : Int) ≤ (↑x.i : Int)) && decide ((↑x.i : Int) < (↑(List.length x.acts) : Int)))
                Tree.fail)
              (Tree.chk true
                (Tree.chk
                  (cl
                    (List.length x.l ≤ (1000000000 : Nat) ∧
                      ∃ l junk,
                        List.length x.l = List.length l ∧
                          List.length (x.l ++ x.j) = List.length (l ++ junk) ∧
                            ∀ (e : Nat), lsF It.c (x.l ++ x.j) e = It.c (List.getD (l ++ junk) e default)))
                  (Tree.br (decide (x.mo < (↑(List.length x.l) : Int)))
                    (Tree.leaf
                      (Out.mk AEx.ret
                        [AV.v (Value.int IntKind.i64 x.mo), AV.sl (5 : Nat) (List.length x.acts) (lsF Act.c x.acts),
                          AV.ptr (0 : Nat) (0 : Nat), AV.hs (2 : Nat) (0 : Nat) (List.length x.sent),
                          AV.v (Value.int IntKind.i64 (↑x.i : Int)), AV.v (Value.bool false)]
                        [some
                            (Blk.row
                              [AV.v (Value.int IntKind.i64 x.mo), AV.v (Value.int IntKind.i64 x.lo),
                                AV.hs (1 : Nat) (0 : Nat) (List.length x.l)]),
                          some (Blk.arr (3 : Nat) (List.length (x.l ++ x.j)) (lsF It.c (x.l ++ x.j))),
                          some (Blk.arr (3 : Nat) (List.length x.sent) (lsF It.c x.sent))]))
                    (Tree.chk
                      (cl
                        (LeL
                            [AV.v (Value.int IntKind.i64 x.mo), AV.sl (5 : Nat) (List.length x.acts) (lsF Act.c x.acts),
                              AV.ptr (0 : Nat) (0 : Nat), AV.hs (2 : Nat) (0 : Nat) (List.length x.sent),
                              AV.v (Value.int IntKind.i64 (↑x.i : Int)), AV.hs (3 : Nat) (0 : Nat) (List.length x.l),
                              AV.v (Value.int IntKind.i64 (0 : Int)), AV.any]
                            [AV.v (Value.int IntKind.i64 x.mo),
                              AV.sl (5 : Nat)
                                (List.length (X5.mk x.mo x.acts (x.lo + (1 : Int)) x.l x.j x.sent x.i).acts)
                                (lsF Act.c (X5.mk x.mo x.acts (x.lo + (1 : Int)) x.l x.j x.sent x.i).acts),
                              AV.ptr (0 : Nat) (0 : Nat),
                              AV.hs (2 : Nat) (0 : Nat)
                                (List.length (X5.mk x.mo x.acts (x.lo + (1 : Int)) x.l x.j x.sent x.i).sent),
                              AV.v (Value.int IntKind.i64 (↑x.i : Int)),
                              AV.hs (3 : Nat) (0 : Nat)
                                (List.length (X5.mk x.mo x.acts (x.lo + (1 : Int)) x.l x.j x.sent x.i).l),
                              AV.v (Value.int IntKind.i64 (↑(0 : Nat) : Int)), AV.any] ∧
                          LeH
                            [some
                                (Blk.row
                                  [AV.v (Value.int IntKind.i64 x.mo), AV.v (Value.int IntKind.i64 x.lo),
                                    AV.hs (1 : Nat) (0 : Nat) (List.length x.l)]),
                              some (Blk.arr (3 : Nat) (List.length (x.l ++ x.j)) (lsF It.c (x.l ++ x.j))),
                              some (Blk.arr (3 : Nat) (List.length x.sent) (lsF It.c x.sent)),
                              some (Blk.arr (3 : Nat) (List.length x.l) (lsF It.c (x.l ++ x.j)))]
                            [some
                                (Blk.row
                                  [AV.v (Value.int IntKind.i64 x.mo), AV.v (Value.int IntKind.i64 (x.lo + (1 : Int))),
                                    AV.hs (1 : Nat) (0 : Nat)
                                      (List.length (X5.mk x.mo x.acts (x.lo + (1 : Int)) x.l x.j x.sent x.i).l)]),
                              some
                                (Blk.arr (3 : Nat)
                                  (List.length
                                    ((X5.mk x.mo x.acts (x.lo + (1 : Int)) x.l x.j x.sent x.i).l ++
                                      (X5.mk x.mo x.acts (x.lo + (1 : Int)) x.l x.j x.sent x.i).j))
                                  (lsF It.c
                                    ((X5.mk x.mo x.acts (x.lo + (1 : Int)) x.l x.j x.sent x.i).l ++
                                      (X5.mk x.mo x.acts (x.lo + (1 : Int)) x.l x.j x.sent x.i).j))),
                              some
                                (Blk.arr (3 : Nat)
                                  (List.length (X5.mk x.mo x.acts (x.lo + (1 : Int)) x.l x.j x.sent x.i).sent)
                                  (lsF It.c (X5.mk x.mo x.acts (x.lo + (1 : Int)) x.l x.j x.sent x.i).sent)),
                              some
                                (Blk.arr (3 : Nat)
                                  (List.length (X5.mk x.mo x.acts (x.lo + (1 : Int)) x.l x.j x.sent x.i).l)
                                  (lsF It.c
                                    ((X5.mk x.mo x.acts (x.lo + (1 : Int)) x.l x.j x.sent x.i).l ++
                                      (X5.mk x.mo x.acts (x.lo + (1 : Int)) x.l x.j x.sent x.i).j)))]))
                      (Tree.leaf
                        (Out.mk AEx.normal
                          [AV.v (Value.int IntKind.i64 x.mo),
                            AV.sl (5 : Nat) (List.length (X5.mk x.mo x.acts (x.lo + (1 : Int)) x.l x.j x.sent x.i).acts)
                              (lsF Act.c (X5.mk x.mo x.acts (x.lo + (1 : Int)) x.l x.j x.sent x.i).acts),
                            AV.ptr (0 : Nat) (0 : Nat),
                            AV.hs (2 : Nat) (0 : Nat)
                              (List.length (X5.mk x.mo x.acts (x.lo + (1 : Int)) x.l x.j x.sent x.i).sent),
                            AV.v (Value.int IntKind.i64 (IntKind.wrap IntKind.i64 ((↑x.i : Int) + (1 : Int)))), AV.any]
                          [some
                              (Blk.row
                                [AV.v (Value.int IntKind.i64 x.mo), AV.v (Value.int IntKind.i64 (x.lo + (1 : Int))),
                                  AV.hs (1 : Nat) (0 : Nat)
                                    (List.length (X5.mk x.mo x.acts (x.lo + (1 : Int)) x.l x.j x.sent x.i).l)]),
                            some
                              (Blk.arr (3 : Nat)
                                (List.length
                                  ((X5.mk x.mo x.acts (x.lo + (1 : Int)) x.l x.j x.sent x.i).l ++
                                    (X5.mk x.mo x.acts (x.lo + (1 : Int)) x.l x.j x.sent x.i).j))
                                (lsF It.c
                                  ((X5.mk x.mo x.acts (x.lo + (1 : Int)) x.l x.j x.sent x.i).l ++
                                    (X5.mk x.mo x.acts (x.lo + (1 : Int)) x.l x.j x.sent x.i).j))),
                            some
                              (Blk.arr (3 : Nat)
                                (List.length (X5.mk x.mo x.acts (x.lo + (1 : Int)) x.l x.j x.sent x.i).sent)
                                (lsF It.c (X5.mk x.mo x.acts (x.lo + (1 : Int)) x.l x.j x.sent x.i).sent))]))))))))))))
  (Tree.leaf
    (Out.mk (AEx.exit (0 : Nat))
      [AV.v (Value.int IntKind.i64 x.mo), AV.sl (5 : Nat) (List.length x.acts) (lsF Act.c x.acts),
        AV.ptr (0 : Nat) (0 : Nat), AV.hs (2 : Nat) (0 : Nat) (List.length x.sent),
        AV.v (Value.int IntKind.i64 (↑x.i : Int)), AV.any]
      [some
          (Blk.row
            [AV.v (Value.int IntKind.i64 x.mo), AV.v (Value.int IntKind.i64 x.lo),
              AV.hs (1 : Nat) (0 : Nat) (List.length x.l)]),
        some (Blk.arr (3 : Nat) (List.length (x.l ++ x.j)) (lsF It.c (x.l ++ x.j))),
        some (Blk.arr (3 : Nat) (List.length x.sent) (lsF It.c x.sent))])) := by kernel_rfl
theorem r5sendOk (x : X5) (h : (x.acts.getD x.i default).x.t.size ≤ 65536) (h2 : (x.l.length : Int) ≠ x.mo) (hs' : x.l.length ≤ 999999999) : roundE (P := Try.prog) (Γ := Γn) [cItems, S.c10, CT.at 9 (ansSendOk (mo := x.mo) (lo := x.lo) (l := x.l) (junk := x.j) h h2 hs')] (L51 { x with l := x.l ++ [(x.acts.getD x.i default).x], j := [], sent := x.sent ++ [(x.acts.getD x.i default).x] }) false 0 0 (lp5 0) lv51 nl51 146 (S51 x).1 (S51 x).2 =
  Tree.br (decide ((↑x.i : Int) < (↑(List.length x.acts) : Int)))
  (Tree.chk true
    (Tree.chk
      (cl
        (List.length x.l ≤ (1000000000 : Nat) ∧
          ∃ l junk,
            List.length x.l = List.length l ∧
              List.length (x.l ++ x.j) = List.length (l ++ junk) ∧
                ∀ (e : Nat), lsF It.c (x.l ++ x.j) e = It.c (List.getD (l ++ junk) e default)))
      (Tree.chk (decide ((0 : Int) ≤ (↑x.i : Int)) && decide ((↑x.i : Int) < (↑(List.length x.acts) : Int)))
        (Tree.br (decide ((List.getD x.acts x.i default).k = (0 : Int)))
          (Tree.chk (decide ((0 : Int) ≤ (↑x.i : Int)) && decide ((↑x.i : Int) < (↑(List.length x.acts) : Int)))
            (Tree.chk
              (cl
                (LeL
                    [AV.ptr (0 : Nat) (0 : Nat),
                      AV.agg
                        [AV.v (Value.int IntKind.i64 (List.getD x.acts x.i default).x.a),
                          AV.v (Value.int IntKind.i64 (List.getD x.acts x.i default).x.b),
                          AV.v (Value.string (List.getD x.acts x.i default).x.t)]]
                    [AV.ptr (0 : Nat) (0 : Nat),
                      AV.agg
                        [AV.v (Value.int IntKind.i64 (List.getD x.acts x.i default).x.a),
                          AV.v (Value.int IntKind.i64 (List.getD x.acts x.i default).x.b),
                          AV.v (Value.string (List.getD x.acts x.i default).x.t)]] ∧
                  LeH
                    [some
                        (Blk.row
                          [AV.v (Value.int IntKind.i64 x.mo), AV.v (Value.int IntKind.i64 x.lo),
                            AV.hs (1 : Nat) (0 : Nat) (List.length x.l)]),
                      some (Blk.arr (3 : Nat) (List.length (x.l ++ x.j)) (lsF It.c (x.l ++ x.j)))]
                    [some
                        (Blk.row
                          [AV.v (Value.int IntKind.i64 x.mo), AV.v (Value.int IntKind.i64 x.lo),
                            AV.hs (1 : Nat) (0 : Nat) (List.length x.l)]),
                      some (Blk.arr (3 : Nat) (List.length (x.l ++ x.j)) (lsF It.c (x.l ++ x.j)))]))
              (Tree.br true
                (Tree.chk (decide ((0 : Int) ≤ (↑x.i : Int)) && decide ((↑x.i : Int) < (↑(List.length x.acts) : Int)))
                  (Tree.chk (roomOk (32 : Nat) (List.length x.sent + (1 : Nat)))
                    (Tree.chk true
                      (Tree.chk
                        (cl
                          (List.length (x.l ++ [(List.getD x.acts x.i default).x]) ≤ (1000000000 : Nat) ∧
                            ∃ l junk,
                              List.length (x.l ++ [(List.getD x.acts x.i default).x]) = List.length l ∧
                                List.length (x.l ++ [(List.getD x.acts x.i default).x]) = List.length (l ++ junk) ∧
                                  ∀ (e : Nat),
                                    lsF It.c (x.l ++ [(List.getD x.acts x.i default).x]) e =
                                      It.c (List.getD (l ++ junk) e default)))
                        (Tree.br (decide (x.mo < (↑(List.length (x.l ++ [(List.getD x.acts x.i default).x])) : Int)))
                          (Tree.leaf
                            (Out.mk AEx.ret
                              [AV.v (Value.int IntKind.i64 x.mo),
                                AV.sl (5 : Nat) (List.length x.acts) (lsF Act.c x.acts), AV.ptr (0 : Nat) (0 : Nat),
                                AV.hs (2 : Nat) (0 : Nat) (List.length x.sent + (1 : Nat)),
                                AV.v (Value.int IntKind.i64 (↑x.i : Int)), AV.v (Value.bool false)]
                              [some
                                  (Blk.row
                                    [AV.v (Value.int IntKind.i64 x.mo), AV.v (Value.int IntKind.i64 x.lo),
                                      AV.hs (1 : Nat) (0 : Nat)
                                        (List.length (x.l ++ [(List.getD x.acts x.i default).x]))]),
                                some
                                  (Blk.arr (3 : Nat) (List.length (x.l ++ [(List.getD x.acts x.i default).x]))
                                    (lsF It.c (x.l ++ [(List.getD x.acts x.i default).x]))),
                                some
                                  (Blk.arr (3 : Nat) (List.length x.sent + (1 : Nat)) fun j =>
                                    mixL (decide (j < List.length x.sent)) (lsF It.c x.sent ((0 : Nat) + j))
                                      (chain
                                        [AV.v (Value.int IntKind.i64 (0 : Int)), AV.v (Value.int IntKind.i64 (0 : Int)),
                                          AV.v (Value.string (ByteArray.mk #[]))]
                                        (0 : Nat)
                                        [[AV.v (Value.int IntKind.i64 (List.getD x.acts x.i default).x.a),
                                            AV.v (Value.int IntKind.i64 (List.getD x.acts x.i default).x.b),
                                            AV.v (Value.string (List.getD x.acts x.i default).x.t)]]
                                        ((0 : Nat) + (j - List.length x.sent))))]))
                          (Tree.chk
                            (cl
                              (LeL
                                  [AV.v (Value.int IntKind.i64 x.mo),
                                    AV.sl (5 : Nat) (List.length x.acts) (lsF Act.c x.acts), AV.ptr (0 : Nat) (0 : Nat),
                                    AV.hs (2 : Nat) (0 : Nat) (List.length x.sent + (1 : Nat)),
                                    AV.v (Value.int IntKind.i64 (↑x.i : Int)),
                                    AV.hs (3 : Nat) (0 : Nat) (List.length (x.l ++ [(List.getD x.acts x.i default).x])),
                                    AV.v (Value.int IntKind.i64 (0 : Int)), AV.any]
                                  [AV.v (Value.int IntKind.i64 x.mo),
                                    AV.sl (5 : Nat)
                                      (List.length
                                        (X5.mk x.mo x.acts x.lo (x.l ++ [(List.getD x.acts x.i default).x]) []
                                            (x.sent ++ [(List.getD x.acts x.i default).x]) x.i).acts)
                                      (lsF Act.c
                                        (X5.mk x.mo x.acts x.lo (x.l ++ [(List.getD x.acts x.i default).x]) []
                                            (x.sent ++ [(List.getD x.acts x.i default).x]) x.i).acts),
                                    AV.ptr (0 : Nat) (0 : Nat),
                                    AV.hs (2 : Nat) (0 : Nat)
                                      (List.length
                                        (X5.mk x.mo x.acts x.lo (x.l ++ [(List.getD x.acts x.i default).x]) []
                                            (x.sent ++ [(List.getD x.acts x.i default).x]) x.i).sent),
                                    AV.v (Value.int IntKind.i64 (↑x.i : Int)),
                                    AV.hs (3 : Nat) (0 : Nat)
                                      (List.length
                                        (X5.mk x.mo x.acts x.lo (x.l ++ [(List.getD x.acts x.i default).x]) []
                                            (x.sent ++ [(List.getD x.acts x.i default).x]) x.i).l),
                                    AV.v (Value.int IntKind.i64 (↑(0 : Nat) : Int)), AV.any] ∧
                                LeH
                                  [some
                                      (Blk.row
                                        [AV.v (Value.int IntKind.i64 x.mo), AV.v (Value.int IntKind.i64 x.lo),
                                          AV.hs (1 : Nat) (0 : Nat)
                                            (List.length (x.l ++ [(List.getD x.acts x.i default).x]))]),
                                    some
                                      (Blk.arr (3 : Nat) (List.length (x.l ++ [(List.getD x.acts x.i default).x]))
                                        (lsF It.c (x.l ++ [(List.getD x.acts x.i default).x]))),
                                    some
                                      (Blk.arr (3 : Nat) (List.length x.sent + (1 : Nat)) fun j =>
                                        mixL (decide (j < List.length x.sent)) (lsF It.c x.sent ((0 : Nat) + j))
                                          (chain
                                            [AV.v (Value.int IntKind.i64 (0 : Int)),
                                              AV.v (Value.int IntKind.i64 (0 : Int)),
                                              AV.v (Value.string (ByteArray.mk #[]))]
                                            (0 : Nat)
                                            [[AV.v (Value.int IntKind.i64 (List.getD x.acts x.i default).x.a),
                                                AV.v (Value.int IntKind.i64 (List.getD x.acts x.i default).x.b),
                                                AV.v (Value.string (List.getD x.acts x.i default).x.t)]]
                                            ((0 : Nat) + (j - List.length x.sent)))),
                                    some
                                      (Blk.arr (3 : Nat) (List.length (x.l ++ [(List.getD x.acts x.i default).x]))
                                        (lsF It.c (x.l ++ [(List.getD x.acts x.i default).x])))]
                                  [some
                                      (Blk.row
                                        [AV.v (Value.int IntKind.i64 x.mo), AV.v (Value.int IntKind.i64 x.lo),
                                          AV.hs (1 : Nat) (0 : Nat)
                                            (List.length
                                              (X5.mk x.mo x.acts x.lo (x.l ++ [(List.getD x.acts x.i default).x]) []
                                                  (x.sent ++ [(List.getD x.acts x.i default).x]) x.i).l)]),
                                    some
                                      (Blk.arr (3 : Nat)
                                        (List.length
                                          ((X5.mk x.mo x.acts x.lo (x.l ++ [(List.getD x.acts x.i default).x]) []
                                                (x.sent ++ [(List.getD x.acts x.i default).x]) x.i).l ++
                                            (X5.mk x.mo x.acts x.lo (x.l ++ [(List.getD x.acts x.i default).x]) []
                                                (x.sent ++ [(List.getD x.acts x.i default).x]) x.i).j))
                                        (lsF It.c
                                          ((X5.mk x.mo x.acts x.lo (x.l ++ [(List.getD x.acts x.i default).x]) []
                                                (x.sent ++ [(List.getD x.acts x.i default).x]) x.i).l ++
                                            (X5.mk x.mo x.acts x.lo (x.l ++ [(List.getD x.acts x.i default).x]) []
                                                (x.sent ++ [(List.getD x.acts x.i default).x]) x.i).j))),
                                    some
                                      (Blk.arr (3 : Nat)
                                        (List.length
                                          (X5.mk x.mo x.acts x.lo (x.l ++ [(List.getD x.acts x.i default).x]) []
                                              (x.sent ++ [(List.getD x.acts x.i default).x]) x.i).sent)
                                        (lsF It.c
                                          (X5.mk x.mo x.acts x.lo (x.l ++ [(List.getD x.acts x.i default).x]) []
                                              (x.sent ++ [(List.getD x.acts x.i default).x]) x.i).sent)),
                                    some
                                      (Blk.arr (3 : Nat)
                                        (List.length
                                          (X5.mk x.mo x.acts x.lo (x.l ++ [(List.getD x.acts x.i default).x]) []
                                              (x.sent ++ [(List.getD x.acts x.i default).x]) x.i).l)
                                        (lsF It.c
                                          ((X5.mk x.mo x.acts x.lo (x.l ++ [(List.getD x.acts x.i default).x]) []
                                                (x.sent ++ [(List.getD x.acts x.i default).x]) x.i).l ++
                                            (X5.mk x.mo x.acts x.lo (x.l ++ [(List.getD x.acts x.i default).x]) []
                                                (x.sent ++ [(List.getD x.acts x.i default).x]) x.i).j)))]))
                            (Tree.leaf
                              (Out.mk AEx.normal
                                [AV.v (Value.int IntKind.i64 x.mo),
                                  AV.sl (5 : Nat)
                                    (List.length
                                      (X5.mk x.mo x.acts x.lo (x.l ++ [(List.getD x.acts x.i default).x]) []
                                          (x.sent ++ [(List.getD x.acts x.i default).x]) x.i).acts)
                                    (lsF Act.c
                                      (X5.mk x.mo x.acts x.lo (x.l ++ [(List.getD x.acts x.i default).x]) []
                                          (x.sent ++ [(List.getD x.acts x.i default).x]) x.i).acts),
                                  AV.ptr (0 : Nat) (0 : Nat),
                                  AV.hs (2 : Nat) (0 : Nat)
                                    (List.length
                                      (X5.mk x.mo x.acts x.lo (x.l ++ [(List.getD x.acts x.i default).x]) []
                                          (x.sent ++ [(List.getD x.acts x.i default).x]) x.i).sent),
                                  AV.v (Value.int IntKind.i64 (IntKind.wrap IntKind.i64 ((↑x.i : Int) + (1 : Int)))),
                                  AV.any]
                                [some
                                    (Blk.row
                                      [AV.v (Value.int IntKind.i64 x.mo), AV.v (Value.int IntKind.i64 x.lo),
                                        AV.hs (1 : Nat) (0 : Nat)
                                          (List.length
                                            (X5.mk x.mo x.acts x.lo (x.l ++ [(List.getD x.acts x.i default).x]) []
                                                (x.sent ++ [(List.getD x.acts x.i default).x]) x.i).l)]),
                                  some
                                    (Blk.arr (3 : Nat)
                                      (List.length
                                        ((X5.mk x.mo x.acts x.lo (x.l ++ [(List.getD x.acts x.i default).x]) []
                                              (x.sent ++ [(List.getD x.acts x.i default).x]) x.i).l ++
                                          (X5.mk x.mo x.acts x.lo (x.l ++ [(List.getD x.acts x.i default).x]) []
                                              (x.sent ++ [(List.getD x.acts x.i default).x]) x.i).j))
                                      (lsF It.c
                                        ((X5.mk x.mo x.acts x.lo (x.l ++ [(List.getD x.acts x.i default).x]) []
                                              (x.sent ++ [(List.getD x.acts x.i default).x]) x.i).l ++
                                          (X5.mk x.mo x.acts x.lo (x.l ++ [(List.getD x.acts x.i default).x]) []
                                              (x.sent ++ [(List.getD x.acts x.i default).x]) x.i).j))),
                                  some
                                    (Blk.arr (3 : Nat)
                                      (List.length
                                        (X5.mk x.mo x.acts x.lo (x.l ++ [(List.getD x.acts x.i default).x]) []
                                            (x.sent ++ [(List.getD x.acts x.i default).x]) x.i).sent)
                                      (lsF It.c
                                        (X5.mk x.mo x.acts x.lo (x.l ++ [(List.getD x.acts x.i default).x]) []
                                            (x.sent ++ [(List.getD x.acts x.i default).x]) x.i).sent))]))))))))
                (Tree.chk true
                  (Tree.chk
                    (cl
                      (List.length (x.l ++ [(List.getD x.acts x.i default).x]) ≤ (1000000000 : Nat) ∧
                        ∃ l junk,
                          List.length (x.l ++ [(List.getD x.acts x.i default).x]) = List.length l ∧
                            List.length (x.l ++ [(List.getD x.acts x.i default).x]) = List.length (l ++ junk) ∧
                              ∀ (e : Nat),
                                lsF It.c (x.l ++ [(List.getD x.acts x.i default).x]) e =
                                  It.c (List.getD (l ++ junk) e default)))
                    (Tree.br (decide (x.mo < (↑(List.length (x.l ++ [(List.getD x.acts x.i default).x])) : Int)))
                      (Tree.leaf
                        (Out.mk AEx.ret
                          [AV.v (Value.int IntKind.i64 x.mo), AV.sl (5 : Nat) (List.length x.acts) (lsF Act.c x.acts),
                            AV.ptr (0 : Nat) (0 : Nat), AV.hs (2 : Nat) (0 : Nat) (List.length x.sent),
                            AV.v (Value.int IntKind.i64 (↑x.i : Int)), AV.v (Value.bool false)]
                          [some
                              (Blk.row
                                [AV.v (Value.int IntKind.i64 x.mo), AV.v (Value.int IntKind.i64 x.lo),
                                  AV.hs (1 : Nat) (0 : Nat) (List.length (x.l ++ [(List.getD x.acts x.i default).x]))]),
                            some
                              (Blk.arr (3 : Nat) (List.length (x.l ++ [(List.getD x.acts x.i default).x]))
                                (lsF It.c (x.l ++ [(List.getD x.acts x.i default).x]))),
                            some (Blk.arr (3 : Nat) (List.length x.sent) (lsF It.c x.sent))]))
                      (Tree.chk
                        (cl
                          (LeL
                              [AV.v (Value.int IntKind.i64 x.mo),
                                AV.sl (5 : Nat) (List.length x.acts) (lsF Act.c x.acts), AV.ptr (0 : Nat) (0 : Nat),
                                AV.hs (2 : Nat) (0 : Nat) (List.length x.sent),
                                AV.v (Value.int IntKind.i64 (↑x.i : Int)),
                                AV.hs (3 : Nat) (0 : Nat) (List.length (x.l ++ [(List.getD x.acts x.i default).x])),
                                AV.v (Value.int IntKind.i64 (0 : Int)), AV.any]
                              [AV.v (Value.int IntKind.i64 x.mo),
                                AV.sl (5 : Nat)
                                  (List.length
                                    (X5.mk x.mo x.acts x.lo (x.l ++ [(List.getD x.acts x.i default).x]) []
                                        (x.sent ++ [(List.getD x.acts x.i default).x]) x.i).acts)
                                  (lsF Act.c
                                    (X5.mk x.mo x.acts x.lo (x.l ++ [(List.getD x.acts x.i default).x]) []
                                        (x.sent ++ [(List.getD x.acts x.i default).x]) x.i).acts),
                                AV.ptr (0 : Nat) (0 : Nat),
                                AV.hs (2 : Nat) (0 : Nat)
                                  (List.length
                                    (X5.mk x.mo x.acts x.lo (x.l ++ [(List.getD x.acts x.i default).x]) []
                                        (x.sent ++ [(List.getD x.acts x.i default).x]) x.i).sent),
                                AV.v (Value.int IntKind.i64 (↑x.i : Int)),
                                AV.hs (3 : Nat) (0 : Nat)
                                  (List.length
                                    (X5.mk x.mo x.acts x.lo (x.l ++ [(List.getD x.acts x.i default).x]) []
                                        (x.sent ++ [(List.getD x.acts x.i default).x]) x.i).l),
                                AV.v (Value.int IntKind.i64 (↑(0 : Nat) : Int)), AV.any] ∧
                            LeH
                              [some
                                  (Blk.row
                                    [AV.v (Value.int IntKind.i64 x.mo), AV.v (Value.int IntKind.i64 x.lo),
                                      AV.hs (1 : Nat) (0 : Nat)
                                        (List.length (x.l ++ [(List.getD x.acts x.i default).x]))]),
                                some
                                  (Blk.arr (3 : Nat) (List.length (x.l ++ [(List.getD x.acts x.i default).x]))
                                    (lsF It.c (x.l ++ [(List.getD x.acts x.i default).x]))),
                                some (Blk.arr (3 : Nat) (List.length x.sent) (lsF It.c x.sent)),
                                some
                                  (Blk.arr (3 : Nat) (List.length (x.l ++ [(List.getD x.acts x.i default).x]))
                                    (lsF It.c (x.l ++ [(List.getD x.acts x.i default).x])))]
                              [some
                                  (Blk.row
                                    [AV.v (Value.int IntKind.i64 x.mo), AV.v (Value.int IntKind.i64 x.lo),
                                      AV.hs (1 : Nat) (0 : Nat)
                                        (List.length
                                          (X5.mk x.mo x.acts x.lo (x.l ++ [(List.getD x.acts x.i default).x]) []
                                              (x.sent ++ [(List.getD x.acts x.i default).x]) x.i).l)]),
                                some
                                  (Blk.arr (3 : Nat)
                                    (List.length
                                      ((X5.mk x.mo x.acts x.lo (x.l ++ [(List.getD x.acts x.i default).x]) []
                                            (x.sent ++ [(List.getD x.acts x.i default).x]) x.i).l ++
                                        (X5.mk x.mo x.acts x.lo (x.l ++ [(List.getD x.acts x.i default).x]) []
                                            (x.sent ++ [(List.getD x.acts x.i default).x]) x.i).j))
                                    (lsF It.c
                                      ((X5.mk x.mo x.acts x.lo (x.l ++ [(List.getD x.acts x.i default).x]) []
                                            (x.sent ++ [(List.getD x.acts x.i default).x]) x.i).l ++
                                        (X5.mk x.mo x.acts x.lo (x.l ++ [(List.getD x.acts x.i default).x]) []
                                            (x.sent ++ [(List.getD x.acts x.i default).x]) x.i).j))),
                                some
                                  (Blk.arr (3 : Nat)
                                    (List.length
                                      (X5.mk x.mo x.acts x.lo (x.l ++ [(List.getD x.acts x.i default).x]) []
                                          (x.sent ++ [(List.getD x.acts x.i default).x]) x.i).sent)
                                    (lsF It.c
                                      (X5.mk x.mo x.acts x.lo (x.l ++ [(List.getD x.acts x.i default).x]) []
                                          (x.sent ++ [(List.getD x.acts x.i default).x]) x.i).sent)),
                                some
                                  (Blk.arr (3 : Nat)
                                    (List.length
                                      (X5.mk x.mo x.acts x.lo (x.l ++ [(List.getD x.acts x.i default).x]) []
                                          (x.sent ++ [(List.getD x.acts x.i default).x]) x.i).l)
                                    (lsF It.c
                                      ((X5.mk x.mo x.acts x.lo (x.l ++ [(List.getD x.acts x.i default).x]) []
                                            (x.sent ++ [(List.getD x.acts x.i default).x]) x.i).l ++
                                        (X5.mk x.mo x.acts x.lo (x.l ++ [(List.getD x.acts x.i default).x]) []
                                            (x.sent ++ [(List.getD x.acts x.i default).x]) x.i).j)))]))
                        (Tree.leaf
                          (Out.mk AEx.normal
                            [AV.v (Value.int IntKind.i64 x.mo),
                              AV.sl (5 : Nat)
                                (List.length
                                  (X5.mk x.mo x.acts x.lo (x.l ++ [(List.getD x.acts x.i default).x]) []
                                      (x.sent ++ [(List.getD x.acts x.i default).x]) x.i).acts)
                                (lsF Act.c
                                  (X5.mk x.mo x.acts x.lo (x.l ++ [(List.getD x.acts x.i default).x]) []
                                      (x.sent ++ [(List.getD x.acts x.i default).x]) x.i).acts),
                              AV.ptr (0 : Nat) (0 : Nat),
                              AV.hs (2 : Nat) (0 : Nat)
                                (List.length
                                  (X5.mk x.mo x.acts x.lo (x.l ++ [(List.getD x.acts x.i default).x]) []
                                      (x.sent ++ [(List.getD x.acts x.i default).x]) x.i).sent),
                              AV.v (Value.int IntKind.i64 (IntKind.wrap IntKind.i64 ((↑x.i : Int) + (1 : Int)))),
                              AV.any]
                            [some
                                (Blk.row
                                  [AV.v (Value.int IntKind.i64 x.mo), AV.v (Value.int IntKind.i64 x.lo),
                                    AV.hs (1 : Nat) (0 : Nat)
                                      (List.length
                                        (X5.mk x.mo x.acts x.lo (x.l ++ [(List.getD x.acts x.i default).x]) []
                                            (x.sent ++ [(List.getD x.acts x.i default).x]) x.i).l)]),
                              some
                                (Blk.arr (3 : Nat)
                                  (List.length
                                    ((X5.mk x.mo x.acts x.lo (x.l ++ [(List.getD x.acts x.i default).x]) []
                                          (x.sent ++ [(List.getD x.acts x.i default).x]) x.i).l ++
                                      (X5.mk x.mo x.acts x.lo (x.l ++ [(List.getD x.acts x.i default).x]) []
                                          (x.sent ++ [(List.getD x.acts x.i default).x]) x.i).j))
                                  (lsF It.c
                                    ((X5.mk x.mo x.acts x.lo (x.l ++ [(List.getD x.acts x.i default).x]) []
                                          (x.sent ++ [(List.getD x.acts x.i default).x]) x.i).l ++
                                      (X5.mk x.mo x.acts x.lo (x.l ++ [(List.getD x.acts x.i default).x]) []
                                          (x.sent ++ [(List.getD x.acts x.i default).x]) x.i).j))),
                              some
                                (Blk.arr (3 : Nat)
                                  (List.length
                                    (X5.mk x.mo x.acts x.lo (x.l ++ [(List.getD x.acts x.i default).x]) []
                                        (x.sent ++ [(List.getD x.acts x.i default).x]) x.i).sent)
                                  (lsF It.c
                                    (X5.mk x.mo x.acts x.lo (x.l ++ [(List.getD x.acts x.i default).x]) []
                                        (x.sent ++ [(List.getD x.acts x.i default).x]) x.i).sent))])))))))))
          (Tree.br (decide ((List.getD x.acts x.i default).k = (1 : Int)))
            (Tree.chk (decide ((0 : Int) ≤ (↑x.i : Int)) && decide ((↑x.i : Int) < (↑(List.length x.acts) : Int)))
              Tree.fail)
            (Tree.br (decide ((List.getD x.acts x.i default).k = (2 : Int)))
              (Tree.chk (decide ((0 : Int) ≤ (↑x.i : Int)) && decide ((↑x.i : Int) < (↑(List.length x.acts) : Int)))
                Tree.fail)
              (Tree.chk true
                (Tree.chk
                  (cl
                    (List.length x.l ≤ (1000000000 : Nat) ∧
                      ∃ l junk,
                        List.length x.l = List.length l ∧
                          List.length (x.l ++ x.j) = List.length (l ++ junk) ∧
                            ∀ (e : Nat), lsF It.c (x.l ++ x.j) e = It.c (List.getD (l ++ junk) e default)))
                  (Tree.br (decide (x.mo < (↑(List.length x.l) : Int)))
                    (Tree.leaf
                      (Out.mk AEx.ret
                        [AV.v (Value.int IntKind.i64 x.mo), AV.sl (5 : Nat) (List.length x.acts) (lsF Act.c x.acts),
                          AV.ptr (0 : Nat) (0 : Nat), AV.hs (2 : Nat) (0 : Nat) (List.length x.sent),
                          AV.v (Value.int IntKind.i64 (↑x.i : Int)), AV.v (Value.bool false)]
                        [some
                            (Blk.row
                              [AV.v (Value.int IntKind.i64 x.mo), AV.v (Value.int IntKind.i64 x.lo),
                                AV.hs (1 : Nat) (0 : Nat) (List.length x.l)]),
                          some (Blk.arr (3 : Nat) (List.length (x.l ++ x.j)) (lsF It.c (x.l ++ x.j))),
                          some (Blk.arr (3 : Nat) (List.length x.sent) (lsF It.c x.sent))]))
                    (Tree.chk
                      (cl
                        (LeL
                            [AV.v (Value.int IntKind.i64 x.mo), AV.sl (5 : Nat) (List.length x.acts) (lsF Act.c x.acts),
                              AV.ptr (0 : Nat) (0 : Nat), AV.hs (2 : Nat) (0 : Nat) (List.length x.sent),
                              AV.v (Value.int IntKind.i64 (↑x.i : Int)), AV.hs (3 : Nat) (0 : Nat) (List.length x.l),
                              AV.v (Value.int IntKind.i64 (0 : Int)), AV.any]
                            [AV.v (Value.int IntKind.i64 x.mo),
                              AV.sl (5 : Nat)
                                (List.length
                                  (X5.mk x.mo x.acts x.lo (x.l ++ [(List.getD x.acts x.i default).x]) []
                                      (x.sent ++ [(List.getD x.acts x.i default).x]) x.i).acts)
                                (lsF Act.c
                                  (X5.mk x.mo x.acts x.lo (x.l ++ [(List.getD x.acts x.i default).x]) []
                                      (x.sent ++ [(List.getD x.acts x.i default).x]) x.i).acts),
                              AV.ptr (0 : Nat) (0 : Nat),
                              AV.hs (2 : Nat) (0 : Nat)
                                (List.length
                                  (X5.mk x.mo x.acts x.lo (x.l ++ [(List.getD x.acts x.i default).x]) []
                                      (x.sent ++ [(List.getD x.acts x.i default).x]) x.i).sent),
                              AV.v (Value.int IntKind.i64 (↑x.i : Int)),
                              AV.hs (3 : Nat) (0 : Nat)
                                (List.length
                                  (X5.mk x.mo x.acts x.lo (x.l ++ [(List.getD x.acts x.i default).x]) []
                                      (x.sent ++ [(List.getD x.acts x.i default).x]) x.i).l),
                              AV.v (Value.int IntKind.i64 (↑(0 : Nat) : Int)), AV.any] ∧
                          LeH
                            [some
                                (Blk.row
                                  [AV.v (Value.int IntKind.i64 x.mo), AV.v (Value.int IntKind.i64 x.lo),
                                    AV.hs (1 : Nat) (0 : Nat) (List.length x.l)]),
                              some (Blk.arr (3 : Nat) (List.length (x.l ++ x.j)) (lsF It.c (x.l ++ x.j))),
                              some (Blk.arr (3 : Nat) (List.length x.sent) (lsF It.c x.sent)),
                              some (Blk.arr (3 : Nat) (List.length x.l) (lsF It.c (x.l ++ x.j)))]
                            [some
                                (Blk.row
                                  [AV.v (Value.int IntKind.i64 x.mo), AV.v (Value.int IntKind.i64 x.lo),
                                    AV.hs (1 : Nat) (0 : Nat)
                                      (List.length
                                        (X5.mk x.mo x.acts x.lo (x.l ++ [(List.getD x.acts x.i default).x]) []
                                            (x.sent ++ [(List.getD x.acts x.i default).x]) x.i).l)]),
                              some
                                (Blk.arr (3 : Nat)
                                  (List.length
                                    ((X5.mk x.mo x.acts x.lo (x.l ++ [(List.getD x.acts x.i default).x]) []
                                          (x.sent ++ [(List.getD x.acts x.i default).x]) x.i).l ++
                                      (X5.mk x.mo x.acts x.lo (x.l ++ [(List.getD x.acts x.i default).x]) []
                                          (x.sent ++ [(List.getD x.acts x.i default).x]) x.i).j))
                                  (lsF It.c
                                    ((X5.mk x.mo x.acts x.lo (x.l ++ [(List.getD x.acts x.i default).x]) []
                                          (x.sent ++ [(List.getD x.acts x.i default).x]) x.i).l ++
                                      (X5.mk x.mo x.acts x.lo (x.l ++ [(List.getD x.acts x.i default).x]) []
                                          (x.sent ++ [(List.getD x.acts x.i default).x]) x.i).j))),
                              some
                                (Blk.arr (3 : Nat)
                                  (List.length
                                    (X5.mk x.mo x.acts x.lo (x.l ++ [(List.getD x.acts x.i default).x]) []
                                        (x.sent ++ [(List.getD x.acts x.i default).x]) x.i).sent)
                                  (lsF It.c
                                    (X5.mk x.mo x.acts x.lo (x.l ++ [(List.getD x.acts x.i default).x]) []
                                        (x.sent ++ [(List.getD x.acts x.i default).x]) x.i).sent)),
                              some
                                (Blk.arr (3 : Nat)
                                  (List.length
                                    (X5.mk x.mo x.acts x.lo (x.l ++ [(List.getD x.acts x.i default).x]) []
                                        (x.sent ++ [(List.getD x.acts x.i default).x]) x.i).l)
                                  (lsF It.c
                                    ((X5.mk x.mo x.acts x.lo (x.l ++ [(List.getD x.acts x.i default).x]) []
                                          (x.sent ++ [(List.getD x.acts x.i default).x]) x.i).l ++
                                      (X5.mk x.mo x.acts x.lo (x.l ++ [(List.getD x.acts x.i default).x]) []
                                          (x.sent ++ [(List.getD x.acts x.i default).x]) x.i).j)))]))
                      (Tree.leaf
                        (Out.mk AEx.normal
                          [AV.v (Value.int IntKind.i64 x.mo),
                            AV.sl (5 : Nat)
                              (List.length
                                (X5.mk x.mo x.acts x.lo (x.l ++ [(List.getD x.acts x.i default).x]) []
                                    (x.sent ++ [(List.getD x.acts x.i default).x]) x.i).acts)
                              (lsF Act.c
                                (X5.mk x.mo x.acts x.lo (x.l ++ [(List.getD x.acts x.i default).x]) []
                                    (x.sent ++ [(List.getD x.acts x.i default).x]) x.i).acts),
                            AV.ptr (0 : Nat) (0 : Nat),
                            AV.hs (2 : Nat) (0 : Nat)
                              (List.length
                                (X5.mk x.mo x.acts x.lo (x.l ++ [(List.getD x.acts x.i default).x]) []
                                    (x.sent ++ [(List.getD x.acts x.i default).x]) x.i).sent),
                            AV.v (Value.int IntKind.i64 (IntKind.wrap IntKind.i64 ((↑x.i : Int) + (1 : Int)))), AV.any]
                          [some
                              (Blk.row
                                [AV.v (Value.int IntKind.i64 x.mo), AV.v (Value.int IntKind.i64 x.lo),
                                  AV.hs (1 : Nat) (0 : Nat)
                                    (List.length
                                      (X5.mk x.mo x.acts x.lo (x.l ++ [(List.getD x.acts x.i default).x]) []
                                          (x.sent ++ [(List.getD x.acts x.i default).x]) x.i).l)]),
                            some
                              (Blk.arr (3 : Nat)
                                (List.length
                                  ((X5.mk x.mo x.acts x.lo (x.l ++ [(List.getD x.acts x.i default).x]) []
                                        (x.sent ++ [(List.getD x.acts x.i default).x]) x.i).l ++
                                    (X5.mk x.mo x.acts x.lo (x.l ++ [(List.getD x.acts x.i default).x]) []
                                        (x.sent ++ [(List.getD x.acts x.i default).x]) x.i).j))
                                (lsF It.c
                                  ((X5.mk x.mo x.acts x.lo (x.l ++ [(List.getD x.acts x.i default).x]) []
                                        (x.sent ++ [(List.getD x.acts x.i default).x]) x.i).l ++
                                    (X5.mk x.mo x.acts x.lo (x.l ++ [(List.getD x.acts x.i default).x]) []
                                        (x.sent ++ [(List.getD x.acts x.i default).x]) x.i).j))),
                            some
                              (Blk.arr (3 : Nat)
                                (List.length
                                  (X5.mk x.mo x.acts x.lo (x.l ++ [(List.getD x.acts x.i default).x]) []
                                      (x.sent ++ [(List.getD x.acts x.i default).x]) x.i).sent)
                                (lsF It.c
                                  (X5.mk x.mo x.acts x.lo (x.l ++ [(List.getD x.acts x.i default).x]) []
                                      (x.sent ++ [(List.getD x.acts x.i default).x]) x.i).sent))]))))))))))))
  (Tree.leaf
    (Out.mk (AEx.exit (0 : Nat))
      [AV.v (Value.int IntKind.i64 x.mo), AV.sl (5 : Nat) (List.length x.acts) (lsF Act.c x.acts),
        AV.ptr (0 : Nat) (0 : Nat), AV.hs (2 : Nat) (0 : Nat) (List.length x.sent),
        AV.v (Value.int IntKind.i64 (↑x.i : Int)), AV.any]
      [some
          (Blk.row
            [AV.v (Value.int IntKind.i64 x.mo), AV.v (Value.int IntKind.i64 x.lo),
              AV.hs (1 : Nat) (0 : Nat) (List.length x.l)]),
        some (Blk.arr (3 : Nat) (List.length (x.l ++ x.j)) (lsF It.c (x.l ++ x.j))),
        some (Blk.arr (3 : Nat) (List.length x.sent) (lsF It.c x.sent))])) := by kernel_rfl
theorem r5takeNo (x : X5) (h : (x.acts.getD x.i default).i < 0 ∨ (x.l.length : Int) ≤ (x.acts.getD x.i default).i) : roundE (P := Try.prog) (Γ := Γn) [cItems, S.c10, CT.at 11 (ansTakeNo (mo := x.mo) (lo := x.lo) (l := x.l) (junk := x.j) h)] (L51 x) false 0 0 (lp5 0) lv51 nl51 146 (S51 x).1 (S51 x).2 =
  Tree.br (decide ((↑x.i : Int) < (↑(List.length x.acts) : Int)))
  (Tree.chk true
    (Tree.chk
      (cl
        (List.length x.l ≤ (1000000000 : Nat) ∧
          ∃ l junk,
            List.length x.l = List.length l ∧
              List.length (x.l ++ x.j) = List.length (l ++ junk) ∧
                ∀ (e : Nat), lsF It.c (x.l ++ x.j) e = It.c (List.getD (l ++ junk) e default)))
      (Tree.chk (decide ((0 : Int) ≤ (↑x.i : Int)) && decide ((↑x.i : Int) < (↑(List.length x.acts) : Int)))
        (Tree.br (decide ((List.getD x.acts x.i default).k = (0 : Int)))
          (Tree.chk (decide ((0 : Int) ≤ (↑x.i : Int)) && decide ((↑x.i : Int) < (↑(List.length x.acts) : Int)))
            Tree.fail)
          (Tree.br (decide ((List.getD x.acts x.i default).k = (1 : Int)))
            (Tree.chk (decide ((0 : Int) ≤ (↑x.i : Int)) && decide ((↑x.i : Int) < (↑(List.length x.acts) : Int)))
              (Tree.chk
                (cl
                  (LeL [AV.ptr (0 : Nat) (0 : Nat), AV.v (Value.int IntKind.i64 (List.getD x.acts x.i default).i)]
                      [AV.ptr (0 : Nat) (0 : Nat), AV.v (Value.int IntKind.i64 (List.getD x.acts x.i default).i)] ∧
                    LeH
                      [some
                          (Blk.row
                            [AV.v (Value.int IntKind.i64 x.mo), AV.v (Value.int IntKind.i64 x.lo),
                              AV.hs (1 : Nat) (0 : Nat) (List.length x.l)]),
                        some (Blk.arr (3 : Nat) (List.length (x.l ++ x.j)) (lsF It.c (x.l ++ x.j)))]
                      [some
                          (Blk.row
                            [AV.v (Value.int IntKind.i64 x.mo), AV.v (Value.int IntKind.i64 x.lo),
                              AV.hs (1 : Nat) (0 : Nat) (List.length x.l)]),
                        some (Blk.arr (3 : Nat) (List.length (x.l ++ x.j)) (lsF It.c (x.l ++ x.j)))]))
                (Tree.br false
                  (Tree.chk (decide ((0 : Int) ≤ (↑x.i : Int)) && decide ((↑x.i : Int) < (↑(List.length x.acts) : Int)))
                    (Tree.br (decide ((↑(List.length x.l) : Int) ≤ (List.getD x.acts x.i default).i))
                      (Tree.leaf
                        (Out.mk AEx.ret
                          [AV.v (Value.int IntKind.i64 x.mo), AV.sl (5 : Nat) (List.length x.acts) (lsF Act.c x.acts),
                            AV.ptr (0 : Nat) (0 : Nat), AV.hs (2 : Nat) (0 : Nat) (List.length x.sent),
                            AV.v (Value.int IntKind.i64 (↑x.i : Int)), AV.v (Value.bool false)]
                          [some
                              (Blk.row
                                [AV.v (Value.int IntKind.i64 x.mo), AV.v (Value.int IntKind.i64 x.lo),
                                  AV.hs (1 : Nat) (0 : Nat) (List.length x.l)]),
                            some (Blk.arr (3 : Nat) (List.length (x.l ++ x.j)) (lsF It.c (x.l ++ x.j))),
                            some (Blk.arr (3 : Nat) (List.length x.sent) (lsF It.c x.sent))]))
                      (Tree.chk
                        (decide ((0 : Int) ≤ (↑x.i : Int)) && decide ((↑x.i : Int) < (↑(List.length x.acts) : Int)))
                        (Tree.chk
                          (decide ((0 : Int) ≤ (List.getD x.acts x.i default).i) &&
                            decide ((List.getD x.acts x.i default).i < (↑(List.length x.l) : Int)))
                          (Tree.br
                            (!(decide
                                  ((0 : Int) =
                                    (List.getD (x.l ++ x.j) ((0 : Nat) + Int.toNat (List.getD x.acts x.i default).i)
                                        default).a) &&
                                (decide
                                    ((0 : Int) =
                                      (List.getD (x.l ++ x.j) ((0 : Nat) + Int.toNat (List.getD x.acts x.i default).i)
                                          default).b) &&
                                  decide
                                    (ByteArray.mk #[] =
                                      (List.getD (x.l ++ x.j) ((0 : Nat) + Int.toNat (List.getD x.acts x.i default).i)
                                          default).t))))
                            (Tree.leaf
                              (Out.mk AEx.ret
                                [AV.v (Value.int IntKind.i64 x.mo),
                                  AV.sl (5 : Nat) (List.length x.acts) (lsF Act.c x.acts), AV.ptr (0 : Nat) (0 : Nat),
                                  AV.hs (2 : Nat) (0 : Nat) (List.length x.sent),
                                  AV.v (Value.int IntKind.i64 (↑x.i : Int)), AV.v (Value.bool false)]
                                [some
                                    (Blk.row
                                      [AV.v (Value.int IntKind.i64 x.mo), AV.v (Value.int IntKind.i64 x.lo),
                                        AV.hs (1 : Nat) (0 : Nat) (List.length x.l)]),
                                  some (Blk.arr (3 : Nat) (List.length (x.l ++ x.j)) (lsF It.c (x.l ++ x.j))),
                                  some (Blk.arr (3 : Nat) (List.length x.sent) (lsF It.c x.sent))]))
                            (Tree.br
                              (!decide
                                  ((↑(List.length x.l) : Int) =
                                    IntKind.wrap IntKind.i64 ((↑(List.length x.l) : Int) - (1 : Int))))
                              (Tree.leaf
                                (Out.mk AEx.ret
                                  [AV.v (Value.int IntKind.i64 x.mo),
                                    AV.sl (5 : Nat) (List.length x.acts) (lsF Act.c x.acts), AV.ptr (0 : Nat) (0 : Nat),
                                    AV.hs (2 : Nat) (0 : Nat) (List.length x.sent),
                                    AV.v (Value.int IntKind.i64 (↑x.i : Int)), AV.v (Value.bool false)]
                                  [some
                                      (Blk.row
                                        [AV.v (Value.int IntKind.i64 x.mo), AV.v (Value.int IntKind.i64 x.lo),
                                          AV.hs (1 : Nat) (0 : Nat) (List.length x.l)]),
                                    some (Blk.arr (3 : Nat) (List.length (x.l ++ x.j)) (lsF It.c (x.l ++ x.j))),
                                    some (Blk.arr (3 : Nat) (List.length x.sent) (lsF It.c x.sent))]))
                              (Tree.chk true
                                (Tree.chk
                                  (cl
                                    (List.length x.l ≤ (1000000000 : Nat) ∧
                                      ∃ l junk,
                                        List.length x.l = List.length l ∧
                                          List.length (x.l ++ x.j) = List.length (l ++ junk) ∧
                                            ∀ (e : Nat),
                                              lsF It.c (x.l ++ x.j) e = It.c (List.getD (l ++ junk) e default)))
                                  (Tree.br (decide (x.mo < (↑(List.length x.l) : Int)))
                                    (Tree.leaf
                                      (Out.mk AEx.ret
                                        [AV.v (Value.int IntKind.i64 x.mo),
                                          AV.sl (5 : Nat) (List.length x.acts) (lsF Act.c x.acts),
                                          AV.ptr (0 : Nat) (0 : Nat), AV.hs (2 : Nat) (0 : Nat) (List.length x.sent),
                                          AV.v (Value.int IntKind.i64 (↑x.i : Int)), AV.v (Value.bool false)]
                                        [some
                                            (Blk.row
                                              [AV.v (Value.int IntKind.i64 x.mo), AV.v (Value.int IntKind.i64 x.lo),
                                                AV.hs (1 : Nat) (0 : Nat) (List.length x.l)]),
                                          some (Blk.arr (3 : Nat) (List.length (x.l ++ x.j)) (lsF It.c (x.l ++ x.j))),
                                          some (Blk.arr (3 : Nat) (List.length x.sent) (lsF It.c x.sent))]))
                                    (Tree.chk
                                      (cl
                                        (LeL
                                            [AV.v (Value.int IntKind.i64 x.mo),
                                              AV.sl (5 : Nat) (List.length x.acts) (lsF Act.c x.acts),
                                              AV.ptr (0 : Nat) (0 : Nat),
                                              AV.hs (2 : Nat) (0 : Nat) (List.length x.sent),
                                              AV.v (Value.int IntKind.i64 (↑x.i : Int)),
                                              AV.hs (3 : Nat) (0 : Nat) (List.length x.l),
                                              AV.v (Value.int IntKind.i64 (0 : Int)), AV.any]
                                            [AV.v (Value.int IntKind.i64 x.mo),
                                              AV.sl (5 : Nat) (List.length x.acts) (lsF Act.c x.acts),
                                              AV.ptr (0 : Nat) (0 : Nat),
                                              AV.hs (2 : Nat) (0 : Nat) (List.length x.sent),
                                              AV.v (Value.int IntKind.i64 (↑x.i : Int)),
                                              AV.hs (3 : Nat) (0 : Nat) (List.length x.l),
                                              AV.v (Value.int IntKind.i64 (↑(0 : Nat) : Int)), AV.any] ∧
                                          LeH
                                            [some
                                                (Blk.row
                                                  [AV.v (Value.int IntKind.i64 x.mo), AV.v (Value.int IntKind.i64 x.lo),
                                                    AV.hs (1 : Nat) (0 : Nat) (List.length x.l)]),
                                              some
                                                (Blk.arr (3 : Nat) (List.length (x.l ++ x.j)) (lsF It.c (x.l ++ x.j))),
                                              some (Blk.arr (3 : Nat) (List.length x.sent) (lsF It.c x.sent)),
                                              some (Blk.arr (3 : Nat) (List.length x.l) (lsF It.c (x.l ++ x.j)))]
                                            [some
                                                (Blk.row
                                                  [AV.v (Value.int IntKind.i64 x.mo), AV.v (Value.int IntKind.i64 x.lo),
                                                    AV.hs (1 : Nat) (0 : Nat) (List.length x.l)]),
                                              some
                                                (Blk.arr (3 : Nat) (List.length (x.l ++ x.j)) (lsF It.c (x.l ++ x.j))),
                                              some (Blk.arr (3 : Nat) (List.length x.sent) (lsF It.c x.sent)),
                                              some (Blk.arr (3 : Nat) (List.length x.l) (lsF It.c (x.l ++ x.j)))]))
                                      (Tree.leaf
                                        (Out.mk AEx.normal
                                          [AV.v (Value.int IntKind.i64 x.mo),
                                            AV.sl (5 : Nat) (List.length x.acts) (lsF Act.c x.acts),
                                            AV.ptr (0 : Nat) (0 : Nat), AV.hs (2 : Nat) (0 : Nat) (List.length x.sent),
                                            AV.v
                                              (Value.int IntKind.i64
                                                (IntKind.wrap IntKind.i64 ((↑x.i : Int) + (1 : Int)))),
                                            AV.any]
                                          [some
                                              (Blk.row
                                                [AV.v (Value.int IntKind.i64 x.mo), AV.v (Value.int IntKind.i64 x.lo),
                                                  AV.hs (1 : Nat) (0 : Nat) (List.length x.l)]),
                                            some (Blk.arr (3 : Nat) (List.length (x.l ++ x.j)) (lsF It.c (x.l ++ x.j))),
                                            some (Blk.arr (3 : Nat) (List.length x.sent) (lsF It.c x.sent))]))))))))))))
                  (Tree.chk true
                    (Tree.chk
                      (cl
                        (List.length x.l ≤ (1000000000 : Nat) ∧
                          ∃ l junk,
                            List.length x.l = List.length l ∧
                              List.length (x.l ++ x.j) = List.length (l ++ junk) ∧
                                ∀ (e : Nat), lsF It.c (x.l ++ x.j) e = It.c (List.getD (l ++ junk) e default)))
                      (Tree.br (decide (x.mo < (↑(List.length x.l) : Int)))
                        (Tree.leaf
                          (Out.mk AEx.ret
                            [AV.v (Value.int IntKind.i64 x.mo), AV.sl (5 : Nat) (List.length x.acts) (lsF Act.c x.acts),
                              AV.ptr (0 : Nat) (0 : Nat), AV.hs (2 : Nat) (0 : Nat) (List.length x.sent),
                              AV.v (Value.int IntKind.i64 (↑x.i : Int)), AV.v (Value.bool false)]
                            [some
                                (Blk.row
                                  [AV.v (Value.int IntKind.i64 x.mo), AV.v (Value.int IntKind.i64 x.lo),
                                    AV.hs (1 : Nat) (0 : Nat) (List.length x.l)]),
                              some (Blk.arr (3 : Nat) (List.length (x.l ++ x.j)) (lsF It.c (x.l ++ x.j))),
                              some (Blk.arr (3 : Nat) (List.length x.sent) (lsF It.c x.sent))]))
                        (Tree.chk
                          (cl
                            (LeL
                                [AV.v (Value.int IntKind.i64 x.mo),
                                  AV.sl (5 : Nat) (List.length x.acts) (lsF Act.c x.acts), AV.ptr (0 : Nat) (0 : Nat),
                                  AV.hs (2 : Nat) (0 : Nat) (List.length x.sent),
                                  AV.v (Value.int IntKind.i64 (↑x.i : Int)),
                                  AV.hs (3 : Nat) (0 : Nat) (List.length x.l), AV.v (Value.int IntKind.i64 (0 : Int)),
                                  AV.any]
                                [AV.v (Value.int IntKind.i64 x.mo),
                                  AV.sl (5 : Nat) (List.length x.acts) (lsF Act.c x.acts), AV.ptr (0 : Nat) (0 : Nat),
                                  AV.hs (2 : Nat) (0 : Nat) (List.length x.sent),
                                  AV.v (Value.int IntKind.i64 (↑x.i : Int)),
                                  AV.hs (3 : Nat) (0 : Nat) (List.length x.l),
                                  AV.v (Value.int IntKind.i64 (↑(0 : Nat) : Int)), AV.any] ∧
                              LeH
                                [some
                                    (Blk.row
                                      [AV.v (Value.int IntKind.i64 x.mo), AV.v (Value.int IntKind.i64 x.lo),
                                        AV.hs (1 : Nat) (0 : Nat) (List.length x.l)]),
                                  some (Blk.arr (3 : Nat) (List.length (x.l ++ x.j)) (lsF It.c (x.l ++ x.j))),
                                  some (Blk.arr (3 : Nat) (List.length x.sent) (lsF It.c x.sent)),
                                  some (Blk.arr (3 : Nat) (List.length x.l) (lsF It.c (x.l ++ x.j)))]
                                [some
                                    (Blk.row
                                      [AV.v (Value.int IntKind.i64 x.mo), AV.v (Value.int IntKind.i64 x.lo),
                                        AV.hs (1 : Nat) (0 : Nat) (List.length x.l)]),
                                  some (Blk.arr (3 : Nat) (List.length (x.l ++ x.j)) (lsF It.c (x.l ++ x.j))),
                                  some (Blk.arr (3 : Nat) (List.length x.sent) (lsF It.c x.sent)),
                                  some (Blk.arr (3 : Nat) (List.length x.l) (lsF It.c (x.l ++ x.j)))]))
                          (Tree.leaf
                            (Out.mk AEx.normal
                              [AV.v (Value.int IntKind.i64 x.mo),
                                AV.sl (5 : Nat) (List.length x.acts) (lsF Act.c x.acts), AV.ptr (0 : Nat) (0 : Nat),
                                AV.hs (2 : Nat) (0 : Nat) (List.length x.sent),
                                AV.v (Value.int IntKind.i64 (IntKind.wrap IntKind.i64 ((↑x.i : Int) + (1 : Int)))),
                                AV.any]
                              [some
                                  (Blk.row
                                    [AV.v (Value.int IntKind.i64 x.mo), AV.v (Value.int IntKind.i64 x.lo),
                                      AV.hs (1 : Nat) (0 : Nat) (List.length x.l)]),
                                some (Blk.arr (3 : Nat) (List.length (x.l ++ x.j)) (lsF It.c (x.l ++ x.j))),
                                some (Blk.arr (3 : Nat) (List.length x.sent) (lsF It.c x.sent))])))))))))
            (Tree.br (decide ((List.getD x.acts x.i default).k = (2 : Int)))
              (Tree.chk (decide ((0 : Int) ≤ (↑x.i : Int)) && decide ((↑x.i : Int) < (↑(List.length x.acts) : Int)))
                Tree.fail)
              (Tree.chk true
                (Tree.chk
                  (cl
                    (List.length x.l ≤ (1000000000 : Nat) ∧
                      ∃ l junk,
                        List.length x.l = List.length l ∧
                          List.length (x.l ++ x.j) = List.length (l ++ junk) ∧
                            ∀ (e : Nat), lsF It.c (x.l ++ x.j) e = It.c (List.getD (l ++ junk) e default)))
                  (Tree.br (decide (x.mo < (↑(List.length x.l) : Int)))
                    (Tree.leaf
                      (Out.mk AEx.ret
                        [AV.v (Value.int IntKind.i64 x.mo), AV.sl (5 : Nat) (List.length x.acts) (lsF Act.c x.acts),
                          AV.ptr (0 : Nat) (0 : Nat), AV.hs (2 : Nat) (0 : Nat) (List.length x.sent),
                          AV.v (Value.int IntKind.i64 (↑x.i : Int)), AV.v (Value.bool false)]
                        [some
                            (Blk.row
                              [AV.v (Value.int IntKind.i64 x.mo), AV.v (Value.int IntKind.i64 x.lo),
                                AV.hs (1 : Nat) (0 : Nat) (List.length x.l)]),
                          some (Blk.arr (3 : Nat) (List.length (x.l ++ x.j)) (lsF It.c (x.l ++ x.j))),
                          some (Blk.arr (3 : Nat) (List.length x.sent) (lsF It.c x.sent))]))
                    (Tree.chk
                      (cl
                        (LeL
                            [AV.v (Value.int IntKind.i64 x.mo), AV.sl (5 : Nat) (List.length x.acts) (lsF Act.c x.acts),
                              AV.ptr (0 : Nat) (0 : Nat), AV.hs (2 : Nat) (0 : Nat) (List.length x.sent),
                              AV.v (Value.int IntKind.i64 (↑x.i : Int)), AV.hs (3 : Nat) (0 : Nat) (List.length x.l),
                              AV.v (Value.int IntKind.i64 (0 : Int)), AV.any]
                            [AV.v (Value.int IntKind.i64 x.mo), AV.sl (5 : Nat) (List.length x.acts) (lsF Act.c x.acts),
                              AV.ptr (0 : Nat) (0 : Nat), AV.hs (2 : Nat) (0 : Nat) (List.length x.sent),
                              AV.v (Value.int IntKind.i64 (↑x.i : Int)), AV.hs (3 : Nat) (0 : Nat) (List.length x.l),
                              AV.v (Value.int IntKind.i64 (↑(0 : Nat) : Int)), AV.any] ∧
                          LeH
                            [some
                                (Blk.row
                                  [AV.v (Value.int IntKind.i64 x.mo), AV.v (Value.int IntKind.i64 x.lo),
                                    AV.hs (1 : Nat) (0 : Nat) (List.length x.l)]),
                              some (Blk.arr (3 : Nat) (List.length (x.l ++ x.j)) (lsF It.c (x.l ++ x.j))),
                              some (Blk.arr (3 : Nat) (List.length x.sent) (lsF It.c x.sent)),
                              some (Blk.arr (3 : Nat) (List.length x.l) (lsF It.c (x.l ++ x.j)))]
                            [some
                                (Blk.row
                                  [AV.v (Value.int IntKind.i64 x.mo), AV.v (Value.int IntKind.i64 x.lo),
                                    AV.hs (1 : Nat) (0 : Nat) (List.length x.l)]),
                              some (Blk.arr (3 : Nat) (List.length (x.l ++ x.j)) (lsF It.c (x.l ++ x.j))),
                              some (Blk.arr (3 : Nat) (List.length x.sent) (lsF It.c x.sent)),
                              some (Blk.arr (3 : Nat) (List.length x.l) (lsF It.c (x.l ++ x.j)))]))
                      (Tree.leaf
                        (Out.mk AEx.normal
                          [AV.v (Value.int IntKind.i64 x.mo), AV.sl (5 : Nat) (List.length x.acts) (lsF Act.c x.acts),
                            AV.ptr (0 : Nat) (0 : Nat), AV.hs (2 : Nat) (0 : Nat) (List.length x.sent),
                            AV.v (Value.int IntKind.i64 (IntKind.wrap IntKind.i64 ((↑x.i : Int) + (1 : Int)))), AV.any]
                          [some
                              (Blk.row
                                [AV.v (Value.int IntKind.i64 x.mo), AV.v (Value.int IntKind.i64 x.lo),
                                  AV.hs (1 : Nat) (0 : Nat) (List.length x.l)]),
                            some (Blk.arr (3 : Nat) (List.length (x.l ++ x.j)) (lsF It.c (x.l ++ x.j))),
                            some (Blk.arr (3 : Nat) (List.length x.sent) (lsF It.c x.sent))]))))))))))))
  (Tree.leaf
    (Out.mk (AEx.exit (0 : Nat))
      [AV.v (Value.int IntKind.i64 x.mo), AV.sl (5 : Nat) (List.length x.acts) (lsF Act.c x.acts),
        AV.ptr (0 : Nat) (0 : Nat), AV.hs (2 : Nat) (0 : Nat) (List.length x.sent),
        AV.v (Value.int IntKind.i64 (↑x.i : Int)), AV.any]
      [some
          (Blk.row
            [AV.v (Value.int IntKind.i64 x.mo), AV.v (Value.int IntKind.i64 x.lo),
              AV.hs (1 : Nat) (0 : Nat) (List.length x.l)]),
        some (Blk.arr (3 : Nat) (List.length (x.l ++ x.j)) (lsF It.c (x.l ++ x.j))),
        some (Blk.arr (3 : Nat) (List.length x.sent) (lsF It.c x.sent))])) := by kernel_rfl
theorem r5take (x : X5) (p : Nat) (h : p < x.l.length) (hs' : x.l.length ≤ 999999999) : roundE (P := Try.prog) (Γ := Γn) [cItems, S.c10, CT.at 11 (ansTake (i := p) (mo := x.mo) (lo := x.lo) (l := x.l) (junk := x.j) h hs')] (L51 { x with l := x.l.eraseIdx p, j := default :: x.j }) false 0 0 (lp5 0) lv51 nl51 146 (S51 x).1 (S51 x).2 =
  Tree.br (decide ((↑x.i : Int) < (↑(List.length x.acts) : Int)))
  (Tree.chk true
    (Tree.chk
      (cl
        (List.length x.l ≤ (1000000000 : Nat) ∧
          ∃ l junk,
            List.length x.l = List.length l ∧
              List.length (x.l ++ x.j) = List.length (l ++ junk) ∧
                ∀ (e : Nat), lsF It.c (x.l ++ x.j) e = It.c (List.getD (l ++ junk) e default)))
      (Tree.chk (decide ((0 : Int) ≤ (↑x.i : Int)) && decide ((↑x.i : Int) < (↑(List.length x.acts) : Int)))
        (Tree.br (decide ((List.getD x.acts x.i default).k = (0 : Int)))
          (Tree.chk (decide ((0 : Int) ≤ (↑x.i : Int)) && decide ((↑x.i : Int) < (↑(List.length x.acts) : Int)))
            Tree.fail)
          (Tree.br (decide ((List.getD x.acts x.i default).k = (1 : Int)))
            (Tree.chk (decide ((0 : Int) ≤ (↑x.i : Int)) && decide ((↑x.i : Int) < (↑(List.length x.acts) : Int)))
              (Tree.chk
                (cl
                  (LeL [AV.ptr (0 : Nat) (0 : Nat), AV.v (Value.int IntKind.i64 (List.getD x.acts x.i default).i)]
                      [AV.ptr (0 : Nat) (0 : Nat), AV.v (Value.int IntKind.i64 (↑p : Int))] ∧
                    LeH
                      [some
                          (Blk.row
                            [AV.v (Value.int IntKind.i64 x.mo), AV.v (Value.int IntKind.i64 x.lo),
                              AV.hs (1 : Nat) (0 : Nat) (List.length x.l)]),
                        some (Blk.arr (3 : Nat) (List.length (x.l ++ x.j)) (lsF It.c (x.l ++ x.j)))]
                      [some
                          (Blk.row
                            [AV.v (Value.int IntKind.i64 x.mo), AV.v (Value.int IntKind.i64 x.lo),
                              AV.hs (1 : Nat) (0 : Nat) (List.length x.l)]),
                        some (Blk.arr (3 : Nat) (List.length (x.l ++ x.j)) (lsF It.c (x.l ++ x.j)))]))
                (Tree.br true
                  (Tree.chk (decide ((0 : Int) ≤ (↑x.i : Int)) && decide ((↑x.i : Int) < (↑(List.length x.acts) : Int)))
                    (Tree.br (decide ((↑(List.length x.l) : Int) ≤ (List.getD x.acts x.i default).i))
                      (Tree.leaf
                        (Out.mk AEx.ret
                          [AV.v (Value.int IntKind.i64 x.mo), AV.sl (5 : Nat) (List.length x.acts) (lsF Act.c x.acts),
                            AV.ptr (0 : Nat) (0 : Nat), AV.hs (2 : Nat) (0 : Nat) (List.length x.sent),
                            AV.v (Value.int IntKind.i64 (↑x.i : Int)), AV.v (Value.bool false)]
                          [some
                              (Blk.row
                                [AV.v (Value.int IntKind.i64 x.mo), AV.v (Value.int IntKind.i64 x.lo),
                                  AV.hs (1 : Nat) (0 : Nat) (List.length (List.eraseIdx x.l p))]),
                            some
                              (Blk.arr (3 : Nat) (List.length (List.eraseIdx x.l p ++ default :: x.j))
                                (lsF It.c (List.eraseIdx x.l p ++ default :: x.j))),
                            some (Blk.arr (3 : Nat) (List.length x.sent) (lsF It.c x.sent))]))
                      (Tree.chk
                        (decide ((0 : Int) ≤ (↑x.i : Int)) && decide ((↑x.i : Int) < (↑(List.length x.acts) : Int)))
                        (Tree.chk
                          (decide ((0 : Int) ≤ (List.getD x.acts x.i default).i) &&
                            decide ((List.getD x.acts x.i default).i < (↑(List.length x.l) : Int)))
                          (Tree.br
                            (!(decide
                                  ((List.getD x.l p default).a =
                                    (List.getD (x.l ++ x.j) ((0 : Nat) + Int.toNat (List.getD x.acts x.i default).i)
                                        default).a) &&
                                (decide
                                    ((List.getD x.l p default).b =
                                      (List.getD (x.l ++ x.j) ((0 : Nat) + Int.toNat (List.getD x.acts x.i default).i)
                                          default).b) &&
                                  decide
                                    ((List.getD x.l p default).t =
                                      (List.getD (x.l ++ x.j) ((0 : Nat) + Int.toNat (List.getD x.acts x.i default).i)
                                          default).t))))
                            (Tree.leaf
                              (Out.mk AEx.ret
                                [AV.v (Value.int IntKind.i64 x.mo),
                                  AV.sl (5 : Nat) (List.length x.acts) (lsF Act.c x.acts), AV.ptr (0 : Nat) (0 : Nat),
                                  AV.hs (2 : Nat) (0 : Nat) (List.length x.sent),
                                  AV.v (Value.int IntKind.i64 (↑x.i : Int)), AV.v (Value.bool false)]
                                [some
                                    (Blk.row
                                      [AV.v (Value.int IntKind.i64 x.mo), AV.v (Value.int IntKind.i64 x.lo),
                                        AV.hs (1 : Nat) (0 : Nat) (List.length (List.eraseIdx x.l p))]),
                                  some
                                    (Blk.arr (3 : Nat) (List.length (List.eraseIdx x.l p ++ default :: x.j))
                                      (lsF It.c (List.eraseIdx x.l p ++ default :: x.j))),
                                  some (Blk.arr (3 : Nat) (List.length x.sent) (lsF It.c x.sent))]))
                            (Tree.br
                              (!decide
                                  ((↑(List.length (List.eraseIdx x.l p)) : Int) =
                                    IntKind.wrap IntKind.i64 ((↑(List.length x.l) : Int) - (1 : Int))))
                              (Tree.leaf
                                (Out.mk AEx.ret
                                  [AV.v (Value.int IntKind.i64 x.mo),
                                    AV.sl (5 : Nat) (List.length x.acts) (lsF Act.c x.acts), AV.ptr (0 : Nat) (0 : Nat),
                                    AV.hs (2 : Nat) (0 : Nat) (List.length x.sent),
                                    AV.v (Value.int IntKind.i64 (↑x.i : Int)), AV.v (Value.bool false)]
                                  [some
                                      (Blk.row
                                        [AV.v (Value.int IntKind.i64 x.mo), AV.v (Value.int IntKind.i64 x.lo),
                                          AV.hs (1 : Nat) (0 : Nat) (List.length (List.eraseIdx x.l p))]),
                                    some
                                      (Blk.arr (3 : Nat) (List.length (List.eraseIdx x.l p ++ default :: x.j))
                                        (lsF It.c (List.eraseIdx x.l p ++ default :: x.j))),
                                    some (Blk.arr (3 : Nat) (List.length x.sent) (lsF It.c x.sent))]))
                              (Tree.chk true
                                (Tree.chk
                                  (cl
                                    (List.length (List.eraseIdx x.l p) ≤ (1000000000 : Nat) ∧
                                      ∃ l junk,
                                        List.length (List.eraseIdx x.l p) = List.length l ∧
                                          List.length (List.eraseIdx x.l p ++ default :: x.j) =
                                              List.length (l ++ junk) ∧
                                            ∀ (e : Nat),
                                              lsF It.c (List.eraseIdx x.l p ++ default :: x.j) e =
                                                It.c (List.getD (l ++ junk) e default)))
                                  (Tree.br (decide (x.mo < (↑(List.length (List.eraseIdx x.l p)) : Int)))
                                    (Tree.leaf
                                      (Out.mk AEx.ret
                                        [AV.v (Value.int IntKind.i64 x.mo),
                                          AV.sl (5 : Nat) (List.length x.acts) (lsF Act.c x.acts),
                                          AV.ptr (0 : Nat) (0 : Nat), AV.hs (2 : Nat) (0 : Nat) (List.length x.sent),
                                          AV.v (Value.int IntKind.i64 (↑x.i : Int)), AV.v (Value.bool false)]
                                        [some
                                            (Blk.row
                                              [AV.v (Value.int IntKind.i64 x.mo), AV.v (Value.int IntKind.i64 x.lo),
                                                AV.hs (1 : Nat) (0 : Nat) (List.length (List.eraseIdx x.l p))]),
                                          some
                                            (Blk.arr (3 : Nat) (List.length (List.eraseIdx x.l p ++ default :: x.j))
                                              (lsF It.c (List.eraseIdx x.l p ++ default :: x.j))),
                                          some (Blk.arr (3 : Nat) (List.length x.sent) (lsF It.c x.sent))]))
                                    (Tree.chk
                                      (cl
                                        (LeL
                                            [AV.v (Value.int IntKind.i64 x.mo),
                                              AV.sl (5 : Nat) (List.length x.acts) (lsF Act.c x.acts),
                                              AV.ptr (0 : Nat) (0 : Nat),
                                              AV.hs (2 : Nat) (0 : Nat) (List.length x.sent),
                                              AV.v (Value.int IntKind.i64 (↑x.i : Int)),
                                              AV.hs (3 : Nat) (0 : Nat) (List.length (List.eraseIdx x.l p)),
                                              AV.v (Value.int IntKind.i64 (0 : Int)), AV.any]
                                            [AV.v (Value.int IntKind.i64 x.mo),
                                              AV.sl (5 : Nat)
                                                (List.length
                                                  (X5.mk x.mo x.acts x.lo (List.eraseIdx x.l p) (default :: x.j) x.sent
                                                      x.i).acts)
                                                (lsF Act.c
                                                  (X5.mk x.mo x.acts x.lo (List.eraseIdx x.l p) (default :: x.j) x.sent
                                                      x.i).acts),
                                              AV.ptr (0 : Nat) (0 : Nat),
                                              AV.hs (2 : Nat) (0 : Nat)
                                                (List.length
                                                  (X5.mk x.mo x.acts x.lo (List.eraseIdx x.l p) (default :: x.j) x.sent
                                                      x.i).sent),
                                              AV.v (Value.int IntKind.i64 (↑x.i : Int)),
                                              AV.hs (3 : Nat) (0 : Nat)
                                                (List.length
                                                  (X5.mk x.mo x.acts x.lo (List.eraseIdx x.l p) (default :: x.j) x.sent
                                                      x.i).l),
                                              AV.v (Value.int IntKind.i64 (↑(0 : Nat) : Int)), AV.any] ∧
                                          LeH
                                            [some
                                                (Blk.row
                                                  [AV.v (Value.int IntKind.i64 x.mo), AV.v (Value.int IntKind.i64 x.lo),
                                                    AV.hs (1 : Nat) (0 : Nat) (List.length (List.eraseIdx x.l p))]),
                                              some
                                                (Blk.arr (3 : Nat) (List.length (List.eraseIdx x.l p ++ default :: x.j))
                                                  (lsF It.c (List.eraseIdx x.l p ++ default :: x.j))),
                                              some (Blk.arr (3 : Nat) (List.length x.sent) (lsF It.c x.sent)),
                                              some
                                                (Blk.arr (3 : Nat) (List.length (List.eraseIdx x.l p))
                                                  (lsF It.c (List.eraseIdx x.l p ++ default :: x.j)))]
                                            [some
                                                (Blk.row
                                                  [AV.v (Value.int IntKind.i64 x.mo), AV.v (Value.int IntKind.i64 x.lo),
                                                    AV.hs (1 : Nat) (0 : Nat)
                                                      (List.length
                                                        (X5.mk x.mo x.acts x.lo (List.eraseIdx x.l p) (default :: x.j)
                                                            x.sent x.i).l)]),
                                              some
                                                (Blk.arr (3 : Nat)
                                                  (List.length
                                                    ((X5.mk x.mo x.acts x.lo (List.eraseIdx x.l p) (default :: x.j)
                                                          x.sent x.i).l ++
                                                      (X5.mk x.mo x.acts x.lo (List.eraseIdx x.l p) (default :: x.j)
                                                          x.sent x.i).j))
                                                  (lsF It.c
                                                    ((X5.mk x.mo x.acts x.lo (List.eraseIdx x.l p) (default :: x.j)
                                                          x.sent x.i).l ++
                                                      (X5.mk x.mo x.acts x.lo (List.eraseIdx x.l p) (default :: x.j)
                                                          x.sent x.i).j))),
                                              some
                                                (Blk.arr (3 : Nat)
                                                  (List.length
                                                    (X5.mk x.mo x.acts x.lo (List.eraseIdx x.l p) (default :: x.j)
                                                        x.sent x.i).sent)
                                                  (lsF It.c
                                                    (X5.mk x.mo x.acts x.lo (List.eraseIdx x.l p) (default :: x.j)
                                                        x.sent x.i).sent)),
                                              some
                                                (Blk.arr (3 : Nat)
                                                  (List.length
                                                    (X5.mk x.mo x.acts x.lo (List.eraseIdx x.l p) (default :: x.j)
                                                        x.sent x.i).l)
                                                  (lsF It.c
                                                    ((X5.mk x.mo x.acts x.lo (List.eraseIdx x.l p) (default :: x.j)
                                                          x.sent x.i).l ++
                                                      (X5.mk x.mo x.acts x.lo (List.eraseIdx x.l p) (default :: x.j)
                                                          x.sent x.i).j)))]))
                                      (Tree.leaf
                                        (Out.mk AEx.normal
                                          [AV.v (Value.int IntKind.i64 x.mo),
                                            AV.sl (5 : Nat)
                                              (List.length
                                                (X5.mk x.mo x.acts x.lo (List.eraseIdx x.l p) (default :: x.j) x.sent
                                                    x.i).acts)
                                              (lsF Act.c
                                                (X5.mk x.mo x.acts x.lo (List.eraseIdx x.l p) (default :: x.j) x.sent
                                                    x.i).acts),
                                            AV.ptr (0 : Nat) (0 : Nat),
                                            AV.hs (2 : Nat) (0 : Nat)
                                              (List.length
                                                (X5.mk x.mo x.acts x.lo (List.eraseIdx x.l p) (default :: x.j) x.sent
                                                    x.i).sent),
                                            AV.v
                                              (Value.int IntKind.i64
                                                (IntKind.wrap IntKind.i64 ((↑x.i : Int) + (1 : Int)))),
                                            AV.any]
                                          [some
                                              (Blk.row
                                                [AV.v (Value.int IntKind.i64 x.mo), AV.v (Value.int IntKind.i64 x.lo),
                                                  AV.hs (1 : Nat) (0 : Nat)
                                                    (List.length
                                                      (X5.mk x.mo x.acts x.lo (List.eraseIdx x.l p) (default :: x.j)
                                                          x.sent x.i).l)]),
                                            some
                                              (Blk.arr (3 : Nat)
                                                (List.length
                                                  ((X5.mk x.mo x.acts x.lo (List.eraseIdx x.l p) (default :: x.j) x.sent
                                                        x.i).l ++
                                                    (X5.mk x.mo x.acts x.lo (List.eraseIdx x.l p) (default :: x.j)
                                                        x.sent x.i).j))
                                                (lsF It.c
                                                  ((X5.mk x.mo x.acts x.lo (List.eraseIdx x.l p) (default :: x.j) x.sent
                                                        x.i).l ++
                                                    (X5.mk x.mo x.acts x.lo (List.eraseIdx x.l p) (default :: x.j)
                                                        x.sent x.i).j))),
                                            some
                                              (Blk.arr (3 : Nat)
                                                (List.length
                                                  (X5.mk x.mo x.acts x.lo (List.eraseIdx x.l p) (default :: x.j) x.sent
                                                      x.i).sent)
                                                (lsF It.c
                                                  (X5.mk x.mo x.acts x.lo (List.eraseIdx x.l p) (default :: x.j) x.sent
                                                      x.i).sent))]))))))))))))
                  (Tree.chk true
                    (Tree.chk
                      (cl
                        (List.length (List.eraseIdx x.l p) ≤ (1000000000 : Nat) ∧
                          ∃ l junk,
                            List.length (List.eraseIdx x.l p) = List.length l ∧
                              List.length (List.eraseIdx x.l p ++ default :: x.j) = List.length (l ++ junk) ∧
                                ∀ (e : Nat),
                                  lsF It.c (List.eraseIdx x.l p ++ default :: x.j) e =
                                    It.c (List.getD (l ++ junk) e default)))
                      (Tree.br (decide (x.mo < (↑(List.length (List.eraseIdx x.l p)) : Int)))
                        (Tree.leaf
                          (Out.mk AEx.ret
                            [AV.v (Value.int IntKind.i64 x.mo), AV.sl (5 : Nat) (List.length x.acts) (lsF Act.c x.acts),
                              AV.ptr (0 : Nat) (0 : Nat), AV.hs (2 : Nat) (0 : Nat) (List.length x.sent),
                              AV.v (Value.int IntKind.i64 (↑x.i : Int)), AV.v (Value.bool false)]
                            [some
                                (Blk.row
                                  [AV.v (Value.int IntKind.i64 x.mo), AV.v (Value.int IntKind.i64 x.lo),
                                    AV.hs (1 : Nat) (0 : Nat) (List.length (List.eraseIdx x.l p))]),
                              some
                                (Blk.arr (3 : Nat) (List.length (List.eraseIdx x.l p ++ default :: x.j))
                                  (lsF It.c (List.eraseIdx x.l p ++ default :: x.j))),
                              some (Blk.arr (3 : Nat) (List.length x.sent) (lsF It.c x.sent))]))
                        (Tree.chk
                          (cl
                            (LeL
                                [AV.v (Value.int IntKind.i64 x.mo),
                                  AV.sl (5 : Nat) (List.length x.acts) (lsF Act.c x.acts), AV.ptr (0 : Nat) (0 : Nat),
                                  AV.hs (2 : Nat) (0 : Nat) (List.length x.sent),
                                  AV.v (Value.int IntKind.i64 (↑x.i : Int)),
                                  AV.hs (3 : Nat) (0 : Nat) (List.length (List.eraseIdx x.l p)),
                                  AV.v (Value.int IntKind.i64 (0 : Int)), AV.any]
                                [AV.v (Value.int IntKind.i64 x.mo),
                                  AV.sl (5 : Nat)
                                    (List.length
                                      (X5.mk x.mo x.acts x.lo (List.eraseIdx x.l p) (default :: x.j) x.sent x.i).acts)
                                    (lsF Act.c
                                      (X5.mk x.mo x.acts x.lo (List.eraseIdx x.l p) (default :: x.j) x.sent x.i).acts),
                                  AV.ptr (0 : Nat) (0 : Nat),
                                  AV.hs (2 : Nat) (0 : Nat)
                                    (List.length
                                      (X5.mk x.mo x.acts x.lo (List.eraseIdx x.l p) (default :: x.j) x.sent x.i).sent),
                                  AV.v (Value.int IntKind.i64 (↑x.i : Int)),
                                  AV.hs (3 : Nat) (0 : Nat)
                                    (List.length
                                      (X5.mk x.mo x.acts x.lo (List.eraseIdx x.l p) (default :: x.j) x.sent x.i).l),
                                  AV.v (Value.int IntKind.i64 (↑(0 : Nat) : Int)), AV.any] ∧
                              LeH
                                [some
                                    (Blk.row
                                      [AV.v (Value.int IntKind.i64 x.mo), AV.v (Value.int IntKind.i64 x.lo),
                                        AV.hs (1 : Nat) (0 : Nat) (List.length (List.eraseIdx x.l p))]),
                                  some
                                    (Blk.arr (3 : Nat) (List.length (List.eraseIdx x.l p ++ default :: x.j))
                                      (lsF It.c (List.eraseIdx x.l p ++ default :: x.j))),
                                  some (Blk.arr (3 : Nat) (List.length x.sent) (lsF It.c x.sent)),
                                  some
                                    (Blk.arr (3 : Nat) (List.length (List.eraseIdx x.l p))
                                      (lsF It.c (List.eraseIdx x.l p ++ default :: x.j)))]
                                [some
                                    (Blk.row
                                      [AV.v (Value.int IntKind.i64 x.mo), AV.v (Value.int IntKind.i64 x.lo),
                                        AV.hs (1 : Nat) (0 : Nat)
                                          (List.length
                                            (X5.mk x.mo x.acts x.lo (List.eraseIdx x.l p) (default :: x.j) x.sent
                                                x.i).l)]),
                                  some
                                    (Blk.arr (3 : Nat)
                                      (List.length
                                        ((X5.mk x.mo x.acts x.lo (List.eraseIdx x.l p) (default :: x.j) x.sent x.i).l ++
                                          (X5.mk x.mo x.acts x.lo (List.eraseIdx x.l p) (default :: x.j) x.sent x.i).j))
                                      (lsF It.c
                                        ((X5.mk x.mo x.acts x.lo (List.eraseIdx x.l p) (default :: x.j) x.sent x.i).l ++
                                          (X5.mk x.mo x.acts x.lo (List.eraseIdx x.l p) (default :: x.j) x.sent
                                              x.i).j))),
                                  some
                                    (Blk.arr (3 : Nat)
                                      (List.length
                                        (X5.mk x.mo x.acts x.lo (List.eraseIdx x.l p) (default :: x.j) x.sent x.i).sent)
                                      (lsF It.c
                                        (X5.mk x.mo x.acts x.lo (List.eraseIdx x.l p) (default :: x.j) x.sent
                                            x.i).sent)),
                                  some
                                    (Blk.arr (3 : Nat)
                                      (List.length
                                        (X5.mk x.mo x.acts x.lo (List.eraseIdx x.l p) (default :: x.j) x.sent x.i).l)
                                      (lsF It.c
                                        ((X5.mk x.mo x.acts x.lo (List.eraseIdx x.l p) (default :: x.j) x.sent x.i).l ++
                                          (X5.mk x.mo x.acts x.lo (List.eraseIdx x.l p) (default :: x.j) x.sent
                                              x.i).j)))]))
                          (Tree.leaf
                            (Out.mk AEx.normal
                              [AV.v (Value.int IntKind.i64 x.mo),
                                AV.sl (5 : Nat)
                                  (List.length
                                    (X5.mk x.mo x.acts x.lo (List.eraseIdx x.l p) (default :: x.j) x.sent x.i).acts)
                                  (lsF Act.c
                                    (X5.mk x.mo x.acts x.lo (List.eraseIdx x.l p) (default :: x.j) x.sent x.i).acts),
                                AV.ptr (0 : Nat) (0 : Nat),
                                AV.hs (2 : Nat) (0 : Nat)
                                  (List.length
                                    (X5.mk x.mo x.acts x.lo (List.eraseIdx x.l p) (default :: x.j) x.sent x.i).sent),
                                AV.v (Value.int IntKind.i64 (IntKind.wrap IntKind.i64 ((↑x.i : Int) + (1 : Int)))),
                                AV.any]
                              [some
                                  (Blk.row
                                    [AV.v (Value.int IntKind.i64 x.mo), AV.v (Value.int IntKind.i64 x.lo),
                                      AV.hs (1 : Nat) (0 : Nat)
                                        (List.length
                                          (X5.mk x.mo x.acts x.lo (List.eraseIdx x.l p) (default :: x.j) x.sent
                                              x.i).l)]),
                                some
                                  (Blk.arr (3 : Nat)
                                    (List.length
                                      ((X5.mk x.mo x.acts x.lo (List.eraseIdx x.l p) (default :: x.j) x.sent x.i).l ++
                                        (X5.mk x.mo x.acts x.lo (List.eraseIdx x.l p) (default :: x.j) x.sent x.i).j))
                                    (lsF It.c
                                      ((X5.mk x.mo x.acts x.lo (List.eraseIdx x.l p) (default :: x.j) x.sent x.i).l ++
                                        (X5.mk x.mo x.acts x.lo (List.eraseIdx x.l p) (default :: x.j) x.sent x.i).j))),
                                some
                                  (Blk.arr (3 : Nat)
                                    (List.length
                                      (X5.mk x.mo x.acts x.lo (List.eraseIdx x.l p) (default :: x.j) x.sent x.i).sent)
                                    (lsF It.c
                                      (X5.mk x.mo x.acts x.lo (List.eraseIdx x.l p) (default :: x.j) x.sent
                                          x.i).sent))])))))))))
            (Tree.br (decide ((List.getD x.acts x.i default).k = (2 : Int)))
              (Tree.chk (decide ((0 : Int) ≤ (↑x.i : Int)) && decide ((↑x.i : Int) < (↑(List.length x.acts) : Int)))
                Tree.fail)
              (Tree.chk true
                (Tree.chk
                  (cl
                    (List.length x.l ≤ (1000000000 : Nat) ∧
                      ∃ l junk,
                        List.length x.l = List.length l ∧
                          List.length (x.l ++ x.j) = List.length (l ++ junk) ∧
                            ∀ (e : Nat), lsF It.c (x.l ++ x.j) e = It.c (List.getD (l ++ junk) e default)))
                  (Tree.br (decide (x.mo < (↑(List.length x.l) : Int)))
                    (Tree.leaf
                      (Out.mk AEx.ret
                        [AV.v (Value.int IntKind.i64 x.mo), AV.sl (5 : Nat) (List.length x.acts) (lsF Act.c x.acts),
                          AV.ptr (0 : Nat) (0 : Nat), AV.hs (2 : Nat) (0 : Nat) (List.length x.sent),
                          AV.v (Value.int IntKind.i64 (↑x.i : Int)), AV.v (Value.bool false)]
                        [some
                            (Blk.row
                              [AV.v (Value.int IntKind.i64 x.mo), AV.v (Value.int IntKind.i64 x.lo),
                                AV.hs (1 : Nat) (0 : Nat) (List.length x.l)]),
                          some (Blk.arr (3 : Nat) (List.length (x.l ++ x.j)) (lsF It.c (x.l ++ x.j))),
                          some (Blk.arr (3 : Nat) (List.length x.sent) (lsF It.c x.sent))]))
                    (Tree.chk
                      (cl
                        (LeL
                            [AV.v (Value.int IntKind.i64 x.mo), AV.sl (5 : Nat) (List.length x.acts) (lsF Act.c x.acts),
                              AV.ptr (0 : Nat) (0 : Nat), AV.hs (2 : Nat) (0 : Nat) (List.length x.sent),
                              AV.v (Value.int IntKind.i64 (↑x.i : Int)), AV.hs (3 : Nat) (0 : Nat) (List.length x.l),
                              AV.v (Value.int IntKind.i64 (0 : Int)), AV.any]
                            [AV.v (Value.int IntKind.i64 x.mo),
                              AV.sl (5 : Nat)
                                (List.length
                                  (X5.mk x.mo x.acts x.lo (List.eraseIdx x.l p) (default :: x.j) x.sent x.i).acts)
                                (lsF Act.c
                                  (X5.mk x.mo x.acts x.lo (List.eraseIdx x.l p) (default :: x.j) x.sent x.i).acts),
                              AV.ptr (0 : Nat) (0 : Nat),
                              AV.hs (2 : Nat) (0 : Nat)
                                (List.length
                                  (X5.mk x.mo x.acts x.lo (List.eraseIdx x.l p) (default :: x.j) x.sent x.i).sent),
                              AV.v (Value.int IntKind.i64 (↑x.i : Int)),
                              AV.hs (3 : Nat) (0 : Nat)
                                (List.length
                                  (X5.mk x.mo x.acts x.lo (List.eraseIdx x.l p) (default :: x.j) x.sent x.i).l),
                              AV.v (Value.int IntKind.i64 (↑(0 : Nat) : Int)), AV.any] ∧
                          LeH
                            [some
                                (Blk.row
                                  [AV.v (Value.int IntKind.i64 x.mo), AV.v (Value.int IntKind.i64 x.lo),
                                    AV.hs (1 : Nat) (0 : Nat) (List.length x.l)]),
                              some (Blk.arr (3 : Nat) (List.length (x.l ++ x.j)) (lsF It.c (x.l ++ x.j))),
                              some (Blk.arr (3 : Nat) (List.length x.sent) (lsF It.c x.sent)),
                              some (Blk.arr (3 : Nat) (List.length x.l) (lsF It.c (x.l ++ x.j)))]
                            [some
                                (Blk.row
                                  [AV.v (Value.int IntKind.i64 x.mo), AV.v (Value.int IntKind.i64 x.lo),
                                    AV.hs (1 : Nat) (0 : Nat)
                                      (List.length
                                        (X5.mk x.mo x.acts x.lo (List.eraseIdx x.l p) (default :: x.j) x.sent x.i).l)]),
                              some
                                (Blk.arr (3 : Nat)
                                  (List.length
                                    ((X5.mk x.mo x.acts x.lo (List.eraseIdx x.l p) (default :: x.j) x.sent x.i).l ++
                                      (X5.mk x.mo x.acts x.lo (List.eraseIdx x.l p) (default :: x.j) x.sent x.i).j))
                                  (lsF It.c
                                    ((X5.mk x.mo x.acts x.lo (List.eraseIdx x.l p) (default :: x.j) x.sent x.i).l ++
                                      (X5.mk x.mo x.acts x.lo (List.eraseIdx x.l p) (default :: x.j) x.sent x.i).j))),
                              some
                                (Blk.arr (3 : Nat)
                                  (List.length
                                    (X5.mk x.mo x.acts x.lo (List.eraseIdx x.l p) (default :: x.j) x.sent x.i).sent)
                                  (lsF It.c
                                    (X5.mk x.mo x.acts x.lo (List.eraseIdx x.l p) (default :: x.j) x.sent x.i).sent)),
                              some
                                (Blk.arr (3 : Nat)
                                  (List.length
                                    (X5.mk x.mo x.acts x.lo (List.eraseIdx x.l p) (default :: x.j) x.sent x.i).l)
                                  (lsF It.c
                                    ((X5.mk x.mo x.acts x.lo (List.eraseIdx x.l p) (default :: x.j) x.sent x.i).l ++
                                      (X5.mk x.mo x.acts x.lo (List.eraseIdx x.l p) (default :: x.j) x.sent x.i).j)))]))
                      (Tree.leaf
                        (Out.mk AEx.normal
                          [AV.v (Value.int IntKind.i64 x.mo),
                            AV.sl (5 : Nat)
                              (List.length
                                (X5.mk x.mo x.acts x.lo (List.eraseIdx x.l p) (default :: x.j) x.sent x.i).acts)
                              (lsF Act.c
                                (X5.mk x.mo x.acts x.lo (List.eraseIdx x.l p) (default :: x.j) x.sent x.i).acts),
                            AV.ptr (0 : Nat) (0 : Nat),
                            AV.hs (2 : Nat) (0 : Nat)
                              (List.length
                                (X5.mk x.mo x.acts x.lo (List.eraseIdx x.l p) (default :: x.j) x.sent x.i).sent),
                            AV.v (Value.int IntKind.i64 (IntKind.wrap IntKind.i64 ((↑x.i : Int) + (1 : Int)))), AV.any]
                          [some
                              (Blk.row
                                [AV.v (Value.int IntKind.i64 x.mo), AV.v (Value.int IntKind.i64 x.lo),
                                  AV.hs (1 : Nat) (0 : Nat)
                                    (List.length
                                      (X5.mk x.mo x.acts x.lo (List.eraseIdx x.l p) (default :: x.j) x.sent x.i).l)]),
                            some
                              (Blk.arr (3 : Nat)
                                (List.length
                                  ((X5.mk x.mo x.acts x.lo (List.eraseIdx x.l p) (default :: x.j) x.sent x.i).l ++
                                    (X5.mk x.mo x.acts x.lo (List.eraseIdx x.l p) (default :: x.j) x.sent x.i).j))
                                (lsF It.c
                                  ((X5.mk x.mo x.acts x.lo (List.eraseIdx x.l p) (default :: x.j) x.sent x.i).l ++
                                    (X5.mk x.mo x.acts x.lo (List.eraseIdx x.l p) (default :: x.j) x.sent x.i).j))),
                            some
                              (Blk.arr (3 : Nat)
                                (List.length
                                  (X5.mk x.mo x.acts x.lo (List.eraseIdx x.l p) (default :: x.j) x.sent x.i).sent)
                                (lsF It.c
                                  (X5.mk x.mo x.acts x.lo (List.eraseIdx x.l p) (default :: x.j) x.sent
                                      x.i).sent))]))))))))))))
  (Tree.leaf
    (Out.mk (AEx.exit (0 : Nat))
      [AV.v (Value.int IntKind.i64 x.mo), AV.sl (5 : Nat) (List.length x.acts) (lsF Act.c x.acts),
        AV.ptr (0 : Nat) (0 : Nat), AV.hs (2 : Nat) (0 : Nat) (List.length x.sent),
        AV.v (Value.int IntKind.i64 (↑x.i : Int)), AV.any]
      [some
          (Blk.row
            [AV.v (Value.int IntKind.i64 x.mo), AV.v (Value.int IntKind.i64 x.lo),
              AV.hs (1 : Nat) (0 : Nat) (List.length x.l)]),
        some (Blk.arr (3 : Nat) (List.length (x.l ++ x.j)) (lsF It.c (x.l ++ x.j))),
        some (Blk.arr (3 : Nat) (List.length x.sent) (lsF It.c x.sent))])) := by kernel_rfl
theorem r5dblNo (x : X5) (h : (x.acts.getD x.i default).i < 0 ∨ (x.l.length : Int) ≤ (x.acts.getD x.i default).i) : roundE (P := Try.prog) (Γ := Γn) [cItems, S.c10, CT.at 15 (ansDblNo (mo := x.mo) (lo := x.lo) (l := x.l) (junk := x.j) h)] (L51 x) false 0 0 (lp5 0) lv51 nl51 146 (S51 x).1 (S51 x).2 =
  Tree.br (decide ((↑x.i : Int) < (↑(List.length x.acts) : Int)))
  (Tree.chk true
    (Tree.chk
      (cl
        (List.length x.l ≤ (1000000000 : Nat) ∧
          ∃ l junk,
            List.length x.l = List.length l ∧
              List.length (x.l ++ x.j) = List.length (l ++ junk) ∧
                ∀ (e : Nat), lsF It.c (x.l ++ x.j) e = It.c (List.getD (l ++ junk) e default)))
      (Tree.chk (decide ((0 : Int) ≤ (↑x.i : Int)) && decide ((↑x.i : Int) < (↑(List.length x.acts) : Int)))
        (Tree.br (decide ((List.getD x.acts x.i default).k = (0 : Int)))
          (Tree.chk (decide ((0 : Int) ≤ (↑x.i : Int)) && decide ((↑x.i : Int) < (↑(List.length x.acts) : Int)))
            Tree.fail)
          (Tree.br (decide ((List.getD x.acts x.i default).k = (1 : Int)))
            (Tree.chk (decide ((0 : Int) ≤ (↑x.i : Int)) && decide ((↑x.i : Int) < (↑(List.length x.acts) : Int)))
              Tree.fail)
            (Tree.br (decide ((List.getD x.acts x.i default).k = (2 : Int)))
              (Tree.chk (decide ((0 : Int) ≤ (↑x.i : Int)) && decide ((↑x.i : Int) < (↑(List.length x.acts) : Int)))
                (Tree.chk
                  (cl
                    (LeL [AV.ptr (0 : Nat) (0 : Nat), AV.v (Value.int IntKind.i64 (List.getD x.acts x.i default).i)]
                        [AV.ptr (0 : Nat) (0 : Nat), AV.v (Value.int IntKind.i64 (List.getD x.acts x.i default).i)] ∧
                      LeH
                        [some
                            (Blk.row
                              [AV.v (Value.int IntKind.i64 x.mo), AV.v (Value.int IntKind.i64 x.lo),
                                AV.hs (1 : Nat) (0 : Nat) (List.length x.l)]),
                          some (Blk.arr (3 : Nat) (List.length (x.l ++ x.j)) (lsF It.c (x.l ++ x.j)))]
                        [some
                            (Blk.row
                              [AV.v (Value.int IntKind.i64 x.mo), AV.v (Value.int IntKind.i64 x.lo),
                                AV.hs (1 : Nat) (0 : Nat) (List.length x.l)]),
                          some (Blk.arr (3 : Nat) (List.length (x.l ++ x.j)) (lsF It.c (x.l ++ x.j)))]))
                  (Tree.chk true
                    (Tree.chk
                      (cl
                        (List.length x.l ≤ (1000000000 : Nat) ∧
                          ∃ l junk,
                            List.length x.l = List.length l ∧
                              List.length (x.l ++ x.j) = List.length (l ++ junk) ∧
                                ∀ (e : Nat), lsF It.c (x.l ++ x.j) e = It.c (List.getD (l ++ junk) e default)))
                      (Tree.br (decide (x.mo < (↑(List.length x.l) : Int)))
                        (Tree.leaf
                          (Out.mk AEx.ret
                            [AV.v (Value.int IntKind.i64 x.mo), AV.sl (5 : Nat) (List.length x.acts) (lsF Act.c x.acts),
                              AV.ptr (0 : Nat) (0 : Nat), AV.hs (2 : Nat) (0 : Nat) (List.length x.sent),
                              AV.v (Value.int IntKind.i64 (↑x.i : Int)), AV.v (Value.bool false)]
                            [some
                                (Blk.row
                                  [AV.v (Value.int IntKind.i64 x.mo), AV.v (Value.int IntKind.i64 x.lo),
                                    AV.hs (1 : Nat) (0 : Nat) (List.length x.l)]),
                              some (Blk.arr (3 : Nat) (List.length (x.l ++ x.j)) (lsF It.c (x.l ++ x.j))),
                              some (Blk.arr (3 : Nat) (List.length x.sent) (lsF It.c x.sent))]))
                        (Tree.chk
                          (cl
                            (LeL
                                [AV.v (Value.int IntKind.i64 x.mo),
                                  AV.sl (5 : Nat) (List.length x.acts) (lsF Act.c x.acts), AV.ptr (0 : Nat) (0 : Nat),
                                  AV.hs (2 : Nat) (0 : Nat) (List.length x.sent),
                                  AV.v (Value.int IntKind.i64 (↑x.i : Int)),
                                  AV.hs (3 : Nat) (0 : Nat) (List.length x.l), AV.v (Value.int IntKind.i64 (0 : Int)),
                                  AV.any]
                                [AV.v (Value.int IntKind.i64 x.mo),
                                  AV.sl (5 : Nat) (List.length x.acts) (lsF Act.c x.acts), AV.ptr (0 : Nat) (0 : Nat),
                                  AV.hs (2 : Nat) (0 : Nat) (List.length x.sent),
                                  AV.v (Value.int IntKind.i64 (↑x.i : Int)),
                                  AV.hs (3 : Nat) (0 : Nat) (List.length x.l),
                                  AV.v (Value.int IntKind.i64 (↑(0 : Nat) : Int)), AV.any] ∧
                              LeH
                                [some
                                    (Blk.row
                                      [AV.v (Value.int IntKind.i64 x.mo), AV.v (Value.int IntKind.i64 x.lo),
                                        AV.hs (1 : Nat) (0 : Nat) (List.length x.l)]),
                                  some (Blk.arr (3 : Nat) (List.length (x.l ++ x.j)) (lsF It.c (x.l ++ x.j))),
                                  some (Blk.arr (3 : Nat) (List.length x.sent) (lsF It.c x.sent)),
                                  some (Blk.arr (3 : Nat) (List.length x.l) (lsF It.c (x.l ++ x.j)))]
                                [some
                                    (Blk.row
                                      [AV.v (Value.int IntKind.i64 x.mo), AV.v (Value.int IntKind.i64 x.lo),
                                        AV.hs (1 : Nat) (0 : Nat) (List.length x.l)]),
                                  some (Blk.arr (3 : Nat) (List.length (x.l ++ x.j)) (lsF It.c (x.l ++ x.j))),
                                  some (Blk.arr (3 : Nat) (List.length x.sent) (lsF It.c x.sent)),
                                  some (Blk.arr (3 : Nat) (List.length x.l) (lsF It.c (x.l ++ x.j)))]))
                          (Tree.leaf
                            (Out.mk AEx.normal
                              [AV.v (Value.int IntKind.i64 x.mo),
                                AV.sl (5 : Nat) (List.length x.acts) (lsF Act.c x.acts), AV.ptr (0 : Nat) (0 : Nat),
                                AV.hs (2 : Nat) (0 : Nat) (List.length x.sent),
                                AV.v (Value.int IntKind.i64 (IntKind.wrap IntKind.i64 ((↑x.i : Int) + (1 : Int)))),
                                AV.any]
                              [some
                                  (Blk.row
                                    [AV.v (Value.int IntKind.i64 x.mo), AV.v (Value.int IntKind.i64 x.lo),
                                      AV.hs (1 : Nat) (0 : Nat) (List.length x.l)]),
                                some (Blk.arr (3 : Nat) (List.length (x.l ++ x.j)) (lsF It.c (x.l ++ x.j))),
                                some (Blk.arr (3 : Nat) (List.length x.sent) (lsF It.c x.sent))]))))))))
              (Tree.chk true
                (Tree.chk
                  (cl
                    (List.length x.l ≤ (1000000000 : Nat) ∧
                      ∃ l junk,
                        List.length x.l = List.length l ∧
                          List.length (x.l ++ x.j) = List.length (l ++ junk) ∧
                            ∀ (e : Nat), lsF It.c (x.l ++ x.j) e = It.c (List.getD (l ++ junk) e default)))
                  (Tree.br (decide (x.mo < (↑(List.length x.l) : Int)))
                    (Tree.leaf
                      (Out.mk AEx.ret
                        [AV.v (Value.int IntKind.i64 x.mo), AV.sl (5 : Nat) (List.length x.acts) (lsF Act.c x.acts),
                          AV.ptr (0 : Nat) (0 : Nat), AV.hs (2 : Nat) (0 : Nat) (List.length x.sent),
                          AV.v (Value.int IntKind.i64 (↑x.i : Int)), AV.v (Value.bool false)]
                        [some
                            (Blk.row
                              [AV.v (Value.int IntKind.i64 x.mo), AV.v (Value.int IntKind.i64 x.lo),
                                AV.hs (1 : Nat) (0 : Nat) (List.length x.l)]),
                          some (Blk.arr (3 : Nat) (List.length (x.l ++ x.j)) (lsF It.c (x.l ++ x.j))),
                          some (Blk.arr (3 : Nat) (List.length x.sent) (lsF It.c x.sent))]))
                    (Tree.chk
                      (cl
                        (LeL
                            [AV.v (Value.int IntKind.i64 x.mo), AV.sl (5 : Nat) (List.length x.acts) (lsF Act.c x.acts),
                              AV.ptr (0 : Nat) (0 : Nat), AV.hs (2 : Nat) (0 : Nat) (List.length x.sent),
                              AV.v (Value.int IntKind.i64 (↑x.i : Int)), AV.hs (3 : Nat) (0 : Nat) (List.length x.l),
                              AV.v (Value.int IntKind.i64 (0 : Int)), AV.any]
                            [AV.v (Value.int IntKind.i64 x.mo), AV.sl (5 : Nat) (List.length x.acts) (lsF Act.c x.acts),
                              AV.ptr (0 : Nat) (0 : Nat), AV.hs (2 : Nat) (0 : Nat) (List.length x.sent),
                              AV.v (Value.int IntKind.i64 (↑x.i : Int)), AV.hs (3 : Nat) (0 : Nat) (List.length x.l),
                              AV.v (Value.int IntKind.i64 (↑(0 : Nat) : Int)), AV.any] ∧
                          LeH
                            [some
                                (Blk.row
                                  [AV.v (Value.int IntKind.i64 x.mo), AV.v (Value.int IntKind.i64 x.lo),
                                    AV.hs (1 : Nat) (0 : Nat) (List.length x.l)]),
                              some (Blk.arr (3 : Nat) (List.length (x.l ++ x.j)) (lsF It.c (x.l ++ x.j))),
                              some (Blk.arr (3 : Nat) (List.length x.sent) (lsF It.c x.sent)),
                              some (Blk.arr (3 : Nat) (List.length x.l) (lsF It.c (x.l ++ x.j)))]
                            [some
                                (Blk.row
                                  [AV.v (Value.int IntKind.i64 x.mo), AV.v (Value.int IntKind.i64 x.lo),
                                    AV.hs (1 : Nat) (0 : Nat) (List.length x.l)]),
                              some (Blk.arr (3 : Nat) (List.length (x.l ++ x.j)) (lsF It.c (x.l ++ x.j))),
                              some (Blk.arr (3 : Nat) (List.length x.sent) (lsF It.c x.sent)),
                              some (Blk.arr (3 : Nat) (List.length x.l) (lsF It.c (x.l ++ x.j)))]))
                      (Tree.leaf
                        (Out.mk AEx.normal
                          [AV.v (Value.int IntKind.i64 x.mo), AV.sl (5 : Nat) (List.length x.acts) (lsF Act.c x.acts),
                            AV.ptr (0 : Nat) (0 : Nat), AV.hs (2 : Nat) (0 : Nat) (List.length x.sent),
                            AV.v (Value.int IntKind.i64 (IntKind.wrap IntKind.i64 ((↑x.i : Int) + (1 : Int)))), AV.any]
                          [some
                              (Blk.row
                                [AV.v (Value.int IntKind.i64 x.mo), AV.v (Value.int IntKind.i64 x.lo),
                                  AV.hs (1 : Nat) (0 : Nat) (List.length x.l)]),
                            some (Blk.arr (3 : Nat) (List.length (x.l ++ x.j)) (lsF It.c (x.l ++ x.j))),
                            some (Blk.arr (3 : Nat) (List.length x.sent) (lsF It.c x.sent))]))))))))))))
  (Tree.leaf
    (Out.mk (AEx.exit (0 : Nat))
      [AV.v (Value.int IntKind.i64 x.mo), AV.sl (5 : Nat) (List.length x.acts) (lsF Act.c x.acts),
        AV.ptr (0 : Nat) (0 : Nat), AV.hs (2 : Nat) (0 : Nat) (List.length x.sent),
        AV.v (Value.int IntKind.i64 (↑x.i : Int)), AV.any]
      [some
          (Blk.row
            [AV.v (Value.int IntKind.i64 x.mo), AV.v (Value.int IntKind.i64 x.lo),
              AV.hs (1 : Nat) (0 : Nat) (List.length x.l)]),
        some (Blk.arr (3 : Nat) (List.length (x.l ++ x.j)) (lsF It.c (x.l ++ x.j))),
        some (Blk.arr (3 : Nat) (List.length x.sent) (lsF It.c x.sent))])) := by kernel_rfl
theorem r5dblFull (x : X5) (p : Nat) (h : p < x.l.length) (h2 : (x.l.length : Int) = x.mo) (h0 : 0 ≤ x.lo) (h1 : x.lo ≤ 1000000000) : roundE (P := Try.prog) (Γ := Γn) [cItems, S.c10, CT.at 15 (ansDblFull (i := p) (mo := x.mo) (lo := x.lo) (l := x.l) (junk := x.j) h h2 h0 h1)] (L51 { x with lo := x.lo + 1 }) false 0 0 (lp5 0) lv51 nl51 146 (S51 x).1 (S51 x).2 =
  Tree.br (decide ((↑x.i : Int) < (↑(List.length x.acts) : Int)))
  (Tree.chk true
    (Tree.chk
      (cl
        (List.length x.l ≤ (1000000000 : Nat) ∧
          ∃ l junk,
            List.length x.l = List.length l ∧
              List.length (x.l ++ x.j) = List.length (l ++ junk) ∧
                ∀ (e : Nat), lsF It.c (x.l ++ x.j) e = It.c (List.getD (l ++ junk) e default)))
      (Tree.chk (decide ((0 : Int) ≤ (↑x.i : Int)) && decide ((↑x.i : Int) < (↑(List.length x.acts) : Int)))
        (Tree.br (decide ((List.getD x.acts x.i default).k = (0 : Int)))
          (Tree.chk (decide ((0 : Int) ≤ (↑x.i : Int)) && decide ((↑x.i : Int) < (↑(List.length x.acts) : Int)))
            Tree.fail)
          (Tree.br (decide ((List.getD x.acts x.i default).k = (1 : Int)))
            (Tree.chk (decide ((0 : Int) ≤ (↑x.i : Int)) && decide ((↑x.i : Int) < (↑(List.length x.acts) : Int)))
              Tree.fail)
            (Tree.br (decide ((List.getD x.acts x.i default).k = (2 : Int)))
              (Tree.chk (decide ((0 : Int) ≤ (↑x.i : Int)) && decide ((↑x.i : Int) < (↑(List.length x.acts) : Int)))
                (Tree.chk
                  (cl
                    (LeL [AV.ptr (0 : Nat) (0 : Nat), AV.v (Value.int IntKind.i64 (List.getD x.acts x.i default).i)]
                        [AV.ptr (0 : Nat) (0 : Nat), AV.v (Value.int IntKind.i64 (↑p : Int))] ∧
                      LeH
                        [some
                            (Blk.row
                              [AV.v (Value.int IntKind.i64 x.mo), AV.v (Value.int IntKind.i64 x.lo),
                                AV.hs (1 : Nat) (0 : Nat) (List.length x.l)]),
                          some (Blk.arr (3 : Nat) (List.length (x.l ++ x.j)) (lsF It.c (x.l ++ x.j)))]
                        [some
                            (Blk.row
                              [AV.v (Value.int IntKind.i64 x.mo), AV.v (Value.int IntKind.i64 x.lo),
                                AV.hs (1 : Nat) (0 : Nat) (List.length x.l)]),
                          some (Blk.arr (3 : Nat) (List.length (x.l ++ x.j)) (lsF It.c (x.l ++ x.j)))]))
                  (Tree.chk true
                    (Tree.chk
                      (cl
                        (List.length x.l ≤ (1000000000 : Nat) ∧
                          ∃ l junk,
                            List.length x.l = List.length l ∧
                              List.length (x.l ++ x.j) = List.length (l ++ junk) ∧
                                ∀ (e : Nat), lsF It.c (x.l ++ x.j) e = It.c (List.getD (l ++ junk) e default)))
                      (Tree.br (decide (x.mo < (↑(List.length x.l) : Int)))
                        (Tree.leaf
                          (Out.mk AEx.ret
                            [AV.v (Value.int IntKind.i64 x.mo), AV.sl (5 : Nat) (List.length x.acts) (lsF Act.c x.acts),
                              AV.ptr (0 : Nat) (0 : Nat), AV.hs (2 : Nat) (0 : Nat) (List.length x.sent),
                              AV.v (Value.int IntKind.i64 (↑x.i : Int)), AV.v (Value.bool false)]
                            [some
                                (Blk.row
                                  [AV.v (Value.int IntKind.i64 x.mo), AV.v (Value.int IntKind.i64 (x.lo + (1 : Int))),
                                    AV.hs (1 : Nat) (0 : Nat) (List.length x.l)]),
                              some (Blk.arr (3 : Nat) (List.length (x.l ++ x.j)) (lsF It.c (x.l ++ x.j))),
                              some (Blk.arr (3 : Nat) (List.length x.sent) (lsF It.c x.sent))]))
                        (Tree.chk
                          (cl
                            (LeL
                                [AV.v (Value.int IntKind.i64 x.mo),
                                  AV.sl (5 : Nat) (List.length x.acts) (lsF Act.c x.acts), AV.ptr (0 : Nat) (0 : Nat),
                                  AV.hs (2 : Nat) (0 : Nat) (List.length x.sent),
                                  AV.v (Value.int IntKind.i64 (↑x.i : Int)),
                                  AV.hs (3 : Nat) (0 : Nat) (List.length x.l), AV.v (Value.int IntKind.i64 (0 : Int)),
                                  AV.any]
                                [AV.v (Value.int IntKind.i64 x.mo),
                                  AV.sl (5 : Nat)
                                    (List.length (X5.mk x.mo x.acts (x.lo + (1 : Int)) x.l x.j x.sent x.i).acts)
                                    (lsF Act.c (X5.mk x.mo x.acts (x.lo + (1 : Int)) x.l x.j x.sent x.i).acts),
                                  AV.ptr (0 : Nat) (0 : Nat),
                                  AV.hs (2 : Nat) (0 : Nat)
                                    (List.length (X5.mk x.mo x.acts (x.lo + (1 : Int)) x.l x.j x.sent x.i).sent),
                                  AV.v (Value.int IntKind.i64 (↑x.i : Int)),
                                  AV.hs (3 : Nat) (0 : Nat)
                                    (List.length (X5.mk x.mo x.acts (x.lo + (1 : Int)) x.l x.j x.sent x.i).l),
                                  AV.v (Value.int IntKind.i64 (↑(0 : Nat) : Int)), AV.any] ∧
                              LeH
                                [some
                                    (Blk.row
                                      [AV.v (Value.int IntKind.i64 x.mo),
                                        AV.v (Value.int IntKind.i64 (x.lo + (1 : Int))),
                                        AV.hs (1 : Nat) (0 : Nat) (List.length x.l)]),
                                  some (Blk.arr (3 : Nat) (List.length (x.l ++ x.j)) (lsF It.c (x.l ++ x.j))),
                                  some (Blk.arr (3 : Nat) (List.length x.sent) (lsF It.c x.sent)),
                                  some (Blk.arr (3 : Nat) (List.length x.l) (lsF It.c (x.l ++ x.j)))]
                                [some
                                    (Blk.row
                                      [AV.v (Value.int IntKind.i64 x.mo),
                                        AV.v (Value.int IntKind.i64 (x.lo + (1 : Int))),
                                        AV.hs (1 : Nat) (0 : Nat)
                                          (List.length (X5.mk x.mo x.acts (x.lo + (1 : Int)) x.l x.j x.sent x.i).l)]),
                                  some
                                    (Blk.arr (3 : Nat)
                                      (List.length
                                        ((X5.mk x.mo x.acts (x.lo + (1 : Int)) x.l x.j x.sent x.i).l ++
                                          (X5.mk x.mo x.acts (x.lo + (1 : Int)) x.l x.j x.sent x.i).j))
                                      (lsF It.c
                                        ((X5.mk x.mo x.acts (x.lo + (1 : Int)) x.l x.j x.sent x.i).l ++
                                          (X5.mk x.mo x.acts (x.lo + (1 : Int)) x.l x.j x.sent x.i).j))),
                                  some
                                    (Blk.arr (3 : Nat)
                                      (List.length (X5.mk x.mo x.acts (x.lo + (1 : Int)) x.l x.j x.sent x.i).sent)
                                      (lsF It.c (X5.mk x.mo x.acts (x.lo + (1 : Int)) x.l x.j x.sent x.i).sent)),
                                  some
                                    (Blk.arr (3 : Nat)
                                      (List.length (X5.mk x.mo x.acts (x.lo + (1 : Int)) x.l x.j x.sent x.i).l)
                                      (lsF It.c
                                        ((X5.mk x.mo x.acts (x.lo + (1 : Int)) x.l x.j x.sent x.i).l ++
                                          (X5.mk x.mo x.acts (x.lo + (1 : Int)) x.l x.j x.sent x.i).j)))]))
                          (Tree.leaf
                            (Out.mk AEx.normal
                              [AV.v (Value.int IntKind.i64 x.mo),
                                AV.sl (5 : Nat)
                                  (List.length (X5.mk x.mo x.acts (x.lo + (1 : Int)) x.l x.j x.sent x.i).acts)
                                  (lsF Act.c (X5.mk x.mo x.acts (x.lo + (1 : Int)) x.l x.j x.sent x.i).acts),
                                AV.ptr (0 : Nat) (0 : Nat),
                                AV.hs (2 : Nat) (0 : Nat)
                                  (List.length (X5.mk x.mo x.acts (x.lo + (1 : Int)) x.l x.j x.sent x.i).sent),
                                AV.v (Value.int IntKind.i64 (IntKind.wrap IntKind.i64 ((↑x.i : Int) + (1 : Int)))),
                                AV.any]
                              [some
                                  (Blk.row
                                    [AV.v (Value.int IntKind.i64 x.mo), AV.v (Value.int IntKind.i64 (x.lo + (1 : Int))),
                                      AV.hs (1 : Nat) (0 : Nat)
                                        (List.length (X5.mk x.mo x.acts (x.lo + (1 : Int)) x.l x.j x.sent x.i).l)]),
                                some
                                  (Blk.arr (3 : Nat)
                                    (List.length
                                      ((X5.mk x.mo x.acts (x.lo + (1 : Int)) x.l x.j x.sent x.i).l ++
                                        (X5.mk x.mo x.acts (x.lo + (1 : Int)) x.l x.j x.sent x.i).j))
                                    (lsF It.c
                                      ((X5.mk x.mo x.acts (x.lo + (1 : Int)) x.l x.j x.sent x.i).l ++
                                        (X5.mk x.mo x.acts (x.lo + (1 : Int)) x.l x.j x.sent x.i).j))),
                                some
                                  (Blk.arr (3 : Nat)
                                    (List.length (X5.mk x.mo x.acts (x.lo + (1 : Int)) x.l x.j x.sent x.i).sent)
                                    (lsF It.c (X5.mk x.mo x.acts (x.lo + (1 : Int)) x.l x.j x.sent x.i).sent))]))))))))
              (Tree.chk true
                (Tree.chk
                  (cl
                    (List.length x.l ≤ (1000000000 : Nat) ∧
                      ∃ l junk,
                        List.length x.l = List.length l ∧
                          List.length (x.l ++ x.j) = List.length (l ++ junk) ∧
                            ∀ (e : Nat), lsF It.c (x.l ++ x.j) e = It.c (List.getD (l ++ junk) e default)))
                  (Tree.br (decide (x.mo < (↑(List.length x.l) : Int)))
                    (Tree.leaf
                      (Out.mk AEx.ret
                        [AV.v (Value.int IntKind.i64 x.mo), AV.sl (5 : Nat) (List.length x.acts) (lsF Act.c x.acts),
                          AV.ptr (0 : Nat) (0 : Nat), AV.hs (2 : Nat) (0 : Nat) (List.length x.sent),
                          AV.v (Value.int IntKind.i64 (↑x.i : Int)), AV.v (Value.bool false)]
                        [some
                            (Blk.row
                              [AV.v (Value.int IntKind.i64 x.mo), AV.v (Value.int IntKind.i64 x.lo),
                                AV.hs (1 : Nat) (0 : Nat) (List.length x.l)]),
                          some (Blk.arr (3 : Nat) (List.length (x.l ++ x.j)) (lsF It.c (x.l ++ x.j))),
                          some (Blk.arr (3 : Nat) (List.length x.sent) (lsF It.c x.sent))]))
                    (Tree.chk
                      (cl
                        (LeL
                            [AV.v (Value.int IntKind.i64 x.mo), AV.sl (5 : Nat) (List.length x.acts) (lsF Act.c x.acts),
                              AV.ptr (0 : Nat) (0 : Nat), AV.hs (2 : Nat) (0 : Nat) (List.length x.sent),
                              AV.v (Value.int IntKind.i64 (↑x.i : Int)), AV.hs (3 : Nat) (0 : Nat) (List.length x.l),
                              AV.v (Value.int IntKind.i64 (0 : Int)), AV.any]
                            [AV.v (Value.int IntKind.i64 x.mo),
                              AV.sl (5 : Nat)
                                (List.length (X5.mk x.mo x.acts (x.lo + (1 : Int)) x.l x.j x.sent x.i).acts)
                                (lsF Act.c (X5.mk x.mo x.acts (x.lo + (1 : Int)) x.l x.j x.sent x.i).acts),
                              AV.ptr (0 : Nat) (0 : Nat),
                              AV.hs (2 : Nat) (0 : Nat)
                                (List.length (X5.mk x.mo x.acts (x.lo + (1 : Int)) x.l x.j x.sent x.i).sent),
                              AV.v (Value.int IntKind.i64 (↑x.i : Int)),
                              AV.hs (3 : Nat) (0 : Nat)
                                (List.length (X5.mk x.mo x.acts (x.lo + (1 : Int)) x.l x.j x.sent x.i).l),
                              AV.v (Value.int IntKind.i64 (↑(0 : Nat) : Int)), AV.any] ∧
                          LeH
                            [some
                                (Blk.row
                                  [AV.v (Value.int IntKind.i64 x.mo), AV.v (Value.int IntKind.i64 x.lo),
                                    AV.hs (1 : Nat) (0 : Nat) (List.length x.l)]),
                              some (Blk.arr (3 : Nat) (List.length (x.l ++ x.j)) (lsF It.c (x.l ++ x.j))),
                              some (Blk.arr (3 : Nat) (List.length x.sent) (lsF It.c x.sent)),
                              some (Blk.arr (3 : Nat) (List.length x.l) (lsF It.c (x.l ++ x.j)))]
                            [some
                                (Blk.row
                                  [AV.v (Value.int IntKind.i64 x.mo), AV.v (Value.int IntKind.i64 (x.lo + (1 : Int))),
                                    AV.hs (1 : Nat) (0 : Nat)
                                      (List.length (X5.mk x.mo x.acts (x.lo + (1 : Int)) x.l x.j x.sent x.i).l)]),
                              some
                                (Blk.arr (3 : Nat)
                                  (List.length
                                    ((X5.mk x.mo x.acts (x.lo + (1 : Int)) x.l x.j x.sent x.i).l ++
                                      (X5.mk x.mo x.acts (x.lo + (1 : Int)) x.l x.j x.sent x.i).j))
                                  (lsF It.c
                                    ((X5.mk x.mo x.acts (x.lo + (1 : Int)) x.l x.j x.sent x.i).l ++
                                      (X5.mk x.mo x.acts (x.lo + (1 : Int)) x.l x.j x.sent x.i).j))),
                              some
                                (Blk.arr (3 : Nat)
                                  (List.length (X5.mk x.mo x.acts (x.lo + (1 : Int)) x.l x.j x.sent x.i).sent)
                                  (lsF It.c (X5.mk x.mo x.acts (x.lo + (1 : Int)) x.l x.j x.sent x.i).sent)),
                              some
                                (Blk.arr (3 : Nat)
                                  (List.length (X5.mk x.mo x.acts (x.lo + (1 : Int)) x.l x.j x.sent x.i).l)
                                  (lsF It.c
                                    ((X5.mk x.mo x.acts (x.lo + (1 : Int)) x.l x.j x.sent x.i).l ++
                                      (X5.mk x.mo x.acts (x.lo + (1 : Int)) x.l x.j x.sent x.i).j)))]))
                      (Tree.leaf
                        (Out.mk AEx.normal
                          [AV.v (Value.int IntKind.i64 x.mo),
                            AV.sl (5 : Nat) (List.length (X5.mk x.mo x.acts (x.lo + (1 : Int)) x.l x.j x.sent x.i).acts)
                              (lsF Act.c (X5.mk x.mo x.acts (x.lo + (1 : Int)) x.l x.j x.sent x.i).acts),
                            AV.ptr (0 : Nat) (0 : Nat),
                            AV.hs (2 : Nat) (0 : Nat)
                              (List.length (X5.mk x.mo x.acts (x.lo + (1 : Int)) x.l x.j x.sent x.i).sent),
                            AV.v (Value.int IntKind.i64 (IntKind.wrap IntKind.i64 ((↑x.i : Int) + (1 : Int)))), AV.any]
                          [some
                              (Blk.row
                                [AV.v (Value.int IntKind.i64 x.mo), AV.v (Value.int IntKind.i64 (x.lo + (1 : Int))),
                                  AV.hs (1 : Nat) (0 : Nat)
                                    (List.length (X5.mk x.mo x.acts (x.lo + (1 : Int)) x.l x.j x.sent x.i).l)]),
                            some
                              (Blk.arr (3 : Nat)
                                (List.length
                                  ((X5.mk x.mo x.acts (x.lo + (1 : Int)) x.l x.j x.sent x.i).l ++
                                    (X5.mk x.mo x.acts (x.lo + (1 : Int)) x.l x.j x.sent x.i).j))
                                (lsF It.c
                                  ((X5.mk x.mo x.acts (x.lo + (1 : Int)) x.l x.j x.sent x.i).l ++
                                    (X5.mk x.mo x.acts (x.lo + (1 : Int)) x.l x.j x.sent x.i).j))),
                            some
                              (Blk.arr (3 : Nat)
                                (List.length (X5.mk x.mo x.acts (x.lo + (1 : Int)) x.l x.j x.sent x.i).sent)
                                (lsF It.c (X5.mk x.mo x.acts (x.lo + (1 : Int)) x.l x.j x.sent x.i).sent))]))))))))))))
  (Tree.leaf
    (Out.mk (AEx.exit (0 : Nat))
      [AV.v (Value.int IntKind.i64 x.mo), AV.sl (5 : Nat) (List.length x.acts) (lsF Act.c x.acts),
        AV.ptr (0 : Nat) (0 : Nat), AV.hs (2 : Nat) (0 : Nat) (List.length x.sent),
        AV.v (Value.int IntKind.i64 (↑x.i : Int)), AV.any]
      [some
          (Blk.row
            [AV.v (Value.int IntKind.i64 x.mo), AV.v (Value.int IntKind.i64 x.lo),
              AV.hs (1 : Nat) (0 : Nat) (List.length x.l)]),
        some (Blk.arr (3 : Nat) (List.length (x.l ++ x.j)) (lsF It.c (x.l ++ x.j))),
        some (Blk.arr (3 : Nat) (List.length x.sent) (lsF It.c x.sent))])) := by kernel_rfl
theorem r5dblOk (x : X5) (p : Nat) (h : p < x.l.length) (h2 : (x.l.length : Int) ≠ x.mo) (hs' : x.l.length ≤ 999999999) : roundE (P := Try.prog) (Γ := Γn) [cItems, S.c10, CT.at 15 (ansDblOk (i := p) (mo := x.mo) (lo := x.lo) (l := x.l) (junk := x.j) h h2 hs')] (L51 { x with l := x.l ++ [x.l.getD p default], j := [] }) false 0 0 (lp5 0) lv51 nl51 146 (S51 x).1 (S51 x).2 =
  Tree.br (decide ((↑x.i : Int) < (↑(List.length x.acts) : Int)))
  (Tree.chk true
    (Tree.chk
      (cl
        (List.length x.l ≤ (1000000000 : Nat) ∧
          ∃ l junk,
            List.length x.l = List.length l ∧
              List.length (x.l ++ x.j) = List.length (l ++ junk) ∧
                ∀ (e : Nat), lsF It.c (x.l ++ x.j) e = It.c (List.getD (l ++ junk) e default)))
      (Tree.chk (decide ((0 : Int) ≤ (↑x.i : Int)) && decide ((↑x.i : Int) < (↑(List.length x.acts) : Int)))
        (Tree.br (decide ((List.getD x.acts x.i default).k = (0 : Int)))
          (Tree.chk (decide ((0 : Int) ≤ (↑x.i : Int)) && decide ((↑x.i : Int) < (↑(List.length x.acts) : Int)))
            Tree.fail)
          (Tree.br (decide ((List.getD x.acts x.i default).k = (1 : Int)))
            (Tree.chk (decide ((0 : Int) ≤ (↑x.i : Int)) && decide ((↑x.i : Int) < (↑(List.length x.acts) : Int)))
              Tree.fail)
            (Tree.br (decide ((List.getD x.acts x.i default).k = (2 : Int)))
              (Tree.chk (decide ((0 : Int) ≤ (↑x.i : Int)) && decide ((↑x.i : Int) < (↑(List.length x.acts) : Int)))
                (Tree.chk
                  (cl
                    (LeL [AV.ptr (0 : Nat) (0 : Nat), AV.v (Value.int IntKind.i64 (List.getD x.acts x.i default).i)]
                        [AV.ptr (0 : Nat) (0 : Nat), AV.v (Value.int IntKind.i64 (↑p : Int))] ∧
                      LeH
                        [some
                            (Blk.row
                              [AV.v (Value.int IntKind.i64 x.mo), AV.v (Value.int IntKind.i64 x.lo),
                                AV.hs (1 : Nat) (0 : Nat) (List.length x.l)]),
                          some (Blk.arr (3 : Nat) (List.length (x.l ++ x.j)) (lsF It.c (x.l ++ x.j)))]
                        [some
                            (Blk.row
                              [AV.v (Value.int IntKind.i64 x.mo), AV.v (Value.int IntKind.i64 x.lo),
                                AV.hs (1 : Nat) (0 : Nat) (List.length x.l)]),
                          some (Blk.arr (3 : Nat) (List.length (x.l ++ x.j)) (lsF It.c (x.l ++ x.j)))]))
                  (Tree.chk true
                    (Tree.chk
                      (cl
                        (List.length (x.l ++ [List.getD x.l p default]) ≤ (1000000000 : Nat) ∧
                          ∃ l junk,
                            List.length (x.l ++ [List.getD x.l p default]) = List.length l ∧
                              List.length (x.l ++ [List.getD x.l p default]) = List.length (l ++ junk) ∧
                                ∀ (e : Nat),
                                  lsF It.c (x.l ++ [List.getD x.l p default]) e =
                                    It.c (List.getD (l ++ junk) e default)))
                      (Tree.br (decide (x.mo < (↑(List.length (x.l ++ [List.getD x.l p default])) : Int)))
                        (Tree.leaf
                          (Out.mk AEx.ret
                            [AV.v (Value.int IntKind.i64 x.mo), AV.sl (5 : Nat) (List.length x.acts) (lsF Act.c x.acts),
                              AV.ptr (0 : Nat) (0 : Nat), AV.hs (2 : Nat) (0 : Nat) (List.length x.sent),
                              AV.v (Value.int IntKind.i64 (↑x.i : Int)), AV.v (Value.bool false)]
                            [some
                                (Blk.row
                                  [AV.v (Value.int IntKind.i64 x.mo), AV.v (Value.int IntKind.i64 x.lo),
                                    AV.hs (1 : Nat) (0 : Nat) (List.length (x.l ++ [List.getD x.l p default]))]),
                              some
                                (Blk.arr (3 : Nat) (List.length (x.l ++ [List.getD x.l p default]))
                                  (lsF It.c (x.l ++ [List.getD x.l p default]))),
                              some (Blk.arr (3 : Nat) (List.length x.sent) (lsF It.c x.sent))]))
                        (Tree.chk
                          (cl
                            (LeL
                                [AV.v (Value.int IntKind.i64 x.mo),
                                  AV.sl (5 : Nat) (List.length x.acts) (lsF Act.c x.acts), AV.ptr (0 : Nat) (0 : Nat),
                                  AV.hs (2 : Nat) (0 : Nat) (List.length x.sent),
                                  AV.v (Value.int IntKind.i64 (↑x.i : Int)),
                                  AV.hs (3 : Nat) (0 : Nat) (List.length (x.l ++ [List.getD x.l p default])),
                                  AV.v (Value.int IntKind.i64 (0 : Int)), AV.any]
                                [AV.v (Value.int IntKind.i64 x.mo),
                                  AV.sl (5 : Nat)
                                    (List.length
                                      (X5.mk x.mo x.acts x.lo (x.l ++ [List.getD x.l p default]) [] x.sent x.i).acts)
                                    (lsF Act.c
                                      (X5.mk x.mo x.acts x.lo (x.l ++ [List.getD x.l p default]) [] x.sent x.i).acts),
                                  AV.ptr (0 : Nat) (0 : Nat),
                                  AV.hs (2 : Nat) (0 : Nat)
                                    (List.length
                                      (X5.mk x.mo x.acts x.lo (x.l ++ [List.getD x.l p default]) [] x.sent x.i).sent),
                                  AV.v (Value.int IntKind.i64 (↑x.i : Int)),
                                  AV.hs (3 : Nat) (0 : Nat)
                                    (List.length
                                      (X5.mk x.mo x.acts x.lo (x.l ++ [List.getD x.l p default]) [] x.sent x.i).l),
                                  AV.v (Value.int IntKind.i64 (↑(0 : Nat) : Int)), AV.any] ∧
                              LeH
                                [some
                                    (Blk.row
                                      [AV.v (Value.int IntKind.i64 x.mo), AV.v (Value.int IntKind.i64 x.lo),
                                        AV.hs (1 : Nat) (0 : Nat) (List.length (x.l ++ [List.getD x.l p default]))]),
                                  some
                                    (Blk.arr (3 : Nat) (List.length (x.l ++ [List.getD x.l p default]))
                                      (lsF It.c (x.l ++ [List.getD x.l p default]))),
                                  some (Blk.arr (3 : Nat) (List.length x.sent) (lsF It.c x.sent)),
                                  some
                                    (Blk.arr (3 : Nat) (List.length (x.l ++ [List.getD x.l p default]))
                                      (lsF It.c (x.l ++ [List.getD x.l p default])))]
                                [some
                                    (Blk.row
                                      [AV.v (Value.int IntKind.i64 x.mo), AV.v (Value.int IntKind.i64 x.lo),
                                        AV.hs (1 : Nat) (0 : Nat)
                                          (List.length
                                            (X5.mk x.mo x.acts x.lo (x.l ++ [List.getD x.l p default]) [] x.sent
                                                x.i).l)]),
                                  some
                                    (Blk.arr (3 : Nat)
                                      (List.length
                                        ((X5.mk x.mo x.acts x.lo (x.l ++ [List.getD x.l p default]) [] x.sent x.i).l ++
                                          (X5.mk x.mo x.acts x.lo (x.l ++ [List.getD x.l p default]) [] x.sent x.i).j))
                                      (lsF It.c
                                        ((X5.mk x.mo x.acts x.lo (x.l ++ [List.getD x.l p default]) [] x.sent x.i).l ++
                                          (X5.mk x.mo x.acts x.lo (x.l ++ [List.getD x.l p default]) [] x.sent
                                              x.i).j))),
                                  some
                                    (Blk.arr (3 : Nat)
                                      (List.length
                                        (X5.mk x.mo x.acts x.lo (x.l ++ [List.getD x.l p default]) [] x.sent x.i).sent)
                                      (lsF It.c
                                        (X5.mk x.mo x.acts x.lo (x.l ++ [List.getD x.l p default]) [] x.sent
                                            x.i).sent)),
                                  some
                                    (Blk.arr (3 : Nat)
                                      (List.length
                                        (X5.mk x.mo x.acts x.lo (x.l ++ [List.getD x.l p default]) [] x.sent x.i).l)
                                      (lsF It.c
                                        ((X5.mk x.mo x.acts x.lo (x.l ++ [List.getD x.l p default]) [] x.sent x.i).l ++
                                          (X5.mk x.mo x.acts x.lo (x.l ++ [List.getD x.l p default]) [] x.sent
                                              x.i).j)))]))
                          (Tree.leaf
                            (Out.mk AEx.normal
                              [AV.v (Value.int IntKind.i64 x.mo),
                                AV.sl (5 : Nat)
                                  (List.length
                                    (X5.mk x.mo x.acts x.lo (x.l ++ [List.getD x.l p default]) [] x.sent x.i).acts)
                                  (lsF Act.c
                                    (X5.mk x.mo x.acts x.lo (x.l ++ [List.getD x.l p default]) [] x.sent x.i).acts),
                                AV.ptr (0 : Nat) (0 : Nat),
                                AV.hs (2 : Nat) (0 : Nat)
                                  (List.length
                                    (X5.mk x.mo x.acts x.lo (x.l ++ [List.getD x.l p default]) [] x.sent x.i).sent),
                                AV.v (Value.int IntKind.i64 (IntKind.wrap IntKind.i64 ((↑x.i : Int) + (1 : Int)))),
                                AV.any]
                              [some
                                  (Blk.row
                                    [AV.v (Value.int IntKind.i64 x.mo), AV.v (Value.int IntKind.i64 x.lo),
                                      AV.hs (1 : Nat) (0 : Nat)
                                        (List.length
                                          (X5.mk x.mo x.acts x.lo (x.l ++ [List.getD x.l p default]) [] x.sent
                                              x.i).l)]),
                                some
                                  (Blk.arr (3 : Nat)
                                    (List.length
                                      ((X5.mk x.mo x.acts x.lo (x.l ++ [List.getD x.l p default]) [] x.sent x.i).l ++
                                        (X5.mk x.mo x.acts x.lo (x.l ++ [List.getD x.l p default]) [] x.sent x.i).j))
                                    (lsF It.c
                                      ((X5.mk x.mo x.acts x.lo (x.l ++ [List.getD x.l p default]) [] x.sent x.i).l ++
                                        (X5.mk x.mo x.acts x.lo (x.l ++ [List.getD x.l p default]) [] x.sent x.i).j))),
                                some
                                  (Blk.arr (3 : Nat)
                                    (List.length
                                      (X5.mk x.mo x.acts x.lo (x.l ++ [List.getD x.l p default]) [] x.sent x.i).sent)
                                    (lsF It.c
                                      (X5.mk x.mo x.acts x.lo (x.l ++ [List.getD x.l p default]) [] x.sent
                                          x.i).sent))]))))))))
              (Tree.chk true
                (Tree.chk
                  (cl
                    (List.length x.l ≤ (1000000000 : Nat) ∧
                      ∃ l junk,
                        List.length x.l = List.length l ∧
                          List.length (x.l ++ x.j) = List.length (l ++ junk) ∧
                            ∀ (e : Nat), lsF It.c (x.l ++ x.j) e = It.c (List.getD (l ++ junk) e default)))
                  (Tree.br (decide (x.mo < (↑(List.length x.l) : Int)))
                    (Tree.leaf
                      (Out.mk AEx.ret
                        [AV.v (Value.int IntKind.i64 x.mo), AV.sl (5 : Nat) (List.length x.acts) (lsF Act.c x.acts),
                          AV.ptr (0 : Nat) (0 : Nat), AV.hs (2 : Nat) (0 : Nat) (List.length x.sent),
                          AV.v (Value.int IntKind.i64 (↑x.i : Int)), AV.v (Value.bool false)]
                        [some
                            (Blk.row
                              [AV.v (Value.int IntKind.i64 x.mo), AV.v (Value.int IntKind.i64 x.lo),
                                AV.hs (1 : Nat) (0 : Nat) (List.length x.l)]),
                          some (Blk.arr (3 : Nat) (List.length (x.l ++ x.j)) (lsF It.c (x.l ++ x.j))),
                          some (Blk.arr (3 : Nat) (List.length x.sent) (lsF It.c x.sent))]))
                    (Tree.chk
                      (cl
                        (LeL
                            [AV.v (Value.int IntKind.i64 x.mo), AV.sl (5 : Nat) (List.length x.acts) (lsF Act.c x.acts),
                              AV.ptr (0 : Nat) (0 : Nat), AV.hs (2 : Nat) (0 : Nat) (List.length x.sent),
                              AV.v (Value.int IntKind.i64 (↑x.i : Int)), AV.hs (3 : Nat) (0 : Nat) (List.length x.l),
                              AV.v (Value.int IntKind.i64 (0 : Int)), AV.any]
                            [AV.v (Value.int IntKind.i64 x.mo),
                              AV.sl (5 : Nat)
                                (List.length
                                  (X5.mk x.mo x.acts x.lo (x.l ++ [List.getD x.l p default]) [] x.sent x.i).acts)
                                (lsF Act.c
                                  (X5.mk x.mo x.acts x.lo (x.l ++ [List.getD x.l p default]) [] x.sent x.i).acts),
                              AV.ptr (0 : Nat) (0 : Nat),
                              AV.hs (2 : Nat) (0 : Nat)
                                (List.length
                                  (X5.mk x.mo x.acts x.lo (x.l ++ [List.getD x.l p default]) [] x.sent x.i).sent),
                              AV.v (Value.int IntKind.i64 (↑x.i : Int)),
                              AV.hs (3 : Nat) (0 : Nat)
                                (List.length
                                  (X5.mk x.mo x.acts x.lo (x.l ++ [List.getD x.l p default]) [] x.sent x.i).l),
                              AV.v (Value.int IntKind.i64 (↑(0 : Nat) : Int)), AV.any] ∧
                          LeH
                            [some
                                (Blk.row
                                  [AV.v (Value.int IntKind.i64 x.mo), AV.v (Value.int IntKind.i64 x.lo),
                                    AV.hs (1 : Nat) (0 : Nat) (List.length x.l)]),
                              some (Blk.arr (3 : Nat) (List.length (x.l ++ x.j)) (lsF It.c (x.l ++ x.j))),
                              some (Blk.arr (3 : Nat) (List.length x.sent) (lsF It.c x.sent)),
                              some (Blk.arr (3 : Nat) (List.length x.l) (lsF It.c (x.l ++ x.j)))]
                            [some
                                (Blk.row
                                  [AV.v (Value.int IntKind.i64 x.mo), AV.v (Value.int IntKind.i64 x.lo),
                                    AV.hs (1 : Nat) (0 : Nat)
                                      (List.length
                                        (X5.mk x.mo x.acts x.lo (x.l ++ [List.getD x.l p default]) [] x.sent x.i).l)]),
                              some
                                (Blk.arr (3 : Nat)
                                  (List.length
                                    ((X5.mk x.mo x.acts x.lo (x.l ++ [List.getD x.l p default]) [] x.sent x.i).l ++
                                      (X5.mk x.mo x.acts x.lo (x.l ++ [List.getD x.l p default]) [] x.sent x.i).j))
                                  (lsF It.c
                                    ((X5.mk x.mo x.acts x.lo (x.l ++ [List.getD x.l p default]) [] x.sent x.i).l ++
                                      (X5.mk x.mo x.acts x.lo (x.l ++ [List.getD x.l p default]) [] x.sent x.i).j))),
                              some
                                (Blk.arr (3 : Nat)
                                  (List.length
                                    (X5.mk x.mo x.acts x.lo (x.l ++ [List.getD x.l p default]) [] x.sent x.i).sent)
                                  (lsF It.c
                                    (X5.mk x.mo x.acts x.lo (x.l ++ [List.getD x.l p default]) [] x.sent x.i).sent)),
                              some
                                (Blk.arr (3 : Nat)
                                  (List.length
                                    (X5.mk x.mo x.acts x.lo (x.l ++ [List.getD x.l p default]) [] x.sent x.i).l)
                                  (lsF It.c
                                    ((X5.mk x.mo x.acts x.lo (x.l ++ [List.getD x.l p default]) [] x.sent x.i).l ++
                                      (X5.mk x.mo x.acts x.lo (x.l ++ [List.getD x.l p default]) [] x.sent x.i).j)))]))
                      (Tree.leaf
                        (Out.mk AEx.normal
                          [AV.v (Value.int IntKind.i64 x.mo),
                            AV.sl (5 : Nat)
                              (List.length
                                (X5.mk x.mo x.acts x.lo (x.l ++ [List.getD x.l p default]) [] x.sent x.i).acts)
                              (lsF Act.c
                                (X5.mk x.mo x.acts x.lo (x.l ++ [List.getD x.l p default]) [] x.sent x.i).acts),
                            AV.ptr (0 : Nat) (0 : Nat),
                            AV.hs (2 : Nat) (0 : Nat)
                              (List.length
                                (X5.mk x.mo x.acts x.lo (x.l ++ [List.getD x.l p default]) [] x.sent x.i).sent),
                            AV.v (Value.int IntKind.i64 (IntKind.wrap IntKind.i64 ((↑x.i : Int) + (1 : Int)))), AV.any]
                          [some
                              (Blk.row
                                [AV.v (Value.int IntKind.i64 x.mo), AV.v (Value.int IntKind.i64 x.lo),
                                  AV.hs (1 : Nat) (0 : Nat)
                                    (List.length
                                      (X5.mk x.mo x.acts x.lo (x.l ++ [List.getD x.l p default]) [] x.sent x.i).l)]),
                            some
                              (Blk.arr (3 : Nat)
                                (List.length
                                  ((X5.mk x.mo x.acts x.lo (x.l ++ [List.getD x.l p default]) [] x.sent x.i).l ++
                                    (X5.mk x.mo x.acts x.lo (x.l ++ [List.getD x.l p default]) [] x.sent x.i).j))
                                (lsF It.c
                                  ((X5.mk x.mo x.acts x.lo (x.l ++ [List.getD x.l p default]) [] x.sent x.i).l ++
                                    (X5.mk x.mo x.acts x.lo (x.l ++ [List.getD x.l p default]) [] x.sent x.i).j))),
                            some
                              (Blk.arr (3 : Nat)
                                (List.length
                                  (X5.mk x.mo x.acts x.lo (x.l ++ [List.getD x.l p default]) [] x.sent x.i).sent)
                                (lsF It.c
                                  (X5.mk x.mo x.acts x.lo (x.l ++ [List.getD x.l p default]) [] x.sent
                                      x.i).sent))]))))))))))))
  (Tree.leaf
    (Out.mk (AEx.exit (0 : Nat))
      [AV.v (Value.int IntKind.i64 x.mo), AV.sl (5 : Nat) (List.length x.acts) (lsF Act.c x.acts),
        AV.ptr (0 : Nat) (0 : Nat), AV.hs (2 : Nat) (0 : Nat) (List.length x.sent),
        AV.v (Value.int IntKind.i64 (↑x.i : Int)), AV.any]
      [some
          (Blk.row
            [AV.v (Value.int IntKind.i64 x.mo), AV.v (Value.int IntKind.i64 x.lo),
              AV.hs (1 : Nat) (0 : Nat) (List.length x.l)]),
        some (Blk.arr (3 : Nat) (List.length (x.l ++ x.j)) (lsF It.c (x.l ++ x.j))),
        some (Blk.arr (3 : Nat) (List.length x.sent) (lsF It.c x.sent))])) := by kernel_rfl
end Go.Eng.N

/- net: nothing comes of itself. -/
namespace Go.Eng.N
open Go Go.Eng Go.Proofs
set_option linter.unusedSimpArgs false
set_option linter.unusedVariables false
structure pre5 (mo : Int) (acts : List Act) (x : X5) : Prop where
  e1 : x.mo = mo
  e2 : x.acts = acts
  i : x.i ≤ acts.length
  lo0 : 0 ≤ x.lo
  lo1 : x.lo ≤ x.i
  l : (x.l.length : Int) ≤ mo
  s : x.sent.length ≤ x.i
  m : ∀ y, y ∈ x.l → y ∈ x.sent
abbrev O51 : Out := ⟨.exit 0, [.any, .any, .any, .any, .any, .any], [none, none, none]⟩
abbrev RO5 (mo : Int) (acts : List Act) (x : X5) : Prop := RoundOK Try.prog Γn 0 146 0 (lp5 0) lv51 nl51 (S51 x) (OwesA S51 (pre5 mo acts) (fun _ => O51) (fun x => acts.length - x.i) (acts.length - x.i) O51)
theorem go5 {mo : Int} {acts : List Act} {fr : List AV} {H : Heap} {x x' : X5} (hi : x.i < acts.length) (hmo : x'.mo = mo) (hac : x'.acts = acts) (he : x'.i = x.i + 1) (h1 : LeL fr (S51 x').1) (h2 : LeH H (S51 x').2) (h3 : 0 ≤ x'.lo) (h4 : x'.lo ≤ ((x.i + 1 : Nat) : Int)) (h5 : (x'.l.length : Int) ≤ mo) (h6 : x'.sent.length ≤ x.i + 1) (h7 : ∀ y, y ∈ x'.l → y ∈ x'.sent) :
    ∃ x', LeL fr (S51 x').fst ∧ LeH H (S51 x').snd ∧ pre5 mo acts x' ∧ acts.length - x'.i < acts.length - x.i :=
  ⟨x', h1, h2, ⟨hmo, hac, by omega, h3, by omega, h5, by omega, h7⟩, by omega⟩
theorem inner5 {x : X5} (hl : x.l.length ≤ 100000) (hs : x.sent.length ≤ 100000) (hm : ∀ y, y ∈ x.l → y ∈ x.sent) : ∀ (j : Nat) (b : Code), (loopBodies (lp5 0))[j]? = some b → LoopOK Try.prog Γn 0 146 b (L51 x (0 + j)) :=
  fun j b hj => twoLoops (L := fun j => L51 x (0 + j)) (b := lp5 1) (b' := lp5 2) (by kernel_rfl) (loop52 hl hs hm 0 (Nat.zero_le _)) (fun _ _ _ h => by simp [L51, Tree.get] at h) j b hj
theorem clE {l j : List It} (h : l.length ≤ 100000) : l.length ≤ 1000000000 ∧ ∃ l1 junk : List It, l.length = l1.length ∧ (l ++ j).length = (l1 ++ junk).length ∧ ∀ e, lsF It.c (l ++ j) e = It.c ((l1 ++ junk).getD e default) := ⟨by omega, l, j, rfl, rfl, fun _ => rfl⟩
theorem clE0 {l : List It} : ∃ l1 junk : List It, l.length = l1.length ∧ l.length = (l1 ++ junk).length ∧ ∀ e, lsF It.c l e = It.c ((l1 ++ junk).getD e default) := ⟨l, [], rfl, by rw [List.append_nil], fun e => by rw [List.append_nil, lsF_at]⟩
theorem k5sendLong {mo : Int} {acts : List Act} {x : X5} (hp : pre5 mo acts x) (hm : mo ≤ 4096) (hn : acts.length ≤ 100) (hi : x.i < acts.length) (hk : (x.acts.getD x.i default).k = 0) (h : 65536 < (x.acts.getD x.i default).x.t.size) : RO5 mo acts x := by
  obtain ⟨hp1, hp2, hp3, hp4, hp5, hp6, hp7, hp8⟩ := hp
  have hac : x.acts.length = acts.length := by rw [hp2]
  refine .of (inner5 (x := x) (by first | omega | (dsimp only; omega)) (by first | omega | (dsimp only; omega)) hp8) (r5sendLong x h) ?_
  simp only [Bool.false_eq_true, Bool.true_eq_false, not_true_eq_false, not_false_eq_true, false_implies, true_implies, implies_true, Nat.blt_eq, owesN, owesX, owesR, Bool.not_eq_true', Bool.not_eq_false', Bool.and_eq_false_iff, sat_brT, sat_brF, sat_chkT, cl_iff, cl_false, AV.le_refl, AV.le_any, OLe_refl, OLe_none, Tree.sat_br, Tree.sat_chk, Tree.sat_leaf, Tree.sat_fail, Nat.zero_add, Nat.sub_zero, Int.toNat_natCast, LeH_cons, LeH_nil, LeL_cons, LeL_nil, and_true, true_and, Bool.and_eq_true, Bool.or_eq_true, Bool.or_eq_false_iff, decide_eq_true_eq, decide_eq_false_iff_not, Bool.cond_true_left, Bool.cond_false_right, List.cons_append, List.nil_append, List.map_cons, List.map_nil, wrapUpN (show x.i ≤ 1000000000 by omega)]
  repeat' (first | apply And.intro | intro _hc)
  all_goals first | omega | contradiction | exact AV.le_refl _ | exact AV.le_any _ | exact OLe.refl _ | exact OLe.none _ | exact LeH.refl _ | exact LeL.refl _ | exact AV.le.bs _ | exact AV.le.sb _ | exact (clE (by first | omega | (dsimp only; omega))).2 | exact go5 (x' := { x with i := x.i + 1 }) hi hp1 hp2 rfl (LeL.refl _) (LeH.refl _) (by first | omega | (dsimp only; omega)) (by first | omega | (dsimp only; omega)) (hp6) (by first | omega | (dsimp only; omega)) (hp8) | ((rw [List.append_nil]; exact OLe.refl _)) | exact itCod.app0 x.sent _ default rfl rfl | exact clE0 | exact room32 (by first | omega | (dsimp only; omega)) | ((rw [hls]; exact AV.le_refl _)) | (exfalso; omega) | contradiction
theorem k5sendFull {mo : Int} {acts : List Act} {x : X5} (hp : pre5 mo acts x) (hm : mo ≤ 4096) (hn : acts.length ≤ 100) (hi : x.i < acts.length) (hk : (x.acts.getD x.i default).k = 0) (h : (x.acts.getD x.i default).x.t.size ≤ 65536) (h2 : (x.l.length : Int) = x.mo) : RO5 mo acts x := by
  obtain ⟨hp1, hp2, hp3, hp4, hp5, hp6, hp7, hp8⟩ := hp
  have hac : x.acts.length = acts.length := by rw [hp2]
  refine .of (inner5 (x := { x with lo := x.lo + 1 }) (by first | omega | (dsimp only; omega)) (by first | omega | (dsimp only; omega)) hp8) (r5sendFull x h h2 (by first | omega | (dsimp only; omega)) (by first | omega | (dsimp only; omega))) ?_
  simp only [Bool.false_eq_true, Bool.true_eq_false, not_true_eq_false, not_false_eq_true, false_implies, true_implies, implies_true, Nat.blt_eq, owesN, owesX, owesR, Bool.not_eq_true', Bool.not_eq_false', Bool.and_eq_false_iff, sat_brT, sat_brF, sat_chkT, cl_iff, cl_false, AV.le_refl, AV.le_any, OLe_refl, OLe_none, Tree.sat_br, Tree.sat_chk, Tree.sat_leaf, Tree.sat_fail, Nat.zero_add, Nat.sub_zero, Int.toNat_natCast, LeH_cons, LeH_nil, LeL_cons, LeL_nil, and_true, true_and, Bool.and_eq_true, Bool.or_eq_true, Bool.or_eq_false_iff, decide_eq_true_eq, decide_eq_false_iff_not, Bool.cond_true_left, Bool.cond_false_right, List.cons_append, List.nil_append, List.map_cons, List.map_nil, wrapUpN (show x.i ≤ 1000000000 by omega)]
  repeat' (first | apply And.intro | intro _hc)
  all_goals first | omega | contradiction | exact AV.le_refl _ | exact AV.le_any _ | exact OLe.refl _ | exact OLe.none _ | exact LeH.refl _ | exact LeL.refl _ | exact AV.le.bs _ | exact AV.le.sb _ | exact (clE (by first | omega | (dsimp only; omega))).2 | exact go5 (x' := { { x with lo := x.lo + 1 } with i := x.i + 1 }) hi hp1 hp2 rfl (LeL.refl _) (LeH.refl _) (by first | omega | (dsimp only; omega)) (by first | omega | (dsimp only; omega)) (hp6) (by first | omega | (dsimp only; omega)) (hp8) | ((rw [List.append_nil]; exact OLe.refl _)) | exact itCod.app0 x.sent _ default rfl rfl | exact clE0 | exact room32 (by first | omega | (dsimp only; omega)) | ((rw [hls]; exact AV.le_refl _)) | (exfalso; omega) | contradiction
theorem k5takeNo {mo : Int} {acts : List Act} {x : X5} (hp : pre5 mo acts x) (hm : mo ≤ 4096) (hn : acts.length ≤ 100) (hi : x.i < acts.length) (hk : (x.acts.getD x.i default).k = 1) (h : (x.acts.getD x.i default).i < 0 ∨ (x.l.length : Int) ≤ (x.acts.getD x.i default).i) : RO5 mo acts x := by
  obtain ⟨hp1, hp2, hp3, hp4, hp5, hp6, hp7, hp8⟩ := hp
  have hac : x.acts.length = acts.length := by rw [hp2]
  refine .of (inner5 (x := x) (by first | omega | (dsimp only; omega)) (by first | omega | (dsimp only; omega)) hp8) (r5takeNo x h) ?_
  simp only [Bool.false_eq_true, Bool.true_eq_false, not_true_eq_false, not_false_eq_true, false_implies, true_implies, implies_true, Nat.blt_eq, owesN, owesX, owesR, Bool.not_eq_true', Bool.not_eq_false', Bool.and_eq_false_iff, sat_brT, sat_brF, sat_chkT, cl_iff, cl_false, AV.le_refl, AV.le_any, OLe_refl, OLe_none, Tree.sat_br, Tree.sat_chk, Tree.sat_leaf, Tree.sat_fail, Nat.zero_add, Nat.sub_zero, Int.toNat_natCast, LeH_cons, LeH_nil, LeL_cons, LeL_nil, and_true, true_and, Bool.and_eq_true, Bool.or_eq_true, Bool.or_eq_false_iff, decide_eq_true_eq, decide_eq_false_iff_not, Bool.cond_true_left, Bool.cond_false_right, List.cons_append, List.nil_append, List.map_cons, List.map_nil, wrapUpN (show x.i ≤ 1000000000 by omega)]
  repeat' (first | apply And.intro | intro _hc)
  all_goals first | omega | contradiction | exact AV.le_refl _ | exact AV.le_any _ | exact OLe.refl _ | exact OLe.none _ | exact LeH.refl _ | exact LeL.refl _ | exact AV.le.bs _ | exact AV.le.sb _ | exact (clE (by first | omega | (dsimp only; omega))).2 | exact go5 (x' := { x with i := x.i + 1 }) hi hp1 hp2 rfl (LeL.refl _) (LeH.refl _) (by first | omega | (dsimp only; omega)) (by first | omega | (dsimp only; omega)) (hp6) (by first | omega | (dsimp only; omega)) (hp8) | ((rw [List.append_nil]; exact OLe.refl _)) | exact itCod.app0 x.sent _ default rfl rfl | exact clE0 | exact room32 (by first | omega | (dsimp only; omega)) | ((rw [hls]; exact AV.le_refl _)) | (exfalso; omega) | contradiction
theorem k5take {mo : Int} {acts : List Act} {x : X5} (hp : pre5 mo acts x) (hm : mo ≤ 4096) (hn : acts.length ≤ 100) (hi : x.i < acts.length) (hk : (x.acts.getD x.i default).k = 1) (p : Nat) (hpi : (x.acts.getD x.i default).i = (p : Int)) (h : p < x.l.length) : RO5 mo acts x := by
  obtain ⟨hp1, hp2, hp3, hp4, hp5, hp6, hp7, hp8⟩ := hp
  have hac : x.acts.length = acts.length := by rw [hp2]
  have hla : (x.l.eraseIdx p).length = x.l.length - 1 := List.length_eraseIdx_of_lt h
  have hmm : ∀ y, y ∈ x.l.eraseIdx p → y ∈ x.sent := fun y hy => hp8 y (List.mem_of_mem_eraseIdx hy)
  have hw : IntKind.wrap IntKind.i64 ((x.l.length : Int) - 1) = ((x.l.eraseIdx p).length : Int) := by rw [wrap64E, hla]; omega
  refine .of (inner5 (x := { x with l := x.l.eraseIdx p, j := default :: x.j }) (by first | omega | (dsimp only; omega)) (by first | omega | (dsimp only; omega)) hmm) (r5take x p h (by first | omega | (dsimp only; omega))) ?_
  simp only [Bool.false_eq_true, Bool.true_eq_false, not_true_eq_false, not_false_eq_true, false_implies, true_implies, implies_true, Nat.blt_eq, owesN, owesX, owesR, Bool.not_eq_true', Bool.not_eq_false', Bool.and_eq_false_iff, sat_brT, sat_brF, sat_chkT, cl_iff, cl_false, AV.le_refl, AV.le_any, OLe_refl, OLe_none, Tree.sat_br, Tree.sat_chk, Tree.sat_leaf, Tree.sat_fail, Nat.zero_add, Nat.sub_zero, Int.toNat_natCast, LeH_cons, LeH_nil, LeL_cons, LeL_nil, and_true, true_and, Bool.and_eq_true, Bool.or_eq_true, Bool.or_eq_false_iff, decide_eq_true_eq, decide_eq_false_iff_not, Bool.cond_true_left, Bool.cond_false_right, List.cons_append, List.nil_append, List.map_cons, List.map_nil, wrapUpN (show x.i ≤ 1000000000 by omega), hpi, getD_app h, hw]
  repeat' (first | apply And.intro | intro _hc)
  all_goals first | omega | contradiction | exact AV.le_refl _ | exact AV.le_any _ | exact OLe.refl _ | exact OLe.none _ | exact LeH.refl _ | exact LeL.refl _ | exact AV.le.bs _ | exact AV.le.sb _ | exact (clE (by first | omega | (dsimp only; omega))).2 | exact go5 (x' := { { x with l := x.l.eraseIdx p, j := default :: x.j } with i := x.i + 1 }) hi hp1 hp2 rfl (LeL.refl _) (LeH.refl _) (by first | omega | (dsimp only; omega)) (by first | omega | (dsimp only; omega)) (by (show ((x.l.eraseIdx p).length : Int) ≤ mo; omega)) (by first | omega | (dsimp only; omega)) (hmm) | ((rw [List.append_nil]; exact OLe.refl _)) | exact itCod.app0 x.sent _ default rfl rfl | exact clE0 | exact room32 (by first | omega | (dsimp only; omega)) | ((rw [hls]; exact AV.le_refl _)) | (exfalso; omega) | contradiction
theorem k5dblNo {mo : Int} {acts : List Act} {x : X5} (hp : pre5 mo acts x) (hm : mo ≤ 4096) (hn : acts.length ≤ 100) (hi : x.i < acts.length) (hk : (x.acts.getD x.i default).k = 2) (h : (x.acts.getD x.i default).i < 0 ∨ (x.l.length : Int) ≤ (x.acts.getD x.i default).i) : RO5 mo acts x := by
  obtain ⟨hp1, hp2, hp3, hp4, hp5, hp6, hp7, hp8⟩ := hp
  have hac : x.acts.length = acts.length := by rw [hp2]
  refine .of (inner5 (x := x) (by first | omega | (dsimp only; omega)) (by first | omega | (dsimp only; omega)) hp8) (r5dblNo x h) ?_
  simp only [Bool.false_eq_true, Bool.true_eq_false, not_true_eq_false, not_false_eq_true, false_implies, true_implies, implies_true, Nat.blt_eq, owesN, owesX, owesR, Bool.not_eq_true', Bool.not_eq_false', Bool.and_eq_false_iff, sat_brT, sat_brF, sat_chkT, cl_iff, cl_false, AV.le_refl, AV.le_any, OLe_refl, OLe_none, Tree.sat_br, Tree.sat_chk, Tree.sat_leaf, Tree.sat_fail, Nat.zero_add, Nat.sub_zero, Int.toNat_natCast, LeH_cons, LeH_nil, LeL_cons, LeL_nil, and_true, true_and, Bool.and_eq_true, Bool.or_eq_true, Bool.or_eq_false_iff, decide_eq_true_eq, decide_eq_false_iff_not, Bool.cond_true_left, Bool.cond_false_right, List.cons_append, List.nil_append, List.map_cons, List.map_nil, wrapUpN (show x.i ≤ 1000000000 by omega)]
  repeat' (first | apply And.intro | intro _hc)
  all_goals first | omega | contradiction | exact AV.le_refl _ | exact AV.le_any _ | exact OLe.refl _ | exact OLe.none _ | exact LeH.refl _ | exact LeL.refl _ | exact AV.le.bs _ | exact AV.le.sb _ | exact (clE (by first | omega | (dsimp only; omega))).2 | exact go5 (x' := { x with i := x.i + 1 }) hi hp1 hp2 rfl (LeL.refl _) (LeH.refl _) (by first | omega | (dsimp only; omega)) (by first | omega | (dsimp only; omega)) (hp6) (by first | omega | (dsimp only; omega)) (hp8) | ((rw [List.append_nil]; exact OLe.refl _)) | exact itCod.app0 x.sent _ default rfl rfl | exact clE0 | exact room32 (by first | omega | (dsimp only; omega)) | ((rw [hls]; exact AV.le_refl _)) | (exfalso; omega) | contradiction
theorem k5dblFull {mo : Int} {acts : List Act} {x : X5} (hp : pre5 mo acts x) (hm : mo ≤ 4096) (hn : acts.length ≤ 100) (hi : x.i < acts.length) (hk : (x.acts.getD x.i default).k = 2) (p : Nat) (hpi : (x.acts.getD x.i default).i = (p : Int)) (h : p < x.l.length) (h2 : (x.l.length : Int) = x.mo) : RO5 mo acts x := by
  obtain ⟨hp1, hp2, hp3, hp4, hp5, hp6, hp7, hp8⟩ := hp
  have hac : x.acts.length = acts.length := by rw [hp2]
  refine .of (inner5 (x := { x with lo := x.lo + 1 }) (by first | omega | (dsimp only; omega)) (by first | omega | (dsimp only; omega)) hp8) (r5dblFull x p h h2 (by first | omega | (dsimp only; omega)) (by first | omega | (dsimp only; omega))) ?_
  simp only [Bool.false_eq_true, Bool.true_eq_false, not_true_eq_false, not_false_eq_true, false_implies, true_implies, implies_true, Nat.blt_eq, owesN, owesX, owesR, Bool.not_eq_true', Bool.not_eq_false', Bool.and_eq_false_iff, sat_brT, sat_brF, sat_chkT, cl_iff, cl_false, AV.le_refl, AV.le_any, OLe_refl, OLe_none, Tree.sat_br, Tree.sat_chk, Tree.sat_leaf, Tree.sat_fail, Nat.zero_add, Nat.sub_zero, Int.toNat_natCast, LeH_cons, LeH_nil, LeL_cons, LeL_nil, and_true, true_and, Bool.and_eq_true, Bool.or_eq_true, Bool.or_eq_false_iff, decide_eq_true_eq, decide_eq_false_iff_not, Bool.cond_true_left, Bool.cond_false_right, List.cons_append, List.nil_append, List.map_cons, List.map_nil, wrapUpN (show x.i ≤ 1000000000 by omega), hpi]
  repeat' (first | apply And.intro | intro _hc)
  all_goals first | omega | contradiction | exact AV.le_refl _ | exact AV.le_any _ | exact OLe.refl _ | exact OLe.none _ | exact LeH.refl _ | exact LeL.refl _ | exact AV.le.bs _ | exact AV.le.sb _ | exact (clE (by first | omega | (dsimp only; omega))).2 | exact go5 (x' := { { x with lo := x.lo + 1 } with i := x.i + 1 }) hi hp1 hp2 rfl (LeL.refl _) (LeH.refl _) (by first | omega | (dsimp only; omega)) (by first | omega | (dsimp only; omega)) (hp6) (by first | omega | (dsimp only; omega)) (hp8) | ((rw [List.append_nil]; exact OLe.refl _)) | exact itCod.app0 x.sent _ default rfl rfl | exact clE0 | exact room32 (by first | omega | (dsimp only; omega)) | ((rw [hls]; exact AV.le_refl _)) | (exfalso; omega) | contradiction
theorem k5dblOk {mo : Int} {acts : List Act} {x : X5} (hp : pre5 mo acts x) (hm : mo ≤ 4096) (hn : acts.length ≤ 100) (hi : x.i < acts.length) (hk : (x.acts.getD x.i default).k = 2) (p : Nat) (hpi : (x.acts.getD x.i default).i = (p : Int)) (h : p < x.l.length) (h2 : (x.l.length : Int) ≠ x.mo) : RO5 mo acts x := by
  obtain ⟨hp1, hp2, hp3, hp4, hp5, hp6, hp7, hp8⟩ := hp
  have hac : x.acts.length = acts.length := by rw [hp2]
  have hla : (x.l ++ [x.l.getD p default]).length = x.l.length + 1 := by simp
  have hmm : ∀ y, y ∈ x.l ++ [x.l.getD p default] → y ∈ x.sent := fun y hy => by
    rcases List.mem_append.1 hy with hy | hy
    · exact hp8 y hy
    · obtain rfl := List.mem_singleton.1 hy
      exact hp8 _ (by rw [getD_get h]; exact List.getElem_mem h)
  refine .of (inner5 (x := { x with l := x.l ++ [x.l.getD p default], j := [] }) (by (show (x.l ++ [x.l.getD p default]).length ≤ 100000; omega)) (by first | omega | (dsimp only; omega)) hmm) (r5dblOk x p h h2 (by first | omega | (dsimp only; omega))) ?_
  simp only [Bool.false_eq_true, Bool.true_eq_false, not_true_eq_false, not_false_eq_true, false_implies, true_implies, implies_true, Nat.blt_eq, owesN, owesX, owesR, Bool.not_eq_true', Bool.not_eq_false', Bool.and_eq_false_iff, sat_brT, sat_brF, sat_chkT, cl_iff, cl_false, AV.le_refl, AV.le_any, OLe_refl, OLe_none, Tree.sat_br, Tree.sat_chk, Tree.sat_leaf, Tree.sat_fail, Nat.zero_add, Nat.sub_zero, Int.toNat_natCast, LeH_cons, LeH_nil, LeL_cons, LeL_nil, and_true, true_and, Bool.and_eq_true, Bool.or_eq_true, Bool.or_eq_false_iff, decide_eq_true_eq, decide_eq_false_iff_not, Bool.cond_true_left, Bool.cond_false_right, List.cons_append, List.nil_append, List.map_cons, List.map_nil, wrapUpN (show x.i ≤ 1000000000 by omega), hpi]
  repeat' (first | apply And.intro | intro _hc)
  all_goals first | omega | contradiction | exact AV.le_refl _ | exact AV.le_any _ | exact OLe.refl _ | exact OLe.none _ | exact LeH.refl _ | exact LeL.refl _ | exact AV.le.bs _ | exact AV.le.sb _ | exact (clE (by first | omega | (dsimp only; omega))).2 | exact go5 (x' := { { x with l := x.l ++ [x.l.getD p default], j := [] } with i := x.i + 1 }) hi hp1 hp2 rfl (LeL.refl _) (LeH.refl _) (by first | omega | (dsimp only; omega)) (by first | omega | (dsimp only; omega)) (by (show ((x.l ++ [x.l.getD p default]).length : Int) ≤ mo; omega)) (by first | omega | (dsimp only; omega)) (hmm) | ((rw [List.append_nil]; exact OLe.refl _)) | exact itCod.app0 x.sent _ default rfl rfl | exact clE0 | exact room32 (by first | omega | (dsimp only; omega)) | ((rw [hls]; exact AV.le_refl _)) | (exfalso; omega) | contradiction
theorem k5sendOk {mo : Int} {acts : List Act} {x : X5} (hp : pre5 mo acts x) (hm : mo ≤ 4096) (hn : acts.length ≤ 100) (hi : x.i < acts.length) (hk : (x.acts.getD x.i default).k = 0) (h : (x.acts.getD x.i default).x.t.size ≤ 65536) (h2 : (x.l.length : Int) ≠ x.mo) : RO5 mo acts x := by
  obtain ⟨hp1, hp2, hp3, hp4, hp5, hp6, hp7, hp8⟩ := hp
  have hac : x.acts.length = acts.length := by rw [hp2]
  have hla : (x.l ++ [(x.acts.getD x.i default).x]).length = x.l.length + 1 := by simp
  have hls : (x.sent ++ [(x.acts.getD x.i default).x]).length = x.sent.length + 1 := by simp
  have hmm : ∀ y, y ∈ x.l ++ [(x.acts.getD x.i default).x] → y ∈ x.sent ++ [(x.acts.getD x.i default).x] := fun y hy => by
    rcases List.mem_append.1 hy with hy | hy
    · exact List.mem_append_left _ (hp8 y hy)
    · exact List.mem_append_right _ hy
  refine .of (inner5 (x := { x with l := x.l ++ [(x.acts.getD x.i default).x], j := [], sent := x.sent ++ [(x.acts.getD x.i default).x] }) (by (show (x.l ++ [(x.acts.getD x.i default).x]).length ≤ 100000; omega)) (by (show (x.sent ++ [(x.acts.getD x.i default).x]).length ≤ 100000; omega)) hmm) (r5sendOk x h h2 (by first | omega | (dsimp only; omega))) ?_
  simp only [Bool.false_eq_true, Bool.true_eq_false, not_true_eq_false, not_false_eq_true, false_implies, true_implies, implies_true, Nat.blt_eq, owesN, owesX, owesR, Bool.not_eq_true', Bool.not_eq_false', Bool.and_eq_false_iff, sat_brT, sat_brF, sat_chkT, cl_iff, cl_false, AV.le_refl, AV.le_any, OLe_refl, OLe_none, Tree.sat_br, Tree.sat_chk, Tree.sat_leaf, Tree.sat_fail, Nat.zero_add, Nat.sub_zero, Int.toNat_natCast, LeH_cons, LeH_nil, LeL_cons, LeL_nil, and_true, true_and, Bool.and_eq_true, Bool.or_eq_true, Bool.or_eq_false_iff, decide_eq_true_eq, decide_eq_false_iff_not, Bool.cond_true_left, Bool.cond_false_right, List.cons_append, List.nil_append, List.map_cons, List.map_nil, wrapUpN (show x.i ≤ 1000000000 by omega)]
  repeat' (first | apply And.intro | intro _hc)
  all_goals first | omega | contradiction | exact AV.le_refl _ | exact AV.le_any _ | exact OLe.refl _ | exact OLe.none _ | exact LeH.refl _ | exact LeL.refl _ | exact AV.le.bs _ | exact AV.le.sb _ | exact (clE (by first | omega | (dsimp only; omega))).2 | exact go5 (x' := { { x with l := x.l ++ [(x.acts.getD x.i default).x], j := [], sent := x.sent ++ [(x.acts.getD x.i default).x] } with i := x.i + 1 }) hi hp1 hp2 rfl (LeL.refl _) (LeH.refl _) (by first | omega | (dsimp only; omega)) (by first | omega | (dsimp only; omega)) (by (show ((x.l ++ [(x.acts.getD x.i default).x]).length : Int) ≤ mo; omega)) (by (show (x.sent ++ [(x.acts.getD x.i default).x]).length ≤ x.i + 1; omega)) (hmm) | ((rw [List.append_nil]; exact OLe.refl _)) | exact itCod.app0 x.sent _ default rfl rfl | exact clE0 | exact room32 (by first | omega | (dsimp only; omega)) | ((rw [hls]; exact AV.le_refl _)) | (exfalso; omega) | contradiction
theorem k5else {mo : Int} {acts : List Act} {x : X5} (hp : pre5 mo acts x) (hm : mo ≤ 4096) (hn : acts.length ≤ 100) (hi : x.i < acts.length) (h0 : (x.acts.getD x.i default).k ≠ 0) (h1 : (x.acts.getD x.i default).k ≠ 1) (h2 : (x.acts.getD x.i default).k ≠ 2) : RO5 mo acts x := by
  obtain ⟨hp1, hp2, hp3, hp4, hp5, hp6, hp7, hp8⟩ := hp
  have hac : x.acts.length = acts.length := by rw [hp2]
  refine .of (inner5 (x := x) (by first | omega | (dsimp only; omega)) (by first | omega | (dsimp only; omega)) hp8) (r5end x ) ?_
  simp only [Bool.false_eq_true, Bool.true_eq_false, not_true_eq_false, not_false_eq_true, false_implies, true_implies, implies_true, Nat.blt_eq, owesN, owesX, owesR, Bool.not_eq_true', Bool.not_eq_false', Bool.and_eq_false_iff, sat_brT, sat_brF, sat_chkT, cl_iff, cl_false, AV.le_refl, AV.le_any, OLe_refl, OLe_none, Tree.sat_br, Tree.sat_chk, Tree.sat_leaf, Tree.sat_fail, Nat.zero_add, Nat.sub_zero, Int.toNat_natCast, LeH_cons, LeH_nil, LeL_cons, LeL_nil, and_true, true_and, Bool.and_eq_true, Bool.or_eq_true, Bool.or_eq_false_iff, decide_eq_true_eq, decide_eq_false_iff_not, Bool.cond_true_left, Bool.cond_false_right, List.cons_append, List.nil_append, List.map_cons, List.map_nil, wrapUpN (show x.i ≤ 1000000000 by omega)]
  repeat' (first | apply And.intro | intro _hc)
  all_goals first | omega | contradiction | exact AV.le_refl _ | exact AV.le_any _ | exact OLe.refl _ | exact OLe.none _ | exact LeH.refl _ | exact LeL.refl _ | exact AV.le.bs _ | exact AV.le.sb _ | exact (clE (by first | omega | (dsimp only; omega))).2 | exact go5 (x' := { x with i := x.i + 1 }) hi hp1 hp2 rfl (LeL.refl _) (LeH.refl _) (by first | omega | (dsimp only; omega)) (by first | omega | (dsimp only; omega)) (hp6) (by first | omega | (dsimp only; omega)) (hp8) | ((rw [List.append_nil]; exact OLe.refl _)) | exact itCod.app0 x.sent _ default rfl rfl | exact clE0 | exact room32 (by first | omega | (dsimp only; omega)) | ((rw [hls]; exact AV.le_refl _)) | (exfalso; omega) | contradiction
theorem k5end {mo : Int} {acts : List Act} {x : X5} (hp : pre5 mo acts x) (hm : mo ≤ 4096) (hn : acts.length ≤ 100) (hi : acts.length ≤ x.i) : RO5 mo acts x := by
  obtain ⟨hp1, hp2, hp3, hp4, hp5, hp6, hp7, hp8⟩ := hp
  have hac : x.acts.length = acts.length := by rw [hp2]
  refine .of (inner5 (x := x) (by first | omega | (dsimp only; omega)) (by first | omega | (dsimp only; omega)) hp8) (r5end x) ?_
  simp only [Bool.false_eq_true, Bool.true_eq_false, not_true_eq_false, not_false_eq_true, false_implies, true_implies, implies_true, Nat.blt_eq, owesN, owesX, owesR, Bool.not_eq_true', Bool.not_eq_false', Bool.and_eq_false_iff, sat_brT, sat_brF, sat_chkT, cl_iff, cl_false, AV.le_refl, AV.le_any, OLe_refl, OLe_none, Tree.sat_br, Tree.sat_chk, Tree.sat_leaf, Tree.sat_fail, Nat.zero_add, Nat.sub_zero, Int.toNat_natCast, LeH_cons, LeH_nil, LeL_cons, LeL_nil, and_true, true_and, Bool.and_eq_true, Bool.or_eq_true, Bool.or_eq_false_iff, decide_eq_true_eq, decide_eq_false_iff_not, Bool.cond_true_left, Bool.cond_false_right, List.cons_append, List.nil_append, List.map_cons, List.map_nil]
  repeat' (first | apply And.intro | intro _hc)
  all_goals first | omega | contradiction | exact AV.le_refl _ | exact AV.le_any _ | exact OLe.refl _ | exact OLe.none _ | exact LeH.refl _ | exact LeL.refl _ | exact AV.le.bs _ | exact AV.le.sb _ | exact rfl | (exfalso; omega) | contradiction
end Go.Eng.N

/- net: nothing comes of itself: the law. -/
namespace Go.Eng.N
open Go Go.Eng Go.Proofs
set_option linter.unusedSimpArgs false
set_option linter.unusedVariables false
theorem loop51 {mo : Int} {acts : List Act} (hm : mo ≤ 4096) (hn : acts.length ≤ 100) : ∀ x, pre5 mo acts x → LoopOK Try.prog Γn 0 146 (lp5 0) (LSpec.at lv51 nl51 (S51 x) O51) := by
  refine loop_at (S := S51) (O := fun _ => O51) (k := 0) (fun x => acts.length - x.i) fun x hp => ?_
  show RO5 mo acts x
  have hp1 := hp.e1
  rcases Nat.lt_or_ge x.i acts.length with hi | hi
  case inr => exact k5end hp hm hn hi
  by_cases k0 : (x.acts.getD x.i default).k = 0
  · by_cases h : 65536 < (x.acts.getD x.i default).x.t.size
    · exact k5sendLong hp hm hn hi k0 h
    · by_cases h2 : (x.l.length : Int) = x.mo
      · exact k5sendFull hp hm hn hi k0 (by omega) h2
      · exact k5sendOk hp hm hn hi k0 (by omega) h2
  by_cases hb : (x.acts.getD x.i default).i < 0 ∨ (x.l.length : Int) ≤ (x.acts.getD x.i default).i
  · by_cases k1 : (x.acts.getD x.i default).k = 1
    · exact k5takeNo hp hm hn hi k1 hb
    by_cases k2 : (x.acts.getD x.i default).k = 2
    · exact k5dblNo hp hm hn hi k2 hb
    exact k5else hp hm hn hi k0 k1 k2
  · obtain ⟨p, hpi⟩ := Int.eq_ofNat_of_zero_le (show 0 ≤ (x.acts.getD x.i default).i by omega)
    have hpl : p < x.l.length := by omega
    by_cases k1 : (x.acts.getD x.i default).k = 1
    · exact k5take hp hm hn hi k1 p hpi hpl
    by_cases k2 : (x.acts.getD x.i default).k = 2
    · by_cases h2 : (x.l.length : Int) = x.mo
      · exact k5dblFull hp hm hn hi k2 p hpi hpl h2
      · exact k5dblOk hp hm hn hi k2 p hpi hpl h2
    exact k5else hp hm hn hi k0 k1 k2
/-- hallmoot/net.New -/
noncomputable def S8 : CT Try.prog Γn := CT.auto false 100 3 [] 8 Try.f8 (bodyOf Try.f8) false 13 [.tmp 2, .tmp 3] Try.func8 (by kernel_rfl) (by kernel_rfl) (by kernel_rfl) (by kernel_rfl)
def A5 (mo : Int) (acts : List Act) : List AV := [.v (.int .i64 mo), .sl 5 acts.length (lsF Act.c acts)]
noncomputable def L5 (x : X5) : Nat → LSpec
  | 0 => LSpec.at lv51 nl51 (S51 x) O51
  | _ => ⟨[], [], fun _ _ => .fail⟩
theorem law5no (mo : Int) (acts : List Act) : bodyE (P := Try.prog) (Γ := Γn) [c7, S8] Lno false 146 [.tmp 4] (bodyOf Try.f5) (A5 mo acts) [] =
  Tree.br (bif decide (mo < (1 : Int)) then true else decide ((4096 : Int) < mo))
  (Tree.br true (Tree.leaf (Ans.mk (AV.v (Value.bool true)) [])) Tree.fail)
  (Tree.br (decide ((100 : Int) < (↑(List.length acts) : Int))) (Tree.leaf (Ans.mk (AV.v (Value.bool true)) []))
    Tree.fail) := by kernel_rfl
theorem law5 (mo : Int) (acts : List Act) : bodyE (P := Try.prog) (Γ := Γn) [c7, S8] (L5 ⟨mo, acts, 0, [], [], [], 0⟩) false 146 [.tmp 4] (bodyOf Try.f5) (A5 mo acts) [] =
  Tree.br (bif decide (mo < (1 : Int)) then true else decide ((4096 : Int) < mo))
  (Tree.br true (Tree.leaf (Ans.mk (AV.v (Value.bool true)) []))
    (Tree.chk
      (cl
        (LeL
            [AV.v (Value.int IntKind.i64 mo), AV.sl (5 : Nat) (List.length acts) (lsF Act.c acts),
              AV.v (Value.pointer none), AV.hs (0 : Nat) (0 : Nat) (0 : Nat), AV.v (Value.int IntKind.i64 (0 : Int)),
              AV.v (Value.bool false)]
            [AV.v (Value.int IntKind.i64 mo),
              AV.sl (5 : Nat) (List.length (X5.mk mo acts (0 : Int) [] [] [] (0 : Nat)).acts)
                (lsF Act.c (X5.mk mo acts (0 : Int) [] [] [] (0 : Nat)).acts),
              AV.ptr (0 : Nat) (0 : Nat), AV.hs (2 : Nat) (0 : Nat) (0 : Nat),
              AV.v (Value.int IntKind.i64 (↑(0 : Nat) : Int)), AV.any] ∧
          LeH
            [some
                (Blk.arr (3 : Nat) (0 : Nat) fun x =>
                  [AV.v (Value.int IntKind.i64 (0 : Int)), AV.v (Value.int IntKind.i64 (0 : Int)),
                    AV.v (Value.string (ByteArray.mk #[]))])]
            [some
                (Blk.row
                  [AV.v (Value.int IntKind.i64 mo), AV.v (Value.int IntKind.i64 (0 : Int)),
                    AV.hs (1 : Nat) (0 : Nat) (0 : Nat)]),
              some
                (Blk.arr (3 : Nat) (0 : Nat)
                  (lsF It.c
                    ((X5.mk mo acts (0 : Int) [] [] [] (0 : Nat)).l ++
                      (X5.mk mo acts (0 : Int) [] [] [] (0 : Nat)).j))),
              some (Blk.arr (3 : Nat) (0 : Nat) (lsF It.c (X5.mk mo acts (0 : Int) [] [] [] (0 : Nat)).sent))]))
      (Tree.leaf (Ans.mk (AV.v (Value.bool true)) []))))
  (Tree.br (decide ((100 : Int) < (↑(List.length acts) : Int))) (Tree.leaf (Ans.mk (AV.v (Value.bool true)) []))
    (Tree.chk
      (cl
        (LeL
            [AV.v (Value.int IntKind.i64 mo), AV.sl (5 : Nat) (List.length acts) (lsF Act.c acts),
              AV.ptr (0 : Nat) (0 : Nat), AV.hs (2 : Nat) (0 : Nat) (0 : Nat), AV.v (Value.int IntKind.i64 (0 : Int)),
              AV.v (Value.bool false)]
            [AV.v (Value.int IntKind.i64 mo),
              AV.sl (5 : Nat) (List.length (X5.mk mo acts (0 : Int) [] [] [] (0 : Nat)).acts)
                (lsF Act.c (X5.mk mo acts (0 : Int) [] [] [] (0 : Nat)).acts),
              AV.ptr (0 : Nat) (0 : Nat), AV.hs (2 : Nat) (0 : Nat) (0 : Nat),
              AV.v (Value.int IntKind.i64 (↑(0 : Nat) : Int)), AV.any] ∧
          LeH
            [some
                (Blk.row
                  [AV.v (Value.int IntKind.i64 mo), AV.v (Value.int IntKind.i64 (0 : Int)),
                    AV.hs (1 : Nat) (0 : Nat) (0 : Nat)]),
              some
                (Blk.arr (3 : Nat) (0 : Nat) fun x =>
                  [AV.v (Value.int IntKind.i64 (0 : Int)), AV.v (Value.int IntKind.i64 (0 : Int)),
                    AV.v (Value.string (ByteArray.mk #[]))]),
              some
                (Blk.arr (3 : Nat) (0 : Nat) fun x =>
                  [AV.v (Value.int IntKind.i64 (0 : Int)), AV.v (Value.int IntKind.i64 (0 : Int)),
                    AV.v (Value.string (ByteArray.mk #[]))])]
            [some
                (Blk.row
                  [AV.v (Value.int IntKind.i64 mo), AV.v (Value.int IntKind.i64 (0 : Int)),
                    AV.hs (1 : Nat) (0 : Nat) (0 : Nat)]),
              some
                (Blk.arr (3 : Nat) (0 : Nat)
                  (lsF It.c
                    ((X5.mk mo acts (0 : Int) [] [] [] (0 : Nat)).l ++
                      (X5.mk mo acts (0 : Int) [] [] [] (0 : Nat)).j))),
              some (Blk.arr (3 : Nat) (0 : Nat) (lsF It.c (X5.mk mo acts (0 : Int) [] [] [] (0 : Nat)).sent))]))
      (Tree.leaf (Ans.mk (AV.v (Value.bool true)) [])))) := by kernel_rfl
theorem law5ok (mo : Int) (acts : List Act) : LawOK Try.prog Γn 146 [.tmp 4] (bodyOf Try.f5) (A5 mo acts) := by
  by_cases h1 : 100 < acts.length ∨ mo < 1 ∨ 4096 < mo
  · refine .mk' (T := [c7, S8]) (ip := false) (L := Lno) (failOK fun _ _ _ => rfl) (Right.of (law5no mo acts) ?_)
    simp only [Bool.false_eq_true, Bool.true_eq_false, not_true_eq_false, not_false_eq_true, false_implies, true_implies, implies_true, Nat.blt_eq, owesN, owesX, owesR, Bool.not_eq_true', Bool.not_eq_false', Bool.and_eq_false_iff, sat_brT, sat_brF, sat_chkT, cl_iff, cl_false, AV.le_refl, AV.le_any, OLe_refl, OLe_none, Tree.sat_br, Tree.sat_chk, Tree.sat_leaf, Tree.sat_fail, Nat.zero_add, Nat.sub_zero, Int.toNat_natCast, LeH_cons, LeH_nil, LeL_cons, LeL_nil, and_true, true_and, Bool.and_eq_true, Bool.or_eq_true, Bool.or_eq_false_iff, decide_eq_true_eq, decide_eq_false_iff_not, Bool.cond_true_left, Bool.cond_false_right, List.cons_append, List.nil_append, List.map_cons, List.map_nil]
    repeat' (first | apply And.intro | intro _hc)
    all_goals first | omega | contradiction | exact AV.le_refl _ | exact AV.le_any _ | exact OLe.refl _ | exact OLe.none _ | exact LeH.refl _ | exact LeL.refl _ | exact AV.le.bs _ | exact AV.le.sb _ | (exfalso; omega) | contradiction
  have hp : pre5 mo acts ⟨mo, acts, 0, [], [], [], 0⟩ := ⟨rfl, rfl, Nat.zero_le _, Int.le_refl _, Int.le_refl _, show (0 : Int) ≤ mo by omega, Nat.le_refl _, fun y hy => hy⟩
  have hl := loop51 (by omega) (by omega) _ hp
  have hN : ∀ (f : Nat → List AV), (∀ e, (f e).length = 3) → OLe (some (.arr 3 0 f)) (some (.arr 3 0 (lsF It.c (([] : List It) ++ [])))) := fun f _ => OLe.arr rfl (fun e he => absurd he (Nat.not_lt_zero e)) (fun _ => rfl)
  have hN' : ∀ (f : Nat → List AV), (∀ e, (f e).length = 3) → OLe (some (.arr 3 0 f)) (some (.arr 3 0 (lsF It.c ([] : List It)))) := fun f _ => OLe.arr rfl (fun e he => absurd he (Nat.not_lt_zero e)) (fun _ => rfl)
  refine .mk' (T := [c7, S8]) (ip := false) (L := L5 ⟨mo, acts, 0, [], [], [], 0⟩) (threeLoops (b := lp5 0) (b' := lp5 1) (b2 := lp5 2) (by kernel_rfl) hl (fun _ _ _ h => by simp [L5, Tree.get] at h) (fun _ _ _ h => by simp [L5, Tree.get] at h)) (Right.of (law5 mo acts) ?_)
  simp only [Bool.false_eq_true, Bool.true_eq_false, not_true_eq_false, not_false_eq_true, false_implies, true_implies, implies_true, Nat.blt_eq, owesN, owesX, owesR, Bool.not_eq_true', Bool.not_eq_false', Bool.and_eq_false_iff, sat_brT, sat_brF, sat_chkT, cl_iff, cl_false, AV.le_refl, AV.le_any, OLe_refl, OLe_none, Tree.sat_br, Tree.sat_chk, Tree.sat_leaf, Tree.sat_fail, Nat.zero_add, Nat.sub_zero, Int.toNat_natCast, LeH_cons, LeH_nil, LeL_cons, LeL_nil, and_true, true_and, Bool.and_eq_true, Bool.or_eq_true, Bool.or_eq_false_iff, decide_eq_true_eq, decide_eq_false_iff_not, Bool.cond_true_left, Bool.cond_false_right, List.cons_append, List.nil_append, List.map_cons, List.map_nil]
  repeat' (first | apply And.intro | intro _hc)
  all_goals first | omega | contradiction | exact AV.le_refl _ | exact AV.le_any _ | exact OLe.refl _ | exact OLe.none _ | exact LeH.refl _ | exact LeL.refl _ | exact AV.le.bs _ | exact AV.le.sb _ | exact hN _ (fun _ => rfl) | exact hN' _ (fun _ => rfl) | (exfalso; omega) | contradiction
noncomputable def c5 : CT Try.prog Γn := CT.lawE (fun x : Int × List Act => A5 x.1 x.2) (fun _ => True) 5 Try.f5 (bodyOf Try.f5) 146 [.tmp 4] Try.func5 (by kernel_rfl) (by kernel_rfl) (by kernel_rfl) (by kernel_rfl) (fun _ _ => by simp [A5]) (fun x _ => law5ok x.1 x.2)
def Act.cells (x : Act) : List Value := [.int .i64 x.k, .int .i64 x.i, .int .i64 x.x.a, .int .i64 x.x.b, .string x.x.t]
theorem actDec (vs : List Value) (h : GoodVs [.int .i64, .int .i64, .int .i64, .int .i64, .str] vs) : ∃ a : Act, vs = a.cells := by
  obtain ⟨_, _, rfl, ⟨k, rfl, _⟩, h1⟩ := h.cons
  obtain ⟨_, _, rfl, ⟨i, rfl, _⟩, h2⟩ := h1.cons
  obtain ⟨_, _, rfl, ⟨a, rfl, _⟩, h3⟩ := h2.cons
  obtain ⟨_, _, rfl, ⟨b, rfl, _⟩, h4⟩ := h3.cons
  obtain ⟨_, _, rfl, ⟨t, rfl, _⟩, h5⟩ := h4.cons
  obtain rfl := h5.nil
  exact ⟨⟨k, i, ⟨a, b, t⟩⟩, rfl⟩
end Go.Eng.N
