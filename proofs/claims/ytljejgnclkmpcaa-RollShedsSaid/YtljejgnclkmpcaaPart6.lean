/- RollSheds holds at every input: no condition beyond the row own cells. -/
import Derived.Test.YtljejgnclkmpcaaPart5
import Derived.Test.YtljejgnclkmpcaaRows
import Derived.ProofKit
import Derived.LaidMore
import Derived.OpenShut
import Derived.Stop.Joined
set_option linter.unnecessarySimpa false
set_option linter.unusedSectionVars false
set_option linter.unusedSimpArgs false
set_option linter.unusedVariables false
namespace Go.Eng.SB.B
open Go Go.Eng Go.Eng.SB Go.Eng.SB.T Go.Lib Go.Proofs
structure Tq where
  fi : Int
  fa : Int
  o : Nat
  n : Nat
  N : Nat
  g : Nat → Int
@[reducible] def Tq.row (x : Tq) (i : Nat) : Blk := .row [.v (.int .i64 4194304), .v (.int .i64 x.fi), .v (.int .i64 x.fa), .hs i x.o x.n, .v (.int .i64 (-1)), .v (.bool false)]
@[reducible] def Tq.arr (x : Tq) : Blk := .arr 1 x.N (bF x.g)
@[reducible] def Tq.bl (x : Tq) : List Blk := [x.row 1, x.arr]
theorem qOn (x : Tq) : bodyE (P := Try.prog) (Γ := Γb) [] Lno false 12 [.tmp 2] (bodyOf Try.f17) [.ptr 0 0] x.bl =
  Tree.leaf (Ans.mk (AV.v (Value.bool true)) [some (Blk.row [AV.v (Value.int IntKind.i64 (4194304 : Int)), AV.v (Value.int IntKind.i64 x.fi), AV.v (Value.int IntKind.i64 x.fa), AV.hs (1 : Nat)
    x.o x.n, AV.v (Value.int IntKind.i64 (-1 : Int)), AV.v (Value.bool false)]), some (Blk.arr (1 : Nat) x.N fun j => [AV.v (Value.int IntKind.u8 (x.g j))])]) := by kernel_rfl
theorem qPl (x : Tq) : bodyE (P := Try.prog) (Γ := Γb) [k77] Lno false 17 [.tmp 2, .tmp 3, .tmp 4] (bodyOf Try.f20) [.ptr 0 0] x.bl =
  Tree.chk (cl True) (Tree.leaf (Ans.mk (AV.tup [AV.v (Value.int IntKind.i64 x.fi), AV.v (Value.int IntKind.i64 x.fa), AV.v (Value.int IntKind.i64 (IntKind.wrap IntKind.i64 (x.fi + (↑x.n :
    Int))))]) [some (Blk.row [AV.v (Value.int IntKind.i64 (4194304 : Int)), AV.v (Value.int IntKind.i64 x.fi), AV.v (Value.int IntKind.i64 x.fa), AV.hs (1 : Nat) x.o x.n, AV.v (Value.int
    IntKind.i64 (-1 : Int)), AV.v (Value.bool false)]), some (Blk.arr (1 : Nat) x.N fun j => [AV.v (Value.int IntKind.u8 (x.g j))])])) := by kernel_rfl
theorem qHo (x : Tq) : bodyE (P := Try.prog) (Γ := Γb) [k78, k118, k77] Lno false 18 [.tmp 2] (bodyOf Try.f74) [.ptr 0 0] x.bl =
  Tree.br true (Tree.br false (Tree.br false (Tree.chk (cl True) (Tree.leaf (Ans.mk (AV.v (Value.int IntKind.i64 (170 : Int))) [some (Blk.row [AV.v (Value.int IntKind.i64 (4194304 : Int)),
    AV.v (Value.int IntKind.i64 x.fi), AV.v (Value.int IntKind.i64 (IntKind.wrap IntKind.i64 (x.fi + (↑x.n : Int)))), AV.hs (1 : Nat) x.o x.n, AV.v (Value.int IntKind.i64 (-1 : Int)), AV.v
    (Value.bool true)]), some (Blk.arr (1 : Nat) x.N fun j => [AV.v (Value.int IntKind.u8 (x.g j))])]))) (Tree.leaf (Ans.mk (AV.v (Value.int IntKind.i64 (170 : Int))) [some (Blk.row [AV.v
    (Value.int IntKind.i64 (4194304 : Int)), AV.v (Value.int IntKind.i64 x.fi), AV.v (Value.int IntKind.i64 x.fa), AV.hs (1 : Nat) x.o x.n, AV.v (Value.int IntKind.i64 (-1 : Int)), AV.v
    (Value.bool true)]), some (Blk.arr (1 : Nat) x.N fun j => [AV.v (Value.int IntKind.u8 (x.g j))])]))) (Tree.br false (Tree.br true (Tree.chk (cl True) (Tree.leaf (Ans.mk (AV.v (Value.int
    IntKind.i64 (0 : Int))) [some (Blk.row [AV.v (Value.int IntKind.i64 (4194304 : Int)), AV.v (Value.int IntKind.i64 x.fi), AV.v (Value.int IntKind.i64 (IntKind.wrap IntKind.i64 (x.fi +
    (↑x.n : Int)))), AV.hs (1 : Nat) x.o x.n, AV.v (Value.int IntKind.i64 (IntKind.wrap IntKind.i64 ((-1 : Int) - (1 : Int)))), AV.v (Value.bool false)]), some (Blk.arr (1 : Nat) x.N fun j
    => [AV.v (Value.int IntKind.u8 (x.g j))])]))) (Tree.leaf (Ans.mk (AV.v (Value.int IntKind.i64 (0 : Int))) [some (Blk.row [AV.v (Value.int IntKind.i64 (4194304 : Int)), AV.v (Value.int
    IntKind.i64 x.fi), AV.v (Value.int IntKind.i64 x.fa), AV.hs (1 : Nat) x.o x.n, AV.v (Value.int IntKind.i64 (IntKind.wrap IntKind.i64 ((-1 : Int) - (1 : Int)))), AV.v (Value.bool
    false)]), some (Blk.arr (1 : Nat) x.N fun j => [AV.v (Value.int IntKind.u8 (x.g j))])]))) (Tree.br true (Tree.chk (cl True) (Tree.leaf (Ans.mk (AV.v (Value.int IntKind.i64 (0 : Int)))
    [some (Blk.row [AV.v (Value.int IntKind.i64 (4194304 : Int)), AV.v (Value.int IntKind.i64 x.fi), AV.v (Value.int IntKind.i64 (IntKind.wrap IntKind.i64 (x.fi + (↑x.n : Int)))), AV.hs (1 :
    Nat) x.o x.n, AV.v (Value.int IntKind.i64 (-1 : Int)), AV.v (Value.bool false)]), some (Blk.arr (1 : Nat) x.N fun j => [AV.v (Value.int IntKind.u8 (x.g j))])]))) (Tree.leaf (Ans.mk (AV.v
    (Value.int IntKind.i64 (0 : Int))) [some (Blk.row [AV.v (Value.int IntKind.i64 (4194304 : Int)), AV.v (Value.int IntKind.i64 x.fi), AV.v (Value.int IntKind.i64 x.fa), AV.hs (1 : Nat) x.o
    x.n, AV.v (Value.int IntKind.i64 (-1 : Int)), AV.v (Value.bool false)]), some (Blk.arr (1 : Nat) x.N fun j => [AV.v (Value.int IntKind.u8 (x.g j))])]))))) (Tree.br true (Tree.chk (cl
    True) (Tree.leaf (Ans.mk (AV.v (Value.int IntKind.i64 (0 : Int))) [some (Blk.row [AV.v (Value.int IntKind.i64 (4194304 : Int)), AV.v (Value.int IntKind.i64 x.fi), AV.v (Value.int
    IntKind.i64 (IntKind.wrap IntKind.i64 (x.fi + (↑x.n : Int)))), AV.hs (1 : Nat) x.o x.n, AV.v (Value.int IntKind.i64 (-1 : Int)), AV.v (Value.bool false)]), some (Blk.arr (1 : Nat) x.N
    fun j => [AV.v (Value.int IntKind.u8 (x.g j))])]))) (Tree.leaf (Ans.mk (AV.v (Value.int IntKind.i64 (0 : Int))) [some (Blk.row [AV.v (Value.int IntKind.i64 (4194304 : Int)), AV.v
    (Value.int IntKind.i64 x.fi), AV.v (Value.int IntKind.i64 x.fa), AV.hs (1 : Nat) x.o x.n, AV.v (Value.int IntKind.i64 (-1 : Int)), AV.v (Value.bool false)]), some (Blk.arr (1 : Nat) x.N
    fun j => [AV.v (Value.int IntKind.u8 (x.g j))])]))) := by kernel_rfl
theorem qSh (x : Tq) (p : Int) : bodyE (P := Try.prog) (Γ := Γb) [k78, k119] Lno false 44 [.tmp 4] (bodyOf Try.f75) [.ptr 0 0, .v (.int .i64 p)] x.bl =
  Tree.br false (Tree.leaf (Ans.mk (AV.v (Value.int IntKind.i64 (0 : Int))) [some (Blk.row [AV.v (Value.int IntKind.i64 (4194304 : Int)), AV.v (Value.int IntKind.i64 x.fi), AV.v (Value.int
    IntKind.i64 x.fa), AV.hs (1 : Nat) x.o x.n, AV.v (Value.int IntKind.i64 (-1 : Int)), AV.v (Value.bool false)]), some (Blk.arr (1 : Nat) x.N fun j => [AV.v (Value.int IntKind.u8 (x.g
    j))])])) (Tree.br (bif decide (p < x.fi) then true else decide (x.fa < p)) (Tree.br false (Tree.chk (decide ((0 : Int) ≤ IntKind.wrap IntKind.i64 (p - x.fi)) && decide (IntKind.wrap
    IntKind.i64 (p - x.fi) ≤ (↑x.n : Int)) && decide ((↑x.n : Int) ≤ (↑x.n : Int))) (Tree.leaf (Ans.mk (AV.v (Value.int IntKind.i64 (240 : Int))) [some (Blk.row [AV.v (Value.int IntKind.i64
    (4194304 : Int)), AV.v (Value.int IntKind.i64 p), AV.v (Value.int IntKind.i64 x.fa), AV.hs (1 : Nat) (x.o + Int.toNat (IntKind.wrap IntKind.i64 (p - x.fi))) (x.n - Int.toNat
    (IntKind.wrap IntKind.i64 (p - x.fi))), AV.v (Value.int IntKind.i64 (-1 : Int)), AV.v (Value.bool false)]), some (Blk.arr (1 : Nat) x.N fun j => [AV.v (Value.int IntKind.u8 (x.g
    j))])]))) (Tree.leaf (Ans.mk (AV.v (Value.int IntKind.i64 (240 : Int))) [some (Blk.row [AV.v (Value.int IntKind.i64 (4194304 : Int)), AV.v (Value.int IntKind.i64 x.fi), AV.v (Value.int
    IntKind.i64 x.fa), AV.hs (1 : Nat) x.o x.n, AV.v (Value.int IntKind.i64 (-1 : Int)), AV.v (Value.bool false)]), some (Blk.arr (1 : Nat) x.N fun j => [AV.v (Value.int IntKind.u8 (x.g
    j))])]))) (Tree.br false (Tree.br false (Tree.chk (decide ((0 : Int) ≤ IntKind.wrap IntKind.i64 (p - x.fi)) && decide (IntKind.wrap IntKind.i64 (p - x.fi) ≤ (↑x.n : Int)) && decide
    ((↑x.n : Int) ≤ (↑x.n : Int))) (Tree.leaf (Ans.mk (AV.v (Value.int IntKind.i64 (170 : Int))) [some (Blk.row [AV.v (Value.int IntKind.i64 (4194304 : Int)), AV.v (Value.int IntKind.i64 p),
    AV.v (Value.int IntKind.i64 x.fa), AV.hs (1 : Nat) (x.o + Int.toNat (IntKind.wrap IntKind.i64 (p - x.fi))) (x.n - Int.toNat (IntKind.wrap IntKind.i64 (p - x.fi))), AV.v (Value.int
    IntKind.i64 (-1 : Int)), AV.v (Value.bool true)]), some (Blk.arr (1 : Nat) x.N fun j => [AV.v (Value.int IntKind.u8 (x.g j))])]))) (Tree.leaf (Ans.mk (AV.v (Value.int IntKind.i64 (170 :
    Int))) [some (Blk.row [AV.v (Value.int IntKind.i64 (4194304 : Int)), AV.v (Value.int IntKind.i64 x.fi), AV.v (Value.int IntKind.i64 x.fa), AV.hs (1 : Nat) x.o x.n, AV.v (Value.int
    IntKind.i64 (-1 : Int)), AV.v (Value.bool true)]), some (Blk.arr (1 : Nat) x.N fun j => [AV.v (Value.int IntKind.u8 (x.g j))])]))) (Tree.br false (Tree.br true (Tree.chk (decide ((0 :
    Int) ≤ IntKind.wrap IntKind.i64 (p - x.fi)) && decide (IntKind.wrap IntKind.i64 (p - x.fi) ≤ (↑x.n : Int)) && decide ((↑x.n : Int) ≤ (↑x.n : Int))) (Tree.leaf (Ans.mk (AV.v (Value.int
    IntKind.i64 (0 : Int))) [some (Blk.row [AV.v (Value.int IntKind.i64 (4194304 : Int)), AV.v (Value.int IntKind.i64 p), AV.v (Value.int IntKind.i64 x.fa), AV.hs (1 : Nat) (x.o + Int.toNat
    (IntKind.wrap IntKind.i64 (p - x.fi))) (x.n - Int.toNat (IntKind.wrap IntKind.i64 (p - x.fi))), AV.v (Value.int IntKind.i64 (IntKind.wrap IntKind.i64 ((-1 : Int) - (1 : Int)))), AV.v
    (Value.bool false)]), some (Blk.arr (1 : Nat) x.N fun j => [AV.v (Value.int IntKind.u8 (x.g j))])]))) (Tree.leaf (Ans.mk (AV.v (Value.int IntKind.i64 (0 : Int))) [some (Blk.row [AV.v
    (Value.int IntKind.i64 (4194304 : Int)), AV.v (Value.int IntKind.i64 x.fi), AV.v (Value.int IntKind.i64 x.fa), AV.hs (1 : Nat) x.o x.n, AV.v (Value.int IntKind.i64 (IntKind.wrap
    IntKind.i64 ((-1 : Int) - (1 : Int)))), AV.v (Value.bool false)]), some (Blk.arr (1 : Nat) x.N fun j => [AV.v (Value.int IntKind.u8 (x.g j))])]))) (Tree.br true (Tree.chk (decide ((0 :
    Int) ≤ IntKind.wrap IntKind.i64 (p - x.fi)) && decide (IntKind.wrap IntKind.i64 (p - x.fi) ≤ (↑x.n : Int)) && decide ((↑x.n : Int) ≤ (↑x.n : Int))) (Tree.leaf (Ans.mk (AV.v (Value.int
    IntKind.i64 (0 : Int))) [some (Blk.row [AV.v (Value.int IntKind.i64 (4194304 : Int)), AV.v (Value.int IntKind.i64 p), AV.v (Value.int IntKind.i64 x.fa), AV.hs (1 : Nat) (x.o + Int.toNat
    (IntKind.wrap IntKind.i64 (p - x.fi))) (x.n - Int.toNat (IntKind.wrap IntKind.i64 (p - x.fi))), AV.v (Value.int IntKind.i64 (-1 : Int)), AV.v (Value.bool false)]), some (Blk.arr (1 :
    Nat) x.N fun j => [AV.v (Value.int IntKind.u8 (x.g j))])]))) (Tree.leaf (Ans.mk (AV.v (Value.int IntKind.i64 (0 : Int))) [some (Blk.row [AV.v (Value.int IntKind.i64 (4194304 : Int)),
    AV.v (Value.int IntKind.i64 x.fi), AV.v (Value.int IntKind.i64 x.fa), AV.hs (1 : Nat) x.o x.n, AV.v (Value.int IntKind.i64 (-1 : Int)), AV.v (Value.bool false)]), some (Blk.arr (1 : Nat)
    x.N fun j => [AV.v (Value.int IntKind.u8 (x.g j))])])))))) := by kernel_rfl
def ClOK (x : Tq) : Prop := Answers Try.prog Γb 79 [.hs 0 x.o x.n] [.arr 1 x.N (bF x.g)] (.hs 1 0 x.n) [some (.arr 1 x.N (bF x.g))] [.arr 1 x.n (bF fun j => x.g (x.o + j))]
theorem qRd (x : Tq) (h : ClOK x) : bodyE (P := Try.prog) (Γ := Γb) [k78, CT.at 79 h] Lno false 20 [.tmp 2, .tmp 3, .tmp 4] (bodyOf Try.f19) [.ptr 0 0] x.bl =
  Tree.br false (Tree.leaf (Ans.mk (AV.tup [AV.v (Value.int IntKind.i64 (0 : Int)), AV.v (Value.slice none (0 : Nat) (0 : Nat)), AV.v (Value.int IntKind.i64 (0 : Int))]) [some (Blk.row [AV.v
    (Value.int IntKind.i64 (4194304 : Int)), AV.v (Value.int IntKind.i64 x.fi), AV.v (Value.int IntKind.i64 x.fa), AV.hs (1 : Nat) x.o x.n, AV.v (Value.int IntKind.i64 (-1 : Int)), AV.v
    (Value.bool false)]), some (Blk.arr (1 : Nat) x.N fun j => [AV.v (Value.int IntKind.u8 (x.g j))])])) (Tree.chk (cl (LeL [AV.hs (0 : Nat) x.o x.n] [AV.hs (0 : Nat) x.o x.n] ∧ LeH [some
    (Blk.arr (1 : Nat) x.N fun j => [AV.v (Value.int IntKind.u8 (x.g j))])] [some (Blk.arr (1 : Nat) x.N fun j => [AV.v (Value.int IntKind.u8 (x.g j))])])) (Tree.leaf (Ans.mk (AV.tup [AV.v
    (Value.int IntKind.i64 x.fi), AV.hs (2 : Nat) (0 : Nat) x.n, AV.v (Value.int IntKind.i64 (0 : Int))]) [some (Blk.row [AV.v (Value.int IntKind.i64 (4194304 : Int)), AV.v (Value.int
    IntKind.i64 x.fi), AV.v (Value.int IntKind.i64 x.fa), AV.hs (1 : Nat) x.o x.n, AV.v (Value.int IntKind.i64 (-1 : Int)), AV.v (Value.bool false)]), some (Blk.arr (1 : Nat) x.N fun j =>
    [AV.v (Value.int IntKind.u8 (x.g j))]), some (Blk.arr (1 : Nat) x.n fun j => [AV.v (Value.int IntKind.u8 (x.g (x.o + j)))])]))) := by kernel_rfl
def ClZ (x : Tq) : Prop := Answers Try.prog Γb 79 [.hs 0 x.o 0] [.arr 1 x.N (bF x.g)] (.hs 1 0 0) [some (.arr 1 x.N (bF x.g))] [.arr 1 0 fun _ => [.v (.int .u8 0)]]
@[reducible] def Tq.z (x : Tq) : Tq := { x with n := 0 }
theorem qRdZ (x : Tq) (h : ClZ x) : bodyE (P := Try.prog) (Γ := Γb) [k78, CT.at 79 h] Lno false 20 [.tmp 2, .tmp 3, .tmp 4] (bodyOf Try.f19) [.ptr 0 0] x.z.bl =
  Tree.br false (Tree.leaf (Ans.mk (AV.tup [AV.v (Value.int IntKind.i64 (0 : Int)), AV.v (Value.slice none (0 : Nat) (0 : Nat)), AV.v (Value.int IntKind.i64 (0 : Int))]) [some (Blk.row [AV.v
    (Value.int IntKind.i64 (4194304 : Int)), AV.v (Value.int IntKind.i64 x.fi), AV.v (Value.int IntKind.i64 x.fa), AV.hs (1 : Nat) x.o (0 : Nat), AV.v (Value.int IntKind.i64 (-1 : Int)),
    AV.v (Value.bool false)]), some (Blk.arr (1 : Nat) x.N fun j => [AV.v (Value.int IntKind.u8 ((Tq.z x).g j))])])) (Tree.chk (cl (LeL [AV.hs (0 : Nat) x.o (0 : Nat)] [AV.hs (0 : Nat) x.o
    (0 : Nat)] ∧ LeH [some (Blk.arr (1 : Nat) x.N fun j => [AV.v (Value.int IntKind.u8 ((Tq.z x).g j))])] [some (Blk.arr (1 : Nat) x.N fun j => [AV.v (Value.int IntKind.u8 (x.g j))])]))
    (Tree.leaf (Ans.mk (AV.tup [AV.v (Value.int IntKind.i64 x.fi), AV.hs (2 : Nat) (0 : Nat) (0 : Nat), AV.v (Value.int IntKind.i64 (0 : Int))]) [some (Blk.row [AV.v (Value.int IntKind.i64
    (4194304 : Int)), AV.v (Value.int IntKind.i64 x.fi), AV.v (Value.int IntKind.i64 x.fa), AV.hs (1 : Nat) x.o (0 : Nat), AV.v (Value.int IntKind.i64 (-1 : Int)), AV.v (Value.bool false)]),
    some (Blk.arr (1 : Nat) x.N fun j => [AV.v (Value.int IntKind.u8 (x.g j))]), some (Blk.arr (1 : Nat) (0 : Nat) fun x => [AV.v (Value.int IntKind.u8 (0 : Int))])]))) := by kernel_rfl
theorem qNew  : bodyE (P := Try.prog) (Γ := Γb) [] Lno false 13 [.tmp 2, .tmp 3] (bodyOf Try.f14) [.v (.int .i64 4194304)] [] =
  Tree.br false (Tree.leaf (Ans.mk (AV.tup [AV.v (Value.pointer none), AV.v (Value.int IntKind.i64 (1 : Int))]) [])) (Tree.leaf (Ans.mk (AV.tup [AV.ptr (0 : Nat) (0 : Nat), AV.v (Value.int
    IntKind.i64 (0 : Int))]) [some (Blk.row [AV.v (Value.int IntKind.i64 (4194304 : Int)), AV.v (Value.int IntKind.i64 (0 : Int)), AV.v (Value.int IntKind.i64 (0 : Int)), AV.v (Value.slice
    none (0 : Nat) (0 : Nat)), AV.v (Value.int IntKind.i64 (-1 : Int)), AV.v (Value.bool false)])])) := by kernel_rfl
noncomputable abbrev lpW : Code := loopOf (bodyOf Try.f73) 0
abbrev lvW : List Nat := [0, 4, 6, 30, 31, 32]
def wq (x : Tq) (s : ByteArray) (i : Nat) : Tq := ⟨x.fi, x.fa, 0, x.n + i, x.n + i, fun j => if j < x.n then x.g (x.o + j) else sbyte s (j - x.n)⟩
@[reducible] def w0 (x : Tq) (s : ByteArray) : List Blk := [x.row 1, x.arr, .arr 1 s.size (bsF s)]
@[reducible] def w3 (x : Tq) (s : ByteArray) : Heap := [some (x.row 3), none, some (.arr 1 s.size (bsF s)), some x.arr]
@[reducible] def slW (s : ByteArray) (i : Nat) : List AV := [.ptr 0 0, .any, .fn 118 [.ptr 0 0] [], .hs 2 0 s.size, .v (.int .i64 (s.size : Int)), .v (.int .i64 (i : Int))]
theorem qW0 (x : Tq) (s : ByteArray) : roundE (P := Try.prog) (Γ := Γb) [k118] Lno false 3 0 lpW lvW [] 52 (slW s 0) ((w0 x s).map some) =
  Tree.br (decide ((↑(0 : Nat) : Int) < (↑(ByteArray.size s) : Int))) (Tree.chk (decide ((↑(0 : Nat) : Int) < (↑(ByteArray.size s) : Int))) (Tree.br false (Tree.br true (Tree.leaf (Out.mk
    AEx.ret [AV.ptr (0 : Nat) (0 : Nat), AV.v (Value.int IntKind.i64 (170 : Int)), AV.fn (118 : FuncId) [AV.ptr (0 : Nat) (0 : Nat)] [], AV.hs (2 : Nat) (0 : Nat) (ByteArray.size s), AV.v
    (Value.int IntKind.i64 (↑(ByteArray.size s) : Int)), AV.v (Value.int IntKind.i64 (↑(0 : Nat) : Int))] [some (Blk.row [AV.v (Value.int IntKind.i64 (4194304 : Int)), AV.v (Value.int
    IntKind.i64 x.fi), AV.v (Value.int IntKind.i64 x.fa), AV.hs (1 : Nat) x.o x.n, AV.v (Value.int IntKind.i64 (-1 : Int)), AV.v (Value.bool true)]), some (Blk.arr (1 : Nat) x.N fun j =>
    [AV.v (Value.int IntKind.u8 (x.g j))]), some (Blk.arr (1 : Nat) (ByteArray.size s) (bsF s))])) (Tree.chk (roomOk (1 : Nat) (x.n + (1 : Nat))) (Tree.leaf (Out.mk AEx.normal [AV.ptr (0 :
    Nat) (0 : Nat), AV.any, AV.fn (118 : FuncId) [AV.ptr (0 : Nat) (0 : Nat)] [], AV.hs (2 : Nat) (0 : Nat) (ByteArray.size s), AV.v (Value.int IntKind.i64 (↑(ByteArray.size s) : Int)), AV.v
    (Value.int IntKind.i64 (IntKind.wrap IntKind.i64 ((↑(0 : Nat) : Int) + (1 : Int))))] [some (Blk.row [AV.v (Value.int IntKind.i64 (4194304 : Int)), AV.v (Value.int IntKind.i64 x.fi), AV.v
    (Value.int IntKind.i64 x.fa), AV.hs (3 : Nat) (0 : Nat) (x.n + (1 : Nat)), AV.v (Value.int IntKind.i64 (-1 : Int)), AV.v (Value.bool true)]), none, some (Blk.arr (1 : Nat)
    (ByteArray.size s) (bsF s)), some (Blk.arr (1 : Nat) (x.n + (1 : Nat)) fun j => mixL (decide (j < x.n)) [AV.v (Value.int IntKind.u8 (x.g (x.o + j)))] (chain [AV.v (Value.int IntKind.u8
    (0 : Int))] (0 : Nat) [[AV.v (Value.int IntKind.u8 (sbyte s (0 : Nat)))]] ((0 : Nat) + (j - x.n))))])))) (Tree.br false (Tree.br false (Tree.leaf (Out.mk AEx.ret [AV.ptr (0 : Nat) (0 :
    Nat), AV.v (Value.int IntKind.i64 (0 : Int)), AV.fn (118 : FuncId) [AV.ptr (0 : Nat) (0 : Nat)] [], AV.hs (2 : Nat) (0 : Nat) (ByteArray.size s), AV.v (Value.int IntKind.i64
    (↑(ByteArray.size s) : Int)), AV.v (Value.int IntKind.i64 (↑(0 : Nat) : Int))] [some (Blk.row [AV.v (Value.int IntKind.i64 (4194304 : Int)), AV.v (Value.int IntKind.i64 x.fi), AV.v
    (Value.int IntKind.i64 x.fa), AV.hs (1 : Nat) x.o x.n, AV.v (Value.int IntKind.i64 (IntKind.wrap IntKind.i64 ((-1 : Int) - (1 : Int)))), AV.v (Value.bool false)]), some (Blk.arr (1 :
    Nat) x.N fun j => [AV.v (Value.int IntKind.u8 (x.g j))]), some (Blk.arr (1 : Nat) (ByteArray.size s) (bsF s))])) (Tree.chk (roomOk (1 : Nat) (x.n + (1 : Nat))) (Tree.leaf (Out.mk
    AEx.normal [AV.ptr (0 : Nat) (0 : Nat), AV.any, AV.fn (118 : FuncId) [AV.ptr (0 : Nat) (0 : Nat)] [], AV.hs (2 : Nat) (0 : Nat) (ByteArray.size s), AV.v (Value.int IntKind.i64
    (↑(ByteArray.size s) : Int)), AV.v (Value.int IntKind.i64 (IntKind.wrap IntKind.i64 ((↑(0 : Nat) : Int) + (1 : Int))))] [some (Blk.row [AV.v (Value.int IntKind.i64 (4194304 : Int)), AV.v
    (Value.int IntKind.i64 x.fi), AV.v (Value.int IntKind.i64 x.fa), AV.hs (3 : Nat) (0 : Nat) (x.n + (1 : Nat)), AV.v (Value.int IntKind.i64 (IntKind.wrap IntKind.i64 ((-1 : Int) - (1 :
    Int)))), AV.v (Value.bool false)]), none, some (Blk.arr (1 : Nat) (ByteArray.size s) (bsF s)), some (Blk.arr (1 : Nat) (x.n + (1 : Nat)) fun j => mixL (decide (j < x.n)) [AV.v (Value.int
    IntKind.u8 (x.g (x.o + j)))] (chain [AV.v (Value.int IntKind.u8 (0 : Int))] (0 : Nat) [[AV.v (Value.int IntKind.u8 (sbyte s (0 : Nat)))]] ((0 : Nat) + (j - x.n))))])))) (Tree.br false
    (Tree.leaf (Out.mk AEx.ret [AV.ptr (0 : Nat) (0 : Nat), AV.v (Value.int IntKind.i64 (0 : Int)), AV.fn (118 : FuncId) [AV.ptr (0 : Nat) (0 : Nat)] [], AV.hs (2 : Nat) (0 : Nat)
    (ByteArray.size s), AV.v (Value.int IntKind.i64 (↑(ByteArray.size s) : Int)), AV.v (Value.int IntKind.i64 (↑(0 : Nat) : Int))] [some (Blk.row [AV.v (Value.int IntKind.i64 (4194304 :
    Int)), AV.v (Value.int IntKind.i64 x.fi), AV.v (Value.int IntKind.i64 x.fa), AV.hs (1 : Nat) x.o x.n, AV.v (Value.int IntKind.i64 (-1 : Int)), AV.v (Value.bool false)]), some (Blk.arr (1
    : Nat) x.N fun j => [AV.v (Value.int IntKind.u8 (x.g j))]), some (Blk.arr (1 : Nat) (ByteArray.size s) (bsF s))])) (Tree.chk (roomOk (1 : Nat) (x.n + (1 : Nat))) (Tree.leaf (Out.mk
    AEx.normal [AV.ptr (0 : Nat) (0 : Nat), AV.any, AV.fn (118 : FuncId) [AV.ptr (0 : Nat) (0 : Nat)] [], AV.hs (2 : Nat) (0 : Nat) (ByteArray.size s), AV.v (Value.int IntKind.i64
    (↑(ByteArray.size s) : Int)), AV.v (Value.int IntKind.i64 (IntKind.wrap IntKind.i64 ((↑(0 : Nat) : Int) + (1 : Int))))] [some (Blk.row [AV.v (Value.int IntKind.i64 (4194304 : Int)), AV.v
    (Value.int IntKind.i64 x.fi), AV.v (Value.int IntKind.i64 x.fa), AV.hs (3 : Nat) (0 : Nat) (x.n + (1 : Nat)), AV.v (Value.int IntKind.i64 (-1 : Int)), AV.v (Value.bool false)]), none,
    some (Blk.arr (1 : Nat) (ByteArray.size s) (bsF s)), some (Blk.arr (1 : Nat) (x.n + (1 : Nat)) fun j => mixL (decide (j < x.n)) [AV.v (Value.int IntKind.u8 (x.g (x.o + j)))] (chain [AV.v
    (Value.int IntKind.u8 (0 : Int))] (0 : Nat) [[AV.v (Value.int IntKind.u8 (sbyte s (0 : Nat)))]] ((0 : Nat) + (j - x.n))))]))))))) (Tree.leaf (Out.mk (AEx.exit (0 : Nat)) [AV.ptr (0 :
    Nat) (0 : Nat), AV.any, AV.fn (118 : FuncId) [AV.ptr (0 : Nat) (0 : Nat)] [], AV.hs (2 : Nat) (0 : Nat) (ByteArray.size s), AV.v (Value.int IntKind.i64 (↑(ByteArray.size s) : Int)), AV.v
    (Value.int IntKind.i64 (↑(0 : Nat) : Int))] [some (Blk.row [AV.v (Value.int IntKind.i64 (4194304 : Int)), AV.v (Value.int IntKind.i64 x.fi), AV.v (Value.int IntKind.i64 x.fa), AV.hs (1 :
    Nat) x.o x.n, AV.v (Value.int IntKind.i64 (-1 : Int)), AV.v (Value.bool false)]), some (Blk.arr (1 : Nat) x.N fun j => [AV.v (Value.int IntKind.u8 (x.g j))]), some (Blk.arr (1 : Nat)
    (ByteArray.size s) (bsF s))])) := by kernel_rfl
theorem qW3 (x : Tq) (s : ByteArray) (i : Nat) : roundE (P := Try.prog) (Γ := Γb) [k118] Lno false 3 0 lpW lvW [] 52 (slW s i) (w3 x s) =
  Tree.br (decide ((↑i : Int) < (↑(ByteArray.size s) : Int))) (Tree.chk (decide ((0 : Int) ≤ (↑i : Int)) && decide ((↑i : Int) < (↑(ByteArray.size s) : Int))) (Tree.br false (Tree.br true
    (Tree.leaf (Out.mk AEx.ret [AV.ptr (0 : Nat) (0 : Nat), AV.v (Value.int IntKind.i64 (170 : Int)), AV.fn (118 : FuncId) [AV.ptr (0 : Nat) (0 : Nat)] [], AV.hs (2 : Nat) (0 : Nat)
    (ByteArray.size s), AV.v (Value.int IntKind.i64 (↑(ByteArray.size s) : Int)), AV.v (Value.int IntKind.i64 (↑i : Int))] [some (Blk.row [AV.v (Value.int IntKind.i64 (4194304 : Int)), AV.v
    (Value.int IntKind.i64 x.fi), AV.v (Value.int IntKind.i64 x.fa), AV.hs (3 : Nat) x.o x.n, AV.v (Value.int IntKind.i64 (-1 : Int)), AV.v (Value.bool true)]), none, some (Blk.arr (1 : Nat)
    (ByteArray.size s) (bsF s)), some (Blk.arr (1 : Nat) x.N fun j => [AV.v (Value.int IntKind.u8 (x.g j))])])) (Tree.chk (roomOk (1 : Nat) (x.n + (1 : Nat))) (Tree.leaf (Out.mk AEx.normal
    [AV.ptr (0 : Nat) (0 : Nat), AV.any, AV.fn (118 : FuncId) [AV.ptr (0 : Nat) (0 : Nat)] [], AV.hs (2 : Nat) (0 : Nat) (ByteArray.size s), AV.v (Value.int IntKind.i64 (↑(ByteArray.size s)
    : Int)), AV.v (Value.int IntKind.i64 (IntKind.wrap IntKind.i64 ((↑i : Int) + (1 : Int))))] [some (Blk.row [AV.v (Value.int IntKind.i64 (4194304 : Int)), AV.v (Value.int IntKind.i64
    x.fi), AV.v (Value.int IntKind.i64 x.fa), AV.hs (3 : Nat) (0 : Nat) (x.n + (1 : Nat)), AV.v (Value.int IntKind.i64 (-1 : Int)), AV.v (Value.bool true)]), none, some (Blk.arr (1 : Nat)
    (ByteArray.size s) (bsF s)), some (Blk.arr (1 : Nat) (x.n + (1 : Nat)) fun j => mixL (decide (j < x.n)) [AV.v (Value.int IntKind.u8 (x.g (x.o + j)))] (chain [AV.v (Value.int IntKind.u8
    (0 : Int))] (0 : Nat) [[AV.v (Value.int IntKind.u8 (sbyte s ((0 : Nat) + i)))]] ((0 : Nat) + (j - x.n))))])))) (Tree.br false (Tree.br false (Tree.leaf (Out.mk AEx.ret [AV.ptr (0 : Nat)
    (0 : Nat), AV.v (Value.int IntKind.i64 (0 : Int)), AV.fn (118 : FuncId) [AV.ptr (0 : Nat) (0 : Nat)] [], AV.hs (2 : Nat) (0 : Nat) (ByteArray.size s), AV.v (Value.int IntKind.i64
    (↑(ByteArray.size s) : Int)), AV.v (Value.int IntKind.i64 (↑i : Int))] [some (Blk.row [AV.v (Value.int IntKind.i64 (4194304 : Int)), AV.v (Value.int IntKind.i64 x.fi), AV.v (Value.int
    IntKind.i64 x.fa), AV.hs (3 : Nat) x.o x.n, AV.v (Value.int IntKind.i64 (IntKind.wrap IntKind.i64 ((-1 : Int) - (1 : Int)))), AV.v (Value.bool false)]), none, some (Blk.arr (1 : Nat)
    (ByteArray.size s) (bsF s)), some (Blk.arr (1 : Nat) x.N fun j => [AV.v (Value.int IntKind.u8 (x.g j))])])) (Tree.chk (roomOk (1 : Nat) (x.n + (1 : Nat))) (Tree.leaf (Out.mk AEx.normal
    [AV.ptr (0 : Nat) (0 : Nat), AV.any, AV.fn (118 : FuncId) [AV.ptr (0 : Nat) (0 : Nat)] [], AV.hs (2 : Nat) (0 : Nat) (ByteArray.size s), AV.v (Value.int IntKind.i64 (↑(ByteArray.size s)
    : Int)), AV.v (Value.int IntKind.i64 (IntKind.wrap IntKind.i64 ((↑i : Int) + (1 : Int))))] [some (Blk.row [AV.v (Value.int IntKind.i64 (4194304 : Int)), AV.v (Value.int IntKind.i64
    x.fi), AV.v (Value.int IntKind.i64 x.fa), AV.hs (3 : Nat) (0 : Nat) (x.n + (1 : Nat)), AV.v (Value.int IntKind.i64 (IntKind.wrap IntKind.i64 ((-1 : Int) - (1 : Int)))), AV.v (Value.bool
    false)]), none, some (Blk.arr (1 : Nat) (ByteArray.size s) (bsF s)), some (Blk.arr (1 : Nat) (x.n + (1 : Nat)) fun j => mixL (decide (j < x.n)) [AV.v (Value.int IntKind.u8 (x.g (x.o +
    j)))] (chain [AV.v (Value.int IntKind.u8 (0 : Int))] (0 : Nat) [[AV.v (Value.int IntKind.u8 (sbyte s ((0 : Nat) + i)))]] ((0 : Nat) + (j - x.n))))])))) (Tree.br false (Tree.leaf (Out.mk
    AEx.ret [AV.ptr (0 : Nat) (0 : Nat), AV.v (Value.int IntKind.i64 (0 : Int)), AV.fn (118 : FuncId) [AV.ptr (0 : Nat) (0 : Nat)] [], AV.hs (2 : Nat) (0 : Nat) (ByteArray.size s), AV.v
    (Value.int IntKind.i64 (↑(ByteArray.size s) : Int)), AV.v (Value.int IntKind.i64 (↑i : Int))] [some (Blk.row [AV.v (Value.int IntKind.i64 (4194304 : Int)), AV.v (Value.int IntKind.i64
    x.fi), AV.v (Value.int IntKind.i64 x.fa), AV.hs (3 : Nat) x.o x.n, AV.v (Value.int IntKind.i64 (-1 : Int)), AV.v (Value.bool false)]), none, some (Blk.arr (1 : Nat) (ByteArray.size s)
    (bsF s)), some (Blk.arr (1 : Nat) x.N fun j => [AV.v (Value.int IntKind.u8 (x.g j))])])) (Tree.chk (roomOk (1 : Nat) (x.n + (1 : Nat))) (Tree.leaf (Out.mk AEx.normal [AV.ptr (0 : Nat) (0
    : Nat), AV.any, AV.fn (118 : FuncId) [AV.ptr (0 : Nat) (0 : Nat)] [], AV.hs (2 : Nat) (0 : Nat) (ByteArray.size s), AV.v (Value.int IntKind.i64 (↑(ByteArray.size s) : Int)), AV.v
    (Value.int IntKind.i64 (IntKind.wrap IntKind.i64 ((↑i : Int) + (1 : Int))))] [some (Blk.row [AV.v (Value.int IntKind.i64 (4194304 : Int)), AV.v (Value.int IntKind.i64 x.fi), AV.v
    (Value.int IntKind.i64 x.fa), AV.hs (3 : Nat) (0 : Nat) (x.n + (1 : Nat)), AV.v (Value.int IntKind.i64 (-1 : Int)), AV.v (Value.bool false)]), none, some (Blk.arr (1 : Nat)
    (ByteArray.size s) (bsF s)), some (Blk.arr (1 : Nat) (x.n + (1 : Nat)) fun j => mixL (decide (j < x.n)) [AV.v (Value.int IntKind.u8 (x.g (x.o + j)))] (chain [AV.v (Value.int IntKind.u8
    (0 : Int))] (0 : Nat) [[AV.v (Value.int IntKind.u8 (sbyte s ((0 : Nat) + i)))]] ((0 : Nat) + (j - x.n))))]))))))) (Tree.leaf (Out.mk (AEx.exit (0 : Nat)) [AV.ptr (0 : Nat) (0 : Nat),
    AV.any, AV.fn (118 : FuncId) [AV.ptr (0 : Nat) (0 : Nat)] [], AV.hs (2 : Nat) (0 : Nat) (ByteArray.size s), AV.v (Value.int IntKind.i64 (↑(ByteArray.size s) : Int)), AV.v (Value.int
    IntKind.i64 (↑i : Int))] [some (Blk.row [AV.v (Value.int IntKind.i64 (4194304 : Int)), AV.v (Value.int IntKind.i64 x.fi), AV.v (Value.int IntKind.i64 x.fa), AV.hs (3 : Nat) x.o x.n, AV.v
    (Value.int IntKind.i64 (-1 : Int)), AV.v (Value.bool false)]), none, some (Blk.arr (1 : Nat) (ByteArray.size s) (bsF s)), some (Blk.arr (1 : Nat) x.N fun j => [AV.v (Value.int IntKind.u8
    (x.g j))])])) := by kernel_rfl
theorem qW (x z : Tq) (s : ByteArray) : bodyE (P := Try.prog) (Γ := Γb) [k78] (fun _ => LSpec.at lvW [] (slW s 0, (w0 x s).map some) ⟨.exit 0, [.any, .any, .any, .any, .any, .any], w3 z s⟩) false 52 [.tmp 4] (bodyOf Try.f73) [.ptr 0 0, .hs 2 0 s.size] (w0 x s) =
  Tree.br false (Tree.leaf (Ans.mk (AV.v (Value.int IntKind.i64 (0 : Int))) [some (Blk.row [AV.v (Value.int IntKind.i64 (4194304 : Int)), AV.v (Value.int IntKind.i64 x.fi), AV.v (Value.int
    IntKind.i64 x.fa), AV.hs (1 : Nat) x.o x.n, AV.v (Value.int IntKind.i64 (-1 : Int)), AV.v (Value.bool false)]), some (Blk.arr (1 : Nat) x.N fun j => [AV.v (Value.int IntKind.u8 (x.g
    j))]), some (Blk.arr (1 : Nat) (ByteArray.size s) (bsF s))])) (Tree.br (decide (IntKind.wrap IntKind.i64 ((4194304 : Int) - (↑x.n : Int)) < (↑(ByteArray.size s) : Int))) (Tree.leaf
    (Ans.mk (AV.v (Value.int IntKind.i64 (171 : Int))) [some (Blk.row [AV.v (Value.int IntKind.i64 (4194304 : Int)), AV.v (Value.int IntKind.i64 x.fi), AV.v (Value.int IntKind.i64 x.fa),
    AV.hs (1 : Nat) x.o x.n, AV.v (Value.int IntKind.i64 (-1 : Int)), AV.v (Value.bool false)]), some (Blk.arr (1 : Nat) x.N fun j => [AV.v (Value.int IntKind.u8 (x.g j))]), some (Blk.arr (1
    : Nat) (ByteArray.size s) (bsF s))])) (Tree.chk (cl (LeL [AV.ptr (0 : Nat) (0 : Nat), AV.v (Value.int IntKind.i64 (0 : Int)), AV.fn (118 : Nat) [AV.ptr (0 : Nat) (0 : Nat)] [], AV.hs (2
    : Nat) (0 : Nat) (ByteArray.size s), AV.v (Value.int IntKind.i64 (↑(ByteArray.size s) : Int)), AV.v (Value.int IntKind.i64 (0 : Int))] [AV.ptr (0 : Nat) (0 : Nat), AV.any, AV.fn (118 :
    FuncId) [AV.ptr (0 : Nat) (0 : Nat)] [], AV.hs (2 : Nat) (0 : Nat) (ByteArray.size s), AV.v (Value.int IntKind.i64 (↑(ByteArray.size s) : Int)), AV.v (Value.int IntKind.i64 (↑(0 : Nat) :
    Int))] ∧ LeH [some (Blk.row [AV.v (Value.int IntKind.i64 (4194304 : Int)), AV.v (Value.int IntKind.i64 x.fi), AV.v (Value.int IntKind.i64 x.fa), AV.hs (1 : Nat) x.o x.n, AV.v (Value.int
    IntKind.i64 (-1 : Int)), AV.v (Value.bool false)]), some (Blk.arr (1 : Nat) x.N fun j => [AV.v (Value.int IntKind.u8 (x.g j))]), some (Blk.arr (1 : Nat) (ByteArray.size s) (bsF s))]
    [some (Blk.row [AV.v (Value.int IntKind.i64 (4194304 : Int)), AV.v (Value.int IntKind.i64 x.fi), AV.v (Value.int IntKind.i64 x.fa), AV.hs (1 : Nat) x.o x.n, AV.v (Value.int IntKind.i64
    (-1 : Int)), AV.v (Value.bool false)]), some (Blk.arr (1 : Nat) x.N fun j => [AV.v (Value.int IntKind.u8 (x.g j))]), some (Blk.arr (1 : Nat) (ByteArray.size s) (bsF s))])) (Tree.leaf
    (Ans.mk (AV.v (Value.int IntKind.i64 (0 : Int))) [some (Blk.row [AV.v (Value.int IntKind.i64 (4194304 : Int)), AV.v (Value.int IntKind.i64 z.fi), AV.v (Value.int IntKind.i64 z.fa), AV.hs
    (3 : Nat) z.o z.n, AV.v (Value.int IntKind.i64 (-1 : Int)), AV.v (Value.bool false)]), none, some (Blk.arr (1 : Nat) (ByteArray.size s) (bsF s)), some (Blk.arr (1 : Nat) z.N fun j =>
    [AV.v (Value.int IntKind.u8 (z.g j))])])))) := by kernel_rfl
end Go.Eng.SB.B

namespace Go.Eng.SB.B
open Go Go.Eng Go.Eng.SB Go.Eng.SB.T Go.Lib Go.Proofs
theorem w64 {n : Int} (h : -9223372036854775808 ≤ n) (h' : n ≤ 9223372036854775807) : IntKind.i64.wrap n = n := by rw [wrap64E]; omega
theorem rm1 {n : Nat} (h : n ≤ 3000000000) : roomOk 1 n = true := by
  unfold roomOk
  exact decide_eq_true (by omega)
theorem inS1 {i n : Nat} (h : i < n) : (decide ((0 : Int) ≤ (i : Int)) && decide ((i : Int) < (n : Int))) = true := by
  rw [decide_eq_true (by omega), decide_eq_true (by omega)]; rfl
def Tq.ok (x : Tq) : Prop := 0 ≤ x.fi ∧ x.fi ≤ 10000000 ∧ x.n ≤ 4194304
theorem ansQOn (x : Tq) : Answers Try.prog Γb 17 [.ptr 0 0] x.bl (.v (.bool true)) (x.bl.map some) [] := by
  refine answers (fn := Try.f17) (c := bodyOf Try.f17) (ntmps := 12) (results := [.tmp 2]) [] Lno false Try.func17 (by kernel_rfl) (by kernel_rfl) (by kernel_rfl) (by kernel_rfl) (by simp) rfl (failOK fun _ _ _ => rfl) (Meets.of (qOn x) ?_)
  exact ⟨.refl _, LeH.refl _⟩
theorem ansQPl {x : Tq} (h : x.ok) : Answers Try.prog Γb 20 [.ptr 0 0] x.bl (.tup [.v (.int .i64 x.fi), .v (.int .i64 x.fa), .v (.int .i64 (x.fi + (x.n : Int)))]) (x.bl.map some) [] := by
  obtain ⟨h1, h2, h3⟩ := h
  have w : IntKind.i64.wrap (x.fi + (x.n : Int)) = x.fi + (x.n : Int) := w64 (by omega) (by omega)
  refine answers (fn := Try.f20) (c := bodyOf Try.f20) (ntmps := 17) (results := [.tmp 2, .tmp 3, .tmp 4]) [k77] Lno false Try.func20 (by kernel_rfl) (by kernel_rfl) (by kernel_rfl) (by kernel_rfl) (by simp) rfl (failOK fun _ _ _ => rfl) (Meets.of (qPl x) ?_)
  rw [w]
  exact wC (cl_iff.2 trivial) ⟨.refl _, LeH.refl _⟩
def Tq.hold (x : Tq) : Tq := { x with fa := x.fi + (x.n : Int) }
theorem ansQHo {x : Tq} (h : x.ok) : Answers Try.prog Γb 74 [.ptr 0 0] x.bl (.v (.int .i64 0)) (x.hold.bl.map some) [] := by
  obtain ⟨h1, h2, h3⟩ := h
  have w : IntKind.i64.wrap (x.fi + (x.n : Int)) = x.fi + (x.n : Int) := w64 (by omega) (by omega)
  refine answers (fn := Try.f74) (c := bodyOf Try.f74) (ntmps := 18) (results := [.tmp 2]) [k78, k118, k77] Lno false Try.func74 (by kernel_rfl) (by kernel_rfl) (by kernel_rfl) (by kernel_rfl) (by simp) rfl (failOK fun _ _ _ => rfl) (Meets.of (qHo x) ?_)
  simp only [w]
  refine wT rfl (wN rfl (wN rfl (wT rfl (wC (cl_iff.2 trivial) ⟨.refl _, LeH.refl _⟩))))
def Tq.shed (x : Tq) (p : Int) : Tq := { x with fi := p, o := x.o + (p - x.fi).toNat, n := x.n - (p - x.fi).toNat }
theorem ansQSh {x : Tq} (h : x.ok) {p : Int} (h4 : x.fi ≤ p) (h5 : p ≤ x.fa) (h6 : p - x.fi ≤ (x.n : Int)) : Answers Try.prog Γb 75 [.ptr 0 0, .v (.int .i64 p)] x.bl (.v (.int .i64 0)) ((x.shed p).bl.map some) [] := by
  obtain ⟨h1, h2, h3⟩ := h
  have w : IntKind.i64.wrap (p - x.fi) = p - x.fi := w64 (by omega) (by omega)
  refine answers (fn := Try.f75) (c := bodyOf Try.f75) (ntmps := 44) (results := [.tmp 4]) [k78, k119] Lno false Try.func75 (by kernel_rfl) (by kernel_rfl) (by kernel_rfl) (by kernel_rfl) (by simp) rfl (failOK fun _ _ _ => rfl) (Meets.of (qSh x p) ?_)
  simp only [w]
  refine wN rfl (wN (by rw [decide_eq_false (by omega), decide_eq_false (by omega)]; rfl) (wN rfl (wN rfl (wT rfl (wC ?_ ⟨.refl _, LeH.refl _⟩)))))
  rw [decide_eq_true (by omega), decide_eq_true (by omega), decide_eq_true (Int.le_refl _)]; rfl
theorem ansQRd {x : Tq} (h : x.n ≤ 2000000) : Answers Try.prog Γb 19 [.ptr 0 0] x.bl (.tup [.v (.int .i64 x.fi), .hs 2 0 x.n, .v (.int .i64 0)]) (x.bl.map some) [.arr 1 x.n (bF fun j => x.g (x.o + j))] := by
  by_cases hn : 0 < x.n
  · have hc : ClOK x := ansClP hn h
    refine answers (fn := Try.f19) (c := bodyOf Try.f19) (ntmps := 20) (results := [.tmp 2, .tmp 3, .tmp 4]) [k78, CT.at 79 hc] Lno false Try.func19 (by kernel_rfl) (by kernel_rfl) (by kernel_rfl) (by kernel_rfl) (by simp) rfl (failOK fun _ _ _ => rfl) (Meets.of (qRd x hc) ?_)
    exact wN rfl (wC (cl_iff.2 ⟨LeL.refl _, LeH.refl _⟩) ⟨.refl _, LeH.refl _⟩)
  · have hx : x = x.z := by
      obtain ⟨fi, fa, o, n, N, g⟩ := x
      simp only at hn
      obtain rfl : n = 0 := by omega
      rfl
    have hc : ClZ x := ansClZ
    rw [hx]
    refine answers (fn := Try.f19) (c := bodyOf Try.f19) (ntmps := 20) (results := [.tmp 2, .tmp 3, .tmp 4]) [k78, CT.at 79 hc] Lno false Try.func19 (by kernel_rfl) (by kernel_rfl) (by kernel_rfl) (by kernel_rfl) (by simp) rfl (failOK fun _ _ _ => rfl) (Meets.of (qRdZ x hc) ?_)
    exact wN rfl (wC (cl_iff.2 ⟨LeL.refl _, LeH.refl _⟩) ⟨.refl _, .refl _, .refl _, .arr rfl (fun j hj => absurd hj (Nat.not_lt_zero j)) (fun _ => rfl), trivial⟩)
theorem wq_fun {x y : Tq} {s : ByteArray} {i j : Nat} (hy : y.n = x.n + i) (hg : ∀ j, j < y.n → y.g (y.o + j) = if j < x.n then x.g (x.o + j) else sbyte s (j - x.n)) (hj : j < y.n + 1) : mixL (decide (j < y.n)) [.v (.int .u8 (y.g (y.o + j)))] (chain [.v (.int .u8 (0 : Int))] 0 [[.v (.int .u8 (sbyte s (0 + i)))]] (0 + (j - y.n))) = bF (wq x s (i + 1)).g j := by
  show mixL _ _ (mixL _ _ [AV.v (Value.int IntKind.u8 0)]) = [AV.v (.int .u8 (if j < x.n then x.g (x.o + j) else sbyte s (j - x.n)))]
  rw [mixU, mixU, Nat.zero_add, Nat.zero_add]
  by_cases h : j < y.n
  · rw [decide_eq_true h, cond_true, hg j h]
  · rw [decide_eq_false h, if_neg (by omega), show j - y.n = 0 by omega, show j - x.n = i by omega]; rfl
def HW (x : Tq) (s : ByteArray) : Nat → Heap
  | 0 => (w0 x s).map some
  | i + 1 => w3 (wq x s (i + 1)) s
theorem loopWq {x : Tq} {s : ByteArray} (h1 : x.n ≤ 4194304) (h2 : s.size ≤ 10000) : ∀ i, i ≤ s.size → LoopOK Try.prog Γb 3 52 lpW (LSpec.at lvW [] (slW s i, HW x s i) ⟨.exit 0, [.any, .any, .any, .any, .any, .any], HW x s s.size⟩) := by
  refine loop_at (S := fun i => (slW s i, HW x s i)) (pre := fun i => i ≤ s.size) (O := fun _ => ⟨.exit 0, [.any, .any, .any, .any, .any, .any], HW x s s.size⟩) (k := 0) (fun i => s.size - i) fun i hi => ?_
  have e1 : IntKind.i64.wrap ((i : Int) + 1) = ((i + 1 : Nat) : Int) := wrapUpN (by omega)
  cases i with
  | zero =>
    refine .of (noLoops (by kernel_rfl)) (qW0 x s) ?_
    rcases Nat.lt_or_ge 0 s.size with h | h
    · have r1 : roomOk 1 (x.n + 1) = true := rm1 (by omega)
      simp only [e1]
      refine wT (decide_eq_true (by omega)) (wC (decide_eq_true (by omega)) (wN rfl (wN rfl (wN rfl (wC r1 ⟨0 + 1, LeL.refl _, ?_, h, rfl, by show s.size - (0 + 1) < s.size - 0; omega⟩)))))
      exact ⟨.refl _, .none _, .refl _, .arr rfl (fun j hj => wq_fun (i := 0) rfl (fun j hj => by rw [if_pos hj]) hj) (fun _ => rfl), trivial⟩
    · have hz : s.size = 0 := by omega
      refine wN (decide_eq_false (by omega)) ?_
      have hh : HW x s s.size = HW x s 0 := by rw [hz]
      rw [hh]
      exact ⟨rfl, ⟨.any _, .any _, .any _, .any _, .any _, .any _, trivial⟩, LeH.refl _⟩
  | succ i =>
    refine .of (noLoops (by kernel_rfl)) (qW3 (wq x s (i + 1)) s (i + 1)) ?_
    rcases Nat.lt_or_ge (i + 1) s.size with h | h
    · have r1 : roomOk 1 ((wq x s (i + 1)).n + 1) = true := rm1 (by show x.n + (i + 1) + 1 ≤ _; omega)
      simp only [e1]
      refine wT (decide_eq_true (by omega)) (wC (inS1 h) (wN rfl (wN rfl (wN rfl (wC r1 ⟨i + 1 + 1, LeL.refl _, ?_, h, rfl, by show s.size - (i + 1 + 1) < s.size - (i + 1); omega⟩)))))
      exact ⟨.refl _, .none _, .refl _, .arr rfl (fun j hj => wq_fun (y := wq x s (i + 1)) (i := i + 1) rfl (fun j hj => by show (if 0 + j < x.n then x.g (x.o + (0 + j)) else sbyte s (0 + j - x.n)) = _; rw [Nat.zero_add]) hj) (fun _ => rfl), trivial⟩
    · have hz : s.size = i + 1 := by omega
      refine wN (decide_eq_false (by omega)) ?_
      have hh : HW x s s.size = HW x s (i + 1) := by rw [hz]
      rw [hh]
      exact ⟨rfl, ⟨.any _, .any _, .any _, .any _, .any _, .any _, trivial⟩, LeH.refl _⟩
theorem ansQW {x : Tq} (h : x.ok) {s : ByteArray} (h2 : s.size ≤ 10000) (h3 : 0 < s.size) (h4 : x.n + s.size ≤ 4194304) : Answers Try.prog Γb 73 [.ptr 0 0, .hs 2 0 s.size] (w0 x s) (.v (.int .i64 0)) [some ((wq x s s.size).row 3), none, some (.arr 1 s.size (bsF s))] [(wq x s s.size).arr] := by
  have w : IntKind.i64.wrap (4194304 - (x.n : Int)) = 4194304 - (x.n : Int) := w64 (by omega) (by omega)
  have hl := loopWq (x := x) (s := s) h.2.2 h2 0 (Nat.zero_le _)
  have hH : HW x s s.size = w3 (wq x s s.size) s := by
    obtain ⟨k, hk⟩ : ∃ k, s.size = k + 1 := ⟨s.size - 1, by omega⟩
    rw [hk]; rfl
  rw [hH] at hl
  refine answers (fn := Try.f73) (c := bodyOf Try.f73) (ntmps := 52) (results := [.tmp 4]) [k78] (fun _ => LSpec.at lvW [] (slW s 0, (w0 x s).map some) ⟨.exit 0, [.any, .any, .any, .any, .any, .any], w3 (wq x s s.size) s⟩) false Try.func73 (by kernel_rfl) (by kernel_rfl) (by kernel_rfl) (by kernel_rfl) (by simp) rfl (oneLoop (b := lpW) (by kernel_rfl) hl) (Meets.of (qW x (wq x s s.size) s) ?_)
  rw [w]
  exact wN rfl (wN (decide_eq_false (by omega)) (wC (cl_iff.2 ⟨⟨.refl _, .any _, .refl _, .refl _, .refl _, .refl _, trivial⟩, LeH.refl _⟩) ⟨.refl _, LeH.refl _⟩))
def newQ : Blk := .row [.v (.int .i64 4194304), .v (.int .i64 0), .v (.int .i64 0), .v (.slice none 0 0), .v (.int .i64 (-1)), .v (.bool false)]
theorem ansQN : Answers Try.prog Γb 14 [.v (.int .i64 4194304)] [] (.tup [.ptr 0 0, .v (.int .i64 0)]) [] [newQ] := by
  refine answers (fn := Try.f14) (c := bodyOf Try.f14) (ntmps := 13) (results := [.tmp 2, .tmp 3]) [] Lno false Try.func14 (by kernel_rfl) (by kernel_rfl) (by kernel_rfl) (by kernel_rfl) (by simp) rfl (failOK fun _ _ _ => rfl) (Meets.of qNew ?_)
  exact wN rfl ⟨.refl _, LeH.refl _⟩
end Go.Eng.SB.B

namespace Go.Eng
open Go
section
variable {P : Program} {Γ : Nat → AV}
theorem outOf_nil : ∀ H : List Blk, outOf H [] = H.map some
  | [] => rfl
  | b :: H => by show some b :: outOf H [] = _; rw [outOf_nil H]; rfl
noncomputable def CT.atN (f : FuncId) {a0 : List AV} {H0 : List Blk} {v : AV} {new : List Blk} (h : Answers P Γ f a0 H0 v (H0.map some) new) : CT P Γ where
  f := f
  spec := fun args Hin => .chk (cl (args = a0 ∧ Hin = H0)) (.leaf { val := v, upd := [], new := new })
  enters := h.enters
  ok := fun args Hin r hr => by
    obtain ⟨h1, hr⟩ := Tree.chk_get hr
    obtain rfl := Tree.leaf_get hr
    obtain ⟨rfl, rfl⟩ := cl_iff.1 h1
    exact h.cU (outOf_nil _)
end
end Go.Eng
namespace Go.Eng
open Go
section
variable {P : Program} {Γ : Nat → AV}
noncomputable def famSpec {X : Type} (ext : List AV → Option X) (H0 : List Blk) (v : X → AV) (args : List AV) (Hin : List Blk) : Tree Res :=
  match ext args with
  | some x => .chk (cl (Hin = H0)) (.leaf { val := v x })
  | none => .fail
noncomputable def CT.famN {X : Type} (f : FuncId) (ext : List AV → Option X) (H0 : List Blk) (v : X → AV) (enters : ∀ (args : Array Value) (w : World), (callFunc f args).run P w = .ok (.enter f args) w)
    (h : ∀ args x, ext args = some x → Answers P Γ f args H0 (v x) (H0.map some) []) : CT P Γ where
  f := f
  spec := famSpec ext H0 v
  enters := enters
  ok := fun args Hin r hr => by
    unfold famSpec at hr
    split at hr
    · rename_i x hx
      obtain ⟨h1, hr⟩ := Tree.chk_get hr
      obtain rfl := Tree.leaf_get hr
      have := cl_iff.1 h1
      subst this
      exact (h args x hx).cU (outOf_nil _)
    · simp [Tree.get] at hr
end
end Go.Eng

namespace Go.Eng.SB.B
open Go Go.Eng Go.Eng.SB Go.Eng.SB.T Go.Lib Go.Proofs
structure Sx where
  s : ByteArray
instance : Inhabited Sx := ⟨⟨⟨#[]⟩⟩⟩
def Sx.c (x : Sx) : List AV := [.v (.string x.s)]
def Sx.cells (x : Sx) : List Value := [.string x.s]
theorem Sx.cod : Cod Sx.c 1 := ⟨fun _ => rfl, fun b x y => by cases b <;> rfl⟩
theorem Sx.dec (vs : List Value) (h0 : GoodVs [.str] vs) : ∃ a : Sx, vs = a.cells := by
  obtain ⟨_, _, rfl, ⟨a0, rfl, _⟩, h1⟩ := h0.cons
  obtain rfl := h1.nil
  exact ⟨⟨a0⟩, rfl⟩
abbrev Sx.ks : List Cel := [.str]
structure Bk where
  x : Tq
  nx : Int
  sm : ByteArray
  rs : List Sx
@[reducible] def Bk.row (b : Bk) (t r : Nat) : Blk := .row [.ptr t 0, .v (.int .i64 b.nx), .v (.string b.sm), .hs r 0 b.rs.length, .v (.bool false)]
@[reducible] def Bk.ra (b : Bk) : Blk := .arr 1 b.rs.length (lsF Sx.c b.rs)
@[reducible] def Bk.bl (b : Bk) : List Blk := [b.row 1 3, b.x.row 2, b.x.arr, b.ra]
@[reducible] def byB (s : ByteArray) : Blk := .arr 1 s.size (bsF s)
noncomputable def k91 : CT Try.prog Γb := CT.auto false 100 2 [] 91 Try.f91 (bodyOf Try.f91) false 32 [] Try.func91 (by kernel_rfl) (by kernel_rfl) (by kernel_rfl) (by kernel_rfl)
def OnOK (x : Tq) : Prop := Answers Try.prog Γb 17 [.ptr 0 0] x.bl (.v (.bool true)) (x.bl.map some) []
def PlOK (x : Tq) : Prop := Answers Try.prog Γb 20 [.ptr 0 0] x.bl (.tup [.v (.int .i64 x.fi), .v (.int .i64 x.fa), .v (.int .i64 (x.fi + (x.n : Int)))]) (x.bl.map some) []
def HoOK (x : Tq) : Prop := Answers Try.prog Γb 74 [.ptr 0 0] x.bl (.v (.int .i64 0)) (x.hold.bl.map some) []
def WrOK (x : Tq) (s : ByteArray) : Prop := Answers Try.prog Γb 73 [.ptr 0 0, .hs 2 0 s.size] (w0 x s) (.v (.int .i64 0)) [some ((wq x s s.size).row 3), none, some (byB s)] [(wq x s s.size).arr]
def LnOK (nx k : Int) (s y : ByteArray) : Prop := Answers Try.prog Γb 26 [.agg [.v (.int .i64 nx), .v (.int .i64 k), .v (.string s)]] [] (.tup [.v (.string y), .v (.int .i64 0)]) [] []
theorem putA (b : Bk) (s y : ByteArray) (h1 : OnOK b.x) (h2 : LnOK b.nx 1 s y) (h3 : PlOK b.x) (h4 : WrOK b.x y) (h5 : HoOK (wq b.x y y.size)) : bodyE (P := Try.prog) (Γ := Γb) [CT.atN 17 h1, CT.at 26 h2, CT.atN 20 h3, CT.at 73 h4, CT.at 74 h5, k91] Lno false 84 [.tmp 6, .tmp 7] (bodyOf Try.f92) [.ptr 0 0, .v (.int .i64 1), .hs 4 0 s.size] (b.bl ++ [byB s]) =
  Tree.chk (cl ([AV.ptr (0 : Nat) (0 : Nat)] = [AV.ptr (0 : Nat) (0 : Nat)] ∧ [Blk.row [AV.v (Value.int IntKind.i64 (4194304 : Int)), AV.v (Value.int IntKind.i64 b.x.fi), AV.v (Value.int
    IntKind.i64 b.x.fa), AV.hs (1 : Nat) b.x.o b.x.n, AV.v (Value.int IntKind.i64 (-1 : Int)), AV.v (Value.bool false)], Blk.arr (1 : Nat) b.x.N fun j => [AV.v (Value.int IntKind.u8 (b.x.g
    j))]] = [Blk.row [AV.v (Value.int IntKind.i64 (4194304 : Int)), AV.v (Value.int IntKind.i64 b.x.fi), AV.v (Value.int IntKind.i64 b.x.fa), AV.hs (1 : Nat) b.x.o b.x.n, AV.v (Value.int
    IntKind.i64 (-1 : Int)), AV.v (Value.bool false)], Blk.arr (1 : Nat) b.x.N fun j => [AV.v (Value.int IntKind.u8 (b.x.g j))]])) (Tree.chk (allBytes (ByteArray.size s) fun j => bsF s ((0 :
    Nat) + j)) (Tree.chk (cl (LeL [AV.agg [AV.v (Value.int IntKind.i64 b.nx), AV.v (Value.int IntKind.i64 (1 : Int)), AV.v (Value.string (textOf (ByteArray.size s) fun j => bsF s ((0 : Nat)
    + j)))]] [AV.agg [AV.v (Value.int IntKind.i64 b.nx), AV.v (Value.int IntKind.i64 (1 : Int)), AV.v (Value.string s)]] ∧ LeH [] [])) (Tree.br false (Tree.leaf (Ans.mk (AV.tup [AV.v
    (Value.int IntKind.i64 (0 : Int)), AV.v (Value.int IntKind.i64 (0 : Int))]) [some (Blk.row [AV.ptr (1 : Nat) (0 : Nat), AV.v (Value.int IntKind.i64 b.nx), AV.v (Value.string b.sm), AV.hs
    (3 : Nat) (0 : Nat) (List.length b.rs), AV.v (Value.bool false)]), some (Blk.row [AV.v (Value.int IntKind.i64 (4194304 : Int)), AV.v (Value.int IntKind.i64 b.x.fi), AV.v (Value.int
    IntKind.i64 b.x.fa), AV.hs (2 : Nat) b.x.o b.x.n, AV.v (Value.int IntKind.i64 (-1 : Int)), AV.v (Value.bool false)]), some (Blk.arr (1 : Nat) b.x.N fun j => [AV.v (Value.int IntKind.u8
    (b.x.g j))]), some (Blk.arr (1 : Nat) (List.length b.rs) (lsF Sx.c b.rs)), some (Blk.arr (1 : Nat) (ByteArray.size s) (bsF s))])) (Tree.chk (cl ([AV.ptr (0 : Nat) (0 : Nat)] = [AV.ptr (0
    : Nat) (0 : Nat)] ∧ [Blk.row [AV.v (Value.int IntKind.i64 (4194304 : Int)), AV.v (Value.int IntKind.i64 b.x.fi), AV.v (Value.int IntKind.i64 b.x.fa), AV.hs (1 : Nat) b.x.o b.x.n, AV.v
    (Value.int IntKind.i64 (-1 : Int)), AV.v (Value.bool false)], Blk.arr (1 : Nat) b.x.N fun j => [AV.v (Value.int IntKind.u8 (b.x.g j))]] = [Blk.row [AV.v (Value.int IntKind.i64 (4194304 :
    Int)), AV.v (Value.int IntKind.i64 b.x.fi), AV.v (Value.int IntKind.i64 b.x.fa), AV.hs (1 : Nat) b.x.o b.x.n, AV.v (Value.int IntKind.i64 (-1 : Int)), AV.v (Value.bool false)], Blk.arr
    (1 : Nat) b.x.N fun j => [AV.v (Value.int IntKind.u8 (b.x.g j))]])) (Tree.br (Nat.beq (ByteArray.size y) (0 : Nat)) (Tree.chk (cl (LeL [AV.ptr (0 : Nat) (0 : Nat), AV.sl (1 : Nat) (0 :
    Nat) fun j => [AV.v (Value.int IntKind.u8 (sbyte y j))]] [AV.ptr (0 : Nat) (0 : Nat), AV.hs (2 : Nat) (0 : Nat) (ByteArray.size y)] ∧ LeH [some (Blk.row [AV.v (Value.int IntKind.i64
    (4194304 : Int)), AV.v (Value.int IntKind.i64 b.x.fi), AV.v (Value.int IntKind.i64 b.x.fa), AV.hs (1 : Nat) b.x.o b.x.n, AV.v (Value.int IntKind.i64 (-1 : Int)), AV.v (Value.bool
    false)]), some (Blk.arr (1 : Nat) b.x.N fun j => [AV.v (Value.int IntKind.u8 (b.x.g j))])] [some (Blk.row [AV.v (Value.int IntKind.i64 (4194304 : Int)), AV.v (Value.int IntKind.i64
    b.x.fi), AV.v (Value.int IntKind.i64 b.x.fa), AV.hs (1 : Nat) b.x.o b.x.n, AV.v (Value.int IntKind.i64 (-1 : Int)), AV.v (Value.bool false)]), some (Blk.arr (1 : Nat) b.x.N fun j =>
    [AV.v (Value.int IntKind.u8 (b.x.g j))]), some (Blk.arr (1 : Nat) (ByteArray.size y) (bsF y))])) (Tree.br true Tree.fail (Tree.br true Tree.fail Tree.fail))) (Tree.chk (cl (LeL [AV.ptr
    (0 : Nat) (0 : Nat), AV.hs (2 : Nat) (0 : Nat) (ByteArray.size y)] [AV.ptr (0 : Nat) (0 : Nat), AV.hs (2 : Nat) (0 : Nat) (ByteArray.size y)] ∧ LeH [some (Blk.row [AV.v (Value.int
    IntKind.i64 (4194304 : Int)), AV.v (Value.int IntKind.i64 b.x.fi), AV.v (Value.int IntKind.i64 b.x.fa), AV.hs (1 : Nat) b.x.o b.x.n, AV.v (Value.int IntKind.i64 (-1 : Int)), AV.v
    (Value.bool false)]), some (Blk.arr (1 : Nat) b.x.N fun j => [AV.v (Value.int IntKind.u8 (b.x.g j))]), some (Blk.arr (1 : Nat) (ByteArray.size y) fun j => [AV.v (Value.int IntKind.u8
    (sbyte y j))])] [some (Blk.row [AV.v (Value.int IntKind.i64 (4194304 : Int)), AV.v (Value.int IntKind.i64 b.x.fi), AV.v (Value.int IntKind.i64 b.x.fa), AV.hs (1 : Nat) b.x.o b.x.n, AV.v
    (Value.int IntKind.i64 (-1 : Int)), AV.v (Value.bool false)]), some (Blk.arr (1 : Nat) b.x.N fun j => [AV.v (Value.int IntKind.u8 (b.x.g j))]), some (Blk.arr (1 : Nat) (ByteArray.size y)
    (bsF y))])) (Tree.br true (Tree.chk (cl (LeL [AV.ptr (0 : Nat) (0 : Nat)] [AV.ptr (0 : Nat) (0 : Nat)] ∧ LeH [some (Blk.row [AV.v (Value.int IntKind.i64 (4194304 : Int)), AV.v (Value.int
    IntKind.i64 b.x.fi), AV.v (Value.int IntKind.i64 b.x.fa), AV.hs (1 : Nat) (0 : Nat) (b.x.n + ByteArray.size y), AV.v (Value.int IntKind.i64 (-1 : Int)), AV.v (Value.bool false)]), some
    (Blk.arr (1 : Nat) (b.x.n + ByteArray.size y) fun j => [AV.v (Value.int IntKind.u8 ((wq b.x y (ByteArray.size y)).g j))])] [some (Blk.row [AV.v (Value.int IntKind.i64 (4194304 : Int)),
    AV.v (Value.int IntKind.i64 b.x.fi), AV.v (Value.int IntKind.i64 b.x.fa), AV.hs (1 : Nat) (0 : Nat) (b.x.n + ByteArray.size y), AV.v (Value.int IntKind.i64 (-1 : Int)), AV.v (Value.bool
    false)]), some (Blk.arr (1 : Nat) (b.x.n + ByteArray.size y) fun j => [AV.v (Value.int IntKind.u8 ((wq b.x y (ByteArray.size y)).g j))])])) (Tree.br true (Tree.br false (Tree.leaf
    (Ans.mk (AV.tup [AV.v (Value.int IntKind.i64 (b.x.fi + (↑b.x.n : Int))), AV.v (Value.int IntKind.i64 (0 : Int))]) [some (Blk.row [AV.ptr (1 : Nat) (0 : Nat), AV.v (Value.int IntKind.i64
    (IntKind.wrap IntKind.i64 (b.nx + (1 : Int)))), AV.v (Value.string (textOf (ByteArray.size s) fun j => bsF s ((0 : Nat) + j))), AV.v (Value.slice none (0 : Nat) (0 : Nat)), AV.sb
    false]), some (Blk.row [AV.v (Value.int IntKind.i64 (4194304 : Int)), AV.v (Value.int IntKind.i64 b.x.fi), AV.v (Value.int IntKind.i64 (b.x.fi + (↑(b.x.n + ByteArray.size y) : Int))),
    AV.hs (5 : Nat) (0 : Nat) (b.x.n + ByteArray.size y), AV.v (Value.int IntKind.i64 (-1 : Int)), AV.v (Value.bool false)]), none, some (Blk.arr (1 : Nat) (List.length b.rs) (lsF Sx.c
    b.rs)), some (Blk.arr (1 : Nat) (ByteArray.size s) (bsF s)), some (Blk.arr (1 : Nat) (b.x.n + ByteArray.size y) fun j => [AV.v (Value.int IntKind.u8 ((Tq.hold (wq b.x y (ByteArray.size
    y))).g j))])])) (Tree.chk (roomOk (16 : Nat) (List.length b.rs + (1 : Nat))) (Tree.leaf (Ans.mk (AV.tup [AV.v (Value.int IntKind.i64 (b.x.fi + (↑b.x.n : Int))), AV.v (Value.int
    IntKind.i64 (0 : Int))]) [some (Blk.row [AV.ptr (1 : Nat) (0 : Nat), AV.v (Value.int IntKind.i64 (IntKind.wrap IntKind.i64 (b.nx + (1 : Int)))), AV.v (Value.string b.sm), AV.hs (6 : Nat)
    (0 : Nat) (List.length b.rs + (1 : Nat)), AV.sb false]), some (Blk.row [AV.v (Value.int IntKind.i64 (4194304 : Int)), AV.v (Value.int IntKind.i64 b.x.fi), AV.v (Value.int IntKind.i64
    (b.x.fi + (↑(b.x.n + ByteArray.size y) : Int))), AV.hs (5 : Nat) (0 : Nat) (b.x.n + ByteArray.size y), AV.v (Value.int IntKind.i64 (-1 : Int)), AV.v (Value.bool false)]), none, none,
    some (Blk.arr (1 : Nat) (ByteArray.size s) (bsF s)), some (Blk.arr (1 : Nat) (b.x.n + ByteArray.size y) fun j => [AV.v (Value.int IntKind.u8 ((Tq.hold (wq b.x y (ByteArray.size y))).g
    j))]), some (Blk.arr (1 : Nat) (List.length b.rs + (1 : Nat)) fun j => mixL (decide (j < List.length b.rs)) (lsF Sx.c b.rs ((0 : Nat) + j)) (chain [AV.v (Value.string (ByteArray.mk
    #[]))] (0 : Nat) [[AV.v (Value.string (textOf (ByteArray.size s) fun j => bsF s ((0 : Nat) + j)))]] ((0 : Nat) + (j - List.length b.rs))))])))) (Tree.leaf (Ans.mk (AV.tup [AV.v
    (Value.int IntKind.i64 (b.x.fi + (↑b.x.n : Int))), AV.v (Value.int IntKind.i64 (0 : Int))]) [some (Blk.row [AV.ptr (1 : Nat) (0 : Nat), AV.v (Value.int IntKind.i64 b.nx), AV.v
    (Value.string b.sm), AV.hs (3 : Nat) (0 : Nat) (List.length b.rs), AV.sb false]), some (Blk.row [AV.v (Value.int IntKind.i64 (4194304 : Int)), AV.v (Value.int IntKind.i64 b.x.fi), AV.v
    (Value.int IntKind.i64 (b.x.fi + (↑(b.x.n + ByteArray.size y) : Int))), AV.hs (5 : Nat) (0 : Nat) (b.x.n + ByteArray.size y), AV.v (Value.int IntKind.i64 (-1 : Int)), AV.v (Value.bool
    false)]), none, some (Blk.arr (1 : Nat) (List.length b.rs) (lsF Sx.c b.rs)), some (Blk.arr (1 : Nat) (ByteArray.size s) (bsF s)), some (Blk.arr (1 : Nat) (b.x.n + ByteArray.size y) fun j
    => [AV.v (Value.int IntKind.u8 ((Tq.hold (wq b.x y (ByteArray.size y))).g j))])])))) (Tree.br true (Tree.br false (Tree.leaf (Ans.mk (AV.tup [AV.v (Value.int IntKind.i64 (b.x.fi +
    (↑b.x.n : Int))), AV.v (Value.int IntKind.i64 (0 : Int))]) [some (Blk.row [AV.ptr (1 : Nat) (0 : Nat), AV.v (Value.int IntKind.i64 (IntKind.wrap IntKind.i64 (b.nx + (1 : Int)))), AV.v
    (Value.string (textOf (ByteArray.size s) fun j => bsF s ((0 : Nat) + j))), AV.v (Value.slice none (0 : Nat) (0 : Nat)), AV.sb false]), some (Blk.row [AV.v (Value.int IntKind.i64 (4194304
    : Int)), AV.v (Value.int IntKind.i64 b.x.fi), AV.v (Value.int IntKind.i64 b.x.fa), AV.hs (5 : Nat) (0 : Nat) (b.x.n + ByteArray.size y), AV.v (Value.int IntKind.i64 (-1 : Int)), AV.v
    (Value.bool false)]), none, some (Blk.arr (1 : Nat) (List.length b.rs) (lsF Sx.c b.rs)), some (Blk.arr (1 : Nat) (ByteArray.size s) (bsF s)), some (Blk.arr (1 : Nat) (b.x.n +
    ByteArray.size y) fun j => [AV.v (Value.int IntKind.u8 ((wq b.x y (ByteArray.size y)).g j))])])) (Tree.chk (roomOk (16 : Nat) (List.length b.rs + (1 : Nat))) (Tree.leaf (Ans.mk (AV.tup
    [AV.v (Value.int IntKind.i64 (b.x.fi + (↑b.x.n : Int))), AV.v (Value.int IntKind.i64 (0 : Int))]) [some (Blk.row [AV.ptr (1 : Nat) (0 : Nat), AV.v (Value.int IntKind.i64 (IntKind.wrap
    IntKind.i64 (b.nx + (1 : Int)))), AV.v (Value.string b.sm), AV.hs (6 : Nat) (0 : Nat) (List.length b.rs + (1 : Nat)), AV.sb false]), some (Blk.row [AV.v (Value.int IntKind.i64 (4194304 :
    Int)), AV.v (Value.int IntKind.i64 b.x.fi), AV.v (Value.int IntKind.i64 b.x.fa), AV.hs (5 : Nat) (0 : Nat) (b.x.n + ByteArray.size y), AV.v (Value.int IntKind.i64 (-1 : Int)), AV.v
    (Value.bool false)]), none, none, some (Blk.arr (1 : Nat) (ByteArray.size s) (bsF s)), some (Blk.arr (1 : Nat) (b.x.n + ByteArray.size y) fun j => [AV.v (Value.int IntKind.u8 ((wq b.x y
    (ByteArray.size y)).g j))]), some (Blk.arr (1 : Nat) (List.length b.rs + (1 : Nat)) fun j => mixL (decide (j < List.length b.rs)) (lsF Sx.c b.rs ((0 : Nat) + j)) (chain [AV.v
    (Value.string (ByteArray.mk #[]))] (0 : Nat) [[AV.v (Value.string (textOf (ByteArray.size s) fun j => bsF s ((0 : Nat) + j)))]] ((0 : Nat) + (j - List.length b.rs))))])))) (Tree.leaf
    (Ans.mk (AV.tup [AV.v (Value.int IntKind.i64 (b.x.fi + (↑b.x.n : Int))), AV.v (Value.int IntKind.i64 (0 : Int))]) [some (Blk.row [AV.ptr (1 : Nat) (0 : Nat), AV.v (Value.int IntKind.i64
    b.nx), AV.v (Value.string b.sm), AV.hs (3 : Nat) (0 : Nat) (List.length b.rs), AV.sb false]), some (Blk.row [AV.v (Value.int IntKind.i64 (4194304 : Int)), AV.v (Value.int IntKind.i64
    b.x.fi), AV.v (Value.int IntKind.i64 b.x.fa), AV.hs (5 : Nat) (0 : Nat) (b.x.n + ByteArray.size y), AV.v (Value.int IntKind.i64 (-1 : Int)), AV.v (Value.bool false)]), none, some
    (Blk.arr (1 : Nat) (List.length b.rs) (lsF Sx.c b.rs)), some (Blk.arr (1 : Nat) (ByteArray.size s) (bsF s)), some (Blk.arr (1 : Nat) (b.x.n + ByteArray.size y) fun j => [AV.v (Value.int
    IntKind.u8 ((wq b.x y (ByteArray.size y)).g j))])])))))))))) := by kernel_rfl
theorem putS (b : Bk) (s y : ByteArray) (h1 : OnOK b.x) (h2 : LnOK b.nx 2 s y) (h3 : PlOK b.x) (h4 : WrOK b.x y) (h5 : HoOK (wq b.x y y.size)) : bodyE (P := Try.prog) (Γ := Γb) [CT.atN 17 h1, CT.at 26 h2, CT.atN 20 h3, CT.at 73 h4, CT.at 74 h5, k91] Lno false 84 [.tmp 6, .tmp 7] (bodyOf Try.f92) [.ptr 0 0, .v (.int .i64 2), .hs 4 0 s.size] (b.bl ++ [byB s]) =
  Tree.chk (cl ([AV.ptr (0 : Nat) (0 : Nat)] = [AV.ptr (0 : Nat) (0 : Nat)] ∧ [Blk.row [AV.v (Value.int IntKind.i64 (4194304 : Int)), AV.v (Value.int IntKind.i64 b.x.fi), AV.v (Value.int
    IntKind.i64 b.x.fa), AV.hs (1 : Nat) b.x.o b.x.n, AV.v (Value.int IntKind.i64 (-1 : Int)), AV.v (Value.bool false)], Blk.arr (1 : Nat) b.x.N fun j => [AV.v (Value.int IntKind.u8 (b.x.g
    j))]] = [Blk.row [AV.v (Value.int IntKind.i64 (4194304 : Int)), AV.v (Value.int IntKind.i64 b.x.fi), AV.v (Value.int IntKind.i64 b.x.fa), AV.hs (1 : Nat) b.x.o b.x.n, AV.v (Value.int
    IntKind.i64 (-1 : Int)), AV.v (Value.bool false)], Blk.arr (1 : Nat) b.x.N fun j => [AV.v (Value.int IntKind.u8 (b.x.g j))]])) (Tree.chk (allBytes (ByteArray.size s) fun j => bsF s ((0 :
    Nat) + j)) (Tree.chk (cl (LeL [AV.agg [AV.v (Value.int IntKind.i64 b.nx), AV.v (Value.int IntKind.i64 (2 : Int)), AV.v (Value.string (textOf (ByteArray.size s) fun j => bsF s ((0 : Nat)
    + j)))]] [AV.agg [AV.v (Value.int IntKind.i64 b.nx), AV.v (Value.int IntKind.i64 (2 : Int)), AV.v (Value.string s)]] ∧ LeH [] [])) (Tree.br false (Tree.leaf (Ans.mk (AV.tup [AV.v
    (Value.int IntKind.i64 (0 : Int)), AV.v (Value.int IntKind.i64 (0 : Int))]) [some (Blk.row [AV.ptr (1 : Nat) (0 : Nat), AV.v (Value.int IntKind.i64 b.nx), AV.v (Value.string b.sm), AV.hs
    (3 : Nat) (0 : Nat) (List.length b.rs), AV.v (Value.bool false)]), some (Blk.row [AV.v (Value.int IntKind.i64 (4194304 : Int)), AV.v (Value.int IntKind.i64 b.x.fi), AV.v (Value.int
    IntKind.i64 b.x.fa), AV.hs (2 : Nat) b.x.o b.x.n, AV.v (Value.int IntKind.i64 (-1 : Int)), AV.v (Value.bool false)]), some (Blk.arr (1 : Nat) b.x.N fun j => [AV.v (Value.int IntKind.u8
    (b.x.g j))]), some (Blk.arr (1 : Nat) (List.length b.rs) (lsF Sx.c b.rs)), some (Blk.arr (1 : Nat) (ByteArray.size s) (bsF s))])) (Tree.chk (cl ([AV.ptr (0 : Nat) (0 : Nat)] = [AV.ptr (0
    : Nat) (0 : Nat)] ∧ [Blk.row [AV.v (Value.int IntKind.i64 (4194304 : Int)), AV.v (Value.int IntKind.i64 b.x.fi), AV.v (Value.int IntKind.i64 b.x.fa), AV.hs (1 : Nat) b.x.o b.x.n, AV.v
    (Value.int IntKind.i64 (-1 : Int)), AV.v (Value.bool false)], Blk.arr (1 : Nat) b.x.N fun j => [AV.v (Value.int IntKind.u8 (b.x.g j))]] = [Blk.row [AV.v (Value.int IntKind.i64 (4194304 :
    Int)), AV.v (Value.int IntKind.i64 b.x.fi), AV.v (Value.int IntKind.i64 b.x.fa), AV.hs (1 : Nat) b.x.o b.x.n, AV.v (Value.int IntKind.i64 (-1 : Int)), AV.v (Value.bool false)], Blk.arr
    (1 : Nat) b.x.N fun j => [AV.v (Value.int IntKind.u8 (b.x.g j))]])) (Tree.br (Nat.beq (ByteArray.size y) (0 : Nat)) (Tree.chk (cl (LeL [AV.ptr (0 : Nat) (0 : Nat), AV.sl (1 : Nat) (0 :
    Nat) fun j => [AV.v (Value.int IntKind.u8 (sbyte y j))]] [AV.ptr (0 : Nat) (0 : Nat), AV.hs (2 : Nat) (0 : Nat) (ByteArray.size y)] ∧ LeH [some (Blk.row [AV.v (Value.int IntKind.i64
    (4194304 : Int)), AV.v (Value.int IntKind.i64 b.x.fi), AV.v (Value.int IntKind.i64 b.x.fa), AV.hs (1 : Nat) b.x.o b.x.n, AV.v (Value.int IntKind.i64 (-1 : Int)), AV.v (Value.bool
    false)]), some (Blk.arr (1 : Nat) b.x.N fun j => [AV.v (Value.int IntKind.u8 (b.x.g j))])] [some (Blk.row [AV.v (Value.int IntKind.i64 (4194304 : Int)), AV.v (Value.int IntKind.i64
    b.x.fi), AV.v (Value.int IntKind.i64 b.x.fa), AV.hs (1 : Nat) b.x.o b.x.n, AV.v (Value.int IntKind.i64 (-1 : Int)), AV.v (Value.bool false)]), some (Blk.arr (1 : Nat) b.x.N fun j =>
    [AV.v (Value.int IntKind.u8 (b.x.g j))]), some (Blk.arr (1 : Nat) (ByteArray.size y) (bsF y))])) (Tree.br true Tree.fail (Tree.br true Tree.fail Tree.fail))) (Tree.chk (cl (LeL [AV.ptr
    (0 : Nat) (0 : Nat), AV.hs (2 : Nat) (0 : Nat) (ByteArray.size y)] [AV.ptr (0 : Nat) (0 : Nat), AV.hs (2 : Nat) (0 : Nat) (ByteArray.size y)] ∧ LeH [some (Blk.row [AV.v (Value.int
    IntKind.i64 (4194304 : Int)), AV.v (Value.int IntKind.i64 b.x.fi), AV.v (Value.int IntKind.i64 b.x.fa), AV.hs (1 : Nat) b.x.o b.x.n, AV.v (Value.int IntKind.i64 (-1 : Int)), AV.v
    (Value.bool false)]), some (Blk.arr (1 : Nat) b.x.N fun j => [AV.v (Value.int IntKind.u8 (b.x.g j))]), some (Blk.arr (1 : Nat) (ByteArray.size y) fun j => [AV.v (Value.int IntKind.u8
    (sbyte y j))])] [some (Blk.row [AV.v (Value.int IntKind.i64 (4194304 : Int)), AV.v (Value.int IntKind.i64 b.x.fi), AV.v (Value.int IntKind.i64 b.x.fa), AV.hs (1 : Nat) b.x.o b.x.n, AV.v
    (Value.int IntKind.i64 (-1 : Int)), AV.v (Value.bool false)]), some (Blk.arr (1 : Nat) b.x.N fun j => [AV.v (Value.int IntKind.u8 (b.x.g j))]), some (Blk.arr (1 : Nat) (ByteArray.size y)
    (bsF y))])) (Tree.br true (Tree.chk (cl (LeL [AV.ptr (0 : Nat) (0 : Nat)] [AV.ptr (0 : Nat) (0 : Nat)] ∧ LeH [some (Blk.row [AV.v (Value.int IntKind.i64 (4194304 : Int)), AV.v (Value.int
    IntKind.i64 b.x.fi), AV.v (Value.int IntKind.i64 b.x.fa), AV.hs (1 : Nat) (0 : Nat) (b.x.n + ByteArray.size y), AV.v (Value.int IntKind.i64 (-1 : Int)), AV.v (Value.bool false)]), some
    (Blk.arr (1 : Nat) (b.x.n + ByteArray.size y) fun j => [AV.v (Value.int IntKind.u8 ((wq b.x y (ByteArray.size y)).g j))])] [some (Blk.row [AV.v (Value.int IntKind.i64 (4194304 : Int)),
    AV.v (Value.int IntKind.i64 b.x.fi), AV.v (Value.int IntKind.i64 b.x.fa), AV.hs (1 : Nat) (0 : Nat) (b.x.n + ByteArray.size y), AV.v (Value.int IntKind.i64 (-1 : Int)), AV.v (Value.bool
    false)]), some (Blk.arr (1 : Nat) (b.x.n + ByteArray.size y) fun j => [AV.v (Value.int IntKind.u8 ((wq b.x y (ByteArray.size y)).g j))])])) (Tree.br true (Tree.br true (Tree.leaf (Ans.mk
    (AV.tup [AV.v (Value.int IntKind.i64 (b.x.fi + (↑b.x.n : Int))), AV.v (Value.int IntKind.i64 (0 : Int))]) [some (Blk.row [AV.ptr (1 : Nat) (0 : Nat), AV.v (Value.int IntKind.i64
    (IntKind.wrap IntKind.i64 (b.nx + (1 : Int)))), AV.v (Value.string (textOf (ByteArray.size s) fun j => bsF s ((0 : Nat) + j))), AV.v (Value.slice none (0 : Nat) (0 : Nat)), AV.sb
    false]), some (Blk.row [AV.v (Value.int IntKind.i64 (4194304 : Int)), AV.v (Value.int IntKind.i64 b.x.fi), AV.v (Value.int IntKind.i64 (b.x.fi + (↑(b.x.n + ByteArray.size y) : Int))),
    AV.hs (5 : Nat) (0 : Nat) (b.x.n + ByteArray.size y), AV.v (Value.int IntKind.i64 (-1 : Int)), AV.v (Value.bool false)]), none, some (Blk.arr (1 : Nat) (List.length b.rs) (lsF Sx.c
    b.rs)), some (Blk.arr (1 : Nat) (ByteArray.size s) (bsF s)), some (Blk.arr (1 : Nat) (b.x.n + ByteArray.size y) fun j => [AV.v (Value.int IntKind.u8 ((Tq.hold (wq b.x y (ByteArray.size
    y))).g j))])])) (Tree.chk (roomOk (16 : Nat) (List.length b.rs + (1 : Nat))) (Tree.leaf (Ans.mk (AV.tup [AV.v (Value.int IntKind.i64 (b.x.fi + (↑b.x.n : Int))), AV.v (Value.int
    IntKind.i64 (0 : Int))]) [some (Blk.row [AV.ptr (1 : Nat) (0 : Nat), AV.v (Value.int IntKind.i64 (IntKind.wrap IntKind.i64 (b.nx + (1 : Int)))), AV.v (Value.string b.sm), AV.hs (6 : Nat)
    (0 : Nat) (List.length b.rs + (1 : Nat)), AV.sb false]), some (Blk.row [AV.v (Value.int IntKind.i64 (4194304 : Int)), AV.v (Value.int IntKind.i64 b.x.fi), AV.v (Value.int IntKind.i64
    (b.x.fi + (↑(b.x.n + ByteArray.size y) : Int))), AV.hs (5 : Nat) (0 : Nat) (b.x.n + ByteArray.size y), AV.v (Value.int IntKind.i64 (-1 : Int)), AV.v (Value.bool false)]), none, none,
    some (Blk.arr (1 : Nat) (ByteArray.size s) (bsF s)), some (Blk.arr (1 : Nat) (b.x.n + ByteArray.size y) fun j => [AV.v (Value.int IntKind.u8 ((Tq.hold (wq b.x y (ByteArray.size y))).g
    j))]), some (Blk.arr (1 : Nat) (List.length b.rs + (1 : Nat)) fun j => mixL (decide (j < List.length b.rs)) (lsF Sx.c b.rs ((0 : Nat) + j)) (chain [AV.v (Value.string (ByteArray.mk
    #[]))] (0 : Nat) [[AV.v (Value.string (textOf (ByteArray.size s) fun j => bsF s ((0 : Nat) + j)))]] ((0 : Nat) + (j - List.length b.rs))))])))) (Tree.leaf (Ans.mk (AV.tup [AV.v
    (Value.int IntKind.i64 (b.x.fi + (↑b.x.n : Int))), AV.v (Value.int IntKind.i64 (0 : Int))]) [some (Blk.row [AV.ptr (1 : Nat) (0 : Nat), AV.v (Value.int IntKind.i64 b.nx), AV.v
    (Value.string b.sm), AV.hs (3 : Nat) (0 : Nat) (List.length b.rs), AV.sb false]), some (Blk.row [AV.v (Value.int IntKind.i64 (4194304 : Int)), AV.v (Value.int IntKind.i64 b.x.fi), AV.v
    (Value.int IntKind.i64 (b.x.fi + (↑(b.x.n + ByteArray.size y) : Int))), AV.hs (5 : Nat) (0 : Nat) (b.x.n + ByteArray.size y), AV.v (Value.int IntKind.i64 (-1 : Int)), AV.v (Value.bool
    false)]), none, some (Blk.arr (1 : Nat) (List.length b.rs) (lsF Sx.c b.rs)), some (Blk.arr (1 : Nat) (ByteArray.size s) (bsF s)), some (Blk.arr (1 : Nat) (b.x.n + ByteArray.size y) fun j
    => [AV.v (Value.int IntKind.u8 ((Tq.hold (wq b.x y (ByteArray.size y))).g j))])])))) (Tree.br true (Tree.br true (Tree.leaf (Ans.mk (AV.tup [AV.v (Value.int IntKind.i64 (b.x.fi + (↑b.x.n
    : Int))), AV.v (Value.int IntKind.i64 (0 : Int))]) [some (Blk.row [AV.ptr (1 : Nat) (0 : Nat), AV.v (Value.int IntKind.i64 (IntKind.wrap IntKind.i64 (b.nx + (1 : Int)))), AV.v
    (Value.string (textOf (ByteArray.size s) fun j => bsF s ((0 : Nat) + j))), AV.v (Value.slice none (0 : Nat) (0 : Nat)), AV.sb false]), some (Blk.row [AV.v (Value.int IntKind.i64 (4194304
    : Int)), AV.v (Value.int IntKind.i64 b.x.fi), AV.v (Value.int IntKind.i64 b.x.fa), AV.hs (5 : Nat) (0 : Nat) (b.x.n + ByteArray.size y), AV.v (Value.int IntKind.i64 (-1 : Int)), AV.v
    (Value.bool false)]), none, some (Blk.arr (1 : Nat) (List.length b.rs) (lsF Sx.c b.rs)), some (Blk.arr (1 : Nat) (ByteArray.size s) (bsF s)), some (Blk.arr (1 : Nat) (b.x.n +
    ByteArray.size y) fun j => [AV.v (Value.int IntKind.u8 ((wq b.x y (ByteArray.size y)).g j))])])) (Tree.chk (roomOk (16 : Nat) (List.length b.rs + (1 : Nat))) (Tree.leaf (Ans.mk (AV.tup
    [AV.v (Value.int IntKind.i64 (b.x.fi + (↑b.x.n : Int))), AV.v (Value.int IntKind.i64 (0 : Int))]) [some (Blk.row [AV.ptr (1 : Nat) (0 : Nat), AV.v (Value.int IntKind.i64 (IntKind.wrap
    IntKind.i64 (b.nx + (1 : Int)))), AV.v (Value.string b.sm), AV.hs (6 : Nat) (0 : Nat) (List.length b.rs + (1 : Nat)), AV.sb false]), some (Blk.row [AV.v (Value.int IntKind.i64 (4194304 :
    Int)), AV.v (Value.int IntKind.i64 b.x.fi), AV.v (Value.int IntKind.i64 b.x.fa), AV.hs (5 : Nat) (0 : Nat) (b.x.n + ByteArray.size y), AV.v (Value.int IntKind.i64 (-1 : Int)), AV.v
    (Value.bool false)]), none, none, some (Blk.arr (1 : Nat) (ByteArray.size s) (bsF s)), some (Blk.arr (1 : Nat) (b.x.n + ByteArray.size y) fun j => [AV.v (Value.int IntKind.u8 ((wq b.x y
    (ByteArray.size y)).g j))]), some (Blk.arr (1 : Nat) (List.length b.rs + (1 : Nat)) fun j => mixL (decide (j < List.length b.rs)) (lsF Sx.c b.rs ((0 : Nat) + j)) (chain [AV.v
    (Value.string (ByteArray.mk #[]))] (0 : Nat) [[AV.v (Value.string (textOf (ByteArray.size s) fun j => bsF s ((0 : Nat) + j)))]] ((0 : Nat) + (j - List.length b.rs))))])))) (Tree.leaf
    (Ans.mk (AV.tup [AV.v (Value.int IntKind.i64 (b.x.fi + (↑b.x.n : Int))), AV.v (Value.int IntKind.i64 (0 : Int))]) [some (Blk.row [AV.ptr (1 : Nat) (0 : Nat), AV.v (Value.int IntKind.i64
    b.nx), AV.v (Value.string b.sm), AV.hs (3 : Nat) (0 : Nat) (List.length b.rs), AV.sb false]), some (Blk.row [AV.v (Value.int IntKind.i64 (4194304 : Int)), AV.v (Value.int IntKind.i64
    b.x.fi), AV.v (Value.int IntKind.i64 b.x.fa), AV.hs (5 : Nat) (0 : Nat) (b.x.n + ByteArray.size y), AV.v (Value.int IntKind.i64 (-1 : Int)), AV.v (Value.bool false)]), none, some
    (Blk.arr (1 : Nat) (List.length b.rs) (lsF Sx.c b.rs)), some (Blk.arr (1 : Nat) (ByteArray.size s) (bsF s)), some (Blk.arr (1 : Nat) (b.x.n + ByteArray.size y) fun j => [AV.v (Value.int
    IntKind.u8 ((wq b.x y (ByteArray.size y)).g j))])])))))))))) := by kernel_rfl
end Go.Eng.SB.B

namespace Go.Eng.SB.B
open Go Go.Eng Go.Eng.SB Go.Eng.SB.T Go.Lib Go.Proofs
theorem putA0 (b : Bk) (y : ByteArray) (g : Nat → List AV) (h1 : OnOK b.x) (h2 : LnOK b.nx 1 ⟨#[]⟩ y) (h3 : PlOK b.x) (h4 : WrOK b.x y) (h5 : HoOK (wq b.x y y.size)) : bodyE (P := Try.prog) (Γ := Γb) [CT.atN 17 h1, CT.at 26 h2, CT.atN 20 h3, CT.at 73 h4, CT.at 74 h5, k91] Lno false 84 [.tmp 6, .tmp 7] (bodyOf Try.f92) [.ptr 0 0, .v (.int .i64 1), .sl 1 0 g] b.bl =
  Tree.chk (cl ([AV.ptr (0 : Nat) (0 : Nat)] = [AV.ptr (0 : Nat) (0 : Nat)] ∧ [Blk.row [AV.v (Value.int IntKind.i64 (4194304 : Int)), AV.v (Value.int IntKind.i64 b.x.fi), AV.v (Value.int
    IntKind.i64 b.x.fa), AV.hs (1 : Nat) b.x.o b.x.n, AV.v (Value.int IntKind.i64 (-1 : Int)), AV.v (Value.bool false)], Blk.arr (1 : Nat) b.x.N fun j => [AV.v (Value.int IntKind.u8 (b.x.g
    j))]] = [Blk.row [AV.v (Value.int IntKind.i64 (4194304 : Int)), AV.v (Value.int IntKind.i64 b.x.fi), AV.v (Value.int IntKind.i64 b.x.fa), AV.hs (1 : Nat) b.x.o b.x.n, AV.v (Value.int
    IntKind.i64 (-1 : Int)), AV.v (Value.bool false)], Blk.arr (1 : Nat) b.x.N fun j => [AV.v (Value.int IntKind.u8 (b.x.g j))]])) (Tree.chk (allBytes (0 : Nat) g) (Tree.chk (cl (LeL [AV.agg
    [AV.v (Value.int IntKind.i64 b.nx), AV.v (Value.int IntKind.i64 (1 : Int)), AV.v (Value.string (textOf (0 : Nat) g))]] [AV.agg [AV.v (Value.int IntKind.i64 b.nx), AV.v (Value.int
    IntKind.i64 (1 : Int)), AV.v (Value.string (ByteArray.mk #[]))]] ∧ LeH [] [])) (Tree.br false (Tree.leaf (Ans.mk (AV.tup [AV.v (Value.int IntKind.i64 (0 : Int)), AV.v (Value.int
    IntKind.i64 (0 : Int))]) [some (Blk.row [AV.ptr (1 : Nat) (0 : Nat), AV.v (Value.int IntKind.i64 b.nx), AV.v (Value.string b.sm), AV.hs (3 : Nat) (0 : Nat) (List.length b.rs), AV.v
    (Value.bool false)]), some (Blk.row [AV.v (Value.int IntKind.i64 (4194304 : Int)), AV.v (Value.int IntKind.i64 b.x.fi), AV.v (Value.int IntKind.i64 b.x.fa), AV.hs (2 : Nat) b.x.o b.x.n,
    AV.v (Value.int IntKind.i64 (-1 : Int)), AV.v (Value.bool false)]), some (Blk.arr (1 : Nat) b.x.N fun j => [AV.v (Value.int IntKind.u8 (b.x.g j))]), some (Blk.arr (1 : Nat) (List.length
    b.rs) (lsF Sx.c b.rs))])) (Tree.chk (cl ([AV.ptr (0 : Nat) (0 : Nat)] = [AV.ptr (0 : Nat) (0 : Nat)] ∧ [Blk.row [AV.v (Value.int IntKind.i64 (4194304 : Int)), AV.v (Value.int IntKind.i64
    b.x.fi), AV.v (Value.int IntKind.i64 b.x.fa), AV.hs (1 : Nat) b.x.o b.x.n, AV.v (Value.int IntKind.i64 (-1 : Int)), AV.v (Value.bool false)], Blk.arr (1 : Nat) b.x.N fun j => [AV.v
    (Value.int IntKind.u8 (b.x.g j))]] = [Blk.row [AV.v (Value.int IntKind.i64 (4194304 : Int)), AV.v (Value.int IntKind.i64 b.x.fi), AV.v (Value.int IntKind.i64 b.x.fa), AV.hs (1 : Nat)
    b.x.o b.x.n, AV.v (Value.int IntKind.i64 (-1 : Int)), AV.v (Value.bool false)], Blk.arr (1 : Nat) b.x.N fun j => [AV.v (Value.int IntKind.u8 (b.x.g j))]])) (Tree.br (Nat.beq
    (ByteArray.size y) (0 : Nat)) (Tree.chk (cl (LeL [AV.ptr (0 : Nat) (0 : Nat), AV.sl (1 : Nat) (0 : Nat) fun j => [AV.v (Value.int IntKind.u8 (sbyte y j))]] [AV.ptr (0 : Nat) (0 : Nat),
    AV.hs (2 : Nat) (0 : Nat) (ByteArray.size y)] ∧ LeH [some (Blk.row [AV.v (Value.int IntKind.i64 (4194304 : Int)), AV.v (Value.int IntKind.i64 b.x.fi), AV.v (Value.int IntKind.i64
    b.x.fa), AV.hs (1 : Nat) b.x.o b.x.n, AV.v (Value.int IntKind.i64 (-1 : Int)), AV.v (Value.bool false)]), some (Blk.arr (1 : Nat) b.x.N fun j => [AV.v (Value.int IntKind.u8 (b.x.g j))])]
    [some (Blk.row [AV.v (Value.int IntKind.i64 (4194304 : Int)), AV.v (Value.int IntKind.i64 b.x.fi), AV.v (Value.int IntKind.i64 b.x.fa), AV.hs (1 : Nat) b.x.o b.x.n, AV.v (Value.int
    IntKind.i64 (-1 : Int)), AV.v (Value.bool false)]), some (Blk.arr (1 : Nat) b.x.N fun j => [AV.v (Value.int IntKind.u8 (b.x.g j))]), some (Blk.arr (1 : Nat) (ByteArray.size y) (bsF
    y))])) (Tree.br true Tree.fail (Tree.br true Tree.fail Tree.fail))) (Tree.chk (cl (LeL [AV.ptr (0 : Nat) (0 : Nat), AV.hs (2 : Nat) (0 : Nat) (ByteArray.size y)] [AV.ptr (0 : Nat) (0 :
    Nat), AV.hs (2 : Nat) (0 : Nat) (ByteArray.size y)] ∧ LeH [some (Blk.row [AV.v (Value.int IntKind.i64 (4194304 : Int)), AV.v (Value.int IntKind.i64 b.x.fi), AV.v (Value.int IntKind.i64
    b.x.fa), AV.hs (1 : Nat) b.x.o b.x.n, AV.v (Value.int IntKind.i64 (-1 : Int)), AV.v (Value.bool false)]), some (Blk.arr (1 : Nat) b.x.N fun j => [AV.v (Value.int IntKind.u8 (b.x.g j))]),
    some (Blk.arr (1 : Nat) (ByteArray.size y) fun j => [AV.v (Value.int IntKind.u8 (sbyte y j))])] [some (Blk.row [AV.v (Value.int IntKind.i64 (4194304 : Int)), AV.v (Value.int IntKind.i64
    b.x.fi), AV.v (Value.int IntKind.i64 b.x.fa), AV.hs (1 : Nat) b.x.o b.x.n, AV.v (Value.int IntKind.i64 (-1 : Int)), AV.v (Value.bool false)]), some (Blk.arr (1 : Nat) b.x.N fun j =>
    [AV.v (Value.int IntKind.u8 (b.x.g j))]), some (Blk.arr (1 : Nat) (ByteArray.size y) (bsF y))])) (Tree.br true (Tree.chk (cl (LeL [AV.ptr (0 : Nat) (0 : Nat)] [AV.ptr (0 : Nat) (0 :
    Nat)] ∧ LeH [some (Blk.row [AV.v (Value.int IntKind.i64 (4194304 : Int)), AV.v (Value.int IntKind.i64 b.x.fi), AV.v (Value.int IntKind.i64 b.x.fa), AV.hs (1 : Nat) (0 : Nat) (b.x.n +
    ByteArray.size y), AV.v (Value.int IntKind.i64 (-1 : Int)), AV.v (Value.bool false)]), some (Blk.arr (1 : Nat) (b.x.n + ByteArray.size y) fun j => [AV.v (Value.int IntKind.u8 ((wq b.x y
    (ByteArray.size y)).g j))])] [some (Blk.row [AV.v (Value.int IntKind.i64 (4194304 : Int)), AV.v (Value.int IntKind.i64 b.x.fi), AV.v (Value.int IntKind.i64 b.x.fa), AV.hs (1 : Nat) (0 :
    Nat) (b.x.n + ByteArray.size y), AV.v (Value.int IntKind.i64 (-1 : Int)), AV.v (Value.bool false)]), some (Blk.arr (1 : Nat) (b.x.n + ByteArray.size y) fun j => [AV.v (Value.int
    IntKind.u8 ((wq b.x y (ByteArray.size y)).g j))])])) (Tree.br true (Tree.br false (Tree.leaf (Ans.mk (AV.tup [AV.v (Value.int IntKind.i64 (b.x.fi + (↑b.x.n : Int))), AV.v (Value.int
    IntKind.i64 (0 : Int))]) [some (Blk.row [AV.ptr (1 : Nat) (0 : Nat), AV.v (Value.int IntKind.i64 (IntKind.wrap IntKind.i64 (b.nx + (1 : Int)))), AV.v (Value.string (textOf (0 : Nat) g)),
    AV.v (Value.slice none (0 : Nat) (0 : Nat)), AV.sb false]), some (Blk.row [AV.v (Value.int IntKind.i64 (4194304 : Int)), AV.v (Value.int IntKind.i64 b.x.fi), AV.v (Value.int IntKind.i64
    (b.x.fi + (↑(b.x.n + ByteArray.size y) : Int))), AV.hs (4 : Nat) (0 : Nat) (b.x.n + ByteArray.size y), AV.v (Value.int IntKind.i64 (-1 : Int)), AV.v (Value.bool false)]), none, some
    (Blk.arr (1 : Nat) (List.length b.rs) (lsF Sx.c b.rs)), some (Blk.arr (1 : Nat) (b.x.n + ByteArray.size y) fun j => [AV.v (Value.int IntKind.u8 ((Tq.hold (wq b.x y (ByteArray.size y))).g
    j))])])) (Tree.chk (roomOk (16 : Nat) (List.length b.rs + (1 : Nat))) (Tree.leaf (Ans.mk (AV.tup [AV.v (Value.int IntKind.i64 (b.x.fi + (↑b.x.n : Int))), AV.v (Value.int IntKind.i64 (0 :
    Int))]) [some (Blk.row [AV.ptr (1 : Nat) (0 : Nat), AV.v (Value.int IntKind.i64 (IntKind.wrap IntKind.i64 (b.nx + (1 : Int)))), AV.v (Value.string b.sm), AV.hs (5 : Nat) (0 : Nat)
    (List.length b.rs + (1 : Nat)), AV.sb false]), some (Blk.row [AV.v (Value.int IntKind.i64 (4194304 : Int)), AV.v (Value.int IntKind.i64 b.x.fi), AV.v (Value.int IntKind.i64 (b.x.fi +
    (↑(b.x.n + ByteArray.size y) : Int))), AV.hs (4 : Nat) (0 : Nat) (b.x.n + ByteArray.size y), AV.v (Value.int IntKind.i64 (-1 : Int)), AV.v (Value.bool false)]), none, none, some (Blk.arr
    (1 : Nat) (b.x.n + ByteArray.size y) fun j => [AV.v (Value.int IntKind.u8 ((Tq.hold (wq b.x y (ByteArray.size y))).g j))]), some (Blk.arr (1 : Nat) (List.length b.rs + (1 : Nat)) fun j
    => mixL (decide (j < List.length b.rs)) (lsF Sx.c b.rs ((0 : Nat) + j)) (chain [AV.v (Value.string (ByteArray.mk #[]))] (0 : Nat) [[AV.v (Value.string (textOf (0 : Nat) g))]] ((0 : Nat)
    + (j - List.length b.rs))))])))) (Tree.leaf (Ans.mk (AV.tup [AV.v (Value.int IntKind.i64 (b.x.fi + (↑b.x.n : Int))), AV.v (Value.int IntKind.i64 (0 : Int))]) [some (Blk.row [AV.ptr (1 :
    Nat) (0 : Nat), AV.v (Value.int IntKind.i64 b.nx), AV.v (Value.string b.sm), AV.hs (3 : Nat) (0 : Nat) (List.length b.rs), AV.sb false]), some (Blk.row [AV.v (Value.int IntKind.i64
    (4194304 : Int)), AV.v (Value.int IntKind.i64 b.x.fi), AV.v (Value.int IntKind.i64 (b.x.fi + (↑(b.x.n + ByteArray.size y) : Int))), AV.hs (4 : Nat) (0 : Nat) (b.x.n + ByteArray.size y),
    AV.v (Value.int IntKind.i64 (-1 : Int)), AV.v (Value.bool false)]), none, some (Blk.arr (1 : Nat) (List.length b.rs) (lsF Sx.c b.rs)), some (Blk.arr (1 : Nat) (b.x.n + ByteArray.size y)
    fun j => [AV.v (Value.int IntKind.u8 ((Tq.hold (wq b.x y (ByteArray.size y))).g j))])])))) (Tree.br true (Tree.br false (Tree.leaf (Ans.mk (AV.tup [AV.v (Value.int IntKind.i64 (b.x.fi +
    (↑b.x.n : Int))), AV.v (Value.int IntKind.i64 (0 : Int))]) [some (Blk.row [AV.ptr (1 : Nat) (0 : Nat), AV.v (Value.int IntKind.i64 (IntKind.wrap IntKind.i64 (b.nx + (1 : Int)))), AV.v
    (Value.string (textOf (0 : Nat) g)), AV.v (Value.slice none (0 : Nat) (0 : Nat)), AV.sb false]), some (Blk.row [AV.v (Value.int IntKind.i64 (4194304 : Int)), AV.v (Value.int IntKind.i64
    b.x.fi), AV.v (Value.int IntKind.i64 b.x.fa), AV.hs (4 : Nat) (0 : Nat) (b.x.n + ByteArray.size y), AV.v (Value.int IntKind.i64 (-1 : Int)), AV.v (Value.bool false)]), none, some
    (Blk.arr (1 : Nat) (List.length b.rs) (lsF Sx.c b.rs)), some (Blk.arr (1 : Nat) (b.x.n + ByteArray.size y) fun j => [AV.v (Value.int IntKind.u8 ((wq b.x y (ByteArray.size y)).g j))])]))
    (Tree.chk (roomOk (16 : Nat) (List.length b.rs + (1 : Nat))) (Tree.leaf (Ans.mk (AV.tup [AV.v (Value.int IntKind.i64 (b.x.fi + (↑b.x.n : Int))), AV.v (Value.int IntKind.i64 (0 : Int))])
    [some (Blk.row [AV.ptr (1 : Nat) (0 : Nat), AV.v (Value.int IntKind.i64 (IntKind.wrap IntKind.i64 (b.nx + (1 : Int)))), AV.v (Value.string b.sm), AV.hs (5 : Nat) (0 : Nat) (List.length
    b.rs + (1 : Nat)), AV.sb false]), some (Blk.row [AV.v (Value.int IntKind.i64 (4194304 : Int)), AV.v (Value.int IntKind.i64 b.x.fi), AV.v (Value.int IntKind.i64 b.x.fa), AV.hs (4 : Nat)
    (0 : Nat) (b.x.n + ByteArray.size y), AV.v (Value.int IntKind.i64 (-1 : Int)), AV.v (Value.bool false)]), none, none, some (Blk.arr (1 : Nat) (b.x.n + ByteArray.size y) fun j => [AV.v
    (Value.int IntKind.u8 ((wq b.x y (ByteArray.size y)).g j))]), some (Blk.arr (1 : Nat) (List.length b.rs + (1 : Nat)) fun j => mixL (decide (j < List.length b.rs)) (lsF Sx.c b.rs ((0 :
    Nat) + j)) (chain [AV.v (Value.string (ByteArray.mk #[]))] (0 : Nat) [[AV.v (Value.string (textOf (0 : Nat) g))]] ((0 : Nat) + (j - List.length b.rs))))])))) (Tree.leaf (Ans.mk (AV.tup
    [AV.v (Value.int IntKind.i64 (b.x.fi + (↑b.x.n : Int))), AV.v (Value.int IntKind.i64 (0 : Int))]) [some (Blk.row [AV.ptr (1 : Nat) (0 : Nat), AV.v (Value.int IntKind.i64 b.nx), AV.v
    (Value.string b.sm), AV.hs (3 : Nat) (0 : Nat) (List.length b.rs), AV.sb false]), some (Blk.row [AV.v (Value.int IntKind.i64 (4194304 : Int)), AV.v (Value.int IntKind.i64 b.x.fi), AV.v
    (Value.int IntKind.i64 b.x.fa), AV.hs (4 : Nat) (0 : Nat) (b.x.n + ByteArray.size y), AV.v (Value.int IntKind.i64 (-1 : Int)), AV.v (Value.bool false)]), none, some (Blk.arr (1 : Nat)
    (List.length b.rs) (lsF Sx.c b.rs)), some (Blk.arr (1 : Nat) (b.x.n + ByteArray.size y) fun j => [AV.v (Value.int IntKind.u8 ((wq b.x y (ByteArray.size y)).g j))])])))))))))) := by kernel_rfl
theorem putS0 (b : Bk) (y : ByteArray) (g : Nat → List AV) (h1 : OnOK b.x) (h2 : LnOK b.nx 2 ⟨#[]⟩ y) (h3 : PlOK b.x) (h4 : WrOK b.x y) (h5 : HoOK (wq b.x y y.size)) : bodyE (P := Try.prog) (Γ := Γb) [CT.atN 17 h1, CT.at 26 h2, CT.atN 20 h3, CT.at 73 h4, CT.at 74 h5, k91] Lno false 84 [.tmp 6, .tmp 7] (bodyOf Try.f92) [.ptr 0 0, .v (.int .i64 2), .sl 1 0 g] b.bl =
  Tree.chk (cl ([AV.ptr (0 : Nat) (0 : Nat)] = [AV.ptr (0 : Nat) (0 : Nat)] ∧ [Blk.row [AV.v (Value.int IntKind.i64 (4194304 : Int)), AV.v (Value.int IntKind.i64 b.x.fi), AV.v (Value.int
    IntKind.i64 b.x.fa), AV.hs (1 : Nat) b.x.o b.x.n, AV.v (Value.int IntKind.i64 (-1 : Int)), AV.v (Value.bool false)], Blk.arr (1 : Nat) b.x.N fun j => [AV.v (Value.int IntKind.u8 (b.x.g
    j))]] = [Blk.row [AV.v (Value.int IntKind.i64 (4194304 : Int)), AV.v (Value.int IntKind.i64 b.x.fi), AV.v (Value.int IntKind.i64 b.x.fa), AV.hs (1 : Nat) b.x.o b.x.n, AV.v (Value.int
    IntKind.i64 (-1 : Int)), AV.v (Value.bool false)], Blk.arr (1 : Nat) b.x.N fun j => [AV.v (Value.int IntKind.u8 (b.x.g j))]])) (Tree.chk (allBytes (0 : Nat) g) (Tree.chk (cl (LeL [AV.agg
    [AV.v (Value.int IntKind.i64 b.nx), AV.v (Value.int IntKind.i64 (2 : Int)), AV.v (Value.string (textOf (0 : Nat) g))]] [AV.agg [AV.v (Value.int IntKind.i64 b.nx), AV.v (Value.int
    IntKind.i64 (2 : Int)), AV.v (Value.string (ByteArray.mk #[]))]] ∧ LeH [] [])) (Tree.br false (Tree.leaf (Ans.mk (AV.tup [AV.v (Value.int IntKind.i64 (0 : Int)), AV.v (Value.int
    IntKind.i64 (0 : Int))]) [some (Blk.row [AV.ptr (1 : Nat) (0 : Nat), AV.v (Value.int IntKind.i64 b.nx), AV.v (Value.string b.sm), AV.hs (3 : Nat) (0 : Nat) (List.length b.rs), AV.v
    (Value.bool false)]), some (Blk.row [AV.v (Value.int IntKind.i64 (4194304 : Int)), AV.v (Value.int IntKind.i64 b.x.fi), AV.v (Value.int IntKind.i64 b.x.fa), AV.hs (2 : Nat) b.x.o b.x.n,
    AV.v (Value.int IntKind.i64 (-1 : Int)), AV.v (Value.bool false)]), some (Blk.arr (1 : Nat) b.x.N fun j => [AV.v (Value.int IntKind.u8 (b.x.g j))]), some (Blk.arr (1 : Nat) (List.length
    b.rs) (lsF Sx.c b.rs))])) (Tree.chk (cl ([AV.ptr (0 : Nat) (0 : Nat)] = [AV.ptr (0 : Nat) (0 : Nat)] ∧ [Blk.row [AV.v (Value.int IntKind.i64 (4194304 : Int)), AV.v (Value.int IntKind.i64
    b.x.fi), AV.v (Value.int IntKind.i64 b.x.fa), AV.hs (1 : Nat) b.x.o b.x.n, AV.v (Value.int IntKind.i64 (-1 : Int)), AV.v (Value.bool false)], Blk.arr (1 : Nat) b.x.N fun j => [AV.v
    (Value.int IntKind.u8 (b.x.g j))]] = [Blk.row [AV.v (Value.int IntKind.i64 (4194304 : Int)), AV.v (Value.int IntKind.i64 b.x.fi), AV.v (Value.int IntKind.i64 b.x.fa), AV.hs (1 : Nat)
    b.x.o b.x.n, AV.v (Value.int IntKind.i64 (-1 : Int)), AV.v (Value.bool false)], Blk.arr (1 : Nat) b.x.N fun j => [AV.v (Value.int IntKind.u8 (b.x.g j))]])) (Tree.br (Nat.beq
    (ByteArray.size y) (0 : Nat)) (Tree.chk (cl (LeL [AV.ptr (0 : Nat) (0 : Nat), AV.sl (1 : Nat) (0 : Nat) fun j => [AV.v (Value.int IntKind.u8 (sbyte y j))]] [AV.ptr (0 : Nat) (0 : Nat),
    AV.hs (2 : Nat) (0 : Nat) (ByteArray.size y)] ∧ LeH [some (Blk.row [AV.v (Value.int IntKind.i64 (4194304 : Int)), AV.v (Value.int IntKind.i64 b.x.fi), AV.v (Value.int IntKind.i64
    b.x.fa), AV.hs (1 : Nat) b.x.o b.x.n, AV.v (Value.int IntKind.i64 (-1 : Int)), AV.v (Value.bool false)]), some (Blk.arr (1 : Nat) b.x.N fun j => [AV.v (Value.int IntKind.u8 (b.x.g j))])]
    [some (Blk.row [AV.v (Value.int IntKind.i64 (4194304 : Int)), AV.v (Value.int IntKind.i64 b.x.fi), AV.v (Value.int IntKind.i64 b.x.fa), AV.hs (1 : Nat) b.x.o b.x.n, AV.v (Value.int
    IntKind.i64 (-1 : Int)), AV.v (Value.bool false)]), some (Blk.arr (1 : Nat) b.x.N fun j => [AV.v (Value.int IntKind.u8 (b.x.g j))]), some (Blk.arr (1 : Nat) (ByteArray.size y) (bsF
    y))])) (Tree.br true Tree.fail (Tree.br true Tree.fail Tree.fail))) (Tree.chk (cl (LeL [AV.ptr (0 : Nat) (0 : Nat), AV.hs (2 : Nat) (0 : Nat) (ByteArray.size y)] [AV.ptr (0 : Nat) (0 :
    Nat), AV.hs (2 : Nat) (0 : Nat) (ByteArray.size y)] ∧ LeH [some (Blk.row [AV.v (Value.int IntKind.i64 (4194304 : Int)), AV.v (Value.int IntKind.i64 b.x.fi), AV.v (Value.int IntKind.i64
    b.x.fa), AV.hs (1 : Nat) b.x.o b.x.n, AV.v (Value.int IntKind.i64 (-1 : Int)), AV.v (Value.bool false)]), some (Blk.arr (1 : Nat) b.x.N fun j => [AV.v (Value.int IntKind.u8 (b.x.g j))]),
    some (Blk.arr (1 : Nat) (ByteArray.size y) fun j => [AV.v (Value.int IntKind.u8 (sbyte y j))])] [some (Blk.row [AV.v (Value.int IntKind.i64 (4194304 : Int)), AV.v (Value.int IntKind.i64
    b.x.fi), AV.v (Value.int IntKind.i64 b.x.fa), AV.hs (1 : Nat) b.x.o b.x.n, AV.v (Value.int IntKind.i64 (-1 : Int)), AV.v (Value.bool false)]), some (Blk.arr (1 : Nat) b.x.N fun j =>
    [AV.v (Value.int IntKind.u8 (b.x.g j))]), some (Blk.arr (1 : Nat) (ByteArray.size y) (bsF y))])) (Tree.br true (Tree.chk (cl (LeL [AV.ptr (0 : Nat) (0 : Nat)] [AV.ptr (0 : Nat) (0 :
    Nat)] ∧ LeH [some (Blk.row [AV.v (Value.int IntKind.i64 (4194304 : Int)), AV.v (Value.int IntKind.i64 b.x.fi), AV.v (Value.int IntKind.i64 b.x.fa), AV.hs (1 : Nat) (0 : Nat) (b.x.n +
    ByteArray.size y), AV.v (Value.int IntKind.i64 (-1 : Int)), AV.v (Value.bool false)]), some (Blk.arr (1 : Nat) (b.x.n + ByteArray.size y) fun j => [AV.v (Value.int IntKind.u8 ((wq b.x y
    (ByteArray.size y)).g j))])] [some (Blk.row [AV.v (Value.int IntKind.i64 (4194304 : Int)), AV.v (Value.int IntKind.i64 b.x.fi), AV.v (Value.int IntKind.i64 b.x.fa), AV.hs (1 : Nat) (0 :
    Nat) (b.x.n + ByteArray.size y), AV.v (Value.int IntKind.i64 (-1 : Int)), AV.v (Value.bool false)]), some (Blk.arr (1 : Nat) (b.x.n + ByteArray.size y) fun j => [AV.v (Value.int
    IntKind.u8 ((wq b.x y (ByteArray.size y)).g j))])])) (Tree.br true (Tree.br true (Tree.leaf (Ans.mk (AV.tup [AV.v (Value.int IntKind.i64 (b.x.fi + (↑b.x.n : Int))), AV.v (Value.int
    IntKind.i64 (0 : Int))]) [some (Blk.row [AV.ptr (1 : Nat) (0 : Nat), AV.v (Value.int IntKind.i64 (IntKind.wrap IntKind.i64 (b.nx + (1 : Int)))), AV.v (Value.string (textOf (0 : Nat) g)),
    AV.v (Value.slice none (0 : Nat) (0 : Nat)), AV.sb false]), some (Blk.row [AV.v (Value.int IntKind.i64 (4194304 : Int)), AV.v (Value.int IntKind.i64 b.x.fi), AV.v (Value.int IntKind.i64
    (b.x.fi + (↑(b.x.n + ByteArray.size y) : Int))), AV.hs (4 : Nat) (0 : Nat) (b.x.n + ByteArray.size y), AV.v (Value.int IntKind.i64 (-1 : Int)), AV.v (Value.bool false)]), none, some
    (Blk.arr (1 : Nat) (List.length b.rs) (lsF Sx.c b.rs)), some (Blk.arr (1 : Nat) (b.x.n + ByteArray.size y) fun j => [AV.v (Value.int IntKind.u8 ((Tq.hold (wq b.x y (ByteArray.size y))).g
    j))])])) (Tree.chk (roomOk (16 : Nat) (List.length b.rs + (1 : Nat))) (Tree.leaf (Ans.mk (AV.tup [AV.v (Value.int IntKind.i64 (b.x.fi + (↑b.x.n : Int))), AV.v (Value.int IntKind.i64 (0 :
    Int))]) [some (Blk.row [AV.ptr (1 : Nat) (0 : Nat), AV.v (Value.int IntKind.i64 (IntKind.wrap IntKind.i64 (b.nx + (1 : Int)))), AV.v (Value.string b.sm), AV.hs (5 : Nat) (0 : Nat)
    (List.length b.rs + (1 : Nat)), AV.sb false]), some (Blk.row [AV.v (Value.int IntKind.i64 (4194304 : Int)), AV.v (Value.int IntKind.i64 b.x.fi), AV.v (Value.int IntKind.i64 (b.x.fi +
    (↑(b.x.n + ByteArray.size y) : Int))), AV.hs (4 : Nat) (0 : Nat) (b.x.n + ByteArray.size y), AV.v (Value.int IntKind.i64 (-1 : Int)), AV.v (Value.bool false)]), none, none, some (Blk.arr
    (1 : Nat) (b.x.n + ByteArray.size y) fun j => [AV.v (Value.int IntKind.u8 ((Tq.hold (wq b.x y (ByteArray.size y))).g j))]), some (Blk.arr (1 : Nat) (List.length b.rs + (1 : Nat)) fun j
    => mixL (decide (j < List.length b.rs)) (lsF Sx.c b.rs ((0 : Nat) + j)) (chain [AV.v (Value.string (ByteArray.mk #[]))] (0 : Nat) [[AV.v (Value.string (textOf (0 : Nat) g))]] ((0 : Nat)
    + (j - List.length b.rs))))])))) (Tree.leaf (Ans.mk (AV.tup [AV.v (Value.int IntKind.i64 (b.x.fi + (↑b.x.n : Int))), AV.v (Value.int IntKind.i64 (0 : Int))]) [some (Blk.row [AV.ptr (1 :
    Nat) (0 : Nat), AV.v (Value.int IntKind.i64 b.nx), AV.v (Value.string b.sm), AV.hs (3 : Nat) (0 : Nat) (List.length b.rs), AV.sb false]), some (Blk.row [AV.v (Value.int IntKind.i64
    (4194304 : Int)), AV.v (Value.int IntKind.i64 b.x.fi), AV.v (Value.int IntKind.i64 (b.x.fi + (↑(b.x.n + ByteArray.size y) : Int))), AV.hs (4 : Nat) (0 : Nat) (b.x.n + ByteArray.size y),
    AV.v (Value.int IntKind.i64 (-1 : Int)), AV.v (Value.bool false)]), none, some (Blk.arr (1 : Nat) (List.length b.rs) (lsF Sx.c b.rs)), some (Blk.arr (1 : Nat) (b.x.n + ByteArray.size y)
    fun j => [AV.v (Value.int IntKind.u8 ((Tq.hold (wq b.x y (ByteArray.size y))).g j))])])))) (Tree.br true (Tree.br true (Tree.leaf (Ans.mk (AV.tup [AV.v (Value.int IntKind.i64 (b.x.fi +
    (↑b.x.n : Int))), AV.v (Value.int IntKind.i64 (0 : Int))]) [some (Blk.row [AV.ptr (1 : Nat) (0 : Nat), AV.v (Value.int IntKind.i64 (IntKind.wrap IntKind.i64 (b.nx + (1 : Int)))), AV.v
    (Value.string (textOf (0 : Nat) g)), AV.v (Value.slice none (0 : Nat) (0 : Nat)), AV.sb false]), some (Blk.row [AV.v (Value.int IntKind.i64 (4194304 : Int)), AV.v (Value.int IntKind.i64
    b.x.fi), AV.v (Value.int IntKind.i64 b.x.fa), AV.hs (4 : Nat) (0 : Nat) (b.x.n + ByteArray.size y), AV.v (Value.int IntKind.i64 (-1 : Int)), AV.v (Value.bool false)]), none, some
    (Blk.arr (1 : Nat) (List.length b.rs) (lsF Sx.c b.rs)), some (Blk.arr (1 : Nat) (b.x.n + ByteArray.size y) fun j => [AV.v (Value.int IntKind.u8 ((wq b.x y (ByteArray.size y)).g j))])]))
    (Tree.chk (roomOk (16 : Nat) (List.length b.rs + (1 : Nat))) (Tree.leaf (Ans.mk (AV.tup [AV.v (Value.int IntKind.i64 (b.x.fi + (↑b.x.n : Int))), AV.v (Value.int IntKind.i64 (0 : Int))])
    [some (Blk.row [AV.ptr (1 : Nat) (0 : Nat), AV.v (Value.int IntKind.i64 (IntKind.wrap IntKind.i64 (b.nx + (1 : Int)))), AV.v (Value.string b.sm), AV.hs (5 : Nat) (0 : Nat) (List.length
    b.rs + (1 : Nat)), AV.sb false]), some (Blk.row [AV.v (Value.int IntKind.i64 (4194304 : Int)), AV.v (Value.int IntKind.i64 b.x.fi), AV.v (Value.int IntKind.i64 b.x.fa), AV.hs (4 : Nat)
    (0 : Nat) (b.x.n + ByteArray.size y), AV.v (Value.int IntKind.i64 (-1 : Int)), AV.v (Value.bool false)]), none, none, some (Blk.arr (1 : Nat) (b.x.n + ByteArray.size y) fun j => [AV.v
    (Value.int IntKind.u8 ((wq b.x y (ByteArray.size y)).g j))]), some (Blk.arr (1 : Nat) (List.length b.rs + (1 : Nat)) fun j => mixL (decide (j < List.length b.rs)) (lsF Sx.c b.rs ((0 :
    Nat) + j)) (chain [AV.v (Value.string (ByteArray.mk #[]))] (0 : Nat) [[AV.v (Value.string (textOf (0 : Nat) g))]] ((0 : Nat) + (j - List.length b.rs))))])))) (Tree.leaf (Ans.mk (AV.tup
    [AV.v (Value.int IntKind.i64 (b.x.fi + (↑b.x.n : Int))), AV.v (Value.int IntKind.i64 (0 : Int))]) [some (Blk.row [AV.ptr (1 : Nat) (0 : Nat), AV.v (Value.int IntKind.i64 b.nx), AV.v
    (Value.string b.sm), AV.hs (3 : Nat) (0 : Nat) (List.length b.rs), AV.sb false]), some (Blk.row [AV.v (Value.int IntKind.i64 (4194304 : Int)), AV.v (Value.int IntKind.i64 b.x.fi), AV.v
    (Value.int IntKind.i64 b.x.fa), AV.hs (4 : Nat) (0 : Nat) (b.x.n + ByteArray.size y), AV.v (Value.int IntKind.i64 (-1 : Int)), AV.v (Value.bool false)]), none, some (Blk.arr (1 : Nat)
    (List.length b.rs) (lsF Sx.c b.rs)), some (Blk.arr (1 : Nat) (b.x.n + ByteArray.size y) fun j => [AV.v (Value.int IntKind.u8 ((wq b.x y (ByteArray.size y)).g j))])])))))))))) := by kernel_rfl
end Go.Eng.SB.B

namespace Go.Eng.SB.B
open Go Go.Eng Go.Eng.SB Go.Eng.SB.T Go.Lib Go.Proofs
theorem textQ (s : ByteArray) : (textOf s.size fun j => bsF s (0 + j)) = s := by
  have : (fun j => bsF s (0 + j)) = bsF s := by funext j; rw [Nat.zero_add]
  rw [this, textOf_bsF]
theorem allQ (n : Nat) (s : ByteArray) : (allBytes n fun j => bsF s (0 + j)) = true := by
  have : (fun j => bsF s (0 + j)) = bsF s := by funext j; rw [Nat.zero_add]
  rw [this, allBytes_bsF]
theorem rm16 {n : Nat} (h : n ≤ 1000000) : roomOk 16 n = true := by
  unfold roomOk
  exact decide_eq_true (by omega)
def Bk.tp (b : Bk) (y : ByteArray) : Tq := (wq b.x y y.size).hold
def Bk.add (b : Bk) (s y : ByteArray) : Bk := ⟨b.tp y, b.nx + 1, b.sm, b.rs ++ [⟨s⟩]⟩
def Bk.ok (b : Bk) (m : Nat) : Prop := 0 ≤ b.x.fi ∧ b.x.fi + (b.x.n : Int) ≤ m * 7000 ∧ b.nx = (m : Int) + 1 ∧ b.rs.length ≤ m
structure PutIn (b : Bk) (k : Int) (s y : ByteArray) : Prop where
  ln : LnOK b.nx k s y
  y0 : 0 < y.size
  y1 : y.size ≤ 7000
theorem facts {b : Bk} {m : Nat} (h : b.ok m) (hm : m ≤ 100) {y : ByteArray} (y0 : 0 < y.size) (y1 : y.size ≤ 7000) : OnOK b.x ∧ PlOK b.x ∧ WrOK b.x y ∧ HoOK (wq b.x y y.size) := by
  obtain ⟨h1, h2, h3, h4⟩ := h
  have hx : b.x.ok := ⟨h1, by omega, by omega⟩
  exact ⟨ansQOn _, ansQPl hx, ansQW hx (by omega) y0 (by omega), ansQHo ⟨h1, by show b.x.fi ≤ _; omega, by show b.x.n + y.size ≤ _; omega⟩⟩
def PutA (b : Bk) (s y : ByteArray) : Prop := Answers Try.prog Γb 92 [.ptr 0 0, .v (.int .i64 1), .hs 4 0 s.size] (b.bl ++ [byB s]) (.tup [.v (.int .i64 (b.x.fi + (b.x.n : Int))), .v (.int .i64 0)]) [some ((b.add s y).row 1 6), some ((b.tp y).row 5), none, none, some (byB s)] [(b.tp y).arr, (b.add s y).ra]
def PutA0 (b : Bk) (y : ByteArray) (g : Nat → List AV) : Prop := Answers Try.prog Γb 92 [.ptr 0 0, .v (.int .i64 1), .sl 1 0 g] b.bl (.tup [.v (.int .i64 (b.x.fi + (b.x.n : Int))), .v (.int .i64 0)]) [some ((b.add ⟨#[]⟩ y).row 1 5), some ((b.tp y).row 4), none, none] [(b.tp y).arr, (b.add ⟨#[]⟩ y).ra]
@[reducible] def Bk.srow (b : Bk) (t : Nat) (s : ByteArray) : Blk := .row [.ptr t 0, .v (.int .i64 (b.nx + 1)), .v (.string s), .v (.slice none 0 0), .v (.bool false)]
def PutS (b : Bk) (s y : ByteArray) : Prop := Answers Try.prog Γb 92 [.ptr 0 0, .v (.int .i64 2), .hs 4 0 s.size] (b.bl ++ [byB s]) (.tup [.v (.int .i64 (b.x.fi + (b.x.n : Int))), .v (.int .i64 0)]) [some (b.srow 1 s), some ((b.tp y).row 5), none, none, some (byB s)] [(b.tp y).arr]
def PutS0 (b : Bk) (y : ByteArray) (g : Nat → List AV) : Prop := Answers Try.prog Γb 92 [.ptr 0 0, .v (.int .i64 2), .sl 1 0 g] b.bl (.tup [.v (.int .i64 (b.x.fi + (b.x.n : Int))), .v (.int .i64 0)]) [some (b.srow 1 ⟨#[]⟩), some ((b.tp y).row 4), none, none] [(b.tp y).arr]
theorem ccT (a b : AV) : cl (LeL [AV.ptr 0 0] [AV.ptr 0 0] ∧ LeH [] []) = true := cl_iff.2 ⟨LeL.refl _, trivial⟩
theorem rowSb {t : Nat} {n : Int} {s : ByteArray} {v : AV} : OLe (some (.row [.ptr t 0, .v (.int .i64 n), .v (.string s), v, .sb false])) (some (.row [.ptr t 0, .v (.int .i64 n), .v (.string s), v, .v (.bool false)])) := .some (.row ⟨.refl _, .refl _, .refl _, .refl _, .sb false, trivial⟩)
theorem app_rs (b : Bk) (s y : ByteArray) : OLe (some (.arr 1 (b.rs.length + 1) fun j => mixL (decide (j < b.rs.length)) (lsF Sx.c b.rs (0 + j)) (chain [AV.v (.string ⟨#[]⟩)] 0 [[AV.v (.string s)]] (0 + (j - b.rs.length))))) (some (b.add s y).ra) := by
  have := Sx.cod.app1 b.rs [] ⟨s⟩ ⟨⟨#[]⟩⟩ rfl rfl
  rw [List.append_nil] at this
  simp only [Nat.zero_add]
  exact this
theorem putA_ok {b : Bk} {m : Nat} (h : b.ok m) (hm : m ≤ 100) {s y : ByteArray} (p : PutIn b 1 s y) : PutA b s y := by
  obtain ⟨h1, h3, h4, h5⟩ := facts h hm p.y0 p.y1
  obtain ⟨_, _, n1, n3⟩ := h
  refine answers (fn := Try.f92) (c := bodyOf Try.f92) (ntmps := 84) (results := [.tmp 6, .tmp 7]) [CT.atN 17 h1, CT.at 26 p.ln, CT.atN 20 h3, CT.at 73 h4, CT.at 74 h5, k91] Lno false Try.func92 (by kernel_rfl) (by kernel_rfl) (by kernel_rfl) (by kernel_rfl) (by simp) rfl (failOK fun _ _ _ => rfl) (Meets.of (putA b s y h1 p.ln h3 h4 h5) ?_)
  have w : IntKind.i64.wrap (b.nx + (1 : Int)) = b.nx + 1 := w64 (by omega) (by omega)
  have yb : Nat.beq y.size 0 = false := by
    cases hb : Nat.beq y.size 0 with
    | false => rfl
    | true => exact absurd (Nat.eq_of_beq_eq_true hb) (by have := p.y0; omega)
  simp only [textQ, allQ, w, yb]
  refine wC (cl_iff.2 (by first | exact ⟨rfl, rfl⟩ | exact ⟨trivial, rfl⟩ | exact ⟨trivial, trivial⟩)) (wC rfl (wC (cl_iff.2 ⟨LeL.refl _, trivial⟩) (wN rfl (wC (cl_iff.2 (by first | exact ⟨rfl, rfl⟩ | exact ⟨trivial, rfl⟩ | exact ⟨trivial, trivial⟩)) (wN rfl (wC (cl_iff.2 ⟨LeL.refl _, LeH.refl _⟩) (wT rfl (wC (cl_iff.2 ⟨LeL.refl _, LeH.refl _⟩) (wT rfl (wN rfl (wC (rm16 (by omega)) ?_)))))))))))
  refine ⟨.refl _, ?_, .refl _, .refl _, .refl _, .refl _, .refl _, app_rs b s y, trivial⟩
  show OLe _ (some (.row [.ptr 1 0, .v (.int .i64 (b.nx + 1)), .v (.string b.sm), .hs 6 0 (b.rs ++ [(⟨s⟩ : Sx)]).length, .v (.bool false)]))
  rw [List.length_append]
  exact rowSb
theorem putA0_ok {b : Bk} {m : Nat} (h : b.ok m) (hm : m ≤ 100) {y : ByteArray} {g : Nat → List AV} (p : PutIn b 1 ⟨#[]⟩ y) : PutA0 b y g := by
  obtain ⟨h1, h3, h4, h5⟩ := facts h hm p.y0 p.y1
  obtain ⟨_, _, n1, n3⟩ := h
  refine answers (fn := Try.f92) (c := bodyOf Try.f92) (ntmps := 84) (results := [.tmp 6, .tmp 7]) [CT.atN 17 h1, CT.at 26 p.ln, CT.atN 20 h3, CT.at 73 h4, CT.at 74 h5, k91] Lno false Try.func92 (by kernel_rfl) (by kernel_rfl) (by kernel_rfl) (by kernel_rfl) (by simp) rfl (failOK fun _ _ _ => rfl) (Meets.of (putA0 b y g h1 p.ln h3 h4 h5) ?_)
  have w : IntKind.i64.wrap (b.nx + (1 : Int)) = b.nx + 1 := w64 (by omega) (by omega)
  have yb : Nat.beq y.size 0 = false := by
    cases hb : Nat.beq y.size 0 with
    | false => rfl
    | true => exact absurd (Nat.eq_of_beq_eq_true hb) (by have := p.y0; omega)
  have tz : textOf 0 g = ⟨#[]⟩ := rfl
  have az : allBytes 0 g = true := rfl
  simp only [tz, az, w, yb]
  refine wC (cl_iff.2 (by first | exact ⟨rfl, rfl⟩ | exact ⟨trivial, rfl⟩ | exact ⟨trivial, trivial⟩)) (wC rfl (wC (cl_iff.2 ⟨LeL.refl _, trivial⟩) (wN rfl (wC (cl_iff.2 (by first | exact ⟨rfl, rfl⟩ | exact ⟨trivial, rfl⟩ | exact ⟨trivial, trivial⟩)) (wN rfl (wC (cl_iff.2 ⟨LeL.refl _, LeH.refl _⟩) (wT rfl (wC (cl_iff.2 ⟨LeL.refl _, LeH.refl _⟩) (wT rfl (wN rfl (wC (rm16 (by omega)) ?_)))))))))))
  refine ⟨.refl _, ?_, .refl _, .refl _, .refl _, .refl _, app_rs b ⟨#[]⟩ y, trivial⟩
  show OLe _ (some (.row [.ptr 1 0, .v (.int .i64 (b.nx + 1)), .v (.string b.sm), .hs 5 0 (b.rs ++ [(⟨⟨#[]⟩⟩ : Sx)]).length, .v (.bool false)]))
  rw [List.length_append]
  exact rowSb
theorem putS_ok {b : Bk} {m : Nat} (h : b.ok m) (hm : m ≤ 100) {s y : ByteArray} (p : PutIn b 2 s y) : PutS b s y := by
  obtain ⟨h1, h3, h4, h5⟩ := facts h hm p.y0 p.y1
  obtain ⟨_, _, n1, n3⟩ := h
  refine answers (fn := Try.f92) (c := bodyOf Try.f92) (ntmps := 84) (results := [.tmp 6, .tmp 7]) [CT.atN 17 h1, CT.at 26 p.ln, CT.atN 20 h3, CT.at 73 h4, CT.at 74 h5, k91] Lno false Try.func92 (by kernel_rfl) (by kernel_rfl) (by kernel_rfl) (by kernel_rfl) (by simp) rfl (failOK fun _ _ _ => rfl) (Meets.of (putS b s y h1 p.ln h3 h4 h5) ?_)
  have w : IntKind.i64.wrap (b.nx + (1 : Int)) = b.nx + 1 := w64 (by omega) (by omega)
  have yb : Nat.beq y.size 0 = false := by
    cases hb : Nat.beq y.size 0 with
    | false => rfl
    | true => exact absurd (Nat.eq_of_beq_eq_true hb) (by have := p.y0; omega)
  simp only [textQ, allQ, w, yb]
  refine wC (cl_iff.2 (by first | exact ⟨rfl, rfl⟩ | exact ⟨trivial, rfl⟩ | exact ⟨trivial, trivial⟩)) (wC rfl (wC (cl_iff.2 ⟨LeL.refl _, trivial⟩) (wN rfl (wC (cl_iff.2 (by first | exact ⟨rfl, rfl⟩ | exact ⟨trivial, rfl⟩ | exact ⟨trivial, trivial⟩)) (wN rfl (wC (cl_iff.2 ⟨LeL.refl _, LeH.refl _⟩) (wT rfl (wC (cl_iff.2 ⟨LeL.refl _, LeH.refl _⟩) (wT rfl (wT rfl ?_))))))))))
  exact ⟨.refl _, rowSb, .refl _, .refl _, .none _, .refl _, .refl _, trivial⟩
theorem putS0_ok {b : Bk} {m : Nat} (h : b.ok m) (hm : m ≤ 100) {y : ByteArray} {g : Nat → List AV} (p : PutIn b 2 ⟨#[]⟩ y) : PutS0 b y g := by
  obtain ⟨h1, h3, h4, h5⟩ := facts h hm p.y0 p.y1
  obtain ⟨_, _, n1, n3⟩ := h
  refine answers (fn := Try.f92) (c := bodyOf Try.f92) (ntmps := 84) (results := [.tmp 6, .tmp 7]) [CT.atN 17 h1, CT.at 26 p.ln, CT.atN 20 h3, CT.at 73 h4, CT.at 74 h5, k91] Lno false Try.func92 (by kernel_rfl) (by kernel_rfl) (by kernel_rfl) (by kernel_rfl) (by simp) rfl (failOK fun _ _ _ => rfl) (Meets.of (putS0 b y g h1 p.ln h3 h4 h5) ?_)
  have w : IntKind.i64.wrap (b.nx + (1 : Int)) = b.nx + 1 := w64 (by omega) (by omega)
  have yb : Nat.beq y.size 0 = false := by
    cases hb : Nat.beq y.size 0 with
    | false => rfl
    | true => exact absurd (Nat.eq_of_beq_eq_true hb) (by have := p.y0; omega)
  have tz : textOf 0 g = ⟨#[]⟩ := rfl
  have az : allBytes 0 g = true := rfl
  simp only [tz, az, w, yb]
  refine wC (cl_iff.2 (by first | exact ⟨rfl, rfl⟩ | exact ⟨trivial, rfl⟩ | exact ⟨trivial, trivial⟩)) (wC rfl (wC (cl_iff.2 ⟨LeL.refl _, trivial⟩) (wN rfl (wC (cl_iff.2 (by first | exact ⟨rfl, rfl⟩ | exact ⟨trivial, rfl⟩ | exact ⟨trivial, trivial⟩)) (wN rfl (wC (cl_iff.2 ⟨LeL.refl _, LeH.refl _⟩) (wT rfl (wC (cl_iff.2 ⟨LeL.refl _, LeH.refl _⟩) (wT rfl (wT rfl ?_))))))))))
  exact ⟨.refl _, rowSb, .refl _, .refl _, .none _, .refl _, trivial⟩
end Go.Eng.SB.B

namespace Go.Eng.SB.B
open Go Go.Eng Go.Eng.SB Go.Eng.SB.T Go.Lib Go.Proofs
def ShOK (x : Tq) (p : Int) : Prop := Answers Try.prog Γb 75 [.ptr 0 0, .v (.int .i64 p)] x.bl (.v (.int .i64 0)) ((x.shed p).bl.map some) []
theorem rAd (b : Bk) (s y : ByteArray) (h : PutA b s y) : bodyE (P := Try.prog) (Γ := Γb) [CT.at 92 h] Lno false 14 [.tmp 4] (bodyOf Try.f37) [.ptr 0 0, .hs 4 0 s.size] (b.bl ++ [byB s]) =
  Tree.chk (cl (LeL [AV.ptr (0 : Nat) (0 : Nat), AV.v (Value.int IntKind.i64 (1 : Int)), AV.hs (4 : Nat) (0 : Nat) (ByteArray.size s)] [AV.ptr (0 : Nat) (0 : Nat), AV.v (Value.int IntKind.i64
    (1 : Int)), AV.hs (4 : Nat) (0 : Nat) (ByteArray.size s)] ∧ LeH [some (Blk.row [AV.ptr (1 : Nat) (0 : Nat), AV.v (Value.int IntKind.i64 b.nx), AV.v (Value.string b.sm), AV.hs (3 : Nat)
    (0 : Nat) (List.length b.rs), AV.v (Value.bool false)]), some (Blk.row [AV.v (Value.int IntKind.i64 (4194304 : Int)), AV.v (Value.int IntKind.i64 b.x.fi), AV.v (Value.int IntKind.i64
    b.x.fa), AV.hs (2 : Nat) b.x.o b.x.n, AV.v (Value.int IntKind.i64 (-1 : Int)), AV.v (Value.bool false)]), some (Blk.arr (1 : Nat) b.x.N fun j => [AV.v (Value.int IntKind.u8 (b.x.g j))]),
    some (Blk.arr (1 : Nat) (List.length b.rs) (lsF Sx.c b.rs)), some (Blk.arr (1 : Nat) (ByteArray.size s) (bsF s))] [some (Blk.row [AV.ptr (1 : Nat) (0 : Nat), AV.v (Value.int IntKind.i64
    b.nx), AV.v (Value.string b.sm), AV.hs (3 : Nat) (0 : Nat) (List.length b.rs), AV.v (Value.bool false)]), some (Blk.row [AV.v (Value.int IntKind.i64 (4194304 : Int)), AV.v (Value.int
    IntKind.i64 b.x.fi), AV.v (Value.int IntKind.i64 b.x.fa), AV.hs (2 : Nat) b.x.o b.x.n, AV.v (Value.int IntKind.i64 (-1 : Int)), AV.v (Value.bool false)]), some (Blk.arr (1 : Nat) b.x.N
    fun j => [AV.v (Value.int IntKind.u8 (b.x.g j))]), some (Blk.arr (1 : Nat) (List.length b.rs) (lsF Sx.c b.rs)), some (Blk.arr (1 : Nat) (ByteArray.size s) (bsF s))])) (Tree.leaf (Ans.mk
    (AV.v (Value.int IntKind.i64 (0 : Int))) [some (Blk.row [AV.ptr (1 : Nat) (0 : Nat), AV.v (Value.int IntKind.i64 (b.nx + (1 : Int))), AV.v (Value.string b.sm), AV.hs (6 : Nat) (0 : Nat)
    (List.length (Bk.add b s y).rs), AV.v (Value.bool false)]), some (Blk.row [AV.v (Value.int IntKind.i64 (4194304 : Int)), AV.v (Value.int IntKind.i64 b.x.fi), AV.v (Value.int IntKind.i64
    (b.x.fi + (↑(b.x.n + ByteArray.size y) : Int))), AV.hs (5 : Nat) (0 : Nat) (b.x.n + ByteArray.size y), AV.v (Value.int IntKind.i64 (-1 : Int)), AV.v (Value.bool false)]), none, none,
    some (Blk.arr (1 : Nat) (ByteArray.size s) (bsF s)), some (Blk.arr (1 : Nat) (b.x.n + ByteArray.size y) fun j => [AV.v (Value.int IntKind.u8 ((Bk.tp b y).g j))]), some (Blk.arr (1 : Nat)
    (List.length (Bk.add b s y).rs) (lsF Sx.c (Bk.add b s y).rs))])) := by kernel_rfl
theorem rAd0 (b : Bk) (y : ByteArray) (g : Nat → List AV) (h : PutA0 b y g) : bodyE (P := Try.prog) (Γ := Γb) [CT.at 92 h] Lno false 14 [.tmp 4] (bodyOf Try.f37) [.ptr 0 0, .sl 1 0 g] b.bl =
  Tree.chk (cl (LeL [AV.ptr (0 : Nat) (0 : Nat), AV.v (Value.int IntKind.i64 (1 : Int)), AV.sl (1 : Nat) (0 : Nat) g] [AV.ptr (0 : Nat) (0 : Nat), AV.v (Value.int IntKind.i64 (1 : Int)), AV.sl
    (1 : Nat) (0 : Nat) g] ∧ LeH [some (Blk.row [AV.ptr (1 : Nat) (0 : Nat), AV.v (Value.int IntKind.i64 b.nx), AV.v (Value.string b.sm), AV.hs (3 : Nat) (0 : Nat) (List.length b.rs), AV.v
    (Value.bool false)]), some (Blk.row [AV.v (Value.int IntKind.i64 (4194304 : Int)), AV.v (Value.int IntKind.i64 b.x.fi), AV.v (Value.int IntKind.i64 b.x.fa), AV.hs (2 : Nat) b.x.o b.x.n,
    AV.v (Value.int IntKind.i64 (-1 : Int)), AV.v (Value.bool false)]), some (Blk.arr (1 : Nat) b.x.N fun j => [AV.v (Value.int IntKind.u8 (b.x.g j))]), some (Blk.arr (1 : Nat) (List.length
    b.rs) (lsF Sx.c b.rs))] [some (Blk.row [AV.ptr (1 : Nat) (0 : Nat), AV.v (Value.int IntKind.i64 b.nx), AV.v (Value.string b.sm), AV.hs (3 : Nat) (0 : Nat) (List.length b.rs), AV.v
    (Value.bool false)]), some (Blk.row [AV.v (Value.int IntKind.i64 (4194304 : Int)), AV.v (Value.int IntKind.i64 b.x.fi), AV.v (Value.int IntKind.i64 b.x.fa), AV.hs (2 : Nat) b.x.o b.x.n,
    AV.v (Value.int IntKind.i64 (-1 : Int)), AV.v (Value.bool false)]), some (Blk.arr (1 : Nat) b.x.N fun j => [AV.v (Value.int IntKind.u8 (b.x.g j))]), some (Blk.arr (1 : Nat) (List.length
    b.rs) (lsF Sx.c b.rs))])) (Tree.leaf (Ans.mk (AV.v (Value.int IntKind.i64 (0 : Int))) [some (Blk.row [AV.ptr (1 : Nat) (0 : Nat), AV.v (Value.int IntKind.i64 (b.nx + (1 : Int))), AV.v
    (Value.string b.sm), AV.hs (5 : Nat) (0 : Nat) (List.length (Bk.add b (ByteArray.mk #[]) y).rs), AV.v (Value.bool false)]), some (Blk.row [AV.v (Value.int IntKind.i64 (4194304 : Int)),
    AV.v (Value.int IntKind.i64 b.x.fi), AV.v (Value.int IntKind.i64 (b.x.fi + (↑(b.x.n + ByteArray.size y) : Int))), AV.hs (4 : Nat) (0 : Nat) (b.x.n + ByteArray.size y), AV.v (Value.int
    IntKind.i64 (-1 : Int)), AV.v (Value.bool false)]), none, none, some (Blk.arr (1 : Nat) (b.x.n + ByteArray.size y) fun j => [AV.v (Value.int IntKind.u8 ((Bk.tp b y).g j))]), some
    (Blk.arr (1 : Nat) (List.length (Bk.add b (ByteArray.mk #[]) y).rs) (lsF Sx.c (Bk.add b (ByteArray.mk #[]) y).rs))])) := by kernel_rfl
theorem rSu (b : Bk) (s y : ByteArray) (h : PutS b s y) (h2 : ShOK (b.tp y) (b.x.fi + (b.x.n : Int))) : bodyE (P := Try.prog) (Γ := Γb) [CT.at 92 h, CT.at 75 h2] Lno false 28 [.tmp 4] (bodyOf Try.f34) [.ptr 0 0, .hs 4 0 s.size] (b.bl ++ [byB s]) =
  Tree.chk (cl (LeL [AV.ptr (0 : Nat) (0 : Nat), AV.v (Value.int IntKind.i64 (2 : Int)), AV.hs (4 : Nat) (0 : Nat) (ByteArray.size s)] [AV.ptr (0 : Nat) (0 : Nat), AV.v (Value.int IntKind.i64
    (2 : Int)), AV.hs (4 : Nat) (0 : Nat) (ByteArray.size s)] ∧ LeH [some (Blk.row [AV.ptr (1 : Nat) (0 : Nat), AV.v (Value.int IntKind.i64 b.nx), AV.v (Value.string b.sm), AV.hs (3 : Nat)
    (0 : Nat) (List.length b.rs), AV.v (Value.bool false)]), some (Blk.row [AV.v (Value.int IntKind.i64 (4194304 : Int)), AV.v (Value.int IntKind.i64 b.x.fi), AV.v (Value.int IntKind.i64
    b.x.fa), AV.hs (2 : Nat) b.x.o b.x.n, AV.v (Value.int IntKind.i64 (-1 : Int)), AV.v (Value.bool false)]), some (Blk.arr (1 : Nat) b.x.N fun j => [AV.v (Value.int IntKind.u8 (b.x.g j))]),
    some (Blk.arr (1 : Nat) (List.length b.rs) (lsF Sx.c b.rs)), some (Blk.arr (1 : Nat) (ByteArray.size s) (bsF s))] [some (Blk.row [AV.ptr (1 : Nat) (0 : Nat), AV.v (Value.int IntKind.i64
    b.nx), AV.v (Value.string b.sm), AV.hs (3 : Nat) (0 : Nat) (List.length b.rs), AV.v (Value.bool false)]), some (Blk.row [AV.v (Value.int IntKind.i64 (4194304 : Int)), AV.v (Value.int
    IntKind.i64 b.x.fi), AV.v (Value.int IntKind.i64 b.x.fa), AV.hs (2 : Nat) b.x.o b.x.n, AV.v (Value.int IntKind.i64 (-1 : Int)), AV.v (Value.bool false)]), some (Blk.arr (1 : Nat) b.x.N
    fun j => [AV.v (Value.int IntKind.u8 (b.x.g j))]), some (Blk.arr (1 : Nat) (List.length b.rs) (lsF Sx.c b.rs)), some (Blk.arr (1 : Nat) (ByteArray.size s) (bsF s))])) (Tree.br false
    (Tree.leaf (Ans.mk (AV.v (Value.int IntKind.i64 (0 : Int))) [some (Blk.row [AV.ptr (1 : Nat) (0 : Nat), AV.v (Value.int IntKind.i64 (b.nx + (1 : Int))), AV.v (Value.string s), AV.v
    (Value.slice none (0 : Nat) (0 : Nat)), AV.v (Value.bool false)]), some (Blk.row [AV.v (Value.int IntKind.i64 (4194304 : Int)), AV.v (Value.int IntKind.i64 b.x.fi), AV.v (Value.int
    IntKind.i64 (b.x.fi + (↑(b.x.n + ByteArray.size y) : Int))), AV.hs (5 : Nat) (0 : Nat) (b.x.n + ByteArray.size y), AV.v (Value.int IntKind.i64 (-1 : Int)), AV.v (Value.bool false)]),
    none, none, some (Blk.arr (1 : Nat) (ByteArray.size s) (bsF s)), some (Blk.arr (1 : Nat) (b.x.n + ByteArray.size y) fun j => [AV.v (Value.int IntKind.u8 ((Bk.tp b y).g j))])])) (Tree.chk
    (cl (LeL [AV.ptr (0 : Nat) (0 : Nat), AV.v (Value.int IntKind.i64 (b.x.fi + (↑b.x.n : Int)))] [AV.ptr (0 : Nat) (0 : Nat), AV.v (Value.int IntKind.i64 (b.x.fi + (↑b.x.n : Int)))] ∧ LeH
    [some (Blk.row [AV.v (Value.int IntKind.i64 (4194304 : Int)), AV.v (Value.int IntKind.i64 b.x.fi), AV.v (Value.int IntKind.i64 (b.x.fi + (↑(b.x.n + ByteArray.size y) : Int))), AV.hs (1 :
    Nat) (0 : Nat) (b.x.n + ByteArray.size y), AV.v (Value.int IntKind.i64 (-1 : Int)), AV.v (Value.bool false)]), some (Blk.arr (1 : Nat) (b.x.n + ByteArray.size y) fun j => [AV.v
    (Value.int IntKind.u8 ((Bk.tp b y).g j))])] [some (Blk.row [AV.v (Value.int IntKind.i64 (4194304 : Int)), AV.v (Value.int IntKind.i64 b.x.fi), AV.v (Value.int IntKind.i64 (b.x.fi +
    (↑(b.x.n + ByteArray.size y) : Int))), AV.hs (1 : Nat) (0 : Nat) (b.x.n + ByteArray.size y), AV.v (Value.int IntKind.i64 (-1 : Int)), AV.v (Value.bool false)]), some (Blk.arr (1 : Nat)
    (b.x.n + ByteArray.size y) fun j => [AV.v (Value.int IntKind.u8 ((Bk.tp b y).g j))])])) (Tree.leaf (Ans.mk (AV.v (Value.int IntKind.i64 (0 : Int))) [some (Blk.row [AV.ptr (1 : Nat) (0 :
    Nat), AV.v (Value.int IntKind.i64 (b.nx + (1 : Int))), AV.v (Value.string s), AV.v (Value.slice none (0 : Nat) (0 : Nat)), AV.sb false]), some (Blk.row [AV.v (Value.int IntKind.i64
    (4194304 : Int)), AV.v (Value.int IntKind.i64 (b.x.fi + (↑b.x.n : Int))), AV.v (Value.int IntKind.i64 (b.x.fi + (↑(b.x.n + ByteArray.size y) : Int))), AV.hs (5 : Nat) ((0 : Nat) +
    Int.toNat (b.x.fi + (↑b.x.n : Int) - b.x.fi)) (b.x.n + ByteArray.size y - Int.toNat (b.x.fi + (↑b.x.n : Int) - b.x.fi)), AV.v (Value.int IntKind.i64 (-1 : Int)), AV.v (Value.bool
    false)]), none, none, some (Blk.arr (1 : Nat) (ByteArray.size s) (bsF s)), some (Blk.arr (1 : Nat) (b.x.n + ByteArray.size y) fun j => [AV.v (Value.int IntKind.u8 ((Tq.shed (Bk.tp b y)
    (b.x.fi + (↑b.x.n : Int))).g j))])])))) := by kernel_rfl
theorem rSu0 (b : Bk) (y : ByteArray) (g : Nat → List AV) (h : PutS0 b y g) (h2 : ShOK (b.tp y) (b.x.fi + (b.x.n : Int))) : bodyE (P := Try.prog) (Γ := Γb) [CT.at 92 h, CT.at 75 h2] Lno false 28 [.tmp 4] (bodyOf Try.f34) [.ptr 0 0, .sl 1 0 g] b.bl =
  Tree.chk (cl (LeL [AV.ptr (0 : Nat) (0 : Nat), AV.v (Value.int IntKind.i64 (2 : Int)), AV.sl (1 : Nat) (0 : Nat) g] [AV.ptr (0 : Nat) (0 : Nat), AV.v (Value.int IntKind.i64 (2 : Int)), AV.sl
    (1 : Nat) (0 : Nat) g] ∧ LeH [some (Blk.row [AV.ptr (1 : Nat) (0 : Nat), AV.v (Value.int IntKind.i64 b.nx), AV.v (Value.string b.sm), AV.hs (3 : Nat) (0 : Nat) (List.length b.rs), AV.v
    (Value.bool false)]), some (Blk.row [AV.v (Value.int IntKind.i64 (4194304 : Int)), AV.v (Value.int IntKind.i64 b.x.fi), AV.v (Value.int IntKind.i64 b.x.fa), AV.hs (2 : Nat) b.x.o b.x.n,
    AV.v (Value.int IntKind.i64 (-1 : Int)), AV.v (Value.bool false)]), some (Blk.arr (1 : Nat) b.x.N fun j => [AV.v (Value.int IntKind.u8 (b.x.g j))]), some (Blk.arr (1 : Nat) (List.length
    b.rs) (lsF Sx.c b.rs))] [some (Blk.row [AV.ptr (1 : Nat) (0 : Nat), AV.v (Value.int IntKind.i64 b.nx), AV.v (Value.string b.sm), AV.hs (3 : Nat) (0 : Nat) (List.length b.rs), AV.v
    (Value.bool false)]), some (Blk.row [AV.v (Value.int IntKind.i64 (4194304 : Int)), AV.v (Value.int IntKind.i64 b.x.fi), AV.v (Value.int IntKind.i64 b.x.fa), AV.hs (2 : Nat) b.x.o b.x.n,
    AV.v (Value.int IntKind.i64 (-1 : Int)), AV.v (Value.bool false)]), some (Blk.arr (1 : Nat) b.x.N fun j => [AV.v (Value.int IntKind.u8 (b.x.g j))]), some (Blk.arr (1 : Nat) (List.length
    b.rs) (lsF Sx.c b.rs))])) (Tree.br false (Tree.leaf (Ans.mk (AV.v (Value.int IntKind.i64 (0 : Int))) [some (Blk.row [AV.ptr (1 : Nat) (0 : Nat), AV.v (Value.int IntKind.i64 (b.nx + (1 :
    Int))), AV.v (Value.string (ByteArray.mk #[])), AV.v (Value.slice none (0 : Nat) (0 : Nat)), AV.v (Value.bool false)]), some (Blk.row [AV.v (Value.int IntKind.i64 (4194304 : Int)), AV.v
    (Value.int IntKind.i64 b.x.fi), AV.v (Value.int IntKind.i64 (b.x.fi + (↑(b.x.n + ByteArray.size y) : Int))), AV.hs (4 : Nat) (0 : Nat) (b.x.n + ByteArray.size y), AV.v (Value.int
    IntKind.i64 (-1 : Int)), AV.v (Value.bool false)]), none, none, some (Blk.arr (1 : Nat) (b.x.n + ByteArray.size y) fun j => [AV.v (Value.int IntKind.u8 ((Bk.tp b y).g j))])])) (Tree.chk
    (cl (LeL [AV.ptr (0 : Nat) (0 : Nat), AV.v (Value.int IntKind.i64 (b.x.fi + (↑b.x.n : Int)))] [AV.ptr (0 : Nat) (0 : Nat), AV.v (Value.int IntKind.i64 (b.x.fi + (↑b.x.n : Int)))] ∧ LeH
    [some (Blk.row [AV.v (Value.int IntKind.i64 (4194304 : Int)), AV.v (Value.int IntKind.i64 b.x.fi), AV.v (Value.int IntKind.i64 (b.x.fi + (↑(b.x.n + ByteArray.size y) : Int))), AV.hs (1 :
    Nat) (0 : Nat) (b.x.n + ByteArray.size y), AV.v (Value.int IntKind.i64 (-1 : Int)), AV.v (Value.bool false)]), some (Blk.arr (1 : Nat) (b.x.n + ByteArray.size y) fun j => [AV.v
    (Value.int IntKind.u8 ((Bk.tp b y).g j))])] [some (Blk.row [AV.v (Value.int IntKind.i64 (4194304 : Int)), AV.v (Value.int IntKind.i64 b.x.fi), AV.v (Value.int IntKind.i64 (b.x.fi +
    (↑(b.x.n + ByteArray.size y) : Int))), AV.hs (1 : Nat) (0 : Nat) (b.x.n + ByteArray.size y), AV.v (Value.int IntKind.i64 (-1 : Int)), AV.v (Value.bool false)]), some (Blk.arr (1 : Nat)
    (b.x.n + ByteArray.size y) fun j => [AV.v (Value.int IntKind.u8 ((Bk.tp b y).g j))])])) (Tree.leaf (Ans.mk (AV.v (Value.int IntKind.i64 (0 : Int))) [some (Blk.row [AV.ptr (1 : Nat) (0 :
    Nat), AV.v (Value.int IntKind.i64 (b.nx + (1 : Int))), AV.v (Value.string (ByteArray.mk #[])), AV.v (Value.slice none (0 : Nat) (0 : Nat)), AV.sb false]), some (Blk.row [AV.v (Value.int
    IntKind.i64 (4194304 : Int)), AV.v (Value.int IntKind.i64 (b.x.fi + (↑b.x.n : Int))), AV.v (Value.int IntKind.i64 (b.x.fi + (↑(b.x.n + ByteArray.size y) : Int))), AV.hs (4 : Nat) ((0 :
    Nat) + Int.toNat (b.x.fi + (↑b.x.n : Int) - b.x.fi)) (b.x.n + ByteArray.size y - Int.toNat (b.x.fi + (↑b.x.n : Int) - b.x.fi)), AV.v (Value.int IntKind.i64 (-1 : Int)), AV.v (Value.bool
    false)]), none, none, some (Blk.arr (1 : Nat) (b.x.n + ByteArray.size y) fun j => [AV.v (Value.int IntKind.u8 ((Tq.shed (Bk.tp b y) (b.x.fi + (↑b.x.n : Int))).g j))])])))) := by kernel_rfl
end Go.Eng.SB.B

namespace Go.Eng.SB.B
open Go Go.Eng Go.Eng.SB Go.Eng.SB.T Go.Lib Go.Proofs
def Bk.ts (b : Bk) (y : ByteArray) : Tq := (b.tp y).shed (b.x.fi + (b.x.n : Int))
def AddOK (b : Bk) (s y : ByteArray) : Prop := Answers Try.prog Γb 37 [.ptr 0 0, .hs 4 0 s.size] (b.bl ++ [byB s]) (.v (.int .i64 0)) [some ((b.add s y).row 1 6), some ((b.tp y).row 5), none, none, some (byB s)] [(b.tp y).arr, (b.add s y).ra]
def AddOK0 (b : Bk) (y : ByteArray) (g : Nat → List AV) : Prop := Answers Try.prog Γb 37 [.ptr 0 0, .sl 1 0 g] b.bl (.v (.int .i64 0)) [some ((b.add ⟨#[]⟩ y).row 1 5), some ((b.tp y).row 4), none, none] [(b.tp y).arr, (b.add ⟨#[]⟩ y).ra]
def SumOK (b : Bk) (s y : ByteArray) : Prop := Answers Try.prog Γb 34 [.ptr 0 0, .hs 4 0 s.size] (b.bl ++ [byB s]) (.v (.int .i64 0)) [some (b.srow 1 s), some ((b.ts y).row 5), none, none, some (byB s)] [(b.ts y).arr]
def SumOK0 (b : Bk) (y : ByteArray) (g : Nat → List AV) : Prop := Answers Try.prog Γb 34 [.ptr 0 0, .sl 1 0 g] b.bl (.v (.int .i64 0)) [some (b.srow 1 ⟨#[]⟩), some ((b.ts y).row 4), none, none] [(b.ts y).arr]
theorem shOK {b : Bk} {m : Nat} (h : b.ok m) (hm : m ≤ 100) {y : ByteArray} (y1 : y.size ≤ 7000) : ShOK (b.tp y) (b.x.fi + (b.x.n : Int)) := by
  obtain ⟨h1, h2, h3, h4⟩ := h
  have hn : (b.tp y).n = b.x.n + y.size := rfl
  have hf : (b.tp y).fi = b.x.fi := rfl
  have ha : (b.tp y).fa = b.x.fi + ((b.x.n + y.size : Nat) : Int) := rfl
  exact ansQSh ⟨by rw [hf]; exact h1, by rw [hf]; omega, by rw [hn]; omega⟩ (by rw [hf]; omega) (by rw [ha]; omega) (by rw [hf, hn]; omega)
theorem add_ok {b : Bk} {m : Nat} (h : b.ok m) (hm : m ≤ 100) {s y : ByteArray} (p : PutIn b 1 s y) : AddOK b s y := by
  have hp := putA_ok h hm p
  refine answers (fn := Try.f37) (c := bodyOf Try.f37) (ntmps := 14) (results := [.tmp 4]) [CT.at 92 hp] Lno false Try.func37 (by kernel_rfl) (by kernel_rfl) (by kernel_rfl) (by kernel_rfl) (by simp) rfl (failOK fun _ _ _ => rfl) (Meets.of (rAd b s y hp) ?_)
  exact wC (cl_iff.2 ⟨LeL.refl _, LeH.refl _⟩) ⟨.refl _, LeH.refl _⟩
theorem add_ok0 {b : Bk} {m : Nat} (h : b.ok m) (hm : m ≤ 100) {y : ByteArray} {g : Nat → List AV} (p : PutIn b 1 ⟨#[]⟩ y) : AddOK0 b y g := by
  have hp : PutA0 b y g := putA0_ok h hm p
  refine answers (fn := Try.f37) (c := bodyOf Try.f37) (ntmps := 14) (results := [.tmp 4]) [CT.at 92 hp] Lno false Try.func37 (by kernel_rfl) (by kernel_rfl) (by kernel_rfl) (by kernel_rfl) (by simp) rfl (failOK fun _ _ _ => rfl) (Meets.of (rAd0 b y g hp) ?_)
  exact wC (cl_iff.2 ⟨LeL.refl _, LeH.refl _⟩) ⟨.refl _, LeH.refl _⟩
theorem sum_ok {b : Bk} {m : Nat} (h : b.ok m) (hm : m ≤ 100) {s y : ByteArray} (p : PutIn b 2 s y) : SumOK b s y := by
  have hp := putS_ok h hm p
  have hs := shOK h hm p.y1
  refine answers (fn := Try.f34) (c := bodyOf Try.f34) (ntmps := 28) (results := [.tmp 4]) [CT.at 92 hp, CT.at 75 hs] Lno false Try.func34 (by kernel_rfl) (by kernel_rfl) (by kernel_rfl) (by kernel_rfl) (by simp) rfl (failOK fun _ _ _ => rfl) (Meets.of (rSu b s y hp hs) ?_)
  exact wC (cl_iff.2 ⟨LeL.refl _, LeH.refl _⟩) (wN rfl (wC (cl_iff.2 ⟨LeL.refl _, LeH.refl _⟩) ⟨.refl _, rowSb, .refl _, .none _, .none _, .refl _, .refl _, trivial⟩))
theorem sum_ok0 {b : Bk} {m : Nat} (h : b.ok m) (hm : m ≤ 100) {y : ByteArray} {g : Nat → List AV} (p : PutIn b 2 ⟨#[]⟩ y) : SumOK0 b y g := by
  have hp : PutS0 b y g := putS0_ok h hm p
  have hs := shOK h hm p.y1
  refine answers (fn := Try.f34) (c := bodyOf Try.f34) (ntmps := 28) (results := [.tmp 4]) [CT.at 92 hp, CT.at 75 hs] Lno false Try.func34 (by kernel_rfl) (by kernel_rfl) (by kernel_rfl) (by kernel_rfl) (by simp) rfl (failOK fun _ _ _ => rfl) (Meets.of (rSu0 b y g hp hs) ?_)
  exact wC (cl_iff.2 ⟨LeL.refl _, LeH.refl _⟩) (wN rfl (wC (cl_iff.2 ⟨LeL.refl _, LeH.refl _⟩) ⟨.refl _, rowSb, .refl _, .none _, .none _, .refl _, trivial⟩))
structure Qa where
  k : Int
  n : Int
  s : ByteArray
instance : Inhabited Qa := ⟨⟨0, 0, ⟨#[]⟩⟩⟩
def Qa.c (x : Qa) : List AV := [.v (.int .i64 x.k), .v (.int .i64 x.n), .v (.string x.s)]
def Qa.cells (x : Qa) : List Value := [.int .i64 x.k, .int .i64 x.n, .string x.s]
theorem Qa.cod : Cod Qa.c 3 := ⟨fun _ => rfl, fun b x y => by cases b <;> rfl⟩
theorem Qa.dec (vs : List Value) (h0 : GoodVs [.int .i64, .int .i64, .str] vs) : ∃ a : Qa, vs = a.cells := by
  obtain ⟨_, _, rfl, ⟨a0, rfl, _⟩, h1⟩ := h0.cons
  obtain ⟨_, _, rfl, ⟨a1, rfl, _⟩, h2⟩ := h1.cons
  obtain ⟨_, _, rfl, ⟨a2, rfl, _⟩, h3⟩ := h2.cons
  obtain rfl := h3.nil
  exact ⟨⟨a0, a1, a2⟩, rfl⟩
abbrev Qa.ks : List Cel := [.int .i64, .int .i64, .str]
structure Pu where
  k : Int
  nm : ByteArray
  a : Qa
instance : Inhabited Pu := ⟨⟨0, ⟨#[]⟩, default⟩⟩
def Pu.c (x : Pu) : List AV := [.v (.int .i64 x.k), .v (.string x.nm), .v (.int .i64 x.a.k), .v (.int .i64 x.a.n), .v (.string x.a.s)]
def Pu.cells (x : Pu) : List Value := [.int .i64 x.k, .string x.nm, .int .i64 x.a.k, .int .i64 x.a.n, .string x.a.s]
theorem Pu.cod : Cod Pu.c 5 := ⟨fun _ => rfl, fun b x y => by cases b <;> rfl⟩
theorem Pu.dec (vs : List Value) (h0 : GoodVs [.int .i64, .str, .int .i64, .int .i64, .str] vs) : ∃ a : Pu, vs = a.cells := by
  obtain ⟨_, _, rfl, ⟨a0, rfl, _⟩, h1⟩ := h0.cons
  obtain ⟨_, _, rfl, ⟨a1, rfl, _⟩, h2⟩ := h1.cons
  obtain ⟨_, _, rfl, ⟨a2, rfl, _⟩, h3⟩ := h2.cons
  obtain ⟨_, _, rfl, ⟨a3, rfl, _⟩, h4⟩ := h3.cons
  obtain ⟨_, _, rfl, ⟨a4, rfl, _⟩, h5⟩ := h4.cons
  obtain rfl := h5.nil
  exact ⟨⟨a0, a1, ⟨a2, a3, a4⟩⟩, rfl⟩
abbrev Pu.ks : List Cel := [.int .i64, .str, .int .i64, .int .i64, .str]
theorem rPu (b : Bk) (p : Pu) (y y' : ByteArray) (h1 : SumOK b p.nm y) (h2 : AddOK b p.nm y') : bodyE (P := Try.prog) (Γ := Γb) [CT.at 34 h1, CT.at 37 h2] Lno false 18 [.tmp 4] (bodyOf Try.f32) [.ptr 0 0, .agg (Pu.c p)] b.bl =
  Tree.br (decide (p.k = (1 : Int))) (Tree.br (Nat.beq (ByteArray.size p.nm) (0 : Nat)) (Tree.chk (cl (LeL [AV.ptr (0 : Nat) (0 : Nat), AV.sl (1 : Nat) (0 : Nat) fun j => [AV.v (Value.int
    IntKind.u8 (sbyte p.nm j))]] [AV.ptr (0 : Nat) (0 : Nat), AV.hs (4 : Nat) (0 : Nat) (ByteArray.size p.nm)] ∧ LeH [some (Blk.row [AV.ptr (1 : Nat) (0 : Nat), AV.v (Value.int IntKind.i64
    b.nx), AV.v (Value.string b.sm), AV.hs (3 : Nat) (0 : Nat) (List.length b.rs), AV.v (Value.bool false)]), some (Blk.row [AV.v (Value.int IntKind.i64 (4194304 : Int)), AV.v (Value.int
    IntKind.i64 b.x.fi), AV.v (Value.int IntKind.i64 b.x.fa), AV.hs (2 : Nat) b.x.o b.x.n, AV.v (Value.int IntKind.i64 (-1 : Int)), AV.v (Value.bool false)]), some (Blk.arr (1 : Nat) b.x.N
    fun j => [AV.v (Value.int IntKind.u8 (b.x.g j))]), some (Blk.arr (1 : Nat) (List.length b.rs) (lsF Sx.c b.rs))] [some (Blk.row [AV.ptr (1 : Nat) (0 : Nat), AV.v (Value.int IntKind.i64
    b.nx), AV.v (Value.string b.sm), AV.hs (3 : Nat) (0 : Nat) (List.length b.rs), AV.v (Value.bool false)]), some (Blk.row [AV.v (Value.int IntKind.i64 (4194304 : Int)), AV.v (Value.int
    IntKind.i64 b.x.fi), AV.v (Value.int IntKind.i64 b.x.fa), AV.hs (2 : Nat) b.x.o b.x.n, AV.v (Value.int IntKind.i64 (-1 : Int)), AV.v (Value.bool false)]), some (Blk.arr (1 : Nat) b.x.N
    fun j => [AV.v (Value.int IntKind.u8 (b.x.g j))]), some (Blk.arr (1 : Nat) (List.length b.rs) (lsF Sx.c b.rs)), some (Blk.arr (1 : Nat) (ByteArray.size p.nm) (bsF p.nm))])) Tree.fail)
    (Tree.chk (cl (LeL [AV.ptr (0 : Nat) (0 : Nat), AV.hs (4 : Nat) (0 : Nat) (ByteArray.size p.nm)] [AV.ptr (0 : Nat) (0 : Nat), AV.hs (4 : Nat) (0 : Nat) (ByteArray.size p.nm)] ∧ LeH [some
    (Blk.row [AV.ptr (1 : Nat) (0 : Nat), AV.v (Value.int IntKind.i64 b.nx), AV.v (Value.string b.sm), AV.hs (3 : Nat) (0 : Nat) (List.length b.rs), AV.v (Value.bool false)]), some (Blk.row
    [AV.v (Value.int IntKind.i64 (4194304 : Int)), AV.v (Value.int IntKind.i64 b.x.fi), AV.v (Value.int IntKind.i64 b.x.fa), AV.hs (2 : Nat) b.x.o b.x.n, AV.v (Value.int IntKind.i64 (-1 :
    Int)), AV.v (Value.bool false)]), some (Blk.arr (1 : Nat) b.x.N fun j => [AV.v (Value.int IntKind.u8 (b.x.g j))]), some (Blk.arr (1 : Nat) (List.length b.rs) (lsF Sx.c b.rs)), some
    (Blk.arr (1 : Nat) (ByteArray.size p.nm) fun j => [AV.v (Value.int IntKind.u8 (sbyte p.nm j))])] [some (Blk.row [AV.ptr (1 : Nat) (0 : Nat), AV.v (Value.int IntKind.i64 b.nx), AV.v
    (Value.string b.sm), AV.hs (3 : Nat) (0 : Nat) (List.length b.rs), AV.v (Value.bool false)]), some (Blk.row [AV.v (Value.int IntKind.i64 (4194304 : Int)), AV.v (Value.int IntKind.i64
    b.x.fi), AV.v (Value.int IntKind.i64 b.x.fa), AV.hs (2 : Nat) b.x.o b.x.n, AV.v (Value.int IntKind.i64 (-1 : Int)), AV.v (Value.bool false)]), some (Blk.arr (1 : Nat) b.x.N fun j =>
    [AV.v (Value.int IntKind.u8 (b.x.g j))]), some (Blk.arr (1 : Nat) (List.length b.rs) (lsF Sx.c b.rs)), some (Blk.arr (1 : Nat) (ByteArray.size p.nm) (bsF p.nm))])) (Tree.leaf (Ans.mk
    (AV.v (Value.int IntKind.i64 (0 : Int))) [some (Blk.row [AV.ptr (1 : Nat) (0 : Nat), AV.v (Value.int IntKind.i64 (b.nx + (1 : Int))), AV.v (Value.string p.nm), AV.v (Value.slice none (0
    : Nat) (0 : Nat)), AV.v (Value.bool false)]), some (Blk.row [AV.v (Value.int IntKind.i64 (4194304 : Int)), AV.v (Value.int IntKind.i64 (b.x.fi + (↑b.x.n : Int))), AV.v (Value.int
    IntKind.i64 (b.x.fi + (↑(b.x.n + ByteArray.size y) : Int))), AV.hs (4 : Nat) ((0 : Nat) + Int.toNat (b.x.fi + (↑b.x.n : Int) - b.x.fi)) (b.x.n + ByteArray.size y - Int.toNat (b.x.fi +
    (↑b.x.n : Int) - b.x.fi)), AV.v (Value.int IntKind.i64 (-1 : Int)), AV.v (Value.bool false)]), none, none, some (Blk.arr (1 : Nat) (b.x.n + ByteArray.size y) fun j => [AV.v (Value.int
    IntKind.u8 ((Bk.ts b y).g j))])])))) (Tree.br (Nat.beq (ByteArray.size p.nm) (0 : Nat)) (Tree.chk (cl (LeL [AV.ptr (0 : Nat) (0 : Nat), AV.sl (1 : Nat) (0 : Nat) fun j => [AV.v
    (Value.int IntKind.u8 (sbyte p.nm j))]] [AV.ptr (0 : Nat) (0 : Nat), AV.hs (4 : Nat) (0 : Nat) (ByteArray.size p.nm)] ∧ LeH [some (Blk.row [AV.ptr (1 : Nat) (0 : Nat), AV.v (Value.int
    IntKind.i64 b.nx), AV.v (Value.string b.sm), AV.hs (3 : Nat) (0 : Nat) (List.length b.rs), AV.v (Value.bool false)]), some (Blk.row [AV.v (Value.int IntKind.i64 (4194304 : Int)), AV.v
    (Value.int IntKind.i64 b.x.fi), AV.v (Value.int IntKind.i64 b.x.fa), AV.hs (2 : Nat) b.x.o b.x.n, AV.v (Value.int IntKind.i64 (-1 : Int)), AV.v (Value.bool false)]), some (Blk.arr (1 :
    Nat) b.x.N fun j => [AV.v (Value.int IntKind.u8 (b.x.g j))]), some (Blk.arr (1 : Nat) (List.length b.rs) (lsF Sx.c b.rs))] [some (Blk.row [AV.ptr (1 : Nat) (0 : Nat), AV.v (Value.int
    IntKind.i64 b.nx), AV.v (Value.string b.sm), AV.hs (3 : Nat) (0 : Nat) (List.length b.rs), AV.v (Value.bool false)]), some (Blk.row [AV.v (Value.int IntKind.i64 (4194304 : Int)), AV.v
    (Value.int IntKind.i64 b.x.fi), AV.v (Value.int IntKind.i64 b.x.fa), AV.hs (2 : Nat) b.x.o b.x.n, AV.v (Value.int IntKind.i64 (-1 : Int)), AV.v (Value.bool false)]), some (Blk.arr (1 :
    Nat) b.x.N fun j => [AV.v (Value.int IntKind.u8 (b.x.g j))]), some (Blk.arr (1 : Nat) (List.length b.rs) (lsF Sx.c b.rs)), some (Blk.arr (1 : Nat) (ByteArray.size p.nm) (bsF p.nm))]))
    Tree.fail) (Tree.chk (cl (LeL [AV.ptr (0 : Nat) (0 : Nat), AV.hs (4 : Nat) (0 : Nat) (ByteArray.size p.nm)] [AV.ptr (0 : Nat) (0 : Nat), AV.hs (4 : Nat) (0 : Nat) (ByteArray.size p.nm)]
    ∧ LeH [some (Blk.row [AV.ptr (1 : Nat) (0 : Nat), AV.v (Value.int IntKind.i64 b.nx), AV.v (Value.string b.sm), AV.hs (3 : Nat) (0 : Nat) (List.length b.rs), AV.v (Value.bool false)]),
    some (Blk.row [AV.v (Value.int IntKind.i64 (4194304 : Int)), AV.v (Value.int IntKind.i64 b.x.fi), AV.v (Value.int IntKind.i64 b.x.fa), AV.hs (2 : Nat) b.x.o b.x.n, AV.v (Value.int
    IntKind.i64 (-1 : Int)), AV.v (Value.bool false)]), some (Blk.arr (1 : Nat) b.x.N fun j => [AV.v (Value.int IntKind.u8 (b.x.g j))]), some (Blk.arr (1 : Nat) (List.length b.rs) (lsF Sx.c
    b.rs)), some (Blk.arr (1 : Nat) (ByteArray.size p.nm) fun j => [AV.v (Value.int IntKind.u8 (sbyte p.nm j))])] [some (Blk.row [AV.ptr (1 : Nat) (0 : Nat), AV.v (Value.int IntKind.i64
    b.nx), AV.v (Value.string b.sm), AV.hs (3 : Nat) (0 : Nat) (List.length b.rs), AV.v (Value.bool false)]), some (Blk.row [AV.v (Value.int IntKind.i64 (4194304 : Int)), AV.v (Value.int
    IntKind.i64 b.x.fi), AV.v (Value.int IntKind.i64 b.x.fa), AV.hs (2 : Nat) b.x.o b.x.n, AV.v (Value.int IntKind.i64 (-1 : Int)), AV.v (Value.bool false)]), some (Blk.arr (1 : Nat) b.x.N
    fun j => [AV.v (Value.int IntKind.u8 (b.x.g j))]), some (Blk.arr (1 : Nat) (List.length b.rs) (lsF Sx.c b.rs)), some (Blk.arr (1 : Nat) (ByteArray.size p.nm) (bsF p.nm))])) (Tree.leaf
    (Ans.mk (AV.v (Value.int IntKind.i64 (0 : Int))) [some (Blk.row [AV.ptr (1 : Nat) (0 : Nat), AV.v (Value.int IntKind.i64 (b.nx + (1 : Int))), AV.v (Value.string b.sm), AV.hs (5 : Nat) (0
    : Nat) (List.length (Bk.add b p.nm y').rs), AV.v (Value.bool false)]), some (Blk.row [AV.v (Value.int IntKind.i64 (4194304 : Int)), AV.v (Value.int IntKind.i64 b.x.fi), AV.v (Value.int
    IntKind.i64 (b.x.fi + (↑(b.x.n + ByteArray.size y') : Int))), AV.hs (4 : Nat) (0 : Nat) (b.x.n + ByteArray.size y'), AV.v (Value.int IntKind.i64 (-1 : Int)), AV.v (Value.bool false)]),
    none, none, some (Blk.arr (1 : Nat) (b.x.n + ByteArray.size y') fun j => [AV.v (Value.int IntKind.u8 ((Bk.tp b y').g j))]), some (Blk.arr (1 : Nat) (List.length (Bk.add b p.nm y').rs)
    (lsF Sx.c (Bk.add b p.nm y').rs))])))) := by kernel_rfl
theorem rPu0 (b : Bk) (p : Pu) (y y' : ByteArray) (h1 : SumOK0 b y (bsF p.nm)) (h2 : AddOK0 b y' (bsF p.nm)) : bodyE (P := Try.prog) (Γ := Γb) [CT.at 34 h1, CT.at 37 h2] Lno false 18 [.tmp 4] (bodyOf Try.f32) [.ptr 0 0, .agg (Pu.c p)] b.bl =
  Tree.br (decide (p.k = (1 : Int))) (Tree.br (Nat.beq (ByteArray.size p.nm) (0 : Nat)) (Tree.chk (cl (LeL [AV.ptr (0 : Nat) (0 : Nat), AV.sl (1 : Nat) (0 : Nat) fun j => [AV.v (Value.int
    IntKind.u8 (sbyte p.nm j))]] [AV.ptr (0 : Nat) (0 : Nat), AV.sl (1 : Nat) (0 : Nat) (bsF p.nm)] ∧ LeH [some (Blk.row [AV.ptr (1 : Nat) (0 : Nat), AV.v (Value.int IntKind.i64 b.nx), AV.v
    (Value.string b.sm), AV.hs (3 : Nat) (0 : Nat) (List.length b.rs), AV.v (Value.bool false)]), some (Blk.row [AV.v (Value.int IntKind.i64 (4194304 : Int)), AV.v (Value.int IntKind.i64
    b.x.fi), AV.v (Value.int IntKind.i64 b.x.fa), AV.hs (2 : Nat) b.x.o b.x.n, AV.v (Value.int IntKind.i64 (-1 : Int)), AV.v (Value.bool false)]), some (Blk.arr (1 : Nat) b.x.N fun j =>
    [AV.v (Value.int IntKind.u8 (b.x.g j))]), some (Blk.arr (1 : Nat) (List.length b.rs) (lsF Sx.c b.rs))] [some (Blk.row [AV.ptr (1 : Nat) (0 : Nat), AV.v (Value.int IntKind.i64 b.nx), AV.v
    (Value.string b.sm), AV.hs (3 : Nat) (0 : Nat) (List.length b.rs), AV.v (Value.bool false)]), some (Blk.row [AV.v (Value.int IntKind.i64 (4194304 : Int)), AV.v (Value.int IntKind.i64
    b.x.fi), AV.v (Value.int IntKind.i64 b.x.fa), AV.hs (2 : Nat) b.x.o b.x.n, AV.v (Value.int IntKind.i64 (-1 : Int)), AV.v (Value.bool false)]), some (Blk.arr (1 : Nat) b.x.N fun j =>
    [AV.v (Value.int IntKind.u8 (b.x.g j))]), some (Blk.arr (1 : Nat) (List.length b.rs) (lsF Sx.c b.rs))])) (Tree.leaf (Ans.mk (AV.v (Value.int IntKind.i64 (0 : Int))) [some (Blk.row
    [AV.ptr (1 : Nat) (0 : Nat), AV.v (Value.int IntKind.i64 (b.nx + (1 : Int))), AV.v (Value.string (ByteArray.mk #[])), AV.v (Value.slice none (0 : Nat) (0 : Nat)), AV.v (Value.bool
    false)]), some (Blk.row [AV.v (Value.int IntKind.i64 (4194304 : Int)), AV.v (Value.int IntKind.i64 (b.x.fi + (↑b.x.n : Int))), AV.v (Value.int IntKind.i64 (b.x.fi + (↑(b.x.n +
    ByteArray.size y) : Int))), AV.hs (4 : Nat) ((0 : Nat) + Int.toNat (b.x.fi + (↑b.x.n : Int) - b.x.fi)) (b.x.n + ByteArray.size y - Int.toNat (b.x.fi + (↑b.x.n : Int) - b.x.fi)), AV.v
    (Value.int IntKind.i64 (-1 : Int)), AV.v (Value.bool false)]), none, none, some (Blk.arr (1 : Nat) (b.x.n + ByteArray.size y) fun j => [AV.v (Value.int IntKind.u8 ((Bk.ts b y).g
    j))])]))) (Tree.chk (cl (LeL [AV.ptr (0 : Nat) (0 : Nat), AV.hs (4 : Nat) (0 : Nat) (ByteArray.size p.nm)] [AV.ptr (0 : Nat) (0 : Nat), AV.sl (1 : Nat) (0 : Nat) (bsF p.nm)] ∧ LeH [some
    (Blk.row [AV.ptr (1 : Nat) (0 : Nat), AV.v (Value.int IntKind.i64 b.nx), AV.v (Value.string b.sm), AV.hs (3 : Nat) (0 : Nat) (List.length b.rs), AV.v (Value.bool false)]), some (Blk.row
    [AV.v (Value.int IntKind.i64 (4194304 : Int)), AV.v (Value.int IntKind.i64 b.x.fi), AV.v (Value.int IntKind.i64 b.x.fa), AV.hs (2 : Nat) b.x.o b.x.n, AV.v (Value.int IntKind.i64 (-1 :
    Int)), AV.v (Value.bool false)]), some (Blk.arr (1 : Nat) b.x.N fun j => [AV.v (Value.int IntKind.u8 (b.x.g j))]), some (Blk.arr (1 : Nat) (List.length b.rs) (lsF Sx.c b.rs)), some
    (Blk.arr (1 : Nat) (ByteArray.size p.nm) fun j => [AV.v (Value.int IntKind.u8 (sbyte p.nm j))])] [some (Blk.row [AV.ptr (1 : Nat) (0 : Nat), AV.v (Value.int IntKind.i64 b.nx), AV.v
    (Value.string b.sm), AV.hs (3 : Nat) (0 : Nat) (List.length b.rs), AV.v (Value.bool false)]), some (Blk.row [AV.v (Value.int IntKind.i64 (4194304 : Int)), AV.v (Value.int IntKind.i64
    b.x.fi), AV.v (Value.int IntKind.i64 b.x.fa), AV.hs (2 : Nat) b.x.o b.x.n, AV.v (Value.int IntKind.i64 (-1 : Int)), AV.v (Value.bool false)]), some (Blk.arr (1 : Nat) b.x.N fun j =>
    [AV.v (Value.int IntKind.u8 (b.x.g j))]), some (Blk.arr (1 : Nat) (List.length b.rs) (lsF Sx.c b.rs))])) (Tree.leaf (Ans.mk (AV.v (Value.int IntKind.i64 (0 : Int))) [some (Blk.row
    [AV.ptr (1 : Nat) (0 : Nat), AV.v (Value.int IntKind.i64 (b.nx + (1 : Int))), AV.v (Value.string (ByteArray.mk #[])), AV.v (Value.slice none (0 : Nat) (0 : Nat)), AV.v (Value.bool
    false)]), some (Blk.row [AV.v (Value.int IntKind.i64 (4194304 : Int)), AV.v (Value.int IntKind.i64 (b.x.fi + (↑b.x.n : Int))), AV.v (Value.int IntKind.i64 (b.x.fi + (↑(b.x.n +
    ByteArray.size y) : Int))), AV.hs (4 : Nat) ((0 : Nat) + Int.toNat (b.x.fi + (↑b.x.n : Int) - b.x.fi)) (b.x.n + ByteArray.size y - Int.toNat (b.x.fi + (↑b.x.n : Int) - b.x.fi)), AV.v
    (Value.int IntKind.i64 (-1 : Int)), AV.v (Value.bool false)]), none, none, some (Blk.arr (1 : Nat) (ByteArray.size p.nm) fun j => [AV.v (Value.int IntKind.u8 (sbyte p.nm j))])]))))
    (Tree.br (Nat.beq (ByteArray.size p.nm) (0 : Nat)) (Tree.chk (cl (LeL [AV.ptr (0 : Nat) (0 : Nat), AV.sl (1 : Nat) (0 : Nat) fun j => [AV.v (Value.int IntKind.u8 (sbyte p.nm j))]]
    [AV.ptr (0 : Nat) (0 : Nat), AV.sl (1 : Nat) (0 : Nat) (bsF p.nm)] ∧ LeH [some (Blk.row [AV.ptr (1 : Nat) (0 : Nat), AV.v (Value.int IntKind.i64 b.nx), AV.v (Value.string b.sm), AV.hs (3
    : Nat) (0 : Nat) (List.length b.rs), AV.v (Value.bool false)]), some (Blk.row [AV.v (Value.int IntKind.i64 (4194304 : Int)), AV.v (Value.int IntKind.i64 b.x.fi), AV.v (Value.int
    IntKind.i64 b.x.fa), AV.hs (2 : Nat) b.x.o b.x.n, AV.v (Value.int IntKind.i64 (-1 : Int)), AV.v (Value.bool false)]), some (Blk.arr (1 : Nat) b.x.N fun j => [AV.v (Value.int IntKind.u8
    (b.x.g j))]), some (Blk.arr (1 : Nat) (List.length b.rs) (lsF Sx.c b.rs))] [some (Blk.row [AV.ptr (1 : Nat) (0 : Nat), AV.v (Value.int IntKind.i64 b.nx), AV.v (Value.string b.sm), AV.hs
    (3 : Nat) (0 : Nat) (List.length b.rs), AV.v (Value.bool false)]), some (Blk.row [AV.v (Value.int IntKind.i64 (4194304 : Int)), AV.v (Value.int IntKind.i64 b.x.fi), AV.v (Value.int
    IntKind.i64 b.x.fa), AV.hs (2 : Nat) b.x.o b.x.n, AV.v (Value.int IntKind.i64 (-1 : Int)), AV.v (Value.bool false)]), some (Blk.arr (1 : Nat) b.x.N fun j => [AV.v (Value.int IntKind.u8
    (b.x.g j))]), some (Blk.arr (1 : Nat) (List.length b.rs) (lsF Sx.c b.rs))])) (Tree.leaf (Ans.mk (AV.v (Value.int IntKind.i64 (0 : Int))) [some (Blk.row [AV.ptr (1 : Nat) (0 : Nat), AV.v
    (Value.int IntKind.i64 (b.nx + (1 : Int))), AV.v (Value.string b.sm), AV.hs (5 : Nat) (0 : Nat) (List.length (Bk.add b (ByteArray.mk #[]) y').rs), AV.v (Value.bool false)]), some
    (Blk.row [AV.v (Value.int IntKind.i64 (4194304 : Int)), AV.v (Value.int IntKind.i64 b.x.fi), AV.v (Value.int IntKind.i64 (b.x.fi + (↑(b.x.n + ByteArray.size y') : Int))), AV.hs (4 : Nat)
    (0 : Nat) (b.x.n + ByteArray.size y'), AV.v (Value.int IntKind.i64 (-1 : Int)), AV.v (Value.bool false)]), none, none, some (Blk.arr (1 : Nat) (b.x.n + ByteArray.size y') fun j => [AV.v
    (Value.int IntKind.u8 ((Bk.tp b y').g j))]), some (Blk.arr (1 : Nat) (List.length (Bk.add b (ByteArray.mk #[]) y').rs) (lsF Sx.c (Bk.add b (ByteArray.mk #[]) y').rs))]))) (Tree.chk (cl
    (LeL [AV.ptr (0 : Nat) (0 : Nat), AV.hs (4 : Nat) (0 : Nat) (ByteArray.size p.nm)] [AV.ptr (0 : Nat) (0 : Nat), AV.sl (1 : Nat) (0 : Nat) (bsF p.nm)] ∧ LeH [some (Blk.row [AV.ptr (1 :
    Nat) (0 : Nat), AV.v (Value.int IntKind.i64 b.nx), AV.v (Value.string b.sm), AV.hs (3 : Nat) (0 : Nat) (List.length b.rs), AV.v (Value.bool false)]), some (Blk.row [AV.v (Value.int
    IntKind.i64 (4194304 : Int)), AV.v (Value.int IntKind.i64 b.x.fi), AV.v (Value.int IntKind.i64 b.x.fa), AV.hs (2 : Nat) b.x.o b.x.n, AV.v (Value.int IntKind.i64 (-1 : Int)), AV.v
    (Value.bool false)]), some (Blk.arr (1 : Nat) b.x.N fun j => [AV.v (Value.int IntKind.u8 (b.x.g j))]), some (Blk.arr (1 : Nat) (List.length b.rs) (lsF Sx.c b.rs)), some (Blk.arr (1 :
    Nat) (ByteArray.size p.nm) fun j => [AV.v (Value.int IntKind.u8 (sbyte p.nm j))])] [some (Blk.row [AV.ptr (1 : Nat) (0 : Nat), AV.v (Value.int IntKind.i64 b.nx), AV.v (Value.string
    b.sm), AV.hs (3 : Nat) (0 : Nat) (List.length b.rs), AV.v (Value.bool false)]), some (Blk.row [AV.v (Value.int IntKind.i64 (4194304 : Int)), AV.v (Value.int IntKind.i64 b.x.fi), AV.v
    (Value.int IntKind.i64 b.x.fa), AV.hs (2 : Nat) b.x.o b.x.n, AV.v (Value.int IntKind.i64 (-1 : Int)), AV.v (Value.bool false)]), some (Blk.arr (1 : Nat) b.x.N fun j => [AV.v (Value.int
    IntKind.u8 (b.x.g j))]), some (Blk.arr (1 : Nat) (List.length b.rs) (lsF Sx.c b.rs))])) (Tree.leaf (Ans.mk (AV.v (Value.int IntKind.i64 (0 : Int))) [some (Blk.row [AV.ptr (1 : Nat) (0 :
    Nat), AV.v (Value.int IntKind.i64 (b.nx + (1 : Int))), AV.v (Value.string b.sm), AV.hs (5 : Nat) (0 : Nat) (List.length (Bk.add b (ByteArray.mk #[]) y').rs), AV.v (Value.bool false)]),
    some (Blk.row [AV.v (Value.int IntKind.i64 (4194304 : Int)), AV.v (Value.int IntKind.i64 b.x.fi), AV.v (Value.int IntKind.i64 (b.x.fi + (↑(b.x.n + ByteArray.size y') : Int))), AV.hs (4 :
    Nat) (0 : Nat) (b.x.n + ByteArray.size y'), AV.v (Value.int IntKind.i64 (-1 : Int)), AV.v (Value.bool false)]), none, none, some (Blk.arr (1 : Nat) (ByteArray.size p.nm) fun j => [AV.v
    (Value.int IntKind.u8 (sbyte p.nm j))]), some (Blk.arr (1 : Nat) (b.x.n + ByteArray.size y') fun j => [AV.v (Value.int IntKind.u8 ((Bk.tp b y').g j))])])))) := by kernel_rfl

def PutsOK (b : Bk) (p : Pu) (y y' : ByteArray) : Prop := Answers Try.prog Γb 32 [.ptr 0 0, .agg (Pu.c p)] b.bl (.v (.int .i64 0)) (if p.k = 1 then [some (b.srow 1 p.nm), some ((b.ts y).row 4), none, none] else [some ((b.add p.nm y').row 1 5), some ((b.tp y').row 4), none, none]) (if p.k = 1 then [(b.ts y).arr] else [(b.tp y').arr, (b.add p.nm y').ra])
theorem puts_ok {b : Bk} {m : Nat} (h : b.ok m) (hm : m ≤ 100) {p : Pu} {y y' : ByteArray} (p1 : PutIn b 2 p.nm y) (p2 : PutIn b 1 p.nm y') : PutsOK b p y y' := by
  unfold PutsOK
  by_cases hz : p.nm.size = 0
  · have hne : p.nm = ⟨#[]⟩ := ByteArray.ext (Array.eq_empty_of_size_eq_zero hz)
    have h1 : SumOK0 b y (bsF p.nm) := sum_ok0 h hm (by rw [← hne]; exact p1)
    have h2 : AddOK0 b y' (bsF p.nm) := add_ok0 h hm (by rw [← hne]; exact p2)
    have hb : Nat.beq p.nm.size 0 = true := by rw [hz]; rfl
    by_cases hk : p.k = 1
    · rw [if_pos hk, if_pos hk]
      refine answers (fn := Try.f32) (c := bodyOf Try.f32) (ntmps := 18) (results := [.tmp 4]) [CT.at 34 h1, CT.at 37 h2] Lno false Try.func32 (by kernel_rfl) (by kernel_rfl) (by kernel_rfl) (by kernel_rfl) (by simp) rfl (failOK fun _ _ _ => rfl) (Meets.of (rPu0 b p y y' h1 h2) ?_)
      rw [hb, decide_eq_true hk]
      refine wT rfl (wT rfl (wC (cl_iff.2 ⟨LeL.refl _, LeH.refl _⟩) ?_))
      rw [hne]
      exact ⟨.refl _, LeH.refl _⟩
    · rw [if_neg hk, if_neg hk]
      refine answers (fn := Try.f32) (c := bodyOf Try.f32) (ntmps := 18) (results := [.tmp 4]) [CT.at 34 h1, CT.at 37 h2] Lno false Try.func32 (by kernel_rfl) (by kernel_rfl) (by kernel_rfl) (by kernel_rfl) (by simp) rfl (failOK fun _ _ _ => rfl) (Meets.of (rPu0 b p y y' h1 h2) ?_)
      rw [hb, decide_eq_false hk]
      refine wN rfl (wT rfl (wC (cl_iff.2 ⟨LeL.refl _, LeH.refl _⟩) ?_))
      rw [hne]
      exact ⟨.refl _, LeH.refl _⟩
  · have h1 := sum_ok h hm p1
    have h2 := add_ok h hm p2
    have hb : Nat.beq p.nm.size 0 = false := by
      cases hb : Nat.beq p.nm.size 0 with
      | false => rfl
      | true => exact absurd (Nat.eq_of_beq_eq_true hb) hz
    by_cases hk : p.k = 1
    · rw [if_pos hk, if_pos hk]
      refine answers (fn := Try.f32) (c := bodyOf Try.f32) (ntmps := 18) (results := [.tmp 4]) [CT.at 34 h1, CT.at 37 h2] Lno false Try.func32 (by kernel_rfl) (by kernel_rfl) (by kernel_rfl) (by kernel_rfl) (by simp) rfl (failOK fun _ _ _ => rfl) (Meets.of (rPu b p y y' h1 h2) ?_)
      rw [hb, decide_eq_true hk]
      exact wT rfl (wN rfl (wC (cl_iff.2 ⟨LeL.refl _, LeH.refl _⟩) ⟨.refl _, LeH.refl _⟩))
    · rw [if_neg hk, if_neg hk]
      refine answers (fn := Try.f32) (c := bodyOf Try.f32) (ntmps := 18) (results := [.tmp 4]) [CT.at 34 h1, CT.at 37 h2] Lno false Try.func32 (by kernel_rfl) (by kernel_rfl) (by kernel_rfl) (by kernel_rfl) (by simp) rfl (failOK fun _ _ _ => rfl) (Meets.of (rPu b p y y' h1 h2) ?_)
      rw [hb, decide_eq_false hk]
      exact wN rfl (wN rfl (wC (cl_iff.2 ⟨LeL.refl _, LeH.refl _⟩) ⟨.refl _, LeH.refl _⟩))
end Go.Eng.SB.B

namespace Go.Eng.SB.B
open Go Go.Eng Go.Eng.SB Go.Eng.SB.T Go.Lib Go.Proofs
noncomputable abbrev lpF : Code := loopOf (bodyOf Try.f30) 0
abbrev lvF : List Nat := [0, 3, 2]
abbrev slP (l : List Pu) : AV := .sl 5 l.length (lsF Pu.c l)
def SF (l : List Pu) (i : Nat) : List AV × Heap := ([slP l, .v (.int .i64 (i : Int)), .v (.bool false)], [])
def bigP (p : Pu) : Bool := decide (3000 < p.nm.size) || decide (3000 < p.a.s.size)
def farP (l : List Pu) : Bool := decide (80 < l.length) || l.any bigP
def OF (b : Bool) : Out := match b with
  | true => ⟨.ret, [.any, .any, .v (.bool true)], []⟩
  | false => ⟨.exit 0, [.any, .any, .any], []⟩
theorem rF (l : List Pu) (i : Nat) : roundE (P := Try.prog) (Γ := Γb) [] Lno false 0 0 lpF lvF [] 30 (SF l i).1 (SF l i).2 =
  Tree.br (decide ((↑i : Int) < (↑(List.length l) : Int))) (Tree.chk (decide ((0 : Int) ≤ (↑i : Int)) && decide ((↑i : Int) < (↑(List.length l) : Int)) && bif decide ((3000 : Int) <
    (↑(ByteArray.size (List.getD l i default).nm) : Int)) then true else decide ((0 : Int) ≤ (↑i : Int)) && decide ((↑i : Int) < (↑(List.length l) : Int))) (Tree.br (bif decide ((3000 : Int)
    < (↑(ByteArray.size (List.getD l i default).nm) : Int)) then true else decide ((3000 : Int) < (↑(ByteArray.size (List.getD l i default).a.s) : Int))) (Tree.leaf (Out.mk AEx.ret [AV.sl (5
    : Nat) (List.length l) (lsF Pu.c l), AV.v (Value.int IntKind.i64 (↑i : Int)), AV.v (Value.bool true)] [])) (Tree.leaf (Out.mk AEx.normal [AV.sl (5 : Nat) (List.length l) (lsF Pu.c l),
    AV.v (Value.int IntKind.i64 (IntKind.wrap IntKind.i64 ((↑i : Int) + (1 : Int)))), AV.v (Value.bool false)] [])))) (Tree.leaf (Out.mk (AEx.exit (0 : Nat)) [AV.sl (5 : Nat) (List.length l)
    (lsF Pu.c l), AV.v (Value.int IntKind.i64 (↑i : Int)), AV.v (Value.bool false)] [])) := by kernel_rfl
theorem any_drop {α : Type} [Inhabited α] {p : α → Bool} {l : List α} {i : Nat} (h : i < l.length) : (l.drop i).any p = (p (l.getD i default) || (l.drop (i + 1)).any p) := by
  rw [List.drop_eq_getElem_cons h, getD_get h, List.any_cons]
theorem loopF {l : List Pu} {b : Bool} (hl : l.length ≤ 100) : ∀ i : Nat, (i ≤ l.length ∧ (l.drop i).any bigP = b) → LoopOK Try.prog Γb 0 30 lpF (LSpec.at lvF [] (SF l i) (OF b)) := by
  refine loop_at (S := SF l) (pre := fun i => i ≤ l.length ∧ (l.drop i).any bigP = b) (O := fun _ => OF b) (k := 0) (fun i => l.length - i) fun i hi => .of (noLoops (by kernel_rfl)) (rF l i) ?_
  obtain ⟨h1, h2⟩ := hi
  rcases Nat.lt_or_ge i l.length with h | h
  · have e1 : IntKind.i64.wrap ((i : Int) + 1) = ((i + 1 : Nat) : Int) := wrapUpN (by omega)
    rw [any_drop h] at h2
    simp only [e1]
    have hq : (bif decide ((3000 : Int) < ((l.getD i default).nm.size : Int)) then true else decide ((3000 : Int) < ((l.getD i default).a.s.size : Int))) = bigP (l.getD i default) := by
      unfold bigP
      by_cases a : 3000 < (l.getD i default).nm.size
      · rw [decide_eq_true a, decide_eq_true (show (3000 : Int) < ((l.getD i default).nm.size : Int) by omega)]; rfl
      · rw [decide_eq_false a, decide_eq_false (show ¬ (3000 : Int) < ((l.getD i default).nm.size : Int) by omega)]
        by_cases a : 3000 < (l.getD i default).a.s.size
        · rw [decide_eq_true a, decide_eq_true (show (3000 : Int) < ((l.getD i default).a.s.size : Int) by omega)]; rfl
        · rw [decide_eq_false a, decide_eq_false (show ¬ (3000 : Int) < ((l.getD i default).a.s.size : Int) by omega)]; rfl
    simp only [hq]
    cases hg : bigP (l.getD i default) with
    | true =>
      rw [hg, Bool.true_or] at h2
      subst h2
      unfold OF
      repeat' (first | refine wC (by first | omega | (simp only [W1, cond_true, cond_false, hg]; first | done | omega)) ?_ | refine wT (by first | omega | (simp only [W1, cond_true, cond_false, hg]; first | done | omega)) ?_ | refine wF (by intro _h; first | omega | (simp only [W1, cond_true, cond_false, hg] at _h; first | done | omega)) ?_ | (refine wS ?_ ?_ <;> intro _h <;> simp only [W1, cond_true, cond_false, hg] at _h))
      all_goals simp only [or_true, true_or, false_or, or_false, and_false, false_and, cond_true, cond_false, Bool.not_true, Bool.not_false, Bool.false_eq_true, Bool.true_eq_false, not_true_eq_false, not_false_eq_true, false_implies, true_implies, implies_true, Nat.blt_eq, owesN, owesX, owesR, notT, sat_brT, sat_brF, sat_chkT, cl_iff, cl_false, AV.le_refl, AV.le_any, OLe_refl, OLe_none, sat_brN, Tree.sat_chk, Tree.sat_leaf, Tree.sat_fail, Nat.zero_add, Nat.sub_zero, Int.toNat_natCast, LeH_cons, LeH_nil, LeL_cons, LeL_nil, and_true, true_and, Bool.and_eq_true, Bool.or_eq_true, decide_eq_true_eq, decide_eq_false_iff_not, Bool.cond_true_left, Bool.cond_false_right, List.cons_append, List.nil_append, List.map_cons, List.map_nil, hg]
      repeat' (first | apply And.intro | intro _hc)
      all_goals first | exact rfl | exact ⟨.any _, .any _, .refl _, trivial⟩ | exact AV.le_refl _ | exact AV.le_any _ | exact OLe.refl _ | exact OLe.none _ | exact LeH.refl _ | exact LeL.refl _ | exact AV.le.bs _ | exact AV.le.sb _ | omega | contradiction
    | false =>
      rw [hg, Bool.false_or] at h2
      repeat' (first | refine wC (by first | omega | (simp only [W1, cond_true, cond_false, hg]; first | done | omega)) ?_ | refine wT (by first | omega | (simp only [W1, cond_true, cond_false, hg]; first | done | omega)) ?_ | refine wF (by intro _h; first | omega | (simp only [W1, cond_true, cond_false, hg] at _h; first | done | omega)) ?_ | (refine wS ?_ ?_ <;> intro _h <;> simp only [W1, cond_true, cond_false, hg] at _h))
      all_goals simp only [or_true, true_or, false_or, or_false, and_false, false_and, cond_true, cond_false, Bool.not_true, Bool.not_false, Bool.false_eq_true, Bool.true_eq_false, not_true_eq_false, not_false_eq_true, false_implies, true_implies, implies_true, Nat.blt_eq, owesN, owesX, owesR, notT, sat_brT, sat_brF, sat_chkT, cl_iff, cl_false, AV.le_refl, AV.le_any, OLe_refl, OLe_none, sat_brN, Tree.sat_chk, Tree.sat_leaf, Tree.sat_fail, Nat.zero_add, Nat.sub_zero, Int.toNat_natCast, LeH_cons, LeH_nil, LeL_cons, LeL_nil, and_true, true_and, Bool.and_eq_true, Bool.or_eq_true, decide_eq_true_eq, decide_eq_false_iff_not, Bool.cond_true_left, Bool.cond_false_right, List.cons_append, List.nil_append, List.map_cons, List.map_nil, hg]
      repeat' (first | apply And.intro | intro _hc)
      all_goals first | exact ⟨i + 1, LeL.refl _, LeH.refl _, ⟨by show i + 1 ≤ _; omega, h2⟩, by omega⟩ | exact AV.le_refl _ | exact AV.le_any _ | exact OLe.refl _ | exact OLe.none _ | exact LeH.refl _ | exact LeL.refl _ | exact AV.le.bs _ | exact AV.le.sb _ | omega | contradiction
  · rw [List.drop_eq_nil_of_le h] at h2
    have h2 : b = false := h2.symm
    subst h2
    unfold OF
    repeat' (first | refine wC (by first | omega | (simp only [W1, cond_true, cond_false]; first | done | omega)) ?_ | refine wT (by first | omega | (simp only [W1, cond_true, cond_false]; first | done | omega)) ?_ | refine wF (by intro _h; first | omega | (simp only [W1, cond_true, cond_false] at _h; first | done | omega)) ?_ | (refine wS ?_ ?_ <;> intro _h <;> simp only [W1, cond_true, cond_false] at _h))
    all_goals simp only [or_true, true_or, false_or, or_false, and_false, false_and, cond_true, cond_false, Bool.not_true, Bool.not_false, Bool.false_eq_true, Bool.true_eq_false, not_true_eq_false, not_false_eq_true, false_implies, true_implies, implies_true, Nat.blt_eq, owesN, owesX, owesR, notT, sat_brT, sat_brF, sat_chkT, cl_iff, cl_false, AV.le_refl, AV.le_any, OLe_refl, OLe_none, sat_brN, Tree.sat_chk, Tree.sat_leaf, Tree.sat_fail, Nat.zero_add, Nat.sub_zero, Int.toNat_natCast, LeH_cons, LeH_nil, LeL_cons, LeL_nil, and_true, true_and, Bool.and_eq_true, Bool.or_eq_true, decide_eq_true_eq, decide_eq_false_iff_not, Bool.cond_true_left, Bool.cond_false_right, List.cons_append, List.nil_append, List.map_cons, List.map_nil]
    repeat' (first | apply And.intro | intro _hc)
    all_goals first | exact rfl | exact AV.le_refl _ | exact AV.le_any _ | exact OLe.refl _ | exact OLe.none _ | exact LeH.refl _ | exact LeL.refl _ | exact AV.le.bs _ | exact AV.le.sb _ | omega | contradiction
theorem runF (l : List Pu) (b : Bool) : bodyE (P := Try.prog) (Γ := Γb) [] (fun _ => LSpec.at lvF [] (SF l 0) (OF true)) false 30 [.tmp 2] (bodyOf Try.f30) [slP l] [] =
  Tree.br (decide ((80 : Int) < (↑(List.length l) : Int))) (Tree.leaf (Ans.mk (AV.v (Value.bool true)) [])) (Tree.chk (cl (LeL [AV.sl (5 : Nat) (List.length l) (lsF Pu.c l), AV.v (Value.int
    IntKind.i64 (0 : Int)), AV.v (Value.bool false)] [AV.sl (5 : Nat) (List.length l) (lsF Pu.c l), AV.v (Value.int IntKind.i64 (↑(0 : Nat) : Int)), AV.v (Value.bool false)] ∧ LeH [] []))
    (Tree.leaf (Ans.mk (AV.v (Value.bool true)) []))) := by kernel_rfl
theorem runFf (l : List Pu) (b : Bool) : bodyE (P := Try.prog) (Γ := Γb) [] (fun _ => LSpec.at lvF [] (SF l 0) (OF false)) false 30 [.tmp 2] (bodyOf Try.f30) [slP l] [] =
  Tree.br (decide ((80 : Int) < (↑(List.length l) : Int))) (Tree.leaf (Ans.mk (AV.v (Value.bool true)) [])) (Tree.chk (cl (LeL [AV.sl (5 : Nat) (List.length l) (lsF Pu.c l), AV.v (Value.int
    IntKind.i64 (0 : Int)), AV.v (Value.bool false)] [AV.sl (5 : Nat) (List.length l) (lsF Pu.c l), AV.v (Value.int IntKind.i64 (↑(0 : Nat) : Int)), AV.v (Value.bool false)] ∧ LeH [] []))
    (Tree.leaf (Ans.mk (AV.v (Value.bool false)) []))) := by kernel_rfl
theorem runFl (l : List Pu) : bodyE (P := Try.prog) (Γ := Γb) [] Lno false 30 [.tmp 2] (bodyOf Try.f30) [slP l] [] =
  Tree.br (decide ((80 : Int) < (↑(List.length l) : Int))) (Tree.leaf (Ans.mk (AV.v (Value.bool true)) [])) Tree.fail := by kernel_rfl
theorem ansF {l : List Pu} : Answers Try.prog Γb 30 [slP l] [] (.v (.bool (farP l))) [] [] := by
  by_cases hl : 80 < l.length
  · have e : farP l = true := by unfold farP; rw [decide_eq_true hl]; rfl
    rw [e]
    refine answers (fn := Try.f30) (c := bodyOf Try.f30) (ntmps := 30) (results := [.tmp 2]) [] Lno false Try.func30 (by kernel_rfl) (by kernel_rfl) (by kernel_rfl) (by kernel_rfl) (by simp) rfl (failOK fun _ _ _ => rfl) (Meets.of (runFl l) ?_)
    repeat' (first | refine wC (by first | omega | (simp only [W1, cond_true, cond_false]; first | done | omega)) ?_ | refine wT (by first | omega | (simp only [W1, cond_true, cond_false]; first | done | omega)) ?_ | refine wF (by intro _h; first | omega | (simp only [W1, cond_true, cond_false] at _h; first | done | omega)) ?_ | (refine wS ?_ ?_ <;> intro _h <;> simp only [W1, cond_true, cond_false] at _h))
    all_goals simp only [or_true, true_or, false_or, or_false, and_false, false_and, cond_true, cond_false, Bool.not_true, Bool.not_false, Bool.false_eq_true, Bool.true_eq_false, not_true_eq_false, not_false_eq_true, false_implies, true_implies, implies_true, Nat.blt_eq, owesN, owesX, owesR, notT, sat_brT, sat_brF, sat_chkT, cl_iff, cl_false, AV.le_refl, AV.le_any, OLe_refl, OLe_none, sat_brN, Tree.sat_chk, Tree.sat_leaf, Tree.sat_fail, Nat.zero_add, Nat.sub_zero, Int.toNat_natCast, LeH_cons, LeH_nil, LeL_cons, LeL_nil, and_true, true_and, Bool.and_eq_true, Bool.or_eq_true, decide_eq_true_eq, decide_eq_false_iff_not, Bool.cond_true_left, Bool.cond_false_right, List.cons_append, List.nil_append, List.map_cons, List.map_nil]
    repeat' (first | apply And.intro | intro _hc)
    all_goals first | exact cl_iff.2 trivial | exact AV.le_refl _ | exact AV.le_any _ | exact OLe.refl _ | exact OLe.none _ | exact LeH.refl _ | exact LeL.refl _ | exact AV.le.bs _ | exact AV.le.sb _ | omega | contradiction
  · have e : farP l = l.any bigP := by unfold farP; rw [decide_eq_false hl]; rfl
    rw [e]
    cases hg : l.any bigP with
    | true =>
      refine answers (fn := Try.f30) (c := bodyOf Try.f30) (ntmps := 30) (results := [.tmp 2]) [] (fun _ => LSpec.at lvF [] (SF l 0) (OF true)) false Try.func30 (by kernel_rfl) (by kernel_rfl) (by kernel_rfl) (by kernel_rfl) (by simp) rfl (oneLoop (b := lpF) (by kernel_rfl) (loopF (by omega) 0 ⟨Nat.zero_le _, by rw [List.drop_zero]; exact hg⟩)) (Meets.of (runF l true) ?_)
      repeat' (first | refine wC (by first | omega | (simp only [W1, cond_true, cond_false]; first | done | omega)) ?_ | refine wT (by first | omega | (simp only [W1, cond_true, cond_false]; first | done | omega)) ?_ | refine wF (by intro _h; first | omega | (simp only [W1, cond_true, cond_false] at _h; first | done | omega)) ?_ | (refine wS ?_ ?_ <;> intro _h <;> simp only [W1, cond_true, cond_false] at _h))
      all_goals simp only [or_true, true_or, false_or, or_false, and_false, false_and, cond_true, cond_false, Bool.not_true, Bool.not_false, Bool.false_eq_true, Bool.true_eq_false, not_true_eq_false, not_false_eq_true, false_implies, true_implies, implies_true, Nat.blt_eq, owesN, owesX, owesR, notT, sat_brT, sat_brF, sat_chkT, cl_iff, cl_false, AV.le_refl, AV.le_any, OLe_refl, OLe_none, sat_brN, Tree.sat_chk, Tree.sat_leaf, Tree.sat_fail, Nat.zero_add, Nat.sub_zero, Int.toNat_natCast, LeH_cons, LeH_nil, LeL_cons, LeL_nil, and_true, true_and, Bool.and_eq_true, Bool.or_eq_true, decide_eq_true_eq, decide_eq_false_iff_not, Bool.cond_true_left, Bool.cond_false_right, List.cons_append, List.nil_append, List.map_cons, List.map_nil]
      repeat' (first | apply And.intro | intro _hc)
      all_goals first | exact cl_iff.2 trivial | exact AV.le_refl _ | exact AV.le_any _ | exact OLe.refl _ | exact OLe.none _ | exact LeH.refl _ | exact LeL.refl _ | exact AV.le.bs _ | exact AV.le.sb _ | omega | contradiction
    | false =>
      refine answers (fn := Try.f30) (c := bodyOf Try.f30) (ntmps := 30) (results := [.tmp 2]) [] (fun _ => LSpec.at lvF [] (SF l 0) (OF false)) false Try.func30 (by kernel_rfl) (by kernel_rfl) (by kernel_rfl) (by kernel_rfl) (by simp) rfl (oneLoop (b := lpF) (by kernel_rfl) (loopF (by omega) 0 ⟨Nat.zero_le _, by rw [List.drop_zero]; exact hg⟩)) (Meets.of (runFf l false) ?_)
      repeat' (first | refine wC (by first | omega | (simp only [W1, cond_true, cond_false]; first | done | omega)) ?_ | refine wT (by first | omega | (simp only [W1, cond_true, cond_false]; first | done | omega)) ?_ | refine wF (by intro _h; first | omega | (simp only [W1, cond_true, cond_false] at _h; first | done | omega)) ?_ | (refine wS ?_ ?_ <;> intro _h <;> simp only [W1, cond_true, cond_false] at _h))
      all_goals simp only [or_true, true_or, false_or, or_false, and_false, false_and, cond_true, cond_false, Bool.not_true, Bool.not_false, Bool.false_eq_true, Bool.true_eq_false, not_true_eq_false, not_false_eq_true, false_implies, true_implies, implies_true, Nat.blt_eq, owesN, owesX, owesR, notT, sat_brT, sat_brF, sat_chkT, cl_iff, cl_false, AV.le_refl, AV.le_any, OLe_refl, OLe_none, sat_brN, Tree.sat_chk, Tree.sat_leaf, Tree.sat_fail, Nat.zero_add, Nat.sub_zero, Int.toNat_natCast, LeH_cons, LeH_nil, LeL_cons, LeL_nil, and_true, true_and, Bool.and_eq_true, Bool.or_eq_true, decide_eq_true_eq, decide_eq_false_iff_not, Bool.cond_true_left, Bool.cond_false_right, List.cons_append, List.nil_append, List.map_cons, List.map_nil]
      repeat' (first | apply And.intro | intro _hc)
      all_goals first | exact cl_iff.2 trivial | exact AV.le_refl _ | exact AV.le_any _ | exact OLe.refl _ | exact OLe.none _ | exact LeH.refl _ | exact LeL.refl _ | exact AV.le.bs _ | exact AV.le.sb _ | omega | contradiction
def bookN (t : Nat) : Blk := .row [.ptr t 0, .v (.int .i64 1), .v (.string ⟨#[]⟩), .v (.slice none 0 0), .v (.bool false)]
theorem opR  : bodyE (P := Try.prog) (Γ := Γb) [z19x, kIx, z28x, z91x, z76x] (autoL true 100 [z19x, kIx, z28x, z91x, z76x] false 1 82 (loopBodies (bodyOf Try.f31)) 3) false 82 [.tmp 2, .tmp 3] (bodyOf Try.f31) [.ptr 0 0] [newQ] =
  Tree.br false (Tree.leaf (Ans.mk (AV.tup [AV.v (Value.pointer none), AV.v (Value.int IntKind.i64 (0 : Int))]) [some (Blk.row [AV.v (Value.int IntKind.i64 (4194304 : Int)), AV.v (Value.int
    IntKind.i64 (0 : Int)), AV.v (Value.int IntKind.i64 (0 : Int)), AV.v (Value.slice none (0 : Nat) (0 : Nat)), AV.v (Value.int IntKind.i64 (-1 : Int)), AV.v (Value.bool false)])]))
    (Tree.br false (Tree.br false (Tree.leaf (Ans.mk (AV.tup [AV.v (Value.pointer none), AV.v (Value.int IntKind.i64 (0 : Int))]) [some (Blk.row [AV.v (Value.int IntKind.i64 (4194304 :
    Int)), AV.v (Value.int IntKind.i64 (0 : Int)), AV.v (Value.int IntKind.i64 (if IntKind.wrap IntKind.i64 ((0 : Int) + (0 : Int)) < (0 : Int) then IntKind.wrap IntKind.i64 ((0 : Int) + (0
    : Int)) else (0 : Int))), AV.v (Value.slice none (0 : Nat) (0 : Nat)), AV.v (Value.int IntKind.i64 (-1 : Int)), AV.v (Value.bool false)])])) (Tree.leaf (Ans.mk (AV.tup [AV.ptr (1 : Nat)
    (0 : Nat), AV.v (Value.int IntKind.i64 (0 : Int))]) [some (Blk.row [AV.v (Value.int IntKind.i64 (4194304 : Int)), AV.v (Value.int IntKind.i64 (0 : Int)), AV.v (Value.int IntKind.i64 (if
    IntKind.wrap IntKind.i64 ((0 : Int) + (0 : Int)) < (0 : Int) then IntKind.wrap IntKind.i64 ((0 : Int) + (0 : Int)) else (0 : Int))), AV.v (Value.slice none (0 : Nat) (0 : Nat)), AV.v
    (Value.int IntKind.i64 (-1 : Int)), AV.v (Value.bool false)]), some (Blk.row [AV.ptr (0 : Nat) (0 : Nat), AV.v (Value.int IntKind.i64 (1 : Int)), AV.v (Value.string (ByteArray.mk #[])),
    AV.v (Value.slice none (0 : Nat) (0 : Nat)), AV.v (Value.bool false)])]))) (Tree.leaf (Ans.mk (AV.tup [AV.ptr (1 : Nat) (0 : Nat), AV.v (Value.int IntKind.i64 (0 : Int))]) [some (Blk.row
    [AV.v (Value.int IntKind.i64 (4194304 : Int)), AV.v (Value.int IntKind.i64 (0 : Int)), AV.v (Value.int IntKind.i64 (0 : Int)), AV.v (Value.slice none (0 : Nat) (0 : Nat)), AV.v
    (Value.int IntKind.i64 (-1 : Int)), AV.v (Value.bool false)]), some (Blk.row [AV.ptr (0 : Nat) (0 : Nat), AV.v (Value.int IntKind.i64 (1 : Int)), AV.v (Value.string (ByteArray.mk #[])),
    AV.v (Value.slice none (0 : Nat) (0 : Nat)), AV.v (Value.bool false)])]))) := by kernel_rfl
theorem ansOp : Answers Try.prog Γb 31 [.ptr 0 0] [newQ] (.tup [.ptr 1 0, .v (.int .i64 0)]) [some newQ] [bookN 0] := by
  refine answers (fn := Try.f31) (c := bodyOf Try.f31) (ntmps := 82) (results := [.tmp 2, .tmp 3]) [z19x, kIx, z28x, z91x, z76x] (autoL true 100 [z19x, kIx, z28x, z91x, z76x] false 1 82 (loopBodies (bodyOf Try.f31)) 3) false Try.func31 (by kernel_rfl) (by kernel_rfl) (by kernel_rfl) (by kernel_rfl) (by simp) rfl (autoL_ok 3) (Meets.of opR (wN rfl (wN rfl ⟨.refl _, LeH.refl _⟩)))
end Go.Eng.SB.B

namespace Go.Eng.SB.B
open Go Go.Eng Go.Eng.SB Go.Lib Go.Proofs
noncomputable def n78 : CT Try.prog Γb := CT.auto false 100 2 [] 78 Try.f78 (bodyOf Try.f78) false 11 [.tmp 2] Try.func78 (by kernel_rfl) (by kernel_rfl) (by kernel_rfl) (by kernel_rfl)
noncomputable def n19 : CT Try.prog Γb := CT.auto false 100 2 [n78] 19 Try.f19 (bodyOf Try.f19) false 20 [.tmp 2, .tmp 3, .tmp 4] Try.func19 (by kernel_rfl) (by kernel_rfl) (by kernel_rfl) (by kernel_rfl)
noncomputable def n31 : CT Try.prog Γb := CT.auto false 100 2 [n19] 31 Try.f31 (bodyOf Try.f31) false 82 [.tmp 2, .tmp 3] Try.func31 (by kernel_rfl) (by kernel_rfl) (by kernel_rfl) (by kernel_rfl)
noncomputable def n92 : CT Try.prog Γb := CT.auto false 100 2 [] 92 Try.f92 (bodyOf Try.f92) false 84 [.tmp 6, .tmp 7] Try.func92 (by kernel_rfl) (by kernel_rfl) (by kernel_rfl) (by kernel_rfl)
noncomputable def n37 : CT Try.prog Γb := CT.auto false 100 2 [n92] 37 Try.f37 (bodyOf Try.f37) false 14 [.tmp 4] Try.func37 (by kernel_rfl) (by kernel_rfl) (by kernel_rfl) (by kernel_rfl)
noncomputable def n34 : CT Try.prog Γb := CT.auto false 100 2 [n92] 34 Try.f34 (bodyOf Try.f34) false 28 [.tmp 4] Try.func34 (by kernel_rfl) (by kernel_rfl) (by kernel_rfl) (by kernel_rfl)
noncomputable def n35 : CT Try.prog Γb := CT.auto false 100 2 [] 35 Try.f35 (bodyOf Try.f35) false 10 [.tmp 2] Try.func35 (by kernel_rfl) (by kernel_rfl) (by kernel_rfl) (by kernel_rfl)
noncomputable def n36 : CT Try.prog Γb := CT.auto false 100 2 [] 36 Try.f36 (bodyOf Try.f36) false 24 [.tmp 2] Try.func36 (by kernel_rfl) (by kernel_rfl) (by kernel_rfl) (by kernel_rfl)
noncomputable def n33 : CT Try.prog Γb := CT.auto false 100 2 [] 33 Try.f33 (bodyOf Try.f33) false 9 [.tmp 2] Try.func33 (by kernel_rfl) (by kernel_rfl) (by kernel_rfl) (by kernel_rfl)
theorem lawRN (s : ByteArray) : bodyE (P := Try.prog) (Γ := Γb) [z21', n31, n37, n34, n35, n36, n33] Lno false 49 [.tmp 2] (bodyOf Try.f7) [.v (.string s)] [] =
  Tree.br true (Tree.br true (Tree.br true (Tree.br (Nat.beq (ByteArray.size s) (0 : Nat)) (Tree.br true (Tree.br (Nat.beq (ByteArray.size s) (0 : Nat)) (Tree.br true (Tree.br true (Tree.br
    true (Tree.br true (Tree.leaf (Ans.mk (AV.sb true) [])) (Tree.leaf (Ans.mk (AV.v (Value.bool false)) []))) (Tree.leaf (Ans.mk (AV.v (Value.bool false)) []))) (Tree.leaf (Ans.mk (AV.v
    (Value.bool false)) []))) Tree.fail) (Tree.br true (Tree.br true (Tree.br true (Tree.br true (Tree.leaf (Ans.mk (AV.sb true) [])) (Tree.leaf (Ans.mk (AV.v (Value.bool false)) [])))
    (Tree.leaf (Ans.mk (AV.v (Value.bool false)) []))) (Tree.leaf (Ans.mk (AV.v (Value.bool false)) []))) Tree.fail)) (Tree.leaf (Ans.mk (AV.v (Value.bool false)) []))) (Tree.br true
    (Tree.br (Nat.beq (ByteArray.size s) (0 : Nat)) (Tree.br true (Tree.br true (Tree.br true (Tree.br true (Tree.leaf (Ans.mk (AV.sb true) [])) (Tree.leaf (Ans.mk (AV.v (Value.bool false))
    []))) (Tree.leaf (Ans.mk (AV.v (Value.bool false)) []))) (Tree.leaf (Ans.mk (AV.v (Value.bool false)) []))) Tree.fail) (Tree.br true (Tree.br true (Tree.br true (Tree.br true (Tree.leaf
    (Ans.mk (AV.sb true) [])) (Tree.leaf (Ans.mk (AV.v (Value.bool false)) []))) (Tree.leaf (Ans.mk (AV.v (Value.bool false)) []))) (Tree.leaf (Ans.mk (AV.v (Value.bool false)) [])))
    Tree.fail)) (Tree.leaf (Ans.mk (AV.v (Value.bool false)) [])))) (Tree.leaf (Ans.mk (AV.v (Value.bool false)) []))) Tree.fail) Tree.fail := by kernel_rfl
theorem lawRN_ok (s : ByteArray) : LawOK Try.prog Γb 49 [.tmp 2] (bodyOf Try.f7) [.v (.string s)] := by
  refine .mk' (T := [z21', n31, n37, n34, n35, n36, n33]) (ip := false) (L := Lno) (failOK fun _ _ _ => rfl) (Right.of (lawRN s) ?_)
  cases hb : Nat.beq s.size 0 with
  | true =>
    simp [Tree.sat]
  | false =>
    simp [Tree.sat]
noncomputable def c7L : CT Try.prog Γb := CT.lawE (fun s : ByteArray => [.v (.string s)]) (fun _ => True) 7 Try.f7 (bodyOf Try.f7) 49 [.tmp 2] Try.func7 (by kernel_rfl) (by kernel_rfl) (by kernel_rfl) (by kernel_rfl) (fun _ _ => by simp) (fun s _ => lawRN_ok s)
end Go.Eng.SB.B

namespace Go.Eng.SB.B
open Go Go.Eng Go.Eng.SB Go.Eng.SB.T Go.Lib Go.Proofs
noncomputable abbrev lpL : Code := loopOf (bodyOf Try.f6) 0
abbrev lvL : List Nat := [0, 1, 7, 5, 9]
abbrev nlL : List (Nat × TypeId) := [(402, 9), (403, 5)]
noncomputable def SL (l : List Pu) (tl : ByteArray) (b : Bk) (i : Nat) : List AV × Heap := ([slP l, .v (.string tl), .ptr 0 0, .ptr 1 0, .v (.int .i64 (i : Int))], b.bl.map some)
noncomputable def OL (l : List Pu) (tl : ByteArray) (b : Bk) : Out := ⟨.exit 0, [.any, .v (.string tl), .ptr 0 0, .ptr 1 0, .any], b.bl.map some⟩
theorem rL1 (l : List Pu) (tl : ByteArray) (b : Bk) (i : Nat) (y y' : ByteArray) (h : Answers Try.prog Γb 32 [.ptr 0 0, .agg (Pu.c (l.getD i default))] b.bl (.v (.int .i64 0)) [some (b.srow 1 (l.getD i default).nm), some ((b.ts y).row 4), none, none] [(b.ts y).arr]) : roundE (P := Try.prog) (Γ := Γb) [CT.at 32 h, n33] Lno false 0 0 lpL lvL nlL 108 (SL l tl b i).1 (SL l tl b i).2 =
  Tree.br (decide ((↑i : Int) < (↑(List.length l) : Int))) (Tree.chk (decide ((0 : Int) ≤ (↑i : Int)) && decide ((↑i : Int) < (↑(List.length l) : Int))) (Tree.chk (cl (LeL [AV.ptr (0 : Nat) (0
    : Nat), AV.agg [AV.v (Value.int IntKind.i64 (List.getD l i default).k), AV.v (Value.string (List.getD l i default).nm), AV.v (Value.int IntKind.i64 (List.getD l i default).a.k), AV.v
    (Value.int IntKind.i64 (List.getD l i default).a.n), AV.v (Value.string (List.getD l i default).a.s)]] [AV.ptr (0 : Nat) (0 : Nat), AV.agg [AV.v (Value.int IntKind.i64 (List.getD l i
    default).k), AV.v (Value.string (List.getD l i default).nm), AV.v (Value.int IntKind.i64 (List.getD l i default).a.k), AV.v (Value.int IntKind.i64 (List.getD l i default).a.n), AV.v
    (Value.string (List.getD l i default).a.s)]] ∧ LeH [some (Blk.row [AV.ptr (1 : Nat) (0 : Nat), AV.v (Value.int IntKind.i64 b.nx), AV.v (Value.string b.sm), AV.hs (3 : Nat) (0 : Nat)
    (List.length b.rs), AV.v (Value.bool false)]), some (Blk.row [AV.v (Value.int IntKind.i64 (4194304 : Int)), AV.v (Value.int IntKind.i64 b.x.fi), AV.v (Value.int IntKind.i64 b.x.fa),
    AV.hs (2 : Nat) b.x.o b.x.n, AV.v (Value.int IntKind.i64 (-1 : Int)), AV.v (Value.bool false)]), some (Blk.arr (1 : Nat) b.x.N fun j => [AV.v (Value.int IntKind.u8 (b.x.g j))]), some
    (Blk.arr (1 : Nat) (List.length b.rs) (lsF Sx.c b.rs))] [some (Blk.row [AV.ptr (1 : Nat) (0 : Nat), AV.v (Value.int IntKind.i64 b.nx), AV.v (Value.string b.sm), AV.hs (3 : Nat) (0 : Nat)
    (List.length b.rs), AV.v (Value.bool false)]), some (Blk.row [AV.v (Value.int IntKind.i64 (4194304 : Int)), AV.v (Value.int IntKind.i64 b.x.fi), AV.v (Value.int IntKind.i64 b.x.fa),
    AV.hs (2 : Nat) b.x.o b.x.n, AV.v (Value.int IntKind.i64 (-1 : Int)), AV.v (Value.bool false)]), some (Blk.arr (1 : Nat) b.x.N fun j => [AV.v (Value.int IntKind.u8 (b.x.g j))]), some
    (Blk.arr (1 : Nat) (List.length b.rs) (lsF Sx.c b.rs))])) (Tree.br false (Tree.leaf (Out.mk AEx.ret [AV.sl (5 : Nat) (List.length l) (lsF Pu.c l), AV.v (Value.string tl), AV.ptr (0 :
    Nat) (0 : Nat), AV.ptr (1 : Nat) (0 : Nat), AV.v (Value.int IntKind.i64 (↑i : Int))] [some (Blk.row [AV.ptr (1 : Nat) (0 : Nat), AV.v (Value.int IntKind.i64 (b.nx + (1 : Int))), AV.v
    (Value.string (List.getD l i default).nm), AV.v (Value.slice none (0 : Nat) (0 : Nat)), AV.v (Value.bool false)]), some (Blk.row [AV.v (Value.int IntKind.i64 (4194304 : Int)), AV.v
    (Value.int IntKind.i64 (b.x.fi + (↑b.x.n : Int))), AV.v (Value.int IntKind.i64 (b.x.fi + (↑(b.x.n + ByteArray.size y) : Int))), AV.hs (2 : Nat) ((0 : Nat) + Int.toNat (b.x.fi + (↑b.x.n :
    Int) - b.x.fi)) (b.x.n + ByteArray.size y - Int.toNat (b.x.fi + (↑b.x.n : Int) - b.x.fi)), AV.v (Value.int IntKind.i64 (-1 : Int)), AV.v (Value.bool false)]), some (Blk.arr (1 : Nat)
    (b.x.n + ByteArray.size y) fun j => [AV.v (Value.int IntKind.u8 ((Bk.ts b y).g j))])])) (Tree.br (!decide (b.nx + (1 : Int) = IntKind.wrap IntKind.i64 ((↑i : Int) + (2 : Int))))
    (Tree.leaf (Out.mk AEx.ret [AV.sl (5 : Nat) (List.length l) (lsF Pu.c l), AV.v (Value.string tl), AV.ptr (0 : Nat) (0 : Nat), AV.ptr (1 : Nat) (0 : Nat), AV.v (Value.int IntKind.i64 (↑i
    : Int))] [some (Blk.row [AV.ptr (1 : Nat) (0 : Nat), AV.v (Value.int IntKind.i64 (b.nx + (1 : Int))), AV.v (Value.string (List.getD l i default).nm), AV.v (Value.slice none (0 : Nat) (0
    : Nat)), AV.v (Value.bool false)]), some (Blk.row [AV.v (Value.int IntKind.i64 (4194304 : Int)), AV.v (Value.int IntKind.i64 (b.x.fi + (↑b.x.n : Int))), AV.v (Value.int IntKind.i64
    (b.x.fi + (↑(b.x.n + ByteArray.size y) : Int))), AV.hs (2 : Nat) ((0 : Nat) + Int.toNat (b.x.fi + (↑b.x.n : Int) - b.x.fi)) (b.x.n + ByteArray.size y - Int.toNat (b.x.fi + (↑b.x.n : Int)
    - b.x.fi)), AV.v (Value.int IntKind.i64 (-1 : Int)), AV.v (Value.bool false)]), some (Blk.arr (1 : Nat) (b.x.n + ByteArray.size y) fun j => [AV.v (Value.int IntKind.u8 ((Bk.ts b y).g
    j))])])) (Tree.leaf (Out.mk AEx.normal [AV.sl (5 : Nat) (List.length l) (lsF Pu.c l), AV.v (Value.string tl), AV.ptr (0 : Nat) (0 : Nat), AV.ptr (1 : Nat) (0 : Nat), AV.v (Value.int
    IntKind.i64 (IntKind.wrap IntKind.i64 ((↑i : Int) + (1 : Int))))] [some (Blk.row [AV.ptr (1 : Nat) (0 : Nat), AV.v (Value.int IntKind.i64 (b.nx + (1 : Int))), AV.v (Value.string
    (List.getD l i default).nm), AV.hs (3 : Nat) (0 : Nat) (0 : Nat), AV.v (Value.bool false)]), some (Blk.row [AV.v (Value.int IntKind.i64 (4194304 : Int)), AV.v (Value.int IntKind.i64
    (b.x.fi + (↑b.x.n : Int))), AV.v (Value.int IntKind.i64 (b.x.fi + (↑(b.x.n + ByteArray.size y) : Int))), AV.hs (2 : Nat) ((0 : Nat) + Int.toNat (b.x.fi + (↑b.x.n : Int) - b.x.fi)) (b.x.n
    + ByteArray.size y - Int.toNat (b.x.fi + (↑b.x.n : Int) - b.x.fi)), AV.v (Value.int IntKind.i64 (-1 : Int)), AV.v (Value.bool false)]), some (Blk.arr (1 : Nat) (b.x.n + ByteArray.size y)
    fun j => [AV.v (Value.int IntKind.u8 ((Bk.ts b y).g j))]), some (Blk.arr (1 : Nat) (0 : Nat) fun x => [AV.v (Value.string (ByteArray.mk #[]))])])))))) (Tree.leaf (Out.mk (AEx.exit (0 :
    Nat)) [AV.sl (5 : Nat) (List.length l) (lsF Pu.c l), AV.v (Value.string tl), AV.ptr (0 : Nat) (0 : Nat), AV.ptr (1 : Nat) (0 : Nat), AV.v (Value.int IntKind.i64 (↑i : Int))] [some
    (Blk.row [AV.ptr (1 : Nat) (0 : Nat), AV.v (Value.int IntKind.i64 b.nx), AV.v (Value.string b.sm), AV.hs (3 : Nat) (0 : Nat) (List.length b.rs), AV.v (Value.bool false)]), some (Blk.row
    [AV.v (Value.int IntKind.i64 (4194304 : Int)), AV.v (Value.int IntKind.i64 b.x.fi), AV.v (Value.int IntKind.i64 b.x.fa), AV.hs (2 : Nat) b.x.o b.x.n, AV.v (Value.int IntKind.i64 (-1 :
    Int)), AV.v (Value.bool false)]), some (Blk.arr (1 : Nat) b.x.N fun j => [AV.v (Value.int IntKind.u8 (b.x.g j))]), some (Blk.arr (1 : Nat) (List.length b.rs) (lsF Sx.c b.rs))])) := by kernel_rfl
theorem rL2 (l : List Pu) (tl : ByteArray) (b : Bk) (i : Nat) (y y' : ByteArray) (h : Answers Try.prog Γb 32 [.ptr 0 0, .agg (Pu.c (l.getD i default))] b.bl (.v (.int .i64 0)) [some ((b.add (l.getD i default).nm y').row 1 5), some ((b.tp y').row 4), none, none] [(b.tp y').arr, (b.add (l.getD i default).nm y').ra]) : roundE (P := Try.prog) (Γ := Γb) [CT.at 32 h, n33] Lno false 0 0 lpL lvL nlL 108 (SL l tl b i).1 (SL l tl b i).2 =
  Tree.br (decide ((↑i : Int) < (↑(List.length l) : Int))) (Tree.chk (decide ((0 : Int) ≤ (↑i : Int)) && decide ((↑i : Int) < (↑(List.length l) : Int))) (Tree.chk (cl (LeL [AV.ptr (0 : Nat) (0
    : Nat), AV.agg [AV.v (Value.int IntKind.i64 (List.getD l i default).k), AV.v (Value.string (List.getD l i default).nm), AV.v (Value.int IntKind.i64 (List.getD l i default).a.k), AV.v
    (Value.int IntKind.i64 (List.getD l i default).a.n), AV.v (Value.string (List.getD l i default).a.s)]] [AV.ptr (0 : Nat) (0 : Nat), AV.agg [AV.v (Value.int IntKind.i64 (List.getD l i
    default).k), AV.v (Value.string (List.getD l i default).nm), AV.v (Value.int IntKind.i64 (List.getD l i default).a.k), AV.v (Value.int IntKind.i64 (List.getD l i default).a.n), AV.v
    (Value.string (List.getD l i default).a.s)]] ∧ LeH [some (Blk.row [AV.ptr (1 : Nat) (0 : Nat), AV.v (Value.int IntKind.i64 b.nx), AV.v (Value.string b.sm), AV.hs (3 : Nat) (0 : Nat)
    (List.length b.rs), AV.v (Value.bool false)]), some (Blk.row [AV.v (Value.int IntKind.i64 (4194304 : Int)), AV.v (Value.int IntKind.i64 b.x.fi), AV.v (Value.int IntKind.i64 b.x.fa),
    AV.hs (2 : Nat) b.x.o b.x.n, AV.v (Value.int IntKind.i64 (-1 : Int)), AV.v (Value.bool false)]), some (Blk.arr (1 : Nat) b.x.N fun j => [AV.v (Value.int IntKind.u8 (b.x.g j))]), some
    (Blk.arr (1 : Nat) (List.length b.rs) (lsF Sx.c b.rs))] [some (Blk.row [AV.ptr (1 : Nat) (0 : Nat), AV.v (Value.int IntKind.i64 b.nx), AV.v (Value.string b.sm), AV.hs (3 : Nat) (0 : Nat)
    (List.length b.rs), AV.v (Value.bool false)]), some (Blk.row [AV.v (Value.int IntKind.i64 (4194304 : Int)), AV.v (Value.int IntKind.i64 b.x.fi), AV.v (Value.int IntKind.i64 b.x.fa),
    AV.hs (2 : Nat) b.x.o b.x.n, AV.v (Value.int IntKind.i64 (-1 : Int)), AV.v (Value.bool false)]), some (Blk.arr (1 : Nat) b.x.N fun j => [AV.v (Value.int IntKind.u8 (b.x.g j))]), some
    (Blk.arr (1 : Nat) (List.length b.rs) (lsF Sx.c b.rs))])) (Tree.br false (Tree.leaf (Out.mk AEx.ret [AV.sl (5 : Nat) (List.length l) (lsF Pu.c l), AV.v (Value.string tl), AV.ptr (0 :
    Nat) (0 : Nat), AV.ptr (1 : Nat) (0 : Nat), AV.v (Value.int IntKind.i64 (↑i : Int))] [some (Blk.row [AV.ptr (1 : Nat) (0 : Nat), AV.v (Value.int IntKind.i64 (b.nx + (1 : Int))), AV.v
    (Value.string b.sm), AV.hs (3 : Nat) (0 : Nat) (List.length (Bk.add b (List.getD l i default).nm y').rs), AV.v (Value.bool false)]), some (Blk.row [AV.v (Value.int IntKind.i64 (4194304 :
    Int)), AV.v (Value.int IntKind.i64 b.x.fi), AV.v (Value.int IntKind.i64 (b.x.fi + (↑(b.x.n + ByteArray.size y') : Int))), AV.hs (2 : Nat) (0 : Nat) (b.x.n + ByteArray.size y'), AV.v
    (Value.int IntKind.i64 (-1 : Int)), AV.v (Value.bool false)]), some (Blk.arr (1 : Nat) (b.x.n + ByteArray.size y') fun j => [AV.v (Value.int IntKind.u8 ((Bk.tp b y').g j))]), some
    (Blk.arr (1 : Nat) (List.length (Bk.add b (List.getD l i default).nm y').rs) (lsF Sx.c (Bk.add b (List.getD l i default).nm y').rs))])) (Tree.br (!decide (b.nx + (1 : Int) = IntKind.wrap
    IntKind.i64 ((↑i : Int) + (2 : Int)))) (Tree.leaf (Out.mk AEx.ret [AV.sl (5 : Nat) (List.length l) (lsF Pu.c l), AV.v (Value.string tl), AV.ptr (0 : Nat) (0 : Nat), AV.ptr (1 : Nat) (0 :
    Nat), AV.v (Value.int IntKind.i64 (↑i : Int))] [some (Blk.row [AV.ptr (1 : Nat) (0 : Nat), AV.v (Value.int IntKind.i64 (b.nx + (1 : Int))), AV.v (Value.string b.sm), AV.hs (3 : Nat) (0 :
    Nat) (List.length (Bk.add b (List.getD l i default).nm y').rs), AV.v (Value.bool false)]), some (Blk.row [AV.v (Value.int IntKind.i64 (4194304 : Int)), AV.v (Value.int IntKind.i64
    b.x.fi), AV.v (Value.int IntKind.i64 (b.x.fi + (↑(b.x.n + ByteArray.size y') : Int))), AV.hs (2 : Nat) (0 : Nat) (b.x.n + ByteArray.size y'), AV.v (Value.int IntKind.i64 (-1 : Int)),
    AV.v (Value.bool false)]), some (Blk.arr (1 : Nat) (b.x.n + ByteArray.size y') fun j => [AV.v (Value.int IntKind.u8 ((Bk.tp b y').g j))]), some (Blk.arr (1 : Nat) (List.length (Bk.add b
    (List.getD l i default).nm y').rs) (lsF Sx.c (Bk.add b (List.getD l i default).nm y').rs))])) (Tree.leaf (Out.mk AEx.normal [AV.sl (5 : Nat) (List.length l) (lsF Pu.c l), AV.v
    (Value.string tl), AV.ptr (0 : Nat) (0 : Nat), AV.ptr (1 : Nat) (0 : Nat), AV.v (Value.int IntKind.i64 (IntKind.wrap IntKind.i64 ((↑i : Int) + (1 : Int))))] [some (Blk.row [AV.ptr (1 :
    Nat) (0 : Nat), AV.v (Value.int IntKind.i64 (b.nx + (1 : Int))), AV.v (Value.string b.sm), AV.hs (3 : Nat) (0 : Nat) (List.length (Bk.add b (List.getD l i default).nm y').rs), AV.v
    (Value.bool false)]), some (Blk.row [AV.v (Value.int IntKind.i64 (4194304 : Int)), AV.v (Value.int IntKind.i64 b.x.fi), AV.v (Value.int IntKind.i64 (b.x.fi + (↑(b.x.n + ByteArray.size
    y') : Int))), AV.hs (2 : Nat) (0 : Nat) (b.x.n + ByteArray.size y'), AV.v (Value.int IntKind.i64 (-1 : Int)), AV.v (Value.bool false)]), some (Blk.arr (1 : Nat) (b.x.n + ByteArray.size
    y') fun j => [AV.v (Value.int IntKind.u8 ((Bk.tp b y').g j))]), some (Blk.arr (1 : Nat) (List.length (Bk.add b (List.getD l i default).nm y').rs) (lsF Sx.c (Bk.add b (List.getD l i
    default).nm y').rs))])))))) (Tree.leaf (Out.mk (AEx.exit (0 : Nat)) [AV.sl (5 : Nat) (List.length l) (lsF Pu.c l), AV.v (Value.string tl), AV.ptr (0 : Nat) (0 : Nat), AV.ptr (1 : Nat) (0
    : Nat), AV.v (Value.int IntKind.i64 (↑i : Int))] [some (Blk.row [AV.ptr (1 : Nat) (0 : Nat), AV.v (Value.int IntKind.i64 b.nx), AV.v (Value.string b.sm), AV.hs (3 : Nat) (0 : Nat)
    (List.length b.rs), AV.v (Value.bool false)]), some (Blk.row [AV.v (Value.int IntKind.i64 (4194304 : Int)), AV.v (Value.int IntKind.i64 b.x.fi), AV.v (Value.int IntKind.i64 b.x.fa),
    AV.hs (2 : Nat) b.x.o b.x.n, AV.v (Value.int IntKind.i64 (-1 : Int)), AV.v (Value.bool false)]), some (Blk.arr (1 : Nat) b.x.N fun j => [AV.v (Value.int IntKind.u8 (b.x.g j))]), some
    (Blk.arr (1 : Nat) (List.length b.rs) (lsF Sx.c b.rs))])) := by kernel_rfl
end Go.Eng.SB.B

namespace Go.Eng.SB.B
open Go Go.Eng Go.Eng.SB Go.Eng.SB.T Go.Lib Go.Proofs
def b0 : Bk := ⟨⟨0, 0, 0, 0, 0, fun _ => 0⟩, 1, ⟨#[]⟩, []⟩
def FarOK (l : List Pu) (b : Bool) : Prop := Answers Try.prog Γb 30 [slP l] [] (.v (.bool b)) [] []
def RdOK (x : Tq) : Prop := Answers Try.prog Γb 19 [.ptr 0 0] x.bl (.tup [.v (.int .i64 x.fi), .hs 2 0 x.n, .v (.int .i64 0)]) (x.bl.map some) [.arr 1 x.n (bF fun j => x.g (x.o + j))]
theorem lawSf (l : List Pu) (tl : ByteArray) (h : FarOK l true) : bodyE (P := Try.prog) (Γ := Γb) [z21', CT.at 30 h] Lno false 108 [.tmp 4] (bodyOf Try.f6) [slP l, .v (.string tl)] [] =
  Tree.chk (cl (LeL [AV.sl (5 : Nat) (List.length l) (lsF Pu.c l)] [AV.sl (5 : Nat) (List.length l) (lsF Pu.c l)] ∧ LeH [] [])) (Tree.leaf (Ans.mk (AV.v (Value.bool true)) [])) := by kernel_rfl
theorem lawSl (l : List Pu) (tl : ByteArray) (h : FarOK l false) : bodyE (P := Try.prog) (Γ := Γb) [z21', CT.at 30 h] Lno false 108 [.tmp 4] (bodyOf Try.f6) [slP l, .v (.string tl)] [] =
  Tree.chk (cl (LeL [AV.sl (5 : Nat) (List.length l) (lsF Pu.c l)] [AV.sl (5 : Nat) (List.length l) (lsF Pu.c l)] ∧ LeH [] [])) (Tree.br (decide ((3000 : Int) < (↑(ByteArray.size tl) : Int)))
    (Tree.leaf (Ans.mk (AV.v (Value.bool true)) [])) Tree.fail) := by kernel_rfl
theorem lawS1 (l : List Pu) (tl y : ByteArray) (R : Bk) (h : FarOK l false) (h1 : SumOK R tl y) (h2 : LnOK R.nx 2 tl y) (h3 : RdOK (R.ts y)) : bodyE (P := Try.prog) (Γ := Γb) [z21', CT.at 30 h, CT.at 14 ansQN, CT.at 31 ansOp, n33, CT.at 34 h1, n35, n36, CT.at 26 h2, CT.at 19 h3] (fun _ => LSpec.at lvL nlL (SL l tl b0 0) (OL l tl R)) false 108 [.tmp 4] (bodyOf Try.f6) [slP l, .v (.string tl)] [] =
  Tree.chk (cl (LeL [AV.sl (5 : Nat) (List.length l) (lsF Pu.c l)] [AV.sl (5 : Nat) (List.length l) (lsF Pu.c l)] ∧ LeH [] [])) (Tree.br (decide ((3000 : Int) < (↑(ByteArray.size tl) : Int)))
    (Tree.leaf (Ans.mk (AV.v (Value.bool true)) [])) (Tree.chk (cl (LeL [AV.v (Value.int IntKind.i64 (4194304 : Int))] [AV.v (Value.int IntKind.i64 (4194304 : Int))] ∧ LeH [] [])) (Tree.chk
    (cl (LeL [AV.ptr (0 : Nat) (0 : Nat)] [AV.ptr (0 : Nat) (0 : Nat)] ∧ LeH [some (Blk.row [AV.v (Value.int IntKind.i64 (4194304 : Int)), AV.v (Value.int IntKind.i64 (0 : Int)), AV.v
    (Value.int IntKind.i64 (0 : Int)), AV.v (Value.slice none (0 : Nat) (0 : Nat)), AV.v (Value.int IntKind.i64 (-1 : Int)), AV.v (Value.bool false)])] [some (Blk.row [AV.v (Value.int
    IntKind.i64 (4194304 : Int)), AV.v (Value.int IntKind.i64 (0 : Int)), AV.v (Value.int IntKind.i64 (0 : Int)), AV.v (Value.slice none (0 : Nat) (0 : Nat)), AV.v (Value.int IntKind.i64 (-1
    : Int)), AV.v (Value.bool false)])])) (Tree.br false (Tree.leaf (Ans.mk (AV.v (Value.bool false)) [])) (Tree.chk (cl (LeL [AV.sl (5 : Nat) (List.length l) (lsF Pu.c l), AV.v
    (Value.string tl), AV.ptr (0 : Nat) (0 : Nat), AV.ptr (1 : Nat) (0 : Nat), AV.v (Value.int IntKind.i64 (0 : Int))] [AV.sl (5 : Nat) (List.length l) (lsF Pu.c l), AV.v (Value.string tl),
    AV.ptr (0 : Nat) (0 : Nat), AV.ptr (1 : Nat) (0 : Nat), AV.v (Value.int IntKind.i64 (↑(0 : Nat) : Int))] ∧ LeH [some (Blk.row [AV.ptr (1 : Nat) (0 : Nat), AV.v (Value.int IntKind.i64 (1
    : Int)), AV.v (Value.string (ByteArray.mk #[])), AV.hs (3 : Nat) (0 : Nat) (0 : Nat), AV.v (Value.bool false)]), some (Blk.row [AV.v (Value.int IntKind.i64 (4194304 : Int)), AV.v
    (Value.int IntKind.i64 (0 : Int)), AV.v (Value.int IntKind.i64 (0 : Int)), AV.hs (2 : Nat) (0 : Nat) (0 : Nat), AV.v (Value.int IntKind.i64 (-1 : Int)), AV.v (Value.bool false)]), some
    (Blk.arr (1 : Nat) (0 : Nat) fun x => [AV.v (Value.int IntKind.u8 (0 : Int))]), some (Blk.arr (1 : Nat) (0 : Nat) fun x => [AV.v (Value.string (ByteArray.mk #[]))])] [some (Blk.row
    [AV.ptr (1 : Nat) (0 : Nat), AV.v (Value.int IntKind.i64 (1 : Int)), AV.v (Value.string (ByteArray.mk #[])), AV.hs (3 : Nat) (0 : Nat) (0 : Nat), AV.v (Value.bool false)]), some (Blk.row
    [AV.v (Value.int IntKind.i64 (4194304 : Int)), AV.v (Value.int IntKind.i64 (0 : Int)), AV.v (Value.int IntKind.i64 (0 : Int)), AV.hs (2 : Nat) (0 : Nat) (0 : Nat), AV.v (Value.int
    IntKind.i64 (-1 : Int)), AV.v (Value.bool false)]), some (Blk.arr (1 : Nat) (0 : Nat) fun j => [AV.v (Value.int IntKind.u8 ((Tq.mk (0 : Int) (0 : Int) (0 : Nat) (0 : Nat) (0 : Nat) fun x
    => (0 : Int)).g j))]), some (Blk.arr (1 : Nat) (0 : Nat) (lsF Sx.c b0.rs))])) (Tree.br (Nat.beq (ByteArray.size tl) (0 : Nat)) (Tree.chk (cl (LeL [AV.ptr (0 : Nat) (0 : Nat), AV.sl (1 :
    Nat) (0 : Nat) fun j => [AV.v (Value.int IntKind.u8 (sbyte tl j))]] [AV.ptr (0 : Nat) (0 : Nat), AV.hs (4 : Nat) (0 : Nat) (ByteArray.size tl)] ∧ LeH [some (Blk.row [AV.ptr (1 : Nat) (0
    : Nat), AV.v (Value.int IntKind.i64 R.nx), AV.v (Value.string R.sm), AV.hs (3 : Nat) (0 : Nat) (List.length R.rs), AV.v (Value.bool false)]), some (Blk.row [AV.v (Value.int IntKind.i64
    (4194304 : Int)), AV.v (Value.int IntKind.i64 R.x.fi), AV.v (Value.int IntKind.i64 R.x.fa), AV.hs (2 : Nat) R.x.o R.x.n, AV.v (Value.int IntKind.i64 (-1 : Int)), AV.v (Value.bool
    false)]), some (Blk.arr (1 : Nat) R.x.N fun j => [AV.v (Value.int IntKind.u8 (R.x.g j))]), some (Blk.arr (1 : Nat) (List.length R.rs) (lsF Sx.c R.rs))] [some (Blk.row [AV.ptr (1 : Nat)
    (0 : Nat), AV.v (Value.int IntKind.i64 R.nx), AV.v (Value.string R.sm), AV.hs (3 : Nat) (0 : Nat) (List.length R.rs), AV.v (Value.bool false)]), some (Blk.row [AV.v (Value.int
    IntKind.i64 (4194304 : Int)), AV.v (Value.int IntKind.i64 R.x.fi), AV.v (Value.int IntKind.i64 R.x.fa), AV.hs (2 : Nat) R.x.o R.x.n, AV.v (Value.int IntKind.i64 (-1 : Int)), AV.v
    (Value.bool false)]), some (Blk.arr (1 : Nat) R.x.N fun j => [AV.v (Value.int IntKind.u8 (R.x.g j))]), some (Blk.arr (1 : Nat) (List.length R.rs) (lsF Sx.c R.rs)), some (Blk.arr (1 :
    Nat) (ByteArray.size tl) (bsF tl))])) (Tree.br false (Tree.leaf (Ans.mk (AV.v (Value.bool false)) [])) Tree.fail)) (Tree.chk (cl (LeL [AV.ptr (0 : Nat) (0 : Nat), AV.hs (4 : Nat) (0 :
    Nat) (ByteArray.size tl)] [AV.ptr (0 : Nat) (0 : Nat), AV.hs (4 : Nat) (0 : Nat) (ByteArray.size tl)] ∧ LeH [some (Blk.row [AV.ptr (1 : Nat) (0 : Nat), AV.v (Value.int IntKind.i64 R.nx),
    AV.v (Value.string R.sm), AV.hs (3 : Nat) (0 : Nat) (List.length R.rs), AV.v (Value.bool false)]), some (Blk.row [AV.v (Value.int IntKind.i64 (4194304 : Int)), AV.v (Value.int
    IntKind.i64 R.x.fi), AV.v (Value.int IntKind.i64 R.x.fa), AV.hs (2 : Nat) R.x.o R.x.n, AV.v (Value.int IntKind.i64 (-1 : Int)), AV.v (Value.bool false)]), some (Blk.arr (1 : Nat) R.x.N
    fun j => [AV.v (Value.int IntKind.u8 (R.x.g j))]), some (Blk.arr (1 : Nat) (List.length R.rs) (lsF Sx.c R.rs)), some (Blk.arr (1 : Nat) (ByteArray.size tl) fun j => [AV.v (Value.int
    IntKind.u8 (sbyte tl j))])] [some (Blk.row [AV.ptr (1 : Nat) (0 : Nat), AV.v (Value.int IntKind.i64 R.nx), AV.v (Value.string R.sm), AV.hs (3 : Nat) (0 : Nat) (List.length R.rs), AV.v
    (Value.bool false)]), some (Blk.row [AV.v (Value.int IntKind.i64 (4194304 : Int)), AV.v (Value.int IntKind.i64 R.x.fi), AV.v (Value.int IntKind.i64 R.x.fa), AV.hs (2 : Nat) R.x.o R.x.n,
    AV.v (Value.int IntKind.i64 (-1 : Int)), AV.v (Value.bool false)]), some (Blk.arr (1 : Nat) R.x.N fun j => [AV.v (Value.int IntKind.u8 (R.x.g j))]), some (Blk.arr (1 : Nat) (List.length
    R.rs) (lsF Sx.c R.rs)), some (Blk.arr (1 : Nat) (ByteArray.size tl) (bsF tl))])) (Tree.br false (Tree.leaf (Ans.mk (AV.v (Value.bool false)) [])) (Tree.br (!decide (R.nx + (1 : Int) =
    IntKind.wrap IntKind.i64 (R.nx + (1 : Int)))) (Tree.leaf (Ans.mk (AV.v (Value.bool false)) [])) (Tree.br (Nat.beq (ByteArray.size tl) (0 : Nat)) (Tree.chk (allBytes (0 : Nat) fun j =>
    [AV.v (Value.int IntKind.u8 (sbyte tl j))]) (Tree.br (!decide ((textOf (0 : Nat) fun j => [AV.v (Value.int IntKind.u8 (sbyte tl j))]) = tl)) (Tree.leaf (Ans.mk (AV.v (Value.bool false))
    [])) (Tree.br false Tree.fail (Tree.br false (Tree.leaf (Ans.mk (AV.v (Value.bool false)) [])) (Tree.chk (cl (LeL [AV.agg [AV.v (Value.int IntKind.i64 R.nx), AV.v (Value.int IntKind.i64
    (2 : Int)), AV.v (Value.string tl)]] [AV.agg [AV.v (Value.int IntKind.i64 R.nx), AV.v (Value.int IntKind.i64 (2 : Int)), AV.v (Value.string tl)]] ∧ LeH [] [])) (Tree.chk (cl (LeL [AV.ptr
    (0 : Nat) (0 : Nat)] [AV.ptr (0 : Nat) (0 : Nat)] ∧ LeH [some (Blk.row [AV.v (Value.int IntKind.i64 (4194304 : Int)), AV.v (Value.int IntKind.i64 (R.x.fi + (↑R.x.n : Int))), AV.v
    (Value.int IntKind.i64 (R.x.fi + (↑(R.x.n + ByteArray.size y) : Int))), AV.hs (1 : Nat) ((0 : Nat) + Int.toNat (R.x.fi + (↑R.x.n : Int) - R.x.fi)) (R.x.n + ByteArray.size y - Int.toNat
    (R.x.fi + (↑R.x.n : Int) - R.x.fi)), AV.v (Value.int IntKind.i64 (-1 : Int)), AV.v (Value.bool false)]), some (Blk.arr (1 : Nat) (R.x.n + ByteArray.size y) fun j => [AV.v (Value.int
    IntKind.u8 ((Bk.ts R y).g j))])] [some (Blk.row [AV.v (Value.int IntKind.i64 (4194304 : Int)), AV.v (Value.int IntKind.i64 (R.x.fi + (↑R.x.n : Int))), AV.v (Value.int IntKind.i64 (R.x.fi
    + (↑(R.x.n + ByteArray.size y) : Int))), AV.hs (1 : Nat) ((0 : Nat) + Int.toNat (R.x.fi + (↑R.x.n : Int) - R.x.fi)) (R.x.n + ByteArray.size y - Int.toNat (R.x.fi + (↑R.x.n : Int) -
    R.x.fi)), AV.v (Value.int IntKind.i64 (-1 : Int)), AV.v (Value.bool false)]), some (Blk.arr (1 : Nat) (R.x.n + ByteArray.size y) fun j => [AV.v (Value.int IntKind.u8 ((Bk.ts R y).g
    j))])])) (Tree.chk (allBytes (R.x.n + ByteArray.size y - Int.toNat (R.x.fi + (↑R.x.n : Int) - R.x.fi)) fun j => [AV.v (Value.int IntKind.u8 ((Bk.ts R y).g ((0 : Nat) + Int.toNat (R.x.fi
    + (↑R.x.n : Int) - R.x.fi) + ((0 : Nat) + j))))]) (Tree.leaf (Ans.mk (AV.sb (decide ((textOf (R.x.n + ByteArray.size y - Int.toNat (R.x.fi + (↑R.x.n : Int) - R.x.fi)) fun j => [AV.v
    (Value.int IntKind.u8 ((Bk.ts R y).g ((0 : Nat) + Int.toNat (R.x.fi + (↑R.x.n : Int) - R.x.fi) + ((0 : Nat) + j))))]) = y))) []))))))))) (Tree.chk (allBytes (ByteArray.size tl) fun j =>
    [AV.v (Value.int IntKind.u8 (sbyte tl ((0 : Nat) + j)))]) (Tree.br (!decide ((textOf (ByteArray.size tl) fun j => [AV.v (Value.int IntKind.u8 (sbyte tl ((0 : Nat) + j)))]) = tl))
    (Tree.leaf (Ans.mk (AV.v (Value.bool false)) [])) (Tree.br false Tree.fail (Tree.br false (Tree.leaf (Ans.mk (AV.v (Value.bool false)) [])) (Tree.chk (cl (LeL [AV.agg [AV.v (Value.int
    IntKind.i64 R.nx), AV.v (Value.int IntKind.i64 (2 : Int)), AV.v (Value.string tl)]] [AV.agg [AV.v (Value.int IntKind.i64 R.nx), AV.v (Value.int IntKind.i64 (2 : Int)), AV.v (Value.string
    tl)]] ∧ LeH [] [])) (Tree.chk (cl (LeL [AV.ptr (0 : Nat) (0 : Nat)] [AV.ptr (0 : Nat) (0 : Nat)] ∧ LeH [some (Blk.row [AV.v (Value.int IntKind.i64 (4194304 : Int)), AV.v (Value.int
    IntKind.i64 (R.x.fi + (↑R.x.n : Int))), AV.v (Value.int IntKind.i64 (R.x.fi + (↑(R.x.n + ByteArray.size y) : Int))), AV.hs (1 : Nat) ((0 : Nat) + Int.toNat (R.x.fi + (↑R.x.n : Int) -
    R.x.fi)) (R.x.n + ByteArray.size y - Int.toNat (R.x.fi + (↑R.x.n : Int) - R.x.fi)), AV.v (Value.int IntKind.i64 (-1 : Int)), AV.v (Value.bool false)]), some (Blk.arr (1 : Nat) (R.x.n +
    ByteArray.size y) fun j => [AV.v (Value.int IntKind.u8 ((Bk.ts R y).g j))])] [some (Blk.row [AV.v (Value.int IntKind.i64 (4194304 : Int)), AV.v (Value.int IntKind.i64 (R.x.fi + (↑R.x.n :
    Int))), AV.v (Value.int IntKind.i64 (R.x.fi + (↑(R.x.n + ByteArray.size y) : Int))), AV.hs (1 : Nat) ((0 : Nat) + Int.toNat (R.x.fi + (↑R.x.n : Int) - R.x.fi)) (R.x.n + ByteArray.size y
    - Int.toNat (R.x.fi + (↑R.x.n : Int) - R.x.fi)), AV.v (Value.int IntKind.i64 (-1 : Int)), AV.v (Value.bool false)]), some (Blk.arr (1 : Nat) (R.x.n + ByteArray.size y) fun j => [AV.v
    (Value.int IntKind.u8 ((Bk.ts R y).g j))])])) (Tree.chk (allBytes (R.x.n + ByteArray.size y - Int.toNat (R.x.fi + (↑R.x.n : Int) - R.x.fi)) fun j => [AV.v (Value.int IntKind.u8 ((Bk.ts R
    y).g ((0 : Nat) + Int.toNat (R.x.fi + (↑R.x.n : Int) - R.x.fi) + ((0 : Nat) + j))))]) (Tree.leaf (Ans.mk (AV.sb (decide ((textOf (R.x.n + ByteArray.size y - Int.toNat (R.x.fi + (↑R.x.n :
    Int) - R.x.fi)) fun j => [AV.v (Value.int IntKind.u8 ((Bk.ts R y).g ((0 : Nat) + Int.toNat (R.x.fi + (↑R.x.n : Int) - R.x.fi) + ((0 : Nat) + j))))]) = y))) []))))))))))))))))))) := by kernel_rfl
theorem lawS0 (l : List Pu) (tl y : ByteArray) (R : Bk) (h : FarOK l false) (h1 : SumOK0 R y (bsF tl)) (h2 : LnOK R.nx 2 tl y) (h3 : RdOK (R.ts y)) : bodyE (P := Try.prog) (Γ := Γb) [z21', CT.at 30 h, CT.at 14 ansQN, CT.at 31 ansOp, n33, CT.at 34 h1, n35, n36, CT.at 26 h2, CT.at 19 h3] (fun _ => LSpec.at lvL nlL (SL l tl b0 0) (OL l tl R)) false 108 [.tmp 4] (bodyOf Try.f6) [slP l, .v (.string tl)] [] =
  Tree.chk (cl (LeL [AV.sl (5 : Nat) (List.length l) (lsF Pu.c l)] [AV.sl (5 : Nat) (List.length l) (lsF Pu.c l)] ∧ LeH [] [])) (Tree.br (decide ((3000 : Int) < (↑(ByteArray.size tl) : Int)))
    (Tree.leaf (Ans.mk (AV.v (Value.bool true)) [])) (Tree.chk (cl (LeL [AV.v (Value.int IntKind.i64 (4194304 : Int))] [AV.v (Value.int IntKind.i64 (4194304 : Int))] ∧ LeH [] [])) (Tree.chk
    (cl (LeL [AV.ptr (0 : Nat) (0 : Nat)] [AV.ptr (0 : Nat) (0 : Nat)] ∧ LeH [some (Blk.row [AV.v (Value.int IntKind.i64 (4194304 : Int)), AV.v (Value.int IntKind.i64 (0 : Int)), AV.v
    (Value.int IntKind.i64 (0 : Int)), AV.v (Value.slice none (0 : Nat) (0 : Nat)), AV.v (Value.int IntKind.i64 (-1 : Int)), AV.v (Value.bool false)])] [some (Blk.row [AV.v (Value.int
    IntKind.i64 (4194304 : Int)), AV.v (Value.int IntKind.i64 (0 : Int)), AV.v (Value.int IntKind.i64 (0 : Int)), AV.v (Value.slice none (0 : Nat) (0 : Nat)), AV.v (Value.int IntKind.i64 (-1
    : Int)), AV.v (Value.bool false)])])) (Tree.br false (Tree.leaf (Ans.mk (AV.v (Value.bool false)) [])) (Tree.chk (cl (LeL [AV.sl (5 : Nat) (List.length l) (lsF Pu.c l), AV.v
    (Value.string tl), AV.ptr (0 : Nat) (0 : Nat), AV.ptr (1 : Nat) (0 : Nat), AV.v (Value.int IntKind.i64 (0 : Int))] [AV.sl (5 : Nat) (List.length l) (lsF Pu.c l), AV.v (Value.string tl),
    AV.ptr (0 : Nat) (0 : Nat), AV.ptr (1 : Nat) (0 : Nat), AV.v (Value.int IntKind.i64 (↑(0 : Nat) : Int))] ∧ LeH [some (Blk.row [AV.ptr (1 : Nat) (0 : Nat), AV.v (Value.int IntKind.i64 (1
    : Int)), AV.v (Value.string (ByteArray.mk #[])), AV.hs (3 : Nat) (0 : Nat) (0 : Nat), AV.v (Value.bool false)]), some (Blk.row [AV.v (Value.int IntKind.i64 (4194304 : Int)), AV.v
    (Value.int IntKind.i64 (0 : Int)), AV.v (Value.int IntKind.i64 (0 : Int)), AV.hs (2 : Nat) (0 : Nat) (0 : Nat), AV.v (Value.int IntKind.i64 (-1 : Int)), AV.v (Value.bool false)]), some
    (Blk.arr (1 : Nat) (0 : Nat) fun x => [AV.v (Value.int IntKind.u8 (0 : Int))]), some (Blk.arr (1 : Nat) (0 : Nat) fun x => [AV.v (Value.string (ByteArray.mk #[]))])] [some (Blk.row
    [AV.ptr (1 : Nat) (0 : Nat), AV.v (Value.int IntKind.i64 (1 : Int)), AV.v (Value.string (ByteArray.mk #[])), AV.hs (3 : Nat) (0 : Nat) (0 : Nat), AV.v (Value.bool false)]), some (Blk.row
    [AV.v (Value.int IntKind.i64 (4194304 : Int)), AV.v (Value.int IntKind.i64 (0 : Int)), AV.v (Value.int IntKind.i64 (0 : Int)), AV.hs (2 : Nat) (0 : Nat) (0 : Nat), AV.v (Value.int
    IntKind.i64 (-1 : Int)), AV.v (Value.bool false)]), some (Blk.arr (1 : Nat) (0 : Nat) fun j => [AV.v (Value.int IntKind.u8 ((Tq.mk (0 : Int) (0 : Int) (0 : Nat) (0 : Nat) (0 : Nat) fun x
    => (0 : Int)).g j))]), some (Blk.arr (1 : Nat) (0 : Nat) (lsF Sx.c b0.rs))])) (Tree.br (Nat.beq (ByteArray.size tl) (0 : Nat)) (Tree.chk (cl (LeL [AV.ptr (0 : Nat) (0 : Nat), AV.sl (1 :
    Nat) (0 : Nat) fun j => [AV.v (Value.int IntKind.u8 (sbyte tl j))]] [AV.ptr (0 : Nat) (0 : Nat), AV.sl (1 : Nat) (0 : Nat) (bsF tl)] ∧ LeH [some (Blk.row [AV.ptr (1 : Nat) (0 : Nat),
    AV.v (Value.int IntKind.i64 R.nx), AV.v (Value.string R.sm), AV.hs (3 : Nat) (0 : Nat) (List.length R.rs), AV.v (Value.bool false)]), some (Blk.row [AV.v (Value.int IntKind.i64 (4194304
    : Int)), AV.v (Value.int IntKind.i64 R.x.fi), AV.v (Value.int IntKind.i64 R.x.fa), AV.hs (2 : Nat) R.x.o R.x.n, AV.v (Value.int IntKind.i64 (-1 : Int)), AV.v (Value.bool false)]), some
    (Blk.arr (1 : Nat) R.x.N fun j => [AV.v (Value.int IntKind.u8 (R.x.g j))]), some (Blk.arr (1 : Nat) (List.length R.rs) (lsF Sx.c R.rs))] [some (Blk.row [AV.ptr (1 : Nat) (0 : Nat), AV.v
    (Value.int IntKind.i64 R.nx), AV.v (Value.string R.sm), AV.hs (3 : Nat) (0 : Nat) (List.length R.rs), AV.v (Value.bool false)]), some (Blk.row [AV.v (Value.int IntKind.i64 (4194304 :
    Int)), AV.v (Value.int IntKind.i64 R.x.fi), AV.v (Value.int IntKind.i64 R.x.fa), AV.hs (2 : Nat) R.x.o R.x.n, AV.v (Value.int IntKind.i64 (-1 : Int)), AV.v (Value.bool false)]), some
    (Blk.arr (1 : Nat) R.x.N fun j => [AV.v (Value.int IntKind.u8 (R.x.g j))]), some (Blk.arr (1 : Nat) (List.length R.rs) (lsF Sx.c R.rs))])) (Tree.br false (Tree.leaf (Ans.mk (AV.v
    (Value.bool false)) [])) (Tree.br (!decide (R.nx + (1 : Int) = IntKind.wrap IntKind.i64 (R.nx + (1 : Int)))) (Tree.leaf (Ans.mk (AV.v (Value.bool false)) [])) (Tree.br true (Tree.chk
    true (Tree.br (!decide ((textOf (0 : Nat) fun j => [AV.v (Value.int IntKind.u8 (sbyte (ByteArray.mk #[]) j))]) = tl)) (Tree.leaf (Ans.mk (AV.v (Value.bool false)) [])) (Tree.br false
    Tree.fail (Tree.br false (Tree.leaf (Ans.mk (AV.v (Value.bool false)) [])) (Tree.chk (cl (LeL [AV.agg [AV.v (Value.int IntKind.i64 R.nx), AV.v (Value.int IntKind.i64 (2 : Int)), AV.v
    (Value.string tl)]] [AV.agg [AV.v (Value.int IntKind.i64 R.nx), AV.v (Value.int IntKind.i64 (2 : Int)), AV.v (Value.string tl)]] ∧ LeH [] [])) (Tree.chk (cl (LeL [AV.ptr (0 : Nat) (0 :
    Nat)] [AV.ptr (0 : Nat) (0 : Nat)] ∧ LeH [some (Blk.row [AV.v (Value.int IntKind.i64 (4194304 : Int)), AV.v (Value.int IntKind.i64 (R.x.fi + (↑R.x.n : Int))), AV.v (Value.int IntKind.i64
    (R.x.fi + (↑(R.x.n + ByteArray.size y) : Int))), AV.hs (1 : Nat) ((0 : Nat) + Int.toNat (R.x.fi + (↑R.x.n : Int) - R.x.fi)) (R.x.n + ByteArray.size y - Int.toNat (R.x.fi + (↑R.x.n : Int)
    - R.x.fi)), AV.v (Value.int IntKind.i64 (-1 : Int)), AV.v (Value.bool false)]), some (Blk.arr (1 : Nat) (R.x.n + ByteArray.size y) fun j => [AV.v (Value.int IntKind.u8 ((Bk.ts R y).g
    j))])] [some (Blk.row [AV.v (Value.int IntKind.i64 (4194304 : Int)), AV.v (Value.int IntKind.i64 (R.x.fi + (↑R.x.n : Int))), AV.v (Value.int IntKind.i64 (R.x.fi + (↑(R.x.n +
    ByteArray.size y) : Int))), AV.hs (1 : Nat) ((0 : Nat) + Int.toNat (R.x.fi + (↑R.x.n : Int) - R.x.fi)) (R.x.n + ByteArray.size y - Int.toNat (R.x.fi + (↑R.x.n : Int) - R.x.fi)), AV.v
    (Value.int IntKind.i64 (-1 : Int)), AV.v (Value.bool false)]), some (Blk.arr (1 : Nat) (R.x.n + ByteArray.size y) fun j => [AV.v (Value.int IntKind.u8 ((Bk.ts R y).g j))])])) (Tree.chk
    (allBytes (R.x.n + ByteArray.size y - Int.toNat (R.x.fi + (↑R.x.n : Int) - R.x.fi)) fun j => [AV.v (Value.int IntKind.u8 ((Bk.ts R y).g ((0 : Nat) + Int.toNat (R.x.fi + (↑R.x.n : Int) -
    R.x.fi) + ((0 : Nat) + j))))]) (Tree.leaf (Ans.mk (AV.sb (decide ((textOf (R.x.n + ByteArray.size y - Int.toNat (R.x.fi + (↑R.x.n : Int) - R.x.fi)) fun j => [AV.v (Value.int IntKind.u8
    ((Bk.ts R y).g ((0 : Nat) + Int.toNat (R.x.fi + (↑R.x.n : Int) - R.x.fi) + ((0 : Nat) + j))))]) = y))) []))))))))) (Tree.chk true (Tree.br (!decide ((textOf (0 : Nat) fun j => [AV.v
    (Value.int IntKind.u8 (sbyte (ByteArray.mk #[]) ((0 : Nat) + j)))]) = tl)) (Tree.leaf (Ans.mk (AV.v (Value.bool false)) [])) (Tree.br false Tree.fail (Tree.br false (Tree.leaf (Ans.mk
    (AV.v (Value.bool false)) [])) (Tree.chk (cl (LeL [AV.agg [AV.v (Value.int IntKind.i64 R.nx), AV.v (Value.int IntKind.i64 (2 : Int)), AV.v (Value.string tl)]] [AV.agg [AV.v (Value.int
    IntKind.i64 R.nx), AV.v (Value.int IntKind.i64 (2 : Int)), AV.v (Value.string tl)]] ∧ LeH [] [])) (Tree.chk (cl (LeL [AV.ptr (0 : Nat) (0 : Nat)] [AV.ptr (0 : Nat) (0 : Nat)] ∧ LeH [some
    (Blk.row [AV.v (Value.int IntKind.i64 (4194304 : Int)), AV.v (Value.int IntKind.i64 (R.x.fi + (↑R.x.n : Int))), AV.v (Value.int IntKind.i64 (R.x.fi + (↑(R.x.n + ByteArray.size y) :
    Int))), AV.hs (1 : Nat) ((0 : Nat) + Int.toNat (R.x.fi + (↑R.x.n : Int) - R.x.fi)) (R.x.n + ByteArray.size y - Int.toNat (R.x.fi + (↑R.x.n : Int) - R.x.fi)), AV.v (Value.int IntKind.i64
    (-1 : Int)), AV.v (Value.bool false)]), some (Blk.arr (1 : Nat) (R.x.n + ByteArray.size y) fun j => [AV.v (Value.int IntKind.u8 ((Bk.ts R y).g j))])] [some (Blk.row [AV.v (Value.int
    IntKind.i64 (4194304 : Int)), AV.v (Value.int IntKind.i64 (R.x.fi + (↑R.x.n : Int))), AV.v (Value.int IntKind.i64 (R.x.fi + (↑(R.x.n + ByteArray.size y) : Int))), AV.hs (1 : Nat) ((0 :
    Nat) + Int.toNat (R.x.fi + (↑R.x.n : Int) - R.x.fi)) (R.x.n + ByteArray.size y - Int.toNat (R.x.fi + (↑R.x.n : Int) - R.x.fi)), AV.v (Value.int IntKind.i64 (-1 : Int)), AV.v (Value.bool
    false)]), some (Blk.arr (1 : Nat) (R.x.n + ByteArray.size y) fun j => [AV.v (Value.int IntKind.u8 ((Bk.ts R y).g j))])])) (Tree.chk (allBytes (R.x.n + ByteArray.size y - Int.toNat
    (R.x.fi + (↑R.x.n : Int) - R.x.fi)) fun j => [AV.v (Value.int IntKind.u8 ((Bk.ts R y).g ((0 : Nat) + Int.toNat (R.x.fi + (↑R.x.n : Int) - R.x.fi) + ((0 : Nat) + j))))]) (Tree.leaf
    (Ans.mk (AV.sb (decide ((textOf (R.x.n + ByteArray.size y - Int.toNat (R.x.fi + (↑R.x.n : Int) - R.x.fi)) fun j => [AV.v (Value.int IntKind.u8 ((Bk.ts R y).g ((0 : Nat) + Int.toNat
    (R.x.fi + (↑R.x.n : Int) - R.x.fi) + ((0 : Nat) + j))))]) = y))) []))))))))))))) (Tree.chk (cl (LeL [AV.ptr (0 : Nat) (0 : Nat), AV.hs (4 : Nat) (0 : Nat) (ByteArray.size tl)] [AV.ptr (0
    : Nat) (0 : Nat), AV.sl (1 : Nat) (0 : Nat) (bsF tl)] ∧ LeH [some (Blk.row [AV.ptr (1 : Nat) (0 : Nat), AV.v (Value.int IntKind.i64 R.nx), AV.v (Value.string R.sm), AV.hs (3 : Nat) (0 :
    Nat) (List.length R.rs), AV.v (Value.bool false)]), some (Blk.row [AV.v (Value.int IntKind.i64 (4194304 : Int)), AV.v (Value.int IntKind.i64 R.x.fi), AV.v (Value.int IntKind.i64 R.x.fa),
    AV.hs (2 : Nat) R.x.o R.x.n, AV.v (Value.int IntKind.i64 (-1 : Int)), AV.v (Value.bool false)]), some (Blk.arr (1 : Nat) R.x.N fun j => [AV.v (Value.int IntKind.u8 (R.x.g j))]), some
    (Blk.arr (1 : Nat) (List.length R.rs) (lsF Sx.c R.rs)), some (Blk.arr (1 : Nat) (ByteArray.size tl) fun j => [AV.v (Value.int IntKind.u8 (sbyte tl j))])] [some (Blk.row [AV.ptr (1 : Nat)
    (0 : Nat), AV.v (Value.int IntKind.i64 R.nx), AV.v (Value.string R.sm), AV.hs (3 : Nat) (0 : Nat) (List.length R.rs), AV.v (Value.bool false)]), some (Blk.row [AV.v (Value.int
    IntKind.i64 (4194304 : Int)), AV.v (Value.int IntKind.i64 R.x.fi), AV.v (Value.int IntKind.i64 R.x.fa), AV.hs (2 : Nat) R.x.o R.x.n, AV.v (Value.int IntKind.i64 (-1 : Int)), AV.v
    (Value.bool false)]), some (Blk.arr (1 : Nat) R.x.N fun j => [AV.v (Value.int IntKind.u8 (R.x.g j))]), some (Blk.arr (1 : Nat) (List.length R.rs) (lsF Sx.c R.rs))])) (Tree.br false
    (Tree.leaf (Ans.mk (AV.v (Value.bool false)) [])) (Tree.br (!decide (R.nx + (1 : Int) = IntKind.wrap IntKind.i64 (R.nx + (1 : Int)))) (Tree.leaf (Ans.mk (AV.v (Value.bool false)) []))
    (Tree.br true (Tree.chk true (Tree.br (!decide ((textOf (0 : Nat) fun j => [AV.v (Value.int IntKind.u8 (sbyte (ByteArray.mk #[]) j))]) = tl)) (Tree.leaf (Ans.mk (AV.v (Value.bool false))
    [])) (Tree.br false Tree.fail (Tree.br false (Tree.leaf (Ans.mk (AV.v (Value.bool false)) [])) (Tree.chk (cl (LeL [AV.agg [AV.v (Value.int IntKind.i64 R.nx), AV.v (Value.int IntKind.i64
    (2 : Int)), AV.v (Value.string tl)]] [AV.agg [AV.v (Value.int IntKind.i64 R.nx), AV.v (Value.int IntKind.i64 (2 : Int)), AV.v (Value.string tl)]] ∧ LeH [] [])) (Tree.chk (cl (LeL [AV.ptr
    (0 : Nat) (0 : Nat)] [AV.ptr (0 : Nat) (0 : Nat)] ∧ LeH [some (Blk.row [AV.v (Value.int IntKind.i64 (4194304 : Int)), AV.v (Value.int IntKind.i64 (R.x.fi + (↑R.x.n : Int))), AV.v
    (Value.int IntKind.i64 (R.x.fi + (↑(R.x.n + ByteArray.size y) : Int))), AV.hs (1 : Nat) ((0 : Nat) + Int.toNat (R.x.fi + (↑R.x.n : Int) - R.x.fi)) (R.x.n + ByteArray.size y - Int.toNat
    (R.x.fi + (↑R.x.n : Int) - R.x.fi)), AV.v (Value.int IntKind.i64 (-1 : Int)), AV.v (Value.bool false)]), some (Blk.arr (1 : Nat) (ByteArray.size tl) fun j => [AV.v (Value.int IntKind.u8
    (sbyte tl j))])] [some (Blk.row [AV.v (Value.int IntKind.i64 (4194304 : Int)), AV.v (Value.int IntKind.i64 (R.x.fi + (↑R.x.n : Int))), AV.v (Value.int IntKind.i64 (R.x.fi + (↑(R.x.n +
    ByteArray.size y) : Int))), AV.hs (1 : Nat) ((0 : Nat) + Int.toNat (R.x.fi + (↑R.x.n : Int) - R.x.fi)) (R.x.n + ByteArray.size y - Int.toNat (R.x.fi + (↑R.x.n : Int) - R.x.fi)), AV.v
    (Value.int IntKind.i64 (-1 : Int)), AV.v (Value.bool false)]), some (Blk.arr (1 : Nat) (R.x.n + ByteArray.size y) fun j => [AV.v (Value.int IntKind.u8 ((Bk.ts R y).g j))])])) (Tree.chk
    (allBytes (R.x.n + ByteArray.size y - Int.toNat (R.x.fi + (↑R.x.n : Int) - R.x.fi)) fun j => [AV.v (Value.int IntKind.u8 ((Bk.ts R y).g ((0 : Nat) + Int.toNat (R.x.fi + (↑R.x.n : Int) -
    R.x.fi) + ((0 : Nat) + j))))]) (Tree.leaf (Ans.mk (AV.sb (decide ((textOf (R.x.n + ByteArray.size y - Int.toNat (R.x.fi + (↑R.x.n : Int) - R.x.fi)) fun j => [AV.v (Value.int IntKind.u8
    ((Bk.ts R y).g ((0 : Nat) + Int.toNat (R.x.fi + (↑R.x.n : Int) - R.x.fi) + ((0 : Nat) + j))))]) = y))) []))))))))) (Tree.chk true (Tree.br (!decide ((textOf (0 : Nat) fun j => [AV.v
    (Value.int IntKind.u8 (sbyte (ByteArray.mk #[]) ((0 : Nat) + j)))]) = tl)) (Tree.leaf (Ans.mk (AV.v (Value.bool false)) [])) (Tree.br false Tree.fail (Tree.br false (Tree.leaf (Ans.mk
    (AV.v (Value.bool false)) [])) (Tree.chk (cl (LeL [AV.agg [AV.v (Value.int IntKind.i64 R.nx), AV.v (Value.int IntKind.i64 (2 : Int)), AV.v (Value.string tl)]] [AV.agg [AV.v (Value.int
    IntKind.i64 R.nx), AV.v (Value.int IntKind.i64 (2 : Int)), AV.v (Value.string tl)]] ∧ LeH [] [])) (Tree.chk (cl (LeL [AV.ptr (0 : Nat) (0 : Nat)] [AV.ptr (0 : Nat) (0 : Nat)] ∧ LeH [some
    (Blk.row [AV.v (Value.int IntKind.i64 (4194304 : Int)), AV.v (Value.int IntKind.i64 (R.x.fi + (↑R.x.n : Int))), AV.v (Value.int IntKind.i64 (R.x.fi + (↑(R.x.n + ByteArray.size y) :
    Int))), AV.hs (1 : Nat) ((0 : Nat) + Int.toNat (R.x.fi + (↑R.x.n : Int) - R.x.fi)) (R.x.n + ByteArray.size y - Int.toNat (R.x.fi + (↑R.x.n : Int) - R.x.fi)), AV.v (Value.int IntKind.i64
    (-1 : Int)), AV.v (Value.bool false)]), some (Blk.arr (1 : Nat) (ByteArray.size tl) fun j => [AV.v (Value.int IntKind.u8 (sbyte tl j))])] [some (Blk.row [AV.v (Value.int IntKind.i64
    (4194304 : Int)), AV.v (Value.int IntKind.i64 (R.x.fi + (↑R.x.n : Int))), AV.v (Value.int IntKind.i64 (R.x.fi + (↑(R.x.n + ByteArray.size y) : Int))), AV.hs (1 : Nat) ((0 : Nat) +
    Int.toNat (R.x.fi + (↑R.x.n : Int) - R.x.fi)) (R.x.n + ByteArray.size y - Int.toNat (R.x.fi + (↑R.x.n : Int) - R.x.fi)), AV.v (Value.int IntKind.i64 (-1 : Int)), AV.v (Value.bool
    false)]), some (Blk.arr (1 : Nat) (R.x.n + ByteArray.size y) fun j => [AV.v (Value.int IntKind.u8 ((Bk.ts R y).g j))])])) (Tree.chk (allBytes (R.x.n + ByteArray.size y - Int.toNat
    (R.x.fi + (↑R.x.n : Int) - R.x.fi)) fun j => [AV.v (Value.int IntKind.u8 ((Bk.ts R y).g ((0 : Nat) + Int.toNat (R.x.fi + (↑R.x.n : Int) - R.x.fi) + ((0 : Nat) + j))))]) (Tree.leaf
    (Ans.mk (AV.sb (decide ((textOf (R.x.n + ByteArray.size y - Int.toNat (R.x.fi + (↑R.x.n : Int) - R.x.fi)) fun j => [AV.v (Value.int IntKind.u8 ((Bk.ts R y).g ((0 : Nat) + Int.toNat
    (R.x.fi + (↑R.x.n : Int) - R.x.fi) + ((0 : Nat) + j))))]) = y))) []))))))))))))))))))) := by kernel_rfl
end Go.Eng.SB.B

namespace Go.Eng.SB.B
open Go Go.Eng Go.Eng.SB Go.Eng.SB.T Go.Lib Go.Proofs
noncomputable def stepB (b : Bk) (p : Pu) : Bk := if p.k = 1 then ⟨b.ts (lineB ⟨b.nx, 2, p.nm⟩), b.nx + 1, p.nm, []⟩ else b.add p.nm (lineB ⟨b.nx, 1, p.nm⟩)
theorem putIn {b : Bk} {m : Nat} (h : b.ok m) (hm : m ≤ 100) {k : Int} (hk : k = 1 ∨ k = 2) {s : ByteArray} (hs : s.size ≤ 3000) : PutIn b k s (lineB ⟨b.nx, k, s⟩) := by
  obtain ⟨h1, h2, h3, h4⟩ := h
  have hw : (⟨b.nx, k, s⟩ : En).w1 := ⟨by show ¬ b.nx < 1; omega, by show ¬ _ < b.nx; omega, hk⟩
  have hw2 : (⟨b.nx, k, s⟩ : En).w2 := by show s.size ≤ _; omega
  have hl : lnR ⟨b.nx, k, s⟩ = ⟨lineB ⟨b.nx, k, s⟩, 0⟩ := by unfold lnR; rw [if_pos hw, if_pos hw2]
  have ha := ansLn ⟨b.nx, k, s⟩
  rw [hl] at ha
  have hz := cat_small hw
  have hi : (inB ⟨b.nx, k, s⟩).size ≤ 18 + s.size := by
    unfold inB
    rw [ByteArray.size_append]
    show _ + s.size ≤ _
    omega
  have hd := dressB_size (inB ⟨b.nx, k, s⟩)
  have hy : (lineB ⟨b.nx, k, s⟩).size = (dressB (inB ⟨b.nx, k, s⟩)).size + 1 := by unfold lineB; rw [ByteArray.size_append]; rfl
  exact ⟨ha, by omega, by omega⟩
theorem step_ok {b : Bk} {m : Nat} (h : b.ok m) (hm : m ≤ 100) {p : Pu} (hs : p.nm.size ≤ 3000) : (stepB b p).ok (m + 1) := by
  have q1 := putIn h hm (.inl rfl) hs
  have q2 := putIn h hm (.inr rfl) hs
  obtain ⟨h1, h2, h3, h4⟩ := h
  unfold stepB
  split
  · have y1 := q2.y1
    generalize lineB ⟨b.nx, 2, p.nm⟩ = y at *
    refine ⟨?_, ?_, ?_, Nat.zero_le _⟩
    · show 0 ≤ b.x.fi + (b.x.n : Int); omega
    · show b.x.fi + (b.x.n : Int) + ((b.x.n + y.size - (b.x.fi + (b.x.n : Int) - b.x.fi).toNat : Nat) : Int) ≤ _
      omega
    · show b.nx + 1 = _; omega
  · have y1 := q1.y1
    generalize lineB ⟨b.nx, 1, p.nm⟩ = y at *
    refine ⟨h1, ?_, ?_, ?_⟩
    · show b.x.fi + ((b.x.n + y.size : Nat) : Int) ≤ _
      omega
    · show b.nx + 1 = _; omega
    · show (b.rs ++ [_]).length ≤ _
      rw [List.length_append]
      show b.rs.length + 1 ≤ _
      omega
theorem rL3 (l : List Pu) (tl : ByteArray) (b : Bk) (i : Nat) : roundE (P := Try.prog) (Γ := Γb) [] Lno false 0 0 lpL lvL nlL 108 (SL l tl b i).1 (SL l tl b i).2 =
  Tree.br (decide ((↑i : Int) < (↑(List.length l) : Int))) (Tree.chk (decide ((0 : Int) ≤ (↑i : Int)) && decide ((↑i : Int) < (↑(List.length l) : Int))) Tree.fail) (Tree.leaf (Out.mk (AEx.exit
    (0 : Nat)) [AV.sl (5 : Nat) (List.length l) (lsF Pu.c l), AV.v (Value.string tl), AV.ptr (0 : Nat) (0 : Nat), AV.ptr (1 : Nat) (0 : Nat), AV.v (Value.int IntKind.i64 (↑i : Int))] [some
    (Blk.row [AV.ptr (1 : Nat) (0 : Nat), AV.v (Value.int IntKind.i64 b.nx), AV.v (Value.string b.sm), AV.hs (3 : Nat) (0 : Nat) (List.length b.rs), AV.v (Value.bool false)]), some (Blk.row
    [AV.v (Value.int IntKind.i64 (4194304 : Int)), AV.v (Value.int IntKind.i64 b.x.fi), AV.v (Value.int IntKind.i64 b.x.fa), AV.hs (2 : Nat) b.x.o b.x.n, AV.v (Value.int IntKind.i64 (-1 :
    Int)), AV.v (Value.bool false)]), some (Blk.arr (1 : Nat) b.x.N fun j => [AV.v (Value.int IntKind.u8 (b.x.g j))]), some (Blk.arr (1 : Nat) (List.length b.rs) (lsF Sx.c b.rs))])) := by kernel_rfl
def preL (l : List Pu) (R : Bk) (x : Bk × Nat) : Prop := x.1.ok x.2 ∧ x.2 ≤ l.length ∧ (l.drop x.2).foldl stepB x.1 = R
theorem loopL {l : List Pu} {tl : ByteArray} {R : Bk} (hl : l.length ≤ 80) (hp : ∀ i, i < l.length → (l.getD i default).nm.size ≤ 3000) : ∀ x : Bk × Nat, preL l R x → LoopOK Try.prog Γb 0 108 lpL (LSpec.at lvL nlL (SL l tl x.1 x.2) (OL l tl R)) := by
  refine loop_at (S := fun x : Bk × Nat => SL l tl x.1 x.2) (pre := preL l R) (O := fun _ => OL l tl R) (k := 0) (fun x => l.length - x.2) fun x hx => ?_
  obtain ⟨b, i⟩ := x
  obtain ⟨hb, hi, hR⟩ := hx
  simp only at hb hi hR ⊢
  rcases Nat.lt_or_ge i l.length with h | h
  · have q1 := putIn hb (by omega) (.inl rfl) (hp i h)
    have q2 := putIn hb (by omega) (.inr rfl) (hp i h)
    have hs := puts_ok (p := l.getD i default) hb (by omega) q2 q1
    have ho := step_ok hb (by omega) (hp i h)
    have e1 : IntKind.i64.wrap ((i : Int) + 1) = ((i + 1 : Nat) : Int) := wrapUpN (by omega)
    have e2 : IntKind.i64.wrap ((i : Int) + (2 : Int)) = b.nx + 1 := by rw [w64 (by omega) (by omega), hb.2.2.1]; omega
    have hd : (l.drop (i + 1)).foldl stepB (stepB b (l.getD i default)) = R := by
      rw [List.drop_eq_getElem_cons h, List.foldl_cons] at hR
      rw [getD_get h]
      exact hR
    have ei : (decide ((0 : Int) ≤ (i : Int)) && decide ((i : Int) < (l.length : Int))) = true := inS1 h
    unfold PutsOK at hs
    by_cases hk : (l.getD i default).k = 1
    · rw [if_pos hk, if_pos hk] at hs
      have hst : stepB b (l.getD i default) = ⟨b.ts (lineB ⟨b.nx, 2, (l.getD i default).nm⟩), b.nx + 1, (l.getD i default).nm, []⟩ := by unfold stepB; rw [if_pos hk]
      rw [hst] at ho hd
      generalize lineB ⟨b.nx, 2, (l.getD i default).nm⟩ = y at *
      refine .of (L := Lno) (failOK fun _ _ _ => rfl) (rL1 l tl b i y y hs) ?_
      simp only [Int.toNat_natCast, e1, e2]
      refine wT (decide_eq_true (by omega)) (wC ei (wC (cl_iff.2 ⟨LeL.refl _, LeH.refl _⟩) (wN rfl (wN (by simp) ⟨(⟨b.ts y, b.nx + 1, (l.getD i default).nm, []⟩, i + 1), LeL.refl _, ?_, ⟨ho, h, hd⟩, rfl, by show l.length - (i + 1) < l.length - i; omega⟩))))
      refine ⟨.refl _, .refl _, .refl _, ?_, trivial⟩
      exact .arr rfl (fun j hj => absurd hj (Nat.not_lt_zero j)) (fun j => rfl)
    · rw [if_neg hk, if_neg hk] at hs
      have hst : stepB b (l.getD i default) = b.add (l.getD i default).nm (lineB ⟨b.nx, 1, (l.getD i default).nm⟩) := by unfold stepB; rw [if_neg hk]
      rw [hst] at ho hd
      generalize lineB ⟨b.nx, 1, (l.getD i default).nm⟩ = y at *
      refine .of (L := Lno) (failOK fun _ _ _ => rfl) (rL2 l tl b i y y hs) ?_
      simp only [Int.toNat_natCast, e1, e2]
      refine wT (decide_eq_true (by omega)) (wC ei (wC (cl_iff.2 ⟨LeL.refl _, LeH.refl _⟩) (wN rfl (wN (by simp) ⟨(b.add (l.getD i default).nm y, i + 1), LeL.refl _, LeH.refl _, ⟨ho, h, hd⟩, rfl, by show l.length - (i + 1) < l.length - i; omega⟩))))
  · rw [List.drop_eq_nil_of_le h] at hR
    have hR : b = R := hR
    subst hR
    refine .of (L := Lno) (failOK fun _ _ _ => rfl) (rL3 l tl b i) ?_
    exact wN (decide_eq_false (by omega)) ⟨rfl, ⟨.any _, .refl _, .refl _, .refl _, .any _, trivial⟩, LeH.refl _⟩
end Go.Eng.SB.B

namespace Go.Eng.SB.B
open Go Go.Eng Go.Eng.SB Go.Eng.SB.T Go.Lib Go.Proofs
theorem fold_ok : ∀ (l : List Pu) (b : Bk) (m : Nat), b.ok m → m + l.length ≤ 100 → (∀ p ∈ l, p.nm.size ≤ 3000) → (l.foldl stepB b).ok (m + l.length)
  | [], b, m, h, _, _ => h
  | p :: l, b, m, h, hm, hp => by
    rw [List.length_cons] at hm
    have := fold_ok l (stepB b p) (m + 1) (step_ok h (by omega) (hp p (List.mem_cons_self ..))) (by omega) (fun q hq => hp q (List.mem_cons_of_mem _ hq))
    rw [List.foldl_cons, List.length_cons, show m + (l.length + 1) = m + 1 + l.length by omega]
    exact this
theorem far_no {l : List Pu} (h : farP l = false) : l.length ≤ 80 ∧ ∀ p ∈ l, p.nm.size ≤ 3000 := by
  unfold farP at h
  obtain ⟨h1, h2⟩ := Bool.or_eq_false_iff.1 h
  refine ⟨by have := of_decide_eq_false h1; omega, fun p hp => ?_⟩
  have := List.any_eq_false.1 h2 p hp
  unfold bigP at this
  simp only [Bool.or_eq_true, decide_eq_true_eq, not_or] at this
  omega
theorem z0 {f g : Nat → List AV} (hl : ∀ e, (g e).length = 1) : OLe (some (.arr 1 0 f)) (some (.arr 1 0 g)) := .some (.arr (fun e he => absurd he (Nat.not_lt_zero e)) hl)
theorem lawRS_ok (l : List Pu) (tl : ByteArray) : LawOK Try.prog Γb 108 [.tmp 4] (bodyOf Try.f6) [slP l, .v (.string tl)] := by
  cases hf : farP l with
  | true =>
    have h : FarOK l true := by have := ansF (l := l); rwa [hf] at this
    refine .mk' (T := [z21', CT.at 30 h]) (ip := false) (L := Lno) (failOK fun _ _ _ => rfl) (Right.of (lawSf l tl h) ?_)
    exact wC (cl_iff.2 ⟨LeL.refl _, trivial⟩) ⟨.refl _, trivial⟩
  | false =>
    have h : FarOK l false := by have := ansF (l := l); rwa [hf] at this
    obtain ⟨h80, hnm⟩ := far_no hf
    by_cases ht : 3000 < tl.size
    · refine .mk' (T := [z21', CT.at 30 h]) (ip := false) (L := Lno) (failOK fun _ _ _ => rfl) (Right.of (lawSl l tl h) ?_)
      exact wC (cl_iff.2 ⟨LeL.refl _, trivial⟩) (wT (decide_eq_true (by omega)) ⟨.refl _, trivial⟩)
    · have hb0 : b0.ok 0 := ⟨Int.le_refl 0, Int.le_refl 0, rfl, Nat.le_refl 0⟩
      have hR := fold_ok l b0 0 hb0 (by omega) hnm
      have hlp := loopL (l := l) (tl := tl) (R := l.foldl stepB b0) h80 (fun i hi => by rw [getD_get hi]; exact hnm _ (List.getElem_mem hi)) (b0, 0) ⟨hb0, Nat.zero_le _, rfl⟩
      generalize l.foldl stepB b0 = R at *
      rw [Nat.zero_add] at hR
      have hp := putIn hR (by omega) (.inr rfl) (s := tl) (by omega)
      generalize lineB ⟨R.nx, 2, tl⟩ = y at *
      obtain ⟨r1, r2, r3, r4⟩ := id hR
      have y1 := hp.y1
      have eo : (R.x.fi + (R.x.n : Int) - R.x.fi).toNat = R.x.n := by omega
      have en : R.x.n + y.size - R.x.n = y.size := by omega
      have h3 : RdOK (R.ts y) := ansQRd (by show R.x.n + y.size - (R.x.fi + (R.x.n : Int) - R.x.fi).toNat ≤ _; omega)
      have w : IntKind.i64.wrap (R.nx + (1 : Int)) = R.nx + 1 := w64 (by omega) (by omega)
      have hfun : (fun j => [AV.v (Value.int IntKind.u8 ((R.ts y).g (0 + R.x.n + (0 + j))))]) = fun j => [AV.v (Value.int IntKind.u8 (sbyte y j))] := by
        funext j
        show [AV.v (Value.int IntKind.u8 (if 0 + R.x.n + (0 + j) < R.x.n then R.x.g (R.x.o + (0 + R.x.n + (0 + j))) else sbyte y (0 + R.x.n + (0 + j) - R.x.n)))] = _
        rw [if_neg (by omega), show 0 + R.x.n + (0 + j) - R.x.n = j by omega]
      have hst : ∀ f : Nat → List AV, LeH [some (.row [.ptr 1 0, .v (.int .i64 1), .v (.string ⟨#[]⟩), .hs 3 0 0, .v (.bool false)]), some (.row [.v (.int .i64 4194304), .v (.int .i64 0), .v (.int .i64 0), .hs 2 0 0, .v (.int .i64 (-1)), .v (.bool false)]), some (.arr 1 0 f), some (.arr 1 0 f)] (b0.bl.map some) := fun f => ⟨.refl _, .refl _, z0 fun _ => rfl, z0 fun _ => rfl, trivial⟩
      have hst2 : ∀ f g : Nat → List AV, LeH [some (.row [.ptr 1 0, .v (.int .i64 1), .v (.string ⟨#[]⟩), .hs 3 0 0, .v (.bool false)]), some (.row [.v (.int .i64 4194304), .v (.int .i64 0), .v (.int .i64 0), .hs 2 0 0, .v (.int .i64 (-1)), .v (.bool false)]), some (.arr 1 0 f), some (.arr 1 0 g)] (b0.bl.map some) := fun f g => ⟨.refl _, .refl _, z0 fun _ => rfl, z0 fun _ => rfl, trivial⟩
      have ha := allBytes_bsF y.size y
      have ht2 := textOf_bsF y
      by_cases hz : tl.size = 0
      · have hne : tl = ⟨#[]⟩ := ByteArray.ext (Array.eq_empty_of_size_eq_zero hz)
        have hb : Nat.beq tl.size 0 = true := by rw [hz]; rfl
        have h1 : SumOK0 R y (bsF tl) := sum_ok0 hR (by omega) (by rw [← hne]; exact hp)
        refine .mk' (T := [z21', CT.at 30 h, CT.at 14 ansQN, CT.at 31 ansOp, n33, CT.at 34 h1, n35, n36, CT.at 26 hp.ln, CT.at 19 h3]) (ip := false) (L := fun _ => LSpec.at lvL nlL (SL l tl b0 0) (OL l tl R)) (oneLoop (b := lpL) (by kernel_rfl) hlp) (Right.of (lawS0 l tl y R h h1 hp.ln h3) ?_)
        simp only [eo, en, hfun, w, hb]
        refine wC (cl_iff.2 ⟨LeL.refl _, trivial⟩) (wN (decide_eq_false (by omega)) (wC (cl_iff.2 ⟨LeL.refl _, trivial⟩) (wC (cl_iff.2 ⟨LeL.refl _, LeH.refl _⟩) (wN rfl (wC (cl_iff.2 ⟨LeL.refl _, hst2 _ _⟩) (wT rfl (wC (cl_iff.2 ⟨LeL.refl _, LeH.refl _⟩) (wN rfl (wN (by simp) (wT rfl (wC rfl (wN ?_ (wN rfl (wN rfl (wC (cl_iff.2 ⟨LeL.refl _, trivial⟩) (wC (cl_iff.2 ⟨LeL.refl _, LeH.refl _⟩) (wC ha ⟨?_, trivial⟩)))))))))))))))))
        · rw [hne]; rfl
        · show AV.le (.sb (decide (textOf y.size (bsF y) = y))) _
          rw [decide_eq_true ht2]; exact .sb true
      · have hb : Nat.beq tl.size 0 = false := by
          cases hb : Nat.beq tl.size 0 with
          | false => rfl
          | true => exact absurd (Nat.eq_of_beq_eq_true hb) hz
        have h1 := sum_ok hR (by omega) hp
        refine .mk' (T := [z21', CT.at 30 h, CT.at 14 ansQN, CT.at 31 ansOp, n33, CT.at 34 h1, n35, n36, CT.at 26 hp.ln, CT.at 19 h3]) (ip := false) (L := fun _ => LSpec.at lvL nlL (SL l tl b0 0) (OL l tl R)) (oneLoop (b := lpL) (by kernel_rfl) hlp) (Right.of (lawS1 l tl y R h h1 hp.ln h3) ?_)
        simp only [eo, en, hfun, w, hb, text0, all0]
        refine wC (cl_iff.2 ⟨LeL.refl _, trivial⟩) (wN (decide_eq_false (by omega)) (wC (cl_iff.2 ⟨LeL.refl _, trivial⟩) (wC (cl_iff.2 ⟨LeL.refl _, LeH.refl _⟩) (wN rfl (wC (cl_iff.2 ⟨LeL.refl _, hst2 _ _⟩) (wN rfl (wC (cl_iff.2 ⟨LeL.refl _, LeH.refl _⟩) (wN rfl (wN (by simp) (wN rfl (wC rfl (wN (by simp) (wN rfl (wN rfl (wC (cl_iff.2 ⟨LeL.refl _, trivial⟩) (wC (cl_iff.2 ⟨LeL.refl _, LeH.refl _⟩) (wC ha ⟨?_, trivial⟩)))))))))))))))))
        show AV.le (.sb (decide (textOf y.size (bsF y) = y))) _
        rw [decide_eq_true ht2]; exact .sb true
structure SI where
  l : List Pu
  t : ByteArray
def A6 (y : SI) : List AV := [slP y.l, .v (.string y.t)]
noncomputable def c6L : CT Try.prog Γb := CT.lawE A6 (fun _ => True) 6 Try.f6 (bodyOf Try.f6) 108 [.tmp 4] Try.func6 (by kernel_rfl) (by kernel_rfl) (by kernel_rfl) (by kernel_rfl) (fun _ _ => by simp [A6]) (fun y _ => lawRS_ok y.l y.t)
end Go.Eng.SB.B

/- RollSheds holds at every input: no condition beyond the row own cells. -/
namespace Go.Proofs.Ytljejgnclkmpcaa
open Go Go.ChangeShapes Go.WideShapes Go.ChangeAt Go.WideMaps Go.WideElems Go.RowKit Go.Eng Go.Eng.SB Go.Eng.SB.B

theorem own0 : ownKnob Try.prog.godebug = none := by kernel_rfl
set_option maxRecDepth 100000 in
theorem rollSheds_lifted (os : Os) (started : os.Started) (H : Type) (enc : TypeId × Value → H) :
    ReturnsInHanded {} Try.checked os 6 .any (Rows.rollShedsSpec.pre6 enc Try.prog Try.f6 Rows.rollShedsRow.domain false)
      (Rows.rollShedsSpec.post enc Try.prog Try.f6 false true false false) := by
  refine returnsInHanded_of_change (C := Try.checked) own0 started (by kernel_rfl) Try.func6
    (ChangeSpec.witness6 (enc := enc) (C := Try.checked) false ⟨#[], #[.slice none 0 0, .string ⟨#[]⟩], []⟩ 8 (by kernel_rfl) (by kernel_rfl) (by kernel_rfl) (by kernel_rfl)) ?_
  intro W base args ds gs before hval0 hW hcnd _
  have hval : ∀ (j : Nat) t v, Try.f6.params[j]? = some t → args[j]? = some v → Value.okWide Try.prog W .any base t v := hval0
  have hW' := hW
  obtain ⟨p, q, hA0, hV, rfl, hfz, hnd⟩ := hW
  have hA : DataW.TrodAll enc Try.prog W 0 (fun _ => true) true Try.f6.params.toList args.toList ds p := hA0
  rw [Try.params6] at hA hval
  obtain ⟨v0, v1, d0, d1, p0, p1, rfl, rfl, rfl, h0, h1⟩ := trodAll_two hA
  obtain ⟨rfl, rfl⟩ := trodVars_none hV
  obtain ⟨n0, s0, w0⟩ := open_slL 9 Pu.cells Pu.c (ks := [.int .i64, .str, .int .i64, .int .i64, .str]) (sz := 5) rfl (fun _ => rfl) (fun _ => rfl) Pu.dec rfl Try.underlying56 (by kernel_rfl) (by kernel_rfl) (hval 0 56 v0 rfl rfl) h0
  obtain ⟨n1, rfl, rfl, rfl, w1⟩ := Go.ChangeMaps.open_string Try.underlying9 (hval 1 9 v1 rfl rfl) h1
  refine (calls_true c6L (xs := [.sl 5 n0.length (lsF Pu.c n0), .v (.string n1)]) (law_in (A := A6) (pre := fun _ => True) (x := ⟨n0, n1⟩) trivial (.refl _)) (fun _ => .any _) (.one (.base s0) (.one (V_v _) .none))).mono fun e W' ⟨he, ho⟩ => ?_
  subst he
  exact ⟨_, rfl, post_true (tb := 4) (by kernel_rfl) (by kernel_rfl) (by kernel_rfl) (by kernel_rfl) (by kernel_rfl) Try.underlying4 hW' rfl rfl ho⟩

theorem rollSheds_holds : Rows.RollShedsSaid :=
  OpenClaim.holds_of_wide 6 Try.f6 rfl rfl rfl rfl rfl rfl rfl ⟨rfl, rfl, rfl, rfl, rfl⟩ rfl rfl rfl rfl rfl (by kernel_rfl) Try.func6 (by kernel_rfl)
    (of_decide_eq_true (by kernel_rfl)) (by unfold Func.isWrapper; first | (rw [if_pos (by decide +kernel)]; kernel_rfl) | (rw [if_neg (by decide +kernel)]; exact ⟨rfl, rfl⟩))
    (fun os started H enc _ => rollSheds_lifted os started H enc)
#print axioms rollSheds_holds
end Go.Proofs.Ytljejgnclkmpcaa
