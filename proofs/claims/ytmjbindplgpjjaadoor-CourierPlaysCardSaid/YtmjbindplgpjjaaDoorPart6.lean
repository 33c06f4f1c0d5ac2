/- CourierPlays holds at every input: the tables unicode/utf8.first and unicode/utf8.acceptRanges as the program lays them (tied). -/
import Derived.Test.YtmjbindplgpjjaaDoorPart5
import Derived.OpenShut
import Derived.Test.YtmjbindplgpjjaaDoorRows
import Derived.Test.YtmjbindplgpjjaaDoorTie
import Derived.Test.YtmjbindplgpjjaaDoorCards
import Derived.ProofKit
import Derived.LaidMore
import Derived.Stop.Joined
import Derived.SevenTiedAt
import Derived.Lib.LaidU8T
import Derived.Lay
set_option linter.unnecessarySimpa false
set_option linter.unusedSectionVars false
set_option linter.unusedSimpArgs false
set_option linter.unusedVariables false
namespace Go.Eng.TA.C
open Go Go.Eng Go.Eng.M Go.Lib Go.Proofs
noncomputable abbrev lw (k : Nat) : Code := loopOf (bodyOf Tryd.f14) k
abbrev nCP : Nat := 233
def hp (c : Cs) (P : List Pc) (d : Ds) (l : List Ro) (os : List Oc) : List Blk := c.bl P ++ [d.rowJ 3 l.length, lsR l, lsOc os, lsOc os]
abbrev pre4 (n : Nat) : List AV := [.ptr 0 0, .ptr 2 0, .hs 4 0 n, .hs 5 0 n]
structure Fy where
  c : Cs
  P : List Pc
  d : Ds
  l : List Ro
  os : List Oc
  i : Nat
  acts : List Ac
def Fy.pre (y : Fy) : List AV := [.ptr 0 0, .ptr 2 0, .hs 4 0 y.os.length, .hs 5 0 y.os.length]
def Fy.post (y : Fy) : List AV := [.v (.int .i64 (y.i : Int)), slA y.acts]
def Fy.H (y : Fy) : List Blk := hp y.c y.P y.d y.l y.os
abbrev lv1' : List Nat := [7, 9, 11, 12, 19, 20, 21, 13, 2]
def S1' (y : Fy) (o : List Tx) (k : Nat) : List AV × Heap := (y.pre ++ [.hs 6 0 o.length, .hs 7 0 o.length, .v (.int .i64 (k : Int))] ++ y.post, (y.H ++ [lsT o, lsT o]).map some)
def O1' (y : Fy) : Out := ⟨.exit 3, y.pre ++ [.any, .any, .any] ++ y.post, y.H.map some ++ [none, none]⟩
theorem r1' (y : Fy) (o : List Tx) (k : Nat) : roundE (P := Tryd.prog) (Γ := Γm) [] Lno false 0 0 (lw 1) lv1' [] nCP (S1' y o k).1 (S1' y o k).2 =
  Tree.br (decide ((↑k : Int) < (↑(List.length o) : Int))) (Tree.chk (decide ((0 : Int) ≤ (↑k : Int)) && decide ((↑k : Int) < (↑(List.length o) : Int)) && (decide ((0 : Int) ≤ (↑k : Int)) &&
    decide ((↑k : Int) < (↑(List.length o) : Int)))) (Tree.br (!(decide ((List.getD o ((0 : Nat) + k) default).k = (List.getD o ((0 : Nat) + k) default).k) && (decide ((List.getD o ((0 :
    Nat) + k) default).fr = (List.getD o ((0 : Nat) + k) default).fr) && (decide ((List.getD o ((0 : Nat) + k) default).to = (List.getD o ((0 : Nat) + k) default).to) && (decide ((List.getD
    o ((0 : Nat) + k) default).ky = (List.getD o ((0 : Nat) + k) default).ky) && (decide ((List.getD o ((0 : Nat) + k) default).vl = (List.getD o ((0 : Nat) + k) default).vl) && (decide
    ((List.getD o ((0 : Nat) + k) default).am = (List.getD o ((0 : Nat) + k) default).am) && decide ((List.getD o ((0 : Nat) + k) default).nn = (List.getD o ((0 : Nat) + k)
    default).nn)))))))) (Tree.leaf (Out.mk AEx.ret [AV.ptr (0 : Nat) (0 : Nat), AV.ptr (2 : Nat) (0 : Nat), AV.hs (4 : Nat) (0 : Nat) (List.length y.os), AV.hs (5 : Nat) (0 : Nat)
    (List.length y.os), AV.hs (6 : Nat) (0 : Nat) (List.length o), AV.hs (7 : Nat) (0 : Nat) (List.length o), AV.v (Value.int IntKind.i64 (↑k : Int)), AV.v (Value.int IntKind.i64 (↑y.i :
    Int)), AV.sl (9 : Nat) (List.length y.acts) (lsF Ac.c y.acts)] [some (Blk.row [AV.v (Value.string y.c.who), AV.v (Value.int IntKind.i64 y.c.most), AV.hs (1 : Nat) (0 : Nat) (List.length
    y.P), AV.v (Value.int IntKind.i64 y.c.now), AV.v (Value.int IntKind.i64 y.c.heard), AV.v (Value.int IntKind.i64 y.c.wt), AV.v (Value.int IntKind.i64 y.c.en), AV.v (Value.int IntKind.i64
    y.c.go)]), some (Blk.arr (10 : Nat) (List.length y.P) (lsF Pc.c y.P)), some (Blk.row [AV.v (Value.string y.d.who), AV.v (Value.int IntKind.i64 y.d.most), AV.hs (3 : Nat) (0 : Nat)
    (List.length y.l), AV.v (Value.int IntKind.i64 y.d.now), AV.v (Value.int IntKind.i64 y.d.heard)]), some (Blk.arr (10 : Nat) (List.length y.l) (lsF Ro.c y.l)), some (Blk.arr (10 : Nat)
    (List.length y.os) (lsF Oc.c y.os)), some (Blk.arr (10 : Nat) (List.length y.os) (lsF Oc.c y.os)), some (Blk.arr (7 : Nat) (List.length o) (lsF Tx.c o)), some (Blk.arr (7 : Nat)
    (List.length o) (lsF Tx.c o))])) (Tree.leaf (Out.mk AEx.normal [AV.ptr (0 : Nat) (0 : Nat), AV.ptr (2 : Nat) (0 : Nat), AV.hs (4 : Nat) (0 : Nat) (List.length y.os), AV.hs (5 : Nat) (0 :
    Nat) (List.length y.os), AV.hs (6 : Nat) (0 : Nat) (List.length o), AV.hs (7 : Nat) (0 : Nat) (List.length o), AV.v (Value.int IntKind.i64 (IntKind.wrap IntKind.i64 ((↑k : Int) + (1 :
    Int)))), AV.v (Value.int IntKind.i64 (↑y.i : Int)), AV.sl (9 : Nat) (List.length y.acts) (lsF Ac.c y.acts)] [some (Blk.row [AV.v (Value.string y.c.who), AV.v (Value.int IntKind.i64
    y.c.most), AV.hs (1 : Nat) (0 : Nat) (List.length y.P), AV.v (Value.int IntKind.i64 y.c.now), AV.v (Value.int IntKind.i64 y.c.heard), AV.v (Value.int IntKind.i64 y.c.wt), AV.v (Value.int
    IntKind.i64 y.c.en), AV.v (Value.int IntKind.i64 y.c.go)]), some (Blk.arr (10 : Nat) (List.length y.P) (lsF Pc.c y.P)), some (Blk.row [AV.v (Value.string y.d.who), AV.v (Value.int
    IntKind.i64 y.d.most), AV.hs (3 : Nat) (0 : Nat) (List.length y.l), AV.v (Value.int IntKind.i64 y.d.now), AV.v (Value.int IntKind.i64 y.d.heard)]), some (Blk.arr (10 : Nat) (List.length
    y.l) (lsF Ro.c y.l)), some (Blk.arr (10 : Nat) (List.length y.os) (lsF Oc.c y.os)), some (Blk.arr (10 : Nat) (List.length y.os) (lsF Oc.c y.os)), some (Blk.arr (7 : Nat) (List.length o)
    (lsF Tx.c o)), some (Blk.arr (7 : Nat) (List.length o) (lsF Tx.c o))])))) (Tree.leaf (Out.mk (AEx.exit (3 : Nat)) [AV.ptr (0 : Nat) (0 : Nat), AV.ptr (2 : Nat) (0 : Nat), AV.hs (4 : Nat)
    (0 : Nat) (List.length y.os), AV.hs (5 : Nat) (0 : Nat) (List.length y.os), AV.hs (6 : Nat) (0 : Nat) (List.length o), AV.hs (7 : Nat) (0 : Nat) (List.length o), AV.v (Value.int
    IntKind.i64 (↑k : Int)), AV.v (Value.int IntKind.i64 (↑y.i : Int)), AV.sl (9 : Nat) (List.length y.acts) (lsF Ac.c y.acts)] [some (Blk.row [AV.v (Value.string y.c.who), AV.v (Value.int
    IntKind.i64 y.c.most), AV.hs (1 : Nat) (0 : Nat) (List.length y.P), AV.v (Value.int IntKind.i64 y.c.now), AV.v (Value.int IntKind.i64 y.c.heard), AV.v (Value.int IntKind.i64 y.c.wt),
    AV.v (Value.int IntKind.i64 y.c.en), AV.v (Value.int IntKind.i64 y.c.go)]), some (Blk.arr (10 : Nat) (List.length y.P) (lsF Pc.c y.P)), some (Blk.row [AV.v (Value.string y.d.who), AV.v
    (Value.int IntKind.i64 y.d.most), AV.hs (3 : Nat) (0 : Nat) (List.length y.l), AV.v (Value.int IntKind.i64 y.d.now), AV.v (Value.int IntKind.i64 y.d.heard)]), some (Blk.arr (10 : Nat)
    (List.length y.l) (lsF Ro.c y.l)), some (Blk.arr (10 : Nat) (List.length y.os) (lsF Oc.c y.os)), some (Blk.arr (10 : Nat) (List.length y.os) (lsF Oc.c y.os)), some (Blk.arr (7 : Nat)
    (List.length o) (lsF Tx.c o)), some (Blk.arr (7 : Nat) (List.length o) (lsF Tx.c o))])) := by kernel_rfl
abbrev lv2' : List Nat := [7, 9, 11, 12, 14, 22, 13, 2]
def S2' (y : Fy) (a : Ac) (k : Nat) : List AV × Heap := ([.ptr 0 0, .ptr 2 0, .hs 4 0 y.os.length, .hs 5 0 y.os.length, .ptr 6 0, .v (.int .i64 (k : Int))] ++ y.post, (y.H ++ [Blk.row (Ac.c a)]).map some)
def O2' (y : Fy) : Out := ⟨.exit 5, y.pre ++ [.any, .any] ++ y.post, y.H.map some ++ [none]⟩
theorem r2' (y : Fy) (a : Ac) (k : Nat) : roundE (P := Tryd.prog) (Γ := Γm) [] Lno false 0 0 (lw 2) lv2' [] nCP (S2' y a k).1 (S2' y a k).2 =
  Tree.br (decide ((↑k : Int) < (↑(List.length a.os) : Int))) (Tree.chk (decide ((0 : Int) ≤ (↑k : Int)) && decide ((↑k : Int) < (↑(List.length a.os) : Int))) (Tree.chk (roomOk (112 : Nat)
    (List.length y.os + (1 : Nat))) (Tree.chk (roomOk (112 : Nat) (List.length y.os + (1 : Nat))) (Tree.leaf (Out.mk AEx.normal [AV.ptr (0 : Nat) (0 : Nat), AV.ptr (2 : Nat) (0 : Nat), AV.hs
    (4 : Nat) (0 : Nat) (List.length y.os + (1 : Nat)), AV.hs (5 : Nat) (0 : Nat) (List.length y.os + (1 : Nat)), AV.ptr (6 : Nat) (0 : Nat), AV.v (Value.int IntKind.i64 (IntKind.wrap
    IntKind.i64 ((↑k : Int) + (1 : Int)))), AV.v (Value.int IntKind.i64 (↑y.i : Int)), AV.sl (9 : Nat) (List.length y.acts) (lsF Ac.c y.acts)] [some (Blk.row [AV.v (Value.string y.c.who),
    AV.v (Value.int IntKind.i64 y.c.most), AV.hs (1 : Nat) (0 : Nat) (List.length y.P), AV.v (Value.int IntKind.i64 y.c.now), AV.v (Value.int IntKind.i64 y.c.heard), AV.v (Value.int
    IntKind.i64 y.c.wt), AV.v (Value.int IntKind.i64 y.c.en), AV.v (Value.int IntKind.i64 y.c.go)]), some (Blk.arr (10 : Nat) (List.length y.P) (lsF Pc.c y.P)), some (Blk.row [AV.v
    (Value.string y.d.who), AV.v (Value.int IntKind.i64 y.d.most), AV.hs (3 : Nat) (0 : Nat) (List.length y.l), AV.v (Value.int IntKind.i64 y.d.now), AV.v (Value.int IntKind.i64
    y.d.heard)]), some (Blk.arr (10 : Nat) (List.length y.l) (lsF Ro.c y.l)), some (Blk.arr (10 : Nat) (List.length y.os + (1 : Nat)) fun j => mixL (decide (j < List.length y.os)) (lsF Oc.c
    y.os ((0 : Nat) + j)) (chain [AV.v (Value.int IntKind.i64 (0 : Int)), AV.v (Value.int IntKind.i64 (0 : Int)), AV.v (Value.int IntKind.i64 (0 : Int)), AV.v (Value.string (ByteArray.mk
    #[])), AV.v (Value.string (ByteArray.mk #[])), AV.v (Value.string (ByteArray.mk #[])), AV.v (Value.string (ByteArray.mk #[])), AV.v (Value.int IntKind.i64 (0 : Int)), AV.v (Value.int
    IntKind.i64 (0 : Int)), AV.v (Value.int IntKind.i64 (0 : Int))] (0 : Nat) [[AV.v (Value.int IntKind.i64 (List.getD a.os k default).blk), AV.v (Value.int IntKind.i64 (List.getD a.os k
    default).hgt), AV.v (Value.int IntKind.i64 (List.getD a.os k default).tx.k), AV.v (Value.string (List.getD a.os k default).tx.fr), AV.v (Value.string (List.getD a.os k default).tx.to),
    AV.v (Value.string (List.getD a.os k default).tx.ky), AV.v (Value.string (List.getD a.os k default).tx.vl), AV.v (Value.int IntKind.i64 (List.getD a.os k default).tx.am), AV.v (Value.int
    IntKind.i64 (List.getD a.os k default).tx.nn), AV.v (Value.int IntKind.i64 (List.getD a.os k default).err)]] ((0 : Nat) + (j - List.length y.os)))), some (Blk.arr (10 : Nat) (List.length
    y.os + (1 : Nat)) fun j => mixL (decide (j < List.length y.os)) (lsF Oc.c y.os ((0 : Nat) + j)) (chain [AV.v (Value.int IntKind.i64 (0 : Int)), AV.v (Value.int IntKind.i64 (0 : Int)),
    AV.v (Value.int IntKind.i64 (0 : Int)), AV.v (Value.string (ByteArray.mk #[])), AV.v (Value.string (ByteArray.mk #[])), AV.v (Value.string (ByteArray.mk #[])), AV.v (Value.string
    (ByteArray.mk #[])), AV.v (Value.int IntKind.i64 (0 : Int)), AV.v (Value.int IntKind.i64 (0 : Int)), AV.v (Value.int IntKind.i64 (0 : Int))] (0 : Nat) [[AV.v (Value.int IntKind.i64
    (List.getD a.os k default).blk), AV.v (Value.int IntKind.i64 (List.getD a.os k default).hgt), AV.v (Value.int IntKind.i64 (List.getD a.os k default).tx.k), AV.v (Value.string (List.getD
    a.os k default).tx.fr), AV.v (Value.string (List.getD a.os k default).tx.to), AV.v (Value.string (List.getD a.os k default).tx.ky), AV.v (Value.string (List.getD a.os k default).tx.vl),
    AV.v (Value.int IntKind.i64 (List.getD a.os k default).tx.am), AV.v (Value.int IntKind.i64 (List.getD a.os k default).tx.nn), AV.v (Value.int IntKind.i64 (List.getD a.os k
    default).err)]] ((0 : Nat) + (j - List.length y.os)))), some (Blk.row [AV.v (Value.int IntKind.i64 a.k), AV.v (Value.int IntKind.i64 a.tx.k), AV.v (Value.string a.tx.fr), AV.v
    (Value.string a.tx.to), AV.v (Value.string a.tx.ky), AV.v (Value.string a.tx.vl), AV.v (Value.int IntKind.i64 a.tx.am), AV.v (Value.int IntKind.i64 a.tx.nn), AV.sl (10 : Nat)
    (List.length a.os) (lsF Oc.c a.os)])]))))) (Tree.leaf (Out.mk (AEx.exit (5 : Nat)) [AV.ptr (0 : Nat) (0 : Nat), AV.ptr (2 : Nat) (0 : Nat), AV.hs (4 : Nat) (0 : Nat) (List.length y.os),
    AV.hs (5 : Nat) (0 : Nat) (List.length y.os), AV.ptr (6 : Nat) (0 : Nat), AV.v (Value.int IntKind.i64 (↑k : Int)), AV.v (Value.int IntKind.i64 (↑y.i : Int)), AV.sl (9 : Nat) (List.length
    y.acts) (lsF Ac.c y.acts)] [some (Blk.row [AV.v (Value.string y.c.who), AV.v (Value.int IntKind.i64 y.c.most), AV.hs (1 : Nat) (0 : Nat) (List.length y.P), AV.v (Value.int IntKind.i64
    y.c.now), AV.v (Value.int IntKind.i64 y.c.heard), AV.v (Value.int IntKind.i64 y.c.wt), AV.v (Value.int IntKind.i64 y.c.en), AV.v (Value.int IntKind.i64 y.c.go)]), some (Blk.arr (10 :
    Nat) (List.length y.P) (lsF Pc.c y.P)), some (Blk.row [AV.v (Value.string y.d.who), AV.v (Value.int IntKind.i64 y.d.most), AV.hs (3 : Nat) (0 : Nat) (List.length y.l), AV.v (Value.int
    IntKind.i64 y.d.now), AV.v (Value.int IntKind.i64 y.d.heard)]), some (Blk.arr (10 : Nat) (List.length y.l) (lsF Ro.c y.l)), some (Blk.arr (10 : Nat) (List.length y.os) (lsF Oc.c y.os)),
    some (Blk.arr (10 : Nat) (List.length y.os) (lsF Oc.c y.os)), some (Blk.row [AV.v (Value.int IntKind.i64 a.k), AV.v (Value.int IntKind.i64 a.tx.k), AV.v (Value.string a.tx.fr), AV.v
    (Value.string a.tx.to), AV.v (Value.string a.tx.ky), AV.v (Value.string a.tx.vl), AV.v (Value.int IntKind.i64 a.tx.am), AV.v (Value.int IntKind.i64 a.tx.nn), AV.sl (10 : Nat)
    (List.length a.os) (lsF Oc.c a.os)])])) := by kernel_rfl
abbrev lv3' : List Nat := [7, 9, 11, 12, 24, 28, 13, 2]
def S3' (y : Fy) (o : List Od) (k : Nat) : List AV × Heap := (y.pre ++ [.hs 6 0 o.length, .v (.int .i64 (k : Int))] ++ y.post, (y.H ++ [lsO o]).map some)
def O3' (y : Fy) : Out := ⟨.exit 7, y.pre ++ [.any, .any] ++ y.post, y.H.map some ++ [none]⟩
theorem r3' (y : Fy) (o : List Od) (k : Nat) : roundE (P := Tryd.prog) (Γ := Γm) [] Lno false 0 0 (lw 3) lv3' [] nCP (S3' y o k).1 (S3' y o k).2 =
  Tree.br (decide ((↑k : Int) < (↑(List.length o) : Int))) (Tree.chk (decide ((0 : Int) ≤ (↑k : Int)) && decide ((↑k : Int) < (↑(List.length o) : Int)) && (decide ((0 : Int) ≤ (↑k : Int)) &&
    decide ((↑k : Int) < (↑(List.length y.l) : Int)) && bif !(decide ((List.getD o ((0 : Nat) + k) default).tx.k = (List.getD y.l ((0 : Nat) + k) default).tx.k) && (decide ((List.getD o ((0
    : Nat) + k) default).tx.fr = (List.getD y.l ((0 : Nat) + k) default).tx.fr) && (decide ((List.getD o ((0 : Nat) + k) default).tx.to = (List.getD y.l ((0 : Nat) + k) default).tx.to) &&
    (decide ((List.getD o ((0 : Nat) + k) default).tx.ky = (List.getD y.l ((0 : Nat) + k) default).tx.ky) && (decide ((List.getD o ((0 : Nat) + k) default).tx.vl = (List.getD y.l ((0 : Nat)
    + k) default).tx.vl) && (decide ((List.getD o ((0 : Nat) + k) default).tx.am = (List.getD y.l ((0 : Nat) + k) default).tx.am) && decide ((List.getD o ((0 : Nat) + k) default).tx.nn =
    (List.getD y.l ((0 : Nat) + k) default).tx.nn))))))) then true else decide ((0 : Int) ≤ (↑k : Int)) && decide ((↑k : Int) < (↑(List.length o) : Int)) && (decide ((0 : Int) ≤ (↑k : Int))
    && decide ((↑k : Int) < (↑(List.length y.l) : Int))))) (Tree.br (bif !(decide ((List.getD o ((0 : Nat) + k) default).tx.k = (List.getD y.l ((0 : Nat) + k) default).tx.k) && (decide
    ((List.getD o ((0 : Nat) + k) default).tx.fr = (List.getD y.l ((0 : Nat) + k) default).tx.fr) && (decide ((List.getD o ((0 : Nat) + k) default).tx.to = (List.getD y.l ((0 : Nat) + k)
    default).tx.to) && (decide ((List.getD o ((0 : Nat) + k) default).tx.ky = (List.getD y.l ((0 : Nat) + k) default).tx.ky) && (decide ((List.getD o ((0 : Nat) + k) default).tx.vl =
    (List.getD y.l ((0 : Nat) + k) default).tx.vl) && (decide ((List.getD o ((0 : Nat) + k) default).tx.am = (List.getD y.l ((0 : Nat) + k) default).tx.am) && decide ((List.getD o ((0 : Nat)
    + k) default).tx.nn = (List.getD y.l ((0 : Nat) + k) default).tx.nn))))))) then true else !decide ((List.getD o ((0 : Nat) + k) default).st = (List.getD y.l ((0 : Nat) + k) default).st))
    (Tree.leaf (Out.mk AEx.ret [AV.ptr (0 : Nat) (0 : Nat), AV.ptr (2 : Nat) (0 : Nat), AV.hs (4 : Nat) (0 : Nat) (List.length y.os), AV.hs (5 : Nat) (0 : Nat) (List.length y.os), AV.hs (6 :
    Nat) (0 : Nat) (List.length o), AV.v (Value.int IntKind.i64 (↑k : Int)), AV.v (Value.int IntKind.i64 (↑y.i : Int)), AV.sl (9 : Nat) (List.length y.acts) (lsF Ac.c y.acts)] [some (Blk.row
    [AV.v (Value.string y.c.who), AV.v (Value.int IntKind.i64 y.c.most), AV.hs (1 : Nat) (0 : Nat) (List.length y.P), AV.v (Value.int IntKind.i64 y.c.now), AV.v (Value.int IntKind.i64
    y.c.heard), AV.v (Value.int IntKind.i64 y.c.wt), AV.v (Value.int IntKind.i64 y.c.en), AV.v (Value.int IntKind.i64 y.c.go)]), some (Blk.arr (10 : Nat) (List.length y.P) (lsF Pc.c y.P)),
    some (Blk.row [AV.v (Value.string y.d.who), AV.v (Value.int IntKind.i64 y.d.most), AV.hs (3 : Nat) (0 : Nat) (List.length y.l), AV.v (Value.int IntKind.i64 y.d.now), AV.v (Value.int
    IntKind.i64 y.d.heard)]), some (Blk.arr (10 : Nat) (List.length y.l) (lsF Ro.c y.l)), some (Blk.arr (10 : Nat) (List.length y.os) (lsF Oc.c y.os)), some (Blk.arr (10 : Nat) (List.length
    y.os) (lsF Oc.c y.os)), some (Blk.arr (8 : Nat) (List.length o) (lsF Od.c o))])) (Tree.leaf (Out.mk AEx.normal [AV.ptr (0 : Nat) (0 : Nat), AV.ptr (2 : Nat) (0 : Nat), AV.hs (4 : Nat) (0
    : Nat) (List.length y.os), AV.hs (5 : Nat) (0 : Nat) (List.length y.os), AV.hs (6 : Nat) (0 : Nat) (List.length o), AV.v (Value.int IntKind.i64 (IntKind.wrap IntKind.i64 ((↑k : Int) + (1
    : Int)))), AV.v (Value.int IntKind.i64 (↑y.i : Int)), AV.sl (9 : Nat) (List.length y.acts) (lsF Ac.c y.acts)] [some (Blk.row [AV.v (Value.string y.c.who), AV.v (Value.int IntKind.i64
    y.c.most), AV.hs (1 : Nat) (0 : Nat) (List.length y.P), AV.v (Value.int IntKind.i64 y.c.now), AV.v (Value.int IntKind.i64 y.c.heard), AV.v (Value.int IntKind.i64 y.c.wt), AV.v (Value.int
    IntKind.i64 y.c.en), AV.v (Value.int IntKind.i64 y.c.go)]), some (Blk.arr (10 : Nat) (List.length y.P) (lsF Pc.c y.P)), some (Blk.row [AV.v (Value.string y.d.who), AV.v (Value.int
    IntKind.i64 y.d.most), AV.hs (3 : Nat) (0 : Nat) (List.length y.l), AV.v (Value.int IntKind.i64 y.d.now), AV.v (Value.int IntKind.i64 y.d.heard)]), some (Blk.arr (10 : Nat) (List.length
    y.l) (lsF Ro.c y.l)), some (Blk.arr (10 : Nat) (List.length y.os) (lsF Oc.c y.os)), some (Blk.arr (10 : Nat) (List.length y.os) (lsF Oc.c y.os)), some (Blk.arr (8 : Nat) (List.length o)
    (lsF Od.c o))])))) (Tree.leaf (Out.mk (AEx.exit (7 : Nat)) [AV.ptr (0 : Nat) (0 : Nat), AV.ptr (2 : Nat) (0 : Nat), AV.hs (4 : Nat) (0 : Nat) (List.length y.os), AV.hs (5 : Nat) (0 :
    Nat) (List.length y.os), AV.hs (6 : Nat) (0 : Nat) (List.length o), AV.v (Value.int IntKind.i64 (↑k : Int)), AV.v (Value.int IntKind.i64 (↑y.i : Int)), AV.sl (9 : Nat) (List.length
    y.acts) (lsF Ac.c y.acts)] [some (Blk.row [AV.v (Value.string y.c.who), AV.v (Value.int IntKind.i64 y.c.most), AV.hs (1 : Nat) (0 : Nat) (List.length y.P), AV.v (Value.int IntKind.i64
    y.c.now), AV.v (Value.int IntKind.i64 y.c.heard), AV.v (Value.int IntKind.i64 y.c.wt), AV.v (Value.int IntKind.i64 y.c.en), AV.v (Value.int IntKind.i64 y.c.go)]), some (Blk.arr (10 :
    Nat) (List.length y.P) (lsF Pc.c y.P)), some (Blk.row [AV.v (Value.string y.d.who), AV.v (Value.int IntKind.i64 y.d.most), AV.hs (3 : Nat) (0 : Nat) (List.length y.l), AV.v (Value.int
    IntKind.i64 y.d.now), AV.v (Value.int IntKind.i64 y.d.heard)]), some (Blk.arr (10 : Nat) (List.length y.l) (lsF Ro.c y.l)), some (Blk.arr (10 : Nat) (List.length y.os) (lsF Oc.c y.os)),
    some (Blk.arr (10 : Nat) (List.length y.os) (lsF Oc.c y.os)), some (Blk.arr (8 : Nat) (List.length o) (lsF Od.c o))])) := by kernel_rfl
end Go.Eng.TA.C

namespace Go.Eng.TA.C
open Go Go.Eng Go.Eng.M Go.Lib Go.Proofs
abbrev lv0' : List Nat := [7, 9, 11, 12, 13, 2]
abbrev nl0' : List (Nat × TypeId) := [(300, 170), (301, 118), (2, 107), (3, 109)]
def S0' (y : Fy) : List AV × Heap := (y.pre ++ y.post, y.H.map some)
def O0' : Out := ⟨.exit 0, [.any, .any, .any, .any, .any, .any], [none, none, none, none, none, none]⟩
noncomputable def LW (o1 : List Tx) (y z : Fy) (a : Ac) (o : List Od) (os2 : List Oc) : Nat → LSpec
  | 0 => LSpec.at lv1' [] (S1' z o1 0) (O1' z)
  | 1 => LSpec.at lv2' [] (S2' y a 0) (O2' { y with os := os2 })
  | _ => LSpec.at lv3' [] (S3' z o 0) (O3' z)
theorem r0e' (y : Fy) : roundE (P := Tryd.prog) (Γ := Γm) [] Lno false 0 0 (lw 0) lv0' nl0' nCP (S0' y).1 (S0' y).2 =
  Tree.br (bif decide ((↑y.i : Int) < (↑(List.length y.acts) : Int)) then true else false) (Tree.chk (decide ((0 : Int) ≤ (↑y.i : Int)) && decide ((↑y.i : Int) < (↑(List.length y.acts) :
    Int))) (Tree.br (decide ((List.getD y.acts y.i default).k = (0 : Int))) Tree.fail (Tree.br (decide ((List.getD y.acts y.i default).k = (1 : Int))) Tree.fail (Tree.br (decide ((List.getD
    y.acts y.i default).k = (2 : Int))) Tree.fail Tree.fail)))) (Tree.leaf (Out.mk (AEx.exit (0 : Nat)) [AV.ptr (0 : Nat) (0 : Nat), AV.ptr (2 : Nat) (0 : Nat), AV.hs (4 : Nat) (0 : Nat)
    (List.length y.os), AV.hs (5 : Nat) (0 : Nat) (List.length y.os), AV.v (Value.int IntKind.i64 (↑y.i : Int)), AV.sl (9 : Nat) (List.length y.acts) (lsF Ac.c y.acts)] [some (Blk.row [AV.v
    (Value.string y.c.who), AV.v (Value.int IntKind.i64 y.c.most), AV.hs (1 : Nat) (0 : Nat) (List.length y.P), AV.v (Value.int IntKind.i64 y.c.now), AV.v (Value.int IntKind.i64 y.c.heard),
    AV.v (Value.int IntKind.i64 y.c.wt), AV.v (Value.int IntKind.i64 y.c.en), AV.v (Value.int IntKind.i64 y.c.go)]), some (Blk.arr (10 : Nat) (List.length y.P) (lsF Pc.c y.P)), some (Blk.row
    [AV.v (Value.string y.d.who), AV.v (Value.int IntKind.i64 y.d.most), AV.hs (3 : Nat) (0 : Nat) (List.length y.l), AV.v (Value.int IntKind.i64 y.d.now), AV.v (Value.int IntKind.i64
    y.d.heard)]), some (Blk.arr (10 : Nat) (List.length y.l) (lsF Ro.c y.l)), some (Blk.arr (10 : Nat) (List.length y.os) (lsF Oc.c y.os)), some (Blk.arr (10 : Nat) (List.length y.os) (lsF
    Oc.c y.os))])) := by kernel_rfl
theorem r0n' (y z : Fy) (o : List Od) (os2 : List Oc)  (hO : Answers Tryd.prog Γm 65 [.ptr 0 0] (z.c.bl z.P) (.hs 2 0 o.length) ((z.c.bl z.P).map some) [lsO o]) (hN : Answers Tryd.prog Γm 70 [.ptr 0 0] (z.c.bl z.P) (.tup [.v (.int .i64 z.c.wt), .v (.int .i64 z.c.en), .v (.int .i64 z.c.go)]) ((z.c.bl z.P).map some) []) (hl : z.l.length ≤ 100000) : roundE (P := Tryd.prog) (Γ := Γm) [CT.atN 65 hO, CT.atN 70 hN, hCt z.d z.l hl] (LW [] y z (y.acts.getD y.i default) o os2) false 0 0 (lw 0) lv0' nl0' nCP (S0' y).1 (S0' y).2 =
  Tree.br (bif decide ((↑y.i : Int) < (↑(List.length y.acts) : Int)) then true else false) (Tree.chk (decide ((0 : Int) ≤ (↑y.i : Int)) && decide ((↑y.i : Int) < (↑(List.length y.acts) :
    Int))) (Tree.br (decide ((List.getD y.acts y.i default).k = (0 : Int))) Tree.fail (Tree.br (decide ((List.getD y.acts y.i default).k = (1 : Int))) Tree.fail (Tree.br (decide ((List.getD
    y.acts y.i default).k = (2 : Int))) (Tree.chk (cl (LeL [AV.ptr (0 : Nat) (0 : Nat), AV.ptr (2 : Nat) (0 : Nat), AV.hs (4 : Nat) (0 : Nat) (List.length y.os), AV.hs (5 : Nat) (0 : Nat)
    (List.length y.os), AV.ptr (6 : Nat) (0 : Nat), AV.v (Value.int IntKind.i64 (0 : Int)), AV.v (Value.int IntKind.i64 (↑y.i : Int)), AV.sl (9 : Nat) (List.length y.acts) (lsF Ac.c y.acts)]
    [AV.ptr (0 : Nat) (0 : Nat), AV.ptr (2 : Nat) (0 : Nat), AV.hs (4 : Nat) (0 : Nat) (List.length y.os), AV.hs (5 : Nat) (0 : Nat) (List.length y.os), AV.ptr (6 : Nat) (0 : Nat), AV.v
    (Value.int IntKind.i64 (↑(0 : Nat) : Int)), AV.v (Value.int IntKind.i64 (↑y.i : Int)), AV.sl (9 : Nat) (List.length y.acts) (lsF Ac.c y.acts)] ∧ LeH [some (Blk.row [AV.v (Value.string
    y.c.who), AV.v (Value.int IntKind.i64 y.c.most), AV.hs (1 : Nat) (0 : Nat) (List.length y.P), AV.v (Value.int IntKind.i64 y.c.now), AV.v (Value.int IntKind.i64 y.c.heard), AV.v
    (Value.int IntKind.i64 y.c.wt), AV.v (Value.int IntKind.i64 y.c.en), AV.v (Value.int IntKind.i64 y.c.go)]), some (Blk.arr (10 : Nat) (List.length y.P) (lsF Pc.c y.P)), some (Blk.row
    [AV.v (Value.string y.d.who), AV.v (Value.int IntKind.i64 y.d.most), AV.hs (3 : Nat) (0 : Nat) (List.length y.l), AV.v (Value.int IntKind.i64 y.d.now), AV.v (Value.int IntKind.i64
    y.d.heard)]), some (Blk.arr (10 : Nat) (List.length y.l) (lsF Ro.c y.l)), some (Blk.arr (10 : Nat) (List.length y.os) (lsF Oc.c y.os)), some (Blk.arr (10 : Nat) (List.length y.os) (lsF
    Oc.c y.os)), some (Blk.row [AV.v (Value.int IntKind.i64 (List.getD y.acts y.i default).k), AV.v (Value.int IntKind.i64 (List.getD y.acts y.i default).tx.k), AV.v (Value.string (List.getD
    y.acts y.i default).tx.fr), AV.v (Value.string (List.getD y.acts y.i default).tx.to), AV.v (Value.string (List.getD y.acts y.i default).tx.ky), AV.v (Value.string (List.getD y.acts y.i
    default).tx.vl), AV.v (Value.int IntKind.i64 (List.getD y.acts y.i default).tx.am), AV.v (Value.int IntKind.i64 (List.getD y.acts y.i default).tx.nn), AV.sl (10 : Nat) (List.length
    (List.getD y.acts (Int.toNat (↑y.i : Int)) default).os) (lsF Oc.c (List.getD y.acts (Int.toNat (↑y.i : Int)) default).os)])] [some (Blk.row [AV.v (Value.string y.c.who), AV.v (Value.int
    IntKind.i64 y.c.most), AV.hs (1 : Nat) (0 : Nat) (List.length y.P), AV.v (Value.int IntKind.i64 y.c.now), AV.v (Value.int IntKind.i64 y.c.heard), AV.v (Value.int IntKind.i64 y.c.wt),
    AV.v (Value.int IntKind.i64 y.c.en), AV.v (Value.int IntKind.i64 y.c.go)]), some (Blk.arr (10 : Nat) (List.length y.P) (lsF Pc.c y.P)), some (Blk.row [AV.v (Value.string y.d.who), AV.v
    (Value.int IntKind.i64 y.d.most), AV.hs (3 : Nat) (0 : Nat) (List.length y.l), AV.v (Value.int IntKind.i64 y.d.now), AV.v (Value.int IntKind.i64 y.d.heard)]), some (Blk.arr (10 : Nat)
    (List.length y.l) (lsF Ro.c y.l)), some (Blk.arr (10 : Nat) (List.length y.os) (lsF Oc.c y.os)), some (Blk.arr (10 : Nat) (List.length y.os) (lsF Oc.c y.os)), some (Blk.row [AV.v
    (Value.int IntKind.i64 (List.getD y.acts y.i default).k), AV.v (Value.int IntKind.i64 (List.getD y.acts y.i default).tx.k), AV.v (Value.string (List.getD y.acts y.i default).tx.fr), AV.v
    (Value.string (List.getD y.acts y.i default).tx.to), AV.v (Value.string (List.getD y.acts y.i default).tx.ky), AV.v (Value.string (List.getD y.acts y.i default).tx.vl), AV.v (Value.int
    IntKind.i64 (List.getD y.acts y.i default).tx.am), AV.v (Value.int IntKind.i64 (List.getD y.acts y.i default).tx.nn), AV.sl (10 : Nat) (List.length (List.getD y.acts y.i default).os)
    (lsF Oc.c (List.getD y.acts y.i default).os)])])) Tree.fail) (Tree.chk (cl ([AV.ptr (0 : Nat) (0 : Nat)] = [AV.ptr (0 : Nat) (0 : Nat)] ∧ [Blk.row [AV.v (Value.string y.c.who), AV.v
    (Value.int IntKind.i64 y.c.most), AV.hs (1 : Nat) (0 : Nat) (List.length y.P), AV.v (Value.int IntKind.i64 y.c.now), AV.v (Value.int IntKind.i64 y.c.heard), AV.v (Value.int IntKind.i64
    y.c.wt), AV.v (Value.int IntKind.i64 y.c.en), AV.v (Value.int IntKind.i64 y.c.go)], Blk.arr (10 : Nat) (List.length y.P) (lsF Pc.c y.P)] = [Blk.row [AV.v (Value.string z.c.who), AV.v
    (Value.int IntKind.i64 z.c.most), AV.hs (1 : Nat) (0 : Nat) (List.length z.P), AV.v (Value.int IntKind.i64 z.c.now), AV.v (Value.int IntKind.i64 z.c.heard), AV.v (Value.int IntKind.i64
    z.c.wt), AV.v (Value.int IntKind.i64 z.c.en), AV.v (Value.int IntKind.i64 z.c.go)], Blk.arr (10 : Nat) (List.length z.P) (lsF Pc.c z.P)])) (Tree.chk (cl ([AV.ptr (0 : Nat) (0 : Nat)] =
    [AV.ptr (0 : Nat) (0 : Nat)] ∧ [Blk.row [AV.v (Value.string y.c.who), AV.v (Value.int IntKind.i64 y.c.most), AV.hs (1 : Nat) (0 : Nat) (List.length y.P), AV.v (Value.int IntKind.i64
    y.c.now), AV.v (Value.int IntKind.i64 y.c.heard), AV.v (Value.int IntKind.i64 y.c.wt), AV.v (Value.int IntKind.i64 y.c.en), AV.v (Value.int IntKind.i64 y.c.go)], Blk.arr (10 : Nat)
    (List.length y.P) (lsF Pc.c y.P)] = [Blk.row [AV.v (Value.string z.c.who), AV.v (Value.int IntKind.i64 z.c.most), AV.hs (1 : Nat) (0 : Nat) (List.length z.P), AV.v (Value.int IntKind.i64
    z.c.now), AV.v (Value.int IntKind.i64 z.c.heard), AV.v (Value.int IntKind.i64 z.c.wt), AV.v (Value.int IntKind.i64 z.c.en), AV.v (Value.int IntKind.i64 z.c.go)], Blk.arr (10 : Nat)
    (List.length z.P) (lsF Pc.c z.P)])) (Tree.chk (bif !decide ((↑(List.length o) : Int) = (↑(List.length y.l) : Int)) then true else cl ([Blk.row [AV.v (Value.string y.d.who), AV.v
    (Value.int IntKind.i64 y.d.most), AV.hs (1 : Nat) (0 : Nat) (List.length y.l), AV.v (Value.int IntKind.i64 y.d.now), AV.v (Value.int IntKind.i64 y.d.heard)], Blk.arr (10 : Nat)
    (List.length y.l) (lsF Ro.c y.l)] = [Blk.row [AV.v (Value.string z.d.who), AV.v (Value.int IntKind.i64 z.d.most), AV.hs (1 : Nat) (0 : Nat) (List.length z.l), AV.v (Value.int IntKind.i64
    z.d.now), AV.v (Value.int IntKind.i64 z.d.heard)], Blk.arr (10 : Nat) (List.length z.l) (lsF Ro.c z.l)]) && bif !decide (z.c.wt = (↑(cnt (0 : Int) z.l) : Int)) then true else cl
    ([Blk.row [AV.v (Value.string y.d.who), AV.v (Value.int IntKind.i64 y.d.most), AV.hs (1 : Nat) (0 : Nat) (List.length y.l), AV.v (Value.int IntKind.i64 y.d.now), AV.v (Value.int
    IntKind.i64 y.d.heard)], Blk.arr (10 : Nat) (List.length y.l) (lsF Ro.c y.l)] = [Blk.row [AV.v (Value.string z.d.who), AV.v (Value.int IntKind.i64 z.d.most), AV.hs (1 : Nat) (0 : Nat)
    (List.length z.l), AV.v (Value.int IntKind.i64 z.d.now), AV.v (Value.int IntKind.i64 z.d.heard)], Blk.arr (10 : Nat) (List.length z.l) (lsF Ro.c z.l)]) && bif !decide (z.c.en = (↑(cnt (1
    : Int) z.l) : Int)) then true else cl ([Blk.row [AV.v (Value.string y.d.who), AV.v (Value.int IntKind.i64 y.d.most), AV.hs (1 : Nat) (0 : Nat) (List.length y.l), AV.v (Value.int
    IntKind.i64 y.d.now), AV.v (Value.int IntKind.i64 y.d.heard)], Blk.arr (10 : Nat) (List.length y.l) (lsF Ro.c y.l)] = [Blk.row [AV.v (Value.string z.d.who), AV.v (Value.int IntKind.i64
    z.d.most), AV.hs (1 : Nat) (0 : Nat) (List.length z.l), AV.v (Value.int IntKind.i64 z.d.now), AV.v (Value.int IntKind.i64 z.d.heard)], Blk.arr (10 : Nat) (List.length z.l) (lsF Ro.c
    z.l)])) (Tree.br (bif !decide ((↑(List.length o) : Int) = (↑(List.length y.l) : Int)) then true else bif !decide (z.c.wt = (↑(cnt (0 : Int) z.l) : Int)) then true else bif !decide
    (z.c.en = (↑(cnt (1 : Int) z.l) : Int)) then true else !decide (z.c.go = (↑(cnt (2 : Int) z.l) : Int))) (Tree.leaf (Out.mk AEx.ret [AV.ptr (0 : Nat) (0 : Nat), AV.ptr (2 : Nat) (0 :
    Nat), AV.hs (4 : Nat) (0 : Nat) (List.length y.os), AV.hs (5 : Nat) (0 : Nat) (List.length y.os), AV.v (Value.int IntKind.i64 (↑y.i : Int)), AV.sl (9 : Nat) (List.length y.acts) (lsF
    Ac.c y.acts)] [some (Blk.row [AV.v (Value.string y.c.who), AV.v (Value.int IntKind.i64 y.c.most), AV.hs (1 : Nat) (0 : Nat) (List.length y.P), AV.v (Value.int IntKind.i64 y.c.now), AV.v
    (Value.int IntKind.i64 y.c.heard), AV.v (Value.int IntKind.i64 y.c.wt), AV.v (Value.int IntKind.i64 y.c.en), AV.v (Value.int IntKind.i64 y.c.go)]), some (Blk.arr (10 : Nat) (List.length
    y.P) (lsF Pc.c y.P)), some (Blk.row [AV.v (Value.string y.d.who), AV.v (Value.int IntKind.i64 y.d.most), AV.hs (3 : Nat) (0 : Nat) (List.length y.l), AV.v (Value.int IntKind.i64
    y.d.now), AV.v (Value.int IntKind.i64 y.d.heard)]), some (Blk.arr (10 : Nat) (List.length y.l) (lsF Ro.c y.l)), some (Blk.arr (10 : Nat) (List.length y.os) (lsF Oc.c y.os)), some
    (Blk.arr (10 : Nat) (List.length y.os) (lsF Oc.c y.os))])) (Tree.chk (cl (LeL [AV.ptr (0 : Nat) (0 : Nat), AV.ptr (2 : Nat) (0 : Nat), AV.hs (4 : Nat) (0 : Nat) (List.length y.os), AV.hs
    (5 : Nat) (0 : Nat) (List.length y.os), AV.hs (6 : Nat) (0 : Nat) (List.length o), AV.v (Value.int IntKind.i64 (0 : Int)), AV.v (Value.int IntKind.i64 (↑y.i : Int)), AV.sl (9 : Nat)
    (List.length y.acts) (lsF Ac.c y.acts)] [AV.ptr (0 : Nat) (0 : Nat), AV.ptr (2 : Nat) (0 : Nat), AV.hs (4 : Nat) (0 : Nat) (List.length z.os), AV.hs (5 : Nat) (0 : Nat) (List.length
    z.os), AV.hs (6 : Nat) (0 : Nat) (List.length o), AV.v (Value.int IntKind.i64 (↑(0 : Nat) : Int)), AV.v (Value.int IntKind.i64 (↑z.i : Int)), AV.sl (9 : Nat) (List.length z.acts) (lsF
    Ac.c z.acts)] ∧ LeH [some (Blk.row [AV.v (Value.string y.c.who), AV.v (Value.int IntKind.i64 y.c.most), AV.hs (1 : Nat) (0 : Nat) (List.length y.P), AV.v (Value.int IntKind.i64 y.c.now),
    AV.v (Value.int IntKind.i64 y.c.heard), AV.v (Value.int IntKind.i64 y.c.wt), AV.v (Value.int IntKind.i64 y.c.en), AV.v (Value.int IntKind.i64 y.c.go)]), some (Blk.arr (10 : Nat)
    (List.length y.P) (lsF Pc.c y.P)), some (Blk.row [AV.v (Value.string y.d.who), AV.v (Value.int IntKind.i64 y.d.most), AV.hs (3 : Nat) (0 : Nat) (List.length y.l), AV.v (Value.int
    IntKind.i64 y.d.now), AV.v (Value.int IntKind.i64 y.d.heard)]), some (Blk.arr (10 : Nat) (List.length y.l) (lsF Ro.c y.l)), some (Blk.arr (10 : Nat) (List.length y.os) (lsF Oc.c y.os)),
    some (Blk.arr (10 : Nat) (List.length y.os) (lsF Oc.c y.os)), some (Blk.arr (8 : Nat) (List.length o) (lsF Od.c o))] [some (Blk.row [AV.v (Value.string z.c.who), AV.v (Value.int
    IntKind.i64 z.c.most), AV.hs (1 : Nat) (0 : Nat) (List.length z.P), AV.v (Value.int IntKind.i64 z.c.now), AV.v (Value.int IntKind.i64 z.c.heard), AV.v (Value.int IntKind.i64 z.c.wt),
    AV.v (Value.int IntKind.i64 z.c.en), AV.v (Value.int IntKind.i64 z.c.go)]), some (Blk.arr (10 : Nat) (List.length z.P) (lsF Pc.c z.P)), some (Blk.row [AV.v (Value.string z.d.who), AV.v
    (Value.int IntKind.i64 z.d.most), AV.hs (3 : Nat) (0 : Nat) (List.length z.l), AV.v (Value.int IntKind.i64 z.d.now), AV.v (Value.int IntKind.i64 z.d.heard)]), some (Blk.arr (10 : Nat)
    (List.length z.l) (lsF Ro.c z.l)), some (Blk.arr (10 : Nat) (List.length z.os) (lsF Oc.c z.os)), some (Blk.arr (10 : Nat) (List.length z.os) (lsF Oc.c z.os)), some (Blk.arr (8 : Nat)
    (List.length o) (lsF Od.c o))])) (Tree.leaf (Out.mk AEx.normal [AV.ptr (0 : Nat) (0 : Nat), AV.ptr (2 : Nat) (0 : Nat), AV.hs (4 : Nat) (0 : Nat) (List.length z.os), AV.hs (5 : Nat) (0 :
    Nat) (List.length z.os), AV.v (Value.int IntKind.i64 (IntKind.wrap IntKind.i64 ((↑z.i : Int) + (1 : Int)))), AV.sl (9 : Nat) (List.length z.acts) (lsF Ac.c z.acts)] [some (Blk.row [AV.v
    (Value.string z.c.who), AV.v (Value.int IntKind.i64 z.c.most), AV.hs (1 : Nat) (0 : Nat) (List.length z.P), AV.v (Value.int IntKind.i64 z.c.now), AV.v (Value.int IntKind.i64 z.c.heard),
    AV.v (Value.int IntKind.i64 z.c.wt), AV.v (Value.int IntKind.i64 z.c.en), AV.v (Value.int IntKind.i64 z.c.go)]), some (Blk.arr (10 : Nat) (List.length z.P) (lsF Pc.c z.P)), some (Blk.row
    [AV.v (Value.string z.d.who), AV.v (Value.int IntKind.i64 z.d.most), AV.hs (3 : Nat) (0 : Nat) (List.length z.l), AV.v (Value.int IntKind.i64 z.d.now), AV.v (Value.int IntKind.i64
    z.d.heard)]), some (Blk.arr (10 : Nat) (List.length z.l) (lsF Ro.c z.l)), some (Blk.arr (10 : Nat) (List.length z.os) (lsF Oc.c z.os)), some (Blk.arr (10 : Nat) (List.length z.os) (lsF
    Oc.c z.os))]))))))))))) (Tree.leaf (Out.mk (AEx.exit (0 : Nat)) [AV.ptr (0 : Nat) (0 : Nat), AV.ptr (2 : Nat) (0 : Nat), AV.hs (4 : Nat) (0 : Nat) (List.length y.os), AV.hs (5 : Nat) (0
    : Nat) (List.length y.os), AV.v (Value.int IntKind.i64 (↑y.i : Int)), AV.sl (9 : Nat) (List.length y.acts) (lsF Ac.c y.acts)] [some (Blk.row [AV.v (Value.string y.c.who), AV.v (Value.int
    IntKind.i64 y.c.most), AV.hs (1 : Nat) (0 : Nat) (List.length y.P), AV.v (Value.int IntKind.i64 y.c.now), AV.v (Value.int IntKind.i64 y.c.heard), AV.v (Value.int IntKind.i64 y.c.wt),
    AV.v (Value.int IntKind.i64 y.c.en), AV.v (Value.int IntKind.i64 y.c.go)]), some (Blk.arr (10 : Nat) (List.length y.P) (lsF Pc.c y.P)), some (Blk.row [AV.v (Value.string y.d.who), AV.v
    (Value.int IntKind.i64 y.d.most), AV.hs (3 : Nat) (0 : Nat) (List.length y.l), AV.v (Value.int IntKind.i64 y.d.now), AV.v (Value.int IntKind.i64 y.d.heard)]), some (Blk.arr (10 : Nat)
    (List.length y.l) (lsF Ro.c y.l)), some (Blk.arr (10 : Nat) (List.length y.os) (lsF Oc.c y.os)), some (Blk.arr (10 : Nat) (List.length y.os) (lsF Oc.c y.os))])) := by kernel_rfl
theorem r0g' (y z : Fy) (o : List Od) (os2 : List Oc) (u u' : Tx) (hG : Answers Tryd.prog Γm 62 [.ptr 0 0, txV (y.acts.getD y.i default).tx] (y.c.bl y.P) (.tup [txV u, .v (.int .i64 0)]) [some (z.c.rowJ 2 z.P.length), none] [lsP z.P]) (hR : Answers Tryd.prog Γm 67 [.ptr 0 0, txV (y.acts.getD y.i default).tx] (y.d.bl y.l) (.tup [txV u', .v (.int .i64 0)]) [some (z.d.rowJ 2 z.l.length), none] [lsR z.l]) (hO : Answers Tryd.prog Γm 65 [.ptr 0 0] (z.c.bl z.P) (.hs 2 0 o.length) ((z.c.bl z.P).map some) [lsO o]) (hN : Answers Tryd.prog Γm 70 [.ptr 0 0] (z.c.bl z.P) (.tup [.v (.int .i64 z.c.wt), .v (.int .i64 z.c.en), .v (.int .i64 z.c.go)]) ((z.c.bl z.P).map some) []) (hl : z.l.length ≤ 100000) : roundE (P := Tryd.prog) (Γ := Γm) [CT.at 62 hG, CT.at 67 hR, CT.atN 65 hO, CT.atN 70 hN, hCt z.d z.l hl] (LW [] y z (y.acts.getD y.i default) o os2) false 0 0 (lw 0) lv0' nl0' nCP (S0' y).1 (S0' y).2 =
  Tree.br (bif decide ((↑y.i : Int) < (↑(List.length y.acts) : Int)) then true else false) (Tree.chk (decide ((0 : Int) ≤ (↑y.i : Int)) && decide ((↑y.i : Int) < (↑(List.length y.acts) :
    Int))) (Tree.br (decide ((List.getD y.acts y.i default).k = (0 : Int))) (Tree.chk (cl (LeL [AV.ptr (0 : Nat) (0 : Nat), AV.agg [AV.v (Value.int IntKind.i64 (List.getD y.acts y.i
    default).tx.k), AV.v (Value.string (List.getD y.acts y.i default).tx.fr), AV.v (Value.string (List.getD y.acts y.i default).tx.to), AV.v (Value.string (List.getD y.acts y.i
    default).tx.ky), AV.v (Value.string (List.getD y.acts y.i default).tx.vl), AV.v (Value.int IntKind.i64 (List.getD y.acts y.i default).tx.am), AV.v (Value.int IntKind.i64 (List.getD
    y.acts y.i default).tx.nn)]] [AV.ptr (0 : Nat) (0 : Nat), AV.agg [AV.v (Value.int IntKind.i64 (List.getD y.acts y.i default).tx.k), AV.v (Value.string (List.getD y.acts y.i
    default).tx.fr), AV.v (Value.string (List.getD y.acts y.i default).tx.to), AV.v (Value.string (List.getD y.acts y.i default).tx.ky), AV.v (Value.string (List.getD y.acts y.i
    default).tx.vl), AV.v (Value.int IntKind.i64 (List.getD y.acts y.i default).tx.am), AV.v (Value.int IntKind.i64 (List.getD y.acts y.i default).tx.nn)]] ∧ LeH [some (Blk.row [AV.v
    (Value.string y.c.who), AV.v (Value.int IntKind.i64 y.c.most), AV.hs (1 : Nat) (0 : Nat) (List.length y.P), AV.v (Value.int IntKind.i64 y.c.now), AV.v (Value.int IntKind.i64 y.c.heard),
    AV.v (Value.int IntKind.i64 y.c.wt), AV.v (Value.int IntKind.i64 y.c.en), AV.v (Value.int IntKind.i64 y.c.go)]), some (Blk.arr (10 : Nat) (List.length y.P) (lsF Pc.c y.P))] [some
    (Blk.row [AV.v (Value.string y.c.who), AV.v (Value.int IntKind.i64 y.c.most), AV.hs (1 : Nat) (0 : Nat) (List.length y.P), AV.v (Value.int IntKind.i64 y.c.now), AV.v (Value.int
    IntKind.i64 y.c.heard), AV.v (Value.int IntKind.i64 y.c.wt), AV.v (Value.int IntKind.i64 y.c.en), AV.v (Value.int IntKind.i64 y.c.go)]), some (Blk.arr (10 : Nat) (List.length y.P) (lsF
    Pc.c y.P))])) (Tree.chk (cl (LeL [AV.ptr (0 : Nat) (0 : Nat), AV.agg [AV.v (Value.int IntKind.i64 (List.getD y.acts y.i default).tx.k), AV.v (Value.string (List.getD y.acts y.i
    default).tx.fr), AV.v (Value.string (List.getD y.acts y.i default).tx.to), AV.v (Value.string (List.getD y.acts y.i default).tx.ky), AV.v (Value.string (List.getD y.acts y.i
    default).tx.vl), AV.v (Value.int IntKind.i64 (List.getD y.acts y.i default).tx.am), AV.v (Value.int IntKind.i64 (List.getD y.acts y.i default).tx.nn)]] [AV.ptr (0 : Nat) (0 : Nat),
    AV.agg [AV.v (Value.int IntKind.i64 (List.getD y.acts y.i default).tx.k), AV.v (Value.string (List.getD y.acts y.i default).tx.fr), AV.v (Value.string (List.getD y.acts y.i
    default).tx.to), AV.v (Value.string (List.getD y.acts y.i default).tx.ky), AV.v (Value.string (List.getD y.acts y.i default).tx.vl), AV.v (Value.int IntKind.i64 (List.getD y.acts y.i
    default).tx.am), AV.v (Value.int IntKind.i64 (List.getD y.acts y.i default).tx.nn)]] ∧ LeH [some (Blk.row [AV.v (Value.string y.d.who), AV.v (Value.int IntKind.i64 y.d.most), AV.hs (1 :
    Nat) (0 : Nat) (List.length y.l), AV.v (Value.int IntKind.i64 y.d.now), AV.v (Value.int IntKind.i64 y.d.heard)]), some (Blk.arr (10 : Nat) (List.length y.l) (lsF Ro.c y.l))] [some
    (Blk.row [AV.v (Value.string y.d.who), AV.v (Value.int IntKind.i64 y.d.most), AV.hs (1 : Nat) (0 : Nat) (List.length y.l), AV.v (Value.int IntKind.i64 y.d.now), AV.v (Value.int
    IntKind.i64 y.d.heard)]), some (Blk.arr (10 : Nat) (List.length y.l) (lsF Ro.c y.l))])) (Tree.br (bif !(decide (u.k = u'.k) && (decide (u.fr = u'.fr) && (decide (u.to = u'.to) && (decide
    (u.ky = u'.ky) && (decide (u.vl = u'.vl) && (decide (u.am = u'.am) && decide (u.nn = u'.nn))))))) then true else false) (Tree.leaf (Out.mk AEx.ret [AV.ptr (0 : Nat) (0 : Nat), AV.ptr (2
    : Nat) (0 : Nat), AV.hs (4 : Nat) (0 : Nat) (List.length y.os), AV.hs (5 : Nat) (0 : Nat) (List.length y.os), AV.v (Value.int IntKind.i64 (↑y.i : Int)), AV.sl (9 : Nat) (List.length
    y.acts) (lsF Ac.c y.acts)] [some (Blk.row [AV.v (Value.string z.c.who), AV.v (Value.int IntKind.i64 z.c.most), AV.hs (1 : Nat) (0 : Nat) (List.length z.P), AV.v (Value.int IntKind.i64
    z.c.now), AV.v (Value.int IntKind.i64 z.c.heard), AV.v (Value.int IntKind.i64 z.c.wt), AV.v (Value.int IntKind.i64 z.c.en), AV.v (Value.int IntKind.i64 z.c.go)]), some (Blk.arr (10 :
    Nat) (List.length z.P) (lsF Pc.c z.P)), some (Blk.row [AV.v (Value.string z.d.who), AV.v (Value.int IntKind.i64 z.d.most), AV.hs (3 : Nat) (0 : Nat) (List.length z.l), AV.v (Value.int
    IntKind.i64 z.d.now), AV.v (Value.int IntKind.i64 z.d.heard)]), some (Blk.arr (10 : Nat) (List.length z.l) (lsF Ro.c z.l)), some (Blk.arr (10 : Nat) (List.length y.os) (lsF Oc.c y.os)),
    some (Blk.arr (10 : Nat) (List.length y.os) (lsF Oc.c y.os))])) (Tree.chk (cl ([AV.ptr (0 : Nat) (0 : Nat)] = [AV.ptr (0 : Nat) (0 : Nat)] ∧ [Blk.row [AV.v (Value.string z.c.who), AV.v
    (Value.int IntKind.i64 z.c.most), AV.hs (1 : Nat) (0 : Nat) (List.length z.P), AV.v (Value.int IntKind.i64 z.c.now), AV.v (Value.int IntKind.i64 z.c.heard), AV.v (Value.int IntKind.i64
    z.c.wt), AV.v (Value.int IntKind.i64 z.c.en), AV.v (Value.int IntKind.i64 z.c.go)], Blk.arr (10 : Nat) (List.length z.P) (lsF Pc.c z.P)] = [Blk.row [AV.v (Value.string z.c.who), AV.v
    (Value.int IntKind.i64 z.c.most), AV.hs (1 : Nat) (0 : Nat) (List.length z.P), AV.v (Value.int IntKind.i64 z.c.now), AV.v (Value.int IntKind.i64 z.c.heard), AV.v (Value.int IntKind.i64
    z.c.wt), AV.v (Value.int IntKind.i64 z.c.en), AV.v (Value.int IntKind.i64 z.c.go)], Blk.arr (10 : Nat) (List.length z.P) (lsF Pc.c z.P)])) (Tree.chk (cl ([AV.ptr (0 : Nat) (0 : Nat)] =
    [AV.ptr (0 : Nat) (0 : Nat)] ∧ [Blk.row [AV.v (Value.string z.c.who), AV.v (Value.int IntKind.i64 z.c.most), AV.hs (1 : Nat) (0 : Nat) (List.length z.P), AV.v (Value.int IntKind.i64
    z.c.now), AV.v (Value.int IntKind.i64 z.c.heard), AV.v (Value.int IntKind.i64 z.c.wt), AV.v (Value.int IntKind.i64 z.c.en), AV.v (Value.int IntKind.i64 z.c.go)], Blk.arr (10 : Nat)
    (List.length z.P) (lsF Pc.c z.P)] = [Blk.row [AV.v (Value.string z.c.who), AV.v (Value.int IntKind.i64 z.c.most), AV.hs (1 : Nat) (0 : Nat) (List.length z.P), AV.v (Value.int IntKind.i64
    z.c.now), AV.v (Value.int IntKind.i64 z.c.heard), AV.v (Value.int IntKind.i64 z.c.wt), AV.v (Value.int IntKind.i64 z.c.en), AV.v (Value.int IntKind.i64 z.c.go)], Blk.arr (10 : Nat)
    (List.length z.P) (lsF Pc.c z.P)])) (Tree.chk (bif !decide ((↑(List.length o) : Int) = (↑(List.length z.l) : Int)) then true else cl ([Blk.row [AV.v (Value.string z.d.who), AV.v
    (Value.int IntKind.i64 z.d.most), AV.hs (1 : Nat) (0 : Nat) (List.length z.l), AV.v (Value.int IntKind.i64 z.d.now), AV.v (Value.int IntKind.i64 z.d.heard)], Blk.arr (10 : Nat)
    (List.length z.l) (lsF Ro.c z.l)] = [Blk.row [AV.v (Value.string z.d.who), AV.v (Value.int IntKind.i64 z.d.most), AV.hs (1 : Nat) (0 : Nat) (List.length z.l), AV.v (Value.int IntKind.i64
    z.d.now), AV.v (Value.int IntKind.i64 z.d.heard)], Blk.arr (10 : Nat) (List.length z.l) (lsF Ro.c z.l)]) && bif !decide (z.c.wt = (↑(cnt (0 : Int) z.l) : Int)) then true else cl
    ([Blk.row [AV.v (Value.string z.d.who), AV.v (Value.int IntKind.i64 z.d.most), AV.hs (1 : Nat) (0 : Nat) (List.length z.l), AV.v (Value.int IntKind.i64 z.d.now), AV.v (Value.int
    IntKind.i64 z.d.heard)], Blk.arr (10 : Nat) (List.length z.l) (lsF Ro.c z.l)] = [Blk.row [AV.v (Value.string z.d.who), AV.v (Value.int IntKind.i64 z.d.most), AV.hs (1 : Nat) (0 : Nat)
    (List.length z.l), AV.v (Value.int IntKind.i64 z.d.now), AV.v (Value.int IntKind.i64 z.d.heard)], Blk.arr (10 : Nat) (List.length z.l) (lsF Ro.c z.l)]) && bif !decide (z.c.en = (↑(cnt (1
    : Int) z.l) : Int)) then true else cl ([Blk.row [AV.v (Value.string z.d.who), AV.v (Value.int IntKind.i64 z.d.most), AV.hs (1 : Nat) (0 : Nat) (List.length z.l), AV.v (Value.int
    IntKind.i64 z.d.now), AV.v (Value.int IntKind.i64 z.d.heard)], Blk.arr (10 : Nat) (List.length z.l) (lsF Ro.c z.l)] = [Blk.row [AV.v (Value.string z.d.who), AV.v (Value.int IntKind.i64
    z.d.most), AV.hs (1 : Nat) (0 : Nat) (List.length z.l), AV.v (Value.int IntKind.i64 z.d.now), AV.v (Value.int IntKind.i64 z.d.heard)], Blk.arr (10 : Nat) (List.length z.l) (lsF Ro.c
    z.l)])) (Tree.br (bif !decide ((↑(List.length o) : Int) = (↑(List.length z.l) : Int)) then true else bif !decide (z.c.wt = (↑(cnt (0 : Int) z.l) : Int)) then true else bif !decide
    (z.c.en = (↑(cnt (1 : Int) z.l) : Int)) then true else !decide (z.c.go = (↑(cnt (2 : Int) z.l) : Int))) (Tree.leaf (Out.mk AEx.ret [AV.ptr (0 : Nat) (0 : Nat), AV.ptr (2 : Nat) (0 :
    Nat), AV.hs (4 : Nat) (0 : Nat) (List.length y.os), AV.hs (5 : Nat) (0 : Nat) (List.length y.os), AV.v (Value.int IntKind.i64 (↑y.i : Int)), AV.sl (9 : Nat) (List.length y.acts) (lsF
    Ac.c y.acts)] [some (Blk.row [AV.v (Value.string z.c.who), AV.v (Value.int IntKind.i64 z.c.most), AV.hs (1 : Nat) (0 : Nat) (List.length z.P), AV.v (Value.int IntKind.i64 z.c.now), AV.v
    (Value.int IntKind.i64 z.c.heard), AV.v (Value.int IntKind.i64 z.c.wt), AV.v (Value.int IntKind.i64 z.c.en), AV.v (Value.int IntKind.i64 z.c.go)]), some (Blk.arr (10 : Nat) (List.length
    z.P) (lsF Pc.c z.P)), some (Blk.row [AV.v (Value.string z.d.who), AV.v (Value.int IntKind.i64 z.d.most), AV.hs (3 : Nat) (0 : Nat) (List.length z.l), AV.v (Value.int IntKind.i64
    z.d.now), AV.v (Value.int IntKind.i64 z.d.heard)]), some (Blk.arr (10 : Nat) (List.length z.l) (lsF Ro.c z.l)), some (Blk.arr (10 : Nat) (List.length y.os) (lsF Oc.c y.os)), some
    (Blk.arr (10 : Nat) (List.length y.os) (lsF Oc.c y.os))])) (Tree.chk (cl (LeL [AV.ptr (0 : Nat) (0 : Nat), AV.ptr (2 : Nat) (0 : Nat), AV.hs (4 : Nat) (0 : Nat) (List.length y.os), AV.hs
    (5 : Nat) (0 : Nat) (List.length y.os), AV.hs (6 : Nat) (0 : Nat) (List.length o), AV.v (Value.int IntKind.i64 (0 : Int)), AV.v (Value.int IntKind.i64 (↑y.i : Int)), AV.sl (9 : Nat)
    (List.length y.acts) (lsF Ac.c y.acts)] [AV.ptr (0 : Nat) (0 : Nat), AV.ptr (2 : Nat) (0 : Nat), AV.hs (4 : Nat) (0 : Nat) (List.length z.os), AV.hs (5 : Nat) (0 : Nat) (List.length
    z.os), AV.hs (6 : Nat) (0 : Nat) (List.length o), AV.v (Value.int IntKind.i64 (↑(0 : Nat) : Int)), AV.v (Value.int IntKind.i64 (↑z.i : Int)), AV.sl (9 : Nat) (List.length z.acts) (lsF
    Ac.c z.acts)] ∧ LeH [some (Blk.row [AV.v (Value.string z.c.who), AV.v (Value.int IntKind.i64 z.c.most), AV.hs (1 : Nat) (0 : Nat) (List.length z.P), AV.v (Value.int IntKind.i64 z.c.now),
    AV.v (Value.int IntKind.i64 z.c.heard), AV.v (Value.int IntKind.i64 z.c.wt), AV.v (Value.int IntKind.i64 z.c.en), AV.v (Value.int IntKind.i64 z.c.go)]), some (Blk.arr (10 : Nat)
    (List.length z.P) (lsF Pc.c z.P)), some (Blk.row [AV.v (Value.string z.d.who), AV.v (Value.int IntKind.i64 z.d.most), AV.hs (3 : Nat) (0 : Nat) (List.length z.l), AV.v (Value.int
    IntKind.i64 z.d.now), AV.v (Value.int IntKind.i64 z.d.heard)]), some (Blk.arr (10 : Nat) (List.length z.l) (lsF Ro.c z.l)), some (Blk.arr (10 : Nat) (List.length y.os) (lsF Oc.c y.os)),
    some (Blk.arr (10 : Nat) (List.length y.os) (lsF Oc.c y.os)), some (Blk.arr (8 : Nat) (List.length o) (lsF Od.c o))] [some (Blk.row [AV.v (Value.string z.c.who), AV.v (Value.int
    IntKind.i64 z.c.most), AV.hs (1 : Nat) (0 : Nat) (List.length z.P), AV.v (Value.int IntKind.i64 z.c.now), AV.v (Value.int IntKind.i64 z.c.heard), AV.v (Value.int IntKind.i64 z.c.wt),
    AV.v (Value.int IntKind.i64 z.c.en), AV.v (Value.int IntKind.i64 z.c.go)]), some (Blk.arr (10 : Nat) (List.length z.P) (lsF Pc.c z.P)), some (Blk.row [AV.v (Value.string z.d.who), AV.v
    (Value.int IntKind.i64 z.d.most), AV.hs (3 : Nat) (0 : Nat) (List.length z.l), AV.v (Value.int IntKind.i64 z.d.now), AV.v (Value.int IntKind.i64 z.d.heard)]), some (Blk.arr (10 : Nat)
    (List.length z.l) (lsF Ro.c z.l)), some (Blk.arr (10 : Nat) (List.length z.os) (lsF Oc.c z.os)), some (Blk.arr (10 : Nat) (List.length z.os) (lsF Oc.c z.os)), some (Blk.arr (8 : Nat)
    (List.length o) (lsF Od.c o))])) (Tree.leaf (Out.mk AEx.normal [AV.ptr (0 : Nat) (0 : Nat), AV.ptr (2 : Nat) (0 : Nat), AV.hs (4 : Nat) (0 : Nat) (List.length z.os), AV.hs (5 : Nat) (0 :
    Nat) (List.length z.os), AV.v (Value.int IntKind.i64 (IntKind.wrap IntKind.i64 ((↑z.i : Int) + (1 : Int)))), AV.sl (9 : Nat) (List.length z.acts) (lsF Ac.c z.acts)] [some (Blk.row [AV.v
    (Value.string z.c.who), AV.v (Value.int IntKind.i64 z.c.most), AV.hs (1 : Nat) (0 : Nat) (List.length z.P), AV.v (Value.int IntKind.i64 z.c.now), AV.v (Value.int IntKind.i64 z.c.heard),
    AV.v (Value.int IntKind.i64 z.c.wt), AV.v (Value.int IntKind.i64 z.c.en), AV.v (Value.int IntKind.i64 z.c.go)]), some (Blk.arr (10 : Nat) (List.length z.P) (lsF Pc.c z.P)), some (Blk.row
    [AV.v (Value.string z.d.who), AV.v (Value.int IntKind.i64 z.d.most), AV.hs (3 : Nat) (0 : Nat) (List.length z.l), AV.v (Value.int IntKind.i64 z.d.now), AV.v (Value.int IntKind.i64
    z.d.heard)]), some (Blk.arr (10 : Nat) (List.length z.l) (lsF Ro.c z.l)), some (Blk.arr (10 : Nat) (List.length z.os) (lsF Oc.c z.os)), some (Blk.arr (10 : Nat) (List.length z.os) (lsF
    Oc.c z.os))])))))))))) (Tree.br (decide ((List.getD y.acts y.i default).k = (1 : Int))) Tree.fail (Tree.br (decide ((List.getD y.acts y.i default).k = (2 : Int))) (Tree.chk (cl (LeL
    [AV.ptr (0 : Nat) (0 : Nat), AV.ptr (2 : Nat) (0 : Nat), AV.hs (4 : Nat) (0 : Nat) (List.length y.os), AV.hs (5 : Nat) (0 : Nat) (List.length y.os), AV.ptr (6 : Nat) (0 : Nat), AV.v
    (Value.int IntKind.i64 (0 : Int)), AV.v (Value.int IntKind.i64 (↑y.i : Int)), AV.sl (9 : Nat) (List.length y.acts) (lsF Ac.c y.acts)] [AV.ptr (0 : Nat) (0 : Nat), AV.ptr (2 : Nat) (0 :
    Nat), AV.hs (4 : Nat) (0 : Nat) (List.length y.os), AV.hs (5 : Nat) (0 : Nat) (List.length y.os), AV.ptr (6 : Nat) (0 : Nat), AV.v (Value.int IntKind.i64 (↑(0 : Nat) : Int)), AV.v
    (Value.int IntKind.i64 (↑y.i : Int)), AV.sl (9 : Nat) (List.length y.acts) (lsF Ac.c y.acts)] ∧ LeH [some (Blk.row [AV.v (Value.string y.c.who), AV.v (Value.int IntKind.i64 y.c.most),
    AV.hs (1 : Nat) (0 : Nat) (List.length y.P), AV.v (Value.int IntKind.i64 y.c.now), AV.v (Value.int IntKind.i64 y.c.heard), AV.v (Value.int IntKind.i64 y.c.wt), AV.v (Value.int
    IntKind.i64 y.c.en), AV.v (Value.int IntKind.i64 y.c.go)]), some (Blk.arr (10 : Nat) (List.length y.P) (lsF Pc.c y.P)), some (Blk.row [AV.v (Value.string y.d.who), AV.v (Value.int
    IntKind.i64 y.d.most), AV.hs (3 : Nat) (0 : Nat) (List.length y.l), AV.v (Value.int IntKind.i64 y.d.now), AV.v (Value.int IntKind.i64 y.d.heard)]), some (Blk.arr (10 : Nat) (List.length
    y.l) (lsF Ro.c y.l)), some (Blk.arr (10 : Nat) (List.length y.os) (lsF Oc.c y.os)), some (Blk.arr (10 : Nat) (List.length y.os) (lsF Oc.c y.os)), some (Blk.row [AV.v (Value.int
    IntKind.i64 (List.getD y.acts y.i default).k), AV.v (Value.int IntKind.i64 (List.getD y.acts y.i default).tx.k), AV.v (Value.string (List.getD y.acts y.i default).tx.fr), AV.v
    (Value.string (List.getD y.acts y.i default).tx.to), AV.v (Value.string (List.getD y.acts y.i default).tx.ky), AV.v (Value.string (List.getD y.acts y.i default).tx.vl), AV.v (Value.int
    IntKind.i64 (List.getD y.acts y.i default).tx.am), AV.v (Value.int IntKind.i64 (List.getD y.acts y.i default).tx.nn), AV.sl (10 : Nat) (List.length (List.getD y.acts (Int.toNat (↑y.i :
    Int)) default).os) (lsF Oc.c (List.getD y.acts (Int.toNat (↑y.i : Int)) default).os)])] [some (Blk.row [AV.v (Value.string y.c.who), AV.v (Value.int IntKind.i64 y.c.most), AV.hs (1 :
    Nat) (0 : Nat) (List.length y.P), AV.v (Value.int IntKind.i64 y.c.now), AV.v (Value.int IntKind.i64 y.c.heard), AV.v (Value.int IntKind.i64 y.c.wt), AV.v (Value.int IntKind.i64 y.c.en),
    AV.v (Value.int IntKind.i64 y.c.go)]), some (Blk.arr (10 : Nat) (List.length y.P) (lsF Pc.c y.P)), some (Blk.row [AV.v (Value.string y.d.who), AV.v (Value.int IntKind.i64 y.d.most),
    AV.hs (3 : Nat) (0 : Nat) (List.length y.l), AV.v (Value.int IntKind.i64 y.d.now), AV.v (Value.int IntKind.i64 y.d.heard)]), some (Blk.arr (10 : Nat) (List.length y.l) (lsF Ro.c y.l)),
    some (Blk.arr (10 : Nat) (List.length y.os) (lsF Oc.c y.os)), some (Blk.arr (10 : Nat) (List.length y.os) (lsF Oc.c y.os)), some (Blk.row [AV.v (Value.int IntKind.i64 (List.getD y.acts
    y.i default).k), AV.v (Value.int IntKind.i64 (List.getD y.acts y.i default).tx.k), AV.v (Value.string (List.getD y.acts y.i default).tx.fr), AV.v (Value.string (List.getD y.acts y.i
    default).tx.to), AV.v (Value.string (List.getD y.acts y.i default).tx.ky), AV.v (Value.string (List.getD y.acts y.i default).tx.vl), AV.v (Value.int IntKind.i64 (List.getD y.acts y.i
    default).tx.am), AV.v (Value.int IntKind.i64 (List.getD y.acts y.i default).tx.nn), AV.sl (10 : Nat) (List.length (List.getD y.acts y.i default).os) (lsF Oc.c (List.getD y.acts y.i
    default).os)])])) Tree.fail) (Tree.chk (cl ([AV.ptr (0 : Nat) (0 : Nat)] = [AV.ptr (0 : Nat) (0 : Nat)] ∧ [Blk.row [AV.v (Value.string y.c.who), AV.v (Value.int IntKind.i64 y.c.most),
    AV.hs (1 : Nat) (0 : Nat) (List.length y.P), AV.v (Value.int IntKind.i64 y.c.now), AV.v (Value.int IntKind.i64 y.c.heard), AV.v (Value.int IntKind.i64 y.c.wt), AV.v (Value.int
    IntKind.i64 y.c.en), AV.v (Value.int IntKind.i64 y.c.go)], Blk.arr (10 : Nat) (List.length y.P) (lsF Pc.c y.P)] = [Blk.row [AV.v (Value.string z.c.who), AV.v (Value.int IntKind.i64
    z.c.most), AV.hs (1 : Nat) (0 : Nat) (List.length z.P), AV.v (Value.int IntKind.i64 z.c.now), AV.v (Value.int IntKind.i64 z.c.heard), AV.v (Value.int IntKind.i64 z.c.wt), AV.v (Value.int
    IntKind.i64 z.c.en), AV.v (Value.int IntKind.i64 z.c.go)], Blk.arr (10 : Nat) (List.length z.P) (lsF Pc.c z.P)])) (Tree.chk (cl ([AV.ptr (0 : Nat) (0 : Nat)] = [AV.ptr (0 : Nat) (0 :
    Nat)] ∧ [Blk.row [AV.v (Value.string y.c.who), AV.v (Value.int IntKind.i64 y.c.most), AV.hs (1 : Nat) (0 : Nat) (List.length y.P), AV.v (Value.int IntKind.i64 y.c.now), AV.v (Value.int
    IntKind.i64 y.c.heard), AV.v (Value.int IntKind.i64 y.c.wt), AV.v (Value.int IntKind.i64 y.c.en), AV.v (Value.int IntKind.i64 y.c.go)], Blk.arr (10 : Nat) (List.length y.P) (lsF Pc.c
    y.P)] = [Blk.row [AV.v (Value.string z.c.who), AV.v (Value.int IntKind.i64 z.c.most), AV.hs (1 : Nat) (0 : Nat) (List.length z.P), AV.v (Value.int IntKind.i64 z.c.now), AV.v (Value.int
    IntKind.i64 z.c.heard), AV.v (Value.int IntKind.i64 z.c.wt), AV.v (Value.int IntKind.i64 z.c.en), AV.v (Value.int IntKind.i64 z.c.go)], Blk.arr (10 : Nat) (List.length z.P) (lsF Pc.c
    z.P)])) (Tree.chk (bif !decide ((↑(List.length o) : Int) = (↑(List.length y.l) : Int)) then true else cl ([Blk.row [AV.v (Value.string y.d.who), AV.v (Value.int IntKind.i64 y.d.most),
    AV.hs (1 : Nat) (0 : Nat) (List.length y.l), AV.v (Value.int IntKind.i64 y.d.now), AV.v (Value.int IntKind.i64 y.d.heard)], Blk.arr (10 : Nat) (List.length y.l) (lsF Ro.c y.l)] =
    [Blk.row [AV.v (Value.string z.d.who), AV.v (Value.int IntKind.i64 z.d.most), AV.hs (1 : Nat) (0 : Nat) (List.length z.l), AV.v (Value.int IntKind.i64 z.d.now), AV.v (Value.int
    IntKind.i64 z.d.heard)], Blk.arr (10 : Nat) (List.length z.l) (lsF Ro.c z.l)]) && bif !decide (z.c.wt = (↑(cnt (0 : Int) z.l) : Int)) then true else cl ([Blk.row [AV.v (Value.string
    y.d.who), AV.v (Value.int IntKind.i64 y.d.most), AV.hs (1 : Nat) (0 : Nat) (List.length y.l), AV.v (Value.int IntKind.i64 y.d.now), AV.v (Value.int IntKind.i64 y.d.heard)], Blk.arr (10 :
    Nat) (List.length y.l) (lsF Ro.c y.l)] = [Blk.row [AV.v (Value.string z.d.who), AV.v (Value.int IntKind.i64 z.d.most), AV.hs (1 : Nat) (0 : Nat) (List.length z.l), AV.v (Value.int
    IntKind.i64 z.d.now), AV.v (Value.int IntKind.i64 z.d.heard)], Blk.arr (10 : Nat) (List.length z.l) (lsF Ro.c z.l)]) && bif !decide (z.c.en = (↑(cnt (1 : Int) z.l) : Int)) then true else
    cl ([Blk.row [AV.v (Value.string y.d.who), AV.v (Value.int IntKind.i64 y.d.most), AV.hs (1 : Nat) (0 : Nat) (List.length y.l), AV.v (Value.int IntKind.i64 y.d.now), AV.v (Value.int
    IntKind.i64 y.d.heard)], Blk.arr (10 : Nat) (List.length y.l) (lsF Ro.c y.l)] = [Blk.row [AV.v (Value.string z.d.who), AV.v (Value.int IntKind.i64 z.d.most), AV.hs (1 : Nat) (0 : Nat)
    (List.length z.l), AV.v (Value.int IntKind.i64 z.d.now), AV.v (Value.int IntKind.i64 z.d.heard)], Blk.arr (10 : Nat) (List.length z.l) (lsF Ro.c z.l)])) (Tree.br (bif !decide
    ((↑(List.length o) : Int) = (↑(List.length y.l) : Int)) then true else bif !decide (z.c.wt = (↑(cnt (0 : Int) z.l) : Int)) then true else bif !decide (z.c.en = (↑(cnt (1 : Int) z.l) :
    Int)) then true else !decide (z.c.go = (↑(cnt (2 : Int) z.l) : Int))) (Tree.leaf (Out.mk AEx.ret [AV.ptr (0 : Nat) (0 : Nat), AV.ptr (2 : Nat) (0 : Nat), AV.hs (4 : Nat) (0 : Nat)
    (List.length y.os), AV.hs (5 : Nat) (0 : Nat) (List.length y.os), AV.v (Value.int IntKind.i64 (↑y.i : Int)), AV.sl (9 : Nat) (List.length y.acts) (lsF Ac.c y.acts)] [some (Blk.row [AV.v
    (Value.string y.c.who), AV.v (Value.int IntKind.i64 y.c.most), AV.hs (1 : Nat) (0 : Nat) (List.length y.P), AV.v (Value.int IntKind.i64 y.c.now), AV.v (Value.int IntKind.i64 y.c.heard),
    AV.v (Value.int IntKind.i64 y.c.wt), AV.v (Value.int IntKind.i64 y.c.en), AV.v (Value.int IntKind.i64 y.c.go)]), some (Blk.arr (10 : Nat) (List.length y.P) (lsF Pc.c y.P)), some (Blk.row
    [AV.v (Value.string y.d.who), AV.v (Value.int IntKind.i64 y.d.most), AV.hs (3 : Nat) (0 : Nat) (List.length y.l), AV.v (Value.int IntKind.i64 y.d.now), AV.v (Value.int IntKind.i64
    y.d.heard)]), some (Blk.arr (10 : Nat) (List.length y.l) (lsF Ro.c y.l)), some (Blk.arr (10 : Nat) (List.length y.os) (lsF Oc.c y.os)), some (Blk.arr (10 : Nat) (List.length y.os) (lsF
    Oc.c y.os))])) (Tree.chk (cl (LeL [AV.ptr (0 : Nat) (0 : Nat), AV.ptr (2 : Nat) (0 : Nat), AV.hs (4 : Nat) (0 : Nat) (List.length y.os), AV.hs (5 : Nat) (0 : Nat) (List.length y.os),
    AV.hs (6 : Nat) (0 : Nat) (List.length o), AV.v (Value.int IntKind.i64 (0 : Int)), AV.v (Value.int IntKind.i64 (↑y.i : Int)), AV.sl (9 : Nat) (List.length y.acts) (lsF Ac.c y.acts)]
    [AV.ptr (0 : Nat) (0 : Nat), AV.ptr (2 : Nat) (0 : Nat), AV.hs (4 : Nat) (0 : Nat) (List.length z.os), AV.hs (5 : Nat) (0 : Nat) (List.length z.os), AV.hs (6 : Nat) (0 : Nat)
    (List.length o), AV.v (Value.int IntKind.i64 (↑(0 : Nat) : Int)), AV.v (Value.int IntKind.i64 (↑z.i : Int)), AV.sl (9 : Nat) (List.length z.acts) (lsF Ac.c z.acts)] ∧ LeH [some (Blk.row
    [AV.v (Value.string y.c.who), AV.v (Value.int IntKind.i64 y.c.most), AV.hs (1 : Nat) (0 : Nat) (List.length y.P), AV.v (Value.int IntKind.i64 y.c.now), AV.v (Value.int IntKind.i64
    y.c.heard), AV.v (Value.int IntKind.i64 y.c.wt), AV.v (Value.int IntKind.i64 y.c.en), AV.v (Value.int IntKind.i64 y.c.go)]), some (Blk.arr (10 : Nat) (List.length y.P) (lsF Pc.c y.P)),
    some (Blk.row [AV.v (Value.string y.d.who), AV.v (Value.int IntKind.i64 y.d.most), AV.hs (3 : Nat) (0 : Nat) (List.length y.l), AV.v (Value.int IntKind.i64 y.d.now), AV.v (Value.int
    IntKind.i64 y.d.heard)]), some (Blk.arr (10 : Nat) (List.length y.l) (lsF Ro.c y.l)), some (Blk.arr (10 : Nat) (List.length y.os) (lsF Oc.c y.os)), some (Blk.arr (10 : Nat) (List.length
    y.os) (lsF Oc.c y.os)), some (Blk.arr (8 : Nat) (List.length o) (lsF Od.c o))] [some (Blk.row [AV.v (Value.string z.c.who), AV.v (Value.int IntKind.i64 z.c.most), AV.hs (1 : Nat) (0 :
    Nat) (List.length z.P), AV.v (Value.int IntKind.i64 z.c.now), AV.v (Value.int IntKind.i64 z.c.heard), AV.v (Value.int IntKind.i64 z.c.wt), AV.v (Value.int IntKind.i64 z.c.en), AV.v
    (Value.int IntKind.i64 z.c.go)]), some (Blk.arr (10 : Nat) (List.length z.P) (lsF Pc.c z.P)), some (Blk.row [AV.v (Value.string z.d.who), AV.v (Value.int IntKind.i64 z.d.most), AV.hs (3
    : Nat) (0 : Nat) (List.length z.l), AV.v (Value.int IntKind.i64 z.d.now), AV.v (Value.int IntKind.i64 z.d.heard)]), some (Blk.arr (10 : Nat) (List.length z.l) (lsF Ro.c z.l)), some
    (Blk.arr (10 : Nat) (List.length z.os) (lsF Oc.c z.os)), some (Blk.arr (10 : Nat) (List.length z.os) (lsF Oc.c z.os)), some (Blk.arr (8 : Nat) (List.length o) (lsF Od.c o))])) (Tree.leaf
    (Out.mk AEx.normal [AV.ptr (0 : Nat) (0 : Nat), AV.ptr (2 : Nat) (0 : Nat), AV.hs (4 : Nat) (0 : Nat) (List.length z.os), AV.hs (5 : Nat) (0 : Nat) (List.length z.os), AV.v (Value.int
    IntKind.i64 (IntKind.wrap IntKind.i64 ((↑z.i : Int) + (1 : Int)))), AV.sl (9 : Nat) (List.length z.acts) (lsF Ac.c z.acts)] [some (Blk.row [AV.v (Value.string z.c.who), AV.v (Value.int
    IntKind.i64 z.c.most), AV.hs (1 : Nat) (0 : Nat) (List.length z.P), AV.v (Value.int IntKind.i64 z.c.now), AV.v (Value.int IntKind.i64 z.c.heard), AV.v (Value.int IntKind.i64 z.c.wt),
    AV.v (Value.int IntKind.i64 z.c.en), AV.v (Value.int IntKind.i64 z.c.go)]), some (Blk.arr (10 : Nat) (List.length z.P) (lsF Pc.c z.P)), some (Blk.row [AV.v (Value.string z.d.who), AV.v
    (Value.int IntKind.i64 z.d.most), AV.hs (3 : Nat) (0 : Nat) (List.length z.l), AV.v (Value.int IntKind.i64 z.d.now), AV.v (Value.int IntKind.i64 z.d.heard)]), some (Blk.arr (10 : Nat)
    (List.length z.l) (lsF Ro.c z.l)), some (Blk.arr (10 : Nat) (List.length z.os) (lsF Oc.c z.os)), some (Blk.arr (10 : Nat) (List.length z.os) (lsF Oc.c z.os))]))))))))))) (Tree.leaf
    (Out.mk (AEx.exit (0 : Nat)) [AV.ptr (0 : Nat) (0 : Nat), AV.ptr (2 : Nat) (0 : Nat), AV.hs (4 : Nat) (0 : Nat) (List.length y.os), AV.hs (5 : Nat) (0 : Nat) (List.length y.os), AV.v
    (Value.int IntKind.i64 (↑y.i : Int)), AV.sl (9 : Nat) (List.length y.acts) (lsF Ac.c y.acts)] [some (Blk.row [AV.v (Value.string y.c.who), AV.v (Value.int IntKind.i64 y.c.most), AV.hs (1
    : Nat) (0 : Nat) (List.length y.P), AV.v (Value.int IntKind.i64 y.c.now), AV.v (Value.int IntKind.i64 y.c.heard), AV.v (Value.int IntKind.i64 y.c.wt), AV.v (Value.int IntKind.i64
    y.c.en), AV.v (Value.int IntKind.i64 y.c.go)]), some (Blk.arr (10 : Nat) (List.length y.P) (lsF Pc.c y.P)), some (Blk.row [AV.v (Value.string y.d.who), AV.v (Value.int IntKind.i64
    y.d.most), AV.hs (3 : Nat) (0 : Nat) (List.length y.l), AV.v (Value.int IntKind.i64 y.d.now), AV.v (Value.int IntKind.i64 y.d.heard)]), some (Blk.arr (10 : Nat) (List.length y.l) (lsF
    Ro.c y.l)), some (Blk.arr (10 : Nat) (List.length y.os) (lsF Oc.c y.os)), some (Blk.arr (10 : Nat) (List.length y.os) (lsF Oc.c y.os))])) := by kernel_rfl
theorem r0f' (y z : Fy) (o : List Od) (os2 : List Oc) (u u' : Tx) (e e' : Int) (hG : Answers Tryd.prog Γm 62 [.ptr 0 0, txV (y.acts.getD y.i default).tx] (y.c.bl y.P) (.tup [txV u, .v (.int .i64 e)]) ((y.c.bl y.P).map some) []) (hR : Answers Tryd.prog Γm 67 [.ptr 0 0, txV (y.acts.getD y.i default).tx] (y.d.bl y.l) (.tup [txV u', .v (.int .i64 e')]) ((y.d.bl y.l).map some) []) (hO : Answers Tryd.prog Γm 65 [.ptr 0 0] (z.c.bl z.P) (.hs 2 0 o.length) ((z.c.bl z.P).map some) [lsO o]) (hN : Answers Tryd.prog Γm 70 [.ptr 0 0] (z.c.bl z.P) (.tup [.v (.int .i64 z.c.wt), .v (.int .i64 z.c.en), .v (.int .i64 z.c.go)]) ((z.c.bl z.P).map some) []) (hl : z.l.length ≤ 100000) : roundE (P := Tryd.prog) (Γ := Γm) [CT.atN 62 hG, CT.atN 67 hR, CT.atN 65 hO, CT.atN 70 hN, hCt z.d z.l hl] (LW [] y z (y.acts.getD y.i default) o os2) false 0 0 (lw 0) lv0' nl0' nCP (S0' y).1 (S0' y).2 =
  Tree.br (bif decide ((↑y.i : Int) < (↑(List.length y.acts) : Int)) then true else false) (Tree.chk (decide ((0 : Int) ≤ (↑y.i : Int)) && decide ((↑y.i : Int) < (↑(List.length y.acts) :
    Int))) (Tree.br (decide ((List.getD y.acts y.i default).k = (0 : Int))) (Tree.chk (cl ([AV.ptr (0 : Nat) (0 : Nat), AV.agg [AV.v (Value.int IntKind.i64 (List.getD y.acts y.i
    default).tx.k), AV.v (Value.string (List.getD y.acts y.i default).tx.fr), AV.v (Value.string (List.getD y.acts y.i default).tx.to), AV.v (Value.string (List.getD y.acts y.i
    default).tx.ky), AV.v (Value.string (List.getD y.acts y.i default).tx.vl), AV.v (Value.int IntKind.i64 (List.getD y.acts y.i default).tx.am), AV.v (Value.int IntKind.i64 (List.getD
    y.acts y.i default).tx.nn)]] = [AV.ptr (0 : Nat) (0 : Nat), AV.agg [AV.v (Value.int IntKind.i64 (List.getD y.acts y.i default).tx.k), AV.v (Value.string (List.getD y.acts y.i
    default).tx.fr), AV.v (Value.string (List.getD y.acts y.i default).tx.to), AV.v (Value.string (List.getD y.acts y.i default).tx.ky), AV.v (Value.string (List.getD y.acts y.i
    default).tx.vl), AV.v (Value.int IntKind.i64 (List.getD y.acts y.i default).tx.am), AV.v (Value.int IntKind.i64 (List.getD y.acts y.i default).tx.nn)]] ∧ [Blk.row [AV.v (Value.string
    y.c.who), AV.v (Value.int IntKind.i64 y.c.most), AV.hs (1 : Nat) (0 : Nat) (List.length y.P), AV.v (Value.int IntKind.i64 y.c.now), AV.v (Value.int IntKind.i64 y.c.heard), AV.v
    (Value.int IntKind.i64 y.c.wt), AV.v (Value.int IntKind.i64 y.c.en), AV.v (Value.int IntKind.i64 y.c.go)], Blk.arr (10 : Nat) (List.length y.P) (lsF Pc.c y.P)] = [Blk.row [AV.v
    (Value.string y.c.who), AV.v (Value.int IntKind.i64 y.c.most), AV.hs (1 : Nat) (0 : Nat) (List.length y.P), AV.v (Value.int IntKind.i64 y.c.now), AV.v (Value.int IntKind.i64 y.c.heard),
    AV.v (Value.int IntKind.i64 y.c.wt), AV.v (Value.int IntKind.i64 y.c.en), AV.v (Value.int IntKind.i64 y.c.go)], Blk.arr (10 : Nat) (List.length y.P) (lsF Pc.c y.P)])) (Tree.chk (cl
    ([AV.ptr (0 : Nat) (0 : Nat), AV.agg [AV.v (Value.int IntKind.i64 (List.getD y.acts y.i default).tx.k), AV.v (Value.string (List.getD y.acts y.i default).tx.fr), AV.v (Value.string
    (List.getD y.acts y.i default).tx.to), AV.v (Value.string (List.getD y.acts y.i default).tx.ky), AV.v (Value.string (List.getD y.acts y.i default).tx.vl), AV.v (Value.int IntKind.i64
    (List.getD y.acts y.i default).tx.am), AV.v (Value.int IntKind.i64 (List.getD y.acts y.i default).tx.nn)]] = [AV.ptr (0 : Nat) (0 : Nat), AV.agg [AV.v (Value.int IntKind.i64 (List.getD
    y.acts y.i default).tx.k), AV.v (Value.string (List.getD y.acts y.i default).tx.fr), AV.v (Value.string (List.getD y.acts y.i default).tx.to), AV.v (Value.string (List.getD y.acts y.i
    default).tx.ky), AV.v (Value.string (List.getD y.acts y.i default).tx.vl), AV.v (Value.int IntKind.i64 (List.getD y.acts y.i default).tx.am), AV.v (Value.int IntKind.i64 (List.getD
    y.acts y.i default).tx.nn)]] ∧ [Blk.row [AV.v (Value.string y.d.who), AV.v (Value.int IntKind.i64 y.d.most), AV.hs (1 : Nat) (0 : Nat) (List.length y.l), AV.v (Value.int IntKind.i64
    y.d.now), AV.v (Value.int IntKind.i64 y.d.heard)], Blk.arr (10 : Nat) (List.length y.l) (lsF Ro.c y.l)] = [Blk.row [AV.v (Value.string y.d.who), AV.v (Value.int IntKind.i64 y.d.most),
    AV.hs (1 : Nat) (0 : Nat) (List.length y.l), AV.v (Value.int IntKind.i64 y.d.now), AV.v (Value.int IntKind.i64 y.d.heard)], Blk.arr (10 : Nat) (List.length y.l) (lsF Ro.c y.l)]))
    (Tree.br (bif !(decide (u.k = u'.k) && (decide (u.fr = u'.fr) && (decide (u.to = u'.to) && (decide (u.ky = u'.ky) && (decide (u.vl = u'.vl) && (decide (u.am = u'.am) && decide (u.nn =
    u'.nn))))))) then true else !decide (e = e')) (Tree.leaf (Out.mk AEx.ret [AV.ptr (0 : Nat) (0 : Nat), AV.ptr (2 : Nat) (0 : Nat), AV.hs (4 : Nat) (0 : Nat) (List.length y.os), AV.hs (5 :
    Nat) (0 : Nat) (List.length y.os), AV.v (Value.int IntKind.i64 (↑y.i : Int)), AV.sl (9 : Nat) (List.length y.acts) (lsF Ac.c y.acts)] [some (Blk.row [AV.v (Value.string y.c.who), AV.v
    (Value.int IntKind.i64 y.c.most), AV.hs (1 : Nat) (0 : Nat) (List.length y.P), AV.v (Value.int IntKind.i64 y.c.now), AV.v (Value.int IntKind.i64 y.c.heard), AV.v (Value.int IntKind.i64
    y.c.wt), AV.v (Value.int IntKind.i64 y.c.en), AV.v (Value.int IntKind.i64 y.c.go)]), some (Blk.arr (10 : Nat) (List.length y.P) (lsF Pc.c y.P)), some (Blk.row [AV.v (Value.string
    y.d.who), AV.v (Value.int IntKind.i64 y.d.most), AV.hs (3 : Nat) (0 : Nat) (List.length y.l), AV.v (Value.int IntKind.i64 y.d.now), AV.v (Value.int IntKind.i64 y.d.heard)]), some
    (Blk.arr (10 : Nat) (List.length y.l) (lsF Ro.c y.l)), some (Blk.arr (10 : Nat) (List.length y.os) (lsF Oc.c y.os)), some (Blk.arr (10 : Nat) (List.length y.os) (lsF Oc.c y.os))]))
    (Tree.chk (cl ([AV.ptr (0 : Nat) (0 : Nat)] = [AV.ptr (0 : Nat) (0 : Nat)] ∧ [Blk.row [AV.v (Value.string y.c.who), AV.v (Value.int IntKind.i64 y.c.most), AV.hs (1 : Nat) (0 : Nat)
    (List.length y.P), AV.v (Value.int IntKind.i64 y.c.now), AV.v (Value.int IntKind.i64 y.c.heard), AV.v (Value.int IntKind.i64 y.c.wt), AV.v (Value.int IntKind.i64 y.c.en), AV.v (Value.int
    IntKind.i64 y.c.go)], Blk.arr (10 : Nat) (List.length y.P) (lsF Pc.c y.P)] = [Blk.row [AV.v (Value.string z.c.who), AV.v (Value.int IntKind.i64 z.c.most), AV.hs (1 : Nat) (0 : Nat)
    (List.length z.P), AV.v (Value.int IntKind.i64 z.c.now), AV.v (Value.int IntKind.i64 z.c.heard), AV.v (Value.int IntKind.i64 z.c.wt), AV.v (Value.int IntKind.i64 z.c.en), AV.v (Value.int
    IntKind.i64 z.c.go)], Blk.arr (10 : Nat) (List.length z.P) (lsF Pc.c z.P)])) (Tree.chk (cl ([AV.ptr (0 : Nat) (0 : Nat)] = [AV.ptr (0 : Nat) (0 : Nat)] ∧ [Blk.row [AV.v (Value.string
    y.c.who), AV.v (Value.int IntKind.i64 y.c.most), AV.hs (1 : Nat) (0 : Nat) (List.length y.P), AV.v (Value.int IntKind.i64 y.c.now), AV.v (Value.int IntKind.i64 y.c.heard), AV.v
    (Value.int IntKind.i64 y.c.wt), AV.v (Value.int IntKind.i64 y.c.en), AV.v (Value.int IntKind.i64 y.c.go)], Blk.arr (10 : Nat) (List.length y.P) (lsF Pc.c y.P)] = [Blk.row [AV.v
    (Value.string z.c.who), AV.v (Value.int IntKind.i64 z.c.most), AV.hs (1 : Nat) (0 : Nat) (List.length z.P), AV.v (Value.int IntKind.i64 z.c.now), AV.v (Value.int IntKind.i64 z.c.heard),
    AV.v (Value.int IntKind.i64 z.c.wt), AV.v (Value.int IntKind.i64 z.c.en), AV.v (Value.int IntKind.i64 z.c.go)], Blk.arr (10 : Nat) (List.length z.P) (lsF Pc.c z.P)])) (Tree.chk (bif
    !decide ((↑(List.length o) : Int) = (↑(List.length y.l) : Int)) then true else cl ([Blk.row [AV.v (Value.string y.d.who), AV.v (Value.int IntKind.i64 y.d.most), AV.hs (1 : Nat) (0 : Nat)
    (List.length y.l), AV.v (Value.int IntKind.i64 y.d.now), AV.v (Value.int IntKind.i64 y.d.heard)], Blk.arr (10 : Nat) (List.length y.l) (lsF Ro.c y.l)] = [Blk.row [AV.v (Value.string
    z.d.who), AV.v (Value.int IntKind.i64 z.d.most), AV.hs (1 : Nat) (0 : Nat) (List.length z.l), AV.v (Value.int IntKind.i64 z.d.now), AV.v (Value.int IntKind.i64 z.d.heard)], Blk.arr (10 :
    Nat) (List.length z.l) (lsF Ro.c z.l)]) && bif !decide (z.c.wt = (↑(cnt (0 : Int) z.l) : Int)) then true else cl ([Blk.row [AV.v (Value.string y.d.who), AV.v (Value.int IntKind.i64
    y.d.most), AV.hs (1 : Nat) (0 : Nat) (List.length y.l), AV.v (Value.int IntKind.i64 y.d.now), AV.v (Value.int IntKind.i64 y.d.heard)], Blk.arr (10 : Nat) (List.length y.l) (lsF Ro.c
    y.l)] = [Blk.row [AV.v (Value.string z.d.who), AV.v (Value.int IntKind.i64 z.d.most), AV.hs (1 : Nat) (0 : Nat) (List.length z.l), AV.v (Value.int IntKind.i64 z.d.now), AV.v (Value.int
    IntKind.i64 z.d.heard)], Blk.arr (10 : Nat) (List.length z.l) (lsF Ro.c z.l)]) && bif !decide (z.c.en = (↑(cnt (1 : Int) z.l) : Int)) then true else cl ([Blk.row [AV.v (Value.string
    y.d.who), AV.v (Value.int IntKind.i64 y.d.most), AV.hs (1 : Nat) (0 : Nat) (List.length y.l), AV.v (Value.int IntKind.i64 y.d.now), AV.v (Value.int IntKind.i64 y.d.heard)], Blk.arr (10 :
    Nat) (List.length y.l) (lsF Ro.c y.l)] = [Blk.row [AV.v (Value.string z.d.who), AV.v (Value.int IntKind.i64 z.d.most), AV.hs (1 : Nat) (0 : Nat) (List.length z.l), AV.v (Value.int
    IntKind.i64 z.d.now), AV.v (Value.int IntKind.i64 z.d.heard)], Blk.arr (10 : Nat) (List.length z.l) (lsF Ro.c z.l)])) (Tree.br (bif !decide ((↑(List.length o) : Int) = (↑(List.length
    y.l) : Int)) then true else bif !decide (z.c.wt = (↑(cnt (0 : Int) z.l) : Int)) then true else bif !decide (z.c.en = (↑(cnt (1 : Int) z.l) : Int)) then true else !decide (z.c.go = (↑(cnt
    (2 : Int) z.l) : Int))) (Tree.leaf (Out.mk AEx.ret [AV.ptr (0 : Nat) (0 : Nat), AV.ptr (2 : Nat) (0 : Nat), AV.hs (4 : Nat) (0 : Nat) (List.length y.os), AV.hs (5 : Nat) (0 : Nat)
    (List.length y.os), AV.v (Value.int IntKind.i64 (↑y.i : Int)), AV.sl (9 : Nat) (List.length y.acts) (lsF Ac.c y.acts)] [some (Blk.row [AV.v (Value.string y.c.who), AV.v (Value.int
    IntKind.i64 y.c.most), AV.hs (1 : Nat) (0 : Nat) (List.length y.P), AV.v (Value.int IntKind.i64 y.c.now), AV.v (Value.int IntKind.i64 y.c.heard), AV.v (Value.int IntKind.i64 y.c.wt),
    AV.v (Value.int IntKind.i64 y.c.en), AV.v (Value.int IntKind.i64 y.c.go)]), some (Blk.arr (10 : Nat) (List.length y.P) (lsF Pc.c y.P)), some (Blk.row [AV.v (Value.string y.d.who), AV.v
    (Value.int IntKind.i64 y.d.most), AV.hs (3 : Nat) (0 : Nat) (List.length y.l), AV.v (Value.int IntKind.i64 y.d.now), AV.v (Value.int IntKind.i64 y.d.heard)]), some (Blk.arr (10 : Nat)
    (List.length y.l) (lsF Ro.c y.l)), some (Blk.arr (10 : Nat) (List.length y.os) (lsF Oc.c y.os)), some (Blk.arr (10 : Nat) (List.length y.os) (lsF Oc.c y.os))])) (Tree.chk (cl (LeL
    [AV.ptr (0 : Nat) (0 : Nat), AV.ptr (2 : Nat) (0 : Nat), AV.hs (4 : Nat) (0 : Nat) (List.length y.os), AV.hs (5 : Nat) (0 : Nat) (List.length y.os), AV.hs (6 : Nat) (0 : Nat)
    (List.length o), AV.v (Value.int IntKind.i64 (0 : Int)), AV.v (Value.int IntKind.i64 (↑y.i : Int)), AV.sl (9 : Nat) (List.length y.acts) (lsF Ac.c y.acts)] [AV.ptr (0 : Nat) (0 : Nat),
    AV.ptr (2 : Nat) (0 : Nat), AV.hs (4 : Nat) (0 : Nat) (List.length z.os), AV.hs (5 : Nat) (0 : Nat) (List.length z.os), AV.hs (6 : Nat) (0 : Nat) (List.length o), AV.v (Value.int
    IntKind.i64 (↑(0 : Nat) : Int)), AV.v (Value.int IntKind.i64 (↑z.i : Int)), AV.sl (9 : Nat) (List.length z.acts) (lsF Ac.c z.acts)] ∧ LeH [some (Blk.row [AV.v (Value.string y.c.who),
    AV.v (Value.int IntKind.i64 y.c.most), AV.hs (1 : Nat) (0 : Nat) (List.length y.P), AV.v (Value.int IntKind.i64 y.c.now), AV.v (Value.int IntKind.i64 y.c.heard), AV.v (Value.int
    IntKind.i64 y.c.wt), AV.v (Value.int IntKind.i64 y.c.en), AV.v (Value.int IntKind.i64 y.c.go)]), some (Blk.arr (10 : Nat) (List.length y.P) (lsF Pc.c y.P)), some (Blk.row [AV.v
    (Value.string y.d.who), AV.v (Value.int IntKind.i64 y.d.most), AV.hs (3 : Nat) (0 : Nat) (List.length y.l), AV.v (Value.int IntKind.i64 y.d.now), AV.v (Value.int IntKind.i64
    y.d.heard)]), some (Blk.arr (10 : Nat) (List.length y.l) (lsF Ro.c y.l)), some (Blk.arr (10 : Nat) (List.length y.os) (lsF Oc.c y.os)), some (Blk.arr (10 : Nat) (List.length y.os) (lsF
    Oc.c y.os)), some (Blk.arr (8 : Nat) (List.length o) (lsF Od.c o))] [some (Blk.row [AV.v (Value.string z.c.who), AV.v (Value.int IntKind.i64 z.c.most), AV.hs (1 : Nat) (0 : Nat)
    (List.length z.P), AV.v (Value.int IntKind.i64 z.c.now), AV.v (Value.int IntKind.i64 z.c.heard), AV.v (Value.int IntKind.i64 z.c.wt), AV.v (Value.int IntKind.i64 z.c.en), AV.v (Value.int
    IntKind.i64 z.c.go)]), some (Blk.arr (10 : Nat) (List.length z.P) (lsF Pc.c z.P)), some (Blk.row [AV.v (Value.string z.d.who), AV.v (Value.int IntKind.i64 z.d.most), AV.hs (3 : Nat) (0 :
    Nat) (List.length z.l), AV.v (Value.int IntKind.i64 z.d.now), AV.v (Value.int IntKind.i64 z.d.heard)]), some (Blk.arr (10 : Nat) (List.length z.l) (lsF Ro.c z.l)), some (Blk.arr (10 :
    Nat) (List.length z.os) (lsF Oc.c z.os)), some (Blk.arr (10 : Nat) (List.length z.os) (lsF Oc.c z.os)), some (Blk.arr (8 : Nat) (List.length o) (lsF Od.c o))])) (Tree.leaf (Out.mk
    AEx.normal [AV.ptr (0 : Nat) (0 : Nat), AV.ptr (2 : Nat) (0 : Nat), AV.hs (4 : Nat) (0 : Nat) (List.length z.os), AV.hs (5 : Nat) (0 : Nat) (List.length z.os), AV.v (Value.int
    IntKind.i64 (IntKind.wrap IntKind.i64 ((↑z.i : Int) + (1 : Int)))), AV.sl (9 : Nat) (List.length z.acts) (lsF Ac.c z.acts)] [some (Blk.row [AV.v (Value.string z.c.who), AV.v (Value.int
    IntKind.i64 z.c.most), AV.hs (1 : Nat) (0 : Nat) (List.length z.P), AV.v (Value.int IntKind.i64 z.c.now), AV.v (Value.int IntKind.i64 z.c.heard), AV.v (Value.int IntKind.i64 z.c.wt),
    AV.v (Value.int IntKind.i64 z.c.en), AV.v (Value.int IntKind.i64 z.c.go)]), some (Blk.arr (10 : Nat) (List.length z.P) (lsF Pc.c z.P)), some (Blk.row [AV.v (Value.string z.d.who), AV.v
    (Value.int IntKind.i64 z.d.most), AV.hs (3 : Nat) (0 : Nat) (List.length z.l), AV.v (Value.int IntKind.i64 z.d.now), AV.v (Value.int IntKind.i64 z.d.heard)]), some (Blk.arr (10 : Nat)
    (List.length z.l) (lsF Ro.c z.l)), some (Blk.arr (10 : Nat) (List.length z.os) (lsF Oc.c z.os)), some (Blk.arr (10 : Nat) (List.length z.os) (lsF Oc.c z.os))])))))))))) (Tree.br (decide
    ((List.getD y.acts y.i default).k = (1 : Int))) Tree.fail (Tree.br (decide ((List.getD y.acts y.i default).k = (2 : Int))) (Tree.chk (cl (LeL [AV.ptr (0 : Nat) (0 : Nat), AV.ptr (2 :
    Nat) (0 : Nat), AV.hs (4 : Nat) (0 : Nat) (List.length y.os), AV.hs (5 : Nat) (0 : Nat) (List.length y.os), AV.ptr (6 : Nat) (0 : Nat), AV.v (Value.int IntKind.i64 (0 : Int)), AV.v
    (Value.int IntKind.i64 (↑y.i : Int)), AV.sl (9 : Nat) (List.length y.acts) (lsF Ac.c y.acts)] [AV.ptr (0 : Nat) (0 : Nat), AV.ptr (2 : Nat) (0 : Nat), AV.hs (4 : Nat) (0 : Nat)
    (List.length y.os), AV.hs (5 : Nat) (0 : Nat) (List.length y.os), AV.ptr (6 : Nat) (0 : Nat), AV.v (Value.int IntKind.i64 (↑(0 : Nat) : Int)), AV.v (Value.int IntKind.i64 (↑y.i : Int)),
    AV.sl (9 : Nat) (List.length y.acts) (lsF Ac.c y.acts)] ∧ LeH [some (Blk.row [AV.v (Value.string y.c.who), AV.v (Value.int IntKind.i64 y.c.most), AV.hs (1 : Nat) (0 : Nat) (List.length
    y.P), AV.v (Value.int IntKind.i64 y.c.now), AV.v (Value.int IntKind.i64 y.c.heard), AV.v (Value.int IntKind.i64 y.c.wt), AV.v (Value.int IntKind.i64 y.c.en), AV.v (Value.int IntKind.i64
    y.c.go)]), some (Blk.arr (10 : Nat) (List.length y.P) (lsF Pc.c y.P)), some (Blk.row [AV.v (Value.string y.d.who), AV.v (Value.int IntKind.i64 y.d.most), AV.hs (3 : Nat) (0 : Nat)
    (List.length y.l), AV.v (Value.int IntKind.i64 y.d.now), AV.v (Value.int IntKind.i64 y.d.heard)]), some (Blk.arr (10 : Nat) (List.length y.l) (lsF Ro.c y.l)), some (Blk.arr (10 : Nat)
    (List.length y.os) (lsF Oc.c y.os)), some (Blk.arr (10 : Nat) (List.length y.os) (lsF Oc.c y.os)), some (Blk.row [AV.v (Value.int IntKind.i64 (List.getD y.acts y.i default).k), AV.v
    (Value.int IntKind.i64 (List.getD y.acts y.i default).tx.k), AV.v (Value.string (List.getD y.acts y.i default).tx.fr), AV.v (Value.string (List.getD y.acts y.i default).tx.to), AV.v
    (Value.string (List.getD y.acts y.i default).tx.ky), AV.v (Value.string (List.getD y.acts y.i default).tx.vl), AV.v (Value.int IntKind.i64 (List.getD y.acts y.i default).tx.am), AV.v
    (Value.int IntKind.i64 (List.getD y.acts y.i default).tx.nn), AV.sl (10 : Nat) (List.length (List.getD y.acts (Int.toNat (↑y.i : Int)) default).os) (lsF Oc.c (List.getD y.acts (Int.toNat
    (↑y.i : Int)) default).os)])] [some (Blk.row [AV.v (Value.string y.c.who), AV.v (Value.int IntKind.i64 y.c.most), AV.hs (1 : Nat) (0 : Nat) (List.length y.P), AV.v (Value.int IntKind.i64
    y.c.now), AV.v (Value.int IntKind.i64 y.c.heard), AV.v (Value.int IntKind.i64 y.c.wt), AV.v (Value.int IntKind.i64 y.c.en), AV.v (Value.int IntKind.i64 y.c.go)]), some (Blk.arr (10 :
    Nat) (List.length y.P) (lsF Pc.c y.P)), some (Blk.row [AV.v (Value.string y.d.who), AV.v (Value.int IntKind.i64 y.d.most), AV.hs (3 : Nat) (0 : Nat) (List.length y.l), AV.v (Value.int
    IntKind.i64 y.d.now), AV.v (Value.int IntKind.i64 y.d.heard)]), some (Blk.arr (10 : Nat) (List.length y.l) (lsF Ro.c y.l)), some (Blk.arr (10 : Nat) (List.length y.os) (lsF Oc.c y.os)),
    some (Blk.arr (10 : Nat) (List.length y.os) (lsF Oc.c y.os)), some (Blk.row [AV.v (Value.int IntKind.i64 (List.getD y.acts y.i default).k), AV.v (Value.int IntKind.i64 (List.getD y.acts
    y.i default).tx.k), AV.v (Value.string (List.getD y.acts y.i default).tx.fr), AV.v (Value.string (List.getD y.acts y.i default).tx.to), AV.v (Value.string (List.getD y.acts y.i
    default).tx.ky), AV.v (Value.string (List.getD y.acts y.i default).tx.vl), AV.v (Value.int IntKind.i64 (List.getD y.acts y.i default).tx.am), AV.v (Value.int IntKind.i64 (List.getD
    y.acts y.i default).tx.nn), AV.sl (10 : Nat) (List.length (List.getD y.acts y.i default).os) (lsF Oc.c (List.getD y.acts y.i default).os)])])) Tree.fail) (Tree.chk (cl ([AV.ptr (0 : Nat)
    (0 : Nat)] = [AV.ptr (0 : Nat) (0 : Nat)] ∧ [Blk.row [AV.v (Value.string y.c.who), AV.v (Value.int IntKind.i64 y.c.most), AV.hs (1 : Nat) (0 : Nat) (List.length y.P), AV.v (Value.int
    IntKind.i64 y.c.now), AV.v (Value.int IntKind.i64 y.c.heard), AV.v (Value.int IntKind.i64 y.c.wt), AV.v (Value.int IntKind.i64 y.c.en), AV.v (Value.int IntKind.i64 y.c.go)], Blk.arr (10
    : Nat) (List.length y.P) (lsF Pc.c y.P)] = [Blk.row [AV.v (Value.string z.c.who), AV.v (Value.int IntKind.i64 z.c.most), AV.hs (1 : Nat) (0 : Nat) (List.length z.P), AV.v (Value.int
    IntKind.i64 z.c.now), AV.v (Value.int IntKind.i64 z.c.heard), AV.v (Value.int IntKind.i64 z.c.wt), AV.v (Value.int IntKind.i64 z.c.en), AV.v (Value.int IntKind.i64 z.c.go)], Blk.arr (10
    : Nat) (List.length z.P) (lsF Pc.c z.P)])) (Tree.chk (cl ([AV.ptr (0 : Nat) (0 : Nat)] = [AV.ptr (0 : Nat) (0 : Nat)] ∧ [Blk.row [AV.v (Value.string y.c.who), AV.v (Value.int IntKind.i64
    y.c.most), AV.hs (1 : Nat) (0 : Nat) (List.length y.P), AV.v (Value.int IntKind.i64 y.c.now), AV.v (Value.int IntKind.i64 y.c.heard), AV.v (Value.int IntKind.i64 y.c.wt), AV.v (Value.int
    IntKind.i64 y.c.en), AV.v (Value.int IntKind.i64 y.c.go)], Blk.arr (10 : Nat) (List.length y.P) (lsF Pc.c y.P)] = [Blk.row [AV.v (Value.string z.c.who), AV.v (Value.int IntKind.i64
    z.c.most), AV.hs (1 : Nat) (0 : Nat) (List.length z.P), AV.v (Value.int IntKind.i64 z.c.now), AV.v (Value.int IntKind.i64 z.c.heard), AV.v (Value.int IntKind.i64 z.c.wt), AV.v (Value.int
    IntKind.i64 z.c.en), AV.v (Value.int IntKind.i64 z.c.go)], Blk.arr (10 : Nat) (List.length z.P) (lsF Pc.c z.P)])) (Tree.chk (bif !decide ((↑(List.length o) : Int) = (↑(List.length y.l) :
    Int)) then true else cl ([Blk.row [AV.v (Value.string y.d.who), AV.v (Value.int IntKind.i64 y.d.most), AV.hs (1 : Nat) (0 : Nat) (List.length y.l), AV.v (Value.int IntKind.i64 y.d.now),
    AV.v (Value.int IntKind.i64 y.d.heard)], Blk.arr (10 : Nat) (List.length y.l) (lsF Ro.c y.l)] = [Blk.row [AV.v (Value.string z.d.who), AV.v (Value.int IntKind.i64 z.d.most), AV.hs (1 :
    Nat) (0 : Nat) (List.length z.l), AV.v (Value.int IntKind.i64 z.d.now), AV.v (Value.int IntKind.i64 z.d.heard)], Blk.arr (10 : Nat) (List.length z.l) (lsF Ro.c z.l)]) && bif !decide
    (z.c.wt = (↑(cnt (0 : Int) z.l) : Int)) then true else cl ([Blk.row [AV.v (Value.string y.d.who), AV.v (Value.int IntKind.i64 y.d.most), AV.hs (1 : Nat) (0 : Nat) (List.length y.l), AV.v
    (Value.int IntKind.i64 y.d.now), AV.v (Value.int IntKind.i64 y.d.heard)], Blk.arr (10 : Nat) (List.length y.l) (lsF Ro.c y.l)] = [Blk.row [AV.v (Value.string z.d.who), AV.v (Value.int
    IntKind.i64 z.d.most), AV.hs (1 : Nat) (0 : Nat) (List.length z.l), AV.v (Value.int IntKind.i64 z.d.now), AV.v (Value.int IntKind.i64 z.d.heard)], Blk.arr (10 : Nat) (List.length z.l)
    (lsF Ro.c z.l)]) && bif !decide (z.c.en = (↑(cnt (1 : Int) z.l) : Int)) then true else cl ([Blk.row [AV.v (Value.string y.d.who), AV.v (Value.int IntKind.i64 y.d.most), AV.hs (1 : Nat)
    (0 : Nat) (List.length y.l), AV.v (Value.int IntKind.i64 y.d.now), AV.v (Value.int IntKind.i64 y.d.heard)], Blk.arr (10 : Nat) (List.length y.l) (lsF Ro.c y.l)] = [Blk.row [AV.v
    (Value.string z.d.who), AV.v (Value.int IntKind.i64 z.d.most), AV.hs (1 : Nat) (0 : Nat) (List.length z.l), AV.v (Value.int IntKind.i64 z.d.now), AV.v (Value.int IntKind.i64 z.d.heard)],
    Blk.arr (10 : Nat) (List.length z.l) (lsF Ro.c z.l)])) (Tree.br (bif !decide ((↑(List.length o) : Int) = (↑(List.length y.l) : Int)) then true else bif !decide (z.c.wt = (↑(cnt (0 : Int)
    z.l) : Int)) then true else bif !decide (z.c.en = (↑(cnt (1 : Int) z.l) : Int)) then true else !decide (z.c.go = (↑(cnt (2 : Int) z.l) : Int))) (Tree.leaf (Out.mk AEx.ret [AV.ptr (0 :
    Nat) (0 : Nat), AV.ptr (2 : Nat) (0 : Nat), AV.hs (4 : Nat) (0 : Nat) (List.length y.os), AV.hs (5 : Nat) (0 : Nat) (List.length y.os), AV.v (Value.int IntKind.i64 (↑y.i : Int)), AV.sl
    (9 : Nat) (List.length y.acts) (lsF Ac.c y.acts)] [some (Blk.row [AV.v (Value.string y.c.who), AV.v (Value.int IntKind.i64 y.c.most), AV.hs (1 : Nat) (0 : Nat) (List.length y.P), AV.v
    (Value.int IntKind.i64 y.c.now), AV.v (Value.int IntKind.i64 y.c.heard), AV.v (Value.int IntKind.i64 y.c.wt), AV.v (Value.int IntKind.i64 y.c.en), AV.v (Value.int IntKind.i64 y.c.go)]),
    some (Blk.arr (10 : Nat) (List.length y.P) (lsF Pc.c y.P)), some (Blk.row [AV.v (Value.string y.d.who), AV.v (Value.int IntKind.i64 y.d.most), AV.hs (3 : Nat) (0 : Nat) (List.length
    y.l), AV.v (Value.int IntKind.i64 y.d.now), AV.v (Value.int IntKind.i64 y.d.heard)]), some (Blk.arr (10 : Nat) (List.length y.l) (lsF Ro.c y.l)), some (Blk.arr (10 : Nat) (List.length
    y.os) (lsF Oc.c y.os)), some (Blk.arr (10 : Nat) (List.length y.os) (lsF Oc.c y.os))])) (Tree.chk (cl (LeL [AV.ptr (0 : Nat) (0 : Nat), AV.ptr (2 : Nat) (0 : Nat), AV.hs (4 : Nat) (0 :
    Nat) (List.length y.os), AV.hs (5 : Nat) (0 : Nat) (List.length y.os), AV.hs (6 : Nat) (0 : Nat) (List.length o), AV.v (Value.int IntKind.i64 (0 : Int)), AV.v (Value.int IntKind.i64
    (↑y.i : Int)), AV.sl (9 : Nat) (List.length y.acts) (lsF Ac.c y.acts)] [AV.ptr (0 : Nat) (0 : Nat), AV.ptr (2 : Nat) (0 : Nat), AV.hs (4 : Nat) (0 : Nat) (List.length z.os), AV.hs (5 :
    Nat) (0 : Nat) (List.length z.os), AV.hs (6 : Nat) (0 : Nat) (List.length o), AV.v (Value.int IntKind.i64 (↑(0 : Nat) : Int)), AV.v (Value.int IntKind.i64 (↑z.i : Int)), AV.sl (9 : Nat)
    (List.length z.acts) (lsF Ac.c z.acts)] ∧ LeH [some (Blk.row [AV.v (Value.string y.c.who), AV.v (Value.int IntKind.i64 y.c.most), AV.hs (1 : Nat) (0 : Nat) (List.length y.P), AV.v
    (Value.int IntKind.i64 y.c.now), AV.v (Value.int IntKind.i64 y.c.heard), AV.v (Value.int IntKind.i64 y.c.wt), AV.v (Value.int IntKind.i64 y.c.en), AV.v (Value.int IntKind.i64 y.c.go)]),
    some (Blk.arr (10 : Nat) (List.length y.P) (lsF Pc.c y.P)), some (Blk.row [AV.v (Value.string y.d.who), AV.v (Value.int IntKind.i64 y.d.most), AV.hs (3 : Nat) (0 : Nat) (List.length
    y.l), AV.v (Value.int IntKind.i64 y.d.now), AV.v (Value.int IntKind.i64 y.d.heard)]), some (Blk.arr (10 : Nat) (List.length y.l) (lsF Ro.c y.l)), some (Blk.arr (10 : Nat) (List.length
    y.os) (lsF Oc.c y.os)), some (Blk.arr (10 : Nat) (List.length y.os) (lsF Oc.c y.os)), some (Blk.arr (8 : Nat) (List.length o) (lsF Od.c o))] [some (Blk.row [AV.v (Value.string z.c.who),
    AV.v (Value.int IntKind.i64 z.c.most), AV.hs (1 : Nat) (0 : Nat) (List.length z.P), AV.v (Value.int IntKind.i64 z.c.now), AV.v (Value.int IntKind.i64 z.c.heard), AV.v (Value.int
    IntKind.i64 z.c.wt), AV.v (Value.int IntKind.i64 z.c.en), AV.v (Value.int IntKind.i64 z.c.go)]), some (Blk.arr (10 : Nat) (List.length z.P) (lsF Pc.c z.P)), some (Blk.row [AV.v
    (Value.string z.d.who), AV.v (Value.int IntKind.i64 z.d.most), AV.hs (3 : Nat) (0 : Nat) (List.length z.l), AV.v (Value.int IntKind.i64 z.d.now), AV.v (Value.int IntKind.i64
    z.d.heard)]), some (Blk.arr (10 : Nat) (List.length z.l) (lsF Ro.c z.l)), some (Blk.arr (10 : Nat) (List.length z.os) (lsF Oc.c z.os)), some (Blk.arr (10 : Nat) (List.length z.os) (lsF
    Oc.c z.os)), some (Blk.arr (8 : Nat) (List.length o) (lsF Od.c o))])) (Tree.leaf (Out.mk AEx.normal [AV.ptr (0 : Nat) (0 : Nat), AV.ptr (2 : Nat) (0 : Nat), AV.hs (4 : Nat) (0 : Nat)
    (List.length z.os), AV.hs (5 : Nat) (0 : Nat) (List.length z.os), AV.v (Value.int IntKind.i64 (IntKind.wrap IntKind.i64 ((↑z.i : Int) + (1 : Int)))), AV.sl (9 : Nat) (List.length z.acts)
    (lsF Ac.c z.acts)] [some (Blk.row [AV.v (Value.string z.c.who), AV.v (Value.int IntKind.i64 z.c.most), AV.hs (1 : Nat) (0 : Nat) (List.length z.P), AV.v (Value.int IntKind.i64 z.c.now),
    AV.v (Value.int IntKind.i64 z.c.heard), AV.v (Value.int IntKind.i64 z.c.wt), AV.v (Value.int IntKind.i64 z.c.en), AV.v (Value.int IntKind.i64 z.c.go)]), some (Blk.arr (10 : Nat)
    (List.length z.P) (lsF Pc.c z.P)), some (Blk.row [AV.v (Value.string z.d.who), AV.v (Value.int IntKind.i64 z.d.most), AV.hs (3 : Nat) (0 : Nat) (List.length z.l), AV.v (Value.int
    IntKind.i64 z.d.now), AV.v (Value.int IntKind.i64 z.d.heard)]), some (Blk.arr (10 : Nat) (List.length z.l) (lsF Ro.c z.l)), some (Blk.arr (10 : Nat) (List.length z.os) (lsF Oc.c z.os)),
    some (Blk.arr (10 : Nat) (List.length z.os) (lsF Oc.c z.os))]))))))))))) (Tree.leaf (Out.mk (AEx.exit (0 : Nat)) [AV.ptr (0 : Nat) (0 : Nat), AV.ptr (2 : Nat) (0 : Nat), AV.hs (4 : Nat)
    (0 : Nat) (List.length y.os), AV.hs (5 : Nat) (0 : Nat) (List.length y.os), AV.v (Value.int IntKind.i64 (↑y.i : Int)), AV.sl (9 : Nat) (List.length y.acts) (lsF Ac.c y.acts)] [some
    (Blk.row [AV.v (Value.string y.c.who), AV.v (Value.int IntKind.i64 y.c.most), AV.hs (1 : Nat) (0 : Nat) (List.length y.P), AV.v (Value.int IntKind.i64 y.c.now), AV.v (Value.int
    IntKind.i64 y.c.heard), AV.v (Value.int IntKind.i64 y.c.wt), AV.v (Value.int IntKind.i64 y.c.en), AV.v (Value.int IntKind.i64 y.c.go)]), some (Blk.arr (10 : Nat) (List.length y.P) (lsF
    Pc.c y.P)), some (Blk.row [AV.v (Value.string y.d.who), AV.v (Value.int IntKind.i64 y.d.most), AV.hs (3 : Nat) (0 : Nat) (List.length y.l), AV.v (Value.int IntKind.i64 y.d.now), AV.v
    (Value.int IntKind.i64 y.d.heard)]), some (Blk.arr (10 : Nat) (List.length y.l) (lsF Ro.c y.l)), some (Blk.arr (10 : Nat) (List.length y.os) (lsF Oc.c y.os)), some (Blk.arr (10 : Nat)
    (List.length y.os) (lsF Oc.c y.os))])) := by kernel_rfl
theorem r0t' (y z : Fy) (o : List Od) (os2 : List Oc) (x : List Tx) (hT : Answers Tryd.prog Γm 63 [.ptr 0 0] (y.c.bl y.P) (.hs 2 0 x.length) ((z.c.bl z.P).map some) [lsT x]) (hK : Answers Tryd.prog Γm 68 [.ptr 0 0] (y.d.bl y.l) (.hs 2 0 x.length) ((z.d.bl z.l).map some) [lsT x]) (hO : Answers Tryd.prog Γm 65 [.ptr 0 0] (z.c.bl z.P) (.hs 2 0 o.length) ((z.c.bl z.P).map some) [lsO o]) (hN : Answers Tryd.prog Γm 70 [.ptr 0 0] (z.c.bl z.P) (.tup [.v (.int .i64 z.c.wt), .v (.int .i64 z.c.en), .v (.int .i64 z.c.go)]) ((z.c.bl z.P).map some) []) (hl : z.l.length ≤ 100000) : roundE (P := Tryd.prog) (Γ := Γm) [CT.at 63 hT, CT.at 68 hK, CT.atN 65 hO, CT.atN 70 hN, hCt z.d z.l hl] (LW x y z (y.acts.getD y.i default) o os2) false 0 0 (lw 0) lv0' nl0' nCP (S0' y).1 (S0' y).2 =
  Tree.br (bif decide ((↑y.i : Int) < (↑(List.length y.acts) : Int)) then true else false) (Tree.chk (decide ((0 : Int) ≤ (↑y.i : Int)) && decide ((↑y.i : Int) < (↑(List.length y.acts) :
    Int))) (Tree.br (decide ((List.getD y.acts y.i default).k = (0 : Int))) Tree.fail (Tree.br (decide ((List.getD y.acts y.i default).k = (1 : Int))) (Tree.chk (cl (LeL [AV.ptr (0 : Nat) (0
    : Nat)] [AV.ptr (0 : Nat) (0 : Nat)] ∧ LeH [some (Blk.row [AV.v (Value.string y.c.who), AV.v (Value.int IntKind.i64 y.c.most), AV.hs (1 : Nat) (0 : Nat) (List.length y.P), AV.v
    (Value.int IntKind.i64 y.c.now), AV.v (Value.int IntKind.i64 y.c.heard), AV.v (Value.int IntKind.i64 y.c.wt), AV.v (Value.int IntKind.i64 y.c.en), AV.v (Value.int IntKind.i64 y.c.go)]),
    some (Blk.arr (10 : Nat) (List.length y.P) (lsF Pc.c y.P))] [some (Blk.row [AV.v (Value.string y.c.who), AV.v (Value.int IntKind.i64 y.c.most), AV.hs (1 : Nat) (0 : Nat) (List.length
    y.P), AV.v (Value.int IntKind.i64 y.c.now), AV.v (Value.int IntKind.i64 y.c.heard), AV.v (Value.int IntKind.i64 y.c.wt), AV.v (Value.int IntKind.i64 y.c.en), AV.v (Value.int IntKind.i64
    y.c.go)]), some (Blk.arr (10 : Nat) (List.length y.P) (lsF Pc.c y.P))])) (Tree.chk (cl (LeL [AV.ptr (0 : Nat) (0 : Nat)] [AV.ptr (0 : Nat) (0 : Nat)] ∧ LeH [some (Blk.row [AV.v
    (Value.string y.d.who), AV.v (Value.int IntKind.i64 y.d.most), AV.hs (1 : Nat) (0 : Nat) (List.length y.l), AV.v (Value.int IntKind.i64 y.d.now), AV.v (Value.int IntKind.i64
    y.d.heard)]), some (Blk.arr (10 : Nat) (List.length y.l) (lsF Ro.c y.l))] [some (Blk.row [AV.v (Value.string y.d.who), AV.v (Value.int IntKind.i64 y.d.most), AV.hs (1 : Nat) (0 : Nat)
    (List.length y.l), AV.v (Value.int IntKind.i64 y.d.now), AV.v (Value.int IntKind.i64 y.d.heard)]), some (Blk.arr (10 : Nat) (List.length y.l) (lsF Ro.c y.l))])) (Tree.br (!decide
    ((↑(List.length x) : Int) = (↑(List.length x) : Int))) (Tree.leaf (Out.mk AEx.ret [AV.ptr (0 : Nat) (0 : Nat), AV.ptr (2 : Nat) (0 : Nat), AV.hs (4 : Nat) (0 : Nat) (List.length y.os),
    AV.hs (5 : Nat) (0 : Nat) (List.length y.os), AV.v (Value.int IntKind.i64 (↑y.i : Int)), AV.sl (9 : Nat) (List.length y.acts) (lsF Ac.c y.acts)] [some (Blk.row [AV.v (Value.string
    z.c.who), AV.v (Value.int IntKind.i64 z.c.most), AV.hs (1 : Nat) (0 : Nat) (List.length z.P), AV.v (Value.int IntKind.i64 z.c.now), AV.v (Value.int IntKind.i64 z.c.heard), AV.v
    (Value.int IntKind.i64 z.c.wt), AV.v (Value.int IntKind.i64 z.c.en), AV.v (Value.int IntKind.i64 z.c.go)]), some (Blk.arr (10 : Nat) (List.length z.P) (lsF Pc.c z.P)), some (Blk.row
    [AV.v (Value.string z.d.who), AV.v (Value.int IntKind.i64 z.d.most), AV.hs (3 : Nat) (0 : Nat) (List.length z.l), AV.v (Value.int IntKind.i64 z.d.now), AV.v (Value.int IntKind.i64
    z.d.heard)]), some (Blk.arr (10 : Nat) (List.length z.l) (lsF Ro.c z.l)), some (Blk.arr (10 : Nat) (List.length y.os) (lsF Oc.c y.os)), some (Blk.arr (10 : Nat) (List.length y.os) (lsF
    Oc.c y.os))])) (Tree.chk (cl (LeL [AV.ptr (0 : Nat) (0 : Nat), AV.ptr (2 : Nat) (0 : Nat), AV.hs (4 : Nat) (0 : Nat) (List.length y.os), AV.hs (5 : Nat) (0 : Nat) (List.length y.os),
    AV.hs (6 : Nat) (0 : Nat) (List.length x), AV.hs (7 : Nat) (0 : Nat) (List.length x), AV.v (Value.int IntKind.i64 (0 : Int)), AV.v (Value.int IntKind.i64 (↑y.i : Int)), AV.sl (9 : Nat)
    (List.length y.acts) (lsF Ac.c y.acts)] [AV.ptr (0 : Nat) (0 : Nat), AV.ptr (2 : Nat) (0 : Nat), AV.hs (4 : Nat) (0 : Nat) (List.length z.os), AV.hs (5 : Nat) (0 : Nat) (List.length
    z.os), AV.hs (6 : Nat) (0 : Nat) (List.length x), AV.hs (7 : Nat) (0 : Nat) (List.length x), AV.v (Value.int IntKind.i64 (↑(0 : Nat) : Int)), AV.v (Value.int IntKind.i64 (↑z.i : Int)),
    AV.sl (9 : Nat) (List.length z.acts) (lsF Ac.c z.acts)] ∧ LeH [some (Blk.row [AV.v (Value.string z.c.who), AV.v (Value.int IntKind.i64 z.c.most), AV.hs (1 : Nat) (0 : Nat) (List.length
    z.P), AV.v (Value.int IntKind.i64 z.c.now), AV.v (Value.int IntKind.i64 z.c.heard), AV.v (Value.int IntKind.i64 z.c.wt), AV.v (Value.int IntKind.i64 z.c.en), AV.v (Value.int IntKind.i64
    z.c.go)]), some (Blk.arr (10 : Nat) (List.length z.P) (lsF Pc.c z.P)), some (Blk.row [AV.v (Value.string z.d.who), AV.v (Value.int IntKind.i64 z.d.most), AV.hs (3 : Nat) (0 : Nat)
    (List.length z.l), AV.v (Value.int IntKind.i64 z.d.now), AV.v (Value.int IntKind.i64 z.d.heard)]), some (Blk.arr (10 : Nat) (List.length z.l) (lsF Ro.c z.l)), some (Blk.arr (10 : Nat)
    (List.length y.os) (lsF Oc.c y.os)), some (Blk.arr (10 : Nat) (List.length y.os) (lsF Oc.c y.os)), some (Blk.arr (7 : Nat) (List.length x) (lsF Tx.c x)), some (Blk.arr (7 : Nat)
    (List.length x) (lsF Tx.c x))] [some (Blk.row [AV.v (Value.string z.c.who), AV.v (Value.int IntKind.i64 z.c.most), AV.hs (1 : Nat) (0 : Nat) (List.length z.P), AV.v (Value.int
    IntKind.i64 z.c.now), AV.v (Value.int IntKind.i64 z.c.heard), AV.v (Value.int IntKind.i64 z.c.wt), AV.v (Value.int IntKind.i64 z.c.en), AV.v (Value.int IntKind.i64 z.c.go)]), some
    (Blk.arr (10 : Nat) (List.length z.P) (lsF Pc.c z.P)), some (Blk.row [AV.v (Value.string z.d.who), AV.v (Value.int IntKind.i64 z.d.most), AV.hs (3 : Nat) (0 : Nat) (List.length z.l),
    AV.v (Value.int IntKind.i64 z.d.now), AV.v (Value.int IntKind.i64 z.d.heard)]), some (Blk.arr (10 : Nat) (List.length z.l) (lsF Ro.c z.l)), some (Blk.arr (10 : Nat) (List.length z.os)
    (lsF Oc.c z.os)), some (Blk.arr (10 : Nat) (List.length z.os) (lsF Oc.c z.os)), some (Blk.arr (7 : Nat) (List.length x) (lsF Tx.c x)), some (Blk.arr (7 : Nat) (List.length x) (lsF Tx.c
    x))])) (Tree.chk (cl ([AV.ptr (0 : Nat) (0 : Nat)] = [AV.ptr (0 : Nat) (0 : Nat)] ∧ [Blk.row [AV.v (Value.string z.c.who), AV.v (Value.int IntKind.i64 z.c.most), AV.hs (1 : Nat) (0 :
    Nat) (List.length z.P), AV.v (Value.int IntKind.i64 z.c.now), AV.v (Value.int IntKind.i64 z.c.heard), AV.v (Value.int IntKind.i64 z.c.wt), AV.v (Value.int IntKind.i64 z.c.en), AV.v
    (Value.int IntKind.i64 z.c.go)], Blk.arr (10 : Nat) (List.length z.P) (lsF Pc.c z.P)] = [Blk.row [AV.v (Value.string z.c.who), AV.v (Value.int IntKind.i64 z.c.most), AV.hs (1 : Nat) (0 :
    Nat) (List.length z.P), AV.v (Value.int IntKind.i64 z.c.now), AV.v (Value.int IntKind.i64 z.c.heard), AV.v (Value.int IntKind.i64 z.c.wt), AV.v (Value.int IntKind.i64 z.c.en), AV.v
    (Value.int IntKind.i64 z.c.go)], Blk.arr (10 : Nat) (List.length z.P) (lsF Pc.c z.P)])) (Tree.chk (cl ([AV.ptr (0 : Nat) (0 : Nat)] = [AV.ptr (0 : Nat) (0 : Nat)] ∧ [Blk.row [AV.v
    (Value.string z.c.who), AV.v (Value.int IntKind.i64 z.c.most), AV.hs (1 : Nat) (0 : Nat) (List.length z.P), AV.v (Value.int IntKind.i64 z.c.now), AV.v (Value.int IntKind.i64 z.c.heard),
    AV.v (Value.int IntKind.i64 z.c.wt), AV.v (Value.int IntKind.i64 z.c.en), AV.v (Value.int IntKind.i64 z.c.go)], Blk.arr (10 : Nat) (List.length z.P) (lsF Pc.c z.P)] = [Blk.row [AV.v
    (Value.string z.c.who), AV.v (Value.int IntKind.i64 z.c.most), AV.hs (1 : Nat) (0 : Nat) (List.length z.P), AV.v (Value.int IntKind.i64 z.c.now), AV.v (Value.int IntKind.i64 z.c.heard),
    AV.v (Value.int IntKind.i64 z.c.wt), AV.v (Value.int IntKind.i64 z.c.en), AV.v (Value.int IntKind.i64 z.c.go)], Blk.arr (10 : Nat) (List.length z.P) (lsF Pc.c z.P)])) (Tree.chk (bif
    !decide ((↑(List.length o) : Int) = (↑(List.length z.l) : Int)) then true else cl ([Blk.row [AV.v (Value.string z.d.who), AV.v (Value.int IntKind.i64 z.d.most), AV.hs (1 : Nat) (0 : Nat)
    (List.length z.l), AV.v (Value.int IntKind.i64 z.d.now), AV.v (Value.int IntKind.i64 z.d.heard)], Blk.arr (10 : Nat) (List.length z.l) (lsF Ro.c z.l)] = [Blk.row [AV.v (Value.string
    z.d.who), AV.v (Value.int IntKind.i64 z.d.most), AV.hs (1 : Nat) (0 : Nat) (List.length z.l), AV.v (Value.int IntKind.i64 z.d.now), AV.v (Value.int IntKind.i64 z.d.heard)], Blk.arr (10 :
    Nat) (List.length z.l) (lsF Ro.c z.l)]) && bif !decide (z.c.wt = (↑(cnt (0 : Int) z.l) : Int)) then true else cl ([Blk.row [AV.v (Value.string z.d.who), AV.v (Value.int IntKind.i64
    z.d.most), AV.hs (1 : Nat) (0 : Nat) (List.length z.l), AV.v (Value.int IntKind.i64 z.d.now), AV.v (Value.int IntKind.i64 z.d.heard)], Blk.arr (10 : Nat) (List.length z.l) (lsF Ro.c
    z.l)] = [Blk.row [AV.v (Value.string z.d.who), AV.v (Value.int IntKind.i64 z.d.most), AV.hs (1 : Nat) (0 : Nat) (List.length z.l), AV.v (Value.int IntKind.i64 z.d.now), AV.v (Value.int
    IntKind.i64 z.d.heard)], Blk.arr (10 : Nat) (List.length z.l) (lsF Ro.c z.l)]) && bif !decide (z.c.en = (↑(cnt (1 : Int) z.l) : Int)) then true else cl ([Blk.row [AV.v (Value.string
    z.d.who), AV.v (Value.int IntKind.i64 z.d.most), AV.hs (1 : Nat) (0 : Nat) (List.length z.l), AV.v (Value.int IntKind.i64 z.d.now), AV.v (Value.int IntKind.i64 z.d.heard)], Blk.arr (10 :
    Nat) (List.length z.l) (lsF Ro.c z.l)] = [Blk.row [AV.v (Value.string z.d.who), AV.v (Value.int IntKind.i64 z.d.most), AV.hs (1 : Nat) (0 : Nat) (List.length z.l), AV.v (Value.int
    IntKind.i64 z.d.now), AV.v (Value.int IntKind.i64 z.d.heard)], Blk.arr (10 : Nat) (List.length z.l) (lsF Ro.c z.l)])) (Tree.br (bif !decide ((↑(List.length o) : Int) = (↑(List.length
    z.l) : Int)) then true else bif !decide (z.c.wt = (↑(cnt (0 : Int) z.l) : Int)) then true else bif !decide (z.c.en = (↑(cnt (1 : Int) z.l) : Int)) then true else !decide (z.c.go = (↑(cnt
    (2 : Int) z.l) : Int))) (Tree.leaf (Out.mk AEx.ret [AV.ptr (0 : Nat) (0 : Nat), AV.ptr (2 : Nat) (0 : Nat), AV.hs (4 : Nat) (0 : Nat) (List.length z.os), AV.hs (5 : Nat) (0 : Nat)
    (List.length z.os), AV.v (Value.int IntKind.i64 (↑z.i : Int)), AV.sl (9 : Nat) (List.length z.acts) (lsF Ac.c z.acts)] [some (Blk.row [AV.v (Value.string z.c.who), AV.v (Value.int
    IntKind.i64 z.c.most), AV.hs (1 : Nat) (0 : Nat) (List.length z.P), AV.v (Value.int IntKind.i64 z.c.now), AV.v (Value.int IntKind.i64 z.c.heard), AV.v (Value.int IntKind.i64 z.c.wt),
    AV.v (Value.int IntKind.i64 z.c.en), AV.v (Value.int IntKind.i64 z.c.go)]), some (Blk.arr (10 : Nat) (List.length z.P) (lsF Pc.c z.P)), some (Blk.row [AV.v (Value.string z.d.who), AV.v
    (Value.int IntKind.i64 z.d.most), AV.hs (3 : Nat) (0 : Nat) (List.length z.l), AV.v (Value.int IntKind.i64 z.d.now), AV.v (Value.int IntKind.i64 z.d.heard)]), some (Blk.arr (10 : Nat)
    (List.length z.l) (lsF Ro.c z.l)), some (Blk.arr (10 : Nat) (List.length z.os) (lsF Oc.c z.os)), some (Blk.arr (10 : Nat) (List.length z.os) (lsF Oc.c z.os))])) (Tree.chk (cl (LeL
    [AV.ptr (0 : Nat) (0 : Nat), AV.ptr (2 : Nat) (0 : Nat), AV.hs (4 : Nat) (0 : Nat) (List.length z.os), AV.hs (5 : Nat) (0 : Nat) (List.length z.os), AV.hs (6 : Nat) (0 : Nat)
    (List.length o), AV.v (Value.int IntKind.i64 (0 : Int)), AV.v (Value.int IntKind.i64 (↑z.i : Int)), AV.sl (9 : Nat) (List.length z.acts) (lsF Ac.c z.acts)] [AV.ptr (0 : Nat) (0 : Nat),
    AV.ptr (2 : Nat) (0 : Nat), AV.hs (4 : Nat) (0 : Nat) (List.length z.os), AV.hs (5 : Nat) (0 : Nat) (List.length z.os), AV.hs (6 : Nat) (0 : Nat) (List.length o), AV.v (Value.int
    IntKind.i64 (↑(0 : Nat) : Int)), AV.v (Value.int IntKind.i64 (↑z.i : Int)), AV.sl (9 : Nat) (List.length z.acts) (lsF Ac.c z.acts)] ∧ LeH [some (Blk.row [AV.v (Value.string z.c.who),
    AV.v (Value.int IntKind.i64 z.c.most), AV.hs (1 : Nat) (0 : Nat) (List.length z.P), AV.v (Value.int IntKind.i64 z.c.now), AV.v (Value.int IntKind.i64 z.c.heard), AV.v (Value.int
    IntKind.i64 z.c.wt), AV.v (Value.int IntKind.i64 z.c.en), AV.v (Value.int IntKind.i64 z.c.go)]), some (Blk.arr (10 : Nat) (List.length z.P) (lsF Pc.c z.P)), some (Blk.row [AV.v
    (Value.string z.d.who), AV.v (Value.int IntKind.i64 z.d.most), AV.hs (3 : Nat) (0 : Nat) (List.length z.l), AV.v (Value.int IntKind.i64 z.d.now), AV.v (Value.int IntKind.i64
    z.d.heard)]), some (Blk.arr (10 : Nat) (List.length z.l) (lsF Ro.c z.l)), some (Blk.arr (10 : Nat) (List.length z.os) (lsF Oc.c z.os)), some (Blk.arr (10 : Nat) (List.length z.os) (lsF
    Oc.c z.os)), some (Blk.arr (8 : Nat) (List.length o) (lsF Od.c o))] [some (Blk.row [AV.v (Value.string z.c.who), AV.v (Value.int IntKind.i64 z.c.most), AV.hs (1 : Nat) (0 : Nat)
    (List.length z.P), AV.v (Value.int IntKind.i64 z.c.now), AV.v (Value.int IntKind.i64 z.c.heard), AV.v (Value.int IntKind.i64 z.c.wt), AV.v (Value.int IntKind.i64 z.c.en), AV.v (Value.int
    IntKind.i64 z.c.go)]), some (Blk.arr (10 : Nat) (List.length z.P) (lsF Pc.c z.P)), some (Blk.row [AV.v (Value.string z.d.who), AV.v (Value.int IntKind.i64 z.d.most), AV.hs (3 : Nat) (0 :
    Nat) (List.length z.l), AV.v (Value.int IntKind.i64 z.d.now), AV.v (Value.int IntKind.i64 z.d.heard)]), some (Blk.arr (10 : Nat) (List.length z.l) (lsF Ro.c z.l)), some (Blk.arr (10 :
    Nat) (List.length z.os) (lsF Oc.c z.os)), some (Blk.arr (10 : Nat) (List.length z.os) (lsF Oc.c z.os)), some (Blk.arr (8 : Nat) (List.length o) (lsF Od.c o))])) (Tree.leaf (Out.mk
    AEx.normal [AV.ptr (0 : Nat) (0 : Nat), AV.ptr (2 : Nat) (0 : Nat), AV.hs (4 : Nat) (0 : Nat) (List.length z.os), AV.hs (5 : Nat) (0 : Nat) (List.length z.os), AV.v (Value.int
    IntKind.i64 (IntKind.wrap IntKind.i64 ((↑z.i : Int) + (1 : Int)))), AV.sl (9 : Nat) (List.length z.acts) (lsF Ac.c z.acts)] [some (Blk.row [AV.v (Value.string z.c.who), AV.v (Value.int
    IntKind.i64 z.c.most), AV.hs (1 : Nat) (0 : Nat) (List.length z.P), AV.v (Value.int IntKind.i64 z.c.now), AV.v (Value.int IntKind.i64 z.c.heard), AV.v (Value.int IntKind.i64 z.c.wt),
    AV.v (Value.int IntKind.i64 z.c.en), AV.v (Value.int IntKind.i64 z.c.go)]), some (Blk.arr (10 : Nat) (List.length z.P) (lsF Pc.c z.P)), some (Blk.row [AV.v (Value.string z.d.who), AV.v
    (Value.int IntKind.i64 z.d.most), AV.hs (3 : Nat) (0 : Nat) (List.length z.l), AV.v (Value.int IntKind.i64 z.d.now), AV.v (Value.int IntKind.i64 z.d.heard)]), some (Blk.arr (10 : Nat)
    (List.length z.l) (lsF Ro.c z.l)), some (Blk.arr (10 : Nat) (List.length z.os) (lsF Oc.c z.os)), some (Blk.arr (10 : Nat) (List.length z.os) (lsF Oc.c z.os))]))))))))))) (Tree.br (decide
    ((List.getD y.acts y.i default).k = (2 : Int))) (Tree.chk (cl (LeL [AV.ptr (0 : Nat) (0 : Nat), AV.ptr (2 : Nat) (0 : Nat), AV.hs (4 : Nat) (0 : Nat) (List.length y.os), AV.hs (5 : Nat)
    (0 : Nat) (List.length y.os), AV.ptr (6 : Nat) (0 : Nat), AV.v (Value.int IntKind.i64 (0 : Int)), AV.v (Value.int IntKind.i64 (↑y.i : Int)), AV.sl (9 : Nat) (List.length y.acts) (lsF
    Ac.c y.acts)] [AV.ptr (0 : Nat) (0 : Nat), AV.ptr (2 : Nat) (0 : Nat), AV.hs (4 : Nat) (0 : Nat) (List.length y.os), AV.hs (5 : Nat) (0 : Nat) (List.length y.os), AV.ptr (6 : Nat) (0 :
    Nat), AV.v (Value.int IntKind.i64 (↑(0 : Nat) : Int)), AV.v (Value.int IntKind.i64 (↑y.i : Int)), AV.sl (9 : Nat) (List.length y.acts) (lsF Ac.c y.acts)] ∧ LeH [some (Blk.row [AV.v
    (Value.string y.c.who), AV.v (Value.int IntKind.i64 y.c.most), AV.hs (1 : Nat) (0 : Nat) (List.length y.P), AV.v (Value.int IntKind.i64 y.c.now), AV.v (Value.int IntKind.i64 y.c.heard),
    AV.v (Value.int IntKind.i64 y.c.wt), AV.v (Value.int IntKind.i64 y.c.en), AV.v (Value.int IntKind.i64 y.c.go)]), some (Blk.arr (10 : Nat) (List.length y.P) (lsF Pc.c y.P)), some (Blk.row
    [AV.v (Value.string y.d.who), AV.v (Value.int IntKind.i64 y.d.most), AV.hs (3 : Nat) (0 : Nat) (List.length y.l), AV.v (Value.int IntKind.i64 y.d.now), AV.v (Value.int IntKind.i64
    y.d.heard)]), some (Blk.arr (10 : Nat) (List.length y.l) (lsF Ro.c y.l)), some (Blk.arr (10 : Nat) (List.length y.os) (lsF Oc.c y.os)), some (Blk.arr (10 : Nat) (List.length y.os) (lsF
    Oc.c y.os)), some (Blk.row [AV.v (Value.int IntKind.i64 (List.getD y.acts y.i default).k), AV.v (Value.int IntKind.i64 (List.getD y.acts y.i default).tx.k), AV.v (Value.string (List.getD
    y.acts y.i default).tx.fr), AV.v (Value.string (List.getD y.acts y.i default).tx.to), AV.v (Value.string (List.getD y.acts y.i default).tx.ky), AV.v (Value.string (List.getD y.acts y.i
    default).tx.vl), AV.v (Value.int IntKind.i64 (List.getD y.acts y.i default).tx.am), AV.v (Value.int IntKind.i64 (List.getD y.acts y.i default).tx.nn), AV.sl (10 : Nat) (List.length
    (List.getD y.acts (Int.toNat (↑y.i : Int)) default).os) (lsF Oc.c (List.getD y.acts (Int.toNat (↑y.i : Int)) default).os)])] [some (Blk.row [AV.v (Value.string y.c.who), AV.v (Value.int
    IntKind.i64 y.c.most), AV.hs (1 : Nat) (0 : Nat) (List.length y.P), AV.v (Value.int IntKind.i64 y.c.now), AV.v (Value.int IntKind.i64 y.c.heard), AV.v (Value.int IntKind.i64 y.c.wt),
    AV.v (Value.int IntKind.i64 y.c.en), AV.v (Value.int IntKind.i64 y.c.go)]), some (Blk.arr (10 : Nat) (List.length y.P) (lsF Pc.c y.P)), some (Blk.row [AV.v (Value.string y.d.who), AV.v
    (Value.int IntKind.i64 y.d.most), AV.hs (3 : Nat) (0 : Nat) (List.length y.l), AV.v (Value.int IntKind.i64 y.d.now), AV.v (Value.int IntKind.i64 y.d.heard)]), some (Blk.arr (10 : Nat)
    (List.length y.l) (lsF Ro.c y.l)), some (Blk.arr (10 : Nat) (List.length y.os) (lsF Oc.c y.os)), some (Blk.arr (10 : Nat) (List.length y.os) (lsF Oc.c y.os)), some (Blk.row [AV.v
    (Value.int IntKind.i64 (List.getD y.acts y.i default).k), AV.v (Value.int IntKind.i64 (List.getD y.acts y.i default).tx.k), AV.v (Value.string (List.getD y.acts y.i default).tx.fr), AV.v
    (Value.string (List.getD y.acts y.i default).tx.to), AV.v (Value.string (List.getD y.acts y.i default).tx.ky), AV.v (Value.string (List.getD y.acts y.i default).tx.vl), AV.v (Value.int
    IntKind.i64 (List.getD y.acts y.i default).tx.am), AV.v (Value.int IntKind.i64 (List.getD y.acts y.i default).tx.nn), AV.sl (10 : Nat) (List.length (List.getD y.acts y.i default).os)
    (lsF Oc.c (List.getD y.acts y.i default).os)])])) Tree.fail) (Tree.chk (cl ([AV.ptr (0 : Nat) (0 : Nat)] = [AV.ptr (0 : Nat) (0 : Nat)] ∧ [Blk.row [AV.v (Value.string y.c.who), AV.v
    (Value.int IntKind.i64 y.c.most), AV.hs (1 : Nat) (0 : Nat) (List.length y.P), AV.v (Value.int IntKind.i64 y.c.now), AV.v (Value.int IntKind.i64 y.c.heard), AV.v (Value.int IntKind.i64
    y.c.wt), AV.v (Value.int IntKind.i64 y.c.en), AV.v (Value.int IntKind.i64 y.c.go)], Blk.arr (10 : Nat) (List.length y.P) (lsF Pc.c y.P)] = [Blk.row [AV.v (Value.string z.c.who), AV.v
    (Value.int IntKind.i64 z.c.most), AV.hs (1 : Nat) (0 : Nat) (List.length z.P), AV.v (Value.int IntKind.i64 z.c.now), AV.v (Value.int IntKind.i64 z.c.heard), AV.v (Value.int IntKind.i64
    z.c.wt), AV.v (Value.int IntKind.i64 z.c.en), AV.v (Value.int IntKind.i64 z.c.go)], Blk.arr (10 : Nat) (List.length z.P) (lsF Pc.c z.P)])) (Tree.chk (cl ([AV.ptr (0 : Nat) (0 : Nat)] =
    [AV.ptr (0 : Nat) (0 : Nat)] ∧ [Blk.row [AV.v (Value.string y.c.who), AV.v (Value.int IntKind.i64 y.c.most), AV.hs (1 : Nat) (0 : Nat) (List.length y.P), AV.v (Value.int IntKind.i64
    y.c.now), AV.v (Value.int IntKind.i64 y.c.heard), AV.v (Value.int IntKind.i64 y.c.wt), AV.v (Value.int IntKind.i64 y.c.en), AV.v (Value.int IntKind.i64 y.c.go)], Blk.arr (10 : Nat)
    (List.length y.P) (lsF Pc.c y.P)] = [Blk.row [AV.v (Value.string z.c.who), AV.v (Value.int IntKind.i64 z.c.most), AV.hs (1 : Nat) (0 : Nat) (List.length z.P), AV.v (Value.int IntKind.i64
    z.c.now), AV.v (Value.int IntKind.i64 z.c.heard), AV.v (Value.int IntKind.i64 z.c.wt), AV.v (Value.int IntKind.i64 z.c.en), AV.v (Value.int IntKind.i64 z.c.go)], Blk.arr (10 : Nat)
    (List.length z.P) (lsF Pc.c z.P)])) (Tree.chk (bif !decide ((↑(List.length o) : Int) = (↑(List.length y.l) : Int)) then true else cl ([Blk.row [AV.v (Value.string y.d.who), AV.v
    (Value.int IntKind.i64 y.d.most), AV.hs (1 : Nat) (0 : Nat) (List.length y.l), AV.v (Value.int IntKind.i64 y.d.now), AV.v (Value.int IntKind.i64 y.d.heard)], Blk.arr (10 : Nat)
    (List.length y.l) (lsF Ro.c y.l)] = [Blk.row [AV.v (Value.string z.d.who), AV.v (Value.int IntKind.i64 z.d.most), AV.hs (1 : Nat) (0 : Nat) (List.length z.l), AV.v (Value.int IntKind.i64
    z.d.now), AV.v (Value.int IntKind.i64 z.d.heard)], Blk.arr (10 : Nat) (List.length z.l) (lsF Ro.c z.l)]) && bif !decide (z.c.wt = (↑(cnt (0 : Int) z.l) : Int)) then true else cl
    ([Blk.row [AV.v (Value.string y.d.who), AV.v (Value.int IntKind.i64 y.d.most), AV.hs (1 : Nat) (0 : Nat) (List.length y.l), AV.v (Value.int IntKind.i64 y.d.now), AV.v (Value.int
    IntKind.i64 y.d.heard)], Blk.arr (10 : Nat) (List.length y.l) (lsF Ro.c y.l)] = [Blk.row [AV.v (Value.string z.d.who), AV.v (Value.int IntKind.i64 z.d.most), AV.hs (1 : Nat) (0 : Nat)
    (List.length z.l), AV.v (Value.int IntKind.i64 z.d.now), AV.v (Value.int IntKind.i64 z.d.heard)], Blk.arr (10 : Nat) (List.length z.l) (lsF Ro.c z.l)]) && bif !decide (z.c.en = (↑(cnt (1
    : Int) z.l) : Int)) then true else cl ([Blk.row [AV.v (Value.string y.d.who), AV.v (Value.int IntKind.i64 y.d.most), AV.hs (1 : Nat) (0 : Nat) (List.length y.l), AV.v (Value.int
    IntKind.i64 y.d.now), AV.v (Value.int IntKind.i64 y.d.heard)], Blk.arr (10 : Nat) (List.length y.l) (lsF Ro.c y.l)] = [Blk.row [AV.v (Value.string z.d.who), AV.v (Value.int IntKind.i64
    z.d.most), AV.hs (1 : Nat) (0 : Nat) (List.length z.l), AV.v (Value.int IntKind.i64 z.d.now), AV.v (Value.int IntKind.i64 z.d.heard)], Blk.arr (10 : Nat) (List.length z.l) (lsF Ro.c
    z.l)])) (Tree.br (bif !decide ((↑(List.length o) : Int) = (↑(List.length y.l) : Int)) then true else bif !decide (z.c.wt = (↑(cnt (0 : Int) z.l) : Int)) then true else bif !decide
    (z.c.en = (↑(cnt (1 : Int) z.l) : Int)) then true else !decide (z.c.go = (↑(cnt (2 : Int) z.l) : Int))) (Tree.leaf (Out.mk AEx.ret [AV.ptr (0 : Nat) (0 : Nat), AV.ptr (2 : Nat) (0 :
    Nat), AV.hs (4 : Nat) (0 : Nat) (List.length y.os), AV.hs (5 : Nat) (0 : Nat) (List.length y.os), AV.v (Value.int IntKind.i64 (↑y.i : Int)), AV.sl (9 : Nat) (List.length y.acts) (lsF
    Ac.c y.acts)] [some (Blk.row [AV.v (Value.string y.c.who), AV.v (Value.int IntKind.i64 y.c.most), AV.hs (1 : Nat) (0 : Nat) (List.length y.P), AV.v (Value.int IntKind.i64 y.c.now), AV.v
    (Value.int IntKind.i64 y.c.heard), AV.v (Value.int IntKind.i64 y.c.wt), AV.v (Value.int IntKind.i64 y.c.en), AV.v (Value.int IntKind.i64 y.c.go)]), some (Blk.arr (10 : Nat) (List.length
    y.P) (lsF Pc.c y.P)), some (Blk.row [AV.v (Value.string y.d.who), AV.v (Value.int IntKind.i64 y.d.most), AV.hs (3 : Nat) (0 : Nat) (List.length y.l), AV.v (Value.int IntKind.i64
    y.d.now), AV.v (Value.int IntKind.i64 y.d.heard)]), some (Blk.arr (10 : Nat) (List.length y.l) (lsF Ro.c y.l)), some (Blk.arr (10 : Nat) (List.length y.os) (lsF Oc.c y.os)), some
    (Blk.arr (10 : Nat) (List.length y.os) (lsF Oc.c y.os))])) (Tree.chk (cl (LeL [AV.ptr (0 : Nat) (0 : Nat), AV.ptr (2 : Nat) (0 : Nat), AV.hs (4 : Nat) (0 : Nat) (List.length y.os), AV.hs
    (5 : Nat) (0 : Nat) (List.length y.os), AV.hs (6 : Nat) (0 : Nat) (List.length o), AV.v (Value.int IntKind.i64 (0 : Int)), AV.v (Value.int IntKind.i64 (↑y.i : Int)), AV.sl (9 : Nat)
    (List.length y.acts) (lsF Ac.c y.acts)] [AV.ptr (0 : Nat) (0 : Nat), AV.ptr (2 : Nat) (0 : Nat), AV.hs (4 : Nat) (0 : Nat) (List.length z.os), AV.hs (5 : Nat) (0 : Nat) (List.length
    z.os), AV.hs (6 : Nat) (0 : Nat) (List.length o), AV.v (Value.int IntKind.i64 (↑(0 : Nat) : Int)), AV.v (Value.int IntKind.i64 (↑z.i : Int)), AV.sl (9 : Nat) (List.length z.acts) (lsF
    Ac.c z.acts)] ∧ LeH [some (Blk.row [AV.v (Value.string y.c.who), AV.v (Value.int IntKind.i64 y.c.most), AV.hs (1 : Nat) (0 : Nat) (List.length y.P), AV.v (Value.int IntKind.i64 y.c.now),
    AV.v (Value.int IntKind.i64 y.c.heard), AV.v (Value.int IntKind.i64 y.c.wt), AV.v (Value.int IntKind.i64 y.c.en), AV.v (Value.int IntKind.i64 y.c.go)]), some (Blk.arr (10 : Nat)
    (List.length y.P) (lsF Pc.c y.P)), some (Blk.row [AV.v (Value.string y.d.who), AV.v (Value.int IntKind.i64 y.d.most), AV.hs (3 : Nat) (0 : Nat) (List.length y.l), AV.v (Value.int
    IntKind.i64 y.d.now), AV.v (Value.int IntKind.i64 y.d.heard)]), some (Blk.arr (10 : Nat) (List.length y.l) (lsF Ro.c y.l)), some (Blk.arr (10 : Nat) (List.length y.os) (lsF Oc.c y.os)),
    some (Blk.arr (10 : Nat) (List.length y.os) (lsF Oc.c y.os)), some (Blk.arr (8 : Nat) (List.length o) (lsF Od.c o))] [some (Blk.row [AV.v (Value.string z.c.who), AV.v (Value.int
    IntKind.i64 z.c.most), AV.hs (1 : Nat) (0 : Nat) (List.length z.P), AV.v (Value.int IntKind.i64 z.c.now), AV.v (Value.int IntKind.i64 z.c.heard), AV.v (Value.int IntKind.i64 z.c.wt),
    AV.v (Value.int IntKind.i64 z.c.en), AV.v (Value.int IntKind.i64 z.c.go)]), some (Blk.arr (10 : Nat) (List.length z.P) (lsF Pc.c z.P)), some (Blk.row [AV.v (Value.string z.d.who), AV.v
    (Value.int IntKind.i64 z.d.most), AV.hs (3 : Nat) (0 : Nat) (List.length z.l), AV.v (Value.int IntKind.i64 z.d.now), AV.v (Value.int IntKind.i64 z.d.heard)]), some (Blk.arr (10 : Nat)
    (List.length z.l) (lsF Ro.c z.l)), some (Blk.arr (10 : Nat) (List.length z.os) (lsF Oc.c z.os)), some (Blk.arr (10 : Nat) (List.length z.os) (lsF Oc.c z.os)), some (Blk.arr (8 : Nat)
    (List.length o) (lsF Od.c o))])) (Tree.leaf (Out.mk AEx.normal [AV.ptr (0 : Nat) (0 : Nat), AV.ptr (2 : Nat) (0 : Nat), AV.hs (4 : Nat) (0 : Nat) (List.length z.os), AV.hs (5 : Nat) (0 :
    Nat) (List.length z.os), AV.v (Value.int IntKind.i64 (IntKind.wrap IntKind.i64 ((↑z.i : Int) + (1 : Int)))), AV.sl (9 : Nat) (List.length z.acts) (lsF Ac.c z.acts)] [some (Blk.row [AV.v
    (Value.string z.c.who), AV.v (Value.int IntKind.i64 z.c.most), AV.hs (1 : Nat) (0 : Nat) (List.length z.P), AV.v (Value.int IntKind.i64 z.c.now), AV.v (Value.int IntKind.i64 z.c.heard),
    AV.v (Value.int IntKind.i64 z.c.wt), AV.v (Value.int IntKind.i64 z.c.en), AV.v (Value.int IntKind.i64 z.c.go)]), some (Blk.arr (10 : Nat) (List.length z.P) (lsF Pc.c z.P)), some (Blk.row
    [AV.v (Value.string z.d.who), AV.v (Value.int IntKind.i64 z.d.most), AV.hs (3 : Nat) (0 : Nat) (List.length z.l), AV.v (Value.int IntKind.i64 z.d.now), AV.v (Value.int IntKind.i64
    z.d.heard)]), some (Blk.arr (10 : Nat) (List.length z.l) (lsF Ro.c z.l)), some (Blk.arr (10 : Nat) (List.length z.os) (lsF Oc.c z.os)), some (Blk.arr (10 : Nat) (List.length z.os) (lsF
    Oc.c z.os))]))))))))))) (Tree.leaf (Out.mk (AEx.exit (0 : Nat)) [AV.ptr (0 : Nat) (0 : Nat), AV.ptr (2 : Nat) (0 : Nat), AV.hs (4 : Nat) (0 : Nat) (List.length y.os), AV.hs (5 : Nat) (0
    : Nat) (List.length y.os), AV.v (Value.int IntKind.i64 (↑y.i : Int)), AV.sl (9 : Nat) (List.length y.acts) (lsF Ac.c y.acts)] [some (Blk.row [AV.v (Value.string y.c.who), AV.v (Value.int
    IntKind.i64 y.c.most), AV.hs (1 : Nat) (0 : Nat) (List.length y.P), AV.v (Value.int IntKind.i64 y.c.now), AV.v (Value.int IntKind.i64 y.c.heard), AV.v (Value.int IntKind.i64 y.c.wt),
    AV.v (Value.int IntKind.i64 y.c.en), AV.v (Value.int IntKind.i64 y.c.go)]), some (Blk.arr (10 : Nat) (List.length y.P) (lsF Pc.c y.P)), some (Blk.row [AV.v (Value.string y.d.who), AV.v
    (Value.int IntKind.i64 y.d.most), AV.hs (3 : Nat) (0 : Nat) (List.length y.l), AV.v (Value.int IntKind.i64 y.d.now), AV.v (Value.int IntKind.i64 y.d.heard)]), some (Blk.arr (10 : Nat)
    (List.length y.l) (lsF Ro.c y.l)), some (Blk.arr (10 : Nat) (List.length y.os) (lsF Oc.c y.os)), some (Blk.arr (10 : Nat) (List.length y.os) (lsF Oc.c y.os))])) := by kernel_rfl
theorem r0h' (y z : Fy) (o : List Od) (n n' : Int) (hH : Answers Tryd.prog Γm 64 [.ptr 0 0, .hs 2 0 z.os.length] (y.c.bl y.P ++ [lsOc z.os]) (.v (.int .i64 n)) ((z.c.bl z.P ++ [lsOc z.os]).map some) []) (hR : Answers Tryd.prog Γm 69 [.ptr 0 0, .hs 2 0 z.os.length] (y.d.bl y.l ++ [lsOc z.os]) (.v (.int .i64 n')) ((z.d.bl z.l ++ [lsOc z.os]).map some) []) (hO : Answers Tryd.prog Γm 65 [.ptr 0 0] (z.c.bl z.P) (.hs 2 0 o.length) ((z.c.bl z.P).map some) [lsO o]) (hN : Answers Tryd.prog Γm 70 [.ptr 0 0] (z.c.bl z.P) (.tup [.v (.int .i64 z.c.wt), .v (.int .i64 z.c.en), .v (.int .i64 z.c.go)]) ((z.c.bl z.P).map some) []) (hl : z.l.length ≤ 100000) : roundE (P := Tryd.prog) (Γ := Γm) [CT.at 64 hH, CT.at 69 hR, CT.atN 65 hO, CT.atN 70 hN, hCt z.d z.l hl] (LW [] y z (y.acts.getD y.i default) o z.os) false 0 0 (lw 0) lv0' nl0' nCP (S0' y).1 (S0' y).2 =
  Tree.br (bif decide ((↑y.i : Int) < (↑(List.length y.acts) : Int)) then true else false) (Tree.chk (decide ((0 : Int) ≤ (↑y.i : Int)) && decide ((↑y.i : Int) < (↑(List.length y.acts) :
    Int))) (Tree.br (decide ((List.getD y.acts y.i default).k = (0 : Int))) Tree.fail (Tree.br (decide ((List.getD y.acts y.i default).k = (1 : Int))) Tree.fail (Tree.br (decide ((List.getD
    y.acts y.i default).k = (2 : Int))) (Tree.chk (cl (LeL [AV.ptr (0 : Nat) (0 : Nat), AV.ptr (2 : Nat) (0 : Nat), AV.hs (4 : Nat) (0 : Nat) (List.length y.os), AV.hs (5 : Nat) (0 : Nat)
    (List.length y.os), AV.ptr (6 : Nat) (0 : Nat), AV.v (Value.int IntKind.i64 (0 : Int)), AV.v (Value.int IntKind.i64 (↑y.i : Int)), AV.sl (9 : Nat) (List.length y.acts) (lsF Ac.c y.acts)]
    [AV.ptr (0 : Nat) (0 : Nat), AV.ptr (2 : Nat) (0 : Nat), AV.hs (4 : Nat) (0 : Nat) (List.length y.os), AV.hs (5 : Nat) (0 : Nat) (List.length y.os), AV.ptr (6 : Nat) (0 : Nat), AV.v
    (Value.int IntKind.i64 (↑(0 : Nat) : Int)), AV.v (Value.int IntKind.i64 (↑y.i : Int)), AV.sl (9 : Nat) (List.length y.acts) (lsF Ac.c y.acts)] ∧ LeH [some (Blk.row [AV.v (Value.string
    y.c.who), AV.v (Value.int IntKind.i64 y.c.most), AV.hs (1 : Nat) (0 : Nat) (List.length y.P), AV.v (Value.int IntKind.i64 y.c.now), AV.v (Value.int IntKind.i64 y.c.heard), AV.v
    (Value.int IntKind.i64 y.c.wt), AV.v (Value.int IntKind.i64 y.c.en), AV.v (Value.int IntKind.i64 y.c.go)]), some (Blk.arr (10 : Nat) (List.length y.P) (lsF Pc.c y.P)), some (Blk.row
    [AV.v (Value.string y.d.who), AV.v (Value.int IntKind.i64 y.d.most), AV.hs (3 : Nat) (0 : Nat) (List.length y.l), AV.v (Value.int IntKind.i64 y.d.now), AV.v (Value.int IntKind.i64
    y.d.heard)]), some (Blk.arr (10 : Nat) (List.length y.l) (lsF Ro.c y.l)), some (Blk.arr (10 : Nat) (List.length y.os) (lsF Oc.c y.os)), some (Blk.arr (10 : Nat) (List.length y.os) (lsF
    Oc.c y.os)), some (Blk.row [AV.v (Value.int IntKind.i64 (List.getD y.acts y.i default).k), AV.v (Value.int IntKind.i64 (List.getD y.acts y.i default).tx.k), AV.v (Value.string (List.getD
    y.acts y.i default).tx.fr), AV.v (Value.string (List.getD y.acts y.i default).tx.to), AV.v (Value.string (List.getD y.acts y.i default).tx.ky), AV.v (Value.string (List.getD y.acts y.i
    default).tx.vl), AV.v (Value.int IntKind.i64 (List.getD y.acts y.i default).tx.am), AV.v (Value.int IntKind.i64 (List.getD y.acts y.i default).tx.nn), AV.sl (10 : Nat) (List.length
    (List.getD y.acts (Int.toNat (↑y.i : Int)) default).os) (lsF Oc.c (List.getD y.acts (Int.toNat (↑y.i : Int)) default).os)])] [some (Blk.row [AV.v (Value.string y.c.who), AV.v (Value.int
    IntKind.i64 y.c.most), AV.hs (1 : Nat) (0 : Nat) (List.length y.P), AV.v (Value.int IntKind.i64 y.c.now), AV.v (Value.int IntKind.i64 y.c.heard), AV.v (Value.int IntKind.i64 y.c.wt),
    AV.v (Value.int IntKind.i64 y.c.en), AV.v (Value.int IntKind.i64 y.c.go)]), some (Blk.arr (10 : Nat) (List.length y.P) (lsF Pc.c y.P)), some (Blk.row [AV.v (Value.string y.d.who), AV.v
    (Value.int IntKind.i64 y.d.most), AV.hs (3 : Nat) (0 : Nat) (List.length y.l), AV.v (Value.int IntKind.i64 y.d.now), AV.v (Value.int IntKind.i64 y.d.heard)]), some (Blk.arr (10 : Nat)
    (List.length y.l) (lsF Ro.c y.l)), some (Blk.arr (10 : Nat) (List.length y.os) (lsF Oc.c y.os)), some (Blk.arr (10 : Nat) (List.length y.os) (lsF Oc.c y.os)), some (Blk.row [AV.v
    (Value.int IntKind.i64 (List.getD y.acts y.i default).k), AV.v (Value.int IntKind.i64 (List.getD y.acts y.i default).tx.k), AV.v (Value.string (List.getD y.acts y.i default).tx.fr), AV.v
    (Value.string (List.getD y.acts y.i default).tx.to), AV.v (Value.string (List.getD y.acts y.i default).tx.ky), AV.v (Value.string (List.getD y.acts y.i default).tx.vl), AV.v (Value.int
    IntKind.i64 (List.getD y.acts y.i default).tx.am), AV.v (Value.int IntKind.i64 (List.getD y.acts y.i default).tx.nn), AV.sl (10 : Nat) (List.length (List.getD y.acts y.i default).os)
    (lsF Oc.c (List.getD y.acts y.i default).os)])])) (Tree.chk (cl (LeL [AV.ptr (0 : Nat) (0 : Nat), AV.hs (2 : Nat) (0 : Nat) (List.length (Fy.mk y.c y.P y.d y.l z.os y.i y.acts).os)]
    [AV.ptr (0 : Nat) (0 : Nat), AV.hs (2 : Nat) (0 : Nat) (List.length z.os)] ∧ LeH [some (Blk.row [AV.v (Value.string y.c.who), AV.v (Value.int IntKind.i64 y.c.most), AV.hs (1 : Nat) (0 :
    Nat) (List.length (Fy.mk y.c y.P y.d y.l z.os y.i y.acts).P), AV.v (Value.int IntKind.i64 y.c.now), AV.v (Value.int IntKind.i64 y.c.heard), AV.v (Value.int IntKind.i64 y.c.wt), AV.v
    (Value.int IntKind.i64 y.c.en), AV.v (Value.int IntKind.i64 y.c.go)]), some (Blk.arr (10 : Nat) (List.length (Fy.mk y.c y.P y.d y.l z.os y.i y.acts).P) (lsF Pc.c (Fy.mk y.c y.P y.d y.l
    z.os y.i y.acts).P)), some (Blk.arr (10 : Nat) (List.length (Fy.mk y.c y.P y.d y.l z.os y.i y.acts).os) (lsF Oc.c (Fy.mk y.c y.P y.d y.l z.os y.i y.acts).os))] [some (Blk.row [AV.v
    (Value.string y.c.who), AV.v (Value.int IntKind.i64 y.c.most), AV.hs (1 : Nat) (0 : Nat) (List.length y.P), AV.v (Value.int IntKind.i64 y.c.now), AV.v (Value.int IntKind.i64 y.c.heard),
    AV.v (Value.int IntKind.i64 y.c.wt), AV.v (Value.int IntKind.i64 y.c.en), AV.v (Value.int IntKind.i64 y.c.go)]), some (Blk.arr (10 : Nat) (List.length y.P) (lsF Pc.c y.P)), some (Blk.arr
    (10 : Nat) (List.length z.os) (lsF Oc.c z.os))])) (Tree.chk (cl (LeL [AV.ptr (0 : Nat) (0 : Nat), AV.hs (2 : Nat) (0 : Nat) (List.length (Fy.mk y.c y.P y.d y.l z.os y.i y.acts).os)]
    [AV.ptr (0 : Nat) (0 : Nat), AV.hs (2 : Nat) (0 : Nat) (List.length z.os)] ∧ LeH [some (Blk.row [AV.v (Value.string y.d.who), AV.v (Value.int IntKind.i64 y.d.most), AV.hs (1 : Nat) (0 :
    Nat) (List.length (Fy.mk y.c y.P y.d y.l z.os y.i y.acts).l), AV.v (Value.int IntKind.i64 y.d.now), AV.v (Value.int IntKind.i64 y.d.heard)]), some (Blk.arr (10 : Nat) (List.length (Fy.mk
    y.c y.P y.d y.l z.os y.i y.acts).l) (lsF Ro.c (Fy.mk y.c y.P y.d y.l z.os y.i y.acts).l)), some (Blk.arr (10 : Nat) (List.length (Fy.mk y.c y.P y.d y.l z.os y.i y.acts).os) (lsF Oc.c
    (Fy.mk y.c y.P y.d y.l z.os y.i y.acts).os))] [some (Blk.row [AV.v (Value.string y.d.who), AV.v (Value.int IntKind.i64 y.d.most), AV.hs (1 : Nat) (0 : Nat) (List.length y.l), AV.v
    (Value.int IntKind.i64 y.d.now), AV.v (Value.int IntKind.i64 y.d.heard)]), some (Blk.arr (10 : Nat) (List.length y.l) (lsF Ro.c y.l)), some (Blk.arr (10 : Nat) (List.length z.os) (lsF
    Oc.c z.os))])) (Tree.br (!decide (n = n')) (Tree.leaf (Out.mk AEx.ret [AV.ptr (0 : Nat) (0 : Nat), AV.ptr (2 : Nat) (0 : Nat), AV.hs (4 : Nat) (0 : Nat) (List.length (Fy.mk y.c y.P y.d
    y.l z.os y.i y.acts).os), AV.hs (5 : Nat) (0 : Nat) (List.length (Fy.mk y.c y.P y.d y.l z.os y.i y.acts).os), AV.v (Value.int IntKind.i64 (↑y.i : Int)), AV.sl (9 : Nat) (List.length
    (Fy.mk y.c y.P y.d y.l z.os y.i y.acts).acts) (lsF Ac.c (Fy.mk y.c y.P y.d y.l z.os y.i y.acts).acts)] [some (Blk.row [AV.v (Value.string z.c.who), AV.v (Value.int IntKind.i64 z.c.most),
    AV.hs (1 : Nat) (0 : Nat) (List.length z.P), AV.v (Value.int IntKind.i64 z.c.now), AV.v (Value.int IntKind.i64 z.c.heard), AV.v (Value.int IntKind.i64 z.c.wt), AV.v (Value.int
    IntKind.i64 z.c.en), AV.v (Value.int IntKind.i64 z.c.go)]), some (Blk.arr (10 : Nat) (List.length z.P) (lsF Pc.c z.P)), some (Blk.row [AV.v (Value.string z.d.who), AV.v (Value.int
    IntKind.i64 z.d.most), AV.hs (3 : Nat) (0 : Nat) (List.length z.l), AV.v (Value.int IntKind.i64 z.d.now), AV.v (Value.int IntKind.i64 z.d.heard)]), some (Blk.arr (10 : Nat) (List.length
    z.l) (lsF Ro.c z.l)), some (Blk.arr (10 : Nat) (List.length z.os) (lsF Oc.c z.os)), some (Blk.arr (10 : Nat) (List.length z.os) (lsF Oc.c z.os))])) (Tree.chk (cl ([AV.ptr (0 : Nat) (0 :
    Nat)] = [AV.ptr (0 : Nat) (0 : Nat)] ∧ [Blk.row [AV.v (Value.string z.c.who), AV.v (Value.int IntKind.i64 z.c.most), AV.hs (1 : Nat) (0 : Nat) (List.length z.P), AV.v (Value.int
    IntKind.i64 z.c.now), AV.v (Value.int IntKind.i64 z.c.heard), AV.v (Value.int IntKind.i64 z.c.wt), AV.v (Value.int IntKind.i64 z.c.en), AV.v (Value.int IntKind.i64 z.c.go)], Blk.arr (10
    : Nat) (List.length z.P) (lsF Pc.c z.P)] = [Blk.row [AV.v (Value.string z.c.who), AV.v (Value.int IntKind.i64 z.c.most), AV.hs (1 : Nat) (0 : Nat) (List.length z.P), AV.v (Value.int
    IntKind.i64 z.c.now), AV.v (Value.int IntKind.i64 z.c.heard), AV.v (Value.int IntKind.i64 z.c.wt), AV.v (Value.int IntKind.i64 z.c.en), AV.v (Value.int IntKind.i64 z.c.go)], Blk.arr (10
    : Nat) (List.length z.P) (lsF Pc.c z.P)])) (Tree.chk (cl ([AV.ptr (0 : Nat) (0 : Nat)] = [AV.ptr (0 : Nat) (0 : Nat)] ∧ [Blk.row [AV.v (Value.string z.c.who), AV.v (Value.int IntKind.i64
    z.c.most), AV.hs (1 : Nat) (0 : Nat) (List.length z.P), AV.v (Value.int IntKind.i64 z.c.now), AV.v (Value.int IntKind.i64 z.c.heard), AV.v (Value.int IntKind.i64 z.c.wt), AV.v (Value.int
    IntKind.i64 z.c.en), AV.v (Value.int IntKind.i64 z.c.go)], Blk.arr (10 : Nat) (List.length z.P) (lsF Pc.c z.P)] = [Blk.row [AV.v (Value.string z.c.who), AV.v (Value.int IntKind.i64
    z.c.most), AV.hs (1 : Nat) (0 : Nat) (List.length z.P), AV.v (Value.int IntKind.i64 z.c.now), AV.v (Value.int IntKind.i64 z.c.heard), AV.v (Value.int IntKind.i64 z.c.wt), AV.v (Value.int
    IntKind.i64 z.c.en), AV.v (Value.int IntKind.i64 z.c.go)], Blk.arr (10 : Nat) (List.length z.P) (lsF Pc.c z.P)])) (Tree.chk (bif !decide ((↑(List.length o) : Int) = (↑(List.length z.l) :
    Int)) then true else cl ([Blk.row [AV.v (Value.string z.d.who), AV.v (Value.int IntKind.i64 z.d.most), AV.hs (1 : Nat) (0 : Nat) (List.length z.l), AV.v (Value.int IntKind.i64 z.d.now),
    AV.v (Value.int IntKind.i64 z.d.heard)], Blk.arr (10 : Nat) (List.length z.l) (lsF Ro.c z.l)] = [Blk.row [AV.v (Value.string z.d.who), AV.v (Value.int IntKind.i64 z.d.most), AV.hs (1 :
    Nat) (0 : Nat) (List.length z.l), AV.v (Value.int IntKind.i64 z.d.now), AV.v (Value.int IntKind.i64 z.d.heard)], Blk.arr (10 : Nat) (List.length z.l) (lsF Ro.c z.l)]) && bif !decide
    (z.c.wt = (↑(cnt (0 : Int) z.l) : Int)) then true else cl ([Blk.row [AV.v (Value.string z.d.who), AV.v (Value.int IntKind.i64 z.d.most), AV.hs (1 : Nat) (0 : Nat) (List.length z.l), AV.v
    (Value.int IntKind.i64 z.d.now), AV.v (Value.int IntKind.i64 z.d.heard)], Blk.arr (10 : Nat) (List.length z.l) (lsF Ro.c z.l)] = [Blk.row [AV.v (Value.string z.d.who), AV.v (Value.int
    IntKind.i64 z.d.most), AV.hs (1 : Nat) (0 : Nat) (List.length z.l), AV.v (Value.int IntKind.i64 z.d.now), AV.v (Value.int IntKind.i64 z.d.heard)], Blk.arr (10 : Nat) (List.length z.l)
    (lsF Ro.c z.l)]) && bif !decide (z.c.en = (↑(cnt (1 : Int) z.l) : Int)) then true else cl ([Blk.row [AV.v (Value.string z.d.who), AV.v (Value.int IntKind.i64 z.d.most), AV.hs (1 : Nat)
    (0 : Nat) (List.length z.l), AV.v (Value.int IntKind.i64 z.d.now), AV.v (Value.int IntKind.i64 z.d.heard)], Blk.arr (10 : Nat) (List.length z.l) (lsF Ro.c z.l)] = [Blk.row [AV.v
    (Value.string z.d.who), AV.v (Value.int IntKind.i64 z.d.most), AV.hs (1 : Nat) (0 : Nat) (List.length z.l), AV.v (Value.int IntKind.i64 z.d.now), AV.v (Value.int IntKind.i64 z.d.heard)],
    Blk.arr (10 : Nat) (List.length z.l) (lsF Ro.c z.l)])) (Tree.br (bif !decide ((↑(List.length o) : Int) = (↑(List.length z.l) : Int)) then true else bif !decide (z.c.wt = (↑(cnt (0 : Int)
    z.l) : Int)) then true else bif !decide (z.c.en = (↑(cnt (1 : Int) z.l) : Int)) then true else !decide (z.c.go = (↑(cnt (2 : Int) z.l) : Int))) (Tree.leaf (Out.mk AEx.ret [AV.ptr (0 :
    Nat) (0 : Nat), AV.ptr (2 : Nat) (0 : Nat), AV.hs (4 : Nat) (0 : Nat) (List.length (Fy.mk y.c y.P y.d y.l z.os y.i y.acts).os), AV.hs (5 : Nat) (0 : Nat) (List.length (Fy.mk y.c y.P y.d
    y.l z.os y.i y.acts).os), AV.v (Value.int IntKind.i64 (↑y.i : Int)), AV.sl (9 : Nat) (List.length (Fy.mk y.c y.P y.d y.l z.os y.i y.acts).acts) (lsF Ac.c (Fy.mk y.c y.P y.d y.l z.os y.i
    y.acts).acts)] [some (Blk.row [AV.v (Value.string z.c.who), AV.v (Value.int IntKind.i64 z.c.most), AV.hs (1 : Nat) (0 : Nat) (List.length z.P), AV.v (Value.int IntKind.i64 z.c.now), AV.v
    (Value.int IntKind.i64 z.c.heard), AV.v (Value.int IntKind.i64 z.c.wt), AV.v (Value.int IntKind.i64 z.c.en), AV.v (Value.int IntKind.i64 z.c.go)]), some (Blk.arr (10 : Nat) (List.length
    z.P) (lsF Pc.c z.P)), some (Blk.row [AV.v (Value.string z.d.who), AV.v (Value.int IntKind.i64 z.d.most), AV.hs (3 : Nat) (0 : Nat) (List.length z.l), AV.v (Value.int IntKind.i64
    z.d.now), AV.v (Value.int IntKind.i64 z.d.heard)]), some (Blk.arr (10 : Nat) (List.length z.l) (lsF Ro.c z.l)), some (Blk.arr (10 : Nat) (List.length z.os) (lsF Oc.c z.os)), some
    (Blk.arr (10 : Nat) (List.length z.os) (lsF Oc.c z.os))])) (Tree.chk (cl (LeL [AV.ptr (0 : Nat) (0 : Nat), AV.ptr (2 : Nat) (0 : Nat), AV.hs (4 : Nat) (0 : Nat) (List.length (Fy.mk y.c
    y.P y.d y.l z.os y.i y.acts).os), AV.hs (5 : Nat) (0 : Nat) (List.length (Fy.mk y.c y.P y.d y.l z.os y.i y.acts).os), AV.hs (6 : Nat) (0 : Nat) (List.length o), AV.v (Value.int
    IntKind.i64 (0 : Int)), AV.v (Value.int IntKind.i64 (↑y.i : Int)), AV.sl (9 : Nat) (List.length (Fy.mk y.c y.P y.d y.l z.os y.i y.acts).acts) (lsF Ac.c (Fy.mk y.c y.P y.d y.l z.os y.i
    y.acts).acts)] [AV.ptr (0 : Nat) (0 : Nat), AV.ptr (2 : Nat) (0 : Nat), AV.hs (4 : Nat) (0 : Nat) (List.length z.os), AV.hs (5 : Nat) (0 : Nat) (List.length z.os), AV.hs (6 : Nat) (0 :
    Nat) (List.length o), AV.v (Value.int IntKind.i64 (↑(0 : Nat) : Int)), AV.v (Value.int IntKind.i64 (↑z.i : Int)), AV.sl (9 : Nat) (List.length z.acts) (lsF Ac.c z.acts)] ∧ LeH [some
    (Blk.row [AV.v (Value.string z.c.who), AV.v (Value.int IntKind.i64 z.c.most), AV.hs (1 : Nat) (0 : Nat) (List.length z.P), AV.v (Value.int IntKind.i64 z.c.now), AV.v (Value.int
    IntKind.i64 z.c.heard), AV.v (Value.int IntKind.i64 z.c.wt), AV.v (Value.int IntKind.i64 z.c.en), AV.v (Value.int IntKind.i64 z.c.go)]), some (Blk.arr (10 : Nat) (List.length z.P) (lsF
    Pc.c z.P)), some (Blk.row [AV.v (Value.string z.d.who), AV.v (Value.int IntKind.i64 z.d.most), AV.hs (3 : Nat) (0 : Nat) (List.length z.l), AV.v (Value.int IntKind.i64 z.d.now), AV.v
    (Value.int IntKind.i64 z.d.heard)]), some (Blk.arr (10 : Nat) (List.length z.l) (lsF Ro.c z.l)), some (Blk.arr (10 : Nat) (List.length z.os) (lsF Oc.c z.os)), some (Blk.arr (10 : Nat)
    (List.length z.os) (lsF Oc.c z.os)), some (Blk.arr (8 : Nat) (List.length o) (lsF Od.c o))] [some (Blk.row [AV.v (Value.string z.c.who), AV.v (Value.int IntKind.i64 z.c.most), AV.hs (1 :
    Nat) (0 : Nat) (List.length z.P), AV.v (Value.int IntKind.i64 z.c.now), AV.v (Value.int IntKind.i64 z.c.heard), AV.v (Value.int IntKind.i64 z.c.wt), AV.v (Value.int IntKind.i64 z.c.en),
    AV.v (Value.int IntKind.i64 z.c.go)]), some (Blk.arr (10 : Nat) (List.length z.P) (lsF Pc.c z.P)), some (Blk.row [AV.v (Value.string z.d.who), AV.v (Value.int IntKind.i64 z.d.most),
    AV.hs (3 : Nat) (0 : Nat) (List.length z.l), AV.v (Value.int IntKind.i64 z.d.now), AV.v (Value.int IntKind.i64 z.d.heard)]), some (Blk.arr (10 : Nat) (List.length z.l) (lsF Ro.c z.l)),
    some (Blk.arr (10 : Nat) (List.length z.os) (lsF Oc.c z.os)), some (Blk.arr (10 : Nat) (List.length z.os) (lsF Oc.c z.os)), some (Blk.arr (8 : Nat) (List.length o) (lsF Od.c o))]))
    (Tree.leaf (Out.mk AEx.normal [AV.ptr (0 : Nat) (0 : Nat), AV.ptr (2 : Nat) (0 : Nat), AV.hs (4 : Nat) (0 : Nat) (List.length z.os), AV.hs (5 : Nat) (0 : Nat) (List.length z.os), AV.v
    (Value.int IntKind.i64 (IntKind.wrap IntKind.i64 ((↑z.i : Int) + (1 : Int)))), AV.sl (9 : Nat) (List.length z.acts) (lsF Ac.c z.acts)] [some (Blk.row [AV.v (Value.string z.c.who), AV.v
    (Value.int IntKind.i64 z.c.most), AV.hs (1 : Nat) (0 : Nat) (List.length z.P), AV.v (Value.int IntKind.i64 z.c.now), AV.v (Value.int IntKind.i64 z.c.heard), AV.v (Value.int IntKind.i64
    z.c.wt), AV.v (Value.int IntKind.i64 z.c.en), AV.v (Value.int IntKind.i64 z.c.go)]), some (Blk.arr (10 : Nat) (List.length z.P) (lsF Pc.c z.P)), some (Blk.row [AV.v (Value.string
    z.d.who), AV.v (Value.int IntKind.i64 z.d.most), AV.hs (3 : Nat) (0 : Nat) (List.length z.l), AV.v (Value.int IntKind.i64 z.d.now), AV.v (Value.int IntKind.i64 z.d.heard)]), some
    (Blk.arr (10 : Nat) (List.length z.l) (lsF Ro.c z.l)), some (Blk.arr (10 : Nat) (List.length z.os) (lsF Oc.c z.os)), some (Blk.arr (10 : Nat) (List.length z.os) (lsF Oc.c
    z.os))]))))))))))) (Tree.chk (cl ([AV.ptr (0 : Nat) (0 : Nat)] = [AV.ptr (0 : Nat) (0 : Nat)] ∧ [Blk.row [AV.v (Value.string y.c.who), AV.v (Value.int IntKind.i64 y.c.most), AV.hs (1 :
    Nat) (0 : Nat) (List.length y.P), AV.v (Value.int IntKind.i64 y.c.now), AV.v (Value.int IntKind.i64 y.c.heard), AV.v (Value.int IntKind.i64 y.c.wt), AV.v (Value.int IntKind.i64 y.c.en),
    AV.v (Value.int IntKind.i64 y.c.go)], Blk.arr (10 : Nat) (List.length y.P) (lsF Pc.c y.P)] = [Blk.row [AV.v (Value.string z.c.who), AV.v (Value.int IntKind.i64 z.c.most), AV.hs (1 : Nat)
    (0 : Nat) (List.length z.P), AV.v (Value.int IntKind.i64 z.c.now), AV.v (Value.int IntKind.i64 z.c.heard), AV.v (Value.int IntKind.i64 z.c.wt), AV.v (Value.int IntKind.i64 z.c.en), AV.v
    (Value.int IntKind.i64 z.c.go)], Blk.arr (10 : Nat) (List.length z.P) (lsF Pc.c z.P)])) (Tree.chk (cl ([AV.ptr (0 : Nat) (0 : Nat)] = [AV.ptr (0 : Nat) (0 : Nat)] ∧ [Blk.row [AV.v
    (Value.string y.c.who), AV.v (Value.int IntKind.i64 y.c.most), AV.hs (1 : Nat) (0 : Nat) (List.length y.P), AV.v (Value.int IntKind.i64 y.c.now), AV.v (Value.int IntKind.i64 y.c.heard),
    AV.v (Value.int IntKind.i64 y.c.wt), AV.v (Value.int IntKind.i64 y.c.en), AV.v (Value.int IntKind.i64 y.c.go)], Blk.arr (10 : Nat) (List.length y.P) (lsF Pc.c y.P)] = [Blk.row [AV.v
    (Value.string z.c.who), AV.v (Value.int IntKind.i64 z.c.most), AV.hs (1 : Nat) (0 : Nat) (List.length z.P), AV.v (Value.int IntKind.i64 z.c.now), AV.v (Value.int IntKind.i64 z.c.heard),
    AV.v (Value.int IntKind.i64 z.c.wt), AV.v (Value.int IntKind.i64 z.c.en), AV.v (Value.int IntKind.i64 z.c.go)], Blk.arr (10 : Nat) (List.length z.P) (lsF Pc.c z.P)])) (Tree.chk (bif
    !decide ((↑(List.length o) : Int) = (↑(List.length y.l) : Int)) then true else cl ([Blk.row [AV.v (Value.string y.d.who), AV.v (Value.int IntKind.i64 y.d.most), AV.hs (1 : Nat) (0 : Nat)
    (List.length y.l), AV.v (Value.int IntKind.i64 y.d.now), AV.v (Value.int IntKind.i64 y.d.heard)], Blk.arr (10 : Nat) (List.length y.l) (lsF Ro.c y.l)] = [Blk.row [AV.v (Value.string
    z.d.who), AV.v (Value.int IntKind.i64 z.d.most), AV.hs (1 : Nat) (0 : Nat) (List.length z.l), AV.v (Value.int IntKind.i64 z.d.now), AV.v (Value.int IntKind.i64 z.d.heard)], Blk.arr (10 :
    Nat) (List.length z.l) (lsF Ro.c z.l)]) && bif !decide (z.c.wt = (↑(cnt (0 : Int) z.l) : Int)) then true else cl ([Blk.row [AV.v (Value.string y.d.who), AV.v (Value.int IntKind.i64
    y.d.most), AV.hs (1 : Nat) (0 : Nat) (List.length y.l), AV.v (Value.int IntKind.i64 y.d.now), AV.v (Value.int IntKind.i64 y.d.heard)], Blk.arr (10 : Nat) (List.length y.l) (lsF Ro.c
    y.l)] = [Blk.row [AV.v (Value.string z.d.who), AV.v (Value.int IntKind.i64 z.d.most), AV.hs (1 : Nat) (0 : Nat) (List.length z.l), AV.v (Value.int IntKind.i64 z.d.now), AV.v (Value.int
    IntKind.i64 z.d.heard)], Blk.arr (10 : Nat) (List.length z.l) (lsF Ro.c z.l)]) && bif !decide (z.c.en = (↑(cnt (1 : Int) z.l) : Int)) then true else cl ([Blk.row [AV.v (Value.string
    y.d.who), AV.v (Value.int IntKind.i64 y.d.most), AV.hs (1 : Nat) (0 : Nat) (List.length y.l), AV.v (Value.int IntKind.i64 y.d.now), AV.v (Value.int IntKind.i64 y.d.heard)], Blk.arr (10 :
    Nat) (List.length y.l) (lsF Ro.c y.l)] = [Blk.row [AV.v (Value.string z.d.who), AV.v (Value.int IntKind.i64 z.d.most), AV.hs (1 : Nat) (0 : Nat) (List.length z.l), AV.v (Value.int
    IntKind.i64 z.d.now), AV.v (Value.int IntKind.i64 z.d.heard)], Blk.arr (10 : Nat) (List.length z.l) (lsF Ro.c z.l)])) (Tree.br (bif !decide ((↑(List.length o) : Int) = (↑(List.length
    y.l) : Int)) then true else bif !decide (z.c.wt = (↑(cnt (0 : Int) z.l) : Int)) then true else bif !decide (z.c.en = (↑(cnt (1 : Int) z.l) : Int)) then true else !decide (z.c.go = (↑(cnt
    (2 : Int) z.l) : Int))) (Tree.leaf (Out.mk AEx.ret [AV.ptr (0 : Nat) (0 : Nat), AV.ptr (2 : Nat) (0 : Nat), AV.hs (4 : Nat) (0 : Nat) (List.length y.os), AV.hs (5 : Nat) (0 : Nat)
    (List.length y.os), AV.v (Value.int IntKind.i64 (↑y.i : Int)), AV.sl (9 : Nat) (List.length y.acts) (lsF Ac.c y.acts)] [some (Blk.row [AV.v (Value.string y.c.who), AV.v (Value.int
    IntKind.i64 y.c.most), AV.hs (1 : Nat) (0 : Nat) (List.length y.P), AV.v (Value.int IntKind.i64 y.c.now), AV.v (Value.int IntKind.i64 y.c.heard), AV.v (Value.int IntKind.i64 y.c.wt),
    AV.v (Value.int IntKind.i64 y.c.en), AV.v (Value.int IntKind.i64 y.c.go)]), some (Blk.arr (10 : Nat) (List.length y.P) (lsF Pc.c y.P)), some (Blk.row [AV.v (Value.string y.d.who), AV.v
    (Value.int IntKind.i64 y.d.most), AV.hs (3 : Nat) (0 : Nat) (List.length y.l), AV.v (Value.int IntKind.i64 y.d.now), AV.v (Value.int IntKind.i64 y.d.heard)]), some (Blk.arr (10 : Nat)
    (List.length y.l) (lsF Ro.c y.l)), some (Blk.arr (10 : Nat) (List.length y.os) (lsF Oc.c y.os)), some (Blk.arr (10 : Nat) (List.length y.os) (lsF Oc.c y.os))])) (Tree.chk (cl (LeL
    [AV.ptr (0 : Nat) (0 : Nat), AV.ptr (2 : Nat) (0 : Nat), AV.hs (4 : Nat) (0 : Nat) (List.length y.os), AV.hs (5 : Nat) (0 : Nat) (List.length y.os), AV.hs (6 : Nat) (0 : Nat)
    (List.length o), AV.v (Value.int IntKind.i64 (0 : Int)), AV.v (Value.int IntKind.i64 (↑y.i : Int)), AV.sl (9 : Nat) (List.length y.acts) (lsF Ac.c y.acts)] [AV.ptr (0 : Nat) (0 : Nat),
    AV.ptr (2 : Nat) (0 : Nat), AV.hs (4 : Nat) (0 : Nat) (List.length z.os), AV.hs (5 : Nat) (0 : Nat) (List.length z.os), AV.hs (6 : Nat) (0 : Nat) (List.length o), AV.v (Value.int
    IntKind.i64 (↑(0 : Nat) : Int)), AV.v (Value.int IntKind.i64 (↑z.i : Int)), AV.sl (9 : Nat) (List.length z.acts) (lsF Ac.c z.acts)] ∧ LeH [some (Blk.row [AV.v (Value.string y.c.who),
    AV.v (Value.int IntKind.i64 y.c.most), AV.hs (1 : Nat) (0 : Nat) (List.length y.P), AV.v (Value.int IntKind.i64 y.c.now), AV.v (Value.int IntKind.i64 y.c.heard), AV.v (Value.int
    IntKind.i64 y.c.wt), AV.v (Value.int IntKind.i64 y.c.en), AV.v (Value.int IntKind.i64 y.c.go)]), some (Blk.arr (10 : Nat) (List.length y.P) (lsF Pc.c y.P)), some (Blk.row [AV.v
    (Value.string y.d.who), AV.v (Value.int IntKind.i64 y.d.most), AV.hs (3 : Nat) (0 : Nat) (List.length y.l), AV.v (Value.int IntKind.i64 y.d.now), AV.v (Value.int IntKind.i64
    y.d.heard)]), some (Blk.arr (10 : Nat) (List.length y.l) (lsF Ro.c y.l)), some (Blk.arr (10 : Nat) (List.length y.os) (lsF Oc.c y.os)), some (Blk.arr (10 : Nat) (List.length y.os) (lsF
    Oc.c y.os)), some (Blk.arr (8 : Nat) (List.length o) (lsF Od.c o))] [some (Blk.row [AV.v (Value.string z.c.who), AV.v (Value.int IntKind.i64 z.c.most), AV.hs (1 : Nat) (0 : Nat)
    (List.length z.P), AV.v (Value.int IntKind.i64 z.c.now), AV.v (Value.int IntKind.i64 z.c.heard), AV.v (Value.int IntKind.i64 z.c.wt), AV.v (Value.int IntKind.i64 z.c.en), AV.v (Value.int
    IntKind.i64 z.c.go)]), some (Blk.arr (10 : Nat) (List.length z.P) (lsF Pc.c z.P)), some (Blk.row [AV.v (Value.string z.d.who), AV.v (Value.int IntKind.i64 z.d.most), AV.hs (3 : Nat) (0 :
    Nat) (List.length z.l), AV.v (Value.int IntKind.i64 z.d.now), AV.v (Value.int IntKind.i64 z.d.heard)]), some (Blk.arr (10 : Nat) (List.length z.l) (lsF Ro.c z.l)), some (Blk.arr (10 :
    Nat) (List.length z.os) (lsF Oc.c z.os)), some (Blk.arr (10 : Nat) (List.length z.os) (lsF Oc.c z.os)), some (Blk.arr (8 : Nat) (List.length o) (lsF Od.c o))])) (Tree.leaf (Out.mk
    AEx.normal [AV.ptr (0 : Nat) (0 : Nat), AV.ptr (2 : Nat) (0 : Nat), AV.hs (4 : Nat) (0 : Nat) (List.length z.os), AV.hs (5 : Nat) (0 : Nat) (List.length z.os), AV.v (Value.int
    IntKind.i64 (IntKind.wrap IntKind.i64 ((↑z.i : Int) + (1 : Int)))), AV.sl (9 : Nat) (List.length z.acts) (lsF Ac.c z.acts)] [some (Blk.row [AV.v (Value.string z.c.who), AV.v (Value.int
    IntKind.i64 z.c.most), AV.hs (1 : Nat) (0 : Nat) (List.length z.P), AV.v (Value.int IntKind.i64 z.c.now), AV.v (Value.int IntKind.i64 z.c.heard), AV.v (Value.int IntKind.i64 z.c.wt),
    AV.v (Value.int IntKind.i64 z.c.en), AV.v (Value.int IntKind.i64 z.c.go)]), some (Blk.arr (10 : Nat) (List.length z.P) (lsF Pc.c z.P)), some (Blk.row [AV.v (Value.string z.d.who), AV.v
    (Value.int IntKind.i64 z.d.most), AV.hs (3 : Nat) (0 : Nat) (List.length z.l), AV.v (Value.int IntKind.i64 z.d.now), AV.v (Value.int IntKind.i64 z.d.heard)]), some (Blk.arr (10 : Nat)
    (List.length z.l) (lsF Ro.c z.l)), some (Blk.arr (10 : Nat) (List.length z.os) (lsF Oc.c z.os)), some (Blk.arr (10 : Nat) (List.length z.os) (lsF Oc.c z.os))]))))))))))) (Tree.leaf
    (Out.mk (AEx.exit (0 : Nat)) [AV.ptr (0 : Nat) (0 : Nat), AV.ptr (2 : Nat) (0 : Nat), AV.hs (4 : Nat) (0 : Nat) (List.length y.os), AV.hs (5 : Nat) (0 : Nat) (List.length y.os), AV.v
    (Value.int IntKind.i64 (↑y.i : Int)), AV.sl (9 : Nat) (List.length y.acts) (lsF Ac.c y.acts)] [some (Blk.row [AV.v (Value.string y.c.who), AV.v (Value.int IntKind.i64 y.c.most), AV.hs (1
    : Nat) (0 : Nat) (List.length y.P), AV.v (Value.int IntKind.i64 y.c.now), AV.v (Value.int IntKind.i64 y.c.heard), AV.v (Value.int IntKind.i64 y.c.wt), AV.v (Value.int IntKind.i64
    y.c.en), AV.v (Value.int IntKind.i64 y.c.go)]), some (Blk.arr (10 : Nat) (List.length y.P) (lsF Pc.c y.P)), some (Blk.row [AV.v (Value.string y.d.who), AV.v (Value.int IntKind.i64
    y.d.most), AV.hs (3 : Nat) (0 : Nat) (List.length y.l), AV.v (Value.int IntKind.i64 y.d.now), AV.v (Value.int IntKind.i64 y.d.heard)]), some (Blk.arr (10 : Nat) (List.length y.l) (lsF
    Ro.c y.l)), some (Blk.arr (10 : Nat) (List.length y.os) (lsF Oc.c y.os)), some (Blk.arr (10 : Nat) (List.length y.os) (lsF Oc.c y.os))])) := by kernel_rfl
end Go.Eng.TA.C

namespace Go.Eng.TA.C
open Go Go.Eng Go.Eng.M Go.Lib Go.Proofs
theorem sameTx (t : Tx) : (decide (t.k = t.k) && (decide (t.fr = t.fr) && (decide (t.to = t.to) && (decide (t.ky = t.ky) && (decide (t.vl = t.vl) && (decide (t.am = t.am) && decide (t.nn = t.nn))))))) = true := by simp
theorem loop1' {y : Fy} {o : List Tx} (ho : o.length ≤ 100000) : ∀ k : Nat, k ≤ o.length → LoopOK Tryd.prog Γm 0 nCP (lw 1) (LSpec.at lv1' [] (S1' y o k) (O1' y)) := by
  refine loop_at (S := S1' y o) (pre := fun k => k ≤ o.length) (O := fun _ => O1' y) (k := 0) (fun k => o.length - k) fun k hk => .of (noLoops (by kernel_rfl)) (r1' y o k) ?_
  rcases Nat.lt_or_ge k o.length with h | h
  · have e1 : IntKind.i64.wrap ((k : Int) + 1) = ((k + 1 : Nat) : Int) := wrapUpN (by omega)
    simp only [Nat.zero_add, e1, sameTx, Bool.not_true]
    repeat' (first | refine wC (by first | omega | (simp only [W1, cond_true, cond_false]; first | done | omega)) ?_ | refine wT (by first | omega | (simp only [W1, cond_true, cond_false]; first | done | omega)) ?_ | refine wF (by intro _h; first | omega | (simp only [W1, cond_true, cond_false] at _h; first | done | omega)) ?_ | (refine wS ?_ ?_ <;> intro _h <;> simp only [W1, cond_true, cond_false] at _h))
    all_goals simp only [W1, W2, owesN, owesX, owesR, cond_true, cond_false]
    repeat' (first | apply And.intro | intro _hc)
    all_goals first | exact ⟨k + 1, LeL.refl _, LeH.refl _, h, rfl, by show o.length - (k + 1) < o.length - k; omega⟩ | exact ⟨k + 1, LeL.refl _, LeH.refl _, h, by show o.length - (k + 1) < o.length - k; omega⟩ | exact AV.le_refl _ | exact AV.le_any _ | exact OLe.refl _ | exact OLe.none _ | exact LeH.refl _ | exact LeL.refl _ | exact AV.le.bs _ | exact AV.le.sb _ | omega | contradiction
  · obtain rfl : k = o.length := by omega
    repeat' (first | refine wC (by first | omega | (simp only [W1, cond_true, cond_false]; first | done | omega)) ?_ | refine wT (by first | omega | (simp only [W1, cond_true, cond_false]; first | done | omega)) ?_ | refine wF (by intro _h; first | omega | (simp only [W1, cond_true, cond_false] at _h; first | done | omega)) ?_ | (refine wS ?_ ?_ <;> intro _h <;> simp only [W1, cond_true, cond_false] at _h))
    all_goals simp only [W1, W2, owesN, owesX, owesR, cond_true, cond_false]
    repeat' (first | apply And.intro | intro _hc)
    all_goals first | exact rfl | exact ⟨.refl _, .refl _, .refl _, .refl _, .any _, .any _, .any _, .refl _, .refl _, trivial⟩ | exact ⟨.refl _, .refl _, .refl _, .refl _, .refl _, .refl _, .none _, .none _, trivial⟩ | exact AV.le_refl _ | exact AV.le_any _ | exact OLe.refl _ | exact OLe.none _ | exact LeH.refl _ | exact LeL.refl _ | exact AV.le.bs _ | exact AV.le.sb _ | omega | contradiction
def putOs (y : Fy) (os : List Oc) : Fy := { y with os := os }
theorem loop2' {y : Fy} {a : Ac} (hy : y.os.length ≤ 100000) (ha : a.os.length ≤ 100000) : ∀ k : Nat, k ≤ a.os.length → LoopOK Tryd.prog Γm 0 nCP (lw 2) (LSpec.at lv2' [] (S2' (putOs y (y.os ++ a.os.take k)) a k) (O2' (putOs y (y.os ++ a.os)))) := by
  refine loop_at (S := fun k => S2' (putOs y (y.os ++ a.os.take k)) a k) (pre := fun k => k ≤ a.os.length) (O := fun _ => O2' (putOs y (y.os ++ a.os))) (k := 0) (fun k => a.os.length - k) fun k hk => .of (noLoops (by kernel_rfl)) (r2' (putOs y (y.os ++ a.os.take k)) a k) ?_
  rcases Nat.lt_or_ge k a.os.length with h | h
  · have e1 : IntKind.i64.wrap ((k : Int) + 1) = ((k + 1 : Nat) : Int) := wrapUpN (by omega)
    have hn : y.os ++ a.os.take (k + 1) = (y.os ++ a.os.take k) ++ [a.os.getD k default] := by rw [take_next h, List.append_assoc]
    have hz : (putOs y (y.os ++ a.os.take k)).os.length = y.os.length + k := by show (y.os ++ a.os.take k).length = _; rw [List.length_append, List.length_take]; omega
    have hz1 : (y.os ++ a.os.take (k + 1)).length = y.os.length + k + 1 := by rw [List.length_append, List.length_take]; omega
    have hO := Oc.cod.app0 (y.os ++ a.os.take k) (a.os.getD k default) default hz.symm (N := y.os.length + k + 1) (by rw [show (y.os ++ a.os.take k).length = y.os.length + k from hz])
    rw [← hn] at hO
    have hO2 : OLe _ (some (.arr 10 (y.os ++ a.os.take (k + 1)).length _)) := hO
    rw [hz1] at hO2
    have hr := room112 (n := y.os.length + k + 1) (by omega)
    have k0 : decide ((0 : Int) ≤ (k : Int)) = true := decide_eq_true (by omega)
    have k1 : decide ((k : Int) < (a.os.length : Int)) = true := decide_eq_true (by omega)
    simp only [Nat.zero_add, Int.toNat_natCast, e1, hz, k0, k1, Bool.and_self]
    refine wT rfl (wC rfl (wC hr (wC hr ⟨k + 1, ⟨.refl _, .refl _, ?_, ?_, .refl _, .refl _, .refl _, .refl _, trivial⟩, ⟨.refl _, .refl _, .refl _, .refl _, ?_, ?_, .refl _, trivial⟩, h, rfl, by show a.os.length - (k + 1) < a.os.length - k; omega⟩)))
    · show AV.le _ (.hs 4 0 (y.os ++ a.os.take (k + 1)).length); rw [hz1]; exact .refl _
    · show AV.le _ (.hs 5 0 (y.os ++ a.os.take (k + 1)).length); rw [hz1]; exact .refl _
    · exact hO
    · exact hO
  · obtain rfl : k = a.os.length := by omega
    rw [List.take_of_length_le (Nat.le_refl _)]
    repeat' (first | refine wC (by first | omega | (simp only [W1, cond_true, cond_false]; first | done | omega)) ?_ | refine wT (by first | omega | (simp only [W1, cond_true, cond_false]; first | done | omega)) ?_ | refine wF (by intro _h; first | omega | (simp only [W1, cond_true, cond_false] at _h; first | done | omega)) ?_ | (refine wS ?_ ?_ <;> intro _h <;> simp only [W1, cond_true, cond_false] at _h))
    all_goals simp only [W1, W2, owesN, owesX, owesR, cond_true, cond_false]
    repeat' (first | apply And.intro | intro _hc)
    all_goals first | exact rfl | exact ⟨.refl _, .refl _, .refl _, .refl _, .any _, .any _, .refl _, .refl _, trivial⟩ | exact ⟨.refl _, .refl _, .refl _, .refl _, .refl _, .refl _, .none _, trivial⟩ | exact AV.le_refl _ | exact AV.le_any _ | exact OLe.refl _ | exact OLe.none _ | exact LeH.refl _ | exact LeL.refl _ | exact AV.le.bs _ | exact AV.le.sb _ | omega | contradiction
def odR (r : Ro) : Od := ⟨r.tx, r.st⟩
theorem od_pc (l : List Ro) : (l.map pc).map od = l.map odR := by rw [List.map_map]; rfl
theorem loop3' {y : Fy} (hl : y.l.length ≤ 100000) : ∀ k : Nat, k ≤ y.l.length → LoopOK Tryd.prog Γm 0 nCP (lw 3) (LSpec.at lv3' [] (S3' y (y.l.map odR) k) (O3' y)) := by
  have hz : (y.l.map odR).length = y.l.length := List.length_map ..
  refine loop_at (S := S3' y (y.l.map odR)) (pre := fun k => k ≤ y.l.length) (O := fun _ => O3' y) (k := 0) (fun k => y.l.length - k) fun k hk => .of (noLoops (by kernel_rfl)) (r3' y (y.l.map odR) k) ?_
  rcases Nat.lt_or_ge k y.l.length with h | h
  · have e1 : IntKind.i64.wrap ((k : Int) + 1) = ((k + 1 : Nat) : Int) := wrapUpN (by omega)
    have hg : (y.l.map odR).getD k default = odR (y.l.getD k default) := getD_map h
    have k0 : decide ((0 : Int) ≤ (k : Int)) = true := decide_eq_true (by omega)
    have k1 : decide ((k : Int) < (y.l.length : Int)) = true := decide_eq_true (by omega)
    simp only [Nat.zero_add, e1, hz, hg, k0, k1]
    simp only [odR, sameTx, Bool.not_true, decide_true, Bool.and_self, cond_false]
    exact wT rfl (wC rfl (wN rfl ⟨k + 1, ⟨.refl _, .refl _, .refl _, .refl _, by (show AV.le _ (.hs 6 0 (y.l.map odR).length); rw [hz]; exact .refl _), .refl _, .refl _, .refl _, trivial⟩, ⟨.refl _, .refl _, .refl _, .refl _, .refl _, .refl _, by (show OLe _ (some (.arr 8 (y.l.map odR).length _)); rw [hz]; exact .refl _), trivial⟩, h, rfl, by show y.l.length - (k + 1) < y.l.length - k; omega⟩))
  · obtain rfl : k = y.l.length := by omega
    have k1 : decide ((y.l.length : Int) < (y.l.length : Int)) = false := decide_eq_false (by omega)
    simp only [hz, k1]
    exact wN rfl ⟨rfl, ⟨.refl _, .refl _, .refl _, .refl _, .any _, .any _, .refl _, .refl _, trivial⟩, ⟨.refl _, .refl _, .refl _, .refl _, .refl _, .refl _, .none _, trivial⟩⟩
structure okN (n : Int) (r : Ro) : Prop where
  t : (r.tm.length : Int) ≤ n
  g : 0 ≤ r.gv ∧ r.gv ≤ n
  m : ∀ j, 0 ≤ (r.tm.getD j default).n ∧ (r.tm.getD j default).n ≤ n
theorem okN.okR {n : Int} {r : Ro} (h : okN n r) (hn : n ≤ 100) : okR r := by
  have h1 := h.t; have h2 := h.g
  exact ⟨by omega, by omega, fun j => by have := h.m j; omega⟩
theorem okR_def : okR default := ⟨Nat.zero_le _, by show (-1000000 : Int) ≤ 0 ∧ (0 : Int) ≤ 1000000; omega, fun j => by show (-1000000 : Int) ≤ 0 ∧ (0 : Int) ≤ 1000000; omega⟩
theorem okN.mono {n m : Int} {r : Ro} (h : okN n r) (hm : n ≤ m) : okN m r := ⟨by have := h.t; omega, by have := h.g; omega, fun j => by have := h.m j; omega⟩
theorem okN.tk {n : Int} {r : Ro} (h : okN n r) (hn : 0 ≤ n) : okN (n + 1) (rtk (n + 1) r) := by
  unfold rtk
  cases dueB (n + 1) r with
  | false => exact h.mono (by omega)
  | true =>
    have hz : (r.tm ++ [(⟨n + 1⟩ : Iv)]).length = r.tm.length + 1 := by rw [List.length_append]; rfl
    refine ⟨?_, ?_, fun j => ?_⟩
    · show ((r.tm ++ [(⟨n + 1⟩ : Iv)]).length : Int) ≤ n + 1
      have := h.t; rw [hz]; omega
    · have := h.g; show 0 ≤ r.gv ∧ r.gv ≤ n + 1; omega
    · show 0 ≤ ((r.tm ++ [(⟨n + 1⟩ : Iv)]).getD j default).n ∧ ((r.tm ++ [(⟨n + 1⟩ : Iv)]).getD j default).n ≤ n + 1
      by_cases hj : j < r.tm.length
      · rw [getD_app hj]; have := h.m j; omega
      · rw [getD_app' (by omega)]
        by_cases e : j - r.tm.length = 0
        · rw [e]; show 0 ≤ n + 1 ∧ n + 1 ≤ n + 1; omega
        · obtain ⟨k, hk⟩ : ∃ k, j - r.tm.length = k + 1 := ⟨j - r.tm.length - 1, by omega⟩
          rw [hk]; show (0 : Int) ≤ 0 ∧ (0 : Int) ≤ n + 1; omega
structure okA (who : ByteArray) (acts : List Ac) : Prop where
  n : acts.length ≤ 60
  w : who.size ≤ 10000000
  t : ∀ i, i < acts.length → smallT (acts.getD i default).tx
  o : ∀ i, i < acts.length → (acts.getD i default).os.length ≤ 30
  nn : ∀ i, i < acts.length → ∀ j, -9223372036854775808 ≤ ((acts.getD i default).os.getD j default).tx.nn ∧ ((acts.getD i default).os.getD j default).tx.nn ≤ 9223372036854775807
structure preW (who : ByteArray) (acts : List Ac) (y : Fy) : Prop where
  fi : y.i ≤ acts.length
  fa : y.acts = acts
  fw : y.c.who = who
  fd : y.d = dOf y.c
  fP : y.P = y.l.map pc
  ci : CI y.c y.l
  iN : InvN y.l
  ok : ∀ j, j < y.l.length → okN y.c.now (y.l.getD j default)
  n0 : 0 ≤ y.c.now
  n1 : y.c.now ≤ (y.i : Int)
  ll : y.l.length ≤ y.i
  os : y.os.length ≤ 30 * y.i
  h0 : 0 ≤ y.c.heard
  h1 : y.c.heard ≤ (y.os.length : Int)
  nn : ∀ j, -9223372036854775808 ≤ (y.os.getD j default).tx.nn ∧ (y.os.getD j default).tx.nn ≤ 9223372036854775807
theorem preW.okRs {who : ByteArray} {acts : List Ac} {y : Fy} (h : preW who acts y) (ha : acts.length ≤ 60) (j : Nat) : okR (y.l.getD j default) := by
  rcases Nat.lt_or_ge j y.l.length with hj | hj
  · have h1 := h.n1; have h2 := h.fi
    exact (h.ok j hj).okR (by omega)
  · rw [List.getD_eq_getElem?_getD, List.getElem?_eq_none hj]
    exact okR_def
end Go.Eng.TA.C

namespace Go.Eng.TA.C
open Go Go.Eng Go.Eng.M Go.Lib Go.Proofs
abbrev RW (who : ByteArray) (acts : List Ac) (y : Fy) : Prop := RoundOK Tryd.prog Γm 0 nCP 0 (lw 0) lv0' nl0' (S0' y) (OwesA S0' (preW who acts) (fun _ => O0') (fun y => acts.length - y.i) (acts.length - y.i) O0')
theorem goW {who : ByteArray} {acts : List Ac} {y z : Fy} {fr : List AV} {H : Heap} (hi : y.i < acts.length) (hz : z.i = y.i + 1) (h1 : LeL fr (S0' z).1) (h2 : LeH H (S0' z).2) (hp : preW who acts z) :
    ∃ x : Fy, LeL fr (S0' x).1 ∧ LeH H (S0' x).2 ∧ preW who acts x ∧ O0' = O0' ∧ acts.length - x.i < acts.length - y.i := ⟨z, h1, h2, hp, rfl, by omega⟩
theorem eqB {p q : Prop} (hp : p) (hq : q) : cl (p ∧ q) = true := cl_iff.2 ⟨hp, hq⟩
theorem lw_ok {y z : Fy} {o1 : List Tx} {a : Ac} {os2 : List Oc} (h1 : o1.length ≤ 100000) (hy : y.os.length ≤ 100000) (ha : a.os.length ≤ 100000) (hos : os2 = y.os ++ a.os) (hl : z.l.length ≤ 100000) : ∀ (j : Nat) (b' : Code), (loopBodies (lw 0))[j]? = some b' → LoopOK Tryd.prog Γm 0 nCP b' (LW o1 y z a (z.l.map odR) os2 (0 + j)) := by
  have hb : loopBodies (lw 0) = [lw 1, lw 2, lw 3] := by kernel_rfl
  subst hos
  intro j b' hj
  rw [hb] at hj
  match j, hj with
  | 0, hj => simp at hj; subst hj; exact loop1' h1 0 (Nat.zero_le _)
  | 1, hj =>
    simp at hj; subst hj
    have := loop2' hy ha 0 (Nat.zero_le _)
    rw [List.take_zero, List.append_nil] at this
    exact this
  | 2, hj => simp at hj; subst hj; exact loop3' hl 0 (Nat.zero_le _)
  | j + 3, hj => simp at hj
theorem cWe {who : ByteArray} {acts : List Ac} {y : Fy} (hp : preW who acts y) (hi : acts.length ≤ y.i) : RW who acts y := by
  refine .of (L := Lno) (failOK fun _ _ _ => rfl) (r0e' y) ?_
  have i1 : decide ((y.i : Int) < (y.acts.length : Int)) = false := decide_eq_false (by rw [hp.fa]; omega)
  rw [i1]
  exact wN rfl ⟨rfl, ⟨.any _, .any _, .any _, .any _, .any _, .any _, trivial⟩, ⟨.none _, .none _, .none _, .none _, .none _, .none _, trivial⟩⟩
theorem tailF {z : Fy} (hP : z.P = z.l.map pc) (hci : CI z.c z.l) (hl : z.l.length ≤ 100000) :
    ∃ (hO : Answers Tryd.prog Γm 65 [.ptr 0 0] (z.c.bl z.P) (.hs 2 0 (z.l.map odR).length) ((z.c.bl z.P).map some) [lsO (z.l.map odR)]) (hN : Answers Tryd.prog Γm 70 [.ptr 0 0] (z.c.bl z.P) (.tup [.v (.int .i64 z.c.wt), .v (.int .i64 z.c.en), .v (.int .i64 z.c.go)]) ((z.c.bl z.P).map some) []),
      decide (((z.l.map odR).length : Int) = (z.l.length : Int)) = true ∧ decide (z.c.wt = (cnt 0 z.l : Int)) = true ∧ decide (z.c.en = (cnt 1 z.l : Int)) = true ∧ decide (z.c.go = (cnt 2 z.l : Int)) = true := by
  have hz : z.P.length = z.l.length := by rw [hP, List.length_map]
  have hO := ansO (c := z.c) (l := z.P) (by omega)
  rw [hP, od_pc, ← hP] at hO
  exact ⟨hO, ansCn, decide_eq_true (by rw [List.length_map]), decide_eq_true hci.w, decide_eq_true hci.e, decide_eq_true hci.g⟩
theorem cWn {who : ByteArray} {acts : List Ac} {y : Fy} (hp : preW who acts y) (ha : okA who acts) (hi : y.i < acts.length) (hk0 : ¬ (acts.getD y.i default).k = 0) (hk1 : ¬ (acts.getD y.i default).k = 1) (hk2 : ¬ (acts.getD y.i default).k = 2) : RW who acts y := by
  have hn := ha.n
  have hll := hp.ll
  have hos := hp.os
  have hao := ha.o y.i hi
  obtain ⟨hO, hN, q0, q1, q2, q3⟩ := tailF hp.fP hp.ci (by omega)
  have hac := hp.fa
  refine .of (lw_ok (o1 := []) (y := y) (z := y) (a := y.acts.getD y.i default) (by show 0 ≤ _; omega) (by omega) (by rw [hac]; omega) rfl (by omega)) (r0n' y y _ _ hO hN (by omega)) ?_
  have e1 : IntKind.i64.wrap ((y.i : Int) + 1) = ((y.i + 1 : Nat) : Int) := wrapUpN (by omega)
  have i0 : decide ((0 : Int) ≤ (y.i : Int)) = true := decide_eq_true (by omega)
  have i1 : decide ((y.i : Int) < (y.acts.length : Int)) = true := decide_eq_true (by rw [hac]; omega)
  have d0 : decide ((y.acts.getD y.i default).k = 0) = false := decide_eq_false (by rw [hac]; exact hk0)
  have d1 : decide ((y.acts.getD y.i default).k = 1) = false := decide_eq_false (by rw [hac]; exact hk1)
  have d2 : decide ((y.acts.getD y.i default).k = 2) = false := decide_eq_false (by rw [hac]; exact hk2)
  have hcT : cl True = true := cl_iff.2 trivial
  rw [e1, i0, i1, d0, d1, d2, q0, q1, q2, q3]
  refine wT rfl (wC rfl (wN rfl (wN rfl (wN rfl (wC (eqB rfl rfl) (wC (eqB rfl rfl) (wC ?_ (wN rfl (wC (cl_iff.2 ⟨LeL.refl _, LeH.refl _⟩) (goW (z := { y with i := y.i + 1 }) hi rfl (LeL.refl _) (LeH.refl _) ?_))))))))))
  · simp [hcT]
  · obtain ⟨p1, p2, p3, p4, p5, p6, p7, p8, p9, p10, p11, p12, p13, p14, p15⟩ := hp
    exact ⟨hi, p2, p3, p4, p5, p6, p7, p8, p9, by show y.c.now ≤ ((y.i + 1 : Nat) : Int); omega, by show y.l.length ≤ y.i + 1; omega, by show y.os.length ≤ 30 * (y.i + 1); omega, p13, p14, p15⟩
end Go.Eng.TA.C

namespace Go.Eng.TA.C
open Go Go.Eng Go.Eng.M Go.Lib Go.Proofs
theorem own_eq {c : Cs} {l : List Ro} {t : Tx} : ownT c (l.map pc) t = ownD (dOf c) l t := by
  unfold ownT ownD dOf
  rw [List.length_map]
theorem add_eq {c : Cs} {l : List Ro} {t : Tx} : addL c (l.map pc) t = (addR (dOf c) l t).map pc := by
  unfold addL addR
  rw [List.map_append, own_eq]
  have : gp (0 + 1) = 2 := by unfold gp; rfl
  show l.map pc ++ [⟨ownD (dOf c) l t, 0, c.now + 1, 2⟩] = l.map pc ++ [⟨ownD (dOf c) l t, 0, c.now + 1, gp (0 + 1)⟩]
  rw [this]
theorem ok_eq {c : Cs} {l : List Ro} {t : Tx} (h : CI c l) : okG c (l.map pc) t = okD (dOf c) l t := by
  unfold okG okD
  rw [own_eq, h.w]; rfl
theorem cWg {who : ByteArray} {acts : List Ac} {y : Fy} (hp : preW who acts y) (ha : okA who acts) (hi : y.i < acts.length) (hk : (acts.getD y.i default).k = 0) : RW who acts y := by
  obtain ⟨c, P, d, l, os, i, ac⟩ := y
  obtain ⟨p1, p2, p3, p4, p5, p6, p7, p8, p9, p10, p11, p12, p13, p14, p15⟩ := hp
  have hok := fun j => preW.okRs (y := ⟨c, P, d, l, os, i, ac⟩) ⟨p1, p2, p3, p4, p5, p6, p7, p8, p9, p10, p11, p12, p13, p14, p15⟩ ha.n j
  dsimp only at *
  subst p2 p4 p5
  have hn := ha.n
  have hao := ha.o i hi
  have ht := ha.t i hi
  have hw := ha.w
  generalize hA : (ac.getD i default) = a at *
  have e1 : IntKind.i64.wrap ((i : Int) + 1) = ((i + 1 : Nat) : Int) := wrapUpN (by omega)
  have i0 : decide ((0 : Int) ≤ (i : Int)) = true := decide_eq_true (by omega)
  have i1 : decide ((i : Int) < (ac.length : Int)) = true := decide_eq_true (by omega)
  have d0 : decide (a.k = 0) = true := decide_eq_true hk
  have hcT : cl True = true := cl_iff.2 trivial
  have hzP : (l.map pc).length = l.length := List.length_map ..
  cases hg : okD (dOf c) l a.tx with
  | true =>
    have hG := ansG1 (c := c) (l := l.map pc) (t := a.tx) (by omega) ht (by rw [p3]; exact hw) ⟨p9, by omega⟩ (by rw [ok_eq p6]; exact hg)
    have hR := ansRG1 (d := dOf c) (l := l) (t := a.tx) (by omega) ht (by show c.who.size ≤ _; rw [p3]; exact hw) hg
    rw [add_eq, own_eq] at hG
    have hz : (addR (dOf c) l a.tx).length = l.length + 1 := by unfold addR; rw [List.length_append]; rfl
    have ca : ∀ s, cnt s (addR (dOf c) l a.tx) = cnt s l + (if (0 : Int) = s then 1 else 0) := fun s => cnt_app
    have c0 := ca 0; have c1 := ca 1; have c2 := ca 2
    simp at c0 c1 c2
    have b0 := cnt_le 0 l
    have hci : CI (upW c) (addR (dOf c) l a.tx) := by
      refine ⟨?_, ?_, ?_⟩
      · show w64 (c.wt + 1) = _
        rw [p6.w, w64_small (by omega) (by omega), c0]; omega
      · show c.en = _
        rw [p6.e, c1]
      · show c.go = _
        rw [p6.g, c2]
    have hP : ((addR (dOf c) l a.tx).map pc).length = (addR (dOf c) l a.tx).length := List.length_map ..
    obtain ⟨hO, hN, q0, q1, q2, q3⟩ := tailF (z := ⟨upW c, (addR (dOf c) l a.tx).map pc, dOf c, addR (dOf c) l a.tx, os, i, ac⟩) rfl hci (by dsimp only; omega)
    dsimp only at hO hN q0 q1 q2 q3
    have hiN : InvN (addR (dOf c) l a.tx) := fun k hk => by
      unfold addR at hk ⊢
      by_cases hl : k < l.length
      · rw [getD_app hl]; exact p7 k hl
      · have hkl : k = l.length := by rw [List.length_append] at hk; simp only [List.length_singleton] at hk; omega
        subst hkl
        rw [getD_app' (Nat.le_refl _), Nat.sub_self]; rfl
    have hkk : ∀ j, j < (addR (dOf c) l a.tx).length → okN c.now ((addR (dOf c) l a.tx).getD j default) := fun j hj => by
      unfold addR at hj ⊢
      by_cases hl : j < l.length
      · rw [getD_app hl]; exact p8 j hl
      · have hkl : j = l.length := by rw [List.length_append] at hj; simp only [List.length_singleton] at hj; omega
        subst hkl
        rw [getD_app' (Nat.le_refl _), Nat.sub_self]
        exact ⟨p9, ⟨p9, Int.le_refl _⟩, fun j => by show (0 : Int) ≤ 0 ∧ (0 : Int) ≤ c.now; omega⟩
    refine .of (lw_ok (o1 := []) (y := ⟨c, l.map pc, dOf c, l, os, i, ac⟩) (z := ⟨upW c, (addR (dOf c) l a.tx).map pc, dOf c, addR (dOf c) l a.tx, os, i, ac⟩) (a := ac.getD i default) (by show 0 ≤ _; omega) (by dsimp only; omega) (by rw [hA]; omega) rfl (by dsimp only; omega)) (r0g' ⟨c, l.map pc, dOf c, l, os, i, ac⟩ ⟨upW c, (addR (dOf c) l a.tx).map pc, dOf c, addR (dOf c) l a.tx, os, i, ac⟩ _ _ _ _ (by rw [hA]; exact hG) (by rw [hA]; exact hR) hO hN (by dsimp only; omega)) ?_
    dsimp only
    simp only [hA, sameTx, Bool.not_true, cond_false, decide_true]
    rw [e1, i0, i1, d0, q0, q1, q2, q3]
    refine wT rfl (wC rfl (wT rfl (wC (cl_iff.2 ⟨LeL.refl _, LeH.refl _⟩) (wC (cl_iff.2 ⟨LeL.refl _, LeH.refl _⟩) (wN rfl (wC (by first | exact eqB rfl rfl | exact eqB trivial trivial | simp [hcT]) (wC (by first | exact eqB rfl rfl | exact eqB trivial trivial | simp [hcT]) (wC ?_ (wN rfl (wC (cl_iff.2 ⟨LeL.refl _, LeH.refl _⟩) (goW (y := ⟨c, l.map pc, dOf c, l, os, i, ac⟩) (z := ⟨upW c, (addR (dOf c) l a.tx).map pc, dOf c, addR (dOf c) l a.tx, os, i + 1, ac⟩) hi rfl (LeL.refl _) (LeH.refl _) ?_)))))))))))
    · simp [hcT]
    · exact ⟨hi, rfl, p3, rfl, rfl, hci, hiN, hkk, p9, by show c.now ≤ ((i + 1 : Nat) : Int); omega, by show (addR (dOf c) l a.tx).length ≤ i + 1; omega, by show os.length ≤ 30 * (i + 1); omega, p13, p14, p15⟩
  | false =>
    have hG := ansG0 (c := c) (l := l.map pc) (t := a.tx) (by omega) ht (by rw [p3]; exact hw) ⟨p9, by omega⟩ (by rw [ok_eq p6]; exact hg)
    have hR := ansRG0 (d := dOf c) (l := l) (t := a.tx) (by omega) ht (by show c.who.size ≤ _; rw [p3]; exact hw) hg
    have hee : (if c.most ≤ c.wt then (101 : Int) else 80) = (if (dOf c).most ≤ (cnt 0 l : Int) then 101 else 80) := by rw [p6.w]; rfl
    rw [← hee] at hR
    obtain ⟨hO, hN, q0, q1, q2, q3⟩ := tailF (z := ⟨c, l.map pc, dOf c, l, os, i, ac⟩) rfl p6 (by dsimp only; omega)
    dsimp only at hO hN q0 q1 q2 q3
    refine .of (lw_ok (o1 := []) (y := ⟨c, l.map pc, dOf c, l, os, i, ac⟩) (z := ⟨c, l.map pc, dOf c, l, os, i, ac⟩) (a := ac.getD i default) (by show 0 ≤ _; omega) (by dsimp only; omega) (by rw [hA]; omega) rfl (by dsimp only; omega)) (r0f' ⟨c, l.map pc, dOf c, l, os, i, ac⟩ ⟨c, l.map pc, dOf c, l, os, i, ac⟩ _ _ _ _ _ _ (by rw [hA]; exact hG) (by rw [hA]; exact hR) hO hN (by dsimp only; omega)) ?_
    dsimp only
    simp only [hA, sameTx, Bool.not_true, cond_false, decide_true]
    rw [e1, i0, i1, d0, q0, q1, q2, q3]
    refine wT rfl (wC rfl (wT rfl (wC (by first | exact eqB rfl rfl | exact eqB trivial trivial | simp [hcT]) (wC (by first | exact eqB rfl rfl | exact eqB trivial trivial | simp [hcT]) (wN rfl (wC (by first | exact eqB rfl rfl | exact eqB trivial trivial | simp [hcT]) (wC (by first | exact eqB rfl rfl | exact eqB trivial trivial | simp [hcT]) (wC ?_ (wN rfl (wC (cl_iff.2 ⟨LeL.refl _, LeH.refl _⟩) (goW (y := ⟨c, l.map pc, dOf c, l, os, i, ac⟩) (z := ⟨c, l.map pc, dOf c, l, os, i + 1, ac⟩) hi rfl (LeL.refl _) (LeH.refl _) ?_)))))))))))
    · simp [hcT]
    · exact ⟨hi, rfl, p3, rfl, rfl, p6, p7, p8, p9, by show c.now ≤ ((i + 1 : Nat) : Int); omega, by show l.length ≤ i + 1; omega, by show os.length ≤ 30 * (i + 1); omega, p13, p14, p15⟩
theorem cWt {who : ByteArray} {acts : List Ac} {y : Fy} (hp : preW who acts y) (ha : okA who acts) (hi : y.i < acts.length) (hk : (acts.getD y.i default).k = 1) : RW who acts y := by
  obtain ⟨c, P, d, l, os, i, ac⟩ := y
  obtain ⟨p1, p2, p3, p4, p5, p6, p7, p8, p9, p10, p11, p12, p13, p14, p15⟩ := hp
  have hok := fun j => preW.okRs (y := ⟨c, P, d, l, os, i, ac⟩) ⟨p1, p2, p3, p4, p5, p6, p7, p8, p9, p10, p11, p12, p13, p14, p15⟩ ha.n j
  dsimp only at *
  subst p2 p4 p5
  have hn := ha.n
  have hao := ha.o i hi
  generalize hA : (ac.getD i default) = a at *
  have e1 : IntKind.i64.wrap ((i : Int) + 1) = ((i + 1 : Nat) : Int) := wrapUpN (by omega)
  have i0 : decide ((0 : Int) ≤ (i : Int)) = true := decide_eq_true (by omega)
  have i1 : decide ((i : Int) < (ac.length : Int)) = true := decide_eq_true (by omega)
  have d0 : decide (a.k = 0) = false := decide_eq_false (by omega)
  have d1 : decide (a.k = 1) = true := decide_eq_true hk
  have hcT : cl True = true := cl_iff.2 trivial
  have hzP : (l.map pc).length = l.length := List.length_map ..
  have hz : (l.map (rtk (c.now + 1))).length = l.length := List.length_map ..
  have hgap : ∀ j, okP ((l.map pc).getD j default) := fun j => by
    rcases Nat.lt_or_ge j l.length with hj | hj
    · rw [getD_pc hj]
      obtain ⟨g1, g2⟩ := gp_le ((l.getD j default).tm.length + 1)
      show 0 ≤ gp _ ∧ gp _ ≤ 16
      omega
    · rw [List.getD_eq_getElem?_getD, List.getElem?_eq_none (by omega)]; show (0 : Int) ≤ 0 ∧ (0 : Int) ≤ 16; omega
  have hT := ansT (c := c) (l := l.map pc) (by omega) p9 (by omega) hgap
  have hK := ansK (d := dOf c) (l := l) (by omega) p9 (by show c.now < 1000000; omega) hok
  rw [map_tk, out_eq] at hT
  have hci : CI { c with now := c.now + 1 } (l.map (rtk (c.now + 1))) := ⟨by show c.wt = _; rw [p6.w, cnt_map (rtk_st _)], by show c.en = _; rw [p6.e, cnt_map (rtk_st _)], by show c.go = _; rw [p6.g, cnt_map (rtk_st _)]⟩
  obtain ⟨hO, hN, q0, q1, q2, q3⟩ := tailF (z := ⟨{ c with now := c.now + 1 }, (l.map (rtk (c.now + 1))).map pc, dOf { c with now := c.now + 1 }, l.map (rtk (c.now + 1)), os, i, ac⟩) rfl hci (by dsimp only; omega)
  dsimp only at hO hN q0 q1 q2 q3
  have hou : (outR (c.now + 1) l l.length).length ≤ l.length := outR_le
  have hiN : InvN (l.map (rtk (c.now + 1))) := fun k hk => by
    rw [hz] at hk
    rw [getD_map hk, rtk_tx]; exact p7 k hk
  have hkk : ∀ j, j < (l.map (rtk (c.now + 1))).length → okN (c.now + 1) ((l.map (rtk (c.now + 1))).getD j default) := fun j hj => by
    rw [hz] at hj
    rw [getD_map hj]
    exact (p8 j hj).tk p9
  refine .of (lw_ok (o1 := outR (c.now + 1) l l.length) (y := ⟨c, l.map pc, dOf c, l, os, i, ac⟩) (z := ⟨{ c with now := c.now + 1 }, (l.map (rtk (c.now + 1))).map pc, dOf { c with now := c.now + 1 }, l.map (rtk (c.now + 1)), os, i, ac⟩) (a := ac.getD i default) (by omega) (by dsimp only; omega) (by rw [hA]; omega) rfl (by dsimp only; omega)) (r0t' ⟨c, l.map pc, dOf c, l, os, i, ac⟩ ⟨{ c with now := c.now + 1 }, (l.map (rtk (c.now + 1))).map pc, dOf { c with now := c.now + 1 }, l.map (rtk (c.now + 1)), os, i, ac⟩ _ _ _ hT hK hO hN (by dsimp only; omega)) ?_
  dsimp only
  simp only [hA, decide_true, Bool.not_true]
  rw [e1, i0, i1, d0, d1, q0, q1, q2, q3]
  refine wT rfl (wC rfl (wN rfl (wT rfl (wC (cl_iff.2 ⟨LeL.refl _, LeH.refl _⟩) (wC (cl_iff.2 ⟨LeL.refl _, LeH.refl _⟩) (wN rfl (wC (cl_iff.2 ⟨LeL.refl _, LeH.refl _⟩) (wC (by first | exact eqB rfl rfl | exact eqB trivial trivial | simp [hcT]) (wC (by first | exact eqB rfl rfl | exact eqB trivial trivial | simp [hcT]) (wC ?_ (wN rfl (wC (cl_iff.2 ⟨LeL.refl _, LeH.refl _⟩) (goW (y := ⟨c, l.map pc, dOf c, l, os, i, ac⟩) (z := ⟨{ c with now := c.now + 1 }, (l.map (rtk (c.now + 1))).map pc, dOf { c with now := c.now + 1 }, l.map (rtk (c.now + 1)), os, i + 1, ac⟩) hi rfl (LeL.refl _) (LeH.refl _) ?_)))))))))))))
  · simp [hcT]
  · exact ⟨hi, rfl, p3, rfl, rfl, hci, hiN, hkk, by show 0 ≤ c.now + 1; omega, by show c.now + 1 ≤ ((i + 1 : Nat) : Int); omega, by show (l.map (rtk (c.now + 1))).length ≤ i + 1; omega, by show os.length ≤ 30 * (i + 1); omega, p13, p14, p15⟩
theorem stepR_ok {who : ByteArray} {n : Int} {x : RR} {o : Oc} (h : ∀ j, j < x.l.length → okN n (x.l.getD j default)) : ∀ j, j < (stepR who x o).l.length → okN n ((stepR who x o).l.getD j default) := by
  unfold stepR
  split
  · exact h
  · rename_i hn
    unfold noR at hn
    have hk : kO o.tx < x.l.length := by unfold kO; omega
    intro j hj
    rw [List.length_set] at hj
    rw [getD_setR hk]
    split
    · have := h _ hk
      exact ⟨this.t, this.g, this.m⟩
    · exact h j hj
theorem fold_ok {who : ByteArray} {n : Int} : ∀ (os : List Oc) (x : RR), (∀ j, j < x.l.length → okN n (x.l.getD j default)) → InvN x.l → (os.foldl (stepR who) x).l.length = x.l.length ∧ (∀ j, j < x.l.length → okN n ((os.foldl (stepR who) x).l.getD j default)) ∧ InvN (os.foldl (stepR who) x).l
  | [], x, h, hN => ⟨rfl, h, hN⟩
  | o :: os, x, h, hN => by
    obtain ⟨h1, h2, h3⟩ := fold_ok os (stepR who x o) (stepR_ok h) (stepR_inv hN)
    have hz : (stepR who x o).l.length = x.l.length := stepR_len
    rw [List.foldl_cons]
    exact ⟨h1.trans hz, fun j hj => h2 j (by omega), h3⟩
theorem cWh {who : ByteArray} {acts : List Ac} {y : Fy} (hp : preW who acts y) (ha : okA who acts) (hi : y.i < acts.length) (hk : (acts.getD y.i default).k = 2) : RW who acts y := by
  obtain ⟨c, P, d, l, os, i, ac⟩ := y
  obtain ⟨p1, p2, p3, p4, p5, p6, p7, p8, p9, p10, p11, p12, p13, p14, p15⟩ := hp
  dsimp only at *
  subst p2 p4 p5
  have hn := ha.n
  have hao := ha.o i hi
  have hnn := ha.nn i hi
  generalize hA : (ac.getD i default) = a at *
  have e1 : IntKind.i64.wrap ((i : Int) + 1) = ((i + 1 : Nat) : Int) := wrapUpN (by omega)
  have i0 : decide ((0 : Int) ≤ (i : Int)) = true := decide_eq_true (by omega)
  have i1 : decide ((i : Int) < (ac.length : Int)) = true := decide_eq_true (by omega)
  have d0 : decide (a.k = 0) = false := decide_eq_false (by omega)
  have d1 : decide (a.k = 1) = false := decide_eq_false (by omega)
  have d2 : decide (a.k = 2) = true := decide_eq_true hk
  have hcT : cl True = true := cl_iff.2 trivial
  have hzP : (l.map pc).length = l.length := List.length_map ..
  have hzo : (os ++ a.os).length = os.length + a.os.length := List.length_append
  have hnn2 : ∀ j, -9223372036854775808 ≤ ((os ++ a.os).getD j default).tx.nn ∧ ((os ++ a.os).getD j default).tx.nn ≤ 9223372036854775807 := fun j => by
    rcases Nat.lt_or_ge j os.length with hj | hj
    · rw [getD_app hj]; exact p15 j
    · rw [getD_app' hj]; exact hnn _
  have hH := ansH (c := c) (l := l.map pc) (os := os ++ a.os) (by omega) hnn2 (by omega) p13
  obtain ⟨c', k1, k2, k3⟩ := hear_eq (os := os ++ a.os) p6 (by omega) p13 (by omega)
  have hR := ansHR (d := dOf c) (l := l) (os := os ++ a.os) (by omega) (by omega) p7 p13 (by show c.heard ≤ _; omega)
  rw [k1] at hH
  dsimp only at hH
  obtain ⟨f1, f2, f3⟩ := fold_ok (who := c.who) ((os ++ a.os).drop c.heard.toNat) ⟨l, 0⟩ p8 p7
  have f1 : (hearR (dOf c) l (os ++ a.os)).l.length = l.length := f1
  have f2 : ∀ j, j < l.length → okN c.now ((hearR (dOf c) l (os ++ a.os)).l.getD j default) := f2
  have f3 : InvN (hearR (dOf c) l (os ++ a.os)).l := f3
  rw [← k3] at hR
  have g1 : c'.who = c.who := congrArg Ds.who k3
  have g2 : c'.now = c.now := congrArg Ds.now k3
  have g3 : c'.heard = ((os ++ a.os).length : Int) := congrArg Ds.heard k3
  generalize hearR (dOf c) l (os ++ a.os) = h at *
  obtain ⟨l', n'⟩ := h
  dsimp only at *
  obtain ⟨hO, hN, q0, q1, q2, q3⟩ := tailF (z := ⟨c', l'.map pc, dOf c', l', os ++ a.os, i, ac⟩) rfl k2 (by dsimp only; omega)
  dsimp only at hO hN q0 q1 q2 q3
  refine .of (lw_ok (o1 := []) (y := ⟨c, l.map pc, dOf c, l, os, i, ac⟩) (z := ⟨c', l'.map pc, dOf c', l', os ++ a.os, i, ac⟩) (a := ac.getD i default) (by show 0 ≤ _; omega) (by dsimp only; omega) (by rw [hA]; omega) (by rw [hA]) (by dsimp only; omega)) (r0h' ⟨c, l.map pc, dOf c, l, os, i, ac⟩ ⟨c', l'.map pc, dOf c', l', os ++ a.os, i, ac⟩ _ _ _ hH hR hO hN (by dsimp only; omega)) ?_
  dsimp only
  simp only [Int.toNat_natCast, hA, decide_true, Bool.not_true]
  rw [e1, i0, i1, d0, d1, d2, q0, q1, q2, q3]
  refine wT rfl (wC rfl (wN rfl (wN rfl (wT rfl (wC (cl_iff.2 ⟨LeL.refl _, LeH.refl _⟩) (wC (cl_iff.2 ⟨LeL.refl _, LeH.refl _⟩) (wC (cl_iff.2 ⟨LeL.refl _, LeH.refl _⟩) (wN rfl (wC (by first | exact eqB rfl rfl | exact eqB trivial trivial | simp [hcT]) (wC (by first | exact eqB rfl rfl | exact eqB trivial trivial | simp [hcT]) (wC ?_ (wN rfl (wC (cl_iff.2 ⟨LeL.refl _, LeH.refl _⟩) (goW (y := ⟨c, l.map pc, dOf c, l, os, i, ac⟩) (z := ⟨c', l'.map pc, dOf c', l', os ++ a.os, i + 1, ac⟩) hi rfl (LeL.refl _) (LeH.refl _) ?_))))))))))))))
  · simp [hcT]
  · exact ⟨hi, rfl, by show c'.who = _; rw [g1, p3], rfl, rfl, k2, f3, fun j hj => by (show okN c'.now _; rw [g2]; exact f2 j (by dsimp only at hj; omega)), by show 0 ≤ c'.now; omega, by show c'.now ≤ ((i + 1 : Nat) : Int); omega, by show l'.length ≤ i + 1; omega, by show (os ++ a.os).length ≤ 30 * (i + 1); omega, by show 0 ≤ c'.heard; omega, by show c'.heard ≤ ((os ++ a.os).length : Int); omega, hnn2⟩
theorem loop0' {who : ByteArray} {acts : List Ac} (ha : okA who acts) : ∀ y : Fy, preW who acts y → LoopOK Tryd.prog Γm 0 nCP (lw 0) (LSpec.at lv0' nl0' (S0' y) O0') := by
  refine loop_at (S := S0') (pre := preW who acts) (O := fun _ => O0') (k := 0) (fun y => acts.length - y.i) fun y hp => ?_
  show RW who acts y
  rcases Nat.lt_or_ge y.i acts.length with hi | hi
  · by_cases k0 : (acts.getD y.i default).k = 0
    · exact cWg hp ha hi k0
    · by_cases k1 : (acts.getD y.i default).k = 1
      · exact cWt hp ha hi k1
      · by_cases k2 : (acts.getD y.i default).k = 2
        · exact cWh hp ha hi k2
        · exact cWn hp ha hi k0 k1 k2
  · exact cWe hp hi
end Go.Eng.TA.C

namespace Go.Eng.TA
open Go Go.Eng Go.Proofs
noncomputable def z25 : CT Tryd.prog Γm := CT.auto true 100 3 [] 109 Tryd.f109 (bodyOf Tryd.f109) false 21 [.tmp 4] Tryd.func109 (by kernel_rfl) (by kernel_rfl) (by kernel_rfl) (by kernel_rfl)
noncomputable def z26 : CT Tryd.prog Γm := CT.auto true 100 3 [z25] 112 Tryd.f112 (bodyOf Tryd.f112) false 16 [.tmp 2] Tryd.func112 (by kernel_rfl) (by kernel_rfl) (by kernel_rfl) (by kernel_rfl)
noncomputable def z12 : CT Tryd.prog Γm := CT.auto true 100 3 [z26] 77 Tryd.f77 (bodyOf Tryd.f77) false 8 [.tmp 2] Tryd.func77 (by kernel_rfl) (by kernel_rfl) (by kernel_rfl) (by kernel_rfl)
noncomputable def z10 : CT Tryd.prog Γm := CT.auto true 100 3 [z25] 73 Tryd.f73 (bodyOf Tryd.f73) false 19 [.tmp 2] Tryd.func73 (by kernel_rfl) (by kernel_rfl) (by kernel_rfl) (by kernel_rfl)
noncomputable def z28 : CT Tryd.prog Γm := CT.auto true 100 3 [] 75 Tryd.f75 (bodyOf Tryd.f75) false 20 [.tmp 6] Tryd.func75 (by kernel_rfl) (by kernel_rfl) (by kernel_rfl) (by kernel_rfl)
noncomputable def z34 : CT Tryd.prog Γm := CT.auto true 100 3 [] 111 Tryd.f111 (bodyOf Tryd.f111) false 78 [.tmp 4] Tryd.func111 (by kernel_rfl) (by kernel_rfl) (by kernel_rfl) (by kernel_rfl)
noncomputable def z29 : CT Tryd.prog Γm := CT.auto true 100 3 [z34] 76 Tryd.f76 (bodyOf Tryd.f76) false 16 [.tmp 4] Tryd.func76 (by kernel_rfl) (by kernel_rfl) (by kernel_rfl) (by kernel_rfl)
noncomputable def z17 : CT Tryd.prog Γm := CT.auto true 100 3 [z10] 20 Tryd.f20 (bodyOf Tryd.f20) false 41 [.tmp 2] Tryd.func20 (by kernel_rfl) (by kernel_rfl) (by kernel_rfl) (by kernel_rfl)
noncomputable def z21 : CT Tryd.prog Γm := CT.auto true 100 3 [z28, z29, z12, z17] 24 Tryd.f24 (bodyOf Tryd.f24) false 30 [.tmp 2, .tmp 3] Tryd.func24 (by kernel_rfl) (by kernel_rfl) (by kernel_rfl) (by kernel_rfl)
noncomputable def z14 : CT Tryd.prog Γm := CT.auto true 100 3 [] 17 Tryd.f17 (bodyOf Tryd.f17) false 25 [.tmp 4, .tmp 5] Tryd.func17 (by kernel_rfl) (by kernel_rfl) (by kernel_rfl) (by kernel_rfl)
theorem run8 : (bodyE (P := Tryd.prog) (Γ := Γm) [z21, z14, z17] (autoL true 100 [z21, z14, z17] false 0 35 (loopBodies (bodyOf Tryd.f15)) 3) false 35 [.tmp 0] (bodyOf Tryd.f15) [] []).get = some ⟨.sb true, []⟩ := by kernel_rfl
noncomputable def z8 : CT Tryd.prog Γm := CT.fact 15 Tryd.f15 (bodyOf Tryd.f15) [z21, z14, z17] (autoL true 100 [z21, z14, z17] false 0 35 (loopBodies (bodyOf Tryd.f15)) 3) false 35 [.tmp 0] Tryd.func15 (by kernel_rfl) (by kernel_rfl) (by kernel_rfl) (by kernel_rfl) (autoL_ok 3) (.sb true) (.sb true) run8
end Go.Eng.TA

namespace Go.Eng.TA
open Go Go.Eng Go.Proofs
noncomputable def z61x : CT Tryd.prog Γm := CT.auto true 100 3 [z17] 61 Tryd.f61 (bodyOf Tryd.f61) false 21 [.tmp 4, .tmp 5] Tryd.func61 (by kernel_rfl) (by kernel_rfl) (by kernel_rfl) (by kernel_rfl)
noncomputable def z85x : CT Tryd.prog Γm := CT.auto true 100 3 [] 85 Tryd.f85 (bodyOf Tryd.f85) false 15 [.tmp 6] Tryd.func85 (by kernel_rfl) (by kernel_rfl) (by kernel_rfl) (by kernel_rfl)
noncomputable def z120x : CT Tryd.prog Γm := CT.auto true 100 3 [] 120 Tryd.f120 (bodyOf Tryd.f120) false 117 [.tmp 2, .tmp 3] Tryd.func120 (by kernel_rfl) (by kernel_rfl) (by kernel_rfl) (by kernel_rfl)
noncomputable def z110x : CT Tryd.prog Γm := CT.auto true 100 3 [z120x] 110 Tryd.f110 (bodyOf Tryd.f110) false 19 [.tmp 2, .tmp 3] Tryd.func110 (by kernel_rfl) (by kernel_rfl) (by kernel_rfl) (by kernel_rfl)
noncomputable def z22x : CT Tryd.prog Γm := CT.auto true 100 3 [z28] 22 Tryd.f22 (bodyOf Tryd.f22) false 28 [.tmp 2] Tryd.func22 (by kernel_rfl) (by kernel_rfl) (by kernel_rfl) (by kernel_rfl)
noncomputable def z32x : CT Tryd.prog Γm := CT.auto true 100 3 [z17, z85x, z22x] 32 Tryd.f32 (bodyOf Tryd.f32) false 66 [.tmp 2] Tryd.func32 (by kernel_rfl) (by kernel_rfl) (by kernel_rfl) (by kernel_rfl)
noncomputable def z62x : CT Tryd.prog Γm := CT.auto true 100 3 [z32x] 62 Tryd.f62 (bodyOf Tryd.f62) false 65 [.cell 4 40, .tmp 5] Tryd.func62 (by kernel_rfl) (by kernel_rfl) (by kernel_rfl) (by kernel_rfl)
noncomputable def z63x : CT Tryd.prog Γm := CT.auto true 100 3 [] 63 Tryd.f63 (bodyOf Tryd.f63) false 77 [.tmp 2] Tryd.func63 (by kernel_rfl) (by kernel_rfl) (by kernel_rfl) (by kernel_rfl)
noncomputable def z106x : CT Tryd.prog Γm := CT.auto true 100 3 [] 106 Tryd.f106 (bodyOf Tryd.f106) false 78 [.tmp 4] Tryd.func106 (by kernel_rfl) (by kernel_rfl) (by kernel_rfl) (by kernel_rfl)
noncomputable def z64x : CT Tryd.prog Γm := CT.auto true 100 3 [z106x] 64 Tryd.f64 (bodyOf Tryd.f64) false 48 [.tmp 4] Tryd.func64 (by kernel_rfl) (by kernel_rfl) (by kernel_rfl) (by kernel_rfl)
theorem zrun59 : (bodyE (P := Tryd.prog) (Γ := Γm) [z61x, z62x, z63x, z64x] (autoL true 100 [z61x, z62x, z63x, z64x] false 0 54 (loopBodies (bodyOf Tryd.f59)) 3) false 54 [.tmp 0] (bodyOf Tryd.f59) [] []).get = some ⟨.sb true, []⟩ := by kernel_rfl
noncomputable def z59' : CT Tryd.prog Γm := CT.fact 59 Tryd.f59 (bodyOf Tryd.f59) [z61x, z62x, z63x, z64x] (autoL true 100 [z61x, z62x, z63x, z64x] false 0 54 (loopBodies (bodyOf Tryd.f59)) 3) false 54 [.tmp 0] Tryd.func59 (by kernel_rfl) (by kernel_rfl) (by kernel_rfl) (by kernel_rfl) (autoL_ok 3) (.sb true) (.sb true) zrun59
end Go.Eng.TA

namespace Go.Eng.TA.C
open Go Go.Eng Go.Eng.M Go.Lib Go.Proofs
structure AP where
  who : ByteArray
  most : Int
  acts : List Ac
def A14 (y : AP) : List AV := [.v (.string y.who), .v (.int .i64 y.most), slA y.acts]
def Sn (acts : List Ac) : List AV × Heap := ([.v (.pointer none), .v (.pointer none), .hs 0 0 0, .hs 1 0 0, .v (.int .i64 0), slA acts], [some (lsOc []), some (lsOc [])])
def On : Out := ⟨.exit 0, [.any, .any, .any, .any, .any, .any], [none, none]⟩
theorem rn' (acts : List Ac) : roundE (P := Tryd.prog) (Γ := Γm) [] Lno false 0 0 (lw 0) lv0' nl0' nCP (Sn acts).1 (Sn acts).2 =
  Tree.br (bif decide ((0 : Int) < (↑(List.length acts) : Int)) then false else false) (Tree.chk (decide ((0 : Int) < (↑(List.length acts) : Int))) (Tree.br (decide ((List.getD acts (Int.toNat
    (0 : Int)) default).k = (0 : Int))) Tree.fail (Tree.br (decide ((List.getD acts (Int.toNat (0 : Int)) default).k = (1 : Int))) Tree.fail (Tree.br (decide ((List.getD acts (Int.toNat (0 :
    Int)) default).k = (2 : Int))) Tree.fail Tree.fail)))) (Tree.leaf (Out.mk (AEx.exit (0 : Nat)) [AV.v (Value.pointer none), AV.v (Value.pointer none), AV.hs (0 : Nat) (0 : Nat) (0 : Nat),
    AV.hs (1 : Nat) (0 : Nat) (0 : Nat), AV.v (Value.int IntKind.i64 (0 : Int)), AV.sl (9 : Nat) (List.length acts) (lsF Ac.c acts)] [some (Blk.arr (10 : Nat) (0 : Nat) (lsF Oc.c [])), some
    (Blk.arr (10 : Nat) (0 : Nat) (lsF Oc.c []))])) := by kernel_rfl
def y0 (who : ByteArray) (most : Int) (acts : List Ac) : Fy := ⟨⟨who, most, 0, 0, 0, 0, 0⟩, [], ⟨who, most, 0, 0⟩, [], [], 0, acts⟩
noncomputable def Lw' (s : LSpec) : Nat → LSpec
  | 0 => s
  | _ => Lno 0
theorem law14a (who : ByteArray) (most : Int) (acts : List Ac) (b : Bool) (hF : Answers Tryd.prog Γm 60 [slA acts] [] (.sb b) [] []) : bodyE (P := Tryd.prog) (Γ := Γm) [z59', CT.at 60 hF] Lno false nCP [.tmp 6] (bodyOf Tryd.f14) (A14 ⟨who, most, acts⟩) [] =
  Tree.chk (bif decide ((1000 : Int) < (↑(ByteArray.size who) : Int)) then true else cl (LeL [AV.sl (9 : Nat) (List.length (AP.mk who most acts).acts) (lsF Ac.c (AP.mk who most acts).acts)]
    [AV.sl (9 : Nat) (List.length acts) (lsF Ac.c acts)] ∧ LeH [] [])) (Tree.br (bif decide ((1000 : Int) < (↑(ByteArray.size who) : Int)) then true else b) (Tree.leaf (Ans.mk (AV.v
    (Value.bool true)) [])) Tree.fail) := by kernel_rfl
theorem law14n (who : ByteArray) (most : Int) (acts : List Ac) (e : Int) (hF : Answers Tryd.prog Γm 60 [slA acts] [] (.sb false) [] []) (hN : Answers Tryd.prog Γm 61 [.v (.string who), .v (.int .i64 most)] [] (.tup [.v (.pointer none), .v (.int .i64 e)]) [] []) (hR : Answers Tryd.prog Γm 66 [.v (.string who), .v (.int .i64 most)] [] (.tup [.v (.pointer none), .v (.int .i64 e)]) [] []) : bodyE (P := Tryd.prog) (Γ := Γm) [z59', CT.at 60 hF, CT.at 61 hN, CT.at 66 hR] (Lw' (LSpec.at lv0' nl0' (Sn acts) On)) false nCP [.tmp 6] (bodyOf Tryd.f14) (A14 ⟨who, most, acts⟩) [] =
  Tree.chk (bif decide ((1000 : Int) < (↑(ByteArray.size who) : Int)) then true else cl (LeL [AV.sl (9 : Nat) (List.length (AP.mk who most acts).acts) (lsF Ac.c (AP.mk who most acts).acts)]
    [AV.sl (9 : Nat) (List.length acts) (lsF Ac.c acts)] ∧ LeH [] [])) (Tree.br (bif decide ((1000 : Int) < (↑(ByteArray.size who) : Int)) then true else false) (Tree.leaf (Ans.mk (AV.v
    (Value.bool true)) [])) (Tree.chk (cl (LeL [AV.v (Value.string who), AV.v (Value.int IntKind.i64 most)] [AV.v (Value.string who), AV.v (Value.int IntKind.i64 most)] ∧ LeH [] []))
    (Tree.chk (cl (LeL [AV.v (Value.string who), AV.v (Value.int IntKind.i64 most)] [AV.v (Value.string who), AV.v (Value.int IntKind.i64 most)] ∧ LeH [] [])) (Tree.br (bif !decide (e = e)
    then true else !true == !decide (e = (0 : Int))) (Tree.leaf (Ans.mk (AV.v (Value.bool false)) [])) (Tree.chk (cl (LeL [AV.v (Value.pointer none), AV.v (Value.pointer none), AV.hs (0 :
    Nat) (0 : Nat) (0 : Nat), AV.hs (1 : Nat) (0 : Nat) (0 : Nat), AV.v (Value.int IntKind.i64 (0 : Int)), AV.sl (9 : Nat) (List.length (AP.mk who most acts).acts) (lsF Ac.c (AP.mk who most
    acts).acts)] [AV.v (Value.pointer none), AV.v (Value.pointer none), AV.hs (0 : Nat) (0 : Nat) (0 : Nat), AV.hs (1 : Nat) (0 : Nat) (0 : Nat), AV.v (Value.int IntKind.i64 (0 : Int)),
    AV.sl (9 : Nat) (List.length acts) (lsF Ac.c acts)] ∧ LeH [some (Blk.arr (10 : Nat) (0 : Nat) fun x => [AV.v (Value.int IntKind.i64 (0 : Int)), AV.v (Value.int IntKind.i64 (0 : Int)),
    AV.v (Value.int IntKind.i64 (0 : Int)), AV.v (Value.string (ByteArray.mk #[])), AV.v (Value.string (ByteArray.mk #[])), AV.v (Value.string (ByteArray.mk #[])), AV.v (Value.string
    (ByteArray.mk #[])), AV.v (Value.int IntKind.i64 (0 : Int)), AV.v (Value.int IntKind.i64 (0 : Int)), AV.v (Value.int IntKind.i64 (0 : Int))]), some (Blk.arr (10 : Nat) (0 : Nat) fun x =>
    [AV.v (Value.int IntKind.i64 (0 : Int)), AV.v (Value.int IntKind.i64 (0 : Int)), AV.v (Value.int IntKind.i64 (0 : Int)), AV.v (Value.string (ByteArray.mk #[])), AV.v (Value.string
    (ByteArray.mk #[])), AV.v (Value.string (ByteArray.mk #[])), AV.v (Value.string (ByteArray.mk #[])), AV.v (Value.int IntKind.i64 (0 : Int)), AV.v (Value.int IntKind.i64 (0 : Int)), AV.v
    (Value.int IntKind.i64 (0 : Int))])] [some (Blk.arr (10 : Nat) (0 : Nat) (lsF Oc.c [])), some (Blk.arr (10 : Nat) (0 : Nat) (lsF Oc.c []))])) (Tree.leaf (Ans.mk (AV.v (Value.bool true))
    []))))))) := by kernel_rfl
theorem law14 (who : ByteArray) (most : Int) (acts : List Ac) (hF : Answers Tryd.prog Γm 60 [slA acts] [] (.sb false) [] []) (hN : Answers Tryd.prog Γm 61 [.v (.string who), .v (.int .i64 most)] [] (.tup [.ptr 0 0, .v (.int .i64 0)]) [] [newC who most]) (hR : Answers Tryd.prog Γm 66 [.v (.string who), .v (.int .i64 most)] [] (.tup [.ptr 0 0, .v (.int .i64 0)]) [] [newD who most]) : bodyE (P := Tryd.prog) (Γ := Γm) [z59', CT.at 60 hF, CT.at 61 hN, CT.at 66 hR] (Lw' (LSpec.at lv0' nl0' (S0' (y0 who most acts)) O0')) false nCP [.tmp 6] (bodyOf Tryd.f14) (A14 ⟨who, most, acts⟩) [] =
  Tree.chk (bif decide ((1000 : Int) < (↑(ByteArray.size who) : Int)) then true else cl (LeL [AV.sl (9 : Nat) (List.length (AP.mk who most acts).acts) (lsF Ac.c (AP.mk who most acts).acts)]
    [AV.sl (9 : Nat) (List.length acts) (lsF Ac.c acts)] ∧ LeH [] [])) (Tree.br (bif decide ((1000 : Int) < (↑(ByteArray.size who) : Int)) then true else false) (Tree.leaf (Ans.mk (AV.v
    (Value.bool true)) [])) (Tree.chk (cl (LeL [AV.v (Value.string who), AV.v (Value.int IntKind.i64 most)] [AV.v (Value.string who), AV.v (Value.int IntKind.i64 most)] ∧ LeH [] []))
    (Tree.chk (cl (LeL [AV.v (Value.string who), AV.v (Value.int IntKind.i64 most)] [AV.v (Value.string who), AV.v (Value.int IntKind.i64 most)] ∧ LeH [] [])) (Tree.br false (Tree.leaf
    (Ans.mk (AV.v (Value.bool false)) [])) (Tree.chk (cl (LeL [AV.ptr (0 : Nat) (0 : Nat), AV.ptr (2 : Nat) (0 : Nat), AV.hs (4 : Nat) (0 : Nat) (0 : Nat), AV.hs (5 : Nat) (0 : Nat) (0 :
    Nat), AV.v (Value.int IntKind.i64 (0 : Int)), AV.sl (9 : Nat) (List.length (AP.mk who most acts).acts) (lsF Ac.c (AP.mk who most acts).acts)] [AV.ptr (0 : Nat) (0 : Nat), AV.ptr (2 :
    Nat) (0 : Nat), AV.hs (4 : Nat) (0 : Nat) (0 : Nat), AV.hs (5 : Nat) (0 : Nat) (0 : Nat), AV.v (Value.int IntKind.i64 (↑(0 : Nat) : Int)), AV.sl (9 : Nat) (List.length (y0 who most
    acts).acts) (lsF Ac.c (y0 who most acts).acts)] ∧ LeH [some (Blk.row [AV.v (Value.string who), AV.v (Value.int IntKind.i64 most), AV.hs (1 : Nat) (0 : Nat) (0 : Nat), AV.v (Value.int
    IntKind.i64 (0 : Int)), AV.v (Value.int IntKind.i64 (0 : Int)), AV.v (Value.int IntKind.i64 (0 : Int)), AV.v (Value.int IntKind.i64 (0 : Int)), AV.v (Value.int IntKind.i64 (0 : Int))]),
    some (Blk.arr (10 : Nat) (0 : Nat) fun x => [AV.v (Value.int IntKind.i64 (0 : Int)), AV.v (Value.string (ByteArray.mk #[])), AV.v (Value.string (ByteArray.mk #[])), AV.v (Value.string
    (ByteArray.mk #[])), AV.v (Value.string (ByteArray.mk #[])), AV.v (Value.int IntKind.i64 (0 : Int)), AV.v (Value.int IntKind.i64 (0 : Int)), AV.v (Value.int IntKind.i64 (0 : Int)), AV.v
    (Value.int IntKind.i64 (0 : Int)), AV.v (Value.int IntKind.i64 (0 : Int))]), some (Blk.row [AV.v (Value.string who), AV.v (Value.int IntKind.i64 most), AV.hs (3 : Nat) (0 : Nat) (0 :
    Nat), AV.v (Value.int IntKind.i64 (0 : Int)), AV.v (Value.int IntKind.i64 (0 : Int))]), some (Blk.arr (10 : Nat) (0 : Nat) fun x => [AV.v (Value.int IntKind.i64 (0 : Int)), AV.v
    (Value.string (ByteArray.mk #[])), AV.v (Value.string (ByteArray.mk #[])), AV.v (Value.string (ByteArray.mk #[])), AV.v (Value.string (ByteArray.mk #[])), AV.v (Value.int IntKind.i64 (0
    : Int)), AV.v (Value.int IntKind.i64 (0 : Int)), AV.v (Value.int IntKind.i64 (0 : Int)), AV.v (Value.int IntKind.i64 (0 : Int)), AV.v (Value.slice none (0 : Nat) (0 : Nat))]), some
    (Blk.arr (10 : Nat) (0 : Nat) fun x => [AV.v (Value.int IntKind.i64 (0 : Int)), AV.v (Value.int IntKind.i64 (0 : Int)), AV.v (Value.int IntKind.i64 (0 : Int)), AV.v (Value.string
    (ByteArray.mk #[])), AV.v (Value.string (ByteArray.mk #[])), AV.v (Value.string (ByteArray.mk #[])), AV.v (Value.string (ByteArray.mk #[])), AV.v (Value.int IntKind.i64 (0 : Int)), AV.v
    (Value.int IntKind.i64 (0 : Int)), AV.v (Value.int IntKind.i64 (0 : Int))]), some (Blk.arr (10 : Nat) (0 : Nat) fun x => [AV.v (Value.int IntKind.i64 (0 : Int)), AV.v (Value.int
    IntKind.i64 (0 : Int)), AV.v (Value.int IntKind.i64 (0 : Int)), AV.v (Value.string (ByteArray.mk #[])), AV.v (Value.string (ByteArray.mk #[])), AV.v (Value.string (ByteArray.mk #[])),
    AV.v (Value.string (ByteArray.mk #[])), AV.v (Value.int IntKind.i64 (0 : Int)), AV.v (Value.int IntKind.i64 (0 : Int)), AV.v (Value.int IntKind.i64 (0 : Int))])] [some (Blk.row [AV.v
    (Value.string who), AV.v (Value.int IntKind.i64 most), AV.hs (1 : Nat) (0 : Nat) (0 : Nat), AV.v (Value.int IntKind.i64 (0 : Int)), AV.v (Value.int IntKind.i64 (0 : Int)), AV.v
    (Value.int IntKind.i64 (0 : Int)), AV.v (Value.int IntKind.i64 (0 : Int)), AV.v (Value.int IntKind.i64 (0 : Int))]), some (Blk.arr (10 : Nat) (0 : Nat) (lsF Pc.c (y0 who most acts).P)),
    some (Blk.row [AV.v (Value.string who), AV.v (Value.int IntKind.i64 most), AV.hs (3 : Nat) (0 : Nat) (0 : Nat), AV.v (Value.int IntKind.i64 (0 : Int)), AV.v (Value.int IntKind.i64 (0 :
    Int))]), some (Blk.arr (10 : Nat) (0 : Nat) (lsF Ro.c (y0 who most acts).l)), some (Blk.arr (10 : Nat) (0 : Nat) (lsF Oc.c (y0 who most acts).os)), some (Blk.arr (10 : Nat) (0 : Nat)
    (lsF Oc.c (y0 who most acts).os))])) (Tree.leaf (Ans.mk (AV.v (Value.bool true)) []))))))) := by kernel_rfl
end Go.Eng.TA.C

namespace Go.Eng.TA.C
open Go Go.Eng Go.Eng.M Go.Lib Go.Proofs Go.ChangeShapes
def goodN' (acts : List Ac) : Prop := ∀ i, i < acts.length → ∀ j, -9223372036854775808 ≤ ((acts.getD i default).os.getD j default).tx.nn ∧ ((acts.getD i default).os.getD j default).tx.nn ≤ 9223372036854775807
theorem gr_sz' {x : Tx} (g : grT x = false) : x.fr.size ≤ 1000 ∧ x.to.size ≤ 1000 ∧ x.ky.size ≤ 1000 ∧ x.vl.size ≤ 1000 := by
  unfold grT at g
  have := of_decide_eq_false g
  omega
theorem okA_of {who : ByteArray} {acts : List Ac} (hw : who.size ≤ 1000) (hf : farB acts = false) (hg : goodN' acts) : okA who acts := by
  unfold farB at hf
  rw [Bool.or_eq_false_iff] at hf
  obtain ⟨h1, h2⟩ := hf
  have h1 := of_decide_eq_false h1
  have hA : ∀ i, i < acts.length → grA (acts.getD i default) = false := fun i hi => by
    rw [getD_get hi]
    have := List.any_eq_false.1 h2 acts[i] (List.getElem_mem hi)
    exact Bool.eq_false_iff.2 this
  refine ⟨by omega, by omega, fun i hi => ?_, fun i hi => ?_, hg⟩
  · have h := hA i hi
    unfold grA at h
    rw [Bool.or_eq_false_iff] at h
    obtain ⟨s1, s2, s3, s4⟩ := gr_sz' h.1
    exact ⟨by omega, by omega, by omega, by omega⟩
  · have h := hA i hi
    unfold grA at h
    rw [Bool.or_eq_false_iff, Bool.or_eq_false_iff] at h
    have := of_decide_eq_false h.2.1
    omega
theorem loopN {acts : List Ac} : LoopOK Tryd.prog Γm 0 nCP (lw 0) (LSpec.at lv0' nl0' (Sn acts) On) := by
  refine loop_at (S := fun _ : Unit => Sn acts) (pre := fun _ => True) (O := fun _ => On) (k := 0) (fun _ => 0) (fun _ _ => .of (L := Lno) (failOK fun _ _ _ => rfl) (rn' acts) ?_) () trivial
  have i1 : (bif decide ((0 : Int) < (acts.length : Int)) then false else false) = false := Bool.cond_self ..
  rw [i1]
  exact wN rfl ⟨rfl, ⟨.any _, .any _, .any _, .any _, .any _, .any _, trivial⟩, ⟨.none _, .none _, trivial⟩⟩
theorem fourLoops' {P : Program} {Γ : Nat → AV} {m N : Nat} {c a0 a1 a2 a3 : Code} {L : Nat → LSpec} (h : loopBodies c = [a0, a1, a2, a3]) (h0 : LoopOK P Γ m N a0 (L 0)) (h1 : LoopOK P Γ m N a1 (L 1)) (h2 : LoopOK P Γ m N a2 (L 2)) (h3 : LoopOK P Γ m N a3 (L 3)) : ∀ (j : Nat) (b : Code), (loopBodies c)[j]? = some b → LoopOK P Γ m N b (L j) := by
  intro j b hj
  rw [h] at hj
  match j, hj with
  | 0, hj => simp at hj; subst hj; exact h0
  | 1, hj => simp at hj; subst hj; exact h1
  | 2, hj => simp at hj; subst hj; exact h2
  | 3, hj => simp at hj; subst hj; exact h3
  | j + 4, hj => simp at hj
theorem h0A {sz : Nat} {f g : Nat → List AV} (h1 : ∀ e, (g e).length = sz) : OLe (some (.arr sz 0 f)) (some (.arr sz 0 g)) := .some (.arr (fun e he => absurd he (Nat.not_lt_zero e)) h1)
theorem lawCP (y : AP) (hg : goodN' y.acts) : LawOK Tryd.prog Γm nCP [.tmp 6] (bodyOf Tryd.f14) (A14 y) := by
  obtain ⟨who, most, acts⟩ := y
  have hF := ansF (l := acts)
  have hlb : loopBodies (bodyOf Tryd.f14) = [lw 0, lw 1, lw 2, lw 3] := by kernel_rfl
  by_cases hw : 1000 < who.size
  · refine .mk' (T := [z59', CT.at 60 hF]) (ip := false) (L := Lno) (failOK fun _ _ _ => rfl) (Right.of (law14a who most acts (farB acts) hF) ?_)
    have hq : decide ((1000 : Int) < (who.size : Int)) = true := decide_eq_true (by omega)
    simp only [hq, cond_true]
    exact wC rfl (wT rfl ⟨.refl _, trivial⟩)
  · have hq : decide ((1000 : Int) < (who.size : Int)) = false := decide_eq_false (by omega)
    cases hf : farB acts with
    | true =>
      rw [hf] at hF
      refine .mk' (T := [z59', CT.at 60 hF]) (ip := false) (L := Lno) (failOK fun _ _ _ => rfl) (Right.of (law14a who most acts true hF) ?_)
      simp only [hq, cond_false]
      exact wC (cl_iff.2 ⟨LeL.refl _, trivial⟩) (wT rfl ⟨.refl _, trivial⟩)
    | false =>
      rw [hf] at hF
      have ha := okA_of (who := who) (by omega) hf hg
      have hnil : ∀ e : Int, ¬ e = 0 → (hN : Answers Tryd.prog Γm 61 [.v (.string who), .v (.int .i64 most)] [] (.tup [.v (.pointer none), .v (.int .i64 e)]) [] []) → (hR : Answers Tryd.prog Γm 66 [.v (.string who), .v (.int .i64 most)] [] (.tup [.v (.pointer none), .v (.int .i64 e)]) [] []) → LawOK Tryd.prog Γm nCP [.tmp 6] (bodyOf Tryd.f14) (A14 ⟨who, most, acts⟩) := fun e he hN hR => by
        refine .mk' (T := [z59', CT.at 60 hF, CT.at 61 hN, CT.at 66 hR]) (ip := false) (L := Lw' (LSpec.at lv0' nl0' (Sn acts) On)) (fourLoops' hlb loopN fail_ok fail_ok fail_ok) (Right.of (law14n who most acts e hF hN hR) ?_)
        have hd : (bif !decide (e = e) then true else !true == !decide (e = 0)) = false := by
          rw [decide_eq_true rfl, decide_eq_false he]; rfl
        rw [hq, hd]
        simp only [cond_false]
        exact wC (cl_iff.2 ⟨LeL.refl _, trivial⟩) (wN rfl (wC (cl_iff.2 ⟨LeL.refl _, trivial⟩) (wC (cl_iff.2 ⟨LeL.refl _, trivial⟩) (wN rfl (wC (cl_iff.2 ⟨LeL.refl _, ⟨h0A fun _ => rfl, h0A fun _ => rfl, trivial⟩⟩) ⟨.refl _, trivial⟩)))))
      cases hb : nameB who with
      | false => exact hnil 20 (by decide) (ansN0 (by omega) hb) (ansRN0 (by omega) hb)
      | true =>
        by_cases hm : most < 1 ∨ 64 < most
        · exact hnil 1 (by decide) (ansN1 (by omega) hb hm) (ansRN1 (by omega) hb hm)
        · have hN := ansN (who := who) (most := most) (by omega) hb (by omega) (by omega)
          have hR := ansRN (who := who) (most := most) (by omega) hb (by omega) (by omega)
          have hp : preW who acts (y0 who most acts) := ⟨Nat.zero_le _, rfl, rfl, rfl, rfl, ⟨rfl, rfl, rfl⟩, fun k hk => absurd hk (Nat.not_lt_zero k), fun k hk => absurd hk (Nat.not_lt_zero k), Int.le_refl _, Int.le_refl _, Nat.le_refl _, Nat.zero_le _, Int.le_refl _, Int.le_refl _, fun j => by show _ ≤ (0 : Int) ∧ (0 : Int) ≤ _; omega⟩
          refine .mk' (T := [z59', CT.at 60 hF, CT.at 61 hN, CT.at 66 hR]) (ip := false) (L := Lw' (LSpec.at lv0' nl0' (S0' (y0 who most acts)) O0')) (fourLoops' hlb (loop0' ha _ hp) fail_ok fail_ok fail_ok) (Right.of (law14 who most acts hF hN hR) ?_)
          simp only [hq, cond_false]
          exact wC (cl_iff.2 ⟨LeL.refl _, trivial⟩) (wN rfl (wC (cl_iff.2 ⟨LeL.refl _, trivial⟩) (wC (cl_iff.2 ⟨LeL.refl _, trivial⟩) (wN rfl (wC (cl_iff.2 ⟨LeL.refl _, ⟨.refl _, h0A fun _ => rfl, .refl _, h0A fun _ => rfl, h0A fun _ => rfl, h0A fun _ => rfl, trivial⟩⟩) ⟨.refl _, trivial⟩)))))
noncomputable def c14L : CT Tryd.prog Γm := CT.lawE A14 (fun y => goodN' y.acts) 14 Tryd.f14 (bodyOf Tryd.f14) nCP [.tmp 6] Tryd.func14 (by kernel_rfl) (by kernel_rfl) (by kernel_rfl) (by kernel_rfl) (fun _ _ => by simp [A14, nCP]) (fun y h => lawCP y h)
section
variable {H : Type} {enc : TypeId × Value → H} {w : World} {base : Nat} {sp : Nat → Bool} {held : Bool}
def nnOk (n : Int) : Prop := -9223372036854775808 ≤ n ∧ n ≤ 9223372036854775807
theorem oc_nn {a : Oc} (h : GoodVs Oc.ks a.cells) : nnOk a.tx.nn := by
  obtain ⟨n, h1, h2⟩ := h.2.2.2.2.2.2.2.2.1
  cases h1
  have := bounds_i64 h2
  exact ⟨this.1, this.2⟩
theorem open_ocs {fuel : Nat} {cs : List Value} {x : DataW H × List MemPlace} (h : DataW.trod enc Tryd.prog w base sp held fuel 89 cs = some x) :
    ∃ (v : Value) (l : List Oc), cs = [v] ∧ V0 (σof w) (.sl 10 l.length (lsF Oc.c l)) v ∧ v.oneCell' = true ∧ ∀ i, i < l.length → nnOk (l.getD i default).tx.nn := by
  obtain ⟨v, l, h1, h2, h3, h4⟩ := trod_sl (enc := enc) (P := Tryd.prog) Oc.c (sz := 10) (fun a cs => cs = Oc.cells a ∧ GoodVs Oc.ks cs) (e := 107) (by decide) (by kernel_rfl) rfl (fun _ => rfl)
    (fun fuel cs x hx => by
      have hg := trod_good 9 fuel (ks := Oc.ks) hx (by kernel_rfl)
      obtain ⟨a, ha⟩ := Oc.dec cs hg
      exact ⟨a, ha, hg⟩)
    (fun a cs h j x y => flatE_V (cells := Oc.cells) (fun _ => rfl) a cs h j x y) Tryd.underlying89 h
  refine ⟨v, l, h1, h2, h3, fun i hi => ?_⟩
  obtain ⟨vs, rfl, hg⟩ := h4 i hi
  exact oc_nn hg
def acE (w : World) (a : Ac) (cs : List Value) : Prop := ∃ v, cs = [.int .i64 a.k, .int .i64 a.tx.k, .string a.tx.fr, .string a.tx.to, .string a.tx.ky, .string a.tx.vl, .int .i64 a.tx.am, .int .i64 a.tx.nn, v] ∧ V0 (σof w) (.sl 10 a.os.length (lsF Oc.c a.os)) v ∧ v.oneCell' = true ∧ ∀ i, i < a.os.length → nnOk (a.os.getD i default).tx.nn
theorem open_ac {fuel : Nat} {cs : List Value} {x : DataW H × List MemPlace} (h : DataW.trod enc Tryd.prog w base sp held fuel 92 cs = some x) : ∃ a, acE w a cs := by
  obtain ⟨p0, p1, p2, fu, y0, y1, y2, rfl, h0, h1, h2⟩ := trod_three (n0 := 1) (n1 := 7) (n2 := 1) Tryd.underlying92 rfl rfl rfl rfl (by kernel_rfl) (by kernel_rfl) (by kernel_rfl) (by kernel_rfl) h
  have g0 := trod_good 9 fu (ks := [.int .i64]) h0 (by kernel_rfl)
  have g1 := trod_good 9 fu (ks := Tx.ks) h1 (by kernel_rfl)
  obtain ⟨_, _, rfl, ⟨a0, rfl, _⟩, k0⟩ := g0.cons
  obtain rfl := k0.nil
  obtain ⟨t, rfl⟩ := Tx.dec p1 g1
  obtain ⟨v, l, rfl, hv, ho, hn⟩ := open_ocs h2
  exact ⟨⟨a0, t, l⟩, v, rfl, hv, ho, hn⟩
theorem acE_V (w : World) (a : Ac) (cs : List Value) (h : acE w a cs) (j : Nat) (x : AV) (y : Value) (hx : (Ac.c a)[j]? = some x) (hy : cs[j]? = some y) : V0 (σof w) x y ∧ y.oneCell' = true := by
  obtain ⟨v, rfl, hv, ho, _⟩ := h
  match j, hx, hy with
  | 0, hx, hy => cases hx; cases hy; exact ⟨.v _, rfl⟩
  | 1, hx, hy => cases hx; cases hy; exact ⟨.v _, rfl⟩
  | 2, hx, hy => cases hx; cases hy; exact ⟨.v _, rfl⟩
  | 3, hx, hy => cases hx; cases hy; exact ⟨.v _, rfl⟩
  | 4, hx, hy => cases hx; cases hy; exact ⟨.v _, rfl⟩
  | 5, hx, hy => cases hx; cases hy; exact ⟨.v _, rfl⟩
  | 6, hx, hy => cases hx; cases hy; exact ⟨.v _, rfl⟩
  | 7, hx, hy => cases hx; cases hy; exact ⟨.v _, rfl⟩
  | 8, hx, hy => cases hx; cases hy; exact ⟨hv, ho⟩
theorem slice_ok {P : Program} {t e : TypeId} {r : Reach} {b0 : Nat} {v : Value} (ht : P.underlying t = some (.slice e)) (hval : Value.okWide P w r b0 t v) : ∃ a n c, v = .slice a n c := by
  unfold Value.okWide at hval
  rw [ht] at hval
  simp only at hval
  unfold Cell.okWide at hval
  rw [ht] at hval
  unfold Cell.ok at hval
  rw [ht] at hval
  cases v with
  | slice a len cap => exact ⟨_, _, _, rfl⟩
  | _ => exact hval.elim
set_option maxRecDepth 100000 in
theorem open_acs {v : Value} {d : DataW H} {ps : List MemPlace} {r : Reach} {b0 : Nat} (hval : Value.okWide Tryd.prog w r b0 84 v) (h : DataW.Trod enc Tryd.prog w base sp held 84 v d ps) : ∃ l : List Ac, V0 (σof w) (.sl 9 l.length (lsF Ac.c l)) v ∧ goodN' l := by
  obtain ⟨fuel, h⟩ := h
  obtain ⟨v', l, h1, h2, _, h4⟩ := trod_sl (enc := enc) (P := Tryd.prog) Ac.c (sz := 9) (acE w) (e := 92) (by decide) (by kernel_rfl) rfl (fun _ => rfl)
    (fun fuel cs x hx => open_ac hx) (fun a cs h j x y => acE_V w a cs h j x y) (fuel := fuel) Tryd.underlying84 h
  obtain ⟨a, n, c, hs⟩ := slice_ok Tryd.underlying84 hval
  subst hs
  have h1 : [Value.slice a n c] = [v'] := h1
  have h1 := (List.cons.inj h1).1
  subst h1
  refine ⟨l, h2, fun i hi j => ?_⟩
  obtain ⟨vs, v, _, _, _, hn⟩ := h4 i hi
  rcases Nat.lt_or_ge j (l.getD i default).os.length with hj | hj
  · exact hn j hj
  · rw [List.getD_eq_getElem?_getD, List.getElem?_eq_none hj]
    show _ ≤ (0 : Int) ∧ (0 : Int) ≤ _
    omega
end
end Go.Eng.TA.C

namespace Go.Proofs.YtmjbindplgpjjaaDoor
open Go Go.ChangeShapes Go.WideShapes Go.ChangeAt Go.WideMaps Go.WideElems Go.RowKit Go.Eng Go.Eng.TA
theorem own : ownKnob Tryd.prog.godebug = none := by kernel_rfl
abbrev laidL : List (String × DataW Unit) := [("unicode/utf8.acceptRanges", Rows.laid_unicode_utf8_acceptRanges), ("unicode/utf8.first", Rows.laid_unicode_utf8_first)]
def ren8 : Go.Shelf.Ren := ⟨id, fun t => if t = 5 then 5 else if t = 119 then 192 else if t = 138 then 194 else 195, fun g => if g = 3 then 0 else 1⟩
theorem ren8T : U8Types Tryd.prog ren8 where
  t5 := Tryd.underlying5
  t119 := Tryd.underlying192
  t138 := Tryd.underlying194
  t139 := Tryd.underlying195
theorem ren8X : U8Extra Tryd.prog ren8 where
  n3 := by kernel_rfl
  n4 := by kernel_rfl
  y3 := by kernel_rfl
  y4 := by kernel_rfl
  c5 := by kernel_rfl
  c119 := by kernel_rfl
  c138 := by kernel_rfl
theorem data8 : Rows.laid_unicode_utf8_first = Lib.firstData ∧ (Rows.laid_unicode_utf8_acceptRanges : DataW Unit) = Lib.acceptData := ⟨by kernel_rfl, by kernel_rfl⟩
theorem globals_ok {W : World} (h : laidMetH Tryd.prog laidL W) : Globals Γm (σof W) := by
  rw [MakeChecks.laidMetH_plain _ _ _ (by kernel_rfl)] at h
  have h1 := Go.Lib.laidMet.reads h (n := "unicode/utf8.first") (d := Lib.firstData) (by rw [← data8.1]; exact List.mem_cons_of_mem _ (List.mem_cons_self ..))
  have h2 := Go.Lib.laidMet.reads h (n := "unicode/utf8.acceptRanges") (d := Lib.acceptData) (by rw [← data8.2]; exact List.mem_cons_self ..)
  have hT : Lib.Utf8Tabs 0 1 W := utf8Tabs_of_readsT ren8T ren8X h1 h2
  intro g
  unfold Γm
  split
  · rename_i hg
    obtain rfl := Nat.eq_of_beq_eq_true hg
    refine .pa 1 256 _ ⟨0, 0, none⟩ (fun e j => .int .u8 (Lib.firstT e : Int)) rfl (fun _ => rfl) (fun e j c he hc => ?_) (fun e j c he hc => ?_)
    · cases j with
      | zero => simpa using σof_of (hT.1 e he)
      | succ j => simp [fstF] at hc
    · cases j with
      | zero => simp [fstF] at hc; subst hc; exact .v _
      | succ j => simp [fstF] at hc
  · split
    · rename_i hg
      obtain rfl := Nat.eq_of_beq_eq_true hg
      refine .pa 2 16 _ ⟨1, 0, none⟩ (fun e j => .int .u8 (if j = 0 then (Lib.accLo e : Int) else (Lib.accHi e : Int))) rfl (fun _ => rfl) (fun e j c he hc => ?_) (fun e j c he hc => ?_)
      · match j with
        | 0 => simpa [Nat.mul_comm] using σof_of (hT.2 e he).1
        | 1 => simpa [Nat.mul_comm] using σof_of (hT.2 e he).2
        | j + 2 => simp [accF] at hc
      · match j with
        | 0 => simp [accF] at hc; subst hc; exact .v _
        | 1 => simp [accF] at hc; subst hc; exact .v _
        | j + 2 => simp [accF] at hc
    · exact .any _
end Go.Proofs.YtmjbindplgpjjaaDoor

/- CourierPlays holds at every input: the tables unicode/utf8.first and unicode/utf8.acceptRanges as the program lays them (tied). -/
namespace Go.Proofs.YtmjbindplgpjjaaDoor
open Go Go.ChangeShapes Go.WideShapes Go.ChangeAt Go.WideMaps Go.WideElems Go.RowKit Go.Eng Go.Eng.TA Go.Eng.TA.C

set_option maxRecDepth 100000 in
theorem courierPlays_lifted (os : Os) (started : os.Started) (H : Type) (enc : TypeId × Value → H) :
    ReturnsInHanded {} Tryd.checked os 14 .any (fun w args => (Rows.courierPlaysSpec.pre enc Tryd.prog Tryd.f14 [] false w args ∧ laidMetH Tryd.prog laidL w) ∧ sizedMet enc Tryd.prog Tryd.f14 (OpenSpec.ofChange Rows.courierPlaysSpec) false w args)
      (Rows.courierPlaysSpec.post enc Tryd.prog Tryd.f14 false true false false) := by
  refine returnsInHanded_of_change_and (C := Tryd.checked) (X := fun w _ => laidMetH Tryd.prog laidL w) (fun _ _ _ hh h => h.of_heap hh) own started (by kernel_rfl) Tryd.func14
    (ChangeSpec.witness_shaped (enc := enc) (C := Tryd.checked) (os := os) (X := fun w _ => laidMetH Tryd.prog laidL w) false (World.laidAll Tryd.prog os laidL) #[.string ⟨#[]⟩, .int .i64 1, .slice none 0 0] 8 (World.laidAll_os _ _ _) (World.shaped_of_ZipB (by kernel_rfl) (by kernel_rfl)) (by kernel_rfl) (by kernel_rfl) (by kernel_rfl)
      (by rw [MakeChecks.laidMetH_plain _ _ _ (by kernel_rfl)]; exact laidMet_laidAll _ (by kernel_rfl) (by kernel_rfl))) ?_
  intro W base args ds gs before hval0 hW _ _ hL _
  have hval : ∀ (j : Nat) t v, Tryd.f14.params[j]? = some t → args[j]? = some v → Value.okWide Tryd.prog W .any base t v := hval0
  have hW' := hW
  obtain ⟨p, q, hA0, hV, rfl, hfz, hnd⟩ := hW
  have hA : DataW.TrodAll enc Tryd.prog W 0 (fun _ => true) true Tryd.f14.params.toList args.toList ds p := hA0
  rw [Tryd.params14] at hA hval
  obtain ⟨v0, v1, v2, d0, d1, d2, p0, p1, p2, rfl, rfl, rfl, h0, h1, h2⟩ := trodAll_three hA
  obtain ⟨rfl, rfl⟩ := trodVars_none hV
  obtain ⟨n0, rfl, rfl, rfl, w0⟩ := Go.ChangeMaps.open_string Tryd.underlying9 (hval 0 9 v0 rfl rfl) h0
  obtain ⟨n1, rfl, rfl, rfl, w1⟩ := open_int Tryd.underlying3 (hval 1 3 v1 rfl rfl) h1
  obtain ⟨n2, s2, w2⟩ := open_acs (hval 2 84 v2 rfl rfl) h2
  refine (calls_true c14L (xs := [.v (.string n0), .v (.int .i64 n1), .sl 9 n2.length (lsF Ac.c n2)]) (law_in (A := A14) (pre := fun y => goodN' y.acts) (x := ⟨n0, n1, n2⟩) w2 (.refl _)) (globals_ok hL) (.one (V_v _) (.one (V_v _) (.one (.base s2) .none)))).mono fun e W' ⟨he, ho⟩ => ?_
  subst he
  exact ⟨_, rfl, post_true (tb := 4) (by kernel_rfl) (by kernel_rfl) (by kernel_rfl) (by kernel_rfl) (by kernel_rfl) Tryd.underlying4 hW' rfl rfl ho⟩

theorem courierPlays_holds : Rows.CourierPlaysSaid :=
  OpenClaim.holds_of_wide 14 Tryd.f14 rfl rfl rfl rfl rfl rfl rfl ⟨rfl, rfl, rfl, rfl, rfl⟩ rfl rfl rfl rfl rfl (by kernel_rfl) Tryd.func14 (by kernel_rfl)
    (of_decide_eq_true (by kernel_rfl)) (by unfold Func.isWrapper; first | (rw [if_pos (by decide +kernel)]; kernel_rfl) | (rw [if_neg (by decide +kernel)]; exact ⟨rfl, rfl⟩))
    (fun os started H enc _ => courierPlays_lifted os started H enc)
theorem courierPlays_card : Rows.CourierPlaysCardSaid :=
  Claim7.holds_tied_plain_at .later [] [.data, .pinned] true (true, "04bf13180d5c01f5cefcb13e3375edc3305cec317436f21bd83698835d5e56cf") false
    courierPlays_holds (fun _ h => by cases h) (by kernel_rfl) (fun _ h => by cases h) courierPlays_row_tie rfl ⟨rfl, rfl⟩ (by kernel_rfl) rfl
    (fun f fn hf hfn => by
      obtain rfl : f = 14 := Option.some.inj ((show Tryd.prog.funcNamed "hallmoot/hallmootlaw32.CourierPlays" = some 14 by kernel_rfl).symm.trans hf) |>.symm
      obtain rfl : fn = Tryd.f14 := (Option.some.inj (Tryd.func14.symm.trans hfn)).symm
      exact ⟨by kernel_rfl, fun j t ht => by
        rw [Tryd.params14] at ht
        have hm : t ∈ [9, 3, 84] := by simpa using Array.mem_of_getElem? ht
        have hall : ([9, 3, 84].all fun u => !Tryd.prog.wantsStandIn u) = true := by kernel_rfl
        exact (show Tryd.prog.wantsStandIn t = false by simpa using List.all_eq_true.1 hall t hm)⟩)
    (by kernel_rfl)
#print axioms courierPlays_card
end Go.Proofs.YtmjbindplgpjjaaDoor
