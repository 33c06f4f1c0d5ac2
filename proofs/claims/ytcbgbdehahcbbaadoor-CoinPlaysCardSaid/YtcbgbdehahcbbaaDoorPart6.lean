/- coin: any calls: the rounds and what follows it. -/
import Derived.Test.YtcbgbdehahcbbaaDoorPart5
/- coin: any calls: the rounds. -/
namespace Go.Eng.Co
open Go Go.Eng Go.Eng.M Go.Proofs
set_option linter.unusedSimpArgs false
set_option linter.unusedVariables false
structure Ac where
  k : Int
  v : Int
  w : Int
  set : Int
instance : Inhabited Ac := ⟨⟨0, 0, 0, 0⟩⟩
def Ac.c (x : Ac) : List AV := [.v (.int .i64 x.k), .v (.int .i64 x.v), .v (.int .i64 x.w), .v (.int .u32 x.set)]
def Ac.cells (x : Ac) : List Value := [.int .i64 x.k, .int .i64 x.v, .int .i64 x.w, .int .u32 x.set]
theorem Ac.cod : Cod Ac.c 4 := ⟨fun _ => rfl, fun b x y => by cases b <;> rfl⟩
theorem Ac.dec (vs : List Value) (h0 : GoodVs [.int .i64, .int .i64, .int .i64, .int .u32] vs) : ∃ a : Ac, vs = a.cells := by
  obtain ⟨_, _, rfl, ⟨a0, rfl, _⟩, h1⟩ := h0.cons
  obtain ⟨_, _, rfl, ⟨a1, rfl, _⟩, h2⟩ := h1.cons
  obtain ⟨_, _, rfl, ⟨a2, rfl, _⟩, h3⟩ := h2.cons
  obtain ⟨_, _, rfl, ⟨a3, rfl, _⟩, h4⟩ := h3.cons
  obtain rfl := h4.nil
  exact ⟨⟨a0, a1, a2, a3⟩, rfl⟩
abbrev Ac.ks : List Cel := [.int .i64, .int .i64, .int .i64, .int .u32]
theorem ansSeeOkT {v s f bad : Int} {gv : List Sh} {sn : List Int} {n : Nat} {l j : List Sh} (h : ¬ badV v) (hu : inU32 s = true) (hb : inU32 bad = true) (hE : EnE s (timesF 1 f) (stC v) f bad l 0) (hn : snB sn v = true) : Answers Tryd.prog Γc 13 (AS v s) (WH f f bad gv sn n l j) (tup2 (whoV f gv v) 0) ((WH f f bad gv sn n l j).map some) [] := by
  have := ansSeeOk (gv := gv) (sn := sn) (n := n) (j := j) h hu hb hE
  have h1 : addS sn v = sn := by simp [addS, hn]
  have h2 : nC gv sn v n = n := by simp [nC, hasC1, hn]
  rw [h1, h2] at this; exact this
theorem ansSeeOkN {v s f bad : Int} {gv : List Sh} {sn : List Int} {n : Nat} {l j : List Sh} (h : ¬ badV v) (hu : inU32 s = true) (hb : inU32 bad = true) (hE : EnE s (timesF 1 f) (stC v) f bad l 0) (hn : snB sn v = false) : Answers Tryd.prog Γc 13 (AS v s) (WH f f bad gv sn n l j) (tup2 (whoV f gv v) 0) ((WH f f bad gv (sn ++ [v]) (nC gv sn v n) l j).map some) [] := by
  have := ansSeeOk (gv := gv) (sn := sn) (n := n) (j := j) h hu hb hE
  have h1 : addS sn v = sn ++ [v] := by simp [addS, hn]
  rw [h1] at this; exact this
theorem ansWasG {f v : Int} {gv : List Sh} {sn js : List Int} (hs : sn.length ≤ 100000) : Answers Tryd.prog Γc 19 (AV1 v) [dcR 1 2 f gv sn, shB gv, snA (sn ++ js)] (.sb (snB sn v)) [some (dcR 1 2 f gv sn), some (shB gv), some (snA (sn ++ js))] [] := by
  have := ansWas (x := ⟨f, gv, [], sn, js⟩) (v := v) hs
  simp only [KX.H, KH, List.append_nil, List.map] at this
  exact this
theorem ansWasS {f v : Int} {gv jg : List Sh} {sn : List Int} (hs : sn.length ≤ 100000) : Answers Tryd.prog Γc 19 (AV1 v) [dcR 1 2 f gv sn, shB (gv ++ jg), snA sn] (.sb (snB sn v)) [some (dcR 1 2 f gv sn), some (shB (gv ++ jg)), some (snA sn)] [] := by
  have := ansWas (x := ⟨f, gv, jg, sn, []⟩) (v := v) hs
  simp only [KX.H, KH, List.append_nil, List.map] at this
  exact this
noncomputable abbrev lp3 : Code := loopOf (bodyOf Tryd.f3) 0
structure X3 where
  f : Int
  o : Int
  bad : Int
  acts : List Ac
  l : List Sh
  j : List Sh
  j' : List Sh
  gv : List Sh
  jg : List Sh
  sn : List Int
  js : List Int
  n : Nat
  i : Nat
abbrev X3.K (x : X3) : KX := ⟨x.f, x.gv, x.jg, x.sn, x.js⟩
def X3.v (x : X3) : List AV := [.sl 4 x.acts.length (lsF Ac.c x.acts), .ptr 0 0, .ptr 3 0, .ptr 5 0, .ptr 7 0, .v (.int .i64 (x.i : Int)), .any]
def X3.H (x : X3) : List Blk := [sgR 1 2 x.o x.bad x.l.length, sgM x.l, shB (x.l ++ x.j), sgD 4 x.o x.bad x.l.length, shB (x.l ++ x.j'), coR 6 x.f, coM x.f x.gv x.sn x.n, dcR 8 9 x.f x.gv x.sn, shB (x.gv ++ x.jg), snA (x.sn ++ x.js)]
def S31 (x : X3) : List AV × Heap := (x.v, x.H.map some)
abbrev lv3 : List Nat := [3, 9, 11, 13, 15, 16, 8]
abbrev nl3 : List (Nat × TypeId) := [(401, 53), (302, 53), (204, 53), (304, 3)]
abbrev shA (x : X3) : Sh := ⟨(x.acts.getD x.i default).w, stC (x.acts.getD x.i default).v⟩
theorem qend (x : X3) (hs : x.sn.length ≤ 100000) (hg : x.gv.length ≤ 100000) : roundE (P := Tryd.prog) (Γ := Γc) [CT.at 18 (ansSeen (v := (x.acts.getD x.i default).v) (f := x.f) (gv := x.gv) (sn := x.sn) (n := x.n)), CT.at 19 (ansWas (x := x.K) (v := (x.acts.getD x.i default).v) hs)] Lno false 0 0 lp3 lv3 nl3 161 (S31 x).1 (S31 x).2 =
  Tree.br (bif decide ((↑x.i : Int) < (↑(List.length x.acts) : Int)) then true else false) (Tree.chk (decide ((0 : Int) ≤ (↑x.i : Int)) && decide ((↑x.i : Int) < (↑(List.length x.acts) :
    Int))) (Tree.br (decide ((List.getD x.acts x.i default).k = (0 : Int))) Tree.fail (Tree.br (decide ((List.getD x.acts x.i default).k = (1 : Int))) Tree.fail (Tree.br (decide ((List.getD
    x.acts x.i default).k = (2 : Int))) Tree.fail (Tree.chk (cl (LeL [AV.ptr (0 : Nat) (0 : Nat), AV.v (Value.int IntKind.i64 (List.getD x.acts x.i default).v)] [AV.ptr (0 : Nat) (0 : Nat),
    AV.v (Value.int IntKind.i64 (List.getD x.acts x.i default).v)] ∧ LeH [some (Blk.row [AV.v (Value.int IntKind.i64 x.f), AV.map (1 : Nat)]), some (Blk.mp [Cel.int IntKind.i64] false true
    x.n (hasC x.gv x.sn) (valC x.f x.gv x.sn))] [some (Blk.row [AV.v (Value.int IntKind.i64 x.f), AV.map (1 : Nat)]), some (Blk.mp [Cel.int IntKind.i64] false true x.n (hasC x.gv x.sn) (valC
    x.f x.gv x.sn))])) (Tree.chk (cl (LeL [AV.ptr (0 : Nat) (0 : Nat), AV.v (Value.int IntKind.i64 (List.getD x.acts x.i default).v)] [AV.ptr (0 : Nat) (0 : Nat), AV.v (Value.int IntKind.i64
    (List.getD x.acts x.i default).v)] ∧ LeH [some (Blk.row [AV.v (Value.int IntKind.i64 x.f), AV.hs (1 : Nat) (0 : Nat) (List.length x.gv), AV.hs (2 : Nat) (0 : Nat) (List.length x.sn)]),
    some (Blk.arr (11 : Nat) (List.length (x.gv ++ x.jg)) (lsF Sh.c (x.gv ++ x.jg))), some (Blk.arr (1 : Nat) (List.length (x.sn ++ x.js)) (lsF I64.c (x.sn ++ x.js)))] [some (Blk.row [AV.v
    (Value.int IntKind.i64 x.f), AV.hs (1 : Nat) (0 : Nat) (List.length (X3.K x).gv), AV.hs (2 : Nat) (0 : Nat) (List.length (X3.K x).sn)]), some (Blk.arr (11 : Nat) (List.length ((X3.K
    x).gv ++ (X3.K x).jg)) (lsF Sh.c ((X3.K x).gv ++ (X3.K x).jg))), some (Blk.arr (1 : Nat) (List.length ((X3.K x).sn ++ (X3.K x).js)) (lsF I64.c ((X3.K x).sn ++ (X3.K x).js)))])) (Tree.br
    (!snB x.sn (List.getD x.acts x.i default).v == snB (X3.K x).sn (List.getD x.acts x.i default).v) (Tree.leaf (Out.mk AEx.ret [AV.sl (4 : Nat) (List.length x.acts) (lsF Ac.c x.acts),
    AV.ptr (0 : Nat) (0 : Nat), AV.ptr (3 : Nat) (0 : Nat), AV.ptr (5 : Nat) (0 : Nat), AV.ptr (7 : Nat) (0 : Nat), AV.v (Value.int IntKind.i64 (↑x.i : Int)), AV.v (Value.bool false)] [some
    (Blk.row [AV.v (Value.int IntKind.i64 x.o), AV.v (Value.int IntKind.u32 x.bad), AV.map (1 : Nat), AV.hs (2 : Nat) (0 : Nat) (List.length x.l)]), some (Blk.mp [Cel.int IntKind.i64,
    Cel.int IntKind.i64, Cel.int IntKind.i64, Cel.int IntKind.i64, Cel.int IntKind.i64, Cel.int IntKind.i64, Cel.int IntKind.i64, Cel.int IntKind.i64, Cel.int IntKind.i64, Cel.int
    IntKind.i64, Cel.int IntKind.i64] true false (List.length x.l) (hasS x.l) anyV), some (Blk.arr (11 : Nat) (List.length (x.l ++ x.j)) (lsF Sh.c (x.l ++ x.j))), some (Blk.row [AV.v
    (Value.int IntKind.i64 x.o), AV.v (Value.int IntKind.u32 x.bad), AV.hs (4 : Nat) (0 : Nat) (List.length x.l)]), some (Blk.arr (11 : Nat) (List.length (x.l ++ x.j')) (lsF Sh.c (x.l ++
    x.j'))), some (Blk.row [AV.v (Value.int IntKind.i64 x.f), AV.map (6 : Nat)]), some (Blk.mp [Cel.int IntKind.i64] false true x.n (hasC x.gv x.sn) (valC x.f x.gv x.sn)), some (Blk.row
    [AV.v (Value.int IntKind.i64 x.f), AV.hs (8 : Nat) (0 : Nat) (List.length (X3.K x).gv), AV.hs (9 : Nat) (0 : Nat) (List.length (X3.K x).sn)]), some (Blk.arr (11 : Nat) (List.length
    ((X3.K x).gv ++ (X3.K x).jg)) (lsF Sh.c ((X3.K x).gv ++ (X3.K x).jg))), some (Blk.arr (1 : Nat) (List.length ((X3.K x).sn ++ (X3.K x).js)) (lsF I64.c ((X3.K x).sn ++ (X3.K x).js)))]))
    (Tree.leaf (Out.mk AEx.normal [AV.sl (4 : Nat) (List.length x.acts) (lsF Ac.c x.acts), AV.ptr (0 : Nat) (0 : Nat), AV.ptr (3 : Nat) (0 : Nat), AV.ptr (5 : Nat) (0 : Nat), AV.ptr (7 :
    Nat) (0 : Nat), AV.v (Value.int IntKind.i64 (IntKind.wrap IntKind.i64 ((↑x.i : Int) + (1 : Int)))), AV.any] [some (Blk.row [AV.v (Value.int IntKind.i64 x.o), AV.v (Value.int IntKind.u32
    x.bad), AV.map (1 : Nat), AV.hs (2 : Nat) (0 : Nat) (List.length x.l)]), some (Blk.mp [Cel.int IntKind.i64, Cel.int IntKind.i64, Cel.int IntKind.i64, Cel.int IntKind.i64, Cel.int
    IntKind.i64, Cel.int IntKind.i64, Cel.int IntKind.i64, Cel.int IntKind.i64, Cel.int IntKind.i64, Cel.int IntKind.i64, Cel.int IntKind.i64] true false (List.length x.l) (hasS x.l) anyV),
    some (Blk.arr (11 : Nat) (List.length (x.l ++ x.j)) (lsF Sh.c (x.l ++ x.j))), some (Blk.row [AV.v (Value.int IntKind.i64 x.o), AV.v (Value.int IntKind.u32 x.bad), AV.hs (4 : Nat) (0 :
    Nat) (List.length x.l)]), some (Blk.arr (11 : Nat) (List.length (x.l ++ x.j')) (lsF Sh.c (x.l ++ x.j'))), some (Blk.row [AV.v (Value.int IntKind.i64 x.f), AV.map (6 : Nat)]), some
    (Blk.mp [Cel.int IntKind.i64] false true x.n (hasC x.gv x.sn) (valC x.f x.gv x.sn)), some (Blk.row [AV.v (Value.int IntKind.i64 x.f), AV.hs (8 : Nat) (0 : Nat) (List.length (X3.K x).gv),
    AV.hs (9 : Nat) (0 : Nat) (List.length (X3.K x).sn)]), some (Blk.arr (11 : Nat) (List.length ((X3.K x).gv ++ (X3.K x).jg)) (lsF Sh.c ((X3.K x).gv ++ (X3.K x).jg))), some (Blk.arr (1 :
    Nat) (List.length ((X3.K x).sn ++ (X3.K x).js)) (lsF I64.c ((X3.K x).sn ++ (X3.K x).js)))]))))))))) (Tree.leaf (Out.mk (AEx.exit (0 : Nat)) [AV.sl (4 : Nat) (List.length x.acts) (lsF
    Ac.c x.acts), AV.ptr (0 : Nat) (0 : Nat), AV.ptr (3 : Nat) (0 : Nat), AV.ptr (5 : Nat) (0 : Nat), AV.ptr (7 : Nat) (0 : Nat), AV.v (Value.int IntKind.i64 (↑x.i : Int)), AV.any] [some
    (Blk.row [AV.v (Value.int IntKind.i64 x.o), AV.v (Value.int IntKind.u32 x.bad), AV.map (1 : Nat), AV.hs (2 : Nat) (0 : Nat) (List.length x.l)]), some (Blk.mp [Cel.int IntKind.i64,
    Cel.int IntKind.i64, Cel.int IntKind.i64, Cel.int IntKind.i64, Cel.int IntKind.i64, Cel.int IntKind.i64, Cel.int IntKind.i64, Cel.int IntKind.i64, Cel.int IntKind.i64, Cel.int
    IntKind.i64, Cel.int IntKind.i64] true false (List.length x.l) (hasS x.l) anyV), some (Blk.arr (11 : Nat) (List.length (x.l ++ x.j)) (lsF Sh.c (x.l ++ x.j))), some (Blk.row [AV.v
    (Value.int IntKind.i64 x.o), AV.v (Value.int IntKind.u32 x.bad), AV.hs (4 : Nat) (0 : Nat) (List.length x.l)]), some (Blk.arr (11 : Nat) (List.length (x.l ++ x.j')) (lsF Sh.c (x.l ++
    x.j'))), some (Blk.row [AV.v (Value.int IntKind.i64 x.f), AV.map (6 : Nat)]), some (Blk.mp [Cel.int IntKind.i64] false true x.n (hasC x.gv x.sn) (valC x.f x.gv x.sn)), some (Blk.row
    [AV.v (Value.int IntKind.i64 x.f), AV.hs (8 : Nat) (0 : Nat) (List.length x.gv), AV.hs (9 : Nat) (0 : Nat) (List.length x.sn)]), some (Blk.arr (11 : Nat) (List.length (x.gv ++ x.jg))
    (lsF Sh.c (x.gv ++ x.jg))), some (Blk.arr (1 : Nat) (List.length (x.sn ++ x.js)) (lsF I64.c (x.sn ++ x.js)))])) := by kernel_rfl
theorem qc70 (x : X3) (hs : x.sn.length ≤ 100000) (hg : x.gv.length ≤ 100000) (hv : badV (x.acts.getD x.i default).v) : roundE (P := Tryd.prog) (Γ := Γc) [CT.at 11 (ansChoBad (w := (x.acts.getD x.i default).w) (f := x.f) (gv := x.gv) (sn := x.sn) (n := x.n) hv), CT.at 12 (ansChoRBad (x := x.K) (w := (x.acts.getD x.i default).w) hs hg hv), CT.at 18 (ansSeen (v := (x.acts.getD x.i default).v) (f := x.f) (gv := x.gv) (sn := x.sn) (n := x.n)), CT.at 19 (ansWas (x := x.K) (v := (x.acts.getD x.i default).v) hs)] Lno false 0 0 lp3 lv3 nl3 161 (S31 x).1 (S31 x).2 =
  Tree.br (bif decide ((↑x.i : Int) < (↑(List.length x.acts) : Int)) then true else false) (Tree.chk (decide ((0 : Int) ≤ (↑x.i : Int)) && decide ((↑x.i : Int) < (↑(List.length x.acts) :
    Int))) (Tree.br (decide ((List.getD x.acts x.i default).k = (0 : Int))) (Tree.chk (cl (LeL [AV.ptr (0 : Nat) (0 : Nat), AV.v (Value.int IntKind.i64 (List.getD x.acts x.i default).v),
    AV.v (Value.int IntKind.i64 (List.getD x.acts x.i default).w)] [AV.ptr (0 : Nat) (0 : Nat), AV.v (Value.int IntKind.i64 (List.getD x.acts x.i default).v), AV.v (Value.int IntKind.i64
    (List.getD x.acts x.i default).w)] ∧ LeH [some (Blk.row [AV.v (Value.int IntKind.i64 x.f), AV.map (1 : Nat)]), some (Blk.mp [Cel.int IntKind.i64] false true x.n (hasC x.gv x.sn) (valC
    x.f x.gv x.sn))] [some (Blk.row [AV.v (Value.int IntKind.i64 x.f), AV.map (1 : Nat)]), some (Blk.mp [Cel.int IntKind.i64] false true x.n (hasC x.gv x.sn) (valC x.f x.gv x.sn))]))
    (Tree.chk (cl (LeL [AV.ptr (0 : Nat) (0 : Nat), AV.v (Value.int IntKind.i64 (List.getD x.acts x.i default).v), AV.v (Value.int IntKind.i64 (List.getD x.acts x.i default).w)] [AV.ptr (0 :
    Nat) (0 : Nat), AV.v (Value.int IntKind.i64 (List.getD x.acts x.i default).v), AV.v (Value.int IntKind.i64 (List.getD x.acts x.i default).w)] ∧ LeH [some (Blk.row [AV.v (Value.int
    IntKind.i64 x.f), AV.hs (1 : Nat) (0 : Nat) (List.length x.gv), AV.hs (2 : Nat) (0 : Nat) (List.length x.sn)]), some (Blk.arr (11 : Nat) (List.length (x.gv ++ x.jg)) (lsF Sh.c (x.gv ++
    x.jg))), some (Blk.arr (1 : Nat) (List.length (x.sn ++ x.js)) (lsF I64.c (x.sn ++ x.js)))] [some (Blk.row [AV.v (Value.int IntKind.i64 x.f), AV.hs (1 : Nat) (0 : Nat) (List.length (X3.K
    x).gv), AV.hs (2 : Nat) (0 : Nat) (List.length (X3.K x).sn)]), some (Blk.arr (11 : Nat) (List.length ((X3.K x).gv ++ (X3.K x).jg)) (lsF Sh.c ((X3.K x).gv ++ (X3.K x).jg))), some (Blk.arr
    (1 : Nat) (List.length ((X3.K x).sn ++ (X3.K x).js)) (lsF I64.c ((X3.K x).sn ++ (X3.K x).js)))])) (Tree.br false (Tree.leaf (Out.mk AEx.ret [AV.sl (4 : Nat) (List.length x.acts) (lsF
    Ac.c x.acts), AV.ptr (0 : Nat) (0 : Nat), AV.ptr (3 : Nat) (0 : Nat), AV.ptr (5 : Nat) (0 : Nat), AV.ptr (7 : Nat) (0 : Nat), AV.v (Value.int IntKind.i64 (↑x.i : Int)), AV.v (Value.bool
    false)] [some (Blk.row [AV.v (Value.int IntKind.i64 x.o), AV.v (Value.int IntKind.u32 x.bad), AV.map (1 : Nat), AV.hs (2 : Nat) (0 : Nat) (List.length x.l)]), some (Blk.mp [Cel.int
    IntKind.i64, Cel.int IntKind.i64, Cel.int IntKind.i64, Cel.int IntKind.i64, Cel.int IntKind.i64, Cel.int IntKind.i64, Cel.int IntKind.i64, Cel.int IntKind.i64, Cel.int IntKind.i64,
    Cel.int IntKind.i64, Cel.int IntKind.i64] true false (List.length x.l) (hasS x.l) anyV), some (Blk.arr (11 : Nat) (List.length (x.l ++ x.j)) (lsF Sh.c (x.l ++ x.j))), some (Blk.row [AV.v
    (Value.int IntKind.i64 x.o), AV.v (Value.int IntKind.u32 x.bad), AV.hs (4 : Nat) (0 : Nat) (List.length x.l)]), some (Blk.arr (11 : Nat) (List.length (x.l ++ x.j')) (lsF Sh.c (x.l ++
    x.j'))), some (Blk.row [AV.v (Value.int IntKind.i64 x.f), AV.map (6 : Nat)]), some (Blk.mp [Cel.int IntKind.i64] false true x.n (hasC x.gv x.sn) (valC x.f x.gv x.sn)), some (Blk.row
    [AV.v (Value.int IntKind.i64 x.f), AV.hs (8 : Nat) (0 : Nat) (List.length (X3.K x).gv), AV.hs (9 : Nat) (0 : Nat) (List.length (X3.K x).sn)]), some (Blk.arr (11 : Nat) (List.length
    ((X3.K x).gv ++ (X3.K x).jg)) (lsF Sh.c ((X3.K x).gv ++ (X3.K x).jg))), some (Blk.arr (1 : Nat) (List.length ((X3.K x).sn ++ (X3.K x).js)) (lsF I64.c ((X3.K x).sn ++ (X3.K x).js)))]))
    (Tree.chk (cl (LeL [AV.ptr (0 : Nat) (0 : Nat), AV.v (Value.int IntKind.i64 (List.getD x.acts x.i default).v)] [AV.ptr (0 : Nat) (0 : Nat), AV.v (Value.int IntKind.i64 (List.getD x.acts
    x.i default).v)] ∧ LeH [some (Blk.row [AV.v (Value.int IntKind.i64 x.f), AV.map (1 : Nat)]), some (Blk.mp [Cel.int IntKind.i64] false true x.n (hasC x.gv x.sn) (valC x.f x.gv x.sn))]
    [some (Blk.row [AV.v (Value.int IntKind.i64 x.f), AV.map (1 : Nat)]), some (Blk.mp [Cel.int IntKind.i64] false true x.n (hasC x.gv x.sn) (valC x.f x.gv x.sn))])) (Tree.chk (cl (LeL
    [AV.ptr (0 : Nat) (0 : Nat), AV.v (Value.int IntKind.i64 (List.getD x.acts x.i default).v)] [AV.ptr (0 : Nat) (0 : Nat), AV.v (Value.int IntKind.i64 (List.getD x.acts x.i default).v)] ∧
    LeH [some (Blk.row [AV.v (Value.int IntKind.i64 x.f), AV.hs (1 : Nat) (0 : Nat) (List.length (X3.K x).gv), AV.hs (2 : Nat) (0 : Nat) (List.length (X3.K x).sn)]), some (Blk.arr (11 : Nat)
    (List.length ((X3.K x).gv ++ (X3.K x).jg)) (lsF Sh.c ((X3.K x).gv ++ (X3.K x).jg))), some (Blk.arr (1 : Nat) (List.length ((X3.K x).sn ++ (X3.K x).js)) (lsF I64.c ((X3.K x).sn ++ (X3.K
    x).js)))] [some (Blk.row [AV.v (Value.int IntKind.i64 x.f), AV.hs (1 : Nat) (0 : Nat) (List.length (X3.K x).gv), AV.hs (2 : Nat) (0 : Nat) (List.length (X3.K x).sn)]), some (Blk.arr (11
    : Nat) (List.length ((X3.K x).gv ++ (X3.K x).jg)) (lsF Sh.c ((X3.K x).gv ++ (X3.K x).jg))), some (Blk.arr (1 : Nat) (List.length ((X3.K x).sn ++ (X3.K x).js)) (lsF I64.c ((X3.K x).sn ++
    (X3.K x).js)))])) (Tree.br (!snB x.sn (List.getD x.acts x.i default).v == snB (X3.K x).sn (List.getD x.acts x.i default).v) (Tree.leaf (Out.mk AEx.ret [AV.sl (4 : Nat) (List.length
    x.acts) (lsF Ac.c x.acts), AV.ptr (0 : Nat) (0 : Nat), AV.ptr (3 : Nat) (0 : Nat), AV.ptr (5 : Nat) (0 : Nat), AV.ptr (7 : Nat) (0 : Nat), AV.v (Value.int IntKind.i64 (↑x.i : Int)), AV.v
    (Value.bool false)] [some (Blk.row [AV.v (Value.int IntKind.i64 x.o), AV.v (Value.int IntKind.u32 x.bad), AV.map (1 : Nat), AV.hs (2 : Nat) (0 : Nat) (List.length x.l)]), some (Blk.mp
    [Cel.int IntKind.i64, Cel.int IntKind.i64, Cel.int IntKind.i64, Cel.int IntKind.i64, Cel.int IntKind.i64, Cel.int IntKind.i64, Cel.int IntKind.i64, Cel.int IntKind.i64, Cel.int
    IntKind.i64, Cel.int IntKind.i64, Cel.int IntKind.i64] true false (List.length x.l) (hasS x.l) anyV), some (Blk.arr (11 : Nat) (List.length (x.l ++ x.j)) (lsF Sh.c (x.l ++ x.j))), some
    (Blk.row [AV.v (Value.int IntKind.i64 x.o), AV.v (Value.int IntKind.u32 x.bad), AV.hs (4 : Nat) (0 : Nat) (List.length x.l)]), some (Blk.arr (11 : Nat) (List.length (x.l ++ x.j')) (lsF
    Sh.c (x.l ++ x.j'))), some (Blk.row [AV.v (Value.int IntKind.i64 x.f), AV.map (6 : Nat)]), some (Blk.mp [Cel.int IntKind.i64] false true x.n (hasC x.gv x.sn) (valC x.f x.gv x.sn)), some
    (Blk.row [AV.v (Value.int IntKind.i64 x.f), AV.hs (8 : Nat) (0 : Nat) (List.length (X3.K x).gv), AV.hs (9 : Nat) (0 : Nat) (List.length (X3.K x).sn)]), some (Blk.arr (11 : Nat)
    (List.length ((X3.K x).gv ++ (X3.K x).jg)) (lsF Sh.c ((X3.K x).gv ++ (X3.K x).jg))), some (Blk.arr (1 : Nat) (List.length ((X3.K x).sn ++ (X3.K x).js)) (lsF I64.c ((X3.K x).sn ++ (X3.K
    x).js)))])) (Tree.leaf (Out.mk AEx.normal [AV.sl (4 : Nat) (List.length x.acts) (lsF Ac.c x.acts), AV.ptr (0 : Nat) (0 : Nat), AV.ptr (3 : Nat) (0 : Nat), AV.ptr (5 : Nat) (0 : Nat),
    AV.ptr (7 : Nat) (0 : Nat), AV.v (Value.int IntKind.i64 (IntKind.wrap IntKind.i64 ((↑x.i : Int) + (1 : Int)))), AV.any] [some (Blk.row [AV.v (Value.int IntKind.i64 x.o), AV.v (Value.int
    IntKind.u32 x.bad), AV.map (1 : Nat), AV.hs (2 : Nat) (0 : Nat) (List.length x.l)]), some (Blk.mp [Cel.int IntKind.i64, Cel.int IntKind.i64, Cel.int IntKind.i64, Cel.int IntKind.i64,
    Cel.int IntKind.i64, Cel.int IntKind.i64, Cel.int IntKind.i64, Cel.int IntKind.i64, Cel.int IntKind.i64, Cel.int IntKind.i64, Cel.int IntKind.i64] true false (List.length x.l) (hasS x.l)
    anyV), some (Blk.arr (11 : Nat) (List.length (x.l ++ x.j)) (lsF Sh.c (x.l ++ x.j))), some (Blk.row [AV.v (Value.int IntKind.i64 x.o), AV.v (Value.int IntKind.u32 x.bad), AV.hs (4 : Nat)
    (0 : Nat) (List.length x.l)]), some (Blk.arr (11 : Nat) (List.length (x.l ++ x.j')) (lsF Sh.c (x.l ++ x.j'))), some (Blk.row [AV.v (Value.int IntKind.i64 x.f), AV.map (6 : Nat)]), some
    (Blk.mp [Cel.int IntKind.i64] false true x.n (hasC x.gv x.sn) (valC x.f x.gv x.sn)), some (Blk.row [AV.v (Value.int IntKind.i64 x.f), AV.hs (8 : Nat) (0 : Nat) (List.length (X3.K x).gv),
    AV.hs (9 : Nat) (0 : Nat) (List.length (X3.K x).sn)]), some (Blk.arr (11 : Nat) (List.length ((X3.K x).gv ++ (X3.K x).jg)) (lsF Sh.c ((X3.K x).gv ++ (X3.K x).jg))), some (Blk.arr (1 :
    Nat) (List.length ((X3.K x).sn ++ (X3.K x).js)) (lsF I64.c ((X3.K x).sn ++ (X3.K x).js)))])))))))) (Tree.br (decide ((List.getD x.acts x.i default).k = (1 : Int))) Tree.fail (Tree.br
    (decide ((List.getD x.acts x.i default).k = (2 : Int))) Tree.fail (Tree.chk (cl (LeL [AV.ptr (0 : Nat) (0 : Nat), AV.v (Value.int IntKind.i64 (List.getD x.acts x.i default).v)] [AV.ptr
    (0 : Nat) (0 : Nat), AV.v (Value.int IntKind.i64 (List.getD x.acts x.i default).v)] ∧ LeH [some (Blk.row [AV.v (Value.int IntKind.i64 x.f), AV.map (1 : Nat)]), some (Blk.mp [Cel.int
    IntKind.i64] false true x.n (hasC x.gv x.sn) (valC x.f x.gv x.sn))] [some (Blk.row [AV.v (Value.int IntKind.i64 x.f), AV.map (1 : Nat)]), some (Blk.mp [Cel.int IntKind.i64] false true
    x.n (hasC x.gv x.sn) (valC x.f x.gv x.sn))])) (Tree.chk (cl (LeL [AV.ptr (0 : Nat) (0 : Nat), AV.v (Value.int IntKind.i64 (List.getD x.acts x.i default).v)] [AV.ptr (0 : Nat) (0 : Nat),
    AV.v (Value.int IntKind.i64 (List.getD x.acts x.i default).v)] ∧ LeH [some (Blk.row [AV.v (Value.int IntKind.i64 x.f), AV.hs (1 : Nat) (0 : Nat) (List.length x.gv), AV.hs (2 : Nat) (0 :
    Nat) (List.length x.sn)]), some (Blk.arr (11 : Nat) (List.length (x.gv ++ x.jg)) (lsF Sh.c (x.gv ++ x.jg))), some (Blk.arr (1 : Nat) (List.length (x.sn ++ x.js)) (lsF I64.c (x.sn ++
    x.js)))] [some (Blk.row [AV.v (Value.int IntKind.i64 x.f), AV.hs (1 : Nat) (0 : Nat) (List.length (X3.K x).gv), AV.hs (2 : Nat) (0 : Nat) (List.length (X3.K x).sn)]), some (Blk.arr (11 :
    Nat) (List.length ((X3.K x).gv ++ (X3.K x).jg)) (lsF Sh.c ((X3.K x).gv ++ (X3.K x).jg))), some (Blk.arr (1 : Nat) (List.length ((X3.K x).sn ++ (X3.K x).js)) (lsF I64.c ((X3.K x).sn ++
    (X3.K x).js)))])) (Tree.br (!snB x.sn (List.getD x.acts x.i default).v == snB (X3.K x).sn (List.getD x.acts x.i default).v) (Tree.leaf (Out.mk AEx.ret [AV.sl (4 : Nat) (List.length
    x.acts) (lsF Ac.c x.acts), AV.ptr (0 : Nat) (0 : Nat), AV.ptr (3 : Nat) (0 : Nat), AV.ptr (5 : Nat) (0 : Nat), AV.ptr (7 : Nat) (0 : Nat), AV.v (Value.int IntKind.i64 (↑x.i : Int)), AV.v
    (Value.bool false)] [some (Blk.row [AV.v (Value.int IntKind.i64 x.o), AV.v (Value.int IntKind.u32 x.bad), AV.map (1 : Nat), AV.hs (2 : Nat) (0 : Nat) (List.length x.l)]), some (Blk.mp
    [Cel.int IntKind.i64, Cel.int IntKind.i64, Cel.int IntKind.i64, Cel.int IntKind.i64, Cel.int IntKind.i64, Cel.int IntKind.i64, Cel.int IntKind.i64, Cel.int IntKind.i64, Cel.int
    IntKind.i64, Cel.int IntKind.i64, Cel.int IntKind.i64] true false (List.length x.l) (hasS x.l) anyV), some (Blk.arr (11 : Nat) (List.length (x.l ++ x.j)) (lsF Sh.c (x.l ++ x.j))), some
    (Blk.row [AV.v (Value.int IntKind.i64 x.o), AV.v (Value.int IntKind.u32 x.bad), AV.hs (4 : Nat) (0 : Nat) (List.length x.l)]), some (Blk.arr (11 : Nat) (List.length (x.l ++ x.j')) (lsF
    Sh.c (x.l ++ x.j'))), some (Blk.row [AV.v (Value.int IntKind.i64 x.f), AV.map (6 : Nat)]), some (Blk.mp [Cel.int IntKind.i64] false true x.n (hasC x.gv x.sn) (valC x.f x.gv x.sn)), some
    (Blk.row [AV.v (Value.int IntKind.i64 x.f), AV.hs (8 : Nat) (0 : Nat) (List.length (X3.K x).gv), AV.hs (9 : Nat) (0 : Nat) (List.length (X3.K x).sn)]), some (Blk.arr (11 : Nat)
    (List.length ((X3.K x).gv ++ (X3.K x).jg)) (lsF Sh.c ((X3.K x).gv ++ (X3.K x).jg))), some (Blk.arr (1 : Nat) (List.length ((X3.K x).sn ++ (X3.K x).js)) (lsF I64.c ((X3.K x).sn ++ (X3.K
    x).js)))])) (Tree.leaf (Out.mk AEx.normal [AV.sl (4 : Nat) (List.length x.acts) (lsF Ac.c x.acts), AV.ptr (0 : Nat) (0 : Nat), AV.ptr (3 : Nat) (0 : Nat), AV.ptr (5 : Nat) (0 : Nat),
    AV.ptr (7 : Nat) (0 : Nat), AV.v (Value.int IntKind.i64 (IntKind.wrap IntKind.i64 ((↑x.i : Int) + (1 : Int)))), AV.any] [some (Blk.row [AV.v (Value.int IntKind.i64 x.o), AV.v (Value.int
    IntKind.u32 x.bad), AV.map (1 : Nat), AV.hs (2 : Nat) (0 : Nat) (List.length x.l)]), some (Blk.mp [Cel.int IntKind.i64, Cel.int IntKind.i64, Cel.int IntKind.i64, Cel.int IntKind.i64,
    Cel.int IntKind.i64, Cel.int IntKind.i64, Cel.int IntKind.i64, Cel.int IntKind.i64, Cel.int IntKind.i64, Cel.int IntKind.i64, Cel.int IntKind.i64] true false (List.length x.l) (hasS x.l)
    anyV), some (Blk.arr (11 : Nat) (List.length (x.l ++ x.j)) (lsF Sh.c (x.l ++ x.j))), some (Blk.row [AV.v (Value.int IntKind.i64 x.o), AV.v (Value.int IntKind.u32 x.bad), AV.hs (4 : Nat)
    (0 : Nat) (List.length x.l)]), some (Blk.arr (11 : Nat) (List.length (x.l ++ x.j')) (lsF Sh.c (x.l ++ x.j'))), some (Blk.row [AV.v (Value.int IntKind.i64 x.f), AV.map (6 : Nat)]), some
    (Blk.mp [Cel.int IntKind.i64] false true x.n (hasC x.gv x.sn) (valC x.f x.gv x.sn)), some (Blk.row [AV.v (Value.int IntKind.i64 x.f), AV.hs (8 : Nat) (0 : Nat) (List.length (X3.K x).gv),
    AV.hs (9 : Nat) (0 : Nat) (List.length (X3.K x).sn)]), some (Blk.arr (11 : Nat) (List.length ((X3.K x).gv ++ (X3.K x).jg)) (lsF Sh.c ((X3.K x).gv ++ (X3.K x).jg))), some (Blk.arr (1 :
    Nat) (List.length ((X3.K x).sn ++ (X3.K x).js)) (lsF I64.c ((X3.K x).sn ++ (X3.K x).js)))]))))))))) (Tree.leaf (Out.mk (AEx.exit (0 : Nat)) [AV.sl (4 : Nat) (List.length x.acts) (lsF
    Ac.c x.acts), AV.ptr (0 : Nat) (0 : Nat), AV.ptr (3 : Nat) (0 : Nat), AV.ptr (5 : Nat) (0 : Nat), AV.ptr (7 : Nat) (0 : Nat), AV.v (Value.int IntKind.i64 (↑x.i : Int)), AV.any] [some
    (Blk.row [AV.v (Value.int IntKind.i64 x.o), AV.v (Value.int IntKind.u32 x.bad), AV.map (1 : Nat), AV.hs (2 : Nat) (0 : Nat) (List.length x.l)]), some (Blk.mp [Cel.int IntKind.i64,
    Cel.int IntKind.i64, Cel.int IntKind.i64, Cel.int IntKind.i64, Cel.int IntKind.i64, Cel.int IntKind.i64, Cel.int IntKind.i64, Cel.int IntKind.i64, Cel.int IntKind.i64, Cel.int
    IntKind.i64, Cel.int IntKind.i64] true false (List.length x.l) (hasS x.l) anyV), some (Blk.arr (11 : Nat) (List.length (x.l ++ x.j)) (lsF Sh.c (x.l ++ x.j))), some (Blk.row [AV.v
    (Value.int IntKind.i64 x.o), AV.v (Value.int IntKind.u32 x.bad), AV.hs (4 : Nat) (0 : Nat) (List.length x.l)]), some (Blk.arr (11 : Nat) (List.length (x.l ++ x.j')) (lsF Sh.c (x.l ++
    x.j'))), some (Blk.row [AV.v (Value.int IntKind.i64 x.f), AV.map (6 : Nat)]), some (Blk.mp [Cel.int IntKind.i64] false true x.n (hasC x.gv x.sn) (valC x.f x.gv x.sn)), some (Blk.row
    [AV.v (Value.int IntKind.i64 x.f), AV.hs (8 : Nat) (0 : Nat) (List.length x.gv), AV.hs (9 : Nat) (0 : Nat) (List.length x.sn)]), some (Blk.arr (11 : Nat) (List.length (x.gv ++ x.jg))
    (lsF Sh.c (x.gv ++ x.jg))), some (Blk.arr (1 : Nat) (List.length (x.sn ++ x.js)) (lsF I64.c (x.sn ++ x.js)))])) := by kernel_rfl
theorem qcOut (x : X3) (hs : x.sn.length ≤ 100000) (hg : x.gv.length ≤ 100000) (hv : ¬ badV (x.acts.getD x.i default).v) (hw : (x.acts.getD x.i default).w < 0 ∨ timesF 3 x.f ≤ (x.acts.getD x.i default).w) : roundE (P := Tryd.prog) (Γ := Γc) [CT.at 11 (ansChoOut (f := x.f) (gv := x.gv) (sn := x.sn) (n := x.n) hv hw), CT.at 12 (ansChoROut (x := x.K) hs hg hv hw), CT.at 18 (ansSeen (v := (x.acts.getD x.i default).v) (f := x.f) (gv := x.gv) (sn := x.sn) (n := x.n)), CT.at 19 (ansWas (x := x.K) (v := (x.acts.getD x.i default).v) hs)] Lno false 0 0 lp3 lv3 nl3 161 (S31 x).1 (S31 x).2 =
  Tree.br (bif decide ((↑x.i : Int) < (↑(List.length x.acts) : Int)) then true else false) (Tree.chk (decide ((0 : Int) ≤ (↑x.i : Int)) && decide ((↑x.i : Int) < (↑(List.length x.acts) :
    Int))) (Tree.br (decide ((List.getD x.acts x.i default).k = (0 : Int))) (Tree.chk (cl (LeL [AV.ptr (0 : Nat) (0 : Nat), AV.v (Value.int IntKind.i64 (List.getD x.acts x.i default).v),
    AV.v (Value.int IntKind.i64 (List.getD x.acts x.i default).w)] [AV.ptr (0 : Nat) (0 : Nat), AV.v (Value.int IntKind.i64 (List.getD x.acts x.i default).v), AV.v (Value.int IntKind.i64
    (List.getD x.acts x.i default).w)] ∧ LeH [some (Blk.row [AV.v (Value.int IntKind.i64 x.f), AV.map (1 : Nat)]), some (Blk.mp [Cel.int IntKind.i64] false true x.n (hasC x.gv x.sn) (valC
    x.f x.gv x.sn))] [some (Blk.row [AV.v (Value.int IntKind.i64 x.f), AV.map (1 : Nat)]), some (Blk.mp [Cel.int IntKind.i64] false true x.n (hasC x.gv x.sn) (valC x.f x.gv x.sn))]))
    (Tree.chk (cl (LeL [AV.ptr (0 : Nat) (0 : Nat), AV.v (Value.int IntKind.i64 (List.getD x.acts x.i default).v), AV.v (Value.int IntKind.i64 (List.getD x.acts x.i default).w)] [AV.ptr (0 :
    Nat) (0 : Nat), AV.v (Value.int IntKind.i64 (List.getD x.acts x.i default).v), AV.v (Value.int IntKind.i64 (List.getD x.acts x.i default).w)] ∧ LeH [some (Blk.row [AV.v (Value.int
    IntKind.i64 x.f), AV.hs (1 : Nat) (0 : Nat) (List.length x.gv), AV.hs (2 : Nat) (0 : Nat) (List.length x.sn)]), some (Blk.arr (11 : Nat) (List.length (x.gv ++ x.jg)) (lsF Sh.c (x.gv ++
    x.jg))), some (Blk.arr (1 : Nat) (List.length (x.sn ++ x.js)) (lsF I64.c (x.sn ++ x.js)))] [some (Blk.row [AV.v (Value.int IntKind.i64 x.f), AV.hs (1 : Nat) (0 : Nat) (List.length (X3.K
    x).gv), AV.hs (2 : Nat) (0 : Nat) (List.length (X3.K x).sn)]), some (Blk.arr (11 : Nat) (List.length ((X3.K x).gv ++ (X3.K x).jg)) (lsF Sh.c ((X3.K x).gv ++ (X3.K x).jg))), some (Blk.arr
    (1 : Nat) (List.length ((X3.K x).sn ++ (X3.K x).js)) (lsF I64.c ((X3.K x).sn ++ (X3.K x).js)))])) (Tree.br false (Tree.leaf (Out.mk AEx.ret [AV.sl (4 : Nat) (List.length x.acts) (lsF
    Ac.c x.acts), AV.ptr (0 : Nat) (0 : Nat), AV.ptr (3 : Nat) (0 : Nat), AV.ptr (5 : Nat) (0 : Nat), AV.ptr (7 : Nat) (0 : Nat), AV.v (Value.int IntKind.i64 (↑x.i : Int)), AV.v (Value.bool
    false)] [some (Blk.row [AV.v (Value.int IntKind.i64 x.o), AV.v (Value.int IntKind.u32 x.bad), AV.map (1 : Nat), AV.hs (2 : Nat) (0 : Nat) (List.length x.l)]), some (Blk.mp [Cel.int
    IntKind.i64, Cel.int IntKind.i64, Cel.int IntKind.i64, Cel.int IntKind.i64, Cel.int IntKind.i64, Cel.int IntKind.i64, Cel.int IntKind.i64, Cel.int IntKind.i64, Cel.int IntKind.i64,
    Cel.int IntKind.i64, Cel.int IntKind.i64] true false (List.length x.l) (hasS x.l) anyV), some (Blk.arr (11 : Nat) (List.length (x.l ++ x.j)) (lsF Sh.c (x.l ++ x.j))), some (Blk.row [AV.v
    (Value.int IntKind.i64 x.o), AV.v (Value.int IntKind.u32 x.bad), AV.hs (4 : Nat) (0 : Nat) (List.length x.l)]), some (Blk.arr (11 : Nat) (List.length (x.l ++ x.j')) (lsF Sh.c (x.l ++
    x.j'))), some (Blk.row [AV.v (Value.int IntKind.i64 x.f), AV.map (6 : Nat)]), some (Blk.mp [Cel.int IntKind.i64] false true x.n (hasC x.gv x.sn) (valC x.f x.gv x.sn)), some (Blk.row
    [AV.v (Value.int IntKind.i64 x.f), AV.hs (8 : Nat) (0 : Nat) (List.length (X3.K x).gv), AV.hs (9 : Nat) (0 : Nat) (List.length (X3.K x).sn)]), some (Blk.arr (11 : Nat) (List.length
    ((X3.K x).gv ++ (X3.K x).jg)) (lsF Sh.c ((X3.K x).gv ++ (X3.K x).jg))), some (Blk.arr (1 : Nat) (List.length ((X3.K x).sn ++ (X3.K x).js)) (lsF I64.c ((X3.K x).sn ++ (X3.K x).js)))]))
    (Tree.chk (cl (LeL [AV.ptr (0 : Nat) (0 : Nat), AV.v (Value.int IntKind.i64 (List.getD x.acts x.i default).v)] [AV.ptr (0 : Nat) (0 : Nat), AV.v (Value.int IntKind.i64 (List.getD x.acts
    x.i default).v)] ∧ LeH [some (Blk.row [AV.v (Value.int IntKind.i64 x.f), AV.map (1 : Nat)]), some (Blk.mp [Cel.int IntKind.i64] false true x.n (hasC x.gv x.sn) (valC x.f x.gv x.sn))]
    [some (Blk.row [AV.v (Value.int IntKind.i64 x.f), AV.map (1 : Nat)]), some (Blk.mp [Cel.int IntKind.i64] false true x.n (hasC x.gv x.sn) (valC x.f x.gv x.sn))])) (Tree.chk (cl (LeL
    [AV.ptr (0 : Nat) (0 : Nat), AV.v (Value.int IntKind.i64 (List.getD x.acts x.i default).v)] [AV.ptr (0 : Nat) (0 : Nat), AV.v (Value.int IntKind.i64 (List.getD x.acts x.i default).v)] ∧
    LeH [some (Blk.row [AV.v (Value.int IntKind.i64 x.f), AV.hs (1 : Nat) (0 : Nat) (List.length (X3.K x).gv), AV.hs (2 : Nat) (0 : Nat) (List.length (X3.K x).sn)]), some (Blk.arr (11 : Nat)
    (List.length ((X3.K x).gv ++ (X3.K x).jg)) (lsF Sh.c ((X3.K x).gv ++ (X3.K x).jg))), some (Blk.arr (1 : Nat) (List.length ((X3.K x).sn ++ (X3.K x).js)) (lsF I64.c ((X3.K x).sn ++ (X3.K
    x).js)))] [some (Blk.row [AV.v (Value.int IntKind.i64 x.f), AV.hs (1 : Nat) (0 : Nat) (List.length (X3.K x).gv), AV.hs (2 : Nat) (0 : Nat) (List.length (X3.K x).sn)]), some (Blk.arr (11
    : Nat) (List.length ((X3.K x).gv ++ (X3.K x).jg)) (lsF Sh.c ((X3.K x).gv ++ (X3.K x).jg))), some (Blk.arr (1 : Nat) (List.length ((X3.K x).sn ++ (X3.K x).js)) (lsF I64.c ((X3.K x).sn ++
    (X3.K x).js)))])) (Tree.br (!snB x.sn (List.getD x.acts x.i default).v == snB (X3.K x).sn (List.getD x.acts x.i default).v) (Tree.leaf (Out.mk AEx.ret [AV.sl (4 : Nat) (List.length
    x.acts) (lsF Ac.c x.acts), AV.ptr (0 : Nat) (0 : Nat), AV.ptr (3 : Nat) (0 : Nat), AV.ptr (5 : Nat) (0 : Nat), AV.ptr (7 : Nat) (0 : Nat), AV.v (Value.int IntKind.i64 (↑x.i : Int)), AV.v
    (Value.bool false)] [some (Blk.row [AV.v (Value.int IntKind.i64 x.o), AV.v (Value.int IntKind.u32 x.bad), AV.map (1 : Nat), AV.hs (2 : Nat) (0 : Nat) (List.length x.l)]), some (Blk.mp
    [Cel.int IntKind.i64, Cel.int IntKind.i64, Cel.int IntKind.i64, Cel.int IntKind.i64, Cel.int IntKind.i64, Cel.int IntKind.i64, Cel.int IntKind.i64, Cel.int IntKind.i64, Cel.int
    IntKind.i64, Cel.int IntKind.i64, Cel.int IntKind.i64] true false (List.length x.l) (hasS x.l) anyV), some (Blk.arr (11 : Nat) (List.length (x.l ++ x.j)) (lsF Sh.c (x.l ++ x.j))), some
    (Blk.row [AV.v (Value.int IntKind.i64 x.o), AV.v (Value.int IntKind.u32 x.bad), AV.hs (4 : Nat) (0 : Nat) (List.length x.l)]), some (Blk.arr (11 : Nat) (List.length (x.l ++ x.j')) (lsF
    Sh.c (x.l ++ x.j'))), some (Blk.row [AV.v (Value.int IntKind.i64 x.f), AV.map (6 : Nat)]), some (Blk.mp [Cel.int IntKind.i64] false true x.n (hasC x.gv x.sn) (valC x.f x.gv x.sn)), some
    (Blk.row [AV.v (Value.int IntKind.i64 x.f), AV.hs (8 : Nat) (0 : Nat) (List.length (X3.K x).gv), AV.hs (9 : Nat) (0 : Nat) (List.length (X3.K x).sn)]), some (Blk.arr (11 : Nat)
    (List.length ((X3.K x).gv ++ (X3.K x).jg)) (lsF Sh.c ((X3.K x).gv ++ (X3.K x).jg))), some (Blk.arr (1 : Nat) (List.length ((X3.K x).sn ++ (X3.K x).js)) (lsF I64.c ((X3.K x).sn ++ (X3.K
    x).js)))])) (Tree.leaf (Out.mk AEx.normal [AV.sl (4 : Nat) (List.length x.acts) (lsF Ac.c x.acts), AV.ptr (0 : Nat) (0 : Nat), AV.ptr (3 : Nat) (0 : Nat), AV.ptr (5 : Nat) (0 : Nat),
    AV.ptr (7 : Nat) (0 : Nat), AV.v (Value.int IntKind.i64 (IntKind.wrap IntKind.i64 ((↑x.i : Int) + (1 : Int)))), AV.any] [some (Blk.row [AV.v (Value.int IntKind.i64 x.o), AV.v (Value.int
    IntKind.u32 x.bad), AV.map (1 : Nat), AV.hs (2 : Nat) (0 : Nat) (List.length x.l)]), some (Blk.mp [Cel.int IntKind.i64, Cel.int IntKind.i64, Cel.int IntKind.i64, Cel.int IntKind.i64,
    Cel.int IntKind.i64, Cel.int IntKind.i64, Cel.int IntKind.i64, Cel.int IntKind.i64, Cel.int IntKind.i64, Cel.int IntKind.i64, Cel.int IntKind.i64] true false (List.length x.l) (hasS x.l)
    anyV), some (Blk.arr (11 : Nat) (List.length (x.l ++ x.j)) (lsF Sh.c (x.l ++ x.j))), some (Blk.row [AV.v (Value.int IntKind.i64 x.o), AV.v (Value.int IntKind.u32 x.bad), AV.hs (4 : Nat)
    (0 : Nat) (List.length x.l)]), some (Blk.arr (11 : Nat) (List.length (x.l ++ x.j')) (lsF Sh.c (x.l ++ x.j'))), some (Blk.row [AV.v (Value.int IntKind.i64 x.f), AV.map (6 : Nat)]), some
    (Blk.mp [Cel.int IntKind.i64] false true x.n (hasC x.gv x.sn) (valC x.f x.gv x.sn)), some (Blk.row [AV.v (Value.int IntKind.i64 x.f), AV.hs (8 : Nat) (0 : Nat) (List.length (X3.K x).gv),
    AV.hs (9 : Nat) (0 : Nat) (List.length (X3.K x).sn)]), some (Blk.arr (11 : Nat) (List.length ((X3.K x).gv ++ (X3.K x).jg)) (lsF Sh.c ((X3.K x).gv ++ (X3.K x).jg))), some (Blk.arr (1 :
    Nat) (List.length ((X3.K x).sn ++ (X3.K x).js)) (lsF I64.c ((X3.K x).sn ++ (X3.K x).js)))])))))))) (Tree.br (decide ((List.getD x.acts x.i default).k = (1 : Int))) Tree.fail (Tree.br
    (decide ((List.getD x.acts x.i default).k = (2 : Int))) Tree.fail (Tree.chk (cl (LeL [AV.ptr (0 : Nat) (0 : Nat), AV.v (Value.int IntKind.i64 (List.getD x.acts x.i default).v)] [AV.ptr
    (0 : Nat) (0 : Nat), AV.v (Value.int IntKind.i64 (List.getD x.acts x.i default).v)] ∧ LeH [some (Blk.row [AV.v (Value.int IntKind.i64 x.f), AV.map (1 : Nat)]), some (Blk.mp [Cel.int
    IntKind.i64] false true x.n (hasC x.gv x.sn) (valC x.f x.gv x.sn))] [some (Blk.row [AV.v (Value.int IntKind.i64 x.f), AV.map (1 : Nat)]), some (Blk.mp [Cel.int IntKind.i64] false true
    x.n (hasC x.gv x.sn) (valC x.f x.gv x.sn))])) (Tree.chk (cl (LeL [AV.ptr (0 : Nat) (0 : Nat), AV.v (Value.int IntKind.i64 (List.getD x.acts x.i default).v)] [AV.ptr (0 : Nat) (0 : Nat),
    AV.v (Value.int IntKind.i64 (List.getD x.acts x.i default).v)] ∧ LeH [some (Blk.row [AV.v (Value.int IntKind.i64 x.f), AV.hs (1 : Nat) (0 : Nat) (List.length x.gv), AV.hs (2 : Nat) (0 :
    Nat) (List.length x.sn)]), some (Blk.arr (11 : Nat) (List.length (x.gv ++ x.jg)) (lsF Sh.c (x.gv ++ x.jg))), some (Blk.arr (1 : Nat) (List.length (x.sn ++ x.js)) (lsF I64.c (x.sn ++
    x.js)))] [some (Blk.row [AV.v (Value.int IntKind.i64 x.f), AV.hs (1 : Nat) (0 : Nat) (List.length (X3.K x).gv), AV.hs (2 : Nat) (0 : Nat) (List.length (X3.K x).sn)]), some (Blk.arr (11 :
    Nat) (List.length ((X3.K x).gv ++ (X3.K x).jg)) (lsF Sh.c ((X3.K x).gv ++ (X3.K x).jg))), some (Blk.arr (1 : Nat) (List.length ((X3.K x).sn ++ (X3.K x).js)) (lsF I64.c ((X3.K x).sn ++
    (X3.K x).js)))])) (Tree.br (!snB x.sn (List.getD x.acts x.i default).v == snB (X3.K x).sn (List.getD x.acts x.i default).v) (Tree.leaf (Out.mk AEx.ret [AV.sl (4 : Nat) (List.length
    x.acts) (lsF Ac.c x.acts), AV.ptr (0 : Nat) (0 : Nat), AV.ptr (3 : Nat) (0 : Nat), AV.ptr (5 : Nat) (0 : Nat), AV.ptr (7 : Nat) (0 : Nat), AV.v (Value.int IntKind.i64 (↑x.i : Int)), AV.v
    (Value.bool false)] [some (Blk.row [AV.v (Value.int IntKind.i64 x.o), AV.v (Value.int IntKind.u32 x.bad), AV.map (1 : Nat), AV.hs (2 : Nat) (0 : Nat) (List.length x.l)]), some (Blk.mp
    [Cel.int IntKind.i64, Cel.int IntKind.i64, Cel.int IntKind.i64, Cel.int IntKind.i64, Cel.int IntKind.i64, Cel.int IntKind.i64, Cel.int IntKind.i64, Cel.int IntKind.i64, Cel.int
    IntKind.i64, Cel.int IntKind.i64, Cel.int IntKind.i64] true false (List.length x.l) (hasS x.l) anyV), some (Blk.arr (11 : Nat) (List.length (x.l ++ x.j)) (lsF Sh.c (x.l ++ x.j))), some
    (Blk.row [AV.v (Value.int IntKind.i64 x.o), AV.v (Value.int IntKind.u32 x.bad), AV.hs (4 : Nat) (0 : Nat) (List.length x.l)]), some (Blk.arr (11 : Nat) (List.length (x.l ++ x.j')) (lsF
    Sh.c (x.l ++ x.j'))), some (Blk.row [AV.v (Value.int IntKind.i64 x.f), AV.map (6 : Nat)]), some (Blk.mp [Cel.int IntKind.i64] false true x.n (hasC x.gv x.sn) (valC x.f x.gv x.sn)), some
    (Blk.row [AV.v (Value.int IntKind.i64 x.f), AV.hs (8 : Nat) (0 : Nat) (List.length (X3.K x).gv), AV.hs (9 : Nat) (0 : Nat) (List.length (X3.K x).sn)]), some (Blk.arr (11 : Nat)
    (List.length ((X3.K x).gv ++ (X3.K x).jg)) (lsF Sh.c ((X3.K x).gv ++ (X3.K x).jg))), some (Blk.arr (1 : Nat) (List.length ((X3.K x).sn ++ (X3.K x).js)) (lsF I64.c ((X3.K x).sn ++ (X3.K
    x).js)))])) (Tree.leaf (Out.mk AEx.normal [AV.sl (4 : Nat) (List.length x.acts) (lsF Ac.c x.acts), AV.ptr (0 : Nat) (0 : Nat), AV.ptr (3 : Nat) (0 : Nat), AV.ptr (5 : Nat) (0 : Nat),
    AV.ptr (7 : Nat) (0 : Nat), AV.v (Value.int IntKind.i64 (IntKind.wrap IntKind.i64 ((↑x.i : Int) + (1 : Int)))), AV.any] [some (Blk.row [AV.v (Value.int IntKind.i64 x.o), AV.v (Value.int
    IntKind.u32 x.bad), AV.map (1 : Nat), AV.hs (2 : Nat) (0 : Nat) (List.length x.l)]), some (Blk.mp [Cel.int IntKind.i64, Cel.int IntKind.i64, Cel.int IntKind.i64, Cel.int IntKind.i64,
    Cel.int IntKind.i64, Cel.int IntKind.i64, Cel.int IntKind.i64, Cel.int IntKind.i64, Cel.int IntKind.i64, Cel.int IntKind.i64, Cel.int IntKind.i64] true false (List.length x.l) (hasS x.l)
    anyV), some (Blk.arr (11 : Nat) (List.length (x.l ++ x.j)) (lsF Sh.c (x.l ++ x.j))), some (Blk.row [AV.v (Value.int IntKind.i64 x.o), AV.v (Value.int IntKind.u32 x.bad), AV.hs (4 : Nat)
    (0 : Nat) (List.length x.l)]), some (Blk.arr (11 : Nat) (List.length (x.l ++ x.j')) (lsF Sh.c (x.l ++ x.j'))), some (Blk.row [AV.v (Value.int IntKind.i64 x.f), AV.map (6 : Nat)]), some
    (Blk.mp [Cel.int IntKind.i64] false true x.n (hasC x.gv x.sn) (valC x.f x.gv x.sn)), some (Blk.row [AV.v (Value.int IntKind.i64 x.f), AV.hs (8 : Nat) (0 : Nat) (List.length (X3.K x).gv),
    AV.hs (9 : Nat) (0 : Nat) (List.length (X3.K x).sn)]), some (Blk.arr (11 : Nat) (List.length ((X3.K x).gv ++ (X3.K x).jg)) (lsF Sh.c ((X3.K x).gv ++ (X3.K x).jg))), some (Blk.arr (1 :
    Nat) (List.length ((X3.K x).sn ++ (X3.K x).js)) (lsF I64.c ((X3.K x).sn ++ (X3.K x).js)))]))))))))) (Tree.leaf (Out.mk (AEx.exit (0 : Nat)) [AV.sl (4 : Nat) (List.length x.acts) (lsF
    Ac.c x.acts), AV.ptr (0 : Nat) (0 : Nat), AV.ptr (3 : Nat) (0 : Nat), AV.ptr (5 : Nat) (0 : Nat), AV.ptr (7 : Nat) (0 : Nat), AV.v (Value.int IntKind.i64 (↑x.i : Int)), AV.any] [some
    (Blk.row [AV.v (Value.int IntKind.i64 x.o), AV.v (Value.int IntKind.u32 x.bad), AV.map (1 : Nat), AV.hs (2 : Nat) (0 : Nat) (List.length x.l)]), some (Blk.mp [Cel.int IntKind.i64,
    Cel.int IntKind.i64, Cel.int IntKind.i64, Cel.int IntKind.i64, Cel.int IntKind.i64, Cel.int IntKind.i64, Cel.int IntKind.i64, Cel.int IntKind.i64, Cel.int IntKind.i64, Cel.int
    IntKind.i64, Cel.int IntKind.i64] true false (List.length x.l) (hasS x.l) anyV), some (Blk.arr (11 : Nat) (List.length (x.l ++ x.j)) (lsF Sh.c (x.l ++ x.j))), some (Blk.row [AV.v
    (Value.int IntKind.i64 x.o), AV.v (Value.int IntKind.u32 x.bad), AV.hs (4 : Nat) (0 : Nat) (List.length x.l)]), some (Blk.arr (11 : Nat) (List.length (x.l ++ x.j')) (lsF Sh.c (x.l ++
    x.j'))), some (Blk.row [AV.v (Value.int IntKind.i64 x.f), AV.map (6 : Nat)]), some (Blk.mp [Cel.int IntKind.i64] false true x.n (hasC x.gv x.sn) (valC x.f x.gv x.sn)), some (Blk.row
    [AV.v (Value.int IntKind.i64 x.f), AV.hs (8 : Nat) (0 : Nat) (List.length x.gv), AV.hs (9 : Nat) (0 : Nat) (List.length x.sn)]), some (Blk.arr (11 : Nat) (List.length (x.gv ++ x.jg))
    (lsF Sh.c (x.gv ++ x.jg))), some (Blk.arr (1 : Nat) (List.length (x.sn ++ x.js)) (lsF I64.c (x.sn ++ x.js)))])) := by kernel_rfl
theorem qcThere (x : X3) (hs : x.sn.length ≤ 100000) (hg : x.gv.length ≤ 100000) (ho : GvOK x.f x.gv) (hv : ¬ badV (x.acts.getD x.i default).v) (hw : ¬ ((x.acts.getD x.i default).w < 0 ∨ timesF 3 x.f ≤ (x.acts.getD x.i default).w)) (ht : gvB x.gv (x.acts.getD x.i default).v = true ∨ snB x.sn (x.acts.getD x.i default).v = true) : roundE (P := Tryd.prog) (Γ := Γc) [CT.at 11 (ansChoThere (f := x.f) (gv := x.gv) (sn := x.sn) (n := x.n) hv hw ht), CT.at 12 (ansChoRThere (x := x.K) hs hg ho hv hw ht), CT.at 18 (ansSeen (v := (x.acts.getD x.i default).v) (f := x.f) (gv := x.gv) (sn := x.sn) (n := x.n)), CT.at 19 (ansWas (x := x.K) (v := (x.acts.getD x.i default).v) hs)] Lno false 0 0 lp3 lv3 nl3 161 (S31 x).1 (S31 x).2 =
  Tree.br (bif decide ((↑x.i : Int) < (↑(List.length x.acts) : Int)) then true else false) (Tree.chk (decide ((0 : Int) ≤ (↑x.i : Int)) && decide ((↑x.i : Int) < (↑(List.length x.acts) :
    Int))) (Tree.br (decide ((List.getD x.acts x.i default).k = (0 : Int))) (Tree.chk (cl (LeL [AV.ptr (0 : Nat) (0 : Nat), AV.v (Value.int IntKind.i64 (List.getD x.acts x.i default).v),
    AV.v (Value.int IntKind.i64 (List.getD x.acts x.i default).w)] [AV.ptr (0 : Nat) (0 : Nat), AV.v (Value.int IntKind.i64 (List.getD x.acts x.i default).v), AV.v (Value.int IntKind.i64
    (List.getD x.acts x.i default).w)] ∧ LeH [some (Blk.row [AV.v (Value.int IntKind.i64 x.f), AV.map (1 : Nat)]), some (Blk.mp [Cel.int IntKind.i64] false true x.n (hasC x.gv x.sn) (valC
    x.f x.gv x.sn))] [some (Blk.row [AV.v (Value.int IntKind.i64 x.f), AV.map (1 : Nat)]), some (Blk.mp [Cel.int IntKind.i64] false true x.n (hasC x.gv x.sn) (valC x.f x.gv x.sn))]))
    (Tree.chk (cl (LeL [AV.ptr (0 : Nat) (0 : Nat), AV.v (Value.int IntKind.i64 (List.getD x.acts x.i default).v), AV.v (Value.int IntKind.i64 (List.getD x.acts x.i default).w)] [AV.ptr (0 :
    Nat) (0 : Nat), AV.v (Value.int IntKind.i64 (List.getD x.acts x.i default).v), AV.v (Value.int IntKind.i64 (List.getD x.acts x.i default).w)] ∧ LeH [some (Blk.row [AV.v (Value.int
    IntKind.i64 x.f), AV.hs (1 : Nat) (0 : Nat) (List.length x.gv), AV.hs (2 : Nat) (0 : Nat) (List.length x.sn)]), some (Blk.arr (11 : Nat) (List.length (x.gv ++ x.jg)) (lsF Sh.c (x.gv ++
    x.jg))), some (Blk.arr (1 : Nat) (List.length (x.sn ++ x.js)) (lsF I64.c (x.sn ++ x.js)))] [some (Blk.row [AV.v (Value.int IntKind.i64 x.f), AV.hs (1 : Nat) (0 : Nat) (List.length (X3.K
    x).gv), AV.hs (2 : Nat) (0 : Nat) (List.length (X3.K x).sn)]), some (Blk.arr (11 : Nat) (List.length ((X3.K x).gv ++ (X3.K x).jg)) (lsF Sh.c ((X3.K x).gv ++ (X3.K x).jg))), some (Blk.arr
    (1 : Nat) (List.length ((X3.K x).sn ++ (X3.K x).js)) (lsF I64.c ((X3.K x).sn ++ (X3.K x).js)))])) (Tree.br false (Tree.leaf (Out.mk AEx.ret [AV.sl (4 : Nat) (List.length x.acts) (lsF
    Ac.c x.acts), AV.ptr (0 : Nat) (0 : Nat), AV.ptr (3 : Nat) (0 : Nat), AV.ptr (5 : Nat) (0 : Nat), AV.ptr (7 : Nat) (0 : Nat), AV.v (Value.int IntKind.i64 (↑x.i : Int)), AV.v (Value.bool
    false)] [some (Blk.row [AV.v (Value.int IntKind.i64 x.o), AV.v (Value.int IntKind.u32 x.bad), AV.map (1 : Nat), AV.hs (2 : Nat) (0 : Nat) (List.length x.l)]), some (Blk.mp [Cel.int
    IntKind.i64, Cel.int IntKind.i64, Cel.int IntKind.i64, Cel.int IntKind.i64, Cel.int IntKind.i64, Cel.int IntKind.i64, Cel.int IntKind.i64, Cel.int IntKind.i64, Cel.int IntKind.i64,
    Cel.int IntKind.i64, Cel.int IntKind.i64] true false (List.length x.l) (hasS x.l) anyV), some (Blk.arr (11 : Nat) (List.length (x.l ++ x.j)) (lsF Sh.c (x.l ++ x.j))), some (Blk.row [AV.v
    (Value.int IntKind.i64 x.o), AV.v (Value.int IntKind.u32 x.bad), AV.hs (4 : Nat) (0 : Nat) (List.length x.l)]), some (Blk.arr (11 : Nat) (List.length (x.l ++ x.j')) (lsF Sh.c (x.l ++
    x.j'))), some (Blk.row [AV.v (Value.int IntKind.i64 x.f), AV.map (6 : Nat)]), some (Blk.mp [Cel.int IntKind.i64] false true x.n (hasC x.gv x.sn) (valC x.f x.gv x.sn)), some (Blk.row
    [AV.v (Value.int IntKind.i64 x.f), AV.hs (8 : Nat) (0 : Nat) (List.length (X3.K x).gv), AV.hs (9 : Nat) (0 : Nat) (List.length (X3.K x).sn)]), some (Blk.arr (11 : Nat) (List.length
    ((X3.K x).gv ++ (X3.K x).jg)) (lsF Sh.c ((X3.K x).gv ++ (X3.K x).jg))), some (Blk.arr (1 : Nat) (List.length ((X3.K x).sn ++ (X3.K x).js)) (lsF I64.c ((X3.K x).sn ++ (X3.K x).js)))]))
    (Tree.chk (cl (LeL [AV.ptr (0 : Nat) (0 : Nat), AV.v (Value.int IntKind.i64 (List.getD x.acts x.i default).v)] [AV.ptr (0 : Nat) (0 : Nat), AV.v (Value.int IntKind.i64 (List.getD x.acts
    x.i default).v)] ∧ LeH [some (Blk.row [AV.v (Value.int IntKind.i64 x.f), AV.map (1 : Nat)]), some (Blk.mp [Cel.int IntKind.i64] false true x.n (hasC x.gv x.sn) (valC x.f x.gv x.sn))]
    [some (Blk.row [AV.v (Value.int IntKind.i64 x.f), AV.map (1 : Nat)]), some (Blk.mp [Cel.int IntKind.i64] false true x.n (hasC x.gv x.sn) (valC x.f x.gv x.sn))])) (Tree.chk (cl (LeL
    [AV.ptr (0 : Nat) (0 : Nat), AV.v (Value.int IntKind.i64 (List.getD x.acts x.i default).v)] [AV.ptr (0 : Nat) (0 : Nat), AV.v (Value.int IntKind.i64 (List.getD x.acts x.i default).v)] ∧
    LeH [some (Blk.row [AV.v (Value.int IntKind.i64 x.f), AV.hs (1 : Nat) (0 : Nat) (List.length (X3.K x).gv), AV.hs (2 : Nat) (0 : Nat) (List.length (X3.K x).sn)]), some (Blk.arr (11 : Nat)
    (List.length ((X3.K x).gv ++ (X3.K x).jg)) (lsF Sh.c ((X3.K x).gv ++ (X3.K x).jg))), some (Blk.arr (1 : Nat) (List.length ((X3.K x).sn ++ (X3.K x).js)) (lsF I64.c ((X3.K x).sn ++ (X3.K
    x).js)))] [some (Blk.row [AV.v (Value.int IntKind.i64 x.f), AV.hs (1 : Nat) (0 : Nat) (List.length (X3.K x).gv), AV.hs (2 : Nat) (0 : Nat) (List.length (X3.K x).sn)]), some (Blk.arr (11
    : Nat) (List.length ((X3.K x).gv ++ (X3.K x).jg)) (lsF Sh.c ((X3.K x).gv ++ (X3.K x).jg))), some (Blk.arr (1 : Nat) (List.length ((X3.K x).sn ++ (X3.K x).js)) (lsF I64.c ((X3.K x).sn ++
    (X3.K x).js)))])) (Tree.br (!snB x.sn (List.getD x.acts x.i default).v == snB (X3.K x).sn (List.getD x.acts x.i default).v) (Tree.leaf (Out.mk AEx.ret [AV.sl (4 : Nat) (List.length
    x.acts) (lsF Ac.c x.acts), AV.ptr (0 : Nat) (0 : Nat), AV.ptr (3 : Nat) (0 : Nat), AV.ptr (5 : Nat) (0 : Nat), AV.ptr (7 : Nat) (0 : Nat), AV.v (Value.int IntKind.i64 (↑x.i : Int)), AV.v
    (Value.bool false)] [some (Blk.row [AV.v (Value.int IntKind.i64 x.o), AV.v (Value.int IntKind.u32 x.bad), AV.map (1 : Nat), AV.hs (2 : Nat) (0 : Nat) (List.length x.l)]), some (Blk.mp
    [Cel.int IntKind.i64, Cel.int IntKind.i64, Cel.int IntKind.i64, Cel.int IntKind.i64, Cel.int IntKind.i64, Cel.int IntKind.i64, Cel.int IntKind.i64, Cel.int IntKind.i64, Cel.int
    IntKind.i64, Cel.int IntKind.i64, Cel.int IntKind.i64] true false (List.length x.l) (hasS x.l) anyV), some (Blk.arr (11 : Nat) (List.length (x.l ++ x.j)) (lsF Sh.c (x.l ++ x.j))), some
    (Blk.row [AV.v (Value.int IntKind.i64 x.o), AV.v (Value.int IntKind.u32 x.bad), AV.hs (4 : Nat) (0 : Nat) (List.length x.l)]), some (Blk.arr (11 : Nat) (List.length (x.l ++ x.j')) (lsF
    Sh.c (x.l ++ x.j'))), some (Blk.row [AV.v (Value.int IntKind.i64 x.f), AV.map (6 : Nat)]), some (Blk.mp [Cel.int IntKind.i64] false true x.n (hasC x.gv x.sn) (valC x.f x.gv x.sn)), some
    (Blk.row [AV.v (Value.int IntKind.i64 x.f), AV.hs (8 : Nat) (0 : Nat) (List.length (X3.K x).gv), AV.hs (9 : Nat) (0 : Nat) (List.length (X3.K x).sn)]), some (Blk.arr (11 : Nat)
    (List.length ((X3.K x).gv ++ (X3.K x).jg)) (lsF Sh.c ((X3.K x).gv ++ (X3.K x).jg))), some (Blk.arr (1 : Nat) (List.length ((X3.K x).sn ++ (X3.K x).js)) (lsF I64.c ((X3.K x).sn ++ (X3.K
    x).js)))])) (Tree.leaf (Out.mk AEx.normal [AV.sl (4 : Nat) (List.length x.acts) (lsF Ac.c x.acts), AV.ptr (0 : Nat) (0 : Nat), AV.ptr (3 : Nat) (0 : Nat), AV.ptr (5 : Nat) (0 : Nat),
    AV.ptr (7 : Nat) (0 : Nat), AV.v (Value.int IntKind.i64 (IntKind.wrap IntKind.i64 ((↑x.i : Int) + (1 : Int)))), AV.any] [some (Blk.row [AV.v (Value.int IntKind.i64 x.o), AV.v (Value.int
    IntKind.u32 x.bad), AV.map (1 : Nat), AV.hs (2 : Nat) (0 : Nat) (List.length x.l)]), some (Blk.mp [Cel.int IntKind.i64, Cel.int IntKind.i64, Cel.int IntKind.i64, Cel.int IntKind.i64,
    Cel.int IntKind.i64, Cel.int IntKind.i64, Cel.int IntKind.i64, Cel.int IntKind.i64, Cel.int IntKind.i64, Cel.int IntKind.i64, Cel.int IntKind.i64] true false (List.length x.l) (hasS x.l)
    anyV), some (Blk.arr (11 : Nat) (List.length (x.l ++ x.j)) (lsF Sh.c (x.l ++ x.j))), some (Blk.row [AV.v (Value.int IntKind.i64 x.o), AV.v (Value.int IntKind.u32 x.bad), AV.hs (4 : Nat)
    (0 : Nat) (List.length x.l)]), some (Blk.arr (11 : Nat) (List.length (x.l ++ x.j')) (lsF Sh.c (x.l ++ x.j'))), some (Blk.row [AV.v (Value.int IntKind.i64 x.f), AV.map (6 : Nat)]), some
    (Blk.mp [Cel.int IntKind.i64] false true x.n (hasC x.gv x.sn) (valC x.f x.gv x.sn)), some (Blk.row [AV.v (Value.int IntKind.i64 x.f), AV.hs (8 : Nat) (0 : Nat) (List.length (X3.K x).gv),
    AV.hs (9 : Nat) (0 : Nat) (List.length (X3.K x).sn)]), some (Blk.arr (11 : Nat) (List.length ((X3.K x).gv ++ (X3.K x).jg)) (lsF Sh.c ((X3.K x).gv ++ (X3.K x).jg))), some (Blk.arr (1 :
    Nat) (List.length ((X3.K x).sn ++ (X3.K x).js)) (lsF I64.c ((X3.K x).sn ++ (X3.K x).js)))])))))))) (Tree.br (decide ((List.getD x.acts x.i default).k = (1 : Int))) Tree.fail (Tree.br
    (decide ((List.getD x.acts x.i default).k = (2 : Int))) Tree.fail (Tree.chk (cl (LeL [AV.ptr (0 : Nat) (0 : Nat), AV.v (Value.int IntKind.i64 (List.getD x.acts x.i default).v)] [AV.ptr
    (0 : Nat) (0 : Nat), AV.v (Value.int IntKind.i64 (List.getD x.acts x.i default).v)] ∧ LeH [some (Blk.row [AV.v (Value.int IntKind.i64 x.f), AV.map (1 : Nat)]), some (Blk.mp [Cel.int
    IntKind.i64] false true x.n (hasC x.gv x.sn) (valC x.f x.gv x.sn))] [some (Blk.row [AV.v (Value.int IntKind.i64 x.f), AV.map (1 : Nat)]), some (Blk.mp [Cel.int IntKind.i64] false true
    x.n (hasC x.gv x.sn) (valC x.f x.gv x.sn))])) (Tree.chk (cl (LeL [AV.ptr (0 : Nat) (0 : Nat), AV.v (Value.int IntKind.i64 (List.getD x.acts x.i default).v)] [AV.ptr (0 : Nat) (0 : Nat),
    AV.v (Value.int IntKind.i64 (List.getD x.acts x.i default).v)] ∧ LeH [some (Blk.row [AV.v (Value.int IntKind.i64 x.f), AV.hs (1 : Nat) (0 : Nat) (List.length x.gv), AV.hs (2 : Nat) (0 :
    Nat) (List.length x.sn)]), some (Blk.arr (11 : Nat) (List.length (x.gv ++ x.jg)) (lsF Sh.c (x.gv ++ x.jg))), some (Blk.arr (1 : Nat) (List.length (x.sn ++ x.js)) (lsF I64.c (x.sn ++
    x.js)))] [some (Blk.row [AV.v (Value.int IntKind.i64 x.f), AV.hs (1 : Nat) (0 : Nat) (List.length (X3.K x).gv), AV.hs (2 : Nat) (0 : Nat) (List.length (X3.K x).sn)]), some (Blk.arr (11 :
    Nat) (List.length ((X3.K x).gv ++ (X3.K x).jg)) (lsF Sh.c ((X3.K x).gv ++ (X3.K x).jg))), some (Blk.arr (1 : Nat) (List.length ((X3.K x).sn ++ (X3.K x).js)) (lsF I64.c ((X3.K x).sn ++
    (X3.K x).js)))])) (Tree.br (!snB x.sn (List.getD x.acts x.i default).v == snB (X3.K x).sn (List.getD x.acts x.i default).v) (Tree.leaf (Out.mk AEx.ret [AV.sl (4 : Nat) (List.length
    x.acts) (lsF Ac.c x.acts), AV.ptr (0 : Nat) (0 : Nat), AV.ptr (3 : Nat) (0 : Nat), AV.ptr (5 : Nat) (0 : Nat), AV.ptr (7 : Nat) (0 : Nat), AV.v (Value.int IntKind.i64 (↑x.i : Int)), AV.v
    (Value.bool false)] [some (Blk.row [AV.v (Value.int IntKind.i64 x.o), AV.v (Value.int IntKind.u32 x.bad), AV.map (1 : Nat), AV.hs (2 : Nat) (0 : Nat) (List.length x.l)]), some (Blk.mp
    [Cel.int IntKind.i64, Cel.int IntKind.i64, Cel.int IntKind.i64, Cel.int IntKind.i64, Cel.int IntKind.i64, Cel.int IntKind.i64, Cel.int IntKind.i64, Cel.int IntKind.i64, Cel.int
    IntKind.i64, Cel.int IntKind.i64, Cel.int IntKind.i64] true false (List.length x.l) (hasS x.l) anyV), some (Blk.arr (11 : Nat) (List.length (x.l ++ x.j)) (lsF Sh.c (x.l ++ x.j))), some
    (Blk.row [AV.v (Value.int IntKind.i64 x.o), AV.v (Value.int IntKind.u32 x.bad), AV.hs (4 : Nat) (0 : Nat) (List.length x.l)]), some (Blk.arr (11 : Nat) (List.length (x.l ++ x.j')) (lsF
    Sh.c (x.l ++ x.j'))), some (Blk.row [AV.v (Value.int IntKind.i64 x.f), AV.map (6 : Nat)]), some (Blk.mp [Cel.int IntKind.i64] false true x.n (hasC x.gv x.sn) (valC x.f x.gv x.sn)), some
    (Blk.row [AV.v (Value.int IntKind.i64 x.f), AV.hs (8 : Nat) (0 : Nat) (List.length (X3.K x).gv), AV.hs (9 : Nat) (0 : Nat) (List.length (X3.K x).sn)]), some (Blk.arr (11 : Nat)
    (List.length ((X3.K x).gv ++ (X3.K x).jg)) (lsF Sh.c ((X3.K x).gv ++ (X3.K x).jg))), some (Blk.arr (1 : Nat) (List.length ((X3.K x).sn ++ (X3.K x).js)) (lsF I64.c ((X3.K x).sn ++ (X3.K
    x).js)))])) (Tree.leaf (Out.mk AEx.normal [AV.sl (4 : Nat) (List.length x.acts) (lsF Ac.c x.acts), AV.ptr (0 : Nat) (0 : Nat), AV.ptr (3 : Nat) (0 : Nat), AV.ptr (5 : Nat) (0 : Nat),
    AV.ptr (7 : Nat) (0 : Nat), AV.v (Value.int IntKind.i64 (IntKind.wrap IntKind.i64 ((↑x.i : Int) + (1 : Int)))), AV.any] [some (Blk.row [AV.v (Value.int IntKind.i64 x.o), AV.v (Value.int
    IntKind.u32 x.bad), AV.map (1 : Nat), AV.hs (2 : Nat) (0 : Nat) (List.length x.l)]), some (Blk.mp [Cel.int IntKind.i64, Cel.int IntKind.i64, Cel.int IntKind.i64, Cel.int IntKind.i64,
    Cel.int IntKind.i64, Cel.int IntKind.i64, Cel.int IntKind.i64, Cel.int IntKind.i64, Cel.int IntKind.i64, Cel.int IntKind.i64, Cel.int IntKind.i64] true false (List.length x.l) (hasS x.l)
    anyV), some (Blk.arr (11 : Nat) (List.length (x.l ++ x.j)) (lsF Sh.c (x.l ++ x.j))), some (Blk.row [AV.v (Value.int IntKind.i64 x.o), AV.v (Value.int IntKind.u32 x.bad), AV.hs (4 : Nat)
    (0 : Nat) (List.length x.l)]), some (Blk.arr (11 : Nat) (List.length (x.l ++ x.j')) (lsF Sh.c (x.l ++ x.j'))), some (Blk.row [AV.v (Value.int IntKind.i64 x.f), AV.map (6 : Nat)]), some
    (Blk.mp [Cel.int IntKind.i64] false true x.n (hasC x.gv x.sn) (valC x.f x.gv x.sn)), some (Blk.row [AV.v (Value.int IntKind.i64 x.f), AV.hs (8 : Nat) (0 : Nat) (List.length (X3.K x).gv),
    AV.hs (9 : Nat) (0 : Nat) (List.length (X3.K x).sn)]), some (Blk.arr (11 : Nat) (List.length ((X3.K x).gv ++ (X3.K x).jg)) (lsF Sh.c ((X3.K x).gv ++ (X3.K x).jg))), some (Blk.arr (1 :
    Nat) (List.length ((X3.K x).sn ++ (X3.K x).js)) (lsF I64.c ((X3.K x).sn ++ (X3.K x).js)))]))))))))) (Tree.leaf (Out.mk (AEx.exit (0 : Nat)) [AV.sl (4 : Nat) (List.length x.acts) (lsF
    Ac.c x.acts), AV.ptr (0 : Nat) (0 : Nat), AV.ptr (3 : Nat) (0 : Nat), AV.ptr (5 : Nat) (0 : Nat), AV.ptr (7 : Nat) (0 : Nat), AV.v (Value.int IntKind.i64 (↑x.i : Int)), AV.any] [some
    (Blk.row [AV.v (Value.int IntKind.i64 x.o), AV.v (Value.int IntKind.u32 x.bad), AV.map (1 : Nat), AV.hs (2 : Nat) (0 : Nat) (List.length x.l)]), some (Blk.mp [Cel.int IntKind.i64,
    Cel.int IntKind.i64, Cel.int IntKind.i64, Cel.int IntKind.i64, Cel.int IntKind.i64, Cel.int IntKind.i64, Cel.int IntKind.i64, Cel.int IntKind.i64, Cel.int IntKind.i64, Cel.int
    IntKind.i64, Cel.int IntKind.i64] true false (List.length x.l) (hasS x.l) anyV), some (Blk.arr (11 : Nat) (List.length (x.l ++ x.j)) (lsF Sh.c (x.l ++ x.j))), some (Blk.row [AV.v
    (Value.int IntKind.i64 x.o), AV.v (Value.int IntKind.u32 x.bad), AV.hs (4 : Nat) (0 : Nat) (List.length x.l)]), some (Blk.arr (11 : Nat) (List.length (x.l ++ x.j')) (lsF Sh.c (x.l ++
    x.j'))), some (Blk.row [AV.v (Value.int IntKind.i64 x.f), AV.map (6 : Nat)]), some (Blk.mp [Cel.int IntKind.i64] false true x.n (hasC x.gv x.sn) (valC x.f x.gv x.sn)), some (Blk.row
    [AV.v (Value.int IntKind.i64 x.f), AV.hs (8 : Nat) (0 : Nat) (List.length x.gv), AV.hs (9 : Nat) (0 : Nat) (List.length x.sn)]), some (Blk.arr (11 : Nat) (List.length (x.gv ++ x.jg))
    (lsF Sh.c (x.gv ++ x.jg))), some (Blk.arr (1 : Nat) (List.length (x.sn ++ x.js)) (lsF I64.c (x.sn ++ x.js)))])) := by kernel_rfl
theorem qcNew (x : X3) (hs : x.sn.length ≤ 100000) (hg : x.gv.length ≤ 100000) (hv : ¬ badV (x.acts.getD x.i default).v) (hw : ¬ ((x.acts.getD x.i default).w < 0 ∨ timesF 3 x.f ≤ (x.acts.getD x.i default).w)) (h1 : gvB x.gv (x.acts.getD x.i default).v = false) (h2 : snB x.sn (x.acts.getD x.i default).v = false) : roundE (P := Tryd.prog) (Γ := Γc) [CT.at 11 (ansChoNew (f := x.f) (gv := x.gv) (sn := x.sn) (n := x.n) hv hw h1 h2), CT.at 12 (ansChoRNew (x := x.K) hs hg hv hw h1 h2), CT.at 18 (ansSeen (v := (x.acts.getD x.i default).v) (f := x.f) (gv := x.gv ++ [giv (x.acts.getD x.i default).w (x.acts.getD x.i default).v]) (sn := x.sn) (n := x.n + 1)), CT.at 19 (ansWasG (f := x.f) (v := (x.acts.getD x.i default).v) (gv := x.gv ++ [giv (x.acts.getD x.i default).w (x.acts.getD x.i default).v]) (sn := x.sn) (js := x.js) hs)] Lno false 0 0 lp3 lv3 nl3 161 (S31 x).1 (S31 x).2 =
  Tree.br (bif decide ((↑x.i : Int) < (↑(List.length x.acts) : Int)) then true else false) (Tree.chk (decide ((0 : Int) ≤ (↑x.i : Int)) && decide ((↑x.i : Int) < (↑(List.length x.acts) :
    Int))) (Tree.br (decide ((List.getD x.acts x.i default).k = (0 : Int))) (Tree.chk (cl (LeL [AV.ptr (0 : Nat) (0 : Nat), AV.v (Value.int IntKind.i64 (List.getD x.acts x.i default).v),
    AV.v (Value.int IntKind.i64 (List.getD x.acts x.i default).w)] [AV.ptr (0 : Nat) (0 : Nat), AV.v (Value.int IntKind.i64 (List.getD x.acts x.i default).v), AV.v (Value.int IntKind.i64
    (List.getD x.acts x.i default).w)] ∧ LeH [some (Blk.row [AV.v (Value.int IntKind.i64 x.f), AV.map (1 : Nat)]), some (Blk.mp [Cel.int IntKind.i64] false true x.n (hasC x.gv x.sn) (valC
    x.f x.gv x.sn))] [some (Blk.row [AV.v (Value.int IntKind.i64 x.f), AV.map (1 : Nat)]), some (Blk.mp [Cel.int IntKind.i64] false true x.n (hasC x.gv x.sn) (valC x.f x.gv x.sn))]))
    (Tree.chk (cl (LeL [AV.ptr (0 : Nat) (0 : Nat), AV.v (Value.int IntKind.i64 (List.getD x.acts x.i default).v), AV.v (Value.int IntKind.i64 (List.getD x.acts x.i default).w)] [AV.ptr (0 :
    Nat) (0 : Nat), AV.v (Value.int IntKind.i64 (List.getD x.acts x.i default).v), AV.v (Value.int IntKind.i64 (List.getD x.acts x.i default).w)] ∧ LeH [some (Blk.row [AV.v (Value.int
    IntKind.i64 x.f), AV.hs (1 : Nat) (0 : Nat) (List.length x.gv), AV.hs (2 : Nat) (0 : Nat) (List.length x.sn)]), some (Blk.arr (11 : Nat) (List.length (x.gv ++ x.jg)) (lsF Sh.c (x.gv ++
    x.jg))), some (Blk.arr (1 : Nat) (List.length (x.sn ++ x.js)) (lsF I64.c (x.sn ++ x.js)))] [some (Blk.row [AV.v (Value.int IntKind.i64 x.f), AV.hs (1 : Nat) (0 : Nat) (List.length (X3.K
    x).gv), AV.hs (2 : Nat) (0 : Nat) (List.length (X3.K x).sn)]), some (Blk.arr (11 : Nat) (List.length ((X3.K x).gv ++ (X3.K x).jg)) (lsF Sh.c ((X3.K x).gv ++ (X3.K x).jg))), some (Blk.arr
    (1 : Nat) (List.length ((X3.K x).sn ++ (X3.K x).js)) (lsF I64.c ((X3.K x).sn ++ (X3.K x).js)))])) (Tree.br false (Tree.leaf (Out.mk AEx.ret [AV.sl (4 : Nat) (List.length x.acts) (lsF
    Ac.c x.acts), AV.ptr (0 : Nat) (0 : Nat), AV.ptr (3 : Nat) (0 : Nat), AV.ptr (5 : Nat) (0 : Nat), AV.ptr (7 : Nat) (0 : Nat), AV.v (Value.int IntKind.i64 (↑x.i : Int)), AV.v (Value.bool
    false)] [some (Blk.row [AV.v (Value.int IntKind.i64 x.o), AV.v (Value.int IntKind.u32 x.bad), AV.map (1 : Nat), AV.hs (2 : Nat) (0 : Nat) (List.length x.l)]), some (Blk.mp [Cel.int
    IntKind.i64, Cel.int IntKind.i64, Cel.int IntKind.i64, Cel.int IntKind.i64, Cel.int IntKind.i64, Cel.int IntKind.i64, Cel.int IntKind.i64, Cel.int IntKind.i64, Cel.int IntKind.i64,
    Cel.int IntKind.i64, Cel.int IntKind.i64] true false (List.length x.l) (hasS x.l) anyV), some (Blk.arr (11 : Nat) (List.length (x.l ++ x.j)) (lsF Sh.c (x.l ++ x.j))), some (Blk.row [AV.v
    (Value.int IntKind.i64 x.o), AV.v (Value.int IntKind.u32 x.bad), AV.hs (4 : Nat) (0 : Nat) (List.length x.l)]), some (Blk.arr (11 : Nat) (List.length (x.l ++ x.j')) (lsF Sh.c (x.l ++
    x.j'))), some (Blk.row [AV.v (Value.int IntKind.i64 x.f), AV.map (6 : Nat)]), some (Blk.mp [Cel.int IntKind.i64] false true (x.n + (1 : Nat)) (hasC (x.gv ++ [giv (List.getD x.acts x.i
    default).w (List.getD x.acts x.i default).v]) x.sn) (valC x.f (x.gv ++ [giv (List.getD x.acts x.i default).w (List.getD x.acts x.i default).v]) x.sn)), some (Blk.row [AV.v (Value.int
    IntKind.i64 x.f), AV.hs (8 : Nat) (0 : Nat) (List.length ((X3.K x).gv ++ [giv (List.getD x.acts x.i default).w (List.getD x.acts x.i default).v])), AV.hs (9 : Nat) (0 : Nat) (List.length
    (X3.K x).sn)]), some (Blk.arr (11 : Nat) (List.length ((X3.K x).gv ++ [giv (List.getD x.acts x.i default).w (List.getD x.acts x.i default).v])) (lsF Sh.c ((X3.K x).gv ++ [giv (List.getD
    x.acts x.i default).w (List.getD x.acts x.i default).v]))), some (Blk.arr (1 : Nat) (List.length ((X3.K x).sn ++ (X3.K x).js)) (lsF I64.c ((X3.K x).sn ++ (X3.K x).js)))])) (Tree.chk (cl
    (LeL [AV.ptr (0 : Nat) (0 : Nat), AV.v (Value.int IntKind.i64 (List.getD x.acts x.i default).v)] [AV.ptr (0 : Nat) (0 : Nat), AV.v (Value.int IntKind.i64 (List.getD x.acts x.i
    default).v)] ∧ LeH [some (Blk.row [AV.v (Value.int IntKind.i64 x.f), AV.map (1 : Nat)]), some (Blk.mp [Cel.int IntKind.i64] false true (x.n + (1 : Nat)) (hasC (x.gv ++ [giv (List.getD
    x.acts x.i default).w (List.getD x.acts x.i default).v]) x.sn) (valC x.f (x.gv ++ [giv (List.getD x.acts x.i default).w (List.getD x.acts x.i default).v]) x.sn))] [some (Blk.row [AV.v
    (Value.int IntKind.i64 x.f), AV.map (1 : Nat)]), some (Blk.mp [Cel.int IntKind.i64] false true (x.n + (1 : Nat)) (hasC (x.gv ++ [giv (List.getD x.acts x.i default).w (List.getD x.acts
    x.i default).v]) x.sn) (valC x.f (x.gv ++ [giv (List.getD x.acts x.i default).w (List.getD x.acts x.i default).v]) x.sn))])) (Tree.chk (cl (LeL [AV.ptr (0 : Nat) (0 : Nat), AV.v
    (Value.int IntKind.i64 (List.getD x.acts x.i default).v)] [AV.ptr (0 : Nat) (0 : Nat), AV.v (Value.int IntKind.i64 (List.getD x.acts x.i default).v)] ∧ LeH [some (Blk.row [AV.v
    (Value.int IntKind.i64 x.f), AV.hs (1 : Nat) (0 : Nat) (List.length ((X3.K x).gv ++ [giv (List.getD x.acts x.i default).w (List.getD x.acts x.i default).v])), AV.hs (2 : Nat) (0 : Nat)
    (List.length (X3.K x).sn)]), some (Blk.arr (11 : Nat) (List.length ((X3.K x).gv ++ [giv (List.getD x.acts x.i default).w (List.getD x.acts x.i default).v])) (lsF Sh.c ((X3.K x).gv ++
    [giv (List.getD x.acts x.i default).w (List.getD x.acts x.i default).v]))), some (Blk.arr (1 : Nat) (List.length ((X3.K x).sn ++ (X3.K x).js)) (lsF I64.c ((X3.K x).sn ++ (X3.K x).js)))]
    [some (Blk.row [AV.v (Value.int IntKind.i64 x.f), AV.hs (1 : Nat) (0 : Nat) (List.length (x.gv ++ [giv (List.getD x.acts x.i default).w (List.getD x.acts x.i default).v])), AV.hs (2 :
    Nat) (0 : Nat) (List.length x.sn)]), some (Blk.arr (11 : Nat) (List.length (x.gv ++ [giv (List.getD x.acts x.i default).w (List.getD x.acts x.i default).v])) (lsF Sh.c (x.gv ++ [giv
    (List.getD x.acts x.i default).w (List.getD x.acts x.i default).v]))), some (Blk.arr (1 : Nat) (List.length (x.sn ++ x.js)) (lsF I64.c (x.sn ++ x.js)))])) (Tree.br (!snB x.sn (List.getD
    x.acts x.i default).v == snB x.sn (List.getD x.acts x.i default).v) (Tree.leaf (Out.mk AEx.ret [AV.sl (4 : Nat) (List.length x.acts) (lsF Ac.c x.acts), AV.ptr (0 : Nat) (0 : Nat), AV.ptr
    (3 : Nat) (0 : Nat), AV.ptr (5 : Nat) (0 : Nat), AV.ptr (7 : Nat) (0 : Nat), AV.v (Value.int IntKind.i64 (↑x.i : Int)), AV.v (Value.bool false)] [some (Blk.row [AV.v (Value.int
    IntKind.i64 x.o), AV.v (Value.int IntKind.u32 x.bad), AV.map (1 : Nat), AV.hs (2 : Nat) (0 : Nat) (List.length x.l)]), some (Blk.mp [Cel.int IntKind.i64, Cel.int IntKind.i64, Cel.int
    IntKind.i64, Cel.int IntKind.i64, Cel.int IntKind.i64, Cel.int IntKind.i64, Cel.int IntKind.i64, Cel.int IntKind.i64, Cel.int IntKind.i64, Cel.int IntKind.i64, Cel.int IntKind.i64] true
    false (List.length x.l) (hasS x.l) anyV), some (Blk.arr (11 : Nat) (List.length (x.l ++ x.j)) (lsF Sh.c (x.l ++ x.j))), some (Blk.row [AV.v (Value.int IntKind.i64 x.o), AV.v (Value.int
    IntKind.u32 x.bad), AV.hs (4 : Nat) (0 : Nat) (List.length x.l)]), some (Blk.arr (11 : Nat) (List.length (x.l ++ x.j')) (lsF Sh.c (x.l ++ x.j'))), some (Blk.row [AV.v (Value.int
    IntKind.i64 x.f), AV.map (6 : Nat)]), some (Blk.mp [Cel.int IntKind.i64] false true (x.n + (1 : Nat)) (hasC (x.gv ++ [giv (List.getD x.acts x.i default).w (List.getD x.acts x.i
    default).v]) x.sn) (valC x.f (x.gv ++ [giv (List.getD x.acts x.i default).w (List.getD x.acts x.i default).v]) x.sn)), some (Blk.row [AV.v (Value.int IntKind.i64 x.f), AV.hs (8 : Nat) (0
    : Nat) (List.length (x.gv ++ [giv (List.getD x.acts x.i default).w (List.getD x.acts x.i default).v])), AV.hs (9 : Nat) (0 : Nat) (List.length x.sn)]), some (Blk.arr (11 : Nat)
    (List.length (x.gv ++ [giv (List.getD x.acts x.i default).w (List.getD x.acts x.i default).v])) (lsF Sh.c (x.gv ++ [giv (List.getD x.acts x.i default).w (List.getD x.acts x.i
    default).v]))), some (Blk.arr (1 : Nat) (List.length (x.sn ++ x.js)) (lsF I64.c (x.sn ++ x.js)))])) (Tree.leaf (Out.mk AEx.normal [AV.sl (4 : Nat) (List.length x.acts) (lsF Ac.c x.acts),
    AV.ptr (0 : Nat) (0 : Nat), AV.ptr (3 : Nat) (0 : Nat), AV.ptr (5 : Nat) (0 : Nat), AV.ptr (7 : Nat) (0 : Nat), AV.v (Value.int IntKind.i64 (IntKind.wrap IntKind.i64 ((↑x.i : Int) + (1 :
    Int)))), AV.any] [some (Blk.row [AV.v (Value.int IntKind.i64 x.o), AV.v (Value.int IntKind.u32 x.bad), AV.map (1 : Nat), AV.hs (2 : Nat) (0 : Nat) (List.length x.l)]), some (Blk.mp
    [Cel.int IntKind.i64, Cel.int IntKind.i64, Cel.int IntKind.i64, Cel.int IntKind.i64, Cel.int IntKind.i64, Cel.int IntKind.i64, Cel.int IntKind.i64, Cel.int IntKind.i64, Cel.int
    IntKind.i64, Cel.int IntKind.i64, Cel.int IntKind.i64] true false (List.length x.l) (hasS x.l) anyV), some (Blk.arr (11 : Nat) (List.length (x.l ++ x.j)) (lsF Sh.c (x.l ++ x.j))), some
    (Blk.row [AV.v (Value.int IntKind.i64 x.o), AV.v (Value.int IntKind.u32 x.bad), AV.hs (4 : Nat) (0 : Nat) (List.length x.l)]), some (Blk.arr (11 : Nat) (List.length (x.l ++ x.j')) (lsF
    Sh.c (x.l ++ x.j'))), some (Blk.row [AV.v (Value.int IntKind.i64 x.f), AV.map (6 : Nat)]), some (Blk.mp [Cel.int IntKind.i64] false true (x.n + (1 : Nat)) (hasC (x.gv ++ [giv (List.getD
    x.acts x.i default).w (List.getD x.acts x.i default).v]) x.sn) (valC x.f (x.gv ++ [giv (List.getD x.acts x.i default).w (List.getD x.acts x.i default).v]) x.sn)), some (Blk.row [AV.v
    (Value.int IntKind.i64 x.f), AV.hs (8 : Nat) (0 : Nat) (List.length (x.gv ++ [giv (List.getD x.acts x.i default).w (List.getD x.acts x.i default).v])), AV.hs (9 : Nat) (0 : Nat)
    (List.length x.sn)]), some (Blk.arr (11 : Nat) (List.length (x.gv ++ [giv (List.getD x.acts x.i default).w (List.getD x.acts x.i default).v])) (lsF Sh.c (x.gv ++ [giv (List.getD x.acts
    x.i default).w (List.getD x.acts x.i default).v]))), some (Blk.arr (1 : Nat) (List.length (x.sn ++ x.js)) (lsF I64.c (x.sn ++ x.js)))])))))))) (Tree.br (decide ((List.getD x.acts x.i
    default).k = (1 : Int))) Tree.fail (Tree.br (decide ((List.getD x.acts x.i default).k = (2 : Int))) Tree.fail (Tree.chk (cl (LeL [AV.ptr (0 : Nat) (0 : Nat), AV.v (Value.int IntKind.i64
    (List.getD x.acts x.i default).v)] [AV.ptr (0 : Nat) (0 : Nat), AV.v (Value.int IntKind.i64 (List.getD x.acts x.i default).v)] ∧ LeH [some (Blk.row [AV.v (Value.int IntKind.i64 x.f),
    AV.map (1 : Nat)]), some (Blk.mp [Cel.int IntKind.i64] false true x.n (hasC x.gv x.sn) (valC x.f x.gv x.sn))] [some (Blk.row [AV.v (Value.int IntKind.i64 x.f), AV.map (1 : Nat)]), some
    (Blk.mp [Cel.int IntKind.i64] false true (x.n + (1 : Nat)) (hasC (x.gv ++ [giv (List.getD x.acts x.i default).w (List.getD x.acts x.i default).v]) x.sn) (valC x.f (x.gv ++ [giv
    (List.getD x.acts x.i default).w (List.getD x.acts x.i default).v]) x.sn))])) (Tree.chk (cl (LeL [AV.ptr (0 : Nat) (0 : Nat), AV.v (Value.int IntKind.i64 (List.getD x.acts x.i
    default).v)] [AV.ptr (0 : Nat) (0 : Nat), AV.v (Value.int IntKind.i64 (List.getD x.acts x.i default).v)] ∧ LeH [some (Blk.row [AV.v (Value.int IntKind.i64 x.f), AV.hs (1 : Nat) (0 : Nat)
    (List.length x.gv), AV.hs (2 : Nat) (0 : Nat) (List.length x.sn)]), some (Blk.arr (11 : Nat) (List.length (x.gv ++ x.jg)) (lsF Sh.c (x.gv ++ x.jg))), some (Blk.arr (1 : Nat) (List.length
    (x.sn ++ x.js)) (lsF I64.c (x.sn ++ x.js)))] [some (Blk.row [AV.v (Value.int IntKind.i64 x.f), AV.hs (1 : Nat) (0 : Nat) (List.length (x.gv ++ [giv (List.getD x.acts x.i default).w
    (List.getD x.acts x.i default).v])), AV.hs (2 : Nat) (0 : Nat) (List.length x.sn)]), some (Blk.arr (11 : Nat) (List.length (x.gv ++ [giv (List.getD x.acts x.i default).w (List.getD
    x.acts x.i default).v])) (lsF Sh.c (x.gv ++ [giv (List.getD x.acts x.i default).w (List.getD x.acts x.i default).v]))), some (Blk.arr (1 : Nat) (List.length (x.sn ++ x.js)) (lsF I64.c
    (x.sn ++ x.js)))])) (Tree.br (!snB x.sn (List.getD x.acts x.i default).v == snB x.sn (List.getD x.acts x.i default).v) (Tree.leaf (Out.mk AEx.ret [AV.sl (4 : Nat) (List.length x.acts)
    (lsF Ac.c x.acts), AV.ptr (0 : Nat) (0 : Nat), AV.ptr (3 : Nat) (0 : Nat), AV.ptr (5 : Nat) (0 : Nat), AV.ptr (7 : Nat) (0 : Nat), AV.v (Value.int IntKind.i64 (↑x.i : Int)), AV.v
    (Value.bool false)] [some (Blk.row [AV.v (Value.int IntKind.i64 x.o), AV.v (Value.int IntKind.u32 x.bad), AV.map (1 : Nat), AV.hs (2 : Nat) (0 : Nat) (List.length x.l)]), some (Blk.mp
    [Cel.int IntKind.i64, Cel.int IntKind.i64, Cel.int IntKind.i64, Cel.int IntKind.i64, Cel.int IntKind.i64, Cel.int IntKind.i64, Cel.int IntKind.i64, Cel.int IntKind.i64, Cel.int
    IntKind.i64, Cel.int IntKind.i64, Cel.int IntKind.i64] true false (List.length x.l) (hasS x.l) anyV), some (Blk.arr (11 : Nat) (List.length (x.l ++ x.j)) (lsF Sh.c (x.l ++ x.j))), some
    (Blk.row [AV.v (Value.int IntKind.i64 x.o), AV.v (Value.int IntKind.u32 x.bad), AV.hs (4 : Nat) (0 : Nat) (List.length x.l)]), some (Blk.arr (11 : Nat) (List.length (x.l ++ x.j')) (lsF
    Sh.c (x.l ++ x.j'))), some (Blk.row [AV.v (Value.int IntKind.i64 x.f), AV.map (6 : Nat)]), some (Blk.mp [Cel.int IntKind.i64] false true (x.n + (1 : Nat)) (hasC (x.gv ++ [giv (List.getD
    x.acts x.i default).w (List.getD x.acts x.i default).v]) x.sn) (valC x.f (x.gv ++ [giv (List.getD x.acts x.i default).w (List.getD x.acts x.i default).v]) x.sn)), some (Blk.row [AV.v
    (Value.int IntKind.i64 x.f), AV.hs (8 : Nat) (0 : Nat) (List.length (x.gv ++ [giv (List.getD x.acts x.i default).w (List.getD x.acts x.i default).v])), AV.hs (9 : Nat) (0 : Nat)
    (List.length x.sn)]), some (Blk.arr (11 : Nat) (List.length (x.gv ++ [giv (List.getD x.acts x.i default).w (List.getD x.acts x.i default).v])) (lsF Sh.c (x.gv ++ [giv (List.getD x.acts
    x.i default).w (List.getD x.acts x.i default).v]))), some (Blk.arr (1 : Nat) (List.length (x.sn ++ x.js)) (lsF I64.c (x.sn ++ x.js)))])) (Tree.leaf (Out.mk AEx.normal [AV.sl (4 : Nat)
    (List.length x.acts) (lsF Ac.c x.acts), AV.ptr (0 : Nat) (0 : Nat), AV.ptr (3 : Nat) (0 : Nat), AV.ptr (5 : Nat) (0 : Nat), AV.ptr (7 : Nat) (0 : Nat), AV.v (Value.int IntKind.i64
    (IntKind.wrap IntKind.i64 ((↑x.i : Int) + (1 : Int)))), AV.any] [some (Blk.row [AV.v (Value.int IntKind.i64 x.o), AV.v (Value.int IntKind.u32 x.bad), AV.map (1 : Nat), AV.hs (2 : Nat) (0
    : Nat) (List.length x.l)]), some (Blk.mp [Cel.int IntKind.i64, Cel.int IntKind.i64, Cel.int IntKind.i64, Cel.int IntKind.i64, Cel.int IntKind.i64, Cel.int IntKind.i64, Cel.int
    IntKind.i64, Cel.int IntKind.i64, Cel.int IntKind.i64, Cel.int IntKind.i64, Cel.int IntKind.i64] true false (List.length x.l) (hasS x.l) anyV), some (Blk.arr (11 : Nat) (List.length (x.l
    ++ x.j)) (lsF Sh.c (x.l ++ x.j))), some (Blk.row [AV.v (Value.int IntKind.i64 x.o), AV.v (Value.int IntKind.u32 x.bad), AV.hs (4 : Nat) (0 : Nat) (List.length x.l)]), some (Blk.arr (11 :
    Nat) (List.length (x.l ++ x.j')) (lsF Sh.c (x.l ++ x.j'))), some (Blk.row [AV.v (Value.int IntKind.i64 x.f), AV.map (6 : Nat)]), some (Blk.mp [Cel.int IntKind.i64] false true (x.n + (1 :
    Nat)) (hasC (x.gv ++ [giv (List.getD x.acts x.i default).w (List.getD x.acts x.i default).v]) x.sn) (valC x.f (x.gv ++ [giv (List.getD x.acts x.i default).w (List.getD x.acts x.i
    default).v]) x.sn)), some (Blk.row [AV.v (Value.int IntKind.i64 x.f), AV.hs (8 : Nat) (0 : Nat) (List.length (x.gv ++ [giv (List.getD x.acts x.i default).w (List.getD x.acts x.i
    default).v])), AV.hs (9 : Nat) (0 : Nat) (List.length x.sn)]), some (Blk.arr (11 : Nat) (List.length (x.gv ++ [giv (List.getD x.acts x.i default).w (List.getD x.acts x.i default).v]))
    (lsF Sh.c (x.gv ++ [giv (List.getD x.acts x.i default).w (List.getD x.acts x.i default).v]))), some (Blk.arr (1 : Nat) (List.length (x.sn ++ x.js)) (lsF I64.c (x.sn ++ x.js)))])))))))))
    (Tree.leaf (Out.mk (AEx.exit (0 : Nat)) [AV.sl (4 : Nat) (List.length x.acts) (lsF Ac.c x.acts), AV.ptr (0 : Nat) (0 : Nat), AV.ptr (3 : Nat) (0 : Nat), AV.ptr (5 : Nat) (0 : Nat),
    AV.ptr (7 : Nat) (0 : Nat), AV.v (Value.int IntKind.i64 (↑x.i : Int)), AV.any] [some (Blk.row [AV.v (Value.int IntKind.i64 x.o), AV.v (Value.int IntKind.u32 x.bad), AV.map (1 : Nat),
    AV.hs (2 : Nat) (0 : Nat) (List.length x.l)]), some (Blk.mp [Cel.int IntKind.i64, Cel.int IntKind.i64, Cel.int IntKind.i64, Cel.int IntKind.i64, Cel.int IntKind.i64, Cel.int IntKind.i64,
    Cel.int IntKind.i64, Cel.int IntKind.i64, Cel.int IntKind.i64, Cel.int IntKind.i64, Cel.int IntKind.i64] true false (List.length x.l) (hasS x.l) anyV), some (Blk.arr (11 : Nat)
    (List.length (x.l ++ x.j)) (lsF Sh.c (x.l ++ x.j))), some (Blk.row [AV.v (Value.int IntKind.i64 x.o), AV.v (Value.int IntKind.u32 x.bad), AV.hs (4 : Nat) (0 : Nat) (List.length x.l)]),
    some (Blk.arr (11 : Nat) (List.length (x.l ++ x.j')) (lsF Sh.c (x.l ++ x.j'))), some (Blk.row [AV.v (Value.int IntKind.i64 x.f), AV.map (6 : Nat)]), some (Blk.mp [Cel.int IntKind.i64]
    false true x.n (hasC x.gv x.sn) (valC x.f x.gv x.sn)), some (Blk.row [AV.v (Value.int IntKind.i64 x.f), AV.hs (8 : Nat) (0 : Nat) (List.length x.gv), AV.hs (9 : Nat) (0 : Nat)
    (List.length x.sn)]), some (Blk.arr (11 : Nat) (List.length (x.gv ++ x.jg)) (lsF Sh.c (x.gv ++ x.jg))), some (Blk.arr (1 : Nat) (List.length (x.sn ++ x.js)) (lsF I64.c (x.sn ++
    x.js)))])) := by kernel_rfl
theorem qs70 (x : X3) (hs : x.sn.length ≤ 100000) (hg : x.gv.length ≤ 100000) (hv : badV (x.acts.getD x.i default).v) : roundE (P := Tryd.prog) (Γ := Γc) [CT.at 13 (ansSee70 (s := (x.acts.getD x.i default).set) (f := x.f) (gv := x.gv) (sn := x.sn) (n := x.n) (l := x.l) (j := x.j) (o := x.o) (bad := x.bad) hv), CT.at 14 (ansSeeR70 (x := x.K) (s := (x.acts.getD x.i default).set) (l := x.l) (j := x.j') (o := x.o) (bad := x.bad) hv), CT.at 18 (ansSeen (v := (x.acts.getD x.i default).v) (f := x.f) (gv := x.gv) (sn := x.sn) (n := x.n)), CT.at 19 (ansWas (x := x.K) (v := (x.acts.getD x.i default).v) hs)] Lno false 0 0 lp3 lv3 nl3 161 (S31 x).1 (S31 x).2 =
  Tree.br (bif decide ((↑x.i : Int) < (↑(List.length x.acts) : Int)) then true else false) (Tree.chk (decide ((0 : Int) ≤ (↑x.i : Int)) && decide ((↑x.i : Int) < (↑(List.length x.acts) :
    Int))) (Tree.br (decide ((List.getD x.acts x.i default).k = (0 : Int))) Tree.fail (Tree.br (decide ((List.getD x.acts x.i default).k = (1 : Int))) (Tree.chk (cl (LeL [AV.ptr (0 : Nat) (0
    : Nat), AV.ptr (2 : Nat) (0 : Nat), AV.v (Value.int IntKind.i64 (List.getD x.acts x.i default).v), AV.v (Value.int IntKind.u32 (List.getD x.acts x.i default).set)] [AV.ptr (0 : Nat) (0 :
    Nat), AV.ptr (2 : Nat) (0 : Nat), AV.v (Value.int IntKind.i64 (List.getD x.acts x.i default).v), AV.v (Value.int IntKind.u32 (List.getD x.acts x.i default).set)] ∧ LeH [some (Blk.row
    [AV.v (Value.int IntKind.i64 x.f), AV.map (1 : Nat)]), some (Blk.mp [Cel.int IntKind.i64] false true x.n (hasC x.gv x.sn) (valC x.f x.gv x.sn)), some (Blk.row [AV.v (Value.int
    IntKind.i64 x.o), AV.v (Value.int IntKind.u32 x.bad), AV.map (3 : Nat), AV.hs (4 : Nat) (0 : Nat) (List.length x.l)]), some (Blk.mp [Cel.int IntKind.i64, Cel.int IntKind.i64, Cel.int
    IntKind.i64, Cel.int IntKind.i64, Cel.int IntKind.i64, Cel.int IntKind.i64, Cel.int IntKind.i64, Cel.int IntKind.i64, Cel.int IntKind.i64, Cel.int IntKind.i64, Cel.int IntKind.i64] true
    false (List.length x.l) (hasS x.l) anyV), some (Blk.arr (11 : Nat) (List.length (x.l ++ x.j)) (lsF Sh.c (x.l ++ x.j)))] [some (Blk.row [AV.v (Value.int IntKind.i64 x.f), AV.map (1 :
    Nat)]), some (Blk.mp [Cel.int IntKind.i64] false true x.n (hasC x.gv x.sn) (valC x.f x.gv x.sn)), some (Blk.row [AV.v (Value.int IntKind.i64 x.o), AV.v (Value.int IntKind.u32 x.bad),
    AV.map (3 : Nat), AV.hs (4 : Nat) (0 : Nat) (List.length x.l)]), some (Blk.mp [Cel.int IntKind.i64, Cel.int IntKind.i64, Cel.int IntKind.i64, Cel.int IntKind.i64, Cel.int IntKind.i64,
    Cel.int IntKind.i64, Cel.int IntKind.i64, Cel.int IntKind.i64, Cel.int IntKind.i64, Cel.int IntKind.i64, Cel.int IntKind.i64] true false (List.length x.l) (hasS x.l) anyV), some (Blk.arr
    (11 : Nat) (List.length (x.l ++ x.j)) (lsF Sh.c (x.l ++ x.j)))])) (Tree.chk (cl (LeL [AV.ptr (0 : Nat) (0 : Nat), AV.ptr (3 : Nat) (0 : Nat), AV.v (Value.int IntKind.i64 (List.getD
    x.acts x.i default).v), AV.v (Value.int IntKind.u32 (List.getD x.acts x.i default).set)] [AV.ptr (0 : Nat) (0 : Nat), AV.ptr (3 : Nat) (0 : Nat), AV.v (Value.int IntKind.i64 (List.getD
    x.acts x.i default).v), AV.v (Value.int IntKind.u32 (List.getD x.acts x.i default).set)] ∧ LeH [some (Blk.row [AV.v (Value.int IntKind.i64 x.f), AV.hs (1 : Nat) (0 : Nat) (List.length
    x.gv), AV.hs (2 : Nat) (0 : Nat) (List.length x.sn)]), some (Blk.arr (11 : Nat) (List.length (x.gv ++ x.jg)) (lsF Sh.c (x.gv ++ x.jg))), some (Blk.arr (1 : Nat) (List.length (x.sn ++
    x.js)) (lsF I64.c (x.sn ++ x.js))), some (Blk.row [AV.v (Value.int IntKind.i64 x.o), AV.v (Value.int IntKind.u32 x.bad), AV.hs (4 : Nat) (0 : Nat) (List.length x.l)]), some (Blk.arr (11
    : Nat) (List.length (x.l ++ x.j')) (lsF Sh.c (x.l ++ x.j')))] [some (Blk.row [AV.v (Value.int IntKind.i64 x.f), AV.hs (1 : Nat) (0 : Nat) (List.length (X3.K x).gv), AV.hs (2 : Nat) (0 :
    Nat) (List.length (X3.K x).sn)]), some (Blk.arr (11 : Nat) (List.length ((X3.K x).gv ++ (X3.K x).jg)) (lsF Sh.c ((X3.K x).gv ++ (X3.K x).jg))), some (Blk.arr (1 : Nat) (List.length
    ((X3.K x).sn ++ (X3.K x).js)) (lsF I64.c ((X3.K x).sn ++ (X3.K x).js))), some (Blk.row [AV.v (Value.int IntKind.i64 x.o), AV.v (Value.int IntKind.u32 x.bad), AV.hs (4 : Nat) (0 : Nat)
    (List.length x.l)]), some (Blk.arr (11 : Nat) (List.length (x.l ++ x.j')) (lsF Sh.c (x.l ++ x.j')))])) (Tree.br false (Tree.leaf (Out.mk AEx.ret [AV.sl (4 : Nat) (List.length x.acts)
    (lsF Ac.c x.acts), AV.ptr (0 : Nat) (0 : Nat), AV.ptr (3 : Nat) (0 : Nat), AV.ptr (5 : Nat) (0 : Nat), AV.ptr (7 : Nat) (0 : Nat), AV.v (Value.int IntKind.i64 (↑x.i : Int)), AV.v
    (Value.bool false)] [some (Blk.row [AV.v (Value.int IntKind.i64 x.o), AV.v (Value.int IntKind.u32 x.bad), AV.map (1 : Nat), AV.hs (2 : Nat) (0 : Nat) (List.length x.l)]), some (Blk.mp
    [Cel.int IntKind.i64, Cel.int IntKind.i64, Cel.int IntKind.i64, Cel.int IntKind.i64, Cel.int IntKind.i64, Cel.int IntKind.i64, Cel.int IntKind.i64, Cel.int IntKind.i64, Cel.int
    IntKind.i64, Cel.int IntKind.i64, Cel.int IntKind.i64] true false (List.length x.l) (hasS x.l) anyV), some (Blk.arr (11 : Nat) (List.length (x.l ++ x.j)) (lsF Sh.c (x.l ++ x.j))), some
    (Blk.row [AV.v (Value.int IntKind.i64 x.o), AV.v (Value.int IntKind.u32 x.bad), AV.hs (4 : Nat) (0 : Nat) (List.length x.l)]), some (Blk.arr (11 : Nat) (List.length (x.l ++ x.j')) (lsF
    Sh.c (x.l ++ x.j'))), some (Blk.row [AV.v (Value.int IntKind.i64 x.f), AV.map (6 : Nat)]), some (Blk.mp [Cel.int IntKind.i64] false true x.n (hasC x.gv x.sn) (valC x.f x.gv x.sn)), some
    (Blk.row [AV.v (Value.int IntKind.i64 x.f), AV.hs (8 : Nat) (0 : Nat) (List.length (X3.K x).gv), AV.hs (9 : Nat) (0 : Nat) (List.length (X3.K x).sn)]), some (Blk.arr (11 : Nat)
    (List.length ((X3.K x).gv ++ (X3.K x).jg)) (lsF Sh.c ((X3.K x).gv ++ (X3.K x).jg))), some (Blk.arr (1 : Nat) (List.length ((X3.K x).sn ++ (X3.K x).js)) (lsF I64.c ((X3.K x).sn ++ (X3.K
    x).js)))])) (Tree.chk (cl (LeL [AV.ptr (0 : Nat) (0 : Nat), AV.v (Value.int IntKind.i64 (List.getD x.acts x.i default).v)] [AV.ptr (0 : Nat) (0 : Nat), AV.v (Value.int IntKind.i64
    (List.getD x.acts x.i default).v)] ∧ LeH [some (Blk.row [AV.v (Value.int IntKind.i64 x.f), AV.map (1 : Nat)]), some (Blk.mp [Cel.int IntKind.i64] false true x.n (hasC x.gv x.sn) (valC
    x.f x.gv x.sn))] [some (Blk.row [AV.v (Value.int IntKind.i64 x.f), AV.map (1 : Nat)]), some (Blk.mp [Cel.int IntKind.i64] false true x.n (hasC x.gv x.sn) (valC x.f x.gv x.sn))]))
    (Tree.chk (cl (LeL [AV.ptr (0 : Nat) (0 : Nat), AV.v (Value.int IntKind.i64 (List.getD x.acts x.i default).v)] [AV.ptr (0 : Nat) (0 : Nat), AV.v (Value.int IntKind.i64 (List.getD x.acts
    x.i default).v)] ∧ LeH [some (Blk.row [AV.v (Value.int IntKind.i64 x.f), AV.hs (1 : Nat) (0 : Nat) (List.length (X3.K x).gv), AV.hs (2 : Nat) (0 : Nat) (List.length (X3.K x).sn)]), some
    (Blk.arr (11 : Nat) (List.length ((X3.K x).gv ++ (X3.K x).jg)) (lsF Sh.c ((X3.K x).gv ++ (X3.K x).jg))), some (Blk.arr (1 : Nat) (List.length ((X3.K x).sn ++ (X3.K x).js)) (lsF I64.c
    ((X3.K x).sn ++ (X3.K x).js)))] [some (Blk.row [AV.v (Value.int IntKind.i64 x.f), AV.hs (1 : Nat) (0 : Nat) (List.length (X3.K x).gv), AV.hs (2 : Nat) (0 : Nat) (List.length (X3.K
    x).sn)]), some (Blk.arr (11 : Nat) (List.length ((X3.K x).gv ++ (X3.K x).jg)) (lsF Sh.c ((X3.K x).gv ++ (X3.K x).jg))), some (Blk.arr (1 : Nat) (List.length ((X3.K x).sn ++ (X3.K x).js))
    (lsF I64.c ((X3.K x).sn ++ (X3.K x).js)))])) (Tree.br (!snB x.sn (List.getD x.acts x.i default).v == snB (X3.K x).sn (List.getD x.acts x.i default).v) (Tree.leaf (Out.mk AEx.ret [AV.sl
    (4 : Nat) (List.length x.acts) (lsF Ac.c x.acts), AV.ptr (0 : Nat) (0 : Nat), AV.ptr (3 : Nat) (0 : Nat), AV.ptr (5 : Nat) (0 : Nat), AV.ptr (7 : Nat) (0 : Nat), AV.v (Value.int
    IntKind.i64 (↑x.i : Int)), AV.v (Value.bool false)] [some (Blk.row [AV.v (Value.int IntKind.i64 x.o), AV.v (Value.int IntKind.u32 x.bad), AV.map (1 : Nat), AV.hs (2 : Nat) (0 : Nat)
    (List.length x.l)]), some (Blk.mp [Cel.int IntKind.i64, Cel.int IntKind.i64, Cel.int IntKind.i64, Cel.int IntKind.i64, Cel.int IntKind.i64, Cel.int IntKind.i64, Cel.int IntKind.i64,
    Cel.int IntKind.i64, Cel.int IntKind.i64, Cel.int IntKind.i64, Cel.int IntKind.i64] true false (List.length x.l) (hasS x.l) anyV), some (Blk.arr (11 : Nat) (List.length (x.l ++ x.j))
    (lsF Sh.c (x.l ++ x.j))), some (Blk.row [AV.v (Value.int IntKind.i64 x.o), AV.v (Value.int IntKind.u32 x.bad), AV.hs (4 : Nat) (0 : Nat) (List.length x.l)]), some (Blk.arr (11 : Nat)
    (List.length (x.l ++ x.j')) (lsF Sh.c (x.l ++ x.j'))), some (Blk.row [AV.v (Value.int IntKind.i64 x.f), AV.map (6 : Nat)]), some (Blk.mp [Cel.int IntKind.i64] false true x.n (hasC x.gv
    x.sn) (valC x.f x.gv x.sn)), some (Blk.row [AV.v (Value.int IntKind.i64 x.f), AV.hs (8 : Nat) (0 : Nat) (List.length (X3.K x).gv), AV.hs (9 : Nat) (0 : Nat) (List.length (X3.K x).sn)]),
    some (Blk.arr (11 : Nat) (List.length ((X3.K x).gv ++ (X3.K x).jg)) (lsF Sh.c ((X3.K x).gv ++ (X3.K x).jg))), some (Blk.arr (1 : Nat) (List.length ((X3.K x).sn ++ (X3.K x).js)) (lsF
    I64.c ((X3.K x).sn ++ (X3.K x).js)))])) (Tree.leaf (Out.mk AEx.normal [AV.sl (4 : Nat) (List.length x.acts) (lsF Ac.c x.acts), AV.ptr (0 : Nat) (0 : Nat), AV.ptr (3 : Nat) (0 : Nat),
    AV.ptr (5 : Nat) (0 : Nat), AV.ptr (7 : Nat) (0 : Nat), AV.v (Value.int IntKind.i64 (IntKind.wrap IntKind.i64 ((↑x.i : Int) + (1 : Int)))), AV.any] [some (Blk.row [AV.v (Value.int
    IntKind.i64 x.o), AV.v (Value.int IntKind.u32 x.bad), AV.map (1 : Nat), AV.hs (2 : Nat) (0 : Nat) (List.length x.l)]), some (Blk.mp [Cel.int IntKind.i64, Cel.int IntKind.i64, Cel.int
    IntKind.i64, Cel.int IntKind.i64, Cel.int IntKind.i64, Cel.int IntKind.i64, Cel.int IntKind.i64, Cel.int IntKind.i64, Cel.int IntKind.i64, Cel.int IntKind.i64, Cel.int IntKind.i64] true
    false (List.length x.l) (hasS x.l) anyV), some (Blk.arr (11 : Nat) (List.length (x.l ++ x.j)) (lsF Sh.c (x.l ++ x.j))), some (Blk.row [AV.v (Value.int IntKind.i64 x.o), AV.v (Value.int
    IntKind.u32 x.bad), AV.hs (4 : Nat) (0 : Nat) (List.length x.l)]), some (Blk.arr (11 : Nat) (List.length (x.l ++ x.j')) (lsF Sh.c (x.l ++ x.j'))), some (Blk.row [AV.v (Value.int
    IntKind.i64 x.f), AV.map (6 : Nat)]), some (Blk.mp [Cel.int IntKind.i64] false true x.n (hasC x.gv x.sn) (valC x.f x.gv x.sn)), some (Blk.row [AV.v (Value.int IntKind.i64 x.f), AV.hs (8
    : Nat) (0 : Nat) (List.length (X3.K x).gv), AV.hs (9 : Nat) (0 : Nat) (List.length (X3.K x).sn)]), some (Blk.arr (11 : Nat) (List.length ((X3.K x).gv ++ (X3.K x).jg)) (lsF Sh.c ((X3.K
    x).gv ++ (X3.K x).jg))), some (Blk.arr (1 : Nat) (List.length ((X3.K x).sn ++ (X3.K x).js)) (lsF I64.c ((X3.K x).sn ++ (X3.K x).js)))])))))))) (Tree.br (decide ((List.getD x.acts x.i
    default).k = (2 : Int))) Tree.fail (Tree.chk (cl (LeL [AV.ptr (0 : Nat) (0 : Nat), AV.v (Value.int IntKind.i64 (List.getD x.acts x.i default).v)] [AV.ptr (0 : Nat) (0 : Nat), AV.v
    (Value.int IntKind.i64 (List.getD x.acts x.i default).v)] ∧ LeH [some (Blk.row [AV.v (Value.int IntKind.i64 x.f), AV.map (1 : Nat)]), some (Blk.mp [Cel.int IntKind.i64] false true x.n
    (hasC x.gv x.sn) (valC x.f x.gv x.sn))] [some (Blk.row [AV.v (Value.int IntKind.i64 x.f), AV.map (1 : Nat)]), some (Blk.mp [Cel.int IntKind.i64] false true x.n (hasC x.gv x.sn) (valC x.f
    x.gv x.sn))])) (Tree.chk (cl (LeL [AV.ptr (0 : Nat) (0 : Nat), AV.v (Value.int IntKind.i64 (List.getD x.acts x.i default).v)] [AV.ptr (0 : Nat) (0 : Nat), AV.v (Value.int IntKind.i64
    (List.getD x.acts x.i default).v)] ∧ LeH [some (Blk.row [AV.v (Value.int IntKind.i64 x.f), AV.hs (1 : Nat) (0 : Nat) (List.length x.gv), AV.hs (2 : Nat) (0 : Nat) (List.length x.sn)]),
    some (Blk.arr (11 : Nat) (List.length (x.gv ++ x.jg)) (lsF Sh.c (x.gv ++ x.jg))), some (Blk.arr (1 : Nat) (List.length (x.sn ++ x.js)) (lsF I64.c (x.sn ++ x.js)))] [some (Blk.row [AV.v
    (Value.int IntKind.i64 x.f), AV.hs (1 : Nat) (0 : Nat) (List.length (X3.K x).gv), AV.hs (2 : Nat) (0 : Nat) (List.length (X3.K x).sn)]), some (Blk.arr (11 : Nat) (List.length ((X3.K
    x).gv ++ (X3.K x).jg)) (lsF Sh.c ((X3.K x).gv ++ (X3.K x).jg))), some (Blk.arr (1 : Nat) (List.length ((X3.K x).sn ++ (X3.K x).js)) (lsF I64.c ((X3.K x).sn ++ (X3.K x).js)))])) (Tree.br
    (!snB x.sn (List.getD x.acts x.i default).v == snB (X3.K x).sn (List.getD x.acts x.i default).v) (Tree.leaf (Out.mk AEx.ret [AV.sl (4 : Nat) (List.length x.acts) (lsF Ac.c x.acts),
    AV.ptr (0 : Nat) (0 : Nat), AV.ptr (3 : Nat) (0 : Nat), AV.ptr (5 : Nat) (0 : Nat), AV.ptr (7 : Nat) (0 : Nat), AV.v (Value.int IntKind.i64 (↑x.i : Int)), AV.v (Value.bool false)] [some
    (Blk.row [AV.v (Value.int IntKind.i64 x.o), AV.v (Value.int IntKind.u32 x.bad), AV.map (1 : Nat), AV.hs (2 : Nat) (0 : Nat) (List.length x.l)]), some (Blk.mp [Cel.int IntKind.i64,
    Cel.int IntKind.i64, Cel.int IntKind.i64, Cel.int IntKind.i64, Cel.int IntKind.i64, Cel.int IntKind.i64, Cel.int IntKind.i64, Cel.int IntKind.i64, Cel.int IntKind.i64, Cel.int
    IntKind.i64, Cel.int IntKind.i64] true false (List.length x.l) (hasS x.l) anyV), some (Blk.arr (11 : Nat) (List.length (x.l ++ x.j)) (lsF Sh.c (x.l ++ x.j))), some (Blk.row [AV.v
    (Value.int IntKind.i64 x.o), AV.v (Value.int IntKind.u32 x.bad), AV.hs (4 : Nat) (0 : Nat) (List.length x.l)]), some (Blk.arr (11 : Nat) (List.length (x.l ++ x.j')) (lsF Sh.c (x.l ++
    x.j'))), some (Blk.row [AV.v (Value.int IntKind.i64 x.f), AV.map (6 : Nat)]), some (Blk.mp [Cel.int IntKind.i64] false true x.n (hasC x.gv x.sn) (valC x.f x.gv x.sn)), some (Blk.row
    [AV.v (Value.int IntKind.i64 x.f), AV.hs (8 : Nat) (0 : Nat) (List.length (X3.K x).gv), AV.hs (9 : Nat) (0 : Nat) (List.length (X3.K x).sn)]), some (Blk.arr (11 : Nat) (List.length
    ((X3.K x).gv ++ (X3.K x).jg)) (lsF Sh.c ((X3.K x).gv ++ (X3.K x).jg))), some (Blk.arr (1 : Nat) (List.length ((X3.K x).sn ++ (X3.K x).js)) (lsF I64.c ((X3.K x).sn ++ (X3.K x).js)))]))
    (Tree.leaf (Out.mk AEx.normal [AV.sl (4 : Nat) (List.length x.acts) (lsF Ac.c x.acts), AV.ptr (0 : Nat) (0 : Nat), AV.ptr (3 : Nat) (0 : Nat), AV.ptr (5 : Nat) (0 : Nat), AV.ptr (7 :
    Nat) (0 : Nat), AV.v (Value.int IntKind.i64 (IntKind.wrap IntKind.i64 ((↑x.i : Int) + (1 : Int)))), AV.any] [some (Blk.row [AV.v (Value.int IntKind.i64 x.o), AV.v (Value.int IntKind.u32
    x.bad), AV.map (1 : Nat), AV.hs (2 : Nat) (0 : Nat) (List.length x.l)]), some (Blk.mp [Cel.int IntKind.i64, Cel.int IntKind.i64, Cel.int IntKind.i64, Cel.int IntKind.i64, Cel.int
    IntKind.i64, Cel.int IntKind.i64, Cel.int IntKind.i64, Cel.int IntKind.i64, Cel.int IntKind.i64, Cel.int IntKind.i64, Cel.int IntKind.i64] true false (List.length x.l) (hasS x.l) anyV),
    some (Blk.arr (11 : Nat) (List.length (x.l ++ x.j)) (lsF Sh.c (x.l ++ x.j))), some (Blk.row [AV.v (Value.int IntKind.i64 x.o), AV.v (Value.int IntKind.u32 x.bad), AV.hs (4 : Nat) (0 :
    Nat) (List.length x.l)]), some (Blk.arr (11 : Nat) (List.length (x.l ++ x.j')) (lsF Sh.c (x.l ++ x.j'))), some (Blk.row [AV.v (Value.int IntKind.i64 x.f), AV.map (6 : Nat)]), some
    (Blk.mp [Cel.int IntKind.i64] false true x.n (hasC x.gv x.sn) (valC x.f x.gv x.sn)), some (Blk.row [AV.v (Value.int IntKind.i64 x.f), AV.hs (8 : Nat) (0 : Nat) (List.length (X3.K x).gv),
    AV.hs (9 : Nat) (0 : Nat) (List.length (X3.K x).sn)]), some (Blk.arr (11 : Nat) (List.length ((X3.K x).gv ++ (X3.K x).jg)) (lsF Sh.c ((X3.K x).gv ++ (X3.K x).jg))), some (Blk.arr (1 :
    Nat) (List.length ((X3.K x).sn ++ (X3.K x).js)) (lsF I64.c ((X3.K x).sn ++ (X3.K x).js)))]))))))))) (Tree.leaf (Out.mk (AEx.exit (0 : Nat)) [AV.sl (4 : Nat) (List.length x.acts) (lsF
    Ac.c x.acts), AV.ptr (0 : Nat) (0 : Nat), AV.ptr (3 : Nat) (0 : Nat), AV.ptr (5 : Nat) (0 : Nat), AV.ptr (7 : Nat) (0 : Nat), AV.v (Value.int IntKind.i64 (↑x.i : Int)), AV.any] [some
    (Blk.row [AV.v (Value.int IntKind.i64 x.o), AV.v (Value.int IntKind.u32 x.bad), AV.map (1 : Nat), AV.hs (2 : Nat) (0 : Nat) (List.length x.l)]), some (Blk.mp [Cel.int IntKind.i64,
    Cel.int IntKind.i64, Cel.int IntKind.i64, Cel.int IntKind.i64, Cel.int IntKind.i64, Cel.int IntKind.i64, Cel.int IntKind.i64, Cel.int IntKind.i64, Cel.int IntKind.i64, Cel.int
    IntKind.i64, Cel.int IntKind.i64] true false (List.length x.l) (hasS x.l) anyV), some (Blk.arr (11 : Nat) (List.length (x.l ++ x.j)) (lsF Sh.c (x.l ++ x.j))), some (Blk.row [AV.v
    (Value.int IntKind.i64 x.o), AV.v (Value.int IntKind.u32 x.bad), AV.hs (4 : Nat) (0 : Nat) (List.length x.l)]), some (Blk.arr (11 : Nat) (List.length (x.l ++ x.j')) (lsF Sh.c (x.l ++
    x.j'))), some (Blk.row [AV.v (Value.int IntKind.i64 x.f), AV.map (6 : Nat)]), some (Blk.mp [Cel.int IntKind.i64] false true x.n (hasC x.gv x.sn) (valC x.f x.gv x.sn)), some (Blk.row
    [AV.v (Value.int IntKind.i64 x.f), AV.hs (8 : Nat) (0 : Nat) (List.length x.gv), AV.hs (9 : Nat) (0 : Nat) (List.length x.sn)]), some (Blk.arr (11 : Nat) (List.length (x.gv ++ x.jg))
    (lsF Sh.c (x.gv ++ x.jg))), some (Blk.arr (1 : Nat) (List.length (x.sn ++ x.js)) (lsF I64.c (x.sn ++ x.js)))])) := by kernel_rfl
theorem qsF (x : X3) (hs : x.sn.length ≤ 100000) (hg : x.gv.length ≤ 100000) (hv : ¬ badV (x.acts.getD x.i default).v) (hf : ¬ x.o = x.f) : roundE (P := Tryd.prog) (Γ := Γc) [CT.at 13 (ansSeeF (s := (x.acts.getD x.i default).set) (f := x.f) (gv := x.gv) (sn := x.sn) (n := x.n) (l := x.l) (j := x.j) (o := x.o) (bad := x.bad) hv hf), CT.at 14 (ansSeeRF (x := x.K) (s := (x.acts.getD x.i default).set) (l := x.l) (j := x.j') (o := x.o) (bad := x.bad) hv hf), CT.at 18 (ansSeen (v := (x.acts.getD x.i default).v) (f := x.f) (gv := x.gv) (sn := x.sn) (n := x.n)), CT.at 19 (ansWas (x := x.K) (v := (x.acts.getD x.i default).v) hs)] Lno false 0 0 lp3 lv3 nl3 161 (S31 x).1 (S31 x).2 =
  Tree.br (bif decide ((↑x.i : Int) < (↑(List.length x.acts) : Int)) then true else false) (Tree.chk (decide ((0 : Int) ≤ (↑x.i : Int)) && decide ((↑x.i : Int) < (↑(List.length x.acts) :
    Int))) (Tree.br (decide ((List.getD x.acts x.i default).k = (0 : Int))) Tree.fail (Tree.br (decide ((List.getD x.acts x.i default).k = (1 : Int))) (Tree.chk (cl (LeL [AV.ptr (0 : Nat) (0
    : Nat), AV.ptr (2 : Nat) (0 : Nat), AV.v (Value.int IntKind.i64 (List.getD x.acts x.i default).v), AV.v (Value.int IntKind.u32 (List.getD x.acts x.i default).set)] [AV.ptr (0 : Nat) (0 :
    Nat), AV.ptr (2 : Nat) (0 : Nat), AV.v (Value.int IntKind.i64 (List.getD x.acts x.i default).v), AV.v (Value.int IntKind.u32 (List.getD x.acts x.i default).set)] ∧ LeH [some (Blk.row
    [AV.v (Value.int IntKind.i64 x.f), AV.map (1 : Nat)]), some (Blk.mp [Cel.int IntKind.i64] false true x.n (hasC x.gv x.sn) (valC x.f x.gv x.sn)), some (Blk.row [AV.v (Value.int
    IntKind.i64 x.o), AV.v (Value.int IntKind.u32 x.bad), AV.map (3 : Nat), AV.hs (4 : Nat) (0 : Nat) (List.length x.l)]), some (Blk.mp [Cel.int IntKind.i64, Cel.int IntKind.i64, Cel.int
    IntKind.i64, Cel.int IntKind.i64, Cel.int IntKind.i64, Cel.int IntKind.i64, Cel.int IntKind.i64, Cel.int IntKind.i64, Cel.int IntKind.i64, Cel.int IntKind.i64, Cel.int IntKind.i64] true
    false (List.length x.l) (hasS x.l) anyV), some (Blk.arr (11 : Nat) (List.length (x.l ++ x.j)) (lsF Sh.c (x.l ++ x.j)))] [some (Blk.row [AV.v (Value.int IntKind.i64 x.f), AV.map (1 :
    Nat)]), some (Blk.mp [Cel.int IntKind.i64] false true x.n (hasC x.gv x.sn) (valC x.f x.gv x.sn)), some (Blk.row [AV.v (Value.int IntKind.i64 x.o), AV.v (Value.int IntKind.u32 x.bad),
    AV.map (3 : Nat), AV.hs (4 : Nat) (0 : Nat) (List.length x.l)]), some (Blk.mp [Cel.int IntKind.i64, Cel.int IntKind.i64, Cel.int IntKind.i64, Cel.int IntKind.i64, Cel.int IntKind.i64,
    Cel.int IntKind.i64, Cel.int IntKind.i64, Cel.int IntKind.i64, Cel.int IntKind.i64, Cel.int IntKind.i64, Cel.int IntKind.i64] true false (List.length x.l) (hasS x.l) anyV), some (Blk.arr
    (11 : Nat) (List.length (x.l ++ x.j)) (lsF Sh.c (x.l ++ x.j)))])) (Tree.chk (cl (LeL [AV.ptr (0 : Nat) (0 : Nat), AV.ptr (3 : Nat) (0 : Nat), AV.v (Value.int IntKind.i64 (List.getD
    x.acts x.i default).v), AV.v (Value.int IntKind.u32 (List.getD x.acts x.i default).set)] [AV.ptr (0 : Nat) (0 : Nat), AV.ptr (3 : Nat) (0 : Nat), AV.v (Value.int IntKind.i64 (List.getD
    x.acts x.i default).v), AV.v (Value.int IntKind.u32 (List.getD x.acts x.i default).set)] ∧ LeH [some (Blk.row [AV.v (Value.int IntKind.i64 x.f), AV.hs (1 : Nat) (0 : Nat) (List.length
    x.gv), AV.hs (2 : Nat) (0 : Nat) (List.length x.sn)]), some (Blk.arr (11 : Nat) (List.length (x.gv ++ x.jg)) (lsF Sh.c (x.gv ++ x.jg))), some (Blk.arr (1 : Nat) (List.length (x.sn ++
    x.js)) (lsF I64.c (x.sn ++ x.js))), some (Blk.row [AV.v (Value.int IntKind.i64 x.o), AV.v (Value.int IntKind.u32 x.bad), AV.hs (4 : Nat) (0 : Nat) (List.length x.l)]), some (Blk.arr (11
    : Nat) (List.length (x.l ++ x.j')) (lsF Sh.c (x.l ++ x.j')))] [some (Blk.row [AV.v (Value.int IntKind.i64 x.f), AV.hs (1 : Nat) (0 : Nat) (List.length (X3.K x).gv), AV.hs (2 : Nat) (0 :
    Nat) (List.length (X3.K x).sn)]), some (Blk.arr (11 : Nat) (List.length ((X3.K x).gv ++ (X3.K x).jg)) (lsF Sh.c ((X3.K x).gv ++ (X3.K x).jg))), some (Blk.arr (1 : Nat) (List.length
    ((X3.K x).sn ++ (X3.K x).js)) (lsF I64.c ((X3.K x).sn ++ (X3.K x).js))), some (Blk.row [AV.v (Value.int IntKind.i64 x.o), AV.v (Value.int IntKind.u32 x.bad), AV.hs (4 : Nat) (0 : Nat)
    (List.length x.l)]), some (Blk.arr (11 : Nat) (List.length (x.l ++ x.j')) (lsF Sh.c (x.l ++ x.j')))])) (Tree.br false (Tree.leaf (Out.mk AEx.ret [AV.sl (4 : Nat) (List.length x.acts)
    (lsF Ac.c x.acts), AV.ptr (0 : Nat) (0 : Nat), AV.ptr (3 : Nat) (0 : Nat), AV.ptr (5 : Nat) (0 : Nat), AV.ptr (7 : Nat) (0 : Nat), AV.v (Value.int IntKind.i64 (↑x.i : Int)), AV.v
    (Value.bool false)] [some (Blk.row [AV.v (Value.int IntKind.i64 x.o), AV.v (Value.int IntKind.u32 x.bad), AV.map (1 : Nat), AV.hs (2 : Nat) (0 : Nat) (List.length x.l)]), some (Blk.mp
    [Cel.int IntKind.i64, Cel.int IntKind.i64, Cel.int IntKind.i64, Cel.int IntKind.i64, Cel.int IntKind.i64, Cel.int IntKind.i64, Cel.int IntKind.i64, Cel.int IntKind.i64, Cel.int
    IntKind.i64, Cel.int IntKind.i64, Cel.int IntKind.i64] true false (List.length x.l) (hasS x.l) anyV), some (Blk.arr (11 : Nat) (List.length (x.l ++ x.j)) (lsF Sh.c (x.l ++ x.j))), some
    (Blk.row [AV.v (Value.int IntKind.i64 x.o), AV.v (Value.int IntKind.u32 x.bad), AV.hs (4 : Nat) (0 : Nat) (List.length x.l)]), some (Blk.arr (11 : Nat) (List.length (x.l ++ x.j')) (lsF
    Sh.c (x.l ++ x.j'))), some (Blk.row [AV.v (Value.int IntKind.i64 x.f), AV.map (6 : Nat)]), some (Blk.mp [Cel.int IntKind.i64] false true x.n (hasC x.gv x.sn) (valC x.f x.gv x.sn)), some
    (Blk.row [AV.v (Value.int IntKind.i64 x.f), AV.hs (8 : Nat) (0 : Nat) (List.length (X3.K x).gv), AV.hs (9 : Nat) (0 : Nat) (List.length (X3.K x).sn)]), some (Blk.arr (11 : Nat)
    (List.length ((X3.K x).gv ++ (X3.K x).jg)) (lsF Sh.c ((X3.K x).gv ++ (X3.K x).jg))), some (Blk.arr (1 : Nat) (List.length ((X3.K x).sn ++ (X3.K x).js)) (lsF I64.c ((X3.K x).sn ++ (X3.K
    x).js)))])) (Tree.chk (cl (LeL [AV.ptr (0 : Nat) (0 : Nat), AV.v (Value.int IntKind.i64 (List.getD x.acts x.i default).v)] [AV.ptr (0 : Nat) (0 : Nat), AV.v (Value.int IntKind.i64
    (List.getD x.acts x.i default).v)] ∧ LeH [some (Blk.row [AV.v (Value.int IntKind.i64 x.f), AV.map (1 : Nat)]), some (Blk.mp [Cel.int IntKind.i64] false true x.n (hasC x.gv x.sn) (valC
    x.f x.gv x.sn))] [some (Blk.row [AV.v (Value.int IntKind.i64 x.f), AV.map (1 : Nat)]), some (Blk.mp [Cel.int IntKind.i64] false true x.n (hasC x.gv x.sn) (valC x.f x.gv x.sn))]))
    (Tree.chk (cl (LeL [AV.ptr (0 : Nat) (0 : Nat), AV.v (Value.int IntKind.i64 (List.getD x.acts x.i default).v)] [AV.ptr (0 : Nat) (0 : Nat), AV.v (Value.int IntKind.i64 (List.getD x.acts
    x.i default).v)] ∧ LeH [some (Blk.row [AV.v (Value.int IntKind.i64 x.f), AV.hs (1 : Nat) (0 : Nat) (List.length (X3.K x).gv), AV.hs (2 : Nat) (0 : Nat) (List.length (X3.K x).sn)]), some
    (Blk.arr (11 : Nat) (List.length ((X3.K x).gv ++ (X3.K x).jg)) (lsF Sh.c ((X3.K x).gv ++ (X3.K x).jg))), some (Blk.arr (1 : Nat) (List.length ((X3.K x).sn ++ (X3.K x).js)) (lsF I64.c
    ((X3.K x).sn ++ (X3.K x).js)))] [some (Blk.row [AV.v (Value.int IntKind.i64 x.f), AV.hs (1 : Nat) (0 : Nat) (List.length (X3.K x).gv), AV.hs (2 : Nat) (0 : Nat) (List.length (X3.K
    x).sn)]), some (Blk.arr (11 : Nat) (List.length ((X3.K x).gv ++ (X3.K x).jg)) (lsF Sh.c ((X3.K x).gv ++ (X3.K x).jg))), some (Blk.arr (1 : Nat) (List.length ((X3.K x).sn ++ (X3.K x).js))
    (lsF I64.c ((X3.K x).sn ++ (X3.K x).js)))])) (Tree.br (!snB x.sn (List.getD x.acts x.i default).v == snB (X3.K x).sn (List.getD x.acts x.i default).v) (Tree.leaf (Out.mk AEx.ret [AV.sl
    (4 : Nat) (List.length x.acts) (lsF Ac.c x.acts), AV.ptr (0 : Nat) (0 : Nat), AV.ptr (3 : Nat) (0 : Nat), AV.ptr (5 : Nat) (0 : Nat), AV.ptr (7 : Nat) (0 : Nat), AV.v (Value.int
    IntKind.i64 (↑x.i : Int)), AV.v (Value.bool false)] [some (Blk.row [AV.v (Value.int IntKind.i64 x.o), AV.v (Value.int IntKind.u32 x.bad), AV.map (1 : Nat), AV.hs (2 : Nat) (0 : Nat)
    (List.length x.l)]), some (Blk.mp [Cel.int IntKind.i64, Cel.int IntKind.i64, Cel.int IntKind.i64, Cel.int IntKind.i64, Cel.int IntKind.i64, Cel.int IntKind.i64, Cel.int IntKind.i64,
    Cel.int IntKind.i64, Cel.int IntKind.i64, Cel.int IntKind.i64, Cel.int IntKind.i64] true false (List.length x.l) (hasS x.l) anyV), some (Blk.arr (11 : Nat) (List.length (x.l ++ x.j))
    (lsF Sh.c (x.l ++ x.j))), some (Blk.row [AV.v (Value.int IntKind.i64 x.o), AV.v (Value.int IntKind.u32 x.bad), AV.hs (4 : Nat) (0 : Nat) (List.length x.l)]), some (Blk.arr (11 : Nat)
    (List.length (x.l ++ x.j')) (lsF Sh.c (x.l ++ x.j'))), some (Blk.row [AV.v (Value.int IntKind.i64 x.f), AV.map (6 : Nat)]), some (Blk.mp [Cel.int IntKind.i64] false true x.n (hasC x.gv
    x.sn) (valC x.f x.gv x.sn)), some (Blk.row [AV.v (Value.int IntKind.i64 x.f), AV.hs (8 : Nat) (0 : Nat) (List.length (X3.K x).gv), AV.hs (9 : Nat) (0 : Nat) (List.length (X3.K x).sn)]),
    some (Blk.arr (11 : Nat) (List.length ((X3.K x).gv ++ (X3.K x).jg)) (lsF Sh.c ((X3.K x).gv ++ (X3.K x).jg))), some (Blk.arr (1 : Nat) (List.length ((X3.K x).sn ++ (X3.K x).js)) (lsF
    I64.c ((X3.K x).sn ++ (X3.K x).js)))])) (Tree.leaf (Out.mk AEx.normal [AV.sl (4 : Nat) (List.length x.acts) (lsF Ac.c x.acts), AV.ptr (0 : Nat) (0 : Nat), AV.ptr (3 : Nat) (0 : Nat),
    AV.ptr (5 : Nat) (0 : Nat), AV.ptr (7 : Nat) (0 : Nat), AV.v (Value.int IntKind.i64 (IntKind.wrap IntKind.i64 ((↑x.i : Int) + (1 : Int)))), AV.any] [some (Blk.row [AV.v (Value.int
    IntKind.i64 x.o), AV.v (Value.int IntKind.u32 x.bad), AV.map (1 : Nat), AV.hs (2 : Nat) (0 : Nat) (List.length x.l)]), some (Blk.mp [Cel.int IntKind.i64, Cel.int IntKind.i64, Cel.int
    IntKind.i64, Cel.int IntKind.i64, Cel.int IntKind.i64, Cel.int IntKind.i64, Cel.int IntKind.i64, Cel.int IntKind.i64, Cel.int IntKind.i64, Cel.int IntKind.i64, Cel.int IntKind.i64] true
    false (List.length x.l) (hasS x.l) anyV), some (Blk.arr (11 : Nat) (List.length (x.l ++ x.j)) (lsF Sh.c (x.l ++ x.j))), some (Blk.row [AV.v (Value.int IntKind.i64 x.o), AV.v (Value.int
    IntKind.u32 x.bad), AV.hs (4 : Nat) (0 : Nat) (List.length x.l)]), some (Blk.arr (11 : Nat) (List.length (x.l ++ x.j')) (lsF Sh.c (x.l ++ x.j'))), some (Blk.row [AV.v (Value.int
    IntKind.i64 x.f), AV.map (6 : Nat)]), some (Blk.mp [Cel.int IntKind.i64] false true x.n (hasC x.gv x.sn) (valC x.f x.gv x.sn)), some (Blk.row [AV.v (Value.int IntKind.i64 x.f), AV.hs (8
    : Nat) (0 : Nat) (List.length (X3.K x).gv), AV.hs (9 : Nat) (0 : Nat) (List.length (X3.K x).sn)]), some (Blk.arr (11 : Nat) (List.length ((X3.K x).gv ++ (X3.K x).jg)) (lsF Sh.c ((X3.K
    x).gv ++ (X3.K x).jg))), some (Blk.arr (1 : Nat) (List.length ((X3.K x).sn ++ (X3.K x).js)) (lsF I64.c ((X3.K x).sn ++ (X3.K x).js)))])))))))) (Tree.br (decide ((List.getD x.acts x.i
    default).k = (2 : Int))) Tree.fail (Tree.chk (cl (LeL [AV.ptr (0 : Nat) (0 : Nat), AV.v (Value.int IntKind.i64 (List.getD x.acts x.i default).v)] [AV.ptr (0 : Nat) (0 : Nat), AV.v
    (Value.int IntKind.i64 (List.getD x.acts x.i default).v)] ∧ LeH [some (Blk.row [AV.v (Value.int IntKind.i64 x.f), AV.map (1 : Nat)]), some (Blk.mp [Cel.int IntKind.i64] false true x.n
    (hasC x.gv x.sn) (valC x.f x.gv x.sn))] [some (Blk.row [AV.v (Value.int IntKind.i64 x.f), AV.map (1 : Nat)]), some (Blk.mp [Cel.int IntKind.i64] false true x.n (hasC x.gv x.sn) (valC x.f
    x.gv x.sn))])) (Tree.chk (cl (LeL [AV.ptr (0 : Nat) (0 : Nat), AV.v (Value.int IntKind.i64 (List.getD x.acts x.i default).v)] [AV.ptr (0 : Nat) (0 : Nat), AV.v (Value.int IntKind.i64
    (List.getD x.acts x.i default).v)] ∧ LeH [some (Blk.row [AV.v (Value.int IntKind.i64 x.f), AV.hs (1 : Nat) (0 : Nat) (List.length x.gv), AV.hs (2 : Nat) (0 : Nat) (List.length x.sn)]),
    some (Blk.arr (11 : Nat) (List.length (x.gv ++ x.jg)) (lsF Sh.c (x.gv ++ x.jg))), some (Blk.arr (1 : Nat) (List.length (x.sn ++ x.js)) (lsF I64.c (x.sn ++ x.js)))] [some (Blk.row [AV.v
    (Value.int IntKind.i64 x.f), AV.hs (1 : Nat) (0 : Nat) (List.length (X3.K x).gv), AV.hs (2 : Nat) (0 : Nat) (List.length (X3.K x).sn)]), some (Blk.arr (11 : Nat) (List.length ((X3.K
    x).gv ++ (X3.K x).jg)) (lsF Sh.c ((X3.K x).gv ++ (X3.K x).jg))), some (Blk.arr (1 : Nat) (List.length ((X3.K x).sn ++ (X3.K x).js)) (lsF I64.c ((X3.K x).sn ++ (X3.K x).js)))])) (Tree.br
    (!snB x.sn (List.getD x.acts x.i default).v == snB (X3.K x).sn (List.getD x.acts x.i default).v) (Tree.leaf (Out.mk AEx.ret [AV.sl (4 : Nat) (List.length x.acts) (lsF Ac.c x.acts),
    AV.ptr (0 : Nat) (0 : Nat), AV.ptr (3 : Nat) (0 : Nat), AV.ptr (5 : Nat) (0 : Nat), AV.ptr (7 : Nat) (0 : Nat), AV.v (Value.int IntKind.i64 (↑x.i : Int)), AV.v (Value.bool false)] [some
    (Blk.row [AV.v (Value.int IntKind.i64 x.o), AV.v (Value.int IntKind.u32 x.bad), AV.map (1 : Nat), AV.hs (2 : Nat) (0 : Nat) (List.length x.l)]), some (Blk.mp [Cel.int IntKind.i64,
    Cel.int IntKind.i64, Cel.int IntKind.i64, Cel.int IntKind.i64, Cel.int IntKind.i64, Cel.int IntKind.i64, Cel.int IntKind.i64, Cel.int IntKind.i64, Cel.int IntKind.i64, Cel.int
    IntKind.i64, Cel.int IntKind.i64] true false (List.length x.l) (hasS x.l) anyV), some (Blk.arr (11 : Nat) (List.length (x.l ++ x.j)) (lsF Sh.c (x.l ++ x.j))), some (Blk.row [AV.v
    (Value.int IntKind.i64 x.o), AV.v (Value.int IntKind.u32 x.bad), AV.hs (4 : Nat) (0 : Nat) (List.length x.l)]), some (Blk.arr (11 : Nat) (List.length (x.l ++ x.j')) (lsF Sh.c (x.l ++
    x.j'))), some (Blk.row [AV.v (Value.int IntKind.i64 x.f), AV.map (6 : Nat)]), some (Blk.mp [Cel.int IntKind.i64] false true x.n (hasC x.gv x.sn) (valC x.f x.gv x.sn)), some (Blk.row
    [AV.v (Value.int IntKind.i64 x.f), AV.hs (8 : Nat) (0 : Nat) (List.length (X3.K x).gv), AV.hs (9 : Nat) (0 : Nat) (List.length (X3.K x).sn)]), some (Blk.arr (11 : Nat) (List.length
    ((X3.K x).gv ++ (X3.K x).jg)) (lsF Sh.c ((X3.K x).gv ++ (X3.K x).jg))), some (Blk.arr (1 : Nat) (List.length ((X3.K x).sn ++ (X3.K x).js)) (lsF I64.c ((X3.K x).sn ++ (X3.K x).js)))]))
    (Tree.leaf (Out.mk AEx.normal [AV.sl (4 : Nat) (List.length x.acts) (lsF Ac.c x.acts), AV.ptr (0 : Nat) (0 : Nat), AV.ptr (3 : Nat) (0 : Nat), AV.ptr (5 : Nat) (0 : Nat), AV.ptr (7 :
    Nat) (0 : Nat), AV.v (Value.int IntKind.i64 (IntKind.wrap IntKind.i64 ((↑x.i : Int) + (1 : Int)))), AV.any] [some (Blk.row [AV.v (Value.int IntKind.i64 x.o), AV.v (Value.int IntKind.u32
    x.bad), AV.map (1 : Nat), AV.hs (2 : Nat) (0 : Nat) (List.length x.l)]), some (Blk.mp [Cel.int IntKind.i64, Cel.int IntKind.i64, Cel.int IntKind.i64, Cel.int IntKind.i64, Cel.int
    IntKind.i64, Cel.int IntKind.i64, Cel.int IntKind.i64, Cel.int IntKind.i64, Cel.int IntKind.i64, Cel.int IntKind.i64, Cel.int IntKind.i64] true false (List.length x.l) (hasS x.l) anyV),
    some (Blk.arr (11 : Nat) (List.length (x.l ++ x.j)) (lsF Sh.c (x.l ++ x.j))), some (Blk.row [AV.v (Value.int IntKind.i64 x.o), AV.v (Value.int IntKind.u32 x.bad), AV.hs (4 : Nat) (0 :
    Nat) (List.length x.l)]), some (Blk.arr (11 : Nat) (List.length (x.l ++ x.j')) (lsF Sh.c (x.l ++ x.j'))), some (Blk.row [AV.v (Value.int IntKind.i64 x.f), AV.map (6 : Nat)]), some
    (Blk.mp [Cel.int IntKind.i64] false true x.n (hasC x.gv x.sn) (valC x.f x.gv x.sn)), some (Blk.row [AV.v (Value.int IntKind.i64 x.f), AV.hs (8 : Nat) (0 : Nat) (List.length (X3.K x).gv),
    AV.hs (9 : Nat) (0 : Nat) (List.length (X3.K x).sn)]), some (Blk.arr (11 : Nat) (List.length ((X3.K x).gv ++ (X3.K x).jg)) (lsF Sh.c ((X3.K x).gv ++ (X3.K x).jg))), some (Blk.arr (1 :
    Nat) (List.length ((X3.K x).sn ++ (X3.K x).js)) (lsF I64.c ((X3.K x).sn ++ (X3.K x).js)))]))))))))) (Tree.leaf (Out.mk (AEx.exit (0 : Nat)) [AV.sl (4 : Nat) (List.length x.acts) (lsF
    Ac.c x.acts), AV.ptr (0 : Nat) (0 : Nat), AV.ptr (3 : Nat) (0 : Nat), AV.ptr (5 : Nat) (0 : Nat), AV.ptr (7 : Nat) (0 : Nat), AV.v (Value.int IntKind.i64 (↑x.i : Int)), AV.any] [some
    (Blk.row [AV.v (Value.int IntKind.i64 x.o), AV.v (Value.int IntKind.u32 x.bad), AV.map (1 : Nat), AV.hs (2 : Nat) (0 : Nat) (List.length x.l)]), some (Blk.mp [Cel.int IntKind.i64,
    Cel.int IntKind.i64, Cel.int IntKind.i64, Cel.int IntKind.i64, Cel.int IntKind.i64, Cel.int IntKind.i64, Cel.int IntKind.i64, Cel.int IntKind.i64, Cel.int IntKind.i64, Cel.int
    IntKind.i64, Cel.int IntKind.i64] true false (List.length x.l) (hasS x.l) anyV), some (Blk.arr (11 : Nat) (List.length (x.l ++ x.j)) (lsF Sh.c (x.l ++ x.j))), some (Blk.row [AV.v
    (Value.int IntKind.i64 x.o), AV.v (Value.int IntKind.u32 x.bad), AV.hs (4 : Nat) (0 : Nat) (List.length x.l)]), some (Blk.arr (11 : Nat) (List.length (x.l ++ x.j')) (lsF Sh.c (x.l ++
    x.j'))), some (Blk.row [AV.v (Value.int IntKind.i64 x.f), AV.map (6 : Nat)]), some (Blk.mp [Cel.int IntKind.i64] false true x.n (hasC x.gv x.sn) (valC x.f x.gv x.sn)), some (Blk.row
    [AV.v (Value.int IntKind.i64 x.f), AV.hs (8 : Nat) (0 : Nat) (List.length x.gv), AV.hs (9 : Nat) (0 : Nat) (List.length x.sn)]), some (Blk.arr (11 : Nat) (List.length (x.gv ++ x.jg))
    (lsF Sh.c (x.gv ++ x.jg))), some (Blk.arr (1 : Nat) (List.length (x.sn ++ x.js)) (lsF I64.c (x.sn ++ x.js)))])) := by kernel_rfl
theorem qsE (x : X3) (e : Int) (hs : x.sn.length ≤ 100000) (hg : x.gv.length ≤ 100000) (ho : GvOK x.f x.gv) (hf : timesF 3 x.f ≠ 0) (hv : ¬ badV (x.acts.getD x.i default).v) (hu : inU32 (x.acts.getD x.i default).set = true) (hb : inU32 x.bad = true) (hl : x.l.length ≤ 100000) (hE : EnE (x.acts.getD x.i default).set (timesF 1 x.f) (stC (x.acts.getD x.i default).v) x.f x.bad x.l e) (he : e ≠ 0) : roundE (P := Tryd.prog) (Γ := Γc) [CT.at 13 (ansSeeE (s := (x.acts.getD x.i default).set) (f := x.f) (gv := x.gv) (sn := x.sn) (n := x.n) (l := x.l) (j := x.j) (bad := x.bad) hv hu hb hE he), CT.at 14 (ansSeeRE (x := x.K) (s := (x.acts.getD x.i default).set) (l := x.l) (j := x.j') (bad := x.bad) hs hg ho hf hv hu hb hl hE he), CT.at 18 (ansSeen (v := (x.acts.getD x.i default).v) (f := x.f) (gv := x.gv) (sn := x.sn) (n := x.n)), CT.at 19 (ansWas (x := x.K) (v := (x.acts.getD x.i default).v) hs)] Lno false 0 0 lp3 lv3 nl3 161 (S31 x).1 (S31 x).2 =
  Tree.br (bif decide ((↑x.i : Int) < (↑(List.length x.acts) : Int)) then true else false) (Tree.chk (decide ((0 : Int) ≤ (↑x.i : Int)) && decide ((↑x.i : Int) < (↑(List.length x.acts) :
    Int))) (Tree.br (decide ((List.getD x.acts x.i default).k = (0 : Int))) Tree.fail (Tree.br (decide ((List.getD x.acts x.i default).k = (1 : Int))) (Tree.chk (cl (LeL [AV.ptr (0 : Nat) (0
    : Nat), AV.ptr (2 : Nat) (0 : Nat), AV.v (Value.int IntKind.i64 (List.getD x.acts x.i default).v), AV.v (Value.int IntKind.u32 (List.getD x.acts x.i default).set)] [AV.ptr (0 : Nat) (0 :
    Nat), AV.ptr (2 : Nat) (0 : Nat), AV.v (Value.int IntKind.i64 (List.getD x.acts x.i default).v), AV.v (Value.int IntKind.u32 (List.getD x.acts x.i default).set)] ∧ LeH [some (Blk.row
    [AV.v (Value.int IntKind.i64 x.f), AV.map (1 : Nat)]), some (Blk.mp [Cel.int IntKind.i64] false true x.n (hasC x.gv x.sn) (valC x.f x.gv x.sn)), some (Blk.row [AV.v (Value.int
    IntKind.i64 x.o), AV.v (Value.int IntKind.u32 x.bad), AV.map (3 : Nat), AV.hs (4 : Nat) (0 : Nat) (List.length x.l)]), some (Blk.mp [Cel.int IntKind.i64, Cel.int IntKind.i64, Cel.int
    IntKind.i64, Cel.int IntKind.i64, Cel.int IntKind.i64, Cel.int IntKind.i64, Cel.int IntKind.i64, Cel.int IntKind.i64, Cel.int IntKind.i64, Cel.int IntKind.i64, Cel.int IntKind.i64] true
    false (List.length x.l) (hasS x.l) anyV), some (Blk.arr (11 : Nat) (List.length (x.l ++ x.j)) (lsF Sh.c (x.l ++ x.j)))] [some (Blk.row [AV.v (Value.int IntKind.i64 x.f), AV.map (1 :
    Nat)]), some (Blk.mp [Cel.int IntKind.i64] false true x.n (hasC x.gv x.sn) (valC x.f x.gv x.sn)), some (Blk.row [AV.v (Value.int IntKind.i64 x.f), AV.v (Value.int IntKind.u32 x.bad),
    AV.map (3 : Nat), AV.hs (4 : Nat) (0 : Nat) (List.length x.l)]), some (Blk.mp [Cel.int IntKind.i64, Cel.int IntKind.i64, Cel.int IntKind.i64, Cel.int IntKind.i64, Cel.int IntKind.i64,
    Cel.int IntKind.i64, Cel.int IntKind.i64, Cel.int IntKind.i64, Cel.int IntKind.i64, Cel.int IntKind.i64, Cel.int IntKind.i64] true false (List.length x.l) (hasS x.l) anyV), some (Blk.arr
    (11 : Nat) (List.length (x.l ++ x.j)) (lsF Sh.c (x.l ++ x.j)))])) (Tree.chk (cl (LeL [AV.ptr (0 : Nat) (0 : Nat), AV.ptr (3 : Nat) (0 : Nat), AV.v (Value.int IntKind.i64 (List.getD
    x.acts x.i default).v), AV.v (Value.int IntKind.u32 (List.getD x.acts x.i default).set)] [AV.ptr (0 : Nat) (0 : Nat), AV.ptr (3 : Nat) (0 : Nat), AV.v (Value.int IntKind.i64 (List.getD
    x.acts x.i default).v), AV.v (Value.int IntKind.u32 (List.getD x.acts x.i default).set)] ∧ LeH [some (Blk.row [AV.v (Value.int IntKind.i64 x.f), AV.hs (1 : Nat) (0 : Nat) (List.length
    x.gv), AV.hs (2 : Nat) (0 : Nat) (List.length x.sn)]), some (Blk.arr (11 : Nat) (List.length (x.gv ++ x.jg)) (lsF Sh.c (x.gv ++ x.jg))), some (Blk.arr (1 : Nat) (List.length (x.sn ++
    x.js)) (lsF I64.c (x.sn ++ x.js))), some (Blk.row [AV.v (Value.int IntKind.i64 x.o), AV.v (Value.int IntKind.u32 x.bad), AV.hs (4 : Nat) (0 : Nat) (List.length x.l)]), some (Blk.arr (11
    : Nat) (List.length (x.l ++ x.j')) (lsF Sh.c (x.l ++ x.j')))] [some (Blk.row [AV.v (Value.int IntKind.i64 x.f), AV.hs (1 : Nat) (0 : Nat) (List.length (X3.K x).gv), AV.hs (2 : Nat) (0 :
    Nat) (List.length (X3.K x).sn)]), some (Blk.arr (11 : Nat) (List.length ((X3.K x).gv ++ (X3.K x).jg)) (lsF Sh.c ((X3.K x).gv ++ (X3.K x).jg))), some (Blk.arr (1 : Nat) (List.length
    ((X3.K x).sn ++ (X3.K x).js)) (lsF I64.c ((X3.K x).sn ++ (X3.K x).js))), some (Blk.row [AV.v (Value.int IntKind.i64 x.f), AV.v (Value.int IntKind.u32 x.bad), AV.hs (4 : Nat) (0 : Nat)
    (List.length x.l)]), some (Blk.arr (11 : Nat) (List.length (x.l ++ x.j')) (lsF Sh.c (x.l ++ x.j')))])) (Tree.br (!decide (e = e)) (Tree.leaf (Out.mk AEx.ret [AV.sl (4 : Nat) (List.length
    x.acts) (lsF Ac.c x.acts), AV.ptr (0 : Nat) (0 : Nat), AV.ptr (3 : Nat) (0 : Nat), AV.ptr (5 : Nat) (0 : Nat), AV.ptr (7 : Nat) (0 : Nat), AV.v (Value.int IntKind.i64 (↑x.i : Int)), AV.v
    (Value.bool false)] [some (Blk.row [AV.v (Value.int IntKind.i64 x.f), AV.v (Value.int IntKind.u32 x.bad), AV.map (1 : Nat), AV.hs (2 : Nat) (0 : Nat) (List.length x.l)]), some (Blk.mp
    [Cel.int IntKind.i64, Cel.int IntKind.i64, Cel.int IntKind.i64, Cel.int IntKind.i64, Cel.int IntKind.i64, Cel.int IntKind.i64, Cel.int IntKind.i64, Cel.int IntKind.i64, Cel.int
    IntKind.i64, Cel.int IntKind.i64, Cel.int IntKind.i64] true false (List.length x.l) (hasS x.l) anyV), some (Blk.arr (11 : Nat) (List.length (x.l ++ x.j)) (lsF Sh.c (x.l ++ x.j))), some
    (Blk.row [AV.v (Value.int IntKind.i64 x.f), AV.v (Value.int IntKind.u32 x.bad), AV.hs (4 : Nat) (0 : Nat) (List.length x.l)]), some (Blk.arr (11 : Nat) (List.length (x.l ++ x.j')) (lsF
    Sh.c (x.l ++ x.j'))), some (Blk.row [AV.v (Value.int IntKind.i64 x.f), AV.map (6 : Nat)]), some (Blk.mp [Cel.int IntKind.i64] false true x.n (hasC x.gv x.sn) (valC x.f x.gv x.sn)), some
    (Blk.row [AV.v (Value.int IntKind.i64 x.f), AV.hs (8 : Nat) (0 : Nat) (List.length (X3.K x).gv), AV.hs (9 : Nat) (0 : Nat) (List.length (X3.K x).sn)]), some (Blk.arr (11 : Nat)
    (List.length ((X3.K x).gv ++ (X3.K x).jg)) (lsF Sh.c ((X3.K x).gv ++ (X3.K x).jg))), some (Blk.arr (1 : Nat) (List.length ((X3.K x).sn ++ (X3.K x).js)) (lsF I64.c ((X3.K x).sn ++ (X3.K
    x).js)))])) (Tree.chk (cl (LeL [AV.ptr (0 : Nat) (0 : Nat), AV.v (Value.int IntKind.i64 (List.getD x.acts x.i default).v)] [AV.ptr (0 : Nat) (0 : Nat), AV.v (Value.int IntKind.i64
    (List.getD x.acts x.i default).v)] ∧ LeH [some (Blk.row [AV.v (Value.int IntKind.i64 x.f), AV.map (1 : Nat)]), some (Blk.mp [Cel.int IntKind.i64] false true x.n (hasC x.gv x.sn) (valC
    x.f x.gv x.sn))] [some (Blk.row [AV.v (Value.int IntKind.i64 x.f), AV.map (1 : Nat)]), some (Blk.mp [Cel.int IntKind.i64] false true x.n (hasC x.gv x.sn) (valC x.f x.gv x.sn))]))
    (Tree.chk (cl (LeL [AV.ptr (0 : Nat) (0 : Nat), AV.v (Value.int IntKind.i64 (List.getD x.acts x.i default).v)] [AV.ptr (0 : Nat) (0 : Nat), AV.v (Value.int IntKind.i64 (List.getD x.acts
    x.i default).v)] ∧ LeH [some (Blk.row [AV.v (Value.int IntKind.i64 x.f), AV.hs (1 : Nat) (0 : Nat) (List.length (X3.K x).gv), AV.hs (2 : Nat) (0 : Nat) (List.length (X3.K x).sn)]), some
    (Blk.arr (11 : Nat) (List.length ((X3.K x).gv ++ (X3.K x).jg)) (lsF Sh.c ((X3.K x).gv ++ (X3.K x).jg))), some (Blk.arr (1 : Nat) (List.length ((X3.K x).sn ++ (X3.K x).js)) (lsF I64.c
    ((X3.K x).sn ++ (X3.K x).js)))] [some (Blk.row [AV.v (Value.int IntKind.i64 x.f), AV.hs (1 : Nat) (0 : Nat) (List.length (X3.K x).gv), AV.hs (2 : Nat) (0 : Nat) (List.length (X3.K
    x).sn)]), some (Blk.arr (11 : Nat) (List.length ((X3.K x).gv ++ (X3.K x).jg)) (lsF Sh.c ((X3.K x).gv ++ (X3.K x).jg))), some (Blk.arr (1 : Nat) (List.length ((X3.K x).sn ++ (X3.K x).js))
    (lsF I64.c ((X3.K x).sn ++ (X3.K x).js)))])) (Tree.br (!snB x.sn (List.getD x.acts x.i default).v == snB (X3.K x).sn (List.getD x.acts x.i default).v) (Tree.leaf (Out.mk AEx.ret [AV.sl
    (4 : Nat) (List.length x.acts) (lsF Ac.c x.acts), AV.ptr (0 : Nat) (0 : Nat), AV.ptr (3 : Nat) (0 : Nat), AV.ptr (5 : Nat) (0 : Nat), AV.ptr (7 : Nat) (0 : Nat), AV.v (Value.int
    IntKind.i64 (↑x.i : Int)), AV.v (Value.bool false)] [some (Blk.row [AV.v (Value.int IntKind.i64 x.f), AV.v (Value.int IntKind.u32 x.bad), AV.map (1 : Nat), AV.hs (2 : Nat) (0 : Nat)
    (List.length x.l)]), some (Blk.mp [Cel.int IntKind.i64, Cel.int IntKind.i64, Cel.int IntKind.i64, Cel.int IntKind.i64, Cel.int IntKind.i64, Cel.int IntKind.i64, Cel.int IntKind.i64,
    Cel.int IntKind.i64, Cel.int IntKind.i64, Cel.int IntKind.i64, Cel.int IntKind.i64] true false (List.length x.l) (hasS x.l) anyV), some (Blk.arr (11 : Nat) (List.length (x.l ++ x.j))
    (lsF Sh.c (x.l ++ x.j))), some (Blk.row [AV.v (Value.int IntKind.i64 x.f), AV.v (Value.int IntKind.u32 x.bad), AV.hs (4 : Nat) (0 : Nat) (List.length x.l)]), some (Blk.arr (11 : Nat)
    (List.length (x.l ++ x.j')) (lsF Sh.c (x.l ++ x.j'))), some (Blk.row [AV.v (Value.int IntKind.i64 x.f), AV.map (6 : Nat)]), some (Blk.mp [Cel.int IntKind.i64] false true x.n (hasC x.gv
    x.sn) (valC x.f x.gv x.sn)), some (Blk.row [AV.v (Value.int IntKind.i64 x.f), AV.hs (8 : Nat) (0 : Nat) (List.length (X3.K x).gv), AV.hs (9 : Nat) (0 : Nat) (List.length (X3.K x).sn)]),
    some (Blk.arr (11 : Nat) (List.length ((X3.K x).gv ++ (X3.K x).jg)) (lsF Sh.c ((X3.K x).gv ++ (X3.K x).jg))), some (Blk.arr (1 : Nat) (List.length ((X3.K x).sn ++ (X3.K x).js)) (lsF
    I64.c ((X3.K x).sn ++ (X3.K x).js)))])) (Tree.leaf (Out.mk AEx.normal [AV.sl (4 : Nat) (List.length x.acts) (lsF Ac.c x.acts), AV.ptr (0 : Nat) (0 : Nat), AV.ptr (3 : Nat) (0 : Nat),
    AV.ptr (5 : Nat) (0 : Nat), AV.ptr (7 : Nat) (0 : Nat), AV.v (Value.int IntKind.i64 (IntKind.wrap IntKind.i64 ((↑x.i : Int) + (1 : Int)))), AV.any] [some (Blk.row [AV.v (Value.int
    IntKind.i64 x.f), AV.v (Value.int IntKind.u32 x.bad), AV.map (1 : Nat), AV.hs (2 : Nat) (0 : Nat) (List.length x.l)]), some (Blk.mp [Cel.int IntKind.i64, Cel.int IntKind.i64, Cel.int
    IntKind.i64, Cel.int IntKind.i64, Cel.int IntKind.i64, Cel.int IntKind.i64, Cel.int IntKind.i64, Cel.int IntKind.i64, Cel.int IntKind.i64, Cel.int IntKind.i64, Cel.int IntKind.i64] true
    false (List.length x.l) (hasS x.l) anyV), some (Blk.arr (11 : Nat) (List.length (x.l ++ x.j)) (lsF Sh.c (x.l ++ x.j))), some (Blk.row [AV.v (Value.int IntKind.i64 x.f), AV.v (Value.int
    IntKind.u32 x.bad), AV.hs (4 : Nat) (0 : Nat) (List.length x.l)]), some (Blk.arr (11 : Nat) (List.length (x.l ++ x.j')) (lsF Sh.c (x.l ++ x.j'))), some (Blk.row [AV.v (Value.int
    IntKind.i64 x.f), AV.map (6 : Nat)]), some (Blk.mp [Cel.int IntKind.i64] false true x.n (hasC x.gv x.sn) (valC x.f x.gv x.sn)), some (Blk.row [AV.v (Value.int IntKind.i64 x.f), AV.hs (8
    : Nat) (0 : Nat) (List.length (X3.K x).gv), AV.hs (9 : Nat) (0 : Nat) (List.length (X3.K x).sn)]), some (Blk.arr (11 : Nat) (List.length ((X3.K x).gv ++ (X3.K x).jg)) (lsF Sh.c ((X3.K
    x).gv ++ (X3.K x).jg))), some (Blk.arr (1 : Nat) (List.length ((X3.K x).sn ++ (X3.K x).js)) (lsF I64.c ((X3.K x).sn ++ (X3.K x).js)))])))))))) (Tree.br (decide ((List.getD x.acts x.i
    default).k = (2 : Int))) Tree.fail (Tree.chk (cl (LeL [AV.ptr (0 : Nat) (0 : Nat), AV.v (Value.int IntKind.i64 (List.getD x.acts x.i default).v)] [AV.ptr (0 : Nat) (0 : Nat), AV.v
    (Value.int IntKind.i64 (List.getD x.acts x.i default).v)] ∧ LeH [some (Blk.row [AV.v (Value.int IntKind.i64 x.f), AV.map (1 : Nat)]), some (Blk.mp [Cel.int IntKind.i64] false true x.n
    (hasC x.gv x.sn) (valC x.f x.gv x.sn))] [some (Blk.row [AV.v (Value.int IntKind.i64 x.f), AV.map (1 : Nat)]), some (Blk.mp [Cel.int IntKind.i64] false true x.n (hasC x.gv x.sn) (valC x.f
    x.gv x.sn))])) (Tree.chk (cl (LeL [AV.ptr (0 : Nat) (0 : Nat), AV.v (Value.int IntKind.i64 (List.getD x.acts x.i default).v)] [AV.ptr (0 : Nat) (0 : Nat), AV.v (Value.int IntKind.i64
    (List.getD x.acts x.i default).v)] ∧ LeH [some (Blk.row [AV.v (Value.int IntKind.i64 x.f), AV.hs (1 : Nat) (0 : Nat) (List.length x.gv), AV.hs (2 : Nat) (0 : Nat) (List.length x.sn)]),
    some (Blk.arr (11 : Nat) (List.length (x.gv ++ x.jg)) (lsF Sh.c (x.gv ++ x.jg))), some (Blk.arr (1 : Nat) (List.length (x.sn ++ x.js)) (lsF I64.c (x.sn ++ x.js)))] [some (Blk.row [AV.v
    (Value.int IntKind.i64 x.f), AV.hs (1 : Nat) (0 : Nat) (List.length (X3.K x).gv), AV.hs (2 : Nat) (0 : Nat) (List.length (X3.K x).sn)]), some (Blk.arr (11 : Nat) (List.length ((X3.K
    x).gv ++ (X3.K x).jg)) (lsF Sh.c ((X3.K x).gv ++ (X3.K x).jg))), some (Blk.arr (1 : Nat) (List.length ((X3.K x).sn ++ (X3.K x).js)) (lsF I64.c ((X3.K x).sn ++ (X3.K x).js)))])) (Tree.br
    (!snB x.sn (List.getD x.acts x.i default).v == snB (X3.K x).sn (List.getD x.acts x.i default).v) (Tree.leaf (Out.mk AEx.ret [AV.sl (4 : Nat) (List.length x.acts) (lsF Ac.c x.acts),
    AV.ptr (0 : Nat) (0 : Nat), AV.ptr (3 : Nat) (0 : Nat), AV.ptr (5 : Nat) (0 : Nat), AV.ptr (7 : Nat) (0 : Nat), AV.v (Value.int IntKind.i64 (↑x.i : Int)), AV.v (Value.bool false)] [some
    (Blk.row [AV.v (Value.int IntKind.i64 x.o), AV.v (Value.int IntKind.u32 x.bad), AV.map (1 : Nat), AV.hs (2 : Nat) (0 : Nat) (List.length x.l)]), some (Blk.mp [Cel.int IntKind.i64,
    Cel.int IntKind.i64, Cel.int IntKind.i64, Cel.int IntKind.i64, Cel.int IntKind.i64, Cel.int IntKind.i64, Cel.int IntKind.i64, Cel.int IntKind.i64, Cel.int IntKind.i64, Cel.int
    IntKind.i64, Cel.int IntKind.i64] true false (List.length x.l) (hasS x.l) anyV), some (Blk.arr (11 : Nat) (List.length (x.l ++ x.j)) (lsF Sh.c (x.l ++ x.j))), some (Blk.row [AV.v
    (Value.int IntKind.i64 x.o), AV.v (Value.int IntKind.u32 x.bad), AV.hs (4 : Nat) (0 : Nat) (List.length x.l)]), some (Blk.arr (11 : Nat) (List.length (x.l ++ x.j')) (lsF Sh.c (x.l ++
    x.j'))), some (Blk.row [AV.v (Value.int IntKind.i64 x.f), AV.map (6 : Nat)]), some (Blk.mp [Cel.int IntKind.i64] false true x.n (hasC x.gv x.sn) (valC x.f x.gv x.sn)), some (Blk.row
    [AV.v (Value.int IntKind.i64 x.f), AV.hs (8 : Nat) (0 : Nat) (List.length (X3.K x).gv), AV.hs (9 : Nat) (0 : Nat) (List.length (X3.K x).sn)]), some (Blk.arr (11 : Nat) (List.length
    ((X3.K x).gv ++ (X3.K x).jg)) (lsF Sh.c ((X3.K x).gv ++ (X3.K x).jg))), some (Blk.arr (1 : Nat) (List.length ((X3.K x).sn ++ (X3.K x).js)) (lsF I64.c ((X3.K x).sn ++ (X3.K x).js)))]))
    (Tree.leaf (Out.mk AEx.normal [AV.sl (4 : Nat) (List.length x.acts) (lsF Ac.c x.acts), AV.ptr (0 : Nat) (0 : Nat), AV.ptr (3 : Nat) (0 : Nat), AV.ptr (5 : Nat) (0 : Nat), AV.ptr (7 :
    Nat) (0 : Nat), AV.v (Value.int IntKind.i64 (IntKind.wrap IntKind.i64 ((↑x.i : Int) + (1 : Int)))), AV.any] [some (Blk.row [AV.v (Value.int IntKind.i64 x.o), AV.v (Value.int IntKind.u32
    x.bad), AV.map (1 : Nat), AV.hs (2 : Nat) (0 : Nat) (List.length x.l)]), some (Blk.mp [Cel.int IntKind.i64, Cel.int IntKind.i64, Cel.int IntKind.i64, Cel.int IntKind.i64, Cel.int
    IntKind.i64, Cel.int IntKind.i64, Cel.int IntKind.i64, Cel.int IntKind.i64, Cel.int IntKind.i64, Cel.int IntKind.i64, Cel.int IntKind.i64] true false (List.length x.l) (hasS x.l) anyV),
    some (Blk.arr (11 : Nat) (List.length (x.l ++ x.j)) (lsF Sh.c (x.l ++ x.j))), some (Blk.row [AV.v (Value.int IntKind.i64 x.o), AV.v (Value.int IntKind.u32 x.bad), AV.hs (4 : Nat) (0 :
    Nat) (List.length x.l)]), some (Blk.arr (11 : Nat) (List.length (x.l ++ x.j')) (lsF Sh.c (x.l ++ x.j'))), some (Blk.row [AV.v (Value.int IntKind.i64 x.f), AV.map (6 : Nat)]), some
    (Blk.mp [Cel.int IntKind.i64] false true x.n (hasC x.gv x.sn) (valC x.f x.gv x.sn)), some (Blk.row [AV.v (Value.int IntKind.i64 x.f), AV.hs (8 : Nat) (0 : Nat) (List.length (X3.K x).gv),
    AV.hs (9 : Nat) (0 : Nat) (List.length (X3.K x).sn)]), some (Blk.arr (11 : Nat) (List.length ((X3.K x).gv ++ (X3.K x).jg)) (lsF Sh.c ((X3.K x).gv ++ (X3.K x).jg))), some (Blk.arr (1 :
    Nat) (List.length ((X3.K x).sn ++ (X3.K x).js)) (lsF I64.c ((X3.K x).sn ++ (X3.K x).js)))]))))))))) (Tree.leaf (Out.mk (AEx.exit (0 : Nat)) [AV.sl (4 : Nat) (List.length x.acts) (lsF
    Ac.c x.acts), AV.ptr (0 : Nat) (0 : Nat), AV.ptr (3 : Nat) (0 : Nat), AV.ptr (5 : Nat) (0 : Nat), AV.ptr (7 : Nat) (0 : Nat), AV.v (Value.int IntKind.i64 (↑x.i : Int)), AV.any] [some
    (Blk.row [AV.v (Value.int IntKind.i64 x.o), AV.v (Value.int IntKind.u32 x.bad), AV.map (1 : Nat), AV.hs (2 : Nat) (0 : Nat) (List.length x.l)]), some (Blk.mp [Cel.int IntKind.i64,
    Cel.int IntKind.i64, Cel.int IntKind.i64, Cel.int IntKind.i64, Cel.int IntKind.i64, Cel.int IntKind.i64, Cel.int IntKind.i64, Cel.int IntKind.i64, Cel.int IntKind.i64, Cel.int
    IntKind.i64, Cel.int IntKind.i64] true false (List.length x.l) (hasS x.l) anyV), some (Blk.arr (11 : Nat) (List.length (x.l ++ x.j)) (lsF Sh.c (x.l ++ x.j))), some (Blk.row [AV.v
    (Value.int IntKind.i64 x.o), AV.v (Value.int IntKind.u32 x.bad), AV.hs (4 : Nat) (0 : Nat) (List.length x.l)]), some (Blk.arr (11 : Nat) (List.length (x.l ++ x.j')) (lsF Sh.c (x.l ++
    x.j'))), some (Blk.row [AV.v (Value.int IntKind.i64 x.f), AV.map (6 : Nat)]), some (Blk.mp [Cel.int IntKind.i64] false true x.n (hasC x.gv x.sn) (valC x.f x.gv x.sn)), some (Blk.row
    [AV.v (Value.int IntKind.i64 x.f), AV.hs (8 : Nat) (0 : Nat) (List.length x.gv), AV.hs (9 : Nat) (0 : Nat) (List.length x.sn)]), some (Blk.arr (11 : Nat) (List.length (x.gv ++ x.jg))
    (lsF Sh.c (x.gv ++ x.jg))), some (Blk.arr (1 : Nat) (List.length (x.sn ++ x.js)) (lsF I64.c (x.sn ++ x.js)))])) := by kernel_rfl
theorem qsT (x : X3) (hs : x.sn.length ≤ 100000) (hg : x.gv.length ≤ 100000) (ho : GvOK x.f x.gv) (hf : timesF 3 x.f ≠ 0) (hv : ¬ badV (x.acts.getD x.i default).v) (hu : inU32 (x.acts.getD x.i default).set = true) (hb : inU32 x.bad = true) (hl : x.l.length ≤ 100000) (hE : EnE (x.acts.getD x.i default).set (timesF 1 x.f) (stC (x.acts.getD x.i default).v) x.f x.bad x.l 0) (hn : snB x.sn (x.acts.getD x.i default).v = true) : roundE (P := Tryd.prog) (Γ := Γc) [CT.at 13 (ansSeeOkT (s := (x.acts.getD x.i default).set) (f := x.f) (gv := x.gv) (sn := x.sn) (n := x.n) (l := x.l) (j := x.j) (bad := x.bad) hv hu hb hE hn), CT.at 14 (ansSeeROkT (x := x.K) (s := (x.acts.getD x.i default).set) (l := x.l) (j := x.j') (bad := x.bad) hs hg ho hf hv hu hb hl hE hn), CT.at 18 (ansSeen (v := (x.acts.getD x.i default).v) (f := x.f) (gv := x.gv) (sn := x.sn) (n := x.n)), CT.at 19 (ansWas (x := x.K) (v := (x.acts.getD x.i default).v) hs)] Lno false 0 0 lp3 lv3 nl3 161 (S31 x).1 (S31 x).2 =
  Tree.br (bif decide ((↑x.i : Int) < (↑(List.length x.acts) : Int)) then true else false) (Tree.chk (decide ((0 : Int) ≤ (↑x.i : Int)) && decide ((↑x.i : Int) < (↑(List.length x.acts) :
    Int))) (Tree.br (decide ((List.getD x.acts x.i default).k = (0 : Int))) Tree.fail (Tree.br (decide ((List.getD x.acts x.i default).k = (1 : Int))) (Tree.chk (cl (LeL [AV.ptr (0 : Nat) (0
    : Nat), AV.ptr (2 : Nat) (0 : Nat), AV.v (Value.int IntKind.i64 (List.getD x.acts x.i default).v), AV.v (Value.int IntKind.u32 (List.getD x.acts x.i default).set)] [AV.ptr (0 : Nat) (0 :
    Nat), AV.ptr (2 : Nat) (0 : Nat), AV.v (Value.int IntKind.i64 (List.getD x.acts x.i default).v), AV.v (Value.int IntKind.u32 (List.getD x.acts x.i default).set)] ∧ LeH [some (Blk.row
    [AV.v (Value.int IntKind.i64 x.f), AV.map (1 : Nat)]), some (Blk.mp [Cel.int IntKind.i64] false true x.n (hasC x.gv x.sn) (valC x.f x.gv x.sn)), some (Blk.row [AV.v (Value.int
    IntKind.i64 x.o), AV.v (Value.int IntKind.u32 x.bad), AV.map (3 : Nat), AV.hs (4 : Nat) (0 : Nat) (List.length x.l)]), some (Blk.mp [Cel.int IntKind.i64, Cel.int IntKind.i64, Cel.int
    IntKind.i64, Cel.int IntKind.i64, Cel.int IntKind.i64, Cel.int IntKind.i64, Cel.int IntKind.i64, Cel.int IntKind.i64, Cel.int IntKind.i64, Cel.int IntKind.i64, Cel.int IntKind.i64] true
    false (List.length x.l) (hasS x.l) anyV), some (Blk.arr (11 : Nat) (List.length (x.l ++ x.j)) (lsF Sh.c (x.l ++ x.j)))] [some (Blk.row [AV.v (Value.int IntKind.i64 x.f), AV.map (1 :
    Nat)]), some (Blk.mp [Cel.int IntKind.i64] false true x.n (hasC x.gv x.sn) (valC x.f x.gv x.sn)), some (Blk.row [AV.v (Value.int IntKind.i64 x.f), AV.v (Value.int IntKind.u32 x.bad),
    AV.map (3 : Nat), AV.hs (4 : Nat) (0 : Nat) (List.length x.l)]), some (Blk.mp [Cel.int IntKind.i64, Cel.int IntKind.i64, Cel.int IntKind.i64, Cel.int IntKind.i64, Cel.int IntKind.i64,
    Cel.int IntKind.i64, Cel.int IntKind.i64, Cel.int IntKind.i64, Cel.int IntKind.i64, Cel.int IntKind.i64, Cel.int IntKind.i64] true false (List.length x.l) (hasS x.l) anyV), some (Blk.arr
    (11 : Nat) (List.length (x.l ++ x.j)) (lsF Sh.c (x.l ++ x.j)))])) (Tree.chk (cl (LeL [AV.ptr (0 : Nat) (0 : Nat), AV.ptr (3 : Nat) (0 : Nat), AV.v (Value.int IntKind.i64 (List.getD
    x.acts x.i default).v), AV.v (Value.int IntKind.u32 (List.getD x.acts x.i default).set)] [AV.ptr (0 : Nat) (0 : Nat), AV.ptr (3 : Nat) (0 : Nat), AV.v (Value.int IntKind.i64 (List.getD
    x.acts x.i default).v), AV.v (Value.int IntKind.u32 (List.getD x.acts x.i default).set)] ∧ LeH [some (Blk.row [AV.v (Value.int IntKind.i64 x.f), AV.hs (1 : Nat) (0 : Nat) (List.length
    x.gv), AV.hs (2 : Nat) (0 : Nat) (List.length x.sn)]), some (Blk.arr (11 : Nat) (List.length (x.gv ++ x.jg)) (lsF Sh.c (x.gv ++ x.jg))), some (Blk.arr (1 : Nat) (List.length (x.sn ++
    x.js)) (lsF I64.c (x.sn ++ x.js))), some (Blk.row [AV.v (Value.int IntKind.i64 x.o), AV.v (Value.int IntKind.u32 x.bad), AV.hs (4 : Nat) (0 : Nat) (List.length x.l)]), some (Blk.arr (11
    : Nat) (List.length (x.l ++ x.j')) (lsF Sh.c (x.l ++ x.j')))] [some (Blk.row [AV.v (Value.int IntKind.i64 x.f), AV.hs (1 : Nat) (0 : Nat) (List.length (X3.K x).gv), AV.hs (2 : Nat) (0 :
    Nat) (List.length (X3.K x).sn)]), some (Blk.arr (11 : Nat) (List.length ((X3.K x).gv ++ (X3.K x).jg)) (lsF Sh.c ((X3.K x).gv ++ (X3.K x).jg))), some (Blk.arr (1 : Nat) (List.length
    ((X3.K x).sn ++ (X3.K x).js)) (lsF I64.c ((X3.K x).sn ++ (X3.K x).js))), some (Blk.row [AV.v (Value.int IntKind.i64 x.f), AV.v (Value.int IntKind.u32 x.bad), AV.hs (4 : Nat) (0 : Nat)
    (List.length x.l)]), some (Blk.arr (11 : Nat) (List.length (x.l ++ x.j')) (lsF Sh.c (x.l ++ x.j')))])) (Tree.br (bif !decide (whoV x.f x.gv (List.getD x.acts x.i default).v = whoV x.f
    (X3.K x).gv (List.getD x.acts x.i default).v) then true else false) (Tree.leaf (Out.mk AEx.ret [AV.sl (4 : Nat) (List.length x.acts) (lsF Ac.c x.acts), AV.ptr (0 : Nat) (0 : Nat), AV.ptr
    (3 : Nat) (0 : Nat), AV.ptr (5 : Nat) (0 : Nat), AV.ptr (7 : Nat) (0 : Nat), AV.v (Value.int IntKind.i64 (↑x.i : Int)), AV.v (Value.bool false)] [some (Blk.row [AV.v (Value.int
    IntKind.i64 x.f), AV.v (Value.int IntKind.u32 x.bad), AV.map (1 : Nat), AV.hs (2 : Nat) (0 : Nat) (List.length x.l)]), some (Blk.mp [Cel.int IntKind.i64, Cel.int IntKind.i64, Cel.int
    IntKind.i64, Cel.int IntKind.i64, Cel.int IntKind.i64, Cel.int IntKind.i64, Cel.int IntKind.i64, Cel.int IntKind.i64, Cel.int IntKind.i64, Cel.int IntKind.i64, Cel.int IntKind.i64] true
    false (List.length x.l) (hasS x.l) anyV), some (Blk.arr (11 : Nat) (List.length (x.l ++ x.j)) (lsF Sh.c (x.l ++ x.j))), some (Blk.row [AV.v (Value.int IntKind.i64 x.f), AV.v (Value.int
    IntKind.u32 x.bad), AV.hs (4 : Nat) (0 : Nat) (List.length x.l)]), some (Blk.arr (11 : Nat) (List.length (x.l ++ x.j')) (lsF Sh.c (x.l ++ x.j'))), some (Blk.row [AV.v (Value.int
    IntKind.i64 x.f), AV.map (6 : Nat)]), some (Blk.mp [Cel.int IntKind.i64] false true x.n (hasC x.gv x.sn) (valC x.f x.gv x.sn)), some (Blk.row [AV.v (Value.int IntKind.i64 x.f), AV.hs (8
    : Nat) (0 : Nat) (List.length (X3.K x).gv), AV.hs (9 : Nat) (0 : Nat) (List.length (X3.K x).sn)]), some (Blk.arr (11 : Nat) (List.length ((X3.K x).gv ++ (X3.K x).jg)) (lsF Sh.c ((X3.K
    x).gv ++ (X3.K x).jg))), some (Blk.arr (1 : Nat) (List.length ((X3.K x).sn ++ (X3.K x).js)) (lsF I64.c ((X3.K x).sn ++ (X3.K x).js)))])) (Tree.chk (cl (LeL [AV.ptr (0 : Nat) (0 : Nat),
    AV.v (Value.int IntKind.i64 (List.getD x.acts x.i default).v)] [AV.ptr (0 : Nat) (0 : Nat), AV.v (Value.int IntKind.i64 (List.getD x.acts x.i default).v)] ∧ LeH [some (Blk.row [AV.v
    (Value.int IntKind.i64 x.f), AV.map (1 : Nat)]), some (Blk.mp [Cel.int IntKind.i64] false true x.n (hasC x.gv x.sn) (valC x.f x.gv x.sn))] [some (Blk.row [AV.v (Value.int IntKind.i64
    x.f), AV.map (1 : Nat)]), some (Blk.mp [Cel.int IntKind.i64] false true x.n (hasC x.gv x.sn) (valC x.f x.gv x.sn))])) (Tree.chk (cl (LeL [AV.ptr (0 : Nat) (0 : Nat), AV.v (Value.int
    IntKind.i64 (List.getD x.acts x.i default).v)] [AV.ptr (0 : Nat) (0 : Nat), AV.v (Value.int IntKind.i64 (List.getD x.acts x.i default).v)] ∧ LeH [some (Blk.row [AV.v (Value.int
    IntKind.i64 x.f), AV.hs (1 : Nat) (0 : Nat) (List.length (X3.K x).gv), AV.hs (2 : Nat) (0 : Nat) (List.length (X3.K x).sn)]), some (Blk.arr (11 : Nat) (List.length ((X3.K x).gv ++ (X3.K
    x).jg)) (lsF Sh.c ((X3.K x).gv ++ (X3.K x).jg))), some (Blk.arr (1 : Nat) (List.length ((X3.K x).sn ++ (X3.K x).js)) (lsF I64.c ((X3.K x).sn ++ (X3.K x).js)))] [some (Blk.row [AV.v
    (Value.int IntKind.i64 x.f), AV.hs (1 : Nat) (0 : Nat) (List.length (X3.K x).gv), AV.hs (2 : Nat) (0 : Nat) (List.length (X3.K x).sn)]), some (Blk.arr (11 : Nat) (List.length ((X3.K
    x).gv ++ (X3.K x).jg)) (lsF Sh.c ((X3.K x).gv ++ (X3.K x).jg))), some (Blk.arr (1 : Nat) (List.length ((X3.K x).sn ++ (X3.K x).js)) (lsF I64.c ((X3.K x).sn ++ (X3.K x).js)))])) (Tree.br
    (!snB x.sn (List.getD x.acts x.i default).v == snB (X3.K x).sn (List.getD x.acts x.i default).v) (Tree.leaf (Out.mk AEx.ret [AV.sl (4 : Nat) (List.length x.acts) (lsF Ac.c x.acts),
    AV.ptr (0 : Nat) (0 : Nat), AV.ptr (3 : Nat) (0 : Nat), AV.ptr (5 : Nat) (0 : Nat), AV.ptr (7 : Nat) (0 : Nat), AV.v (Value.int IntKind.i64 (↑x.i : Int)), AV.v (Value.bool false)] [some
    (Blk.row [AV.v (Value.int IntKind.i64 x.f), AV.v (Value.int IntKind.u32 x.bad), AV.map (1 : Nat), AV.hs (2 : Nat) (0 : Nat) (List.length x.l)]), some (Blk.mp [Cel.int IntKind.i64,
    Cel.int IntKind.i64, Cel.int IntKind.i64, Cel.int IntKind.i64, Cel.int IntKind.i64, Cel.int IntKind.i64, Cel.int IntKind.i64, Cel.int IntKind.i64, Cel.int IntKind.i64, Cel.int
    IntKind.i64, Cel.int IntKind.i64] true false (List.length x.l) (hasS x.l) anyV), some (Blk.arr (11 : Nat) (List.length (x.l ++ x.j)) (lsF Sh.c (x.l ++ x.j))), some (Blk.row [AV.v
    (Value.int IntKind.i64 x.f), AV.v (Value.int IntKind.u32 x.bad), AV.hs (4 : Nat) (0 : Nat) (List.length x.l)]), some (Blk.arr (11 : Nat) (List.length (x.l ++ x.j')) (lsF Sh.c (x.l ++
    x.j'))), some (Blk.row [AV.v (Value.int IntKind.i64 x.f), AV.map (6 : Nat)]), some (Blk.mp [Cel.int IntKind.i64] false true x.n (hasC x.gv x.sn) (valC x.f x.gv x.sn)), some (Blk.row
    [AV.v (Value.int IntKind.i64 x.f), AV.hs (8 : Nat) (0 : Nat) (List.length (X3.K x).gv), AV.hs (9 : Nat) (0 : Nat) (List.length (X3.K x).sn)]), some (Blk.arr (11 : Nat) (List.length
    ((X3.K x).gv ++ (X3.K x).jg)) (lsF Sh.c ((X3.K x).gv ++ (X3.K x).jg))), some (Blk.arr (1 : Nat) (List.length ((X3.K x).sn ++ (X3.K x).js)) (lsF I64.c ((X3.K x).sn ++ (X3.K x).js)))]))
    (Tree.leaf (Out.mk AEx.normal [AV.sl (4 : Nat) (List.length x.acts) (lsF Ac.c x.acts), AV.ptr (0 : Nat) (0 : Nat), AV.ptr (3 : Nat) (0 : Nat), AV.ptr (5 : Nat) (0 : Nat), AV.ptr (7 :
    Nat) (0 : Nat), AV.v (Value.int IntKind.i64 (IntKind.wrap IntKind.i64 ((↑x.i : Int) + (1 : Int)))), AV.any] [some (Blk.row [AV.v (Value.int IntKind.i64 x.f), AV.v (Value.int IntKind.u32
    x.bad), AV.map (1 : Nat), AV.hs (2 : Nat) (0 : Nat) (List.length x.l)]), some (Blk.mp [Cel.int IntKind.i64, Cel.int IntKind.i64, Cel.int IntKind.i64, Cel.int IntKind.i64, Cel.int
    IntKind.i64, Cel.int IntKind.i64, Cel.int IntKind.i64, Cel.int IntKind.i64, Cel.int IntKind.i64, Cel.int IntKind.i64, Cel.int IntKind.i64] true false (List.length x.l) (hasS x.l) anyV),
    some (Blk.arr (11 : Nat) (List.length (x.l ++ x.j)) (lsF Sh.c (x.l ++ x.j))), some (Blk.row [AV.v (Value.int IntKind.i64 x.f), AV.v (Value.int IntKind.u32 x.bad), AV.hs (4 : Nat) (0 :
    Nat) (List.length x.l)]), some (Blk.arr (11 : Nat) (List.length (x.l ++ x.j')) (lsF Sh.c (x.l ++ x.j'))), some (Blk.row [AV.v (Value.int IntKind.i64 x.f), AV.map (6 : Nat)]), some
    (Blk.mp [Cel.int IntKind.i64] false true x.n (hasC x.gv x.sn) (valC x.f x.gv x.sn)), some (Blk.row [AV.v (Value.int IntKind.i64 x.f), AV.hs (8 : Nat) (0 : Nat) (List.length (X3.K x).gv),
    AV.hs (9 : Nat) (0 : Nat) (List.length (X3.K x).sn)]), some (Blk.arr (11 : Nat) (List.length ((X3.K x).gv ++ (X3.K x).jg)) (lsF Sh.c ((X3.K x).gv ++ (X3.K x).jg))), some (Blk.arr (1 :
    Nat) (List.length ((X3.K x).sn ++ (X3.K x).js)) (lsF I64.c ((X3.K x).sn ++ (X3.K x).js)))])))))))) (Tree.br (decide ((List.getD x.acts x.i default).k = (2 : Int))) Tree.fail (Tree.chk
    (cl (LeL [AV.ptr (0 : Nat) (0 : Nat), AV.v (Value.int IntKind.i64 (List.getD x.acts x.i default).v)] [AV.ptr (0 : Nat) (0 : Nat), AV.v (Value.int IntKind.i64 (List.getD x.acts x.i
    default).v)] ∧ LeH [some (Blk.row [AV.v (Value.int IntKind.i64 x.f), AV.map (1 : Nat)]), some (Blk.mp [Cel.int IntKind.i64] false true x.n (hasC x.gv x.sn) (valC x.f x.gv x.sn))] [some
    (Blk.row [AV.v (Value.int IntKind.i64 x.f), AV.map (1 : Nat)]), some (Blk.mp [Cel.int IntKind.i64] false true x.n (hasC x.gv x.sn) (valC x.f x.gv x.sn))])) (Tree.chk (cl (LeL [AV.ptr (0
    : Nat) (0 : Nat), AV.v (Value.int IntKind.i64 (List.getD x.acts x.i default).v)] [AV.ptr (0 : Nat) (0 : Nat), AV.v (Value.int IntKind.i64 (List.getD x.acts x.i default).v)] ∧ LeH [some
    (Blk.row [AV.v (Value.int IntKind.i64 x.f), AV.hs (1 : Nat) (0 : Nat) (List.length x.gv), AV.hs (2 : Nat) (0 : Nat) (List.length x.sn)]), some (Blk.arr (11 : Nat) (List.length (x.gv ++
    x.jg)) (lsF Sh.c (x.gv ++ x.jg))), some (Blk.arr (1 : Nat) (List.length (x.sn ++ x.js)) (lsF I64.c (x.sn ++ x.js)))] [some (Blk.row [AV.v (Value.int IntKind.i64 x.f), AV.hs (1 : Nat) (0
    : Nat) (List.length (X3.K x).gv), AV.hs (2 : Nat) (0 : Nat) (List.length (X3.K x).sn)]), some (Blk.arr (11 : Nat) (List.length ((X3.K x).gv ++ (X3.K x).jg)) (lsF Sh.c ((X3.K x).gv ++
    (X3.K x).jg))), some (Blk.arr (1 : Nat) (List.length ((X3.K x).sn ++ (X3.K x).js)) (lsF I64.c ((X3.K x).sn ++ (X3.K x).js)))])) (Tree.br (!snB x.sn (List.getD x.acts x.i default).v ==
    snB (X3.K x).sn (List.getD x.acts x.i default).v) (Tree.leaf (Out.mk AEx.ret [AV.sl (4 : Nat) (List.length x.acts) (lsF Ac.c x.acts), AV.ptr (0 : Nat) (0 : Nat), AV.ptr (3 : Nat) (0 :
    Nat), AV.ptr (5 : Nat) (0 : Nat), AV.ptr (7 : Nat) (0 : Nat), AV.v (Value.int IntKind.i64 (↑x.i : Int)), AV.v (Value.bool false)] [some (Blk.row [AV.v (Value.int IntKind.i64 x.o), AV.v
    (Value.int IntKind.u32 x.bad), AV.map (1 : Nat), AV.hs (2 : Nat) (0 : Nat) (List.length x.l)]), some (Blk.mp [Cel.int IntKind.i64, Cel.int IntKind.i64, Cel.int IntKind.i64, Cel.int
    IntKind.i64, Cel.int IntKind.i64, Cel.int IntKind.i64, Cel.int IntKind.i64, Cel.int IntKind.i64, Cel.int IntKind.i64, Cel.int IntKind.i64, Cel.int IntKind.i64] true false (List.length
    x.l) (hasS x.l) anyV), some (Blk.arr (11 : Nat) (List.length (x.l ++ x.j)) (lsF Sh.c (x.l ++ x.j))), some (Blk.row [AV.v (Value.int IntKind.i64 x.o), AV.v (Value.int IntKind.u32 x.bad),
    AV.hs (4 : Nat) (0 : Nat) (List.length x.l)]), some (Blk.arr (11 : Nat) (List.length (x.l ++ x.j')) (lsF Sh.c (x.l ++ x.j'))), some (Blk.row [AV.v (Value.int IntKind.i64 x.f), AV.map (6
    : Nat)]), some (Blk.mp [Cel.int IntKind.i64] false true x.n (hasC x.gv x.sn) (valC x.f x.gv x.sn)), some (Blk.row [AV.v (Value.int IntKind.i64 x.f), AV.hs (8 : Nat) (0 : Nat)
    (List.length (X3.K x).gv), AV.hs (9 : Nat) (0 : Nat) (List.length (X3.K x).sn)]), some (Blk.arr (11 : Nat) (List.length ((X3.K x).gv ++ (X3.K x).jg)) (lsF Sh.c ((X3.K x).gv ++ (X3.K
    x).jg))), some (Blk.arr (1 : Nat) (List.length ((X3.K x).sn ++ (X3.K x).js)) (lsF I64.c ((X3.K x).sn ++ (X3.K x).js)))])) (Tree.leaf (Out.mk AEx.normal [AV.sl (4 : Nat) (List.length
    x.acts) (lsF Ac.c x.acts), AV.ptr (0 : Nat) (0 : Nat), AV.ptr (3 : Nat) (0 : Nat), AV.ptr (5 : Nat) (0 : Nat), AV.ptr (7 : Nat) (0 : Nat), AV.v (Value.int IntKind.i64 (IntKind.wrap
    IntKind.i64 ((↑x.i : Int) + (1 : Int)))), AV.any] [some (Blk.row [AV.v (Value.int IntKind.i64 x.o), AV.v (Value.int IntKind.u32 x.bad), AV.map (1 : Nat), AV.hs (2 : Nat) (0 : Nat)
    (List.length x.l)]), some (Blk.mp [Cel.int IntKind.i64, Cel.int IntKind.i64, Cel.int IntKind.i64, Cel.int IntKind.i64, Cel.int IntKind.i64, Cel.int IntKind.i64, Cel.int IntKind.i64,
    Cel.int IntKind.i64, Cel.int IntKind.i64, Cel.int IntKind.i64, Cel.int IntKind.i64] true false (List.length x.l) (hasS x.l) anyV), some (Blk.arr (11 : Nat) (List.length (x.l ++ x.j))
    (lsF Sh.c (x.l ++ x.j))), some (Blk.row [AV.v (Value.int IntKind.i64 x.o), AV.v (Value.int IntKind.u32 x.bad), AV.hs (4 : Nat) (0 : Nat) (List.length x.l)]), some (Blk.arr (11 : Nat)
    (List.length (x.l ++ x.j')) (lsF Sh.c (x.l ++ x.j'))), some (Blk.row [AV.v (Value.int IntKind.i64 x.f), AV.map (6 : Nat)]), some (Blk.mp [Cel.int IntKind.i64] false true x.n (hasC x.gv
    x.sn) (valC x.f x.gv x.sn)), some (Blk.row [AV.v (Value.int IntKind.i64 x.f), AV.hs (8 : Nat) (0 : Nat) (List.length (X3.K x).gv), AV.hs (9 : Nat) (0 : Nat) (List.length (X3.K x).sn)]),
    some (Blk.arr (11 : Nat) (List.length ((X3.K x).gv ++ (X3.K x).jg)) (lsF Sh.c ((X3.K x).gv ++ (X3.K x).jg))), some (Blk.arr (1 : Nat) (List.length ((X3.K x).sn ++ (X3.K x).js)) (lsF
    I64.c ((X3.K x).sn ++ (X3.K x).js)))]))))))))) (Tree.leaf (Out.mk (AEx.exit (0 : Nat)) [AV.sl (4 : Nat) (List.length x.acts) (lsF Ac.c x.acts), AV.ptr (0 : Nat) (0 : Nat), AV.ptr (3 :
    Nat) (0 : Nat), AV.ptr (5 : Nat) (0 : Nat), AV.ptr (7 : Nat) (0 : Nat), AV.v (Value.int IntKind.i64 (↑x.i : Int)), AV.any] [some (Blk.row [AV.v (Value.int IntKind.i64 x.o), AV.v
    (Value.int IntKind.u32 x.bad), AV.map (1 : Nat), AV.hs (2 : Nat) (0 : Nat) (List.length x.l)]), some (Blk.mp [Cel.int IntKind.i64, Cel.int IntKind.i64, Cel.int IntKind.i64, Cel.int
    IntKind.i64, Cel.int IntKind.i64, Cel.int IntKind.i64, Cel.int IntKind.i64, Cel.int IntKind.i64, Cel.int IntKind.i64, Cel.int IntKind.i64, Cel.int IntKind.i64] true false (List.length
    x.l) (hasS x.l) anyV), some (Blk.arr (11 : Nat) (List.length (x.l ++ x.j)) (lsF Sh.c (x.l ++ x.j))), some (Blk.row [AV.v (Value.int IntKind.i64 x.o), AV.v (Value.int IntKind.u32 x.bad),
    AV.hs (4 : Nat) (0 : Nat) (List.length x.l)]), some (Blk.arr (11 : Nat) (List.length (x.l ++ x.j')) (lsF Sh.c (x.l ++ x.j'))), some (Blk.row [AV.v (Value.int IntKind.i64 x.f), AV.map (6
    : Nat)]), some (Blk.mp [Cel.int IntKind.i64] false true x.n (hasC x.gv x.sn) (valC x.f x.gv x.sn)), some (Blk.row [AV.v (Value.int IntKind.i64 x.f), AV.hs (8 : Nat) (0 : Nat)
    (List.length x.gv), AV.hs (9 : Nat) (0 : Nat) (List.length x.sn)]), some (Blk.arr (11 : Nat) (List.length (x.gv ++ x.jg)) (lsF Sh.c (x.gv ++ x.jg))), some (Blk.arr (1 : Nat) (List.length
    (x.sn ++ x.js)) (lsF I64.c (x.sn ++ x.js)))])) := by kernel_rfl
theorem qsN (x : X3) (hs : x.sn.length ≤ 100000) (hg : x.gv.length ≤ 100000) (ho : GvOK x.f x.gv) (hf : timesF 3 x.f ≠ 0) (hv : ¬ badV (x.acts.getD x.i default).v) (hu : inU32 (x.acts.getD x.i default).set = true) (hb : inU32 x.bad = true) (hl : x.l.length ≤ 100000) (hE : EnE (x.acts.getD x.i default).set (timesF 1 x.f) (stC (x.acts.getD x.i default).v) x.f x.bad x.l 0) (hn : snB x.sn (x.acts.getD x.i default).v = false) (hs1 : (x.sn ++ [(x.acts.getD x.i default).v]).length ≤ 100000) : roundE (P := Tryd.prog) (Γ := Γc) [CT.at 13 (ansSeeOkN (s := (x.acts.getD x.i default).set) (f := x.f) (gv := x.gv) (sn := x.sn) (n := x.n) (l := x.l) (j := x.j) (bad := x.bad) hv hu hb hE hn), CT.at 14 (ansSeeROkN (x := x.K) (s := (x.acts.getD x.i default).set) (l := x.l) (j := x.j') (bad := x.bad) hs hg ho hf hv hu hb hl hE hn), CT.at 18 (ansSeen (v := (x.acts.getD x.i default).v) (f := x.f) (gv := x.gv) (sn := x.sn ++ [(x.acts.getD x.i default).v]) (n := nC x.gv x.sn (x.acts.getD x.i default).v x.n)), CT.at 19 (ansWasS (f := x.f) (v := (x.acts.getD x.i default).v) (gv := x.gv) (jg := x.jg) (sn := x.sn ++ [(x.acts.getD x.i default).v]) hs1)] Lno false 0 0 lp3 lv3 nl3 161 (S31 x).1 (S31 x).2 =
  Tree.br (bif decide ((↑x.i : Int) < (↑(List.length x.acts) : Int)) then true else false) (Tree.chk (decide ((0 : Int) ≤ (↑x.i : Int)) && decide ((↑x.i : Int) < (↑(List.length x.acts) :
    Int))) (Tree.br (decide ((List.getD x.acts x.i default).k = (0 : Int))) Tree.fail (Tree.br (decide ((List.getD x.acts x.i default).k = (1 : Int))) (Tree.chk (cl (LeL [AV.ptr (0 : Nat) (0
    : Nat), AV.ptr (2 : Nat) (0 : Nat), AV.v (Value.int IntKind.i64 (List.getD x.acts x.i default).v), AV.v (Value.int IntKind.u32 (List.getD x.acts x.i default).set)] [AV.ptr (0 : Nat) (0 :
    Nat), AV.ptr (2 : Nat) (0 : Nat), AV.v (Value.int IntKind.i64 (List.getD x.acts x.i default).v), AV.v (Value.int IntKind.u32 (List.getD x.acts x.i default).set)] ∧ LeH [some (Blk.row
    [AV.v (Value.int IntKind.i64 x.f), AV.map (1 : Nat)]), some (Blk.mp [Cel.int IntKind.i64] false true x.n (hasC x.gv x.sn) (valC x.f x.gv x.sn)), some (Blk.row [AV.v (Value.int
    IntKind.i64 x.o), AV.v (Value.int IntKind.u32 x.bad), AV.map (3 : Nat), AV.hs (4 : Nat) (0 : Nat) (List.length x.l)]), some (Blk.mp [Cel.int IntKind.i64, Cel.int IntKind.i64, Cel.int
    IntKind.i64, Cel.int IntKind.i64, Cel.int IntKind.i64, Cel.int IntKind.i64, Cel.int IntKind.i64, Cel.int IntKind.i64, Cel.int IntKind.i64, Cel.int IntKind.i64, Cel.int IntKind.i64] true
    false (List.length x.l) (hasS x.l) anyV), some (Blk.arr (11 : Nat) (List.length (x.l ++ x.j)) (lsF Sh.c (x.l ++ x.j)))] [some (Blk.row [AV.v (Value.int IntKind.i64 x.f), AV.map (1 :
    Nat)]), some (Blk.mp [Cel.int IntKind.i64] false true x.n (hasC x.gv x.sn) (valC x.f x.gv x.sn)), some (Blk.row [AV.v (Value.int IntKind.i64 x.f), AV.v (Value.int IntKind.u32 x.bad),
    AV.map (3 : Nat), AV.hs (4 : Nat) (0 : Nat) (List.length x.l)]), some (Blk.mp [Cel.int IntKind.i64, Cel.int IntKind.i64, Cel.int IntKind.i64, Cel.int IntKind.i64, Cel.int IntKind.i64,
    Cel.int IntKind.i64, Cel.int IntKind.i64, Cel.int IntKind.i64, Cel.int IntKind.i64, Cel.int IntKind.i64, Cel.int IntKind.i64] true false (List.length x.l) (hasS x.l) anyV), some (Blk.arr
    (11 : Nat) (List.length (x.l ++ x.j)) (lsF Sh.c (x.l ++ x.j)))])) (Tree.chk (cl (LeL [AV.ptr (0 : Nat) (0 : Nat), AV.ptr (3 : Nat) (0 : Nat), AV.v (Value.int IntKind.i64 (List.getD
    x.acts x.i default).v), AV.v (Value.int IntKind.u32 (List.getD x.acts x.i default).set)] [AV.ptr (0 : Nat) (0 : Nat), AV.ptr (3 : Nat) (0 : Nat), AV.v (Value.int IntKind.i64 (List.getD
    x.acts x.i default).v), AV.v (Value.int IntKind.u32 (List.getD x.acts x.i default).set)] ∧ LeH [some (Blk.row [AV.v (Value.int IntKind.i64 x.f), AV.hs (1 : Nat) (0 : Nat) (List.length
    x.gv), AV.hs (2 : Nat) (0 : Nat) (List.length x.sn)]), some (Blk.arr (11 : Nat) (List.length (x.gv ++ x.jg)) (lsF Sh.c (x.gv ++ x.jg))), some (Blk.arr (1 : Nat) (List.length (x.sn ++
    x.js)) (lsF I64.c (x.sn ++ x.js))), some (Blk.row [AV.v (Value.int IntKind.i64 x.o), AV.v (Value.int IntKind.u32 x.bad), AV.hs (4 : Nat) (0 : Nat) (List.length x.l)]), some (Blk.arr (11
    : Nat) (List.length (x.l ++ x.j')) (lsF Sh.c (x.l ++ x.j')))] [some (Blk.row [AV.v (Value.int IntKind.i64 x.f), AV.hs (1 : Nat) (0 : Nat) (List.length (X3.K x).gv), AV.hs (2 : Nat) (0 :
    Nat) (List.length (X3.K x).sn)]), some (Blk.arr (11 : Nat) (List.length ((X3.K x).gv ++ (X3.K x).jg)) (lsF Sh.c ((X3.K x).gv ++ (X3.K x).jg))), some (Blk.arr (1 : Nat) (List.length
    ((X3.K x).sn ++ (X3.K x).js)) (lsF I64.c ((X3.K x).sn ++ (X3.K x).js))), some (Blk.row [AV.v (Value.int IntKind.i64 x.f), AV.v (Value.int IntKind.u32 x.bad), AV.hs (4 : Nat) (0 : Nat)
    (List.length x.l)]), some (Blk.arr (11 : Nat) (List.length (x.l ++ x.j')) (lsF Sh.c (x.l ++ x.j')))])) (Tree.br (bif !decide (whoV x.f x.gv (List.getD x.acts x.i default).v = whoV x.f
    (X3.K x).gv (List.getD x.acts x.i default).v) then true else false) (Tree.leaf (Out.mk AEx.ret [AV.sl (4 : Nat) (List.length x.acts) (lsF Ac.c x.acts), AV.ptr (0 : Nat) (0 : Nat), AV.ptr
    (3 : Nat) (0 : Nat), AV.ptr (5 : Nat) (0 : Nat), AV.ptr (7 : Nat) (0 : Nat), AV.v (Value.int IntKind.i64 (↑x.i : Int)), AV.v (Value.bool false)] [some (Blk.row [AV.v (Value.int
    IntKind.i64 x.f), AV.v (Value.int IntKind.u32 x.bad), AV.map (1 : Nat), AV.hs (2 : Nat) (0 : Nat) (List.length x.l)]), some (Blk.mp [Cel.int IntKind.i64, Cel.int IntKind.i64, Cel.int
    IntKind.i64, Cel.int IntKind.i64, Cel.int IntKind.i64, Cel.int IntKind.i64, Cel.int IntKind.i64, Cel.int IntKind.i64, Cel.int IntKind.i64, Cel.int IntKind.i64, Cel.int IntKind.i64] true
    false (List.length x.l) (hasS x.l) anyV), some (Blk.arr (11 : Nat) (List.length (x.l ++ x.j)) (lsF Sh.c (x.l ++ x.j))), some (Blk.row [AV.v (Value.int IntKind.i64 x.f), AV.v (Value.int
    IntKind.u32 x.bad), AV.hs (4 : Nat) (0 : Nat) (List.length x.l)]), some (Blk.arr (11 : Nat) (List.length (x.l ++ x.j')) (lsF Sh.c (x.l ++ x.j'))), some (Blk.row [AV.v (Value.int
    IntKind.i64 x.f), AV.map (6 : Nat)]), some (Blk.mp [Cel.int IntKind.i64] false true (nC x.gv x.sn (List.getD x.acts x.i default).v x.n) (hasC x.gv (x.sn ++ [(List.getD x.acts x.i
    default).v])) (valC x.f x.gv (x.sn ++ [(List.getD x.acts x.i default).v]))), some (Blk.row [AV.v (Value.int IntKind.i64 x.f), AV.hs (8 : Nat) (0 : Nat) (List.length (X3.K x).gv), AV.hs
    (9 : Nat) (0 : Nat) (List.length ((X3.K x).sn ++ [(List.getD x.acts x.i default).v]))]), some (Blk.arr (11 : Nat) (List.length ((X3.K x).gv ++ (X3.K x).jg)) (lsF Sh.c ((X3.K x).gv ++
    (X3.K x).jg))), some (Blk.arr (1 : Nat) (List.length ((X3.K x).sn ++ [(List.getD x.acts x.i default).v])) (lsF I64.c ((X3.K x).sn ++ [(List.getD x.acts x.i default).v])))])) (Tree.chk
    (cl (LeL [AV.ptr (0 : Nat) (0 : Nat), AV.v (Value.int IntKind.i64 (List.getD x.acts x.i default).v)] [AV.ptr (0 : Nat) (0 : Nat), AV.v (Value.int IntKind.i64 (List.getD x.acts x.i
    default).v)] ∧ LeH [some (Blk.row [AV.v (Value.int IntKind.i64 x.f), AV.map (1 : Nat)]), some (Blk.mp [Cel.int IntKind.i64] false true (nC x.gv x.sn (List.getD x.acts x.i default).v x.n)
    (hasC x.gv (x.sn ++ [(List.getD x.acts x.i default).v])) (valC x.f x.gv (x.sn ++ [(List.getD x.acts x.i default).v])))] [some (Blk.row [AV.v (Value.int IntKind.i64 x.f), AV.map (1 :
    Nat)]), some (Blk.mp [Cel.int IntKind.i64] false true (nC x.gv x.sn (List.getD x.acts x.i default).v x.n) (hasC x.gv (x.sn ++ [(List.getD x.acts x.i default).v])) (valC x.f x.gv (x.sn ++
    [(List.getD x.acts x.i default).v])))])) (Tree.chk (cl (LeL [AV.ptr (0 : Nat) (0 : Nat), AV.v (Value.int IntKind.i64 (List.getD x.acts x.i default).v)] [AV.ptr (0 : Nat) (0 : Nat), AV.v
    (Value.int IntKind.i64 (List.getD x.acts x.i default).v)] ∧ LeH [some (Blk.row [AV.v (Value.int IntKind.i64 x.f), AV.hs (1 : Nat) (0 : Nat) (List.length (X3.K x).gv), AV.hs (2 : Nat) (0
    : Nat) (List.length ((X3.K x).sn ++ [(List.getD x.acts x.i default).v]))]), some (Blk.arr (11 : Nat) (List.length ((X3.K x).gv ++ (X3.K x).jg)) (lsF Sh.c ((X3.K x).gv ++ (X3.K x).jg))),
    some (Blk.arr (1 : Nat) (List.length ((X3.K x).sn ++ [(List.getD x.acts x.i default).v])) (lsF I64.c ((X3.K x).sn ++ [(List.getD x.acts x.i default).v])))] [some (Blk.row [AV.v
    (Value.int IntKind.i64 x.f), AV.hs (1 : Nat) (0 : Nat) (List.length x.gv), AV.hs (2 : Nat) (0 : Nat) (List.length (x.sn ++ [(List.getD x.acts x.i default).v]))]), some (Blk.arr (11 :
    Nat) (List.length (x.gv ++ x.jg)) (lsF Sh.c (x.gv ++ x.jg))), some (Blk.arr (1 : Nat) (List.length (x.sn ++ [(List.getD x.acts x.i default).v])) (lsF I64.c (x.sn ++ [(List.getD x.acts
    x.i default).v])))])) (Tree.br (!snB (x.sn ++ [(List.getD x.acts x.i default).v]) (List.getD x.acts x.i default).v == snB (x.sn ++ [(List.getD x.acts x.i default).v]) (List.getD x.acts
    x.i default).v) (Tree.leaf (Out.mk AEx.ret [AV.sl (4 : Nat) (List.length x.acts) (lsF Ac.c x.acts), AV.ptr (0 : Nat) (0 : Nat), AV.ptr (3 : Nat) (0 : Nat), AV.ptr (5 : Nat) (0 : Nat),
    AV.ptr (7 : Nat) (0 : Nat), AV.v (Value.int IntKind.i64 (↑x.i : Int)), AV.v (Value.bool false)] [some (Blk.row [AV.v (Value.int IntKind.i64 x.f), AV.v (Value.int IntKind.u32 x.bad),
    AV.map (1 : Nat), AV.hs (2 : Nat) (0 : Nat) (List.length x.l)]), some (Blk.mp [Cel.int IntKind.i64, Cel.int IntKind.i64, Cel.int IntKind.i64, Cel.int IntKind.i64, Cel.int IntKind.i64,
    Cel.int IntKind.i64, Cel.int IntKind.i64, Cel.int IntKind.i64, Cel.int IntKind.i64, Cel.int IntKind.i64, Cel.int IntKind.i64] true false (List.length x.l) (hasS x.l) anyV), some (Blk.arr
    (11 : Nat) (List.length (x.l ++ x.j)) (lsF Sh.c (x.l ++ x.j))), some (Blk.row [AV.v (Value.int IntKind.i64 x.f), AV.v (Value.int IntKind.u32 x.bad), AV.hs (4 : Nat) (0 : Nat)
    (List.length x.l)]), some (Blk.arr (11 : Nat) (List.length (x.l ++ x.j')) (lsF Sh.c (x.l ++ x.j'))), some (Blk.row [AV.v (Value.int IntKind.i64 x.f), AV.map (6 : Nat)]), some (Blk.mp
    [Cel.int IntKind.i64] false true (nC x.gv x.sn (List.getD x.acts x.i default).v x.n) (hasC x.gv (x.sn ++ [(List.getD x.acts x.i default).v])) (valC x.f x.gv (x.sn ++ [(List.getD x.acts
    x.i default).v]))), some (Blk.row [AV.v (Value.int IntKind.i64 x.f), AV.hs (8 : Nat) (0 : Nat) (List.length x.gv), AV.hs (9 : Nat) (0 : Nat) (List.length (x.sn ++ [(List.getD x.acts x.i
    default).v]))]), some (Blk.arr (11 : Nat) (List.length (x.gv ++ x.jg)) (lsF Sh.c (x.gv ++ x.jg))), some (Blk.arr (1 : Nat) (List.length (x.sn ++ [(List.getD x.acts x.i default).v])) (lsF
    I64.c (x.sn ++ [(List.getD x.acts x.i default).v])))])) (Tree.leaf (Out.mk AEx.normal [AV.sl (4 : Nat) (List.length x.acts) (lsF Ac.c x.acts), AV.ptr (0 : Nat) (0 : Nat), AV.ptr (3 :
    Nat) (0 : Nat), AV.ptr (5 : Nat) (0 : Nat), AV.ptr (7 : Nat) (0 : Nat), AV.v (Value.int IntKind.i64 (IntKind.wrap IntKind.i64 ((↑x.i : Int) + (1 : Int)))), AV.any] [some (Blk.row [AV.v
    (Value.int IntKind.i64 x.f), AV.v (Value.int IntKind.u32 x.bad), AV.map (1 : Nat), AV.hs (2 : Nat) (0 : Nat) (List.length x.l)]), some (Blk.mp [Cel.int IntKind.i64, Cel.int IntKind.i64,
    Cel.int IntKind.i64, Cel.int IntKind.i64, Cel.int IntKind.i64, Cel.int IntKind.i64, Cel.int IntKind.i64, Cel.int IntKind.i64, Cel.int IntKind.i64, Cel.int IntKind.i64, Cel.int
    IntKind.i64] true false (List.length x.l) (hasS x.l) anyV), some (Blk.arr (11 : Nat) (List.length (x.l ++ x.j)) (lsF Sh.c (x.l ++ x.j))), some (Blk.row [AV.v (Value.int IntKind.i64 x.f),
    AV.v (Value.int IntKind.u32 x.bad), AV.hs (4 : Nat) (0 : Nat) (List.length x.l)]), some (Blk.arr (11 : Nat) (List.length (x.l ++ x.j')) (lsF Sh.c (x.l ++ x.j'))), some (Blk.row [AV.v
    (Value.int IntKind.i64 x.f), AV.map (6 : Nat)]), some (Blk.mp [Cel.int IntKind.i64] false true (nC x.gv x.sn (List.getD x.acts x.i default).v x.n) (hasC x.gv (x.sn ++ [(List.getD x.acts
    x.i default).v])) (valC x.f x.gv (x.sn ++ [(List.getD x.acts x.i default).v]))), some (Blk.row [AV.v (Value.int IntKind.i64 x.f), AV.hs (8 : Nat) (0 : Nat) (List.length x.gv), AV.hs (9 :
    Nat) (0 : Nat) (List.length (x.sn ++ [(List.getD x.acts x.i default).v]))]), some (Blk.arr (11 : Nat) (List.length (x.gv ++ x.jg)) (lsF Sh.c (x.gv ++ x.jg))), some (Blk.arr (1 : Nat)
    (List.length (x.sn ++ [(List.getD x.acts x.i default).v])) (lsF I64.c (x.sn ++ [(List.getD x.acts x.i default).v])))])))))))) (Tree.br (decide ((List.getD x.acts x.i default).k = (2 :
    Int))) Tree.fail (Tree.chk (cl (LeL [AV.ptr (0 : Nat) (0 : Nat), AV.v (Value.int IntKind.i64 (List.getD x.acts x.i default).v)] [AV.ptr (0 : Nat) (0 : Nat), AV.v (Value.int IntKind.i64
    (List.getD x.acts x.i default).v)] ∧ LeH [some (Blk.row [AV.v (Value.int IntKind.i64 x.f), AV.map (1 : Nat)]), some (Blk.mp [Cel.int IntKind.i64] false true x.n (hasC x.gv x.sn) (valC
    x.f x.gv x.sn))] [some (Blk.row [AV.v (Value.int IntKind.i64 x.f), AV.map (1 : Nat)]), some (Blk.mp [Cel.int IntKind.i64] false true (nC x.gv x.sn (List.getD x.acts x.i default).v x.n)
    (hasC x.gv (x.sn ++ [(List.getD x.acts x.i default).v])) (valC x.f x.gv (x.sn ++ [(List.getD x.acts x.i default).v])))])) (Tree.chk (cl (LeL [AV.ptr (0 : Nat) (0 : Nat), AV.v (Value.int
    IntKind.i64 (List.getD x.acts x.i default).v)] [AV.ptr (0 : Nat) (0 : Nat), AV.v (Value.int IntKind.i64 (List.getD x.acts x.i default).v)] ∧ LeH [some (Blk.row [AV.v (Value.int
    IntKind.i64 x.f), AV.hs (1 : Nat) (0 : Nat) (List.length x.gv), AV.hs (2 : Nat) (0 : Nat) (List.length x.sn)]), some (Blk.arr (11 : Nat) (List.length (x.gv ++ x.jg)) (lsF Sh.c (x.gv ++
    x.jg))), some (Blk.arr (1 : Nat) (List.length (x.sn ++ x.js)) (lsF I64.c (x.sn ++ x.js)))] [some (Blk.row [AV.v (Value.int IntKind.i64 x.f), AV.hs (1 : Nat) (0 : Nat) (List.length x.gv),
    AV.hs (2 : Nat) (0 : Nat) (List.length (x.sn ++ [(List.getD x.acts x.i default).v]))]), some (Blk.arr (11 : Nat) (List.length (x.gv ++ x.jg)) (lsF Sh.c (x.gv ++ x.jg))), some (Blk.arr (1
    : Nat) (List.length (x.sn ++ [(List.getD x.acts x.i default).v])) (lsF I64.c (x.sn ++ [(List.getD x.acts x.i default).v])))])) (Tree.br (!snB (x.sn ++ [(List.getD x.acts x.i default).v])
    (List.getD x.acts x.i default).v == snB (x.sn ++ [(List.getD x.acts x.i default).v]) (List.getD x.acts x.i default).v) (Tree.leaf (Out.mk AEx.ret [AV.sl (4 : Nat) (List.length x.acts)
    (lsF Ac.c x.acts), AV.ptr (0 : Nat) (0 : Nat), AV.ptr (3 : Nat) (0 : Nat), AV.ptr (5 : Nat) (0 : Nat), AV.ptr (7 : Nat) (0 : Nat), AV.v (Value.int IntKind.i64 (↑x.i : Int)), AV.v
    (Value.bool false)] [some (Blk.row [AV.v (Value.int IntKind.i64 x.o), AV.v (Value.int IntKind.u32 x.bad), AV.map (1 : Nat), AV.hs (2 : Nat) (0 : Nat) (List.length x.l)]), some (Blk.mp
    [Cel.int IntKind.i64, Cel.int IntKind.i64, Cel.int IntKind.i64, Cel.int IntKind.i64, Cel.int IntKind.i64, Cel.int IntKind.i64, Cel.int IntKind.i64, Cel.int IntKind.i64, Cel.int
    IntKind.i64, Cel.int IntKind.i64, Cel.int IntKind.i64] true false (List.length x.l) (hasS x.l) anyV), some (Blk.arr (11 : Nat) (List.length (x.l ++ x.j)) (lsF Sh.c (x.l ++ x.j))), some
    (Blk.row [AV.v (Value.int IntKind.i64 x.o), AV.v (Value.int IntKind.u32 x.bad), AV.hs (4 : Nat) (0 : Nat) (List.length x.l)]), some (Blk.arr (11 : Nat) (List.length (x.l ++ x.j')) (lsF
    Sh.c (x.l ++ x.j'))), some (Blk.row [AV.v (Value.int IntKind.i64 x.f), AV.map (6 : Nat)]), some (Blk.mp [Cel.int IntKind.i64] false true (nC x.gv x.sn (List.getD x.acts x.i default).v
    x.n) (hasC x.gv (x.sn ++ [(List.getD x.acts x.i default).v])) (valC x.f x.gv (x.sn ++ [(List.getD x.acts x.i default).v]))), some (Blk.row [AV.v (Value.int IntKind.i64 x.f), AV.hs (8 :
    Nat) (0 : Nat) (List.length x.gv), AV.hs (9 : Nat) (0 : Nat) (List.length (x.sn ++ [(List.getD x.acts x.i default).v]))]), some (Blk.arr (11 : Nat) (List.length (x.gv ++ x.jg)) (lsF Sh.c
    (x.gv ++ x.jg))), some (Blk.arr (1 : Nat) (List.length (x.sn ++ [(List.getD x.acts x.i default).v])) (lsF I64.c (x.sn ++ [(List.getD x.acts x.i default).v])))])) (Tree.leaf (Out.mk
    AEx.normal [AV.sl (4 : Nat) (List.length x.acts) (lsF Ac.c x.acts), AV.ptr (0 : Nat) (0 : Nat), AV.ptr (3 : Nat) (0 : Nat), AV.ptr (5 : Nat) (0 : Nat), AV.ptr (7 : Nat) (0 : Nat), AV.v
    (Value.int IntKind.i64 (IntKind.wrap IntKind.i64 ((↑x.i : Int) + (1 : Int)))), AV.any] [some (Blk.row [AV.v (Value.int IntKind.i64 x.o), AV.v (Value.int IntKind.u32 x.bad), AV.map (1 :
    Nat), AV.hs (2 : Nat) (0 : Nat) (List.length x.l)]), some (Blk.mp [Cel.int IntKind.i64, Cel.int IntKind.i64, Cel.int IntKind.i64, Cel.int IntKind.i64, Cel.int IntKind.i64, Cel.int
    IntKind.i64, Cel.int IntKind.i64, Cel.int IntKind.i64, Cel.int IntKind.i64, Cel.int IntKind.i64, Cel.int IntKind.i64] true false (List.length x.l) (hasS x.l) anyV), some (Blk.arr (11 :
    Nat) (List.length (x.l ++ x.j)) (lsF Sh.c (x.l ++ x.j))), some (Blk.row [AV.v (Value.int IntKind.i64 x.o), AV.v (Value.int IntKind.u32 x.bad), AV.hs (4 : Nat) (0 : Nat) (List.length
    x.l)]), some (Blk.arr (11 : Nat) (List.length (x.l ++ x.j')) (lsF Sh.c (x.l ++ x.j'))), some (Blk.row [AV.v (Value.int IntKind.i64 x.f), AV.map (6 : Nat)]), some (Blk.mp [Cel.int
    IntKind.i64] false true (nC x.gv x.sn (List.getD x.acts x.i default).v x.n) (hasC x.gv (x.sn ++ [(List.getD x.acts x.i default).v])) (valC x.f x.gv (x.sn ++ [(List.getD x.acts x.i
    default).v]))), some (Blk.row [AV.v (Value.int IntKind.i64 x.f), AV.hs (8 : Nat) (0 : Nat) (List.length x.gv), AV.hs (9 : Nat) (0 : Nat) (List.length (x.sn ++ [(List.getD x.acts x.i
    default).v]))]), some (Blk.arr (11 : Nat) (List.length (x.gv ++ x.jg)) (lsF Sh.c (x.gv ++ x.jg))), some (Blk.arr (1 : Nat) (List.length (x.sn ++ [(List.getD x.acts x.i default).v])) (lsF
    I64.c (x.sn ++ [(List.getD x.acts x.i default).v])))]))))))))) (Tree.leaf (Out.mk (AEx.exit (0 : Nat)) [AV.sl (4 : Nat) (List.length x.acts) (lsF Ac.c x.acts), AV.ptr (0 : Nat) (0 :
    Nat), AV.ptr (3 : Nat) (0 : Nat), AV.ptr (5 : Nat) (0 : Nat), AV.ptr (7 : Nat) (0 : Nat), AV.v (Value.int IntKind.i64 (↑x.i : Int)), AV.any] [some (Blk.row [AV.v (Value.int IntKind.i64
    x.o), AV.v (Value.int IntKind.u32 x.bad), AV.map (1 : Nat), AV.hs (2 : Nat) (0 : Nat) (List.length x.l)]), some (Blk.mp [Cel.int IntKind.i64, Cel.int IntKind.i64, Cel.int IntKind.i64,
    Cel.int IntKind.i64, Cel.int IntKind.i64, Cel.int IntKind.i64, Cel.int IntKind.i64, Cel.int IntKind.i64, Cel.int IntKind.i64, Cel.int IntKind.i64, Cel.int IntKind.i64] true false
    (List.length x.l) (hasS x.l) anyV), some (Blk.arr (11 : Nat) (List.length (x.l ++ x.j)) (lsF Sh.c (x.l ++ x.j))), some (Blk.row [AV.v (Value.int IntKind.i64 x.o), AV.v (Value.int
    IntKind.u32 x.bad), AV.hs (4 : Nat) (0 : Nat) (List.length x.l)]), some (Blk.arr (11 : Nat) (List.length (x.l ++ x.j')) (lsF Sh.c (x.l ++ x.j'))), some (Blk.row [AV.v (Value.int
    IntKind.i64 x.f), AV.map (6 : Nat)]), some (Blk.mp [Cel.int IntKind.i64] false true x.n (hasC x.gv x.sn) (valC x.f x.gv x.sn)), some (Blk.row [AV.v (Value.int IntKind.i64 x.f), AV.hs (8
    : Nat) (0 : Nat) (List.length x.gv), AV.hs (9 : Nat) (0 : Nat) (List.length x.sn)]), some (Blk.arr (11 : Nat) (List.length (x.gv ++ x.jg)) (lsF Sh.c (x.gv ++ x.jg))), some (Blk.arr (1 :
    Nat) (List.length (x.sn ++ x.js)) (lsF I64.c (x.sn ++ x.js)))])) := by kernel_rfl
theorem qiOut (x : X3) (hs : x.sn.length ≤ 100000) (hg : x.gv.length ≤ 100000) (h : outS x.o (shA x)) : roundE (P := Tryd.prog) (Γ := Γc) [k15, CT.at 16 (ansIssueOut (f := x.o) (bad := x.bad) (l := x.l) (j := x.j) h), CT.at 17 (ansIssueROut (f := x.o) (bad := x.bad) (l := x.l) (j := x.j') h), CT.at 18 (ansSeen (v := (x.acts.getD x.i default).v) (f := x.f) (gv := x.gv) (sn := x.sn) (n := x.n)), CT.at 19 (ansWas (x := x.K) (v := (x.acts.getD x.i default).v) hs)] Lno false 0 0 lp3 lv3 nl3 161 (S31 x).1 (S31 x).2 =
  Tree.br (bif decide ((↑x.i : Int) < (↑(List.length x.acts) : Int)) then true else false) (Tree.chk (decide ((0 : Int) ≤ (↑x.i : Int)) && decide ((↑x.i : Int) < (↑(List.length x.acts) :
    Int))) (Tree.br (decide ((List.getD x.acts x.i default).k = (0 : Int))) Tree.fail (Tree.br (decide ((List.getD x.acts x.i default).k = (1 : Int))) Tree.fail (Tree.br (decide ((List.getD
    x.acts x.i default).k = (2 : Int))) (Tree.br (!(decide ((List.getD x.acts x.i default).v = (List.getD x.acts x.i default).v) && true)) (Tree.leaf (Out.mk AEx.ret [AV.sl (4 : Nat)
    (List.length x.acts) (lsF Ac.c x.acts), AV.ptr (0 : Nat) (0 : Nat), AV.ptr (3 : Nat) (0 : Nat), AV.ptr (5 : Nat) (0 : Nat), AV.ptr (7 : Nat) (0 : Nat), AV.v (Value.int IntKind.i64 (↑x.i
    : Int)), AV.v (Value.bool false)] [some (Blk.row [AV.v (Value.int IntKind.i64 x.o), AV.v (Value.int IntKind.u32 x.bad), AV.map (1 : Nat), AV.hs (2 : Nat) (0 : Nat) (List.length x.l)]),
    some (Blk.mp [Cel.int IntKind.i64, Cel.int IntKind.i64, Cel.int IntKind.i64, Cel.int IntKind.i64, Cel.int IntKind.i64, Cel.int IntKind.i64, Cel.int IntKind.i64, Cel.int IntKind.i64,
    Cel.int IntKind.i64, Cel.int IntKind.i64, Cel.int IntKind.i64] true false (List.length x.l) (hasS x.l) anyV), some (Blk.arr (11 : Nat) (List.length (x.l ++ x.j)) (lsF Sh.c (x.l ++
    x.j))), some (Blk.row [AV.v (Value.int IntKind.i64 x.o), AV.v (Value.int IntKind.u32 x.bad), AV.hs (4 : Nat) (0 : Nat) (List.length x.l)]), some (Blk.arr (11 : Nat) (List.length (x.l ++
    x.j')) (lsF Sh.c (x.l ++ x.j'))), some (Blk.row [AV.v (Value.int IntKind.i64 x.f), AV.map (6 : Nat)]), some (Blk.mp [Cel.int IntKind.i64] false true x.n (hasC x.gv x.sn) (valC x.f x.gv
    x.sn)), some (Blk.row [AV.v (Value.int IntKind.i64 x.f), AV.hs (8 : Nat) (0 : Nat) (List.length x.gv), AV.hs (9 : Nat) (0 : Nat) (List.length x.sn)]), some (Blk.arr (11 : Nat)
    (List.length (x.gv ++ x.jg)) (lsF Sh.c (x.gv ++ x.jg))), some (Blk.arr (1 : Nat) (List.length (x.sn ++ x.js)) (lsF I64.c (x.sn ++ x.js)))])) (Tree.chk (cl (LeL [AV.ptr (0 : Nat) (0 :
    Nat), AV.agg [AV.v (Value.int IntKind.i64 (List.getD x.acts x.i default).w), AV.v (Value.int IntKind.i64 (5 : Int)), AV.v (Value.int IntKind.i64 (0 : Int)), AV.v (Value.int IntKind.i64
    (List.getD x.acts x.i default).v), AV.v (Value.int IntKind.i64 (0 : Int)), AV.v (Value.int IntKind.i64 (0 : Int)), AV.v (Value.int IntKind.i64 (0 : Int)), AV.v (Value.int IntKind.i64 (0
    : Int)), AV.v (Value.int IntKind.i64 (0 : Int)), AV.v (Value.int IntKind.i64 (0 : Int)), AV.v (Value.int IntKind.i64 (0 : Int))]] [AV.ptr (0 : Nat) (0 : Nat), AV.agg [AV.v (Value.int
    IntKind.i64 (List.getD x.acts x.i default).w), AV.v (Value.int IntKind.i64 (5 : Int)), AV.v (Value.int IntKind.i64 (0 : Int)), AV.v (Value.int IntKind.i64 (List.getD x.acts x.i
    default).v), AV.v (Value.int IntKind.i64 (0 : Int)), AV.v (Value.int IntKind.i64 (0 : Int)), AV.v (Value.int IntKind.i64 (0 : Int)), AV.v (Value.int IntKind.i64 (0 : Int)), AV.v
    (Value.int IntKind.i64 (0 : Int)), AV.v (Value.int IntKind.i64 (0 : Int)), AV.v (Value.int IntKind.i64 (0 : Int))]] ∧ LeH [some (Blk.row [AV.v (Value.int IntKind.i64 x.o), AV.v
    (Value.int IntKind.u32 x.bad), AV.map (1 : Nat), AV.hs (2 : Nat) (0 : Nat) (List.length x.l)]), some (Blk.mp [Cel.int IntKind.i64, Cel.int IntKind.i64, Cel.int IntKind.i64, Cel.int
    IntKind.i64, Cel.int IntKind.i64, Cel.int IntKind.i64, Cel.int IntKind.i64, Cel.int IntKind.i64, Cel.int IntKind.i64, Cel.int IntKind.i64, Cel.int IntKind.i64] true false (List.length
    x.l) (hasS x.l) anyV), some (Blk.arr (11 : Nat) (List.length (x.l ++ x.j)) (lsF Sh.c (x.l ++ x.j)))] [some (Blk.row [AV.v (Value.int IntKind.i64 x.o), AV.v (Value.int IntKind.u32 x.bad),
    AV.map (1 : Nat), AV.hs (2 : Nat) (0 : Nat) (List.length x.l)]), some (Blk.mp [Cel.int IntKind.i64, Cel.int IntKind.i64, Cel.int IntKind.i64, Cel.int IntKind.i64, Cel.int IntKind.i64,
    Cel.int IntKind.i64, Cel.int IntKind.i64, Cel.int IntKind.i64, Cel.int IntKind.i64, Cel.int IntKind.i64, Cel.int IntKind.i64] true false (List.length x.l) (hasS x.l) anyV), some (Blk.arr
    (11 : Nat) (List.length (x.l ++ x.j)) (lsF Sh.c (x.l ++ x.j)))])) (Tree.chk (cl (LeL [AV.ptr (0 : Nat) (0 : Nat), AV.agg [AV.v (Value.int IntKind.i64 (List.getD x.acts x.i default).w),
    AV.v (Value.int IntKind.i64 (5 : Int)), AV.v (Value.int IntKind.i64 (0 : Int)), AV.v (Value.int IntKind.i64 (List.getD x.acts x.i default).v), AV.v (Value.int IntKind.i64 (0 : Int)),
    AV.v (Value.int IntKind.i64 (0 : Int)), AV.v (Value.int IntKind.i64 (0 : Int)), AV.v (Value.int IntKind.i64 (0 : Int)), AV.v (Value.int IntKind.i64 (0 : Int)), AV.v (Value.int
    IntKind.i64 (0 : Int)), AV.v (Value.int IntKind.i64 (0 : Int))]] [AV.ptr (0 : Nat) (0 : Nat), AV.agg [AV.v (Value.int IntKind.i64 (List.getD x.acts x.i default).w), AV.v (Value.int
    IntKind.i64 (5 : Int)), AV.v (Value.int IntKind.i64 (0 : Int)), AV.v (Value.int IntKind.i64 (List.getD x.acts x.i default).v), AV.v (Value.int IntKind.i64 (0 : Int)), AV.v (Value.int
    IntKind.i64 (0 : Int)), AV.v (Value.int IntKind.i64 (0 : Int)), AV.v (Value.int IntKind.i64 (0 : Int)), AV.v (Value.int IntKind.i64 (0 : Int)), AV.v (Value.int IntKind.i64 (0 : Int)),
    AV.v (Value.int IntKind.i64 (0 : Int))]] ∧ LeH [some (Blk.row [AV.v (Value.int IntKind.i64 x.o), AV.v (Value.int IntKind.u32 x.bad), AV.hs (1 : Nat) (0 : Nat) (List.length x.l)]), some
    (Blk.arr (11 : Nat) (List.length (x.l ++ x.j')) (lsF Sh.c (x.l ++ x.j')))] [some (Blk.row [AV.v (Value.int IntKind.i64 x.o), AV.v (Value.int IntKind.u32 x.bad), AV.hs (1 : Nat) (0 : Nat)
    (List.length x.l)]), some (Blk.arr (11 : Nat) (List.length (x.l ++ x.j')) (lsF Sh.c (x.l ++ x.j')))])) (Tree.br false (Tree.leaf (Out.mk AEx.ret [AV.sl (4 : Nat) (List.length x.acts)
    (lsF Ac.c x.acts), AV.ptr (0 : Nat) (0 : Nat), AV.ptr (3 : Nat) (0 : Nat), AV.ptr (5 : Nat) (0 : Nat), AV.ptr (7 : Nat) (0 : Nat), AV.v (Value.int IntKind.i64 (↑x.i : Int)), AV.v
    (Value.bool false)] [some (Blk.row [AV.v (Value.int IntKind.i64 x.o), AV.v (Value.int IntKind.u32 x.bad), AV.map (1 : Nat), AV.hs (2 : Nat) (0 : Nat) (List.length x.l)]), some (Blk.mp
    [Cel.int IntKind.i64, Cel.int IntKind.i64, Cel.int IntKind.i64, Cel.int IntKind.i64, Cel.int IntKind.i64, Cel.int IntKind.i64, Cel.int IntKind.i64, Cel.int IntKind.i64, Cel.int
    IntKind.i64, Cel.int IntKind.i64, Cel.int IntKind.i64] true false (List.length x.l) (hasS x.l) anyV), some (Blk.arr (11 : Nat) (List.length (x.l ++ x.j)) (lsF Sh.c (x.l ++ x.j))), some
    (Blk.row [AV.v (Value.int IntKind.i64 x.o), AV.v (Value.int IntKind.u32 x.bad), AV.hs (4 : Nat) (0 : Nat) (List.length x.l)]), some (Blk.arr (11 : Nat) (List.length (x.l ++ x.j')) (lsF
    Sh.c (x.l ++ x.j'))), some (Blk.row [AV.v (Value.int IntKind.i64 x.f), AV.map (6 : Nat)]), some (Blk.mp [Cel.int IntKind.i64] false true x.n (hasC x.gv x.sn) (valC x.f x.gv x.sn)), some
    (Blk.row [AV.v (Value.int IntKind.i64 x.f), AV.hs (8 : Nat) (0 : Nat) (List.length x.gv), AV.hs (9 : Nat) (0 : Nat) (List.length x.sn)]), some (Blk.arr (11 : Nat) (List.length (x.gv ++
    x.jg)) (lsF Sh.c (x.gv ++ x.jg))), some (Blk.arr (1 : Nat) (List.length (x.sn ++ x.js)) (lsF I64.c (x.sn ++ x.js)))])) (Tree.chk (cl (LeL [AV.ptr (0 : Nat) (0 : Nat), AV.v (Value.int
    IntKind.i64 (List.getD x.acts x.i default).v)] [AV.ptr (0 : Nat) (0 : Nat), AV.v (Value.int IntKind.i64 (List.getD x.acts x.i default).v)] ∧ LeH [some (Blk.row [AV.v (Value.int
    IntKind.i64 x.f), AV.map (1 : Nat)]), some (Blk.mp [Cel.int IntKind.i64] false true x.n (hasC x.gv x.sn) (valC x.f x.gv x.sn))] [some (Blk.row [AV.v (Value.int IntKind.i64 x.f), AV.map
    (1 : Nat)]), some (Blk.mp [Cel.int IntKind.i64] false true x.n (hasC x.gv x.sn) (valC x.f x.gv x.sn))])) (Tree.chk (cl (LeL [AV.ptr (0 : Nat) (0 : Nat), AV.v (Value.int IntKind.i64
    (List.getD x.acts x.i default).v)] [AV.ptr (0 : Nat) (0 : Nat), AV.v (Value.int IntKind.i64 (List.getD x.acts x.i default).v)] ∧ LeH [some (Blk.row [AV.v (Value.int IntKind.i64 x.f),
    AV.hs (1 : Nat) (0 : Nat) (List.length x.gv), AV.hs (2 : Nat) (0 : Nat) (List.length x.sn)]), some (Blk.arr (11 : Nat) (List.length (x.gv ++ x.jg)) (lsF Sh.c (x.gv ++ x.jg))), some
    (Blk.arr (1 : Nat) (List.length (x.sn ++ x.js)) (lsF I64.c (x.sn ++ x.js)))] [some (Blk.row [AV.v (Value.int IntKind.i64 x.f), AV.hs (1 : Nat) (0 : Nat) (List.length (X3.K x).gv), AV.hs
    (2 : Nat) (0 : Nat) (List.length (X3.K x).sn)]), some (Blk.arr (11 : Nat) (List.length ((X3.K x).gv ++ (X3.K x).jg)) (lsF Sh.c ((X3.K x).gv ++ (X3.K x).jg))), some (Blk.arr (1 : Nat)
    (List.length ((X3.K x).sn ++ (X3.K x).js)) (lsF I64.c ((X3.K x).sn ++ (X3.K x).js)))])) (Tree.br (!snB x.sn (List.getD x.acts x.i default).v == snB (X3.K x).sn (List.getD x.acts x.i
    default).v) (Tree.leaf (Out.mk AEx.ret [AV.sl (4 : Nat) (List.length x.acts) (lsF Ac.c x.acts), AV.ptr (0 : Nat) (0 : Nat), AV.ptr (3 : Nat) (0 : Nat), AV.ptr (5 : Nat) (0 : Nat), AV.ptr
    (7 : Nat) (0 : Nat), AV.v (Value.int IntKind.i64 (↑x.i : Int)), AV.v (Value.bool false)] [some (Blk.row [AV.v (Value.int IntKind.i64 x.o), AV.v (Value.int IntKind.u32 x.bad), AV.map (1 :
    Nat), AV.hs (2 : Nat) (0 : Nat) (List.length x.l)]), some (Blk.mp [Cel.int IntKind.i64, Cel.int IntKind.i64, Cel.int IntKind.i64, Cel.int IntKind.i64, Cel.int IntKind.i64, Cel.int
    IntKind.i64, Cel.int IntKind.i64, Cel.int IntKind.i64, Cel.int IntKind.i64, Cel.int IntKind.i64, Cel.int IntKind.i64] true false (List.length x.l) (hasS x.l) anyV), some (Blk.arr (11 :
    Nat) (List.length (x.l ++ x.j)) (lsF Sh.c (x.l ++ x.j))), some (Blk.row [AV.v (Value.int IntKind.i64 x.o), AV.v (Value.int IntKind.u32 x.bad), AV.hs (4 : Nat) (0 : Nat) (List.length
    x.l)]), some (Blk.arr (11 : Nat) (List.length (x.l ++ x.j')) (lsF Sh.c (x.l ++ x.j'))), some (Blk.row [AV.v (Value.int IntKind.i64 x.f), AV.map (6 : Nat)]), some (Blk.mp [Cel.int
    IntKind.i64] false true x.n (hasC x.gv x.sn) (valC x.f x.gv x.sn)), some (Blk.row [AV.v (Value.int IntKind.i64 x.f), AV.hs (8 : Nat) (0 : Nat) (List.length (X3.K x).gv), AV.hs (9 : Nat)
    (0 : Nat) (List.length (X3.K x).sn)]), some (Blk.arr (11 : Nat) (List.length ((X3.K x).gv ++ (X3.K x).jg)) (lsF Sh.c ((X3.K x).gv ++ (X3.K x).jg))), some (Blk.arr (1 : Nat) (List.length
    ((X3.K x).sn ++ (X3.K x).js)) (lsF I64.c ((X3.K x).sn ++ (X3.K x).js)))])) (Tree.leaf (Out.mk AEx.normal [AV.sl (4 : Nat) (List.length x.acts) (lsF Ac.c x.acts), AV.ptr (0 : Nat) (0 :
    Nat), AV.ptr (3 : Nat) (0 : Nat), AV.ptr (5 : Nat) (0 : Nat), AV.ptr (7 : Nat) (0 : Nat), AV.v (Value.int IntKind.i64 (IntKind.wrap IntKind.i64 ((↑x.i : Int) + (1 : Int)))), AV.any]
    [some (Blk.row [AV.v (Value.int IntKind.i64 x.o), AV.v (Value.int IntKind.u32 x.bad), AV.map (1 : Nat), AV.hs (2 : Nat) (0 : Nat) (List.length x.l)]), some (Blk.mp [Cel.int IntKind.i64,
    Cel.int IntKind.i64, Cel.int IntKind.i64, Cel.int IntKind.i64, Cel.int IntKind.i64, Cel.int IntKind.i64, Cel.int IntKind.i64, Cel.int IntKind.i64, Cel.int IntKind.i64, Cel.int
    IntKind.i64, Cel.int IntKind.i64] true false (List.length x.l) (hasS x.l) anyV), some (Blk.arr (11 : Nat) (List.length (x.l ++ x.j)) (lsF Sh.c (x.l ++ x.j))), some (Blk.row [AV.v
    (Value.int IntKind.i64 x.o), AV.v (Value.int IntKind.u32 x.bad), AV.hs (4 : Nat) (0 : Nat) (List.length x.l)]), some (Blk.arr (11 : Nat) (List.length (x.l ++ x.j')) (lsF Sh.c (x.l ++
    x.j'))), some (Blk.row [AV.v (Value.int IntKind.i64 x.f), AV.map (6 : Nat)]), some (Blk.mp [Cel.int IntKind.i64] false true x.n (hasC x.gv x.sn) (valC x.f x.gv x.sn)), some (Blk.row
    [AV.v (Value.int IntKind.i64 x.f), AV.hs (8 : Nat) (0 : Nat) (List.length (X3.K x).gv), AV.hs (9 : Nat) (0 : Nat) (List.length (X3.K x).sn)]), some (Blk.arr (11 : Nat) (List.length
    ((X3.K x).gv ++ (X3.K x).jg)) (lsF Sh.c ((X3.K x).gv ++ (X3.K x).jg))), some (Blk.arr (1 : Nat) (List.length ((X3.K x).sn ++ (X3.K x).js)) (lsF I64.c ((X3.K x).sn ++ (X3.K
    x).js)))]))))))))) (Tree.chk (cl (LeL [AV.ptr (0 : Nat) (0 : Nat), AV.v (Value.int IntKind.i64 (List.getD x.acts x.i default).v)] [AV.ptr (0 : Nat) (0 : Nat), AV.v (Value.int IntKind.i64
    (List.getD x.acts x.i default).v)] ∧ LeH [some (Blk.row [AV.v (Value.int IntKind.i64 x.f), AV.map (1 : Nat)]), some (Blk.mp [Cel.int IntKind.i64] false true x.n (hasC x.gv x.sn) (valC
    x.f x.gv x.sn))] [some (Blk.row [AV.v (Value.int IntKind.i64 x.f), AV.map (1 : Nat)]), some (Blk.mp [Cel.int IntKind.i64] false true x.n (hasC x.gv x.sn) (valC x.f x.gv x.sn))]))
    (Tree.chk (cl (LeL [AV.ptr (0 : Nat) (0 : Nat), AV.v (Value.int IntKind.i64 (List.getD x.acts x.i default).v)] [AV.ptr (0 : Nat) (0 : Nat), AV.v (Value.int IntKind.i64 (List.getD x.acts
    x.i default).v)] ∧ LeH [some (Blk.row [AV.v (Value.int IntKind.i64 x.f), AV.hs (1 : Nat) (0 : Nat) (List.length x.gv), AV.hs (2 : Nat) (0 : Nat) (List.length x.sn)]), some (Blk.arr (11 :
    Nat) (List.length (x.gv ++ x.jg)) (lsF Sh.c (x.gv ++ x.jg))), some (Blk.arr (1 : Nat) (List.length (x.sn ++ x.js)) (lsF I64.c (x.sn ++ x.js)))] [some (Blk.row [AV.v (Value.int
    IntKind.i64 x.f), AV.hs (1 : Nat) (0 : Nat) (List.length (X3.K x).gv), AV.hs (2 : Nat) (0 : Nat) (List.length (X3.K x).sn)]), some (Blk.arr (11 : Nat) (List.length ((X3.K x).gv ++ (X3.K
    x).jg)) (lsF Sh.c ((X3.K x).gv ++ (X3.K x).jg))), some (Blk.arr (1 : Nat) (List.length ((X3.K x).sn ++ (X3.K x).js)) (lsF I64.c ((X3.K x).sn ++ (X3.K x).js)))])) (Tree.br (!snB x.sn
    (List.getD x.acts x.i default).v == snB (X3.K x).sn (List.getD x.acts x.i default).v) (Tree.leaf (Out.mk AEx.ret [AV.sl (4 : Nat) (List.length x.acts) (lsF Ac.c x.acts), AV.ptr (0 : Nat)
    (0 : Nat), AV.ptr (3 : Nat) (0 : Nat), AV.ptr (5 : Nat) (0 : Nat), AV.ptr (7 : Nat) (0 : Nat), AV.v (Value.int IntKind.i64 (↑x.i : Int)), AV.v (Value.bool false)] [some (Blk.row [AV.v
    (Value.int IntKind.i64 x.o), AV.v (Value.int IntKind.u32 x.bad), AV.map (1 : Nat), AV.hs (2 : Nat) (0 : Nat) (List.length x.l)]), some (Blk.mp [Cel.int IntKind.i64, Cel.int IntKind.i64,
    Cel.int IntKind.i64, Cel.int IntKind.i64, Cel.int IntKind.i64, Cel.int IntKind.i64, Cel.int IntKind.i64, Cel.int IntKind.i64, Cel.int IntKind.i64, Cel.int IntKind.i64, Cel.int
    IntKind.i64] true false (List.length x.l) (hasS x.l) anyV), some (Blk.arr (11 : Nat) (List.length (x.l ++ x.j)) (lsF Sh.c (x.l ++ x.j))), some (Blk.row [AV.v (Value.int IntKind.i64 x.o),
    AV.v (Value.int IntKind.u32 x.bad), AV.hs (4 : Nat) (0 : Nat) (List.length x.l)]), some (Blk.arr (11 : Nat) (List.length (x.l ++ x.j')) (lsF Sh.c (x.l ++ x.j'))), some (Blk.row [AV.v
    (Value.int IntKind.i64 x.f), AV.map (6 : Nat)]), some (Blk.mp [Cel.int IntKind.i64] false true x.n (hasC x.gv x.sn) (valC x.f x.gv x.sn)), some (Blk.row [AV.v (Value.int IntKind.i64
    x.f), AV.hs (8 : Nat) (0 : Nat) (List.length (X3.K x).gv), AV.hs (9 : Nat) (0 : Nat) (List.length (X3.K x).sn)]), some (Blk.arr (11 : Nat) (List.length ((X3.K x).gv ++ (X3.K x).jg)) (lsF
    Sh.c ((X3.K x).gv ++ (X3.K x).jg))), some (Blk.arr (1 : Nat) (List.length ((X3.K x).sn ++ (X3.K x).js)) (lsF I64.c ((X3.K x).sn ++ (X3.K x).js)))])) (Tree.leaf (Out.mk AEx.normal [AV.sl
    (4 : Nat) (List.length x.acts) (lsF Ac.c x.acts), AV.ptr (0 : Nat) (0 : Nat), AV.ptr (3 : Nat) (0 : Nat), AV.ptr (5 : Nat) (0 : Nat), AV.ptr (7 : Nat) (0 : Nat), AV.v (Value.int
    IntKind.i64 (IntKind.wrap IntKind.i64 ((↑x.i : Int) + (1 : Int)))), AV.any] [some (Blk.row [AV.v (Value.int IntKind.i64 x.o), AV.v (Value.int IntKind.u32 x.bad), AV.map (1 : Nat), AV.hs
    (2 : Nat) (0 : Nat) (List.length x.l)]), some (Blk.mp [Cel.int IntKind.i64, Cel.int IntKind.i64, Cel.int IntKind.i64, Cel.int IntKind.i64, Cel.int IntKind.i64, Cel.int IntKind.i64,
    Cel.int IntKind.i64, Cel.int IntKind.i64, Cel.int IntKind.i64, Cel.int IntKind.i64, Cel.int IntKind.i64] true false (List.length x.l) (hasS x.l) anyV), some (Blk.arr (11 : Nat)
    (List.length (x.l ++ x.j)) (lsF Sh.c (x.l ++ x.j))), some (Blk.row [AV.v (Value.int IntKind.i64 x.o), AV.v (Value.int IntKind.u32 x.bad), AV.hs (4 : Nat) (0 : Nat) (List.length x.l)]),
    some (Blk.arr (11 : Nat) (List.length (x.l ++ x.j')) (lsF Sh.c (x.l ++ x.j'))), some (Blk.row [AV.v (Value.int IntKind.i64 x.f), AV.map (6 : Nat)]), some (Blk.mp [Cel.int IntKind.i64]
    false true x.n (hasC x.gv x.sn) (valC x.f x.gv x.sn)), some (Blk.row [AV.v (Value.int IntKind.i64 x.f), AV.hs (8 : Nat) (0 : Nat) (List.length (X3.K x).gv), AV.hs (9 : Nat) (0 : Nat)
    (List.length (X3.K x).sn)]), some (Blk.arr (11 : Nat) (List.length ((X3.K x).gv ++ (X3.K x).jg)) (lsF Sh.c ((X3.K x).gv ++ (X3.K x).jg))), some (Blk.arr (1 : Nat) (List.length ((X3.K
    x).sn ++ (X3.K x).js)) (lsF I64.c ((X3.K x).sn ++ (X3.K x).js)))]))))))))) (Tree.leaf (Out.mk (AEx.exit (0 : Nat)) [AV.sl (4 : Nat) (List.length x.acts) (lsF Ac.c x.acts), AV.ptr (0 :
    Nat) (0 : Nat), AV.ptr (3 : Nat) (0 : Nat), AV.ptr (5 : Nat) (0 : Nat), AV.ptr (7 : Nat) (0 : Nat), AV.v (Value.int IntKind.i64 (↑x.i : Int)), AV.any] [some (Blk.row [AV.v (Value.int
    IntKind.i64 x.o), AV.v (Value.int IntKind.u32 x.bad), AV.map (1 : Nat), AV.hs (2 : Nat) (0 : Nat) (List.length x.l)]), some (Blk.mp [Cel.int IntKind.i64, Cel.int IntKind.i64, Cel.int
    IntKind.i64, Cel.int IntKind.i64, Cel.int IntKind.i64, Cel.int IntKind.i64, Cel.int IntKind.i64, Cel.int IntKind.i64, Cel.int IntKind.i64, Cel.int IntKind.i64, Cel.int IntKind.i64] true
    false (List.length x.l) (hasS x.l) anyV), some (Blk.arr (11 : Nat) (List.length (x.l ++ x.j)) (lsF Sh.c (x.l ++ x.j))), some (Blk.row [AV.v (Value.int IntKind.i64 x.o), AV.v (Value.int
    IntKind.u32 x.bad), AV.hs (4 : Nat) (0 : Nat) (List.length x.l)]), some (Blk.arr (11 : Nat) (List.length (x.l ++ x.j')) (lsF Sh.c (x.l ++ x.j'))), some (Blk.row [AV.v (Value.int
    IntKind.i64 x.f), AV.map (6 : Nat)]), some (Blk.mp [Cel.int IntKind.i64] false true x.n (hasC x.gv x.sn) (valC x.f x.gv x.sn)), some (Blk.row [AV.v (Value.int IntKind.i64 x.f), AV.hs (8
    : Nat) (0 : Nat) (List.length x.gv), AV.hs (9 : Nat) (0 : Nat) (List.length x.sn)]), some (Blk.arr (11 : Nat) (List.length (x.gv ++ x.jg)) (lsF Sh.c (x.gv ++ x.jg))), some (Blk.arr (1 :
    Nat) (List.length (x.sn ++ x.js)) (lsF I64.c (x.sn ++ x.js)))])) := by kernel_rfl
theorem qiThere (x : X3) (hs : x.sn.length ≤ 100000) (hg : x.gv.length ≤ 100000) (hl : x.l.length ≤ 100000) (h : ¬ outS x.o (shA x)) (hx : shA x ∈ x.l) : roundE (P := Tryd.prog) (Γ := Γc) [k15, CT.at 16 (ansIssueThere (f := x.o) (bad := x.bad) (l := x.l) (j := x.j) h hx), CT.at 17 (ansIssueRThere (f := x.o) (bad := x.bad) (l := x.l) (j := x.j') h hl hx), CT.at 18 (ansSeen (v := (x.acts.getD x.i default).v) (f := x.f) (gv := x.gv) (sn := x.sn) (n := x.n)), CT.at 19 (ansWas (x := x.K) (v := (x.acts.getD x.i default).v) hs)] Lno false 0 0 lp3 lv3 nl3 161 (S31 x).1 (S31 x).2 =
  Tree.br (bif decide ((↑x.i : Int) < (↑(List.length x.acts) : Int)) then true else false) (Tree.chk (decide ((0 : Int) ≤ (↑x.i : Int)) && decide ((↑x.i : Int) < (↑(List.length x.acts) :
    Int))) (Tree.br (decide ((List.getD x.acts x.i default).k = (0 : Int))) Tree.fail (Tree.br (decide ((List.getD x.acts x.i default).k = (1 : Int))) Tree.fail (Tree.br (decide ((List.getD
    x.acts x.i default).k = (2 : Int))) (Tree.br (!(decide ((List.getD x.acts x.i default).v = (List.getD x.acts x.i default).v) && true)) (Tree.leaf (Out.mk AEx.ret [AV.sl (4 : Nat)
    (List.length x.acts) (lsF Ac.c x.acts), AV.ptr (0 : Nat) (0 : Nat), AV.ptr (3 : Nat) (0 : Nat), AV.ptr (5 : Nat) (0 : Nat), AV.ptr (7 : Nat) (0 : Nat), AV.v (Value.int IntKind.i64 (↑x.i
    : Int)), AV.v (Value.bool false)] [some (Blk.row [AV.v (Value.int IntKind.i64 x.o), AV.v (Value.int IntKind.u32 x.bad), AV.map (1 : Nat), AV.hs (2 : Nat) (0 : Nat) (List.length x.l)]),
    some (Blk.mp [Cel.int IntKind.i64, Cel.int IntKind.i64, Cel.int IntKind.i64, Cel.int IntKind.i64, Cel.int IntKind.i64, Cel.int IntKind.i64, Cel.int IntKind.i64, Cel.int IntKind.i64,
    Cel.int IntKind.i64, Cel.int IntKind.i64, Cel.int IntKind.i64] true false (List.length x.l) (hasS x.l) anyV), some (Blk.arr (11 : Nat) (List.length (x.l ++ x.j)) (lsF Sh.c (x.l ++
    x.j))), some (Blk.row [AV.v (Value.int IntKind.i64 x.o), AV.v (Value.int IntKind.u32 x.bad), AV.hs (4 : Nat) (0 : Nat) (List.length x.l)]), some (Blk.arr (11 : Nat) (List.length (x.l ++
    x.j')) (lsF Sh.c (x.l ++ x.j'))), some (Blk.row [AV.v (Value.int IntKind.i64 x.f), AV.map (6 : Nat)]), some (Blk.mp [Cel.int IntKind.i64] false true x.n (hasC x.gv x.sn) (valC x.f x.gv
    x.sn)), some (Blk.row [AV.v (Value.int IntKind.i64 x.f), AV.hs (8 : Nat) (0 : Nat) (List.length x.gv), AV.hs (9 : Nat) (0 : Nat) (List.length x.sn)]), some (Blk.arr (11 : Nat)
    (List.length (x.gv ++ x.jg)) (lsF Sh.c (x.gv ++ x.jg))), some (Blk.arr (1 : Nat) (List.length (x.sn ++ x.js)) (lsF I64.c (x.sn ++ x.js)))])) (Tree.chk (cl (LeL [AV.ptr (0 : Nat) (0 :
    Nat), AV.agg [AV.v (Value.int IntKind.i64 (List.getD x.acts x.i default).w), AV.v (Value.int IntKind.i64 (5 : Int)), AV.v (Value.int IntKind.i64 (0 : Int)), AV.v (Value.int IntKind.i64
    (List.getD x.acts x.i default).v), AV.v (Value.int IntKind.i64 (0 : Int)), AV.v (Value.int IntKind.i64 (0 : Int)), AV.v (Value.int IntKind.i64 (0 : Int)), AV.v (Value.int IntKind.i64 (0
    : Int)), AV.v (Value.int IntKind.i64 (0 : Int)), AV.v (Value.int IntKind.i64 (0 : Int)), AV.v (Value.int IntKind.i64 (0 : Int))]] [AV.ptr (0 : Nat) (0 : Nat), AV.agg [AV.v (Value.int
    IntKind.i64 (List.getD x.acts x.i default).w), AV.v (Value.int IntKind.i64 (5 : Int)), AV.v (Value.int IntKind.i64 (0 : Int)), AV.v (Value.int IntKind.i64 (List.getD x.acts x.i
    default).v), AV.v (Value.int IntKind.i64 (0 : Int)), AV.v (Value.int IntKind.i64 (0 : Int)), AV.v (Value.int IntKind.i64 (0 : Int)), AV.v (Value.int IntKind.i64 (0 : Int)), AV.v
    (Value.int IntKind.i64 (0 : Int)), AV.v (Value.int IntKind.i64 (0 : Int)), AV.v (Value.int IntKind.i64 (0 : Int))]] ∧ LeH [some (Blk.row [AV.v (Value.int IntKind.i64 x.o), AV.v
    (Value.int IntKind.u32 x.bad), AV.map (1 : Nat), AV.hs (2 : Nat) (0 : Nat) (List.length x.l)]), some (Blk.mp [Cel.int IntKind.i64, Cel.int IntKind.i64, Cel.int IntKind.i64, Cel.int
    IntKind.i64, Cel.int IntKind.i64, Cel.int IntKind.i64, Cel.int IntKind.i64, Cel.int IntKind.i64, Cel.int IntKind.i64, Cel.int IntKind.i64, Cel.int IntKind.i64] true false (List.length
    x.l) (hasS x.l) anyV), some (Blk.arr (11 : Nat) (List.length (x.l ++ x.j)) (lsF Sh.c (x.l ++ x.j)))] [some (Blk.row [AV.v (Value.int IntKind.i64 x.o), AV.v (Value.int IntKind.u32 x.bad),
    AV.map (1 : Nat), AV.hs (2 : Nat) (0 : Nat) (List.length x.l)]), some (Blk.mp [Cel.int IntKind.i64, Cel.int IntKind.i64, Cel.int IntKind.i64, Cel.int IntKind.i64, Cel.int IntKind.i64,
    Cel.int IntKind.i64, Cel.int IntKind.i64, Cel.int IntKind.i64, Cel.int IntKind.i64, Cel.int IntKind.i64, Cel.int IntKind.i64] true false (List.length x.l) (hasS x.l) anyV), some (Blk.arr
    (11 : Nat) (List.length (x.l ++ x.j)) (lsF Sh.c (x.l ++ x.j)))])) (Tree.chk (cl (LeL [AV.ptr (0 : Nat) (0 : Nat), AV.agg [AV.v (Value.int IntKind.i64 (List.getD x.acts x.i default).w),
    AV.v (Value.int IntKind.i64 (5 : Int)), AV.v (Value.int IntKind.i64 (0 : Int)), AV.v (Value.int IntKind.i64 (List.getD x.acts x.i default).v), AV.v (Value.int IntKind.i64 (0 : Int)),
    AV.v (Value.int IntKind.i64 (0 : Int)), AV.v (Value.int IntKind.i64 (0 : Int)), AV.v (Value.int IntKind.i64 (0 : Int)), AV.v (Value.int IntKind.i64 (0 : Int)), AV.v (Value.int
    IntKind.i64 (0 : Int)), AV.v (Value.int IntKind.i64 (0 : Int))]] [AV.ptr (0 : Nat) (0 : Nat), AV.agg [AV.v (Value.int IntKind.i64 (List.getD x.acts x.i default).w), AV.v (Value.int
    IntKind.i64 (5 : Int)), AV.v (Value.int IntKind.i64 (0 : Int)), AV.v (Value.int IntKind.i64 (List.getD x.acts x.i default).v), AV.v (Value.int IntKind.i64 (0 : Int)), AV.v (Value.int
    IntKind.i64 (0 : Int)), AV.v (Value.int IntKind.i64 (0 : Int)), AV.v (Value.int IntKind.i64 (0 : Int)), AV.v (Value.int IntKind.i64 (0 : Int)), AV.v (Value.int IntKind.i64 (0 : Int)),
    AV.v (Value.int IntKind.i64 (0 : Int))]] ∧ LeH [some (Blk.row [AV.v (Value.int IntKind.i64 x.o), AV.v (Value.int IntKind.u32 x.bad), AV.hs (1 : Nat) (0 : Nat) (List.length x.l)]), some
    (Blk.arr (11 : Nat) (List.length (x.l ++ x.j')) (lsF Sh.c (x.l ++ x.j')))] [some (Blk.row [AV.v (Value.int IntKind.i64 x.o), AV.v (Value.int IntKind.u32 x.bad), AV.hs (1 : Nat) (0 : Nat)
    (List.length x.l)]), some (Blk.arr (11 : Nat) (List.length (x.l ++ x.j')) (lsF Sh.c (x.l ++ x.j')))])) (Tree.br false (Tree.leaf (Out.mk AEx.ret [AV.sl (4 : Nat) (List.length x.acts)
    (lsF Ac.c x.acts), AV.ptr (0 : Nat) (0 : Nat), AV.ptr (3 : Nat) (0 : Nat), AV.ptr (5 : Nat) (0 : Nat), AV.ptr (7 : Nat) (0 : Nat), AV.v (Value.int IntKind.i64 (↑x.i : Int)), AV.v
    (Value.bool false)] [some (Blk.row [AV.v (Value.int IntKind.i64 x.o), AV.v (Value.int IntKind.u32 x.bad), AV.map (1 : Nat), AV.hs (2 : Nat) (0 : Nat) (List.length x.l)]), some (Blk.mp
    [Cel.int IntKind.i64, Cel.int IntKind.i64, Cel.int IntKind.i64, Cel.int IntKind.i64, Cel.int IntKind.i64, Cel.int IntKind.i64, Cel.int IntKind.i64, Cel.int IntKind.i64, Cel.int
    IntKind.i64, Cel.int IntKind.i64, Cel.int IntKind.i64] true false (List.length x.l) (hasS x.l) anyV), some (Blk.arr (11 : Nat) (List.length (x.l ++ x.j)) (lsF Sh.c (x.l ++ x.j))), some
    (Blk.row [AV.v (Value.int IntKind.i64 x.o), AV.v (Value.int IntKind.u32 x.bad), AV.hs (4 : Nat) (0 : Nat) (List.length x.l)]), some (Blk.arr (11 : Nat) (List.length (x.l ++ x.j')) (lsF
    Sh.c (x.l ++ x.j'))), some (Blk.row [AV.v (Value.int IntKind.i64 x.f), AV.map (6 : Nat)]), some (Blk.mp [Cel.int IntKind.i64] false true x.n (hasC x.gv x.sn) (valC x.f x.gv x.sn)), some
    (Blk.row [AV.v (Value.int IntKind.i64 x.f), AV.hs (8 : Nat) (0 : Nat) (List.length x.gv), AV.hs (9 : Nat) (0 : Nat) (List.length x.sn)]), some (Blk.arr (11 : Nat) (List.length (x.gv ++
    x.jg)) (lsF Sh.c (x.gv ++ x.jg))), some (Blk.arr (1 : Nat) (List.length (x.sn ++ x.js)) (lsF I64.c (x.sn ++ x.js)))])) (Tree.chk (cl (LeL [AV.ptr (0 : Nat) (0 : Nat), AV.v (Value.int
    IntKind.i64 (List.getD x.acts x.i default).v)] [AV.ptr (0 : Nat) (0 : Nat), AV.v (Value.int IntKind.i64 (List.getD x.acts x.i default).v)] ∧ LeH [some (Blk.row [AV.v (Value.int
    IntKind.i64 x.f), AV.map (1 : Nat)]), some (Blk.mp [Cel.int IntKind.i64] false true x.n (hasC x.gv x.sn) (valC x.f x.gv x.sn))] [some (Blk.row [AV.v (Value.int IntKind.i64 x.f), AV.map
    (1 : Nat)]), some (Blk.mp [Cel.int IntKind.i64] false true x.n (hasC x.gv x.sn) (valC x.f x.gv x.sn))])) (Tree.chk (cl (LeL [AV.ptr (0 : Nat) (0 : Nat), AV.v (Value.int IntKind.i64
    (List.getD x.acts x.i default).v)] [AV.ptr (0 : Nat) (0 : Nat), AV.v (Value.int IntKind.i64 (List.getD x.acts x.i default).v)] ∧ LeH [some (Blk.row [AV.v (Value.int IntKind.i64 x.f),
    AV.hs (1 : Nat) (0 : Nat) (List.length x.gv), AV.hs (2 : Nat) (0 : Nat) (List.length x.sn)]), some (Blk.arr (11 : Nat) (List.length (x.gv ++ x.jg)) (lsF Sh.c (x.gv ++ x.jg))), some
    (Blk.arr (1 : Nat) (List.length (x.sn ++ x.js)) (lsF I64.c (x.sn ++ x.js)))] [some (Blk.row [AV.v (Value.int IntKind.i64 x.f), AV.hs (1 : Nat) (0 : Nat) (List.length (X3.K x).gv), AV.hs
    (2 : Nat) (0 : Nat) (List.length (X3.K x).sn)]), some (Blk.arr (11 : Nat) (List.length ((X3.K x).gv ++ (X3.K x).jg)) (lsF Sh.c ((X3.K x).gv ++ (X3.K x).jg))), some (Blk.arr (1 : Nat)
    (List.length ((X3.K x).sn ++ (X3.K x).js)) (lsF I64.c ((X3.K x).sn ++ (X3.K x).js)))])) (Tree.br (!snB x.sn (List.getD x.acts x.i default).v == snB (X3.K x).sn (List.getD x.acts x.i
    default).v) (Tree.leaf (Out.mk AEx.ret [AV.sl (4 : Nat) (List.length x.acts) (lsF Ac.c x.acts), AV.ptr (0 : Nat) (0 : Nat), AV.ptr (3 : Nat) (0 : Nat), AV.ptr (5 : Nat) (0 : Nat), AV.ptr
    (7 : Nat) (0 : Nat), AV.v (Value.int IntKind.i64 (↑x.i : Int)), AV.v (Value.bool false)] [some (Blk.row [AV.v (Value.int IntKind.i64 x.o), AV.v (Value.int IntKind.u32 x.bad), AV.map (1 :
    Nat), AV.hs (2 : Nat) (0 : Nat) (List.length x.l)]), some (Blk.mp [Cel.int IntKind.i64, Cel.int IntKind.i64, Cel.int IntKind.i64, Cel.int IntKind.i64, Cel.int IntKind.i64, Cel.int
    IntKind.i64, Cel.int IntKind.i64, Cel.int IntKind.i64, Cel.int IntKind.i64, Cel.int IntKind.i64, Cel.int IntKind.i64] true false (List.length x.l) (hasS x.l) anyV), some (Blk.arr (11 :
    Nat) (List.length (x.l ++ x.j)) (lsF Sh.c (x.l ++ x.j))), some (Blk.row [AV.v (Value.int IntKind.i64 x.o), AV.v (Value.int IntKind.u32 x.bad), AV.hs (4 : Nat) (0 : Nat) (List.length
    x.l)]), some (Blk.arr (11 : Nat) (List.length (x.l ++ x.j')) (lsF Sh.c (x.l ++ x.j'))), some (Blk.row [AV.v (Value.int IntKind.i64 x.f), AV.map (6 : Nat)]), some (Blk.mp [Cel.int
    IntKind.i64] false true x.n (hasC x.gv x.sn) (valC x.f x.gv x.sn)), some (Blk.row [AV.v (Value.int IntKind.i64 x.f), AV.hs (8 : Nat) (0 : Nat) (List.length (X3.K x).gv), AV.hs (9 : Nat)
    (0 : Nat) (List.length (X3.K x).sn)]), some (Blk.arr (11 : Nat) (List.length ((X3.K x).gv ++ (X3.K x).jg)) (lsF Sh.c ((X3.K x).gv ++ (X3.K x).jg))), some (Blk.arr (1 : Nat) (List.length
    ((X3.K x).sn ++ (X3.K x).js)) (lsF I64.c ((X3.K x).sn ++ (X3.K x).js)))])) (Tree.leaf (Out.mk AEx.normal [AV.sl (4 : Nat) (List.length x.acts) (lsF Ac.c x.acts), AV.ptr (0 : Nat) (0 :
    Nat), AV.ptr (3 : Nat) (0 : Nat), AV.ptr (5 : Nat) (0 : Nat), AV.ptr (7 : Nat) (0 : Nat), AV.v (Value.int IntKind.i64 (IntKind.wrap IntKind.i64 ((↑x.i : Int) + (1 : Int)))), AV.any]
    [some (Blk.row [AV.v (Value.int IntKind.i64 x.o), AV.v (Value.int IntKind.u32 x.bad), AV.map (1 : Nat), AV.hs (2 : Nat) (0 : Nat) (List.length x.l)]), some (Blk.mp [Cel.int IntKind.i64,
    Cel.int IntKind.i64, Cel.int IntKind.i64, Cel.int IntKind.i64, Cel.int IntKind.i64, Cel.int IntKind.i64, Cel.int IntKind.i64, Cel.int IntKind.i64, Cel.int IntKind.i64, Cel.int
    IntKind.i64, Cel.int IntKind.i64] true false (List.length x.l) (hasS x.l) anyV), some (Blk.arr (11 : Nat) (List.length (x.l ++ x.j)) (lsF Sh.c (x.l ++ x.j))), some (Blk.row [AV.v
    (Value.int IntKind.i64 x.o), AV.v (Value.int IntKind.u32 x.bad), AV.hs (4 : Nat) (0 : Nat) (List.length x.l)]), some (Blk.arr (11 : Nat) (List.length (x.l ++ x.j')) (lsF Sh.c (x.l ++
    x.j'))), some (Blk.row [AV.v (Value.int IntKind.i64 x.f), AV.map (6 : Nat)]), some (Blk.mp [Cel.int IntKind.i64] false true x.n (hasC x.gv x.sn) (valC x.f x.gv x.sn)), some (Blk.row
    [AV.v (Value.int IntKind.i64 x.f), AV.hs (8 : Nat) (0 : Nat) (List.length (X3.K x).gv), AV.hs (9 : Nat) (0 : Nat) (List.length (X3.K x).sn)]), some (Blk.arr (11 : Nat) (List.length
    ((X3.K x).gv ++ (X3.K x).jg)) (lsF Sh.c ((X3.K x).gv ++ (X3.K x).jg))), some (Blk.arr (1 : Nat) (List.length ((X3.K x).sn ++ (X3.K x).js)) (lsF I64.c ((X3.K x).sn ++ (X3.K
    x).js)))]))))))))) (Tree.chk (cl (LeL [AV.ptr (0 : Nat) (0 : Nat), AV.v (Value.int IntKind.i64 (List.getD x.acts x.i default).v)] [AV.ptr (0 : Nat) (0 : Nat), AV.v (Value.int IntKind.i64
    (List.getD x.acts x.i default).v)] ∧ LeH [some (Blk.row [AV.v (Value.int IntKind.i64 x.f), AV.map (1 : Nat)]), some (Blk.mp [Cel.int IntKind.i64] false true x.n (hasC x.gv x.sn) (valC
    x.f x.gv x.sn))] [some (Blk.row [AV.v (Value.int IntKind.i64 x.f), AV.map (1 : Nat)]), some (Blk.mp [Cel.int IntKind.i64] false true x.n (hasC x.gv x.sn) (valC x.f x.gv x.sn))]))
    (Tree.chk (cl (LeL [AV.ptr (0 : Nat) (0 : Nat), AV.v (Value.int IntKind.i64 (List.getD x.acts x.i default).v)] [AV.ptr (0 : Nat) (0 : Nat), AV.v (Value.int IntKind.i64 (List.getD x.acts
    x.i default).v)] ∧ LeH [some (Blk.row [AV.v (Value.int IntKind.i64 x.f), AV.hs (1 : Nat) (0 : Nat) (List.length x.gv), AV.hs (2 : Nat) (0 : Nat) (List.length x.sn)]), some (Blk.arr (11 :
    Nat) (List.length (x.gv ++ x.jg)) (lsF Sh.c (x.gv ++ x.jg))), some (Blk.arr (1 : Nat) (List.length (x.sn ++ x.js)) (lsF I64.c (x.sn ++ x.js)))] [some (Blk.row [AV.v (Value.int
    IntKind.i64 x.f), AV.hs (1 : Nat) (0 : Nat) (List.length (X3.K x).gv), AV.hs (2 : Nat) (0 : Nat) (List.length (X3.K x).sn)]), some (Blk.arr (11 : Nat) (List.length ((X3.K x).gv ++ (X3.K
    x).jg)) (lsF Sh.c ((X3.K x).gv ++ (X3.K x).jg))), some (Blk.arr (1 : Nat) (List.length ((X3.K x).sn ++ (X3.K x).js)) (lsF I64.c ((X3.K x).sn ++ (X3.K x).js)))])) (Tree.br (!snB x.sn
    (List.getD x.acts x.i default).v == snB (X3.K x).sn (List.getD x.acts x.i default).v) (Tree.leaf (Out.mk AEx.ret [AV.sl (4 : Nat) (List.length x.acts) (lsF Ac.c x.acts), AV.ptr (0 : Nat)
    (0 : Nat), AV.ptr (3 : Nat) (0 : Nat), AV.ptr (5 : Nat) (0 : Nat), AV.ptr (7 : Nat) (0 : Nat), AV.v (Value.int IntKind.i64 (↑x.i : Int)), AV.v (Value.bool false)] [some (Blk.row [AV.v
    (Value.int IntKind.i64 x.o), AV.v (Value.int IntKind.u32 x.bad), AV.map (1 : Nat), AV.hs (2 : Nat) (0 : Nat) (List.length x.l)]), some (Blk.mp [Cel.int IntKind.i64, Cel.int IntKind.i64,
    Cel.int IntKind.i64, Cel.int IntKind.i64, Cel.int IntKind.i64, Cel.int IntKind.i64, Cel.int IntKind.i64, Cel.int IntKind.i64, Cel.int IntKind.i64, Cel.int IntKind.i64, Cel.int
    IntKind.i64] true false (List.length x.l) (hasS x.l) anyV), some (Blk.arr (11 : Nat) (List.length (x.l ++ x.j)) (lsF Sh.c (x.l ++ x.j))), some (Blk.row [AV.v (Value.int IntKind.i64 x.o),
    AV.v (Value.int IntKind.u32 x.bad), AV.hs (4 : Nat) (0 : Nat) (List.length x.l)]), some (Blk.arr (11 : Nat) (List.length (x.l ++ x.j')) (lsF Sh.c (x.l ++ x.j'))), some (Blk.row [AV.v
    (Value.int IntKind.i64 x.f), AV.map (6 : Nat)]), some (Blk.mp [Cel.int IntKind.i64] false true x.n (hasC x.gv x.sn) (valC x.f x.gv x.sn)), some (Blk.row [AV.v (Value.int IntKind.i64
    x.f), AV.hs (8 : Nat) (0 : Nat) (List.length (X3.K x).gv), AV.hs (9 : Nat) (0 : Nat) (List.length (X3.K x).sn)]), some (Blk.arr (11 : Nat) (List.length ((X3.K x).gv ++ (X3.K x).jg)) (lsF
    Sh.c ((X3.K x).gv ++ (X3.K x).jg))), some (Blk.arr (1 : Nat) (List.length ((X3.K x).sn ++ (X3.K x).js)) (lsF I64.c ((X3.K x).sn ++ (X3.K x).js)))])) (Tree.leaf (Out.mk AEx.normal [AV.sl
    (4 : Nat) (List.length x.acts) (lsF Ac.c x.acts), AV.ptr (0 : Nat) (0 : Nat), AV.ptr (3 : Nat) (0 : Nat), AV.ptr (5 : Nat) (0 : Nat), AV.ptr (7 : Nat) (0 : Nat), AV.v (Value.int
    IntKind.i64 (IntKind.wrap IntKind.i64 ((↑x.i : Int) + (1 : Int)))), AV.any] [some (Blk.row [AV.v (Value.int IntKind.i64 x.o), AV.v (Value.int IntKind.u32 x.bad), AV.map (1 : Nat), AV.hs
    (2 : Nat) (0 : Nat) (List.length x.l)]), some (Blk.mp [Cel.int IntKind.i64, Cel.int IntKind.i64, Cel.int IntKind.i64, Cel.int IntKind.i64, Cel.int IntKind.i64, Cel.int IntKind.i64,
    Cel.int IntKind.i64, Cel.int IntKind.i64, Cel.int IntKind.i64, Cel.int IntKind.i64, Cel.int IntKind.i64] true false (List.length x.l) (hasS x.l) anyV), some (Blk.arr (11 : Nat)
    (List.length (x.l ++ x.j)) (lsF Sh.c (x.l ++ x.j))), some (Blk.row [AV.v (Value.int IntKind.i64 x.o), AV.v (Value.int IntKind.u32 x.bad), AV.hs (4 : Nat) (0 : Nat) (List.length x.l)]),
    some (Blk.arr (11 : Nat) (List.length (x.l ++ x.j')) (lsF Sh.c (x.l ++ x.j'))), some (Blk.row [AV.v (Value.int IntKind.i64 x.f), AV.map (6 : Nat)]), some (Blk.mp [Cel.int IntKind.i64]
    false true x.n (hasC x.gv x.sn) (valC x.f x.gv x.sn)), some (Blk.row [AV.v (Value.int IntKind.i64 x.f), AV.hs (8 : Nat) (0 : Nat) (List.length (X3.K x).gv), AV.hs (9 : Nat) (0 : Nat)
    (List.length (X3.K x).sn)]), some (Blk.arr (11 : Nat) (List.length ((X3.K x).gv ++ (X3.K x).jg)) (lsF Sh.c ((X3.K x).gv ++ (X3.K x).jg))), some (Blk.arr (1 : Nat) (List.length ((X3.K
    x).sn ++ (X3.K x).js)) (lsF I64.c ((X3.K x).sn ++ (X3.K x).js)))]))))))))) (Tree.leaf (Out.mk (AEx.exit (0 : Nat)) [AV.sl (4 : Nat) (List.length x.acts) (lsF Ac.c x.acts), AV.ptr (0 :
    Nat) (0 : Nat), AV.ptr (3 : Nat) (0 : Nat), AV.ptr (5 : Nat) (0 : Nat), AV.ptr (7 : Nat) (0 : Nat), AV.v (Value.int IntKind.i64 (↑x.i : Int)), AV.any] [some (Blk.row [AV.v (Value.int
    IntKind.i64 x.o), AV.v (Value.int IntKind.u32 x.bad), AV.map (1 : Nat), AV.hs (2 : Nat) (0 : Nat) (List.length x.l)]), some (Blk.mp [Cel.int IntKind.i64, Cel.int IntKind.i64, Cel.int
    IntKind.i64, Cel.int IntKind.i64, Cel.int IntKind.i64, Cel.int IntKind.i64, Cel.int IntKind.i64, Cel.int IntKind.i64, Cel.int IntKind.i64, Cel.int IntKind.i64, Cel.int IntKind.i64] true
    false (List.length x.l) (hasS x.l) anyV), some (Blk.arr (11 : Nat) (List.length (x.l ++ x.j)) (lsF Sh.c (x.l ++ x.j))), some (Blk.row [AV.v (Value.int IntKind.i64 x.o), AV.v (Value.int
    IntKind.u32 x.bad), AV.hs (4 : Nat) (0 : Nat) (List.length x.l)]), some (Blk.arr (11 : Nat) (List.length (x.l ++ x.j')) (lsF Sh.c (x.l ++ x.j'))), some (Blk.row [AV.v (Value.int
    IntKind.i64 x.f), AV.map (6 : Nat)]), some (Blk.mp [Cel.int IntKind.i64] false true x.n (hasC x.gv x.sn) (valC x.f x.gv x.sn)), some (Blk.row [AV.v (Value.int IntKind.i64 x.f), AV.hs (8
    : Nat) (0 : Nat) (List.length x.gv), AV.hs (9 : Nat) (0 : Nat) (List.length x.sn)]), some (Blk.arr (11 : Nat) (List.length (x.gv ++ x.jg)) (lsF Sh.c (x.gv ++ x.jg))), some (Blk.arr (1 :
    Nat) (List.length (x.sn ++ x.js)) (lsF I64.c (x.sn ++ x.js)))])) := by kernel_rfl
theorem qiNew (x : X3) (hs : x.sn.length ≤ 100000) (hg : x.gv.length ≤ 100000) (hl : x.l.length ≤ 100000) (hl' : x.l.length ≤ 999999999) (h : ¬ outS x.o (shA x)) (hx : ¬ shA x ∈ x.l) : roundE (P := Tryd.prog) (Γ := Γc) [k15, CT.at 16 (ansIssueNew (f := x.o) (bad := x.bad) (l := x.l) (j := x.j) h hx hl'), CT.at 17 (ansIssueRNew (f := x.o) (bad := x.bad) (l := x.l) (j := x.j') h hl hx), CT.at 18 (ansSeen (v := (x.acts.getD x.i default).v) (f := x.f) (gv := x.gv) (sn := x.sn) (n := x.n)), CT.at 19 (ansWas (x := x.K) (v := (x.acts.getD x.i default).v) hs)] Lno false 0 0 lp3 lv3 nl3 161 (S31 x).1 (S31 x).2 =
  Tree.br (bif decide ((↑x.i : Int) < (↑(List.length x.acts) : Int)) then true else false) (Tree.chk (decide ((0 : Int) ≤ (↑x.i : Int)) && decide ((↑x.i : Int) < (↑(List.length x.acts) :
    Int))) (Tree.br (decide ((List.getD x.acts x.i default).k = (0 : Int))) Tree.fail (Tree.br (decide ((List.getD x.acts x.i default).k = (1 : Int))) Tree.fail (Tree.br (decide ((List.getD
    x.acts x.i default).k = (2 : Int))) (Tree.br (!(decide ((List.getD x.acts x.i default).v = (List.getD x.acts x.i default).v) && true)) (Tree.leaf (Out.mk AEx.ret [AV.sl (4 : Nat)
    (List.length x.acts) (lsF Ac.c x.acts), AV.ptr (0 : Nat) (0 : Nat), AV.ptr (3 : Nat) (0 : Nat), AV.ptr (5 : Nat) (0 : Nat), AV.ptr (7 : Nat) (0 : Nat), AV.v (Value.int IntKind.i64 (↑x.i
    : Int)), AV.v (Value.bool false)] [some (Blk.row [AV.v (Value.int IntKind.i64 x.o), AV.v (Value.int IntKind.u32 x.bad), AV.map (1 : Nat), AV.hs (2 : Nat) (0 : Nat) (List.length x.l)]),
    some (Blk.mp [Cel.int IntKind.i64, Cel.int IntKind.i64, Cel.int IntKind.i64, Cel.int IntKind.i64, Cel.int IntKind.i64, Cel.int IntKind.i64, Cel.int IntKind.i64, Cel.int IntKind.i64,
    Cel.int IntKind.i64, Cel.int IntKind.i64, Cel.int IntKind.i64] true false (List.length x.l) (hasS x.l) anyV), some (Blk.arr (11 : Nat) (List.length (x.l ++ x.j)) (lsF Sh.c (x.l ++
    x.j))), some (Blk.row [AV.v (Value.int IntKind.i64 x.o), AV.v (Value.int IntKind.u32 x.bad), AV.hs (4 : Nat) (0 : Nat) (List.length x.l)]), some (Blk.arr (11 : Nat) (List.length (x.l ++
    x.j')) (lsF Sh.c (x.l ++ x.j'))), some (Blk.row [AV.v (Value.int IntKind.i64 x.f), AV.map (6 : Nat)]), some (Blk.mp [Cel.int IntKind.i64] false true x.n (hasC x.gv x.sn) (valC x.f x.gv
    x.sn)), some (Blk.row [AV.v (Value.int IntKind.i64 x.f), AV.hs (8 : Nat) (0 : Nat) (List.length x.gv), AV.hs (9 : Nat) (0 : Nat) (List.length x.sn)]), some (Blk.arr (11 : Nat)
    (List.length (x.gv ++ x.jg)) (lsF Sh.c (x.gv ++ x.jg))), some (Blk.arr (1 : Nat) (List.length (x.sn ++ x.js)) (lsF I64.c (x.sn ++ x.js)))])) (Tree.chk (cl (LeL [AV.ptr (0 : Nat) (0 :
    Nat), AV.agg [AV.v (Value.int IntKind.i64 (List.getD x.acts x.i default).w), AV.v (Value.int IntKind.i64 (5 : Int)), AV.v (Value.int IntKind.i64 (0 : Int)), AV.v (Value.int IntKind.i64
    (List.getD x.acts x.i default).v), AV.v (Value.int IntKind.i64 (0 : Int)), AV.v (Value.int IntKind.i64 (0 : Int)), AV.v (Value.int IntKind.i64 (0 : Int)), AV.v (Value.int IntKind.i64 (0
    : Int)), AV.v (Value.int IntKind.i64 (0 : Int)), AV.v (Value.int IntKind.i64 (0 : Int)), AV.v (Value.int IntKind.i64 (0 : Int))]] [AV.ptr (0 : Nat) (0 : Nat), AV.agg [AV.v (Value.int
    IntKind.i64 (List.getD x.acts x.i default).w), AV.v (Value.int IntKind.i64 (5 : Int)), AV.v (Value.int IntKind.i64 (0 : Int)), AV.v (Value.int IntKind.i64 (List.getD x.acts x.i
    default).v), AV.v (Value.int IntKind.i64 (0 : Int)), AV.v (Value.int IntKind.i64 (0 : Int)), AV.v (Value.int IntKind.i64 (0 : Int)), AV.v (Value.int IntKind.i64 (0 : Int)), AV.v
    (Value.int IntKind.i64 (0 : Int)), AV.v (Value.int IntKind.i64 (0 : Int)), AV.v (Value.int IntKind.i64 (0 : Int))]] ∧ LeH [some (Blk.row [AV.v (Value.int IntKind.i64 x.o), AV.v
    (Value.int IntKind.u32 x.bad), AV.map (1 : Nat), AV.hs (2 : Nat) (0 : Nat) (List.length x.l)]), some (Blk.mp [Cel.int IntKind.i64, Cel.int IntKind.i64, Cel.int IntKind.i64, Cel.int
    IntKind.i64, Cel.int IntKind.i64, Cel.int IntKind.i64, Cel.int IntKind.i64, Cel.int IntKind.i64, Cel.int IntKind.i64, Cel.int IntKind.i64, Cel.int IntKind.i64] true false (List.length
    x.l) (hasS x.l) anyV), some (Blk.arr (11 : Nat) (List.length (x.l ++ x.j)) (lsF Sh.c (x.l ++ x.j)))] [some (Blk.row [AV.v (Value.int IntKind.i64 x.o), AV.v (Value.int IntKind.u32 x.bad),
    AV.map (1 : Nat), AV.hs (2 : Nat) (0 : Nat) (List.length x.l)]), some (Blk.mp [Cel.int IntKind.i64, Cel.int IntKind.i64, Cel.int IntKind.i64, Cel.int IntKind.i64, Cel.int IntKind.i64,
    Cel.int IntKind.i64, Cel.int IntKind.i64, Cel.int IntKind.i64, Cel.int IntKind.i64, Cel.int IntKind.i64, Cel.int IntKind.i64] true false (List.length x.l) (hasS x.l) anyV), some (Blk.arr
    (11 : Nat) (List.length (x.l ++ x.j)) (lsF Sh.c (x.l ++ x.j)))])) (Tree.chk (cl (LeL [AV.ptr (0 : Nat) (0 : Nat), AV.agg [AV.v (Value.int IntKind.i64 (List.getD x.acts x.i default).w),
    AV.v (Value.int IntKind.i64 (5 : Int)), AV.v (Value.int IntKind.i64 (0 : Int)), AV.v (Value.int IntKind.i64 (List.getD x.acts x.i default).v), AV.v (Value.int IntKind.i64 (0 : Int)),
    AV.v (Value.int IntKind.i64 (0 : Int)), AV.v (Value.int IntKind.i64 (0 : Int)), AV.v (Value.int IntKind.i64 (0 : Int)), AV.v (Value.int IntKind.i64 (0 : Int)), AV.v (Value.int
    IntKind.i64 (0 : Int)), AV.v (Value.int IntKind.i64 (0 : Int))]] [AV.ptr (0 : Nat) (0 : Nat), AV.agg [AV.v (Value.int IntKind.i64 (List.getD x.acts x.i default).w), AV.v (Value.int
    IntKind.i64 (5 : Int)), AV.v (Value.int IntKind.i64 (0 : Int)), AV.v (Value.int IntKind.i64 (List.getD x.acts x.i default).v), AV.v (Value.int IntKind.i64 (0 : Int)), AV.v (Value.int
    IntKind.i64 (0 : Int)), AV.v (Value.int IntKind.i64 (0 : Int)), AV.v (Value.int IntKind.i64 (0 : Int)), AV.v (Value.int IntKind.i64 (0 : Int)), AV.v (Value.int IntKind.i64 (0 : Int)),
    AV.v (Value.int IntKind.i64 (0 : Int))]] ∧ LeH [some (Blk.row [AV.v (Value.int IntKind.i64 x.o), AV.v (Value.int IntKind.u32 x.bad), AV.hs (1 : Nat) (0 : Nat) (List.length x.l)]), some
    (Blk.arr (11 : Nat) (List.length (x.l ++ x.j')) (lsF Sh.c (x.l ++ x.j')))] [some (Blk.row [AV.v (Value.int IntKind.i64 x.o), AV.v (Value.int IntKind.u32 x.bad), AV.hs (1 : Nat) (0 : Nat)
    (List.length x.l)]), some (Blk.arr (11 : Nat) (List.length (x.l ++ x.j')) (lsF Sh.c (x.l ++ x.j')))])) (Tree.br false (Tree.leaf (Out.mk AEx.ret [AV.sl (4 : Nat) (List.length x.acts)
    (lsF Ac.c x.acts), AV.ptr (0 : Nat) (0 : Nat), AV.ptr (3 : Nat) (0 : Nat), AV.ptr (5 : Nat) (0 : Nat), AV.ptr (7 : Nat) (0 : Nat), AV.v (Value.int IntKind.i64 (↑x.i : Int)), AV.v
    (Value.bool false)] [some (Blk.row [AV.v (Value.int IntKind.i64 x.o), AV.v (Value.int IntKind.u32 x.bad), AV.map (1 : Nat), AV.hs (2 : Nat) (0 : Nat) (List.length (x.l ++ [shA x]))]),
    some (Blk.mp [Cel.int IntKind.i64, Cel.int IntKind.i64, Cel.int IntKind.i64, Cel.int IntKind.i64, Cel.int IntKind.i64, Cel.int IntKind.i64, Cel.int IntKind.i64, Cel.int IntKind.i64,
    Cel.int IntKind.i64, Cel.int IntKind.i64, Cel.int IntKind.i64] true false (List.length (x.l ++ [shA x])) (hasS (x.l ++ [shA x])) anyV), some (Blk.arr (11 : Nat) (List.length (x.l ++ [shA
    x])) (lsF Sh.c (x.l ++ [shA x]))), some (Blk.row [AV.v (Value.int IntKind.i64 x.o), AV.v (Value.int IntKind.u32 x.bad), AV.hs (4 : Nat) (0 : Nat) (List.length (x.l ++ [shA x]))]), some
    (Blk.arr (11 : Nat) (List.length (x.l ++ [shA x])) (lsF Sh.c (x.l ++ [shA x]))), some (Blk.row [AV.v (Value.int IntKind.i64 x.f), AV.map (6 : Nat)]), some (Blk.mp [Cel.int IntKind.i64]
    false true x.n (hasC x.gv x.sn) (valC x.f x.gv x.sn)), some (Blk.row [AV.v (Value.int IntKind.i64 x.f), AV.hs (8 : Nat) (0 : Nat) (List.length x.gv), AV.hs (9 : Nat) (0 : Nat)
    (List.length x.sn)]), some (Blk.arr (11 : Nat) (List.length (x.gv ++ x.jg)) (lsF Sh.c (x.gv ++ x.jg))), some (Blk.arr (1 : Nat) (List.length (x.sn ++ x.js)) (lsF I64.c (x.sn ++
    x.js)))])) (Tree.chk (cl (LeL [AV.ptr (0 : Nat) (0 : Nat), AV.v (Value.int IntKind.i64 (List.getD x.acts x.i default).v)] [AV.ptr (0 : Nat) (0 : Nat), AV.v (Value.int IntKind.i64
    (List.getD x.acts x.i default).v)] ∧ LeH [some (Blk.row [AV.v (Value.int IntKind.i64 x.f), AV.map (1 : Nat)]), some (Blk.mp [Cel.int IntKind.i64] false true x.n (hasC x.gv x.sn) (valC
    x.f x.gv x.sn))] [some (Blk.row [AV.v (Value.int IntKind.i64 x.f), AV.map (1 : Nat)]), some (Blk.mp [Cel.int IntKind.i64] false true x.n (hasC x.gv x.sn) (valC x.f x.gv x.sn))]))
    (Tree.chk (cl (LeL [AV.ptr (0 : Nat) (0 : Nat), AV.v (Value.int IntKind.i64 (List.getD x.acts x.i default).v)] [AV.ptr (0 : Nat) (0 : Nat), AV.v (Value.int IntKind.i64 (List.getD x.acts
    x.i default).v)] ∧ LeH [some (Blk.row [AV.v (Value.int IntKind.i64 x.f), AV.hs (1 : Nat) (0 : Nat) (List.length x.gv), AV.hs (2 : Nat) (0 : Nat) (List.length x.sn)]), some (Blk.arr (11 :
    Nat) (List.length (x.gv ++ x.jg)) (lsF Sh.c (x.gv ++ x.jg))), some (Blk.arr (1 : Nat) (List.length (x.sn ++ x.js)) (lsF I64.c (x.sn ++ x.js)))] [some (Blk.row [AV.v (Value.int
    IntKind.i64 x.f), AV.hs (1 : Nat) (0 : Nat) (List.length (X3.K x).gv), AV.hs (2 : Nat) (0 : Nat) (List.length (X3.K x).sn)]), some (Blk.arr (11 : Nat) (List.length ((X3.K x).gv ++ (X3.K
    x).jg)) (lsF Sh.c ((X3.K x).gv ++ (X3.K x).jg))), some (Blk.arr (1 : Nat) (List.length ((X3.K x).sn ++ (X3.K x).js)) (lsF I64.c ((X3.K x).sn ++ (X3.K x).js)))])) (Tree.br (!snB x.sn
    (List.getD x.acts x.i default).v == snB (X3.K x).sn (List.getD x.acts x.i default).v) (Tree.leaf (Out.mk AEx.ret [AV.sl (4 : Nat) (List.length x.acts) (lsF Ac.c x.acts), AV.ptr (0 : Nat)
    (0 : Nat), AV.ptr (3 : Nat) (0 : Nat), AV.ptr (5 : Nat) (0 : Nat), AV.ptr (7 : Nat) (0 : Nat), AV.v (Value.int IntKind.i64 (↑x.i : Int)), AV.v (Value.bool false)] [some (Blk.row [AV.v
    (Value.int IntKind.i64 x.o), AV.v (Value.int IntKind.u32 x.bad), AV.map (1 : Nat), AV.hs (2 : Nat) (0 : Nat) (List.length (x.l ++ [shA x]))]), some (Blk.mp [Cel.int IntKind.i64, Cel.int
    IntKind.i64, Cel.int IntKind.i64, Cel.int IntKind.i64, Cel.int IntKind.i64, Cel.int IntKind.i64, Cel.int IntKind.i64, Cel.int IntKind.i64, Cel.int IntKind.i64, Cel.int IntKind.i64,
    Cel.int IntKind.i64] true false (List.length (x.l ++ [shA x])) (hasS (x.l ++ [shA x])) anyV), some (Blk.arr (11 : Nat) (List.length (x.l ++ [shA x])) (lsF Sh.c (x.l ++ [shA x]))), some
    (Blk.row [AV.v (Value.int IntKind.i64 x.o), AV.v (Value.int IntKind.u32 x.bad), AV.hs (4 : Nat) (0 : Nat) (List.length (x.l ++ [shA x]))]), some (Blk.arr (11 : Nat) (List.length (x.l ++
    [shA x])) (lsF Sh.c (x.l ++ [shA x]))), some (Blk.row [AV.v (Value.int IntKind.i64 x.f), AV.map (6 : Nat)]), some (Blk.mp [Cel.int IntKind.i64] false true x.n (hasC x.gv x.sn) (valC x.f
    x.gv x.sn)), some (Blk.row [AV.v (Value.int IntKind.i64 x.f), AV.hs (8 : Nat) (0 : Nat) (List.length (X3.K x).gv), AV.hs (9 : Nat) (0 : Nat) (List.length (X3.K x).sn)]), some (Blk.arr
    (11 : Nat) (List.length ((X3.K x).gv ++ (X3.K x).jg)) (lsF Sh.c ((X3.K x).gv ++ (X3.K x).jg))), some (Blk.arr (1 : Nat) (List.length ((X3.K x).sn ++ (X3.K x).js)) (lsF I64.c ((X3.K x).sn
    ++ (X3.K x).js)))])) (Tree.leaf (Out.mk AEx.normal [AV.sl (4 : Nat) (List.length x.acts) (lsF Ac.c x.acts), AV.ptr (0 : Nat) (0 : Nat), AV.ptr (3 : Nat) (0 : Nat), AV.ptr (5 : Nat) (0 :
    Nat), AV.ptr (7 : Nat) (0 : Nat), AV.v (Value.int IntKind.i64 (IntKind.wrap IntKind.i64 ((↑x.i : Int) + (1 : Int)))), AV.any] [some (Blk.row [AV.v (Value.int IntKind.i64 x.o), AV.v
    (Value.int IntKind.u32 x.bad), AV.map (1 : Nat), AV.hs (2 : Nat) (0 : Nat) (List.length (x.l ++ [shA x]))]), some (Blk.mp [Cel.int IntKind.i64, Cel.int IntKind.i64, Cel.int IntKind.i64,
    Cel.int IntKind.i64, Cel.int IntKind.i64, Cel.int IntKind.i64, Cel.int IntKind.i64, Cel.int IntKind.i64, Cel.int IntKind.i64, Cel.int IntKind.i64, Cel.int IntKind.i64] true false
    (List.length (x.l ++ [shA x])) (hasS (x.l ++ [shA x])) anyV), some (Blk.arr (11 : Nat) (List.length (x.l ++ [shA x])) (lsF Sh.c (x.l ++ [shA x]))), some (Blk.row [AV.v (Value.int
    IntKind.i64 x.o), AV.v (Value.int IntKind.u32 x.bad), AV.hs (4 : Nat) (0 : Nat) (List.length (x.l ++ [shA x]))]), some (Blk.arr (11 : Nat) (List.length (x.l ++ [shA x])) (lsF Sh.c (x.l
    ++ [shA x]))), some (Blk.row [AV.v (Value.int IntKind.i64 x.f), AV.map (6 : Nat)]), some (Blk.mp [Cel.int IntKind.i64] false true x.n (hasC x.gv x.sn) (valC x.f x.gv x.sn)), some
    (Blk.row [AV.v (Value.int IntKind.i64 x.f), AV.hs (8 : Nat) (0 : Nat) (List.length (X3.K x).gv), AV.hs (9 : Nat) (0 : Nat) (List.length (X3.K x).sn)]), some (Blk.arr (11 : Nat)
    (List.length ((X3.K x).gv ++ (X3.K x).jg)) (lsF Sh.c ((X3.K x).gv ++ (X3.K x).jg))), some (Blk.arr (1 : Nat) (List.length ((X3.K x).sn ++ (X3.K x).js)) (lsF I64.c ((X3.K x).sn ++ (X3.K
    x).js)))]))))))))) (Tree.chk (cl (LeL [AV.ptr (0 : Nat) (0 : Nat), AV.v (Value.int IntKind.i64 (List.getD x.acts x.i default).v)] [AV.ptr (0 : Nat) (0 : Nat), AV.v (Value.int IntKind.i64
    (List.getD x.acts x.i default).v)] ∧ LeH [some (Blk.row [AV.v (Value.int IntKind.i64 x.f), AV.map (1 : Nat)]), some (Blk.mp [Cel.int IntKind.i64] false true x.n (hasC x.gv x.sn) (valC
    x.f x.gv x.sn))] [some (Blk.row [AV.v (Value.int IntKind.i64 x.f), AV.map (1 : Nat)]), some (Blk.mp [Cel.int IntKind.i64] false true x.n (hasC x.gv x.sn) (valC x.f x.gv x.sn))]))
    (Tree.chk (cl (LeL [AV.ptr (0 : Nat) (0 : Nat), AV.v (Value.int IntKind.i64 (List.getD x.acts x.i default).v)] [AV.ptr (0 : Nat) (0 : Nat), AV.v (Value.int IntKind.i64 (List.getD x.acts
    x.i default).v)] ∧ LeH [some (Blk.row [AV.v (Value.int IntKind.i64 x.f), AV.hs (1 : Nat) (0 : Nat) (List.length x.gv), AV.hs (2 : Nat) (0 : Nat) (List.length x.sn)]), some (Blk.arr (11 :
    Nat) (List.length (x.gv ++ x.jg)) (lsF Sh.c (x.gv ++ x.jg))), some (Blk.arr (1 : Nat) (List.length (x.sn ++ x.js)) (lsF I64.c (x.sn ++ x.js)))] [some (Blk.row [AV.v (Value.int
    IntKind.i64 x.f), AV.hs (1 : Nat) (0 : Nat) (List.length (X3.K x).gv), AV.hs (2 : Nat) (0 : Nat) (List.length (X3.K x).sn)]), some (Blk.arr (11 : Nat) (List.length ((X3.K x).gv ++ (X3.K
    x).jg)) (lsF Sh.c ((X3.K x).gv ++ (X3.K x).jg))), some (Blk.arr (1 : Nat) (List.length ((X3.K x).sn ++ (X3.K x).js)) (lsF I64.c ((X3.K x).sn ++ (X3.K x).js)))])) (Tree.br (!snB x.sn
    (List.getD x.acts x.i default).v == snB (X3.K x).sn (List.getD x.acts x.i default).v) (Tree.leaf (Out.mk AEx.ret [AV.sl (4 : Nat) (List.length x.acts) (lsF Ac.c x.acts), AV.ptr (0 : Nat)
    (0 : Nat), AV.ptr (3 : Nat) (0 : Nat), AV.ptr (5 : Nat) (0 : Nat), AV.ptr (7 : Nat) (0 : Nat), AV.v (Value.int IntKind.i64 (↑x.i : Int)), AV.v (Value.bool false)] [some (Blk.row [AV.v
    (Value.int IntKind.i64 x.o), AV.v (Value.int IntKind.u32 x.bad), AV.map (1 : Nat), AV.hs (2 : Nat) (0 : Nat) (List.length x.l)]), some (Blk.mp [Cel.int IntKind.i64, Cel.int IntKind.i64,
    Cel.int IntKind.i64, Cel.int IntKind.i64, Cel.int IntKind.i64, Cel.int IntKind.i64, Cel.int IntKind.i64, Cel.int IntKind.i64, Cel.int IntKind.i64, Cel.int IntKind.i64, Cel.int
    IntKind.i64] true false (List.length x.l) (hasS x.l) anyV), some (Blk.arr (11 : Nat) (List.length (x.l ++ x.j)) (lsF Sh.c (x.l ++ x.j))), some (Blk.row [AV.v (Value.int IntKind.i64 x.o),
    AV.v (Value.int IntKind.u32 x.bad), AV.hs (4 : Nat) (0 : Nat) (List.length x.l)]), some (Blk.arr (11 : Nat) (List.length (x.l ++ x.j')) (lsF Sh.c (x.l ++ x.j'))), some (Blk.row [AV.v
    (Value.int IntKind.i64 x.f), AV.map (6 : Nat)]), some (Blk.mp [Cel.int IntKind.i64] false true x.n (hasC x.gv x.sn) (valC x.f x.gv x.sn)), some (Blk.row [AV.v (Value.int IntKind.i64
    x.f), AV.hs (8 : Nat) (0 : Nat) (List.length (X3.K x).gv), AV.hs (9 : Nat) (0 : Nat) (List.length (X3.K x).sn)]), some (Blk.arr (11 : Nat) (List.length ((X3.K x).gv ++ (X3.K x).jg)) (lsF
    Sh.c ((X3.K x).gv ++ (X3.K x).jg))), some (Blk.arr (1 : Nat) (List.length ((X3.K x).sn ++ (X3.K x).js)) (lsF I64.c ((X3.K x).sn ++ (X3.K x).js)))])) (Tree.leaf (Out.mk AEx.normal [AV.sl
    (4 : Nat) (List.length x.acts) (lsF Ac.c x.acts), AV.ptr (0 : Nat) (0 : Nat), AV.ptr (3 : Nat) (0 : Nat), AV.ptr (5 : Nat) (0 : Nat), AV.ptr (7 : Nat) (0 : Nat), AV.v (Value.int
    IntKind.i64 (IntKind.wrap IntKind.i64 ((↑x.i : Int) + (1 : Int)))), AV.any] [some (Blk.row [AV.v (Value.int IntKind.i64 x.o), AV.v (Value.int IntKind.u32 x.bad), AV.map (1 : Nat), AV.hs
    (2 : Nat) (0 : Nat) (List.length x.l)]), some (Blk.mp [Cel.int IntKind.i64, Cel.int IntKind.i64, Cel.int IntKind.i64, Cel.int IntKind.i64, Cel.int IntKind.i64, Cel.int IntKind.i64,
    Cel.int IntKind.i64, Cel.int IntKind.i64, Cel.int IntKind.i64, Cel.int IntKind.i64, Cel.int IntKind.i64] true false (List.length x.l) (hasS x.l) anyV), some (Blk.arr (11 : Nat)
    (List.length (x.l ++ x.j)) (lsF Sh.c (x.l ++ x.j))), some (Blk.row [AV.v (Value.int IntKind.i64 x.o), AV.v (Value.int IntKind.u32 x.bad), AV.hs (4 : Nat) (0 : Nat) (List.length x.l)]),
    some (Blk.arr (11 : Nat) (List.length (x.l ++ x.j')) (lsF Sh.c (x.l ++ x.j'))), some (Blk.row [AV.v (Value.int IntKind.i64 x.f), AV.map (6 : Nat)]), some (Blk.mp [Cel.int IntKind.i64]
    false true x.n (hasC x.gv x.sn) (valC x.f x.gv x.sn)), some (Blk.row [AV.v (Value.int IntKind.i64 x.f), AV.hs (8 : Nat) (0 : Nat) (List.length (X3.K x).gv), AV.hs (9 : Nat) (0 : Nat)
    (List.length (X3.K x).sn)]), some (Blk.arr (11 : Nat) (List.length ((X3.K x).gv ++ (X3.K x).jg)) (lsF Sh.c ((X3.K x).gv ++ (X3.K x).jg))), some (Blk.arr (1 : Nat) (List.length ((X3.K
    x).sn ++ (X3.K x).js)) (lsF I64.c ((X3.K x).sn ++ (X3.K x).js)))]))))))))) (Tree.leaf (Out.mk (AEx.exit (0 : Nat)) [AV.sl (4 : Nat) (List.length x.acts) (lsF Ac.c x.acts), AV.ptr (0 :
    Nat) (0 : Nat), AV.ptr (3 : Nat) (0 : Nat), AV.ptr (5 : Nat) (0 : Nat), AV.ptr (7 : Nat) (0 : Nat), AV.v (Value.int IntKind.i64 (↑x.i : Int)), AV.any] [some (Blk.row [AV.v (Value.int
    IntKind.i64 x.o), AV.v (Value.int IntKind.u32 x.bad), AV.map (1 : Nat), AV.hs (2 : Nat) (0 : Nat) (List.length x.l)]), some (Blk.mp [Cel.int IntKind.i64, Cel.int IntKind.i64, Cel.int
    IntKind.i64, Cel.int IntKind.i64, Cel.int IntKind.i64, Cel.int IntKind.i64, Cel.int IntKind.i64, Cel.int IntKind.i64, Cel.int IntKind.i64, Cel.int IntKind.i64, Cel.int IntKind.i64] true
    false (List.length x.l) (hasS x.l) anyV), some (Blk.arr (11 : Nat) (List.length (x.l ++ x.j)) (lsF Sh.c (x.l ++ x.j))), some (Blk.row [AV.v (Value.int IntKind.i64 x.o), AV.v (Value.int
    IntKind.u32 x.bad), AV.hs (4 : Nat) (0 : Nat) (List.length x.l)]), some (Blk.arr (11 : Nat) (List.length (x.l ++ x.j')) (lsF Sh.c (x.l ++ x.j'))), some (Blk.row [AV.v (Value.int
    IntKind.i64 x.f), AV.map (6 : Nat)]), some (Blk.mp [Cel.int IntKind.i64] false true x.n (hasC x.gv x.sn) (valC x.f x.gv x.sn)), some (Blk.row [AV.v (Value.int IntKind.i64 x.f), AV.hs (8
    : Nat) (0 : Nat) (List.length x.gv), AV.hs (9 : Nat) (0 : Nat) (List.length x.sn)]), some (Blk.arr (11 : Nat) (List.length (x.gv ++ x.jg)) (lsF Sh.c (x.gv ++ x.jg))), some (Blk.arr (1 :
    Nat) (List.length (x.sn ++ x.js)) (lsF I64.c (x.sn ++ x.js)))])) := by kernel_rfl
end Go.Eng.Co
