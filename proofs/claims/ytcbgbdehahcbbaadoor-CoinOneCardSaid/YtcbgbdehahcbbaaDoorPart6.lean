/- coin: all see the same: the rounds and what follows it. -/
import Derived.Test.YtcbgbdehahcbbaaDoorPart5
/- coin: all see the same: the rounds. -/
namespace Go.Eng.Co
open Go Go.Eng Go.Eng.M Go.Proofs
set_option linter.unusedSimpArgs false
set_option linter.unusedVariables false
def U32.c (n : Int) : List AV := [.v (.int .u32 n)]
noncomputable abbrev lp4 (j : Nat) : Code := loopOf (bodyOf Tryd.f4) j
structure X4 where
  f : Int
  bad : Int
  acts : List Ac
  view : Int
  sx : Int
  sy : Int
  l : List Sh
  j : List Sh
  gv : List Sh
  sn : List Int
  n : Nat
  who : Int
  seen : Bool
  i : Nat
def X4.v (x : X4) : List AV := [.v (.int .i64 x.f), .v (.int .u32 x.bad), .sl 4 x.acts.length (lsF Ac.c x.acts), .v (.int .i64 x.view), .v (.int .u32 x.sx), .v (.int .u32 x.sy), .ptr 0 0, .ptr 3 0, .v (.int .i64 x.who), .sb x.seen, .v (.int .i64 (x.i : Int))]
def X4.H (x : X4) : List Blk := [sgR 1 2 x.f x.bad x.l.length, sgM x.l, shB (x.l ++ x.j), coR 4 x.f, coM x.f x.gv x.sn x.n]
def S41 (x : X4) : List AV × Heap := (x.v ++ [.any], x.H.map some)
def S42 (x : X4) (z : List Int) (k : Nat) : List AV × Heap := (x.v ++ [.hs 5 0 2, .v (.int .i64 2), .v (.int .i64 (k : Int)), .any], (x.H ++ [Blk.arr 1 2 (lsF U32.c z)]).map some)
def O42 (x : X4) : Out := ⟨.exit 3, x.v ++ [.any, .any, .any, .any], x.H.map some ++ [none]⟩
abbrev lv41 : List Nat := [0, 1, 2, 3, 4, 5, 13, 15, 17, 18, 19, 12]
abbrev lv42 : List Nat := [0, 1, 2, 3, 4, 5, 13, 15, 17, 18, 19, 90, 91, 92, 12]
abbrev nl41 : List (Nat × TypeId) := [(406, 53)]
noncomputable def L41 (x x' : X4) : Nat → LSpec
  | 0 => LSpec.at lv42 [] (S42 x [x.sx, x.sy] 0) (O42 x')
  | _ => ⟨[], [], fun _ _ => .fail⟩
abbrev shC (x : X4) : Sh := ⟨(x.acts.getD x.i default).w, stC (x.acts.getD x.i default).v⟩
theorem ansCnt {s : Int} (hs : inU32 s = true) : Answers Tryd.prog Γc 20 [.v (.int .u32 s)] [] (.v (.int .i64 (pc s : Int))) [] [] :=
  answers (fn := Tryd.f20) (c := bodyOf Tryd.f20) (ntmps := 5) (results := [.tmp 2]) [CoQ.c26] Lno false Tryd.func20 (by kernel_rfl) (by kernel_rfl) (by kernel_rfl) (by kernel_rfl) (by simp) rfl (noLoops (by kernel_rfl)) <| Meets.of (CoQ.run10 s) <| by
    simp only [or_true, true_or, false_or, or_false, and_false, false_and, cond_true, cond_false, Bool.not_true, Bool.not_false, Bool.false_eq_true, Bool.true_eq_false, not_true_eq_false, not_false_eq_true, false_implies, true_implies, implies_true, Nat.blt_eq, owesN, owesX, owesR, notT, sat_brT, sat_brF, sat_chkT, cl_iff, cl_false, AV.le_refl, AV.le_any, OLe_refl, OLe_none, sat_brN, Tree.sat_chk, Tree.sat_leaf, Tree.sat_fail, Nat.zero_add, Nat.sub_zero, Int.toNat_natCast, LeH_cons, LeH_nil, LeL_cons, LeL_nil, and_true, true_and, Bool.and_eq_true, Bool.or_eq_true, decide_eq_true_eq, decide_eq_false_iff_not, Bool.cond_true_left, Bool.cond_false_right, List.cons_append, List.nil_append, List.map_cons, List.map_nil, hs]
    repeat' (first | apply And.intro | intro _hc)
    all_goals first | omega | contradiction | exact AV.le_refl _ | exact AV.le_any _ | exact OLe.refl _ | exact OLe.none _ | exact LeH.refl _ | exact LeL.refl _ | exact AV.le.bs _ | exact AV.le.sb _ | (exfalso; omega) | contradiction
abbrev gooS (z : List Int) (k : Nat) (bad : Int) : Int := bitI BinOp.andNot IntKind.u32 (z.getD k default) bad
theorem i0 (x : X4) (z : List Int) (k : Nat) : roundE (P := Tryd.prog) (Γ := Γc) [] Lno false 0 0 (lp4 1) lv42 [] 131 (S42 x z k).1 (S42 x z k).2 =
  Tree.br (decide ((↑k : Int) < (2 : Int))) (Tree.chk (decide ((0 : Int) ≤ (↑k : Int)) && decide ((↑k : Int) < (↑(2 : Nat) : Int))) Tree.fail) (Tree.leaf (Out.mk (AEx.exit (3 : Nat)) [AV.v
    (Value.int IntKind.i64 x.f), AV.v (Value.int IntKind.u32 x.bad), AV.sl (4 : Nat) (List.length x.acts) (lsF Ac.c x.acts), AV.v (Value.int IntKind.i64 x.view), AV.v (Value.int IntKind.u32
    x.sx), AV.v (Value.int IntKind.u32 x.sy), AV.ptr (0 : Nat) (0 : Nat), AV.ptr (3 : Nat) (0 : Nat), AV.v (Value.int IntKind.i64 x.who), AV.sb x.seen, AV.v (Value.int IntKind.i64 (↑x.i :
    Int)), AV.hs (5 : Nat) (0 : Nat) (2 : Nat), AV.v (Value.int IntKind.i64 (2 : Int)), AV.v (Value.int IntKind.i64 (↑k : Int)), AV.any] [some (Blk.row [AV.v (Value.int IntKind.i64 x.f),
    AV.v (Value.int IntKind.u32 x.bad), AV.map (1 : Nat), AV.hs (2 : Nat) (0 : Nat) (List.length x.l)]), some (Blk.mp [Cel.int IntKind.i64, Cel.int IntKind.i64, Cel.int IntKind.i64, Cel.int
    IntKind.i64, Cel.int IntKind.i64, Cel.int IntKind.i64, Cel.int IntKind.i64, Cel.int IntKind.i64, Cel.int IntKind.i64, Cel.int IntKind.i64, Cel.int IntKind.i64] true false (List.length
    x.l) (hasS x.l) anyV), some (Blk.arr (11 : Nat) (List.length (x.l ++ x.j)) (lsF Sh.c (x.l ++ x.j))), some (Blk.row [AV.v (Value.int IntKind.i64 x.f), AV.map (4 : Nat)]), some (Blk.mp
    [Cel.int IntKind.i64] false true x.n (hasC x.gv x.sn) (valC x.f x.gv x.sn)), some (Blk.arr (1 : Nat) (2 : Nat) (lsF U32.c z))])) := by kernel_rfl
theorem i70 (x : X4) (z : List Int) (k : Nat) (c : Int) (hc : Answers Tryd.prog Γc 20 [.v (.int .u32 (gooS z k x.bad))] [] (.v (.int .i64 c)) [] []) (hv : badV x.view) : roundE (P := Tryd.prog) (Γ := Γc) [CT.at 20 hc, CoQ.c8, CT.at 13 (ansSee70 (s := z.getD k default) (f := x.f) (gv := x.gv) (sn := x.sn) (n := x.n) (l := x.l) (j := x.j) (o := x.f) (bad := x.bad) hv)] Lno false 0 0 (lp4 1) lv42 [] 131 (S42 x z k).1 (S42 x z k).2 =
  Tree.br (decide ((↑k : Int) < (2 : Int))) (Tree.chk (decide ((0 : Int) ≤ (↑k : Int)) && decide ((↑k : Int) < (↑(2 : Nat) : Int))) (Tree.chk (cl (LeL [AV.ptr (0 : Nat) (0 : Nat), AV.ptr (2 :
    Nat) (0 : Nat), AV.v (Value.int IntKind.i64 x.view), AV.v (Value.int IntKind.u32 (List.getD z ((0 : Nat) + k) default))] [AV.ptr (0 : Nat) (0 : Nat), AV.ptr (2 : Nat) (0 : Nat), AV.v
    (Value.int IntKind.i64 x.view), AV.v (Value.int IntKind.u32 (List.getD z k default))] ∧ LeH [some (Blk.row [AV.v (Value.int IntKind.i64 x.f), AV.map (1 : Nat)]), some (Blk.mp [Cel.int
    IntKind.i64] false true x.n (hasC x.gv x.sn) (valC x.f x.gv x.sn)), some (Blk.row [AV.v (Value.int IntKind.i64 x.f), AV.v (Value.int IntKind.u32 x.bad), AV.map (3 : Nat), AV.hs (4 : Nat)
    (0 : Nat) (List.length x.l)]), some (Blk.mp [Cel.int IntKind.i64, Cel.int IntKind.i64, Cel.int IntKind.i64, Cel.int IntKind.i64, Cel.int IntKind.i64, Cel.int IntKind.i64, Cel.int
    IntKind.i64, Cel.int IntKind.i64, Cel.int IntKind.i64, Cel.int IntKind.i64, Cel.int IntKind.i64] true false (List.length x.l) (hasS x.l) anyV), some (Blk.arr (11 : Nat) (List.length (x.l
    ++ x.j)) (lsF Sh.c (x.l ++ x.j)))] [some (Blk.row [AV.v (Value.int IntKind.i64 x.f), AV.map (1 : Nat)]), some (Blk.mp [Cel.int IntKind.i64] false true x.n (hasC x.gv x.sn) (valC x.f x.gv
    x.sn)), some (Blk.row [AV.v (Value.int IntKind.i64 x.f), AV.v (Value.int IntKind.u32 x.bad), AV.map (3 : Nat), AV.hs (4 : Nat) (0 : Nat) (List.length x.l)]), some (Blk.mp [Cel.int
    IntKind.i64, Cel.int IntKind.i64, Cel.int IntKind.i64, Cel.int IntKind.i64, Cel.int IntKind.i64, Cel.int IntKind.i64, Cel.int IntKind.i64, Cel.int IntKind.i64, Cel.int IntKind.i64,
    Cel.int IntKind.i64, Cel.int IntKind.i64] true false (List.length x.l) (hasS x.l) anyV), some (Blk.arr (11 : Nat) (List.length (x.l ++ x.j)) (lsF Sh.c (x.l ++ x.j)))])) (Tree.br true
    (Tree.leaf (Out.mk AEx.normal [AV.v (Value.int IntKind.i64 x.f), AV.v (Value.int IntKind.u32 x.bad), AV.sl (4 : Nat) (List.length x.acts) (lsF Ac.c x.acts), AV.v (Value.int IntKind.i64
    x.view), AV.v (Value.int IntKind.u32 x.sx), AV.v (Value.int IntKind.u32 x.sy), AV.ptr (0 : Nat) (0 : Nat), AV.ptr (3 : Nat) (0 : Nat), AV.v (Value.int IntKind.i64 x.who), AV.sb x.seen,
    AV.v (Value.int IntKind.i64 (↑x.i : Int)), AV.hs (5 : Nat) (0 : Nat) (2 : Nat), AV.v (Value.int IntKind.i64 (2 : Int)), AV.v (Value.int IntKind.i64 (IntKind.wrap IntKind.i64 ((↑k : Int)
    + (1 : Int)))), AV.any] [some (Blk.row [AV.v (Value.int IntKind.i64 x.f), AV.v (Value.int IntKind.u32 x.bad), AV.map (1 : Nat), AV.hs (2 : Nat) (0 : Nat) (List.length x.l)]), some
    (Blk.mp [Cel.int IntKind.i64, Cel.int IntKind.i64, Cel.int IntKind.i64, Cel.int IntKind.i64, Cel.int IntKind.i64, Cel.int IntKind.i64, Cel.int IntKind.i64, Cel.int IntKind.i64, Cel.int
    IntKind.i64, Cel.int IntKind.i64, Cel.int IntKind.i64] true false (List.length x.l) (hasS x.l) anyV), some (Blk.arr (11 : Nat) (List.length (x.l ++ x.j)) (lsF Sh.c (x.l ++ x.j))), some
    (Blk.row [AV.v (Value.int IntKind.i64 x.f), AV.map (4 : Nat)]), some (Blk.mp [Cel.int IntKind.i64] false true x.n (hasC x.gv x.sn) (valC x.f x.gv x.sn)), some (Blk.arr (1 : Nat) (2 :
    Nat) (lsF U32.c z))])) (Tree.chk (bif x.seen then bif !decide ((0 : Int) = x.who) then true else cl (LeL [AV.v (Value.int IntKind.u32 (bitI BinOp.andNot IntKind.u32 (List.getD z ((0 :
    Nat) + k) default) x.bad))] [AV.v (Value.int IntKind.u32 (gooS z k x.bad))] ∧ LeH [] []) && bif decide (c = (0 : Int)) then true else true else cl (LeL [AV.v (Value.int IntKind.u32 (bitI
    BinOp.andNot IntKind.u32 (List.getD z ((0 : Nat) + k) default) x.bad))] [AV.v (Value.int IntKind.u32 (gooS z k x.bad))] ∧ LeH [] []) && bif decide (c = (0 : Int)) then true else true)
    (Tree.br (bif x.seen then bif !decide ((0 : Int) = x.who) then true else bif decide (c = (0 : Int)) then true else decide (timesF (3 : Int) x.f ≤ (0 : Int)) else bif decide (c = (0 :
    Int)) then true else decide (timesF (3 : Int) x.f ≤ (0 : Int))) (Tree.leaf (Out.mk AEx.ret [AV.v (Value.int IntKind.i64 x.f), AV.v (Value.int IntKind.u32 x.bad), AV.sl (4 : Nat)
    (List.length x.acts) (lsF Ac.c x.acts), AV.v (Value.int IntKind.i64 x.view), AV.v (Value.int IntKind.u32 x.sx), AV.v (Value.int IntKind.u32 x.sy), AV.ptr (0 : Nat) (0 : Nat), AV.ptr (3 :
    Nat) (0 : Nat), AV.v (Value.int IntKind.i64 x.who), AV.sb x.seen, AV.v (Value.int IntKind.i64 (↑x.i : Int)), AV.hs (5 : Nat) (0 : Nat) (2 : Nat), AV.v (Value.int IntKind.i64 (2 : Int)),
    AV.v (Value.int IntKind.i64 (↑k : Int)), AV.v (Value.bool false)] [some (Blk.row [AV.v (Value.int IntKind.i64 x.f), AV.v (Value.int IntKind.u32 x.bad), AV.map (1 : Nat), AV.hs (2 : Nat)
    (0 : Nat) (List.length x.l)]), some (Blk.mp [Cel.int IntKind.i64, Cel.int IntKind.i64, Cel.int IntKind.i64, Cel.int IntKind.i64, Cel.int IntKind.i64, Cel.int IntKind.i64, Cel.int
    IntKind.i64, Cel.int IntKind.i64, Cel.int IntKind.i64, Cel.int IntKind.i64, Cel.int IntKind.i64] true false (List.length x.l) (hasS x.l) anyV), some (Blk.arr (11 : Nat) (List.length (x.l
    ++ x.j)) (lsF Sh.c (x.l ++ x.j))), some (Blk.row [AV.v (Value.int IntKind.i64 x.f), AV.map (4 : Nat)]), some (Blk.mp [Cel.int IntKind.i64] false true x.n (hasC x.gv x.sn) (valC x.f x.gv
    x.sn)), some (Blk.arr (1 : Nat) (2 : Nat) (lsF U32.c z))])) (Tree.leaf (Out.mk AEx.normal [AV.v (Value.int IntKind.i64 x.f), AV.v (Value.int IntKind.u32 x.bad), AV.sl (4 : Nat)
    (List.length x.acts) (lsF Ac.c x.acts), AV.v (Value.int IntKind.i64 x.view), AV.v (Value.int IntKind.u32 x.sx), AV.v (Value.int IntKind.u32 x.sy), AV.ptr (0 : Nat) (0 : Nat), AV.ptr (3 :
    Nat) (0 : Nat), AV.v (Value.int IntKind.i64 (0 : Int)), AV.v (Value.bool true), AV.v (Value.int IntKind.i64 (↑x.i : Int)), AV.hs (5 : Nat) (0 : Nat) (2 : Nat), AV.v (Value.int
    IntKind.i64 (2 : Int)), AV.v (Value.int IntKind.i64 (IntKind.wrap IntKind.i64 ((↑k : Int) + (1 : Int)))), AV.any] [some (Blk.row [AV.v (Value.int IntKind.i64 x.f), AV.v (Value.int
    IntKind.u32 x.bad), AV.map (1 : Nat), AV.hs (2 : Nat) (0 : Nat) (List.length x.l)]), some (Blk.mp [Cel.int IntKind.i64, Cel.int IntKind.i64, Cel.int IntKind.i64, Cel.int IntKind.i64,
    Cel.int IntKind.i64, Cel.int IntKind.i64, Cel.int IntKind.i64, Cel.int IntKind.i64, Cel.int IntKind.i64, Cel.int IntKind.i64, Cel.int IntKind.i64] true false (List.length x.l) (hasS x.l)
    anyV), some (Blk.arr (11 : Nat) (List.length (x.l ++ x.j)) (lsF Sh.c (x.l ++ x.j))), some (Blk.row [AV.v (Value.int IntKind.i64 x.f), AV.map (4 : Nat)]), some (Blk.mp [Cel.int
    IntKind.i64] false true x.n (hasC x.gv x.sn) (valC x.f x.gv x.sn)), some (Blk.arr (1 : Nat) (2 : Nat) (lsF U32.c z))]))))))) (Tree.leaf (Out.mk (AEx.exit (3 : Nat)) [AV.v (Value.int
    IntKind.i64 x.f), AV.v (Value.int IntKind.u32 x.bad), AV.sl (4 : Nat) (List.length x.acts) (lsF Ac.c x.acts), AV.v (Value.int IntKind.i64 x.view), AV.v (Value.int IntKind.u32 x.sx), AV.v
    (Value.int IntKind.u32 x.sy), AV.ptr (0 : Nat) (0 : Nat), AV.ptr (3 : Nat) (0 : Nat), AV.v (Value.int IntKind.i64 x.who), AV.sb x.seen, AV.v (Value.int IntKind.i64 (↑x.i : Int)), AV.hs
    (5 : Nat) (0 : Nat) (2 : Nat), AV.v (Value.int IntKind.i64 (2 : Int)), AV.v (Value.int IntKind.i64 (↑k : Int)), AV.any] [some (Blk.row [AV.v (Value.int IntKind.i64 x.f), AV.v (Value.int
    IntKind.u32 x.bad), AV.map (1 : Nat), AV.hs (2 : Nat) (0 : Nat) (List.length x.l)]), some (Blk.mp [Cel.int IntKind.i64, Cel.int IntKind.i64, Cel.int IntKind.i64, Cel.int IntKind.i64,
    Cel.int IntKind.i64, Cel.int IntKind.i64, Cel.int IntKind.i64, Cel.int IntKind.i64, Cel.int IntKind.i64, Cel.int IntKind.i64, Cel.int IntKind.i64] true false (List.length x.l) (hasS x.l)
    anyV), some (Blk.arr (11 : Nat) (List.length (x.l ++ x.j)) (lsF Sh.c (x.l ++ x.j))), some (Blk.row [AV.v (Value.int IntKind.i64 x.f), AV.map (4 : Nat)]), some (Blk.mp [Cel.int
    IntKind.i64] false true x.n (hasC x.gv x.sn) (valC x.f x.gv x.sn)), some (Blk.arr (1 : Nat) (2 : Nat) (lsF U32.c z))])) := by kernel_rfl
theorem iE (x : X4) (z : List Int) (k : Nat) (c : Int) (hc : Answers Tryd.prog Γc 20 [.v (.int .u32 (gooS z k x.bad))] [] (.v (.int .i64 c)) [] []) (e : Int) (hv : ¬ badV x.view) (hu : inU32 (z.getD k default) = true) (hb : inU32 x.bad = true) (hE : EnE (z.getD k default) (timesF 1 x.f) (stC x.view) x.f x.bad x.l e) (he : e ≠ 0) : roundE (P := Tryd.prog) (Γ := Γc) [CT.at 20 hc, CoQ.c8, CT.at 13 (ansSeeE (f := x.f) (gv := x.gv) (sn := x.sn) (n := x.n) (l := x.l) (j := x.j) hv hu hb hE he)] Lno false 0 0 (lp4 1) lv42 [] 131 (S42 x z k).1 (S42 x z k).2 =
  Tree.br (decide ((↑k : Int) < (2 : Int))) (Tree.chk (decide ((0 : Int) ≤ (↑k : Int)) && decide ((↑k : Int) < (↑(2 : Nat) : Int))) (Tree.chk (cl (LeL [AV.ptr (0 : Nat) (0 : Nat), AV.ptr (2 :
    Nat) (0 : Nat), AV.v (Value.int IntKind.i64 x.view), AV.v (Value.int IntKind.u32 (List.getD z ((0 : Nat) + k) default))] [AV.ptr (0 : Nat) (0 : Nat), AV.ptr (2 : Nat) (0 : Nat), AV.v
    (Value.int IntKind.i64 x.view), AV.v (Value.int IntKind.u32 (List.getD z k default))] ∧ LeH [some (Blk.row [AV.v (Value.int IntKind.i64 x.f), AV.map (1 : Nat)]), some (Blk.mp [Cel.int
    IntKind.i64] false true x.n (hasC x.gv x.sn) (valC x.f x.gv x.sn)), some (Blk.row [AV.v (Value.int IntKind.i64 x.f), AV.v (Value.int IntKind.u32 x.bad), AV.map (3 : Nat), AV.hs (4 : Nat)
    (0 : Nat) (List.length x.l)]), some (Blk.mp [Cel.int IntKind.i64, Cel.int IntKind.i64, Cel.int IntKind.i64, Cel.int IntKind.i64, Cel.int IntKind.i64, Cel.int IntKind.i64, Cel.int
    IntKind.i64, Cel.int IntKind.i64, Cel.int IntKind.i64, Cel.int IntKind.i64, Cel.int IntKind.i64] true false (List.length x.l) (hasS x.l) anyV), some (Blk.arr (11 : Nat) (List.length (x.l
    ++ x.j)) (lsF Sh.c (x.l ++ x.j)))] [some (Blk.row [AV.v (Value.int IntKind.i64 x.f), AV.map (1 : Nat)]), some (Blk.mp [Cel.int IntKind.i64] false true x.n (hasC x.gv x.sn) (valC x.f x.gv
    x.sn)), some (Blk.row [AV.v (Value.int IntKind.i64 x.f), AV.v (Value.int IntKind.u32 x.bad), AV.map (3 : Nat), AV.hs (4 : Nat) (0 : Nat) (List.length x.l)]), some (Blk.mp [Cel.int
    IntKind.i64, Cel.int IntKind.i64, Cel.int IntKind.i64, Cel.int IntKind.i64, Cel.int IntKind.i64, Cel.int IntKind.i64, Cel.int IntKind.i64, Cel.int IntKind.i64, Cel.int IntKind.i64,
    Cel.int IntKind.i64, Cel.int IntKind.i64] true false (List.length x.l) (hasS x.l) anyV), some (Blk.arr (11 : Nat) (List.length (x.l ++ x.j)) (lsF Sh.c (x.l ++ x.j)))])) (Tree.br (!decide
    (e = (0 : Int))) (Tree.leaf (Out.mk AEx.normal [AV.v (Value.int IntKind.i64 x.f), AV.v (Value.int IntKind.u32 x.bad), AV.sl (4 : Nat) (List.length x.acts) (lsF Ac.c x.acts), AV.v
    (Value.int IntKind.i64 x.view), AV.v (Value.int IntKind.u32 x.sx), AV.v (Value.int IntKind.u32 x.sy), AV.ptr (0 : Nat) (0 : Nat), AV.ptr (3 : Nat) (0 : Nat), AV.v (Value.int IntKind.i64
    x.who), AV.sb x.seen, AV.v (Value.int IntKind.i64 (↑x.i : Int)), AV.hs (5 : Nat) (0 : Nat) (2 : Nat), AV.v (Value.int IntKind.i64 (2 : Int)), AV.v (Value.int IntKind.i64 (IntKind.wrap
    IntKind.i64 ((↑k : Int) + (1 : Int)))), AV.any] [some (Blk.row [AV.v (Value.int IntKind.i64 x.f), AV.v (Value.int IntKind.u32 x.bad), AV.map (1 : Nat), AV.hs (2 : Nat) (0 : Nat)
    (List.length x.l)]), some (Blk.mp [Cel.int IntKind.i64, Cel.int IntKind.i64, Cel.int IntKind.i64, Cel.int IntKind.i64, Cel.int IntKind.i64, Cel.int IntKind.i64, Cel.int IntKind.i64,
    Cel.int IntKind.i64, Cel.int IntKind.i64, Cel.int IntKind.i64, Cel.int IntKind.i64] true false (List.length x.l) (hasS x.l) anyV), some (Blk.arr (11 : Nat) (List.length (x.l ++ x.j))
    (lsF Sh.c (x.l ++ x.j))), some (Blk.row [AV.v (Value.int IntKind.i64 x.f), AV.map (4 : Nat)]), some (Blk.mp [Cel.int IntKind.i64] false true x.n (hasC x.gv x.sn) (valC x.f x.gv x.sn)),
    some (Blk.arr (1 : Nat) (2 : Nat) (lsF U32.c z))])) (Tree.chk (bif x.seen then bif !decide ((0 : Int) = x.who) then true else cl (LeL [AV.v (Value.int IntKind.u32 (bitI BinOp.andNot
    IntKind.u32 (List.getD z ((0 : Nat) + k) default) x.bad))] [AV.v (Value.int IntKind.u32 (gooS z k x.bad))] ∧ LeH [] []) && bif decide (c = (0 : Int)) then true else true else cl (LeL
    [AV.v (Value.int IntKind.u32 (bitI BinOp.andNot IntKind.u32 (List.getD z ((0 : Nat) + k) default) x.bad))] [AV.v (Value.int IntKind.u32 (gooS z k x.bad))] ∧ LeH [] []) && bif decide (c =
    (0 : Int)) then true else true) (Tree.br (bif x.seen then bif !decide ((0 : Int) = x.who) then true else bif decide (c = (0 : Int)) then true else decide (timesF (3 : Int) x.f ≤ (0 :
    Int)) else bif decide (c = (0 : Int)) then true else decide (timesF (3 : Int) x.f ≤ (0 : Int))) (Tree.leaf (Out.mk AEx.ret [AV.v (Value.int IntKind.i64 x.f), AV.v (Value.int IntKind.u32
    x.bad), AV.sl (4 : Nat) (List.length x.acts) (lsF Ac.c x.acts), AV.v (Value.int IntKind.i64 x.view), AV.v (Value.int IntKind.u32 x.sx), AV.v (Value.int IntKind.u32 x.sy), AV.ptr (0 :
    Nat) (0 : Nat), AV.ptr (3 : Nat) (0 : Nat), AV.v (Value.int IntKind.i64 x.who), AV.sb x.seen, AV.v (Value.int IntKind.i64 (↑x.i : Int)), AV.hs (5 : Nat) (0 : Nat) (2 : Nat), AV.v
    (Value.int IntKind.i64 (2 : Int)), AV.v (Value.int IntKind.i64 (↑k : Int)), AV.v (Value.bool false)] [some (Blk.row [AV.v (Value.int IntKind.i64 x.f), AV.v (Value.int IntKind.u32 x.bad),
    AV.map (1 : Nat), AV.hs (2 : Nat) (0 : Nat) (List.length x.l)]), some (Blk.mp [Cel.int IntKind.i64, Cel.int IntKind.i64, Cel.int IntKind.i64, Cel.int IntKind.i64, Cel.int IntKind.i64,
    Cel.int IntKind.i64, Cel.int IntKind.i64, Cel.int IntKind.i64, Cel.int IntKind.i64, Cel.int IntKind.i64, Cel.int IntKind.i64] true false (List.length x.l) (hasS x.l) anyV), some (Blk.arr
    (11 : Nat) (List.length (x.l ++ x.j)) (lsF Sh.c (x.l ++ x.j))), some (Blk.row [AV.v (Value.int IntKind.i64 x.f), AV.map (4 : Nat)]), some (Blk.mp [Cel.int IntKind.i64] false true x.n
    (hasC x.gv x.sn) (valC x.f x.gv x.sn)), some (Blk.arr (1 : Nat) (2 : Nat) (lsF U32.c z))])) (Tree.leaf (Out.mk AEx.normal [AV.v (Value.int IntKind.i64 x.f), AV.v (Value.int IntKind.u32
    x.bad), AV.sl (4 : Nat) (List.length x.acts) (lsF Ac.c x.acts), AV.v (Value.int IntKind.i64 x.view), AV.v (Value.int IntKind.u32 x.sx), AV.v (Value.int IntKind.u32 x.sy), AV.ptr (0 :
    Nat) (0 : Nat), AV.ptr (3 : Nat) (0 : Nat), AV.v (Value.int IntKind.i64 (0 : Int)), AV.v (Value.bool true), AV.v (Value.int IntKind.i64 (↑x.i : Int)), AV.hs (5 : Nat) (0 : Nat) (2 :
    Nat), AV.v (Value.int IntKind.i64 (2 : Int)), AV.v (Value.int IntKind.i64 (IntKind.wrap IntKind.i64 ((↑k : Int) + (1 : Int)))), AV.any] [some (Blk.row [AV.v (Value.int IntKind.i64 x.f),
    AV.v (Value.int IntKind.u32 x.bad), AV.map (1 : Nat), AV.hs (2 : Nat) (0 : Nat) (List.length x.l)]), some (Blk.mp [Cel.int IntKind.i64, Cel.int IntKind.i64, Cel.int IntKind.i64, Cel.int
    IntKind.i64, Cel.int IntKind.i64, Cel.int IntKind.i64, Cel.int IntKind.i64, Cel.int IntKind.i64, Cel.int IntKind.i64, Cel.int IntKind.i64, Cel.int IntKind.i64] true false (List.length
    x.l) (hasS x.l) anyV), some (Blk.arr (11 : Nat) (List.length (x.l ++ x.j)) (lsF Sh.c (x.l ++ x.j))), some (Blk.row [AV.v (Value.int IntKind.i64 x.f), AV.map (4 : Nat)]), some (Blk.mp
    [Cel.int IntKind.i64] false true x.n (hasC x.gv x.sn) (valC x.f x.gv x.sn)), some (Blk.arr (1 : Nat) (2 : Nat) (lsF U32.c z))]))))))) (Tree.leaf (Out.mk (AEx.exit (3 : Nat)) [AV.v
    (Value.int IntKind.i64 x.f), AV.v (Value.int IntKind.u32 x.bad), AV.sl (4 : Nat) (List.length x.acts) (lsF Ac.c x.acts), AV.v (Value.int IntKind.i64 x.view), AV.v (Value.int IntKind.u32
    x.sx), AV.v (Value.int IntKind.u32 x.sy), AV.ptr (0 : Nat) (0 : Nat), AV.ptr (3 : Nat) (0 : Nat), AV.v (Value.int IntKind.i64 x.who), AV.sb x.seen, AV.v (Value.int IntKind.i64 (↑x.i :
    Int)), AV.hs (5 : Nat) (0 : Nat) (2 : Nat), AV.v (Value.int IntKind.i64 (2 : Int)), AV.v (Value.int IntKind.i64 (↑k : Int)), AV.any] [some (Blk.row [AV.v (Value.int IntKind.i64 x.f),
    AV.v (Value.int IntKind.u32 x.bad), AV.map (1 : Nat), AV.hs (2 : Nat) (0 : Nat) (List.length x.l)]), some (Blk.mp [Cel.int IntKind.i64, Cel.int IntKind.i64, Cel.int IntKind.i64, Cel.int
    IntKind.i64, Cel.int IntKind.i64, Cel.int IntKind.i64, Cel.int IntKind.i64, Cel.int IntKind.i64, Cel.int IntKind.i64, Cel.int IntKind.i64, Cel.int IntKind.i64] true false (List.length
    x.l) (hasS x.l) anyV), some (Blk.arr (11 : Nat) (List.length (x.l ++ x.j)) (lsF Sh.c (x.l ++ x.j))), some (Blk.row [AV.v (Value.int IntKind.i64 x.f), AV.map (4 : Nat)]), some (Blk.mp
    [Cel.int IntKind.i64] false true x.n (hasC x.gv x.sn) (valC x.f x.gv x.sn)), some (Blk.arr (1 : Nat) (2 : Nat) (lsF U32.c z))])) := by kernel_rfl
theorem iOk (x : X4) (z : List Int) (k : Nat) (c : Int) (hc : Answers Tryd.prog Γc 20 [.v (.int .u32 (gooS z k x.bad))] [] (.v (.int .i64 c)) [] []) (hv : ¬ badV x.view) (hu : inU32 (z.getD k default) = true) (hb : inU32 x.bad = true) (hE : EnE (z.getD k default) (timesF 1 x.f) (stC x.view) x.f x.bad x.l 0) : roundE (P := Tryd.prog) (Γ := Γc) [CT.at 20 hc, CoQ.c8, CT.at 13 (ansSeeOk (f := x.f) (gv := x.gv) (sn := x.sn) (n := x.n) (l := x.l) (j := x.j) hv hu hb hE)] Lno false 0 0 (lp4 1) lv42 [] 131 (S42 x z k).1 (S42 x z k).2 =
  Tree.br (decide ((↑k : Int) < (2 : Int))) (Tree.chk (decide ((0 : Int) ≤ (↑k : Int)) && decide ((↑k : Int) < (↑(2 : Nat) : Int))) (Tree.chk (cl (LeL [AV.ptr (0 : Nat) (0 : Nat), AV.ptr (2 :
    Nat) (0 : Nat), AV.v (Value.int IntKind.i64 x.view), AV.v (Value.int IntKind.u32 (List.getD z ((0 : Nat) + k) default))] [AV.ptr (0 : Nat) (0 : Nat), AV.ptr (2 : Nat) (0 : Nat), AV.v
    (Value.int IntKind.i64 x.view), AV.v (Value.int IntKind.u32 (List.getD z k default))] ∧ LeH [some (Blk.row [AV.v (Value.int IntKind.i64 x.f), AV.map (1 : Nat)]), some (Blk.mp [Cel.int
    IntKind.i64] false true x.n (hasC x.gv x.sn) (valC x.f x.gv x.sn)), some (Blk.row [AV.v (Value.int IntKind.i64 x.f), AV.v (Value.int IntKind.u32 x.bad), AV.map (3 : Nat), AV.hs (4 : Nat)
    (0 : Nat) (List.length x.l)]), some (Blk.mp [Cel.int IntKind.i64, Cel.int IntKind.i64, Cel.int IntKind.i64, Cel.int IntKind.i64, Cel.int IntKind.i64, Cel.int IntKind.i64, Cel.int
    IntKind.i64, Cel.int IntKind.i64, Cel.int IntKind.i64, Cel.int IntKind.i64, Cel.int IntKind.i64] true false (List.length x.l) (hasS x.l) anyV), some (Blk.arr (11 : Nat) (List.length (x.l
    ++ x.j)) (lsF Sh.c (x.l ++ x.j)))] [some (Blk.row [AV.v (Value.int IntKind.i64 x.f), AV.map (1 : Nat)]), some (Blk.mp [Cel.int IntKind.i64] false true x.n (hasC x.gv x.sn) (valC x.f x.gv
    x.sn)), some (Blk.row [AV.v (Value.int IntKind.i64 x.f), AV.v (Value.int IntKind.u32 x.bad), AV.map (3 : Nat), AV.hs (4 : Nat) (0 : Nat) (List.length x.l)]), some (Blk.mp [Cel.int
    IntKind.i64, Cel.int IntKind.i64, Cel.int IntKind.i64, Cel.int IntKind.i64, Cel.int IntKind.i64, Cel.int IntKind.i64, Cel.int IntKind.i64, Cel.int IntKind.i64, Cel.int IntKind.i64,
    Cel.int IntKind.i64, Cel.int IntKind.i64] true false (List.length x.l) (hasS x.l) anyV), some (Blk.arr (11 : Nat) (List.length (x.l ++ x.j)) (lsF Sh.c (x.l ++ x.j)))])) (Tree.br false
    (Tree.leaf (Out.mk AEx.normal [AV.v (Value.int IntKind.i64 x.f), AV.v (Value.int IntKind.u32 x.bad), AV.sl (4 : Nat) (List.length x.acts) (lsF Ac.c x.acts), AV.v (Value.int IntKind.i64
    x.view), AV.v (Value.int IntKind.u32 x.sx), AV.v (Value.int IntKind.u32 x.sy), AV.ptr (0 : Nat) (0 : Nat), AV.ptr (3 : Nat) (0 : Nat), AV.v (Value.int IntKind.i64 x.who), AV.sb x.seen,
    AV.v (Value.int IntKind.i64 (↑x.i : Int)), AV.hs (5 : Nat) (0 : Nat) (2 : Nat), AV.v (Value.int IntKind.i64 (2 : Int)), AV.v (Value.int IntKind.i64 (IntKind.wrap IntKind.i64 ((↑k : Int)
    + (1 : Int)))), AV.any] [some (Blk.row [AV.v (Value.int IntKind.i64 x.f), AV.v (Value.int IntKind.u32 x.bad), AV.map (1 : Nat), AV.hs (2 : Nat) (0 : Nat) (List.length x.l)]), some
    (Blk.mp [Cel.int IntKind.i64, Cel.int IntKind.i64, Cel.int IntKind.i64, Cel.int IntKind.i64, Cel.int IntKind.i64, Cel.int IntKind.i64, Cel.int IntKind.i64, Cel.int IntKind.i64, Cel.int
    IntKind.i64, Cel.int IntKind.i64, Cel.int IntKind.i64] true false (List.length x.l) (hasS x.l) anyV), some (Blk.arr (11 : Nat) (List.length (x.l ++ x.j)) (lsF Sh.c (x.l ++ x.j))), some
    (Blk.row [AV.v (Value.int IntKind.i64 x.f), AV.map (4 : Nat)]), some (Blk.mp [Cel.int IntKind.i64] false true (nC x.gv x.sn x.view x.n) (hasC x.gv (addS x.sn x.view)) (valC x.f x.gv
    (addS x.sn x.view))), some (Blk.arr (1 : Nat) (2 : Nat) (lsF U32.c z))])) (Tree.chk (bif x.seen then bif !decide (whoV x.f x.gv x.view = x.who) then true else cl (LeL [AV.v (Value.int
    IntKind.u32 (bitI BinOp.andNot IntKind.u32 (List.getD z ((0 : Nat) + k) default) x.bad))] [AV.v (Value.int IntKind.u32 (gooS z k x.bad))] ∧ LeH [] []) && bif decide (c = (0 : Int)) then
    true else bif decide (whoV x.f x.gv x.view < (0 : Int)) then true else true else cl (LeL [AV.v (Value.int IntKind.u32 (bitI BinOp.andNot IntKind.u32 (List.getD z ((0 : Nat) + k) default)
    x.bad))] [AV.v (Value.int IntKind.u32 (gooS z k x.bad))] ∧ LeH [] []) && bif decide (c = (0 : Int)) then true else bif decide (whoV x.f x.gv x.view < (0 : Int)) then true else true)
    (Tree.br (bif x.seen then bif !decide (whoV x.f x.gv x.view = x.who) then true else bif decide (c = (0 : Int)) then true else bif decide (whoV x.f x.gv x.view < (0 : Int)) then true else
    decide (timesF (3 : Int) x.f ≤ whoV x.f x.gv x.view) else bif decide (c = (0 : Int)) then true else bif decide (whoV x.f x.gv x.view < (0 : Int)) then true else decide (timesF (3 : Int)
    x.f ≤ whoV x.f x.gv x.view)) (Tree.leaf (Out.mk AEx.ret [AV.v (Value.int IntKind.i64 x.f), AV.v (Value.int IntKind.u32 x.bad), AV.sl (4 : Nat) (List.length x.acts) (lsF Ac.c x.acts),
    AV.v (Value.int IntKind.i64 x.view), AV.v (Value.int IntKind.u32 x.sx), AV.v (Value.int IntKind.u32 x.sy), AV.ptr (0 : Nat) (0 : Nat), AV.ptr (3 : Nat) (0 : Nat), AV.v (Value.int
    IntKind.i64 x.who), AV.sb x.seen, AV.v (Value.int IntKind.i64 (↑x.i : Int)), AV.hs (5 : Nat) (0 : Nat) (2 : Nat), AV.v (Value.int IntKind.i64 (2 : Int)), AV.v (Value.int IntKind.i64 (↑k
    : Int)), AV.v (Value.bool false)] [some (Blk.row [AV.v (Value.int IntKind.i64 x.f), AV.v (Value.int IntKind.u32 x.bad), AV.map (1 : Nat), AV.hs (2 : Nat) (0 : Nat) (List.length x.l)]),
    some (Blk.mp [Cel.int IntKind.i64, Cel.int IntKind.i64, Cel.int IntKind.i64, Cel.int IntKind.i64, Cel.int IntKind.i64, Cel.int IntKind.i64, Cel.int IntKind.i64, Cel.int IntKind.i64,
    Cel.int IntKind.i64, Cel.int IntKind.i64, Cel.int IntKind.i64] true false (List.length x.l) (hasS x.l) anyV), some (Blk.arr (11 : Nat) (List.length (x.l ++ x.j)) (lsF Sh.c (x.l ++
    x.j))), some (Blk.row [AV.v (Value.int IntKind.i64 x.f), AV.map (4 : Nat)]), some (Blk.mp [Cel.int IntKind.i64] false true (nC x.gv x.sn x.view x.n) (hasC x.gv (addS x.sn x.view)) (valC
    x.f x.gv (addS x.sn x.view))), some (Blk.arr (1 : Nat) (2 : Nat) (lsF U32.c z))])) (Tree.leaf (Out.mk AEx.normal [AV.v (Value.int IntKind.i64 x.f), AV.v (Value.int IntKind.u32 x.bad),
    AV.sl (4 : Nat) (List.length x.acts) (lsF Ac.c x.acts), AV.v (Value.int IntKind.i64 x.view), AV.v (Value.int IntKind.u32 x.sx), AV.v (Value.int IntKind.u32 x.sy), AV.ptr (0 : Nat) (0 :
    Nat), AV.ptr (3 : Nat) (0 : Nat), AV.v (Value.int IntKind.i64 (whoV x.f x.gv x.view)), AV.v (Value.bool true), AV.v (Value.int IntKind.i64 (↑x.i : Int)), AV.hs (5 : Nat) (0 : Nat) (2 :
    Nat), AV.v (Value.int IntKind.i64 (2 : Int)), AV.v (Value.int IntKind.i64 (IntKind.wrap IntKind.i64 ((↑k : Int) + (1 : Int)))), AV.any] [some (Blk.row [AV.v (Value.int IntKind.i64 x.f),
    AV.v (Value.int IntKind.u32 x.bad), AV.map (1 : Nat), AV.hs (2 : Nat) (0 : Nat) (List.length x.l)]), some (Blk.mp [Cel.int IntKind.i64, Cel.int IntKind.i64, Cel.int IntKind.i64, Cel.int
    IntKind.i64, Cel.int IntKind.i64, Cel.int IntKind.i64, Cel.int IntKind.i64, Cel.int IntKind.i64, Cel.int IntKind.i64, Cel.int IntKind.i64, Cel.int IntKind.i64] true false (List.length
    x.l) (hasS x.l) anyV), some (Blk.arr (11 : Nat) (List.length (x.l ++ x.j)) (lsF Sh.c (x.l ++ x.j))), some (Blk.row [AV.v (Value.int IntKind.i64 x.f), AV.map (4 : Nat)]), some (Blk.mp
    [Cel.int IntKind.i64] false true (nC x.gv x.sn x.view x.n) (hasC x.gv (addS x.sn x.view)) (valC x.f x.gv (addS x.sn x.view))), some (Blk.arr (1 : Nat) (2 : Nat) (lsF U32.c z))])))))))
    (Tree.leaf (Out.mk (AEx.exit (3 : Nat)) [AV.v (Value.int IntKind.i64 x.f), AV.v (Value.int IntKind.u32 x.bad), AV.sl (4 : Nat) (List.length x.acts) (lsF Ac.c x.acts), AV.v (Value.int
    IntKind.i64 x.view), AV.v (Value.int IntKind.u32 x.sx), AV.v (Value.int IntKind.u32 x.sy), AV.ptr (0 : Nat) (0 : Nat), AV.ptr (3 : Nat) (0 : Nat), AV.v (Value.int IntKind.i64 x.who),
    AV.sb x.seen, AV.v (Value.int IntKind.i64 (↑x.i : Int)), AV.hs (5 : Nat) (0 : Nat) (2 : Nat), AV.v (Value.int IntKind.i64 (2 : Int)), AV.v (Value.int IntKind.i64 (↑k : Int)), AV.any]
    [some (Blk.row [AV.v (Value.int IntKind.i64 x.f), AV.v (Value.int IntKind.u32 x.bad), AV.map (1 : Nat), AV.hs (2 : Nat) (0 : Nat) (List.length x.l)]), some (Blk.mp [Cel.int IntKind.i64,
    Cel.int IntKind.i64, Cel.int IntKind.i64, Cel.int IntKind.i64, Cel.int IntKind.i64, Cel.int IntKind.i64, Cel.int IntKind.i64, Cel.int IntKind.i64, Cel.int IntKind.i64, Cel.int
    IntKind.i64, Cel.int IntKind.i64] true false (List.length x.l) (hasS x.l) anyV), some (Blk.arr (11 : Nat) (List.length (x.l ++ x.j)) (lsF Sh.c (x.l ++ x.j))), some (Blk.row [AV.v
    (Value.int IntKind.i64 x.f), AV.map (4 : Nat)]), some (Blk.mp [Cel.int IntKind.i64] false true x.n (hasC x.gv x.sn) (valC x.f x.gv x.sn)), some (Blk.arr (1 : Nat) (2 : Nat) (lsF U32.c
    z))])) := by kernel_rfl
theorem oend (x x' : X4) : roundE (P := Tryd.prog) (Γ := Γc) [] (L41 x x') false 0 0 (lp4 0) lv41 nl41 131 (S41 x).1 (S41 x).2 =
  Tree.br (decide ((↑x.i : Int) < (↑(List.length x.acts) : Int))) (Tree.chk (decide ((0 : Int) ≤ (↑x.i : Int)) && decide ((↑x.i : Int) < (↑(List.length x.acts) : Int))) (Tree.br (decide
    ((List.getD x.acts x.i default).k = (0 : Int))) Tree.fail (Tree.br (decide ((List.getD x.acts x.i default).k = (1 : Int))) Tree.fail (Tree.br (decide ((List.getD x.acts x.i default).k =
    (2 : Int))) Tree.fail (Tree.chk (cl (LeL [AV.v (Value.int IntKind.i64 x.f), AV.v (Value.int IntKind.u32 x.bad), AV.sl (4 : Nat) (List.length x.acts) (lsF Ac.c x.acts), AV.v (Value.int
    IntKind.i64 x.view), AV.v (Value.int IntKind.u32 x.sx), AV.v (Value.int IntKind.u32 x.sy), AV.ptr (0 : Nat) (0 : Nat), AV.ptr (3 : Nat) (0 : Nat), AV.v (Value.int IntKind.i64 x.who),
    AV.sb x.seen, AV.v (Value.int IntKind.i64 (↑x.i : Int)), AV.hs (5 : Nat) (0 : Nat) (2 : Nat), AV.v (Value.int IntKind.i64 (↑(2 : Nat) : Int)), AV.v (Value.int IntKind.i64 (0 : Int)),
    AV.any] [AV.v (Value.int IntKind.i64 x.f), AV.v (Value.int IntKind.u32 x.bad), AV.sl (4 : Nat) (List.length x.acts) (lsF Ac.c x.acts), AV.v (Value.int IntKind.i64 x.view), AV.v
    (Value.int IntKind.u32 x.sx), AV.v (Value.int IntKind.u32 x.sy), AV.ptr (0 : Nat) (0 : Nat), AV.ptr (3 : Nat) (0 : Nat), AV.v (Value.int IntKind.i64 x.who), AV.sb x.seen, AV.v (Value.int
    IntKind.i64 (↑x.i : Int)), AV.hs (5 : Nat) (0 : Nat) (2 : Nat), AV.v (Value.int IntKind.i64 (2 : Int)), AV.v (Value.int IntKind.i64 (↑(0 : Nat) : Int)), AV.any] ∧ LeH [some (Blk.row
    [AV.v (Value.int IntKind.i64 x.f), AV.v (Value.int IntKind.u32 x.bad), AV.map (1 : Nat), AV.hs (2 : Nat) (0 : Nat) (List.length x.l)]), some (Blk.mp [Cel.int IntKind.i64, Cel.int
    IntKind.i64, Cel.int IntKind.i64, Cel.int IntKind.i64, Cel.int IntKind.i64, Cel.int IntKind.i64, Cel.int IntKind.i64, Cel.int IntKind.i64, Cel.int IntKind.i64, Cel.int IntKind.i64,
    Cel.int IntKind.i64] true false (List.length x.l) (hasS x.l) anyV), some (Blk.arr (11 : Nat) (List.length (x.l ++ x.j)) (lsF Sh.c (x.l ++ x.j))), some (Blk.row [AV.v (Value.int
    IntKind.i64 x.f), AV.map (4 : Nat)]), some (Blk.mp [Cel.int IntKind.i64] false true x.n (hasC x.gv x.sn) (valC x.f x.gv x.sn)), some (Blk.arr (1 : Nat) (2 : Nat) fun x_1 => [AV.v
    (Value.int IntKind.u32 (bif Nat.beq x_1 (0 : Nat) then x.sx else bif Nat.beq x_1 (1 : Nat) then x.sy else (0 : Int)))])] [some (Blk.row [AV.v (Value.int IntKind.i64 x.f), AV.v (Value.int
    IntKind.u32 x.bad), AV.map (1 : Nat), AV.hs (2 : Nat) (0 : Nat) (List.length x.l)]), some (Blk.mp [Cel.int IntKind.i64, Cel.int IntKind.i64, Cel.int IntKind.i64, Cel.int IntKind.i64,
    Cel.int IntKind.i64, Cel.int IntKind.i64, Cel.int IntKind.i64, Cel.int IntKind.i64, Cel.int IntKind.i64, Cel.int IntKind.i64, Cel.int IntKind.i64] true false (List.length x.l) (hasS x.l)
    anyV), some (Blk.arr (11 : Nat) (List.length (x.l ++ x.j)) (lsF Sh.c (x.l ++ x.j))), some (Blk.row [AV.v (Value.int IntKind.i64 x.f), AV.map (4 : Nat)]), some (Blk.mp [Cel.int
    IntKind.i64] false true x.n (hasC x.gv x.sn) (valC x.f x.gv x.sn)), some (Blk.arr (1 : Nat) (2 : Nat) (lsF U32.c [x.sx, x.sy]))])) (Tree.leaf (Out.mk AEx.normal [AV.v (Value.int
    IntKind.i64 x'.f), AV.v (Value.int IntKind.u32 x'.bad), AV.sl (4 : Nat) (List.length x'.acts) (lsF Ac.c x'.acts), AV.v (Value.int IntKind.i64 x'.view), AV.v (Value.int IntKind.u32
    x'.sx), AV.v (Value.int IntKind.u32 x'.sy), AV.ptr (0 : Nat) (0 : Nat), AV.ptr (3 : Nat) (0 : Nat), AV.v (Value.int IntKind.i64 x'.who), AV.sb x'.seen, AV.v (Value.int IntKind.i64
    (IntKind.wrap IntKind.i64 ((↑x'.i : Int) + (1 : Int)))), AV.any] [some (Blk.row [AV.v (Value.int IntKind.i64 x'.f), AV.v (Value.int IntKind.u32 x'.bad), AV.map (1 : Nat), AV.hs (2 : Nat)
    (0 : Nat) (List.length x'.l)]), some (Blk.mp [Cel.int IntKind.i64, Cel.int IntKind.i64, Cel.int IntKind.i64, Cel.int IntKind.i64, Cel.int IntKind.i64, Cel.int IntKind.i64, Cel.int
    IntKind.i64, Cel.int IntKind.i64, Cel.int IntKind.i64, Cel.int IntKind.i64, Cel.int IntKind.i64] true false (List.length x'.l) (hasS x'.l) anyV), some (Blk.arr (11 : Nat) (List.length
    (x'.l ++ x'.j)) (lsF Sh.c (x'.l ++ x'.j))), some (Blk.row [AV.v (Value.int IntKind.i64 x'.f), AV.map (4 : Nat)]), some (Blk.mp [Cel.int IntKind.i64] false true x'.n (hasC x'.gv x'.sn)
    (valC x'.f x'.gv x'.sn))]))))))) (Tree.leaf (Out.mk (AEx.exit (0 : Nat)) [AV.v (Value.int IntKind.i64 x.f), AV.v (Value.int IntKind.u32 x.bad), AV.sl (4 : Nat) (List.length x.acts) (lsF
    Ac.c x.acts), AV.v (Value.int IntKind.i64 x.view), AV.v (Value.int IntKind.u32 x.sx), AV.v (Value.int IntKind.u32 x.sy), AV.ptr (0 : Nat) (0 : Nat), AV.ptr (3 : Nat) (0 : Nat), AV.v
    (Value.int IntKind.i64 x.who), AV.sb x.seen, AV.v (Value.int IntKind.i64 (↑x.i : Int)), AV.any] [some (Blk.row [AV.v (Value.int IntKind.i64 x.f), AV.v (Value.int IntKind.u32 x.bad),
    AV.map (1 : Nat), AV.hs (2 : Nat) (0 : Nat) (List.length x.l)]), some (Blk.mp [Cel.int IntKind.i64, Cel.int IntKind.i64, Cel.int IntKind.i64, Cel.int IntKind.i64, Cel.int IntKind.i64,
    Cel.int IntKind.i64, Cel.int IntKind.i64, Cel.int IntKind.i64, Cel.int IntKind.i64, Cel.int IntKind.i64, Cel.int IntKind.i64] true false (List.length x.l) (hasS x.l) anyV), some (Blk.arr
    (11 : Nat) (List.length (x.l ++ x.j)) (lsF Sh.c (x.l ++ x.j))), some (Blk.row [AV.v (Value.int IntKind.i64 x.f), AV.map (4 : Nat)]), some (Blk.mp [Cel.int IntKind.i64] false true x.n
    (hasC x.gv x.sn) (valC x.f x.gv x.sn))])) := by kernel_rfl
theorem oc70 (x x' : X4) (hv : badV (x.acts.getD x.i default).v) : roundE (P := Tryd.prog) (Γ := Γc) [CT.at 11 (ansChoBad (w := (x.acts.getD x.i default).w) (f := x.f) (gv := x.gv) (sn := x.sn) (n := x.n) hv)] (L41 x x') false 0 0 (lp4 0) lv41 nl41 131 (S41 x).1 (S41 x).2 =
  Tree.br (decide ((↑x.i : Int) < (↑(List.length x.acts) : Int))) (Tree.chk (decide ((0 : Int) ≤ (↑x.i : Int)) && decide ((↑x.i : Int) < (↑(List.length x.acts) : Int))) (Tree.br (decide
    ((List.getD x.acts x.i default).k = (0 : Int))) (Tree.chk (cl (LeL [AV.ptr (0 : Nat) (0 : Nat), AV.v (Value.int IntKind.i64 (List.getD x.acts x.i default).v), AV.v (Value.int IntKind.i64
    (List.getD x.acts x.i default).w)] [AV.ptr (0 : Nat) (0 : Nat), AV.v (Value.int IntKind.i64 (List.getD x.acts x.i default).v), AV.v (Value.int IntKind.i64 (List.getD x.acts x.i
    default).w)] ∧ LeH [some (Blk.row [AV.v (Value.int IntKind.i64 x.f), AV.map (1 : Nat)]), some (Blk.mp [Cel.int IntKind.i64] false true x.n (hasC x.gv x.sn) (valC x.f x.gv x.sn))] [some
    (Blk.row [AV.v (Value.int IntKind.i64 x.f), AV.map (1 : Nat)]), some (Blk.mp [Cel.int IntKind.i64] false true x.n (hasC x.gv x.sn) (valC x.f x.gv x.sn))])) (Tree.chk (cl (LeL [AV.v
    (Value.int IntKind.i64 x.f), AV.v (Value.int IntKind.u32 x.bad), AV.sl (4 : Nat) (List.length x.acts) (lsF Ac.c x.acts), AV.v (Value.int IntKind.i64 x.view), AV.v (Value.int IntKind.u32
    x.sx), AV.v (Value.int IntKind.u32 x.sy), AV.ptr (0 : Nat) (0 : Nat), AV.ptr (3 : Nat) (0 : Nat), AV.v (Value.int IntKind.i64 x.who), AV.sb x.seen, AV.v (Value.int IntKind.i64 (↑x.i :
    Int)), AV.hs (5 : Nat) (0 : Nat) (2 : Nat), AV.v (Value.int IntKind.i64 (↑(2 : Nat) : Int)), AV.v (Value.int IntKind.i64 (0 : Int)), AV.any] [AV.v (Value.int IntKind.i64 x.f), AV.v
    (Value.int IntKind.u32 x.bad), AV.sl (4 : Nat) (List.length x.acts) (lsF Ac.c x.acts), AV.v (Value.int IntKind.i64 x.view), AV.v (Value.int IntKind.u32 x.sx), AV.v (Value.int IntKind.u32
    x.sy), AV.ptr (0 : Nat) (0 : Nat), AV.ptr (3 : Nat) (0 : Nat), AV.v (Value.int IntKind.i64 x.who), AV.sb x.seen, AV.v (Value.int IntKind.i64 (↑x.i : Int)), AV.hs (5 : Nat) (0 : Nat) (2 :
    Nat), AV.v (Value.int IntKind.i64 (2 : Int)), AV.v (Value.int IntKind.i64 (↑(0 : Nat) : Int)), AV.any] ∧ LeH [some (Blk.row [AV.v (Value.int IntKind.i64 x.f), AV.v (Value.int IntKind.u32
    x.bad), AV.map (1 : Nat), AV.hs (2 : Nat) (0 : Nat) (List.length x.l)]), some (Blk.mp [Cel.int IntKind.i64, Cel.int IntKind.i64, Cel.int IntKind.i64, Cel.int IntKind.i64, Cel.int
    IntKind.i64, Cel.int IntKind.i64, Cel.int IntKind.i64, Cel.int IntKind.i64, Cel.int IntKind.i64, Cel.int IntKind.i64, Cel.int IntKind.i64] true false (List.length x.l) (hasS x.l) anyV),
    some (Blk.arr (11 : Nat) (List.length (x.l ++ x.j)) (lsF Sh.c (x.l ++ x.j))), some (Blk.row [AV.v (Value.int IntKind.i64 x.f), AV.map (4 : Nat)]), some (Blk.mp [Cel.int IntKind.i64]
    false true x.n (hasC x.gv x.sn) (valC x.f x.gv x.sn)), some (Blk.arr (1 : Nat) (2 : Nat) fun x_1 => [AV.v (Value.int IntKind.u32 (bif Nat.beq x_1 (0 : Nat) then x.sx else bif Nat.beq x_1
    (1 : Nat) then x.sy else (0 : Int)))])] [some (Blk.row [AV.v (Value.int IntKind.i64 x.f), AV.v (Value.int IntKind.u32 x.bad), AV.map (1 : Nat), AV.hs (2 : Nat) (0 : Nat) (List.length
    x.l)]), some (Blk.mp [Cel.int IntKind.i64, Cel.int IntKind.i64, Cel.int IntKind.i64, Cel.int IntKind.i64, Cel.int IntKind.i64, Cel.int IntKind.i64, Cel.int IntKind.i64, Cel.int
    IntKind.i64, Cel.int IntKind.i64, Cel.int IntKind.i64, Cel.int IntKind.i64] true false (List.length x.l) (hasS x.l) anyV), some (Blk.arr (11 : Nat) (List.length (x.l ++ x.j)) (lsF Sh.c
    (x.l ++ x.j))), some (Blk.row [AV.v (Value.int IntKind.i64 x.f), AV.map (4 : Nat)]), some (Blk.mp [Cel.int IntKind.i64] false true x.n (hasC x.gv x.sn) (valC x.f x.gv x.sn)), some
    (Blk.arr (1 : Nat) (2 : Nat) (lsF U32.c [x.sx, x.sy]))])) (Tree.leaf (Out.mk AEx.normal [AV.v (Value.int IntKind.i64 x'.f), AV.v (Value.int IntKind.u32 x'.bad), AV.sl (4 : Nat)
    (List.length x'.acts) (lsF Ac.c x'.acts), AV.v (Value.int IntKind.i64 x'.view), AV.v (Value.int IntKind.u32 x'.sx), AV.v (Value.int IntKind.u32 x'.sy), AV.ptr (0 : Nat) (0 : Nat), AV.ptr
    (3 : Nat) (0 : Nat), AV.v (Value.int IntKind.i64 x'.who), AV.sb x'.seen, AV.v (Value.int IntKind.i64 (IntKind.wrap IntKind.i64 ((↑x'.i : Int) + (1 : Int)))), AV.any] [some (Blk.row [AV.v
    (Value.int IntKind.i64 x'.f), AV.v (Value.int IntKind.u32 x'.bad), AV.map (1 : Nat), AV.hs (2 : Nat) (0 : Nat) (List.length x'.l)]), some (Blk.mp [Cel.int IntKind.i64, Cel.int
    IntKind.i64, Cel.int IntKind.i64, Cel.int IntKind.i64, Cel.int IntKind.i64, Cel.int IntKind.i64, Cel.int IntKind.i64, Cel.int IntKind.i64, Cel.int IntKind.i64, Cel.int IntKind.i64,
    Cel.int IntKind.i64] true false (List.length x'.l) (hasS x'.l) anyV), some (Blk.arr (11 : Nat) (List.length (x'.l ++ x'.j)) (lsF Sh.c (x'.l ++ x'.j))), some (Blk.row [AV.v (Value.int
    IntKind.i64 x'.f), AV.map (4 : Nat)]), some (Blk.mp [Cel.int IntKind.i64] false true x'.n (hasC x'.gv x'.sn) (valC x'.f x'.gv x'.sn))])))) (Tree.br (decide ((List.getD x.acts x.i
    default).k = (1 : Int))) Tree.fail (Tree.br (decide ((List.getD x.acts x.i default).k = (2 : Int))) Tree.fail (Tree.chk (cl (LeL [AV.v (Value.int IntKind.i64 x.f), AV.v (Value.int
    IntKind.u32 x.bad), AV.sl (4 : Nat) (List.length x.acts) (lsF Ac.c x.acts), AV.v (Value.int IntKind.i64 x.view), AV.v (Value.int IntKind.u32 x.sx), AV.v (Value.int IntKind.u32 x.sy),
    AV.ptr (0 : Nat) (0 : Nat), AV.ptr (3 : Nat) (0 : Nat), AV.v (Value.int IntKind.i64 x.who), AV.sb x.seen, AV.v (Value.int IntKind.i64 (↑x.i : Int)), AV.hs (5 : Nat) (0 : Nat) (2 : Nat),
    AV.v (Value.int IntKind.i64 (↑(2 : Nat) : Int)), AV.v (Value.int IntKind.i64 (0 : Int)), AV.any] [AV.v (Value.int IntKind.i64 x.f), AV.v (Value.int IntKind.u32 x.bad), AV.sl (4 : Nat)
    (List.length x.acts) (lsF Ac.c x.acts), AV.v (Value.int IntKind.i64 x.view), AV.v (Value.int IntKind.u32 x.sx), AV.v (Value.int IntKind.u32 x.sy), AV.ptr (0 : Nat) (0 : Nat), AV.ptr (3 :
    Nat) (0 : Nat), AV.v (Value.int IntKind.i64 x.who), AV.sb x.seen, AV.v (Value.int IntKind.i64 (↑x.i : Int)), AV.hs (5 : Nat) (0 : Nat) (2 : Nat), AV.v (Value.int IntKind.i64 (2 : Int)),
    AV.v (Value.int IntKind.i64 (↑(0 : Nat) : Int)), AV.any] ∧ LeH [some (Blk.row [AV.v (Value.int IntKind.i64 x.f), AV.v (Value.int IntKind.u32 x.bad), AV.map (1 : Nat), AV.hs (2 : Nat) (0
    : Nat) (List.length x.l)]), some (Blk.mp [Cel.int IntKind.i64, Cel.int IntKind.i64, Cel.int IntKind.i64, Cel.int IntKind.i64, Cel.int IntKind.i64, Cel.int IntKind.i64, Cel.int
    IntKind.i64, Cel.int IntKind.i64, Cel.int IntKind.i64, Cel.int IntKind.i64, Cel.int IntKind.i64] true false (List.length x.l) (hasS x.l) anyV), some (Blk.arr (11 : Nat) (List.length (x.l
    ++ x.j)) (lsF Sh.c (x.l ++ x.j))), some (Blk.row [AV.v (Value.int IntKind.i64 x.f), AV.map (4 : Nat)]), some (Blk.mp [Cel.int IntKind.i64] false true x.n (hasC x.gv x.sn) (valC x.f x.gv
    x.sn)), some (Blk.arr (1 : Nat) (2 : Nat) fun x_1 => [AV.v (Value.int IntKind.u32 (bif Nat.beq x_1 (0 : Nat) then x.sx else bif Nat.beq x_1 (1 : Nat) then x.sy else (0 : Int)))])] [some
    (Blk.row [AV.v (Value.int IntKind.i64 x.f), AV.v (Value.int IntKind.u32 x.bad), AV.map (1 : Nat), AV.hs (2 : Nat) (0 : Nat) (List.length x.l)]), some (Blk.mp [Cel.int IntKind.i64,
    Cel.int IntKind.i64, Cel.int IntKind.i64, Cel.int IntKind.i64, Cel.int IntKind.i64, Cel.int IntKind.i64, Cel.int IntKind.i64, Cel.int IntKind.i64, Cel.int IntKind.i64, Cel.int
    IntKind.i64, Cel.int IntKind.i64] true false (List.length x.l) (hasS x.l) anyV), some (Blk.arr (11 : Nat) (List.length (x.l ++ x.j)) (lsF Sh.c (x.l ++ x.j))), some (Blk.row [AV.v
    (Value.int IntKind.i64 x.f), AV.map (4 : Nat)]), some (Blk.mp [Cel.int IntKind.i64] false true x.n (hasC x.gv x.sn) (valC x.f x.gv x.sn)), some (Blk.arr (1 : Nat) (2 : Nat) (lsF U32.c
    [x.sx, x.sy]))])) (Tree.leaf (Out.mk AEx.normal [AV.v (Value.int IntKind.i64 x'.f), AV.v (Value.int IntKind.u32 x'.bad), AV.sl (4 : Nat) (List.length x'.acts) (lsF Ac.c x'.acts), AV.v
    (Value.int IntKind.i64 x'.view), AV.v (Value.int IntKind.u32 x'.sx), AV.v (Value.int IntKind.u32 x'.sy), AV.ptr (0 : Nat) (0 : Nat), AV.ptr (3 : Nat) (0 : Nat), AV.v (Value.int
    IntKind.i64 x'.who), AV.sb x'.seen, AV.v (Value.int IntKind.i64 (IntKind.wrap IntKind.i64 ((↑x'.i : Int) + (1 : Int)))), AV.any] [some (Blk.row [AV.v (Value.int IntKind.i64 x'.f), AV.v
    (Value.int IntKind.u32 x'.bad), AV.map (1 : Nat), AV.hs (2 : Nat) (0 : Nat) (List.length x'.l)]), some (Blk.mp [Cel.int IntKind.i64, Cel.int IntKind.i64, Cel.int IntKind.i64, Cel.int
    IntKind.i64, Cel.int IntKind.i64, Cel.int IntKind.i64, Cel.int IntKind.i64, Cel.int IntKind.i64, Cel.int IntKind.i64, Cel.int IntKind.i64, Cel.int IntKind.i64] true false (List.length
    x'.l) (hasS x'.l) anyV), some (Blk.arr (11 : Nat) (List.length (x'.l ++ x'.j)) (lsF Sh.c (x'.l ++ x'.j))), some (Blk.row [AV.v (Value.int IntKind.i64 x'.f), AV.map (4 : Nat)]), some
    (Blk.mp [Cel.int IntKind.i64] false true x'.n (hasC x'.gv x'.sn) (valC x'.f x'.gv x'.sn))]))))))) (Tree.leaf (Out.mk (AEx.exit (0 : Nat)) [AV.v (Value.int IntKind.i64 x.f), AV.v
    (Value.int IntKind.u32 x.bad), AV.sl (4 : Nat) (List.length x.acts) (lsF Ac.c x.acts), AV.v (Value.int IntKind.i64 x.view), AV.v (Value.int IntKind.u32 x.sx), AV.v (Value.int IntKind.u32
    x.sy), AV.ptr (0 : Nat) (0 : Nat), AV.ptr (3 : Nat) (0 : Nat), AV.v (Value.int IntKind.i64 x.who), AV.sb x.seen, AV.v (Value.int IntKind.i64 (↑x.i : Int)), AV.any] [some (Blk.row [AV.v
    (Value.int IntKind.i64 x.f), AV.v (Value.int IntKind.u32 x.bad), AV.map (1 : Nat), AV.hs (2 : Nat) (0 : Nat) (List.length x.l)]), some (Blk.mp [Cel.int IntKind.i64, Cel.int IntKind.i64,
    Cel.int IntKind.i64, Cel.int IntKind.i64, Cel.int IntKind.i64, Cel.int IntKind.i64, Cel.int IntKind.i64, Cel.int IntKind.i64, Cel.int IntKind.i64, Cel.int IntKind.i64, Cel.int
    IntKind.i64] true false (List.length x.l) (hasS x.l) anyV), some (Blk.arr (11 : Nat) (List.length (x.l ++ x.j)) (lsF Sh.c (x.l ++ x.j))), some (Blk.row [AV.v (Value.int IntKind.i64 x.f),
    AV.map (4 : Nat)]), some (Blk.mp [Cel.int IntKind.i64] false true x.n (hasC x.gv x.sn) (valC x.f x.gv x.sn))])) := by kernel_rfl
theorem ocOut (x x' : X4) (hv : ¬ badV (x.acts.getD x.i default).v) (hw : (x.acts.getD x.i default).w < 0 ∨ timesF 3 x.f ≤ (x.acts.getD x.i default).w) : roundE (P := Tryd.prog) (Γ := Γc) [CT.at 11 (ansChoOut (f := x.f) (gv := x.gv) (sn := x.sn) (n := x.n) hv hw)] (L41 x x') false 0 0 (lp4 0) lv41 nl41 131 (S41 x).1 (S41 x).2 =
  Tree.br (decide ((↑x.i : Int) < (↑(List.length x.acts) : Int))) (Tree.chk (decide ((0 : Int) ≤ (↑x.i : Int)) && decide ((↑x.i : Int) < (↑(List.length x.acts) : Int))) (Tree.br (decide
    ((List.getD x.acts x.i default).k = (0 : Int))) (Tree.chk (cl (LeL [AV.ptr (0 : Nat) (0 : Nat), AV.v (Value.int IntKind.i64 (List.getD x.acts x.i default).v), AV.v (Value.int IntKind.i64
    (List.getD x.acts x.i default).w)] [AV.ptr (0 : Nat) (0 : Nat), AV.v (Value.int IntKind.i64 (List.getD x.acts x.i default).v), AV.v (Value.int IntKind.i64 (List.getD x.acts x.i
    default).w)] ∧ LeH [some (Blk.row [AV.v (Value.int IntKind.i64 x.f), AV.map (1 : Nat)]), some (Blk.mp [Cel.int IntKind.i64] false true x.n (hasC x.gv x.sn) (valC x.f x.gv x.sn))] [some
    (Blk.row [AV.v (Value.int IntKind.i64 x.f), AV.map (1 : Nat)]), some (Blk.mp [Cel.int IntKind.i64] false true x.n (hasC x.gv x.sn) (valC x.f x.gv x.sn))])) (Tree.chk (cl (LeL [AV.v
    (Value.int IntKind.i64 x.f), AV.v (Value.int IntKind.u32 x.bad), AV.sl (4 : Nat) (List.length x.acts) (lsF Ac.c x.acts), AV.v (Value.int IntKind.i64 x.view), AV.v (Value.int IntKind.u32
    x.sx), AV.v (Value.int IntKind.u32 x.sy), AV.ptr (0 : Nat) (0 : Nat), AV.ptr (3 : Nat) (0 : Nat), AV.v (Value.int IntKind.i64 x.who), AV.sb x.seen, AV.v (Value.int IntKind.i64 (↑x.i :
    Int)), AV.hs (5 : Nat) (0 : Nat) (2 : Nat), AV.v (Value.int IntKind.i64 (↑(2 : Nat) : Int)), AV.v (Value.int IntKind.i64 (0 : Int)), AV.any] [AV.v (Value.int IntKind.i64 x.f), AV.v
    (Value.int IntKind.u32 x.bad), AV.sl (4 : Nat) (List.length x.acts) (lsF Ac.c x.acts), AV.v (Value.int IntKind.i64 x.view), AV.v (Value.int IntKind.u32 x.sx), AV.v (Value.int IntKind.u32
    x.sy), AV.ptr (0 : Nat) (0 : Nat), AV.ptr (3 : Nat) (0 : Nat), AV.v (Value.int IntKind.i64 x.who), AV.sb x.seen, AV.v (Value.int IntKind.i64 (↑x.i : Int)), AV.hs (5 : Nat) (0 : Nat) (2 :
    Nat), AV.v (Value.int IntKind.i64 (2 : Int)), AV.v (Value.int IntKind.i64 (↑(0 : Nat) : Int)), AV.any] ∧ LeH [some (Blk.row [AV.v (Value.int IntKind.i64 x.f), AV.v (Value.int IntKind.u32
    x.bad), AV.map (1 : Nat), AV.hs (2 : Nat) (0 : Nat) (List.length x.l)]), some (Blk.mp [Cel.int IntKind.i64, Cel.int IntKind.i64, Cel.int IntKind.i64, Cel.int IntKind.i64, Cel.int
    IntKind.i64, Cel.int IntKind.i64, Cel.int IntKind.i64, Cel.int IntKind.i64, Cel.int IntKind.i64, Cel.int IntKind.i64, Cel.int IntKind.i64] true false (List.length x.l) (hasS x.l) anyV),
    some (Blk.arr (11 : Nat) (List.length (x.l ++ x.j)) (lsF Sh.c (x.l ++ x.j))), some (Blk.row [AV.v (Value.int IntKind.i64 x.f), AV.map (4 : Nat)]), some (Blk.mp [Cel.int IntKind.i64]
    false true x.n (hasC x.gv x.sn) (valC x.f x.gv x.sn)), some (Blk.arr (1 : Nat) (2 : Nat) fun x_1 => [AV.v (Value.int IntKind.u32 (bif Nat.beq x_1 (0 : Nat) then x.sx else bif Nat.beq x_1
    (1 : Nat) then x.sy else (0 : Int)))])] [some (Blk.row [AV.v (Value.int IntKind.i64 x.f), AV.v (Value.int IntKind.u32 x.bad), AV.map (1 : Nat), AV.hs (2 : Nat) (0 : Nat) (List.length
    x.l)]), some (Blk.mp [Cel.int IntKind.i64, Cel.int IntKind.i64, Cel.int IntKind.i64, Cel.int IntKind.i64, Cel.int IntKind.i64, Cel.int IntKind.i64, Cel.int IntKind.i64, Cel.int
    IntKind.i64, Cel.int IntKind.i64, Cel.int IntKind.i64, Cel.int IntKind.i64] true false (List.length x.l) (hasS x.l) anyV), some (Blk.arr (11 : Nat) (List.length (x.l ++ x.j)) (lsF Sh.c
    (x.l ++ x.j))), some (Blk.row [AV.v (Value.int IntKind.i64 x.f), AV.map (4 : Nat)]), some (Blk.mp [Cel.int IntKind.i64] false true x.n (hasC x.gv x.sn) (valC x.f x.gv x.sn)), some
    (Blk.arr (1 : Nat) (2 : Nat) (lsF U32.c [x.sx, x.sy]))])) (Tree.leaf (Out.mk AEx.normal [AV.v (Value.int IntKind.i64 x'.f), AV.v (Value.int IntKind.u32 x'.bad), AV.sl (4 : Nat)
    (List.length x'.acts) (lsF Ac.c x'.acts), AV.v (Value.int IntKind.i64 x'.view), AV.v (Value.int IntKind.u32 x'.sx), AV.v (Value.int IntKind.u32 x'.sy), AV.ptr (0 : Nat) (0 : Nat), AV.ptr
    (3 : Nat) (0 : Nat), AV.v (Value.int IntKind.i64 x'.who), AV.sb x'.seen, AV.v (Value.int IntKind.i64 (IntKind.wrap IntKind.i64 ((↑x'.i : Int) + (1 : Int)))), AV.any] [some (Blk.row [AV.v
    (Value.int IntKind.i64 x'.f), AV.v (Value.int IntKind.u32 x'.bad), AV.map (1 : Nat), AV.hs (2 : Nat) (0 : Nat) (List.length x'.l)]), some (Blk.mp [Cel.int IntKind.i64, Cel.int
    IntKind.i64, Cel.int IntKind.i64, Cel.int IntKind.i64, Cel.int IntKind.i64, Cel.int IntKind.i64, Cel.int IntKind.i64, Cel.int IntKind.i64, Cel.int IntKind.i64, Cel.int IntKind.i64,
    Cel.int IntKind.i64] true false (List.length x'.l) (hasS x'.l) anyV), some (Blk.arr (11 : Nat) (List.length (x'.l ++ x'.j)) (lsF Sh.c (x'.l ++ x'.j))), some (Blk.row [AV.v (Value.int
    IntKind.i64 x'.f), AV.map (4 : Nat)]), some (Blk.mp [Cel.int IntKind.i64] false true x'.n (hasC x'.gv x'.sn) (valC x'.f x'.gv x'.sn))])))) (Tree.br (decide ((List.getD x.acts x.i
    default).k = (1 : Int))) Tree.fail (Tree.br (decide ((List.getD x.acts x.i default).k = (2 : Int))) Tree.fail (Tree.chk (cl (LeL [AV.v (Value.int IntKind.i64 x.f), AV.v (Value.int
    IntKind.u32 x.bad), AV.sl (4 : Nat) (List.length x.acts) (lsF Ac.c x.acts), AV.v (Value.int IntKind.i64 x.view), AV.v (Value.int IntKind.u32 x.sx), AV.v (Value.int IntKind.u32 x.sy),
    AV.ptr (0 : Nat) (0 : Nat), AV.ptr (3 : Nat) (0 : Nat), AV.v (Value.int IntKind.i64 x.who), AV.sb x.seen, AV.v (Value.int IntKind.i64 (↑x.i : Int)), AV.hs (5 : Nat) (0 : Nat) (2 : Nat),
    AV.v (Value.int IntKind.i64 (↑(2 : Nat) : Int)), AV.v (Value.int IntKind.i64 (0 : Int)), AV.any] [AV.v (Value.int IntKind.i64 x.f), AV.v (Value.int IntKind.u32 x.bad), AV.sl (4 : Nat)
    (List.length x.acts) (lsF Ac.c x.acts), AV.v (Value.int IntKind.i64 x.view), AV.v (Value.int IntKind.u32 x.sx), AV.v (Value.int IntKind.u32 x.sy), AV.ptr (0 : Nat) (0 : Nat), AV.ptr (3 :
    Nat) (0 : Nat), AV.v (Value.int IntKind.i64 x.who), AV.sb x.seen, AV.v (Value.int IntKind.i64 (↑x.i : Int)), AV.hs (5 : Nat) (0 : Nat) (2 : Nat), AV.v (Value.int IntKind.i64 (2 : Int)),
    AV.v (Value.int IntKind.i64 (↑(0 : Nat) : Int)), AV.any] ∧ LeH [some (Blk.row [AV.v (Value.int IntKind.i64 x.f), AV.v (Value.int IntKind.u32 x.bad), AV.map (1 : Nat), AV.hs (2 : Nat) (0
    : Nat) (List.length x.l)]), some (Blk.mp [Cel.int IntKind.i64, Cel.int IntKind.i64, Cel.int IntKind.i64, Cel.int IntKind.i64, Cel.int IntKind.i64, Cel.int IntKind.i64, Cel.int
    IntKind.i64, Cel.int IntKind.i64, Cel.int IntKind.i64, Cel.int IntKind.i64, Cel.int IntKind.i64] true false (List.length x.l) (hasS x.l) anyV), some (Blk.arr (11 : Nat) (List.length (x.l
    ++ x.j)) (lsF Sh.c (x.l ++ x.j))), some (Blk.row [AV.v (Value.int IntKind.i64 x.f), AV.map (4 : Nat)]), some (Blk.mp [Cel.int IntKind.i64] false true x.n (hasC x.gv x.sn) (valC x.f x.gv
    x.sn)), some (Blk.arr (1 : Nat) (2 : Nat) fun x_1 => [AV.v (Value.int IntKind.u32 (bif Nat.beq x_1 (0 : Nat) then x.sx else bif Nat.beq x_1 (1 : Nat) then x.sy else (0 : Int)))])] [some
    (Blk.row [AV.v (Value.int IntKind.i64 x.f), AV.v (Value.int IntKind.u32 x.bad), AV.map (1 : Nat), AV.hs (2 : Nat) (0 : Nat) (List.length x.l)]), some (Blk.mp [Cel.int IntKind.i64,
    Cel.int IntKind.i64, Cel.int IntKind.i64, Cel.int IntKind.i64, Cel.int IntKind.i64, Cel.int IntKind.i64, Cel.int IntKind.i64, Cel.int IntKind.i64, Cel.int IntKind.i64, Cel.int
    IntKind.i64, Cel.int IntKind.i64] true false (List.length x.l) (hasS x.l) anyV), some (Blk.arr (11 : Nat) (List.length (x.l ++ x.j)) (lsF Sh.c (x.l ++ x.j))), some (Blk.row [AV.v
    (Value.int IntKind.i64 x.f), AV.map (4 : Nat)]), some (Blk.mp [Cel.int IntKind.i64] false true x.n (hasC x.gv x.sn) (valC x.f x.gv x.sn)), some (Blk.arr (1 : Nat) (2 : Nat) (lsF U32.c
    [x.sx, x.sy]))])) (Tree.leaf (Out.mk AEx.normal [AV.v (Value.int IntKind.i64 x'.f), AV.v (Value.int IntKind.u32 x'.bad), AV.sl (4 : Nat) (List.length x'.acts) (lsF Ac.c x'.acts), AV.v
    (Value.int IntKind.i64 x'.view), AV.v (Value.int IntKind.u32 x'.sx), AV.v (Value.int IntKind.u32 x'.sy), AV.ptr (0 : Nat) (0 : Nat), AV.ptr (3 : Nat) (0 : Nat), AV.v (Value.int
    IntKind.i64 x'.who), AV.sb x'.seen, AV.v (Value.int IntKind.i64 (IntKind.wrap IntKind.i64 ((↑x'.i : Int) + (1 : Int)))), AV.any] [some (Blk.row [AV.v (Value.int IntKind.i64 x'.f), AV.v
    (Value.int IntKind.u32 x'.bad), AV.map (1 : Nat), AV.hs (2 : Nat) (0 : Nat) (List.length x'.l)]), some (Blk.mp [Cel.int IntKind.i64, Cel.int IntKind.i64, Cel.int IntKind.i64, Cel.int
    IntKind.i64, Cel.int IntKind.i64, Cel.int IntKind.i64, Cel.int IntKind.i64, Cel.int IntKind.i64, Cel.int IntKind.i64, Cel.int IntKind.i64, Cel.int IntKind.i64] true false (List.length
    x'.l) (hasS x'.l) anyV), some (Blk.arr (11 : Nat) (List.length (x'.l ++ x'.j)) (lsF Sh.c (x'.l ++ x'.j))), some (Blk.row [AV.v (Value.int IntKind.i64 x'.f), AV.map (4 : Nat)]), some
    (Blk.mp [Cel.int IntKind.i64] false true x'.n (hasC x'.gv x'.sn) (valC x'.f x'.gv x'.sn))]))))))) (Tree.leaf (Out.mk (AEx.exit (0 : Nat)) [AV.v (Value.int IntKind.i64 x.f), AV.v
    (Value.int IntKind.u32 x.bad), AV.sl (4 : Nat) (List.length x.acts) (lsF Ac.c x.acts), AV.v (Value.int IntKind.i64 x.view), AV.v (Value.int IntKind.u32 x.sx), AV.v (Value.int IntKind.u32
    x.sy), AV.ptr (0 : Nat) (0 : Nat), AV.ptr (3 : Nat) (0 : Nat), AV.v (Value.int IntKind.i64 x.who), AV.sb x.seen, AV.v (Value.int IntKind.i64 (↑x.i : Int)), AV.any] [some (Blk.row [AV.v
    (Value.int IntKind.i64 x.f), AV.v (Value.int IntKind.u32 x.bad), AV.map (1 : Nat), AV.hs (2 : Nat) (0 : Nat) (List.length x.l)]), some (Blk.mp [Cel.int IntKind.i64, Cel.int IntKind.i64,
    Cel.int IntKind.i64, Cel.int IntKind.i64, Cel.int IntKind.i64, Cel.int IntKind.i64, Cel.int IntKind.i64, Cel.int IntKind.i64, Cel.int IntKind.i64, Cel.int IntKind.i64, Cel.int
    IntKind.i64] true false (List.length x.l) (hasS x.l) anyV), some (Blk.arr (11 : Nat) (List.length (x.l ++ x.j)) (lsF Sh.c (x.l ++ x.j))), some (Blk.row [AV.v (Value.int IntKind.i64 x.f),
    AV.map (4 : Nat)]), some (Blk.mp [Cel.int IntKind.i64] false true x.n (hasC x.gv x.sn) (valC x.f x.gv x.sn))])) := by kernel_rfl
theorem ocThere (x x' : X4) (hv : ¬ badV (x.acts.getD x.i default).v) (hw : ¬ ((x.acts.getD x.i default).w < 0 ∨ timesF 3 x.f ≤ (x.acts.getD x.i default).w)) (ht : gvB x.gv (x.acts.getD x.i default).v = true ∨ snB x.sn (x.acts.getD x.i default).v = true) : roundE (P := Tryd.prog) (Γ := Γc) [CT.at 11 (ansChoThere (f := x.f) (gv := x.gv) (sn := x.sn) (n := x.n) hv hw ht)] (L41 x x') false 0 0 (lp4 0) lv41 nl41 131 (S41 x).1 (S41 x).2 =
  Tree.br (decide ((↑x.i : Int) < (↑(List.length x.acts) : Int))) (Tree.chk (decide ((0 : Int) ≤ (↑x.i : Int)) && decide ((↑x.i : Int) < (↑(List.length x.acts) : Int))) (Tree.br (decide
    ((List.getD x.acts x.i default).k = (0 : Int))) (Tree.chk (cl (LeL [AV.ptr (0 : Nat) (0 : Nat), AV.v (Value.int IntKind.i64 (List.getD x.acts x.i default).v), AV.v (Value.int IntKind.i64
    (List.getD x.acts x.i default).w)] [AV.ptr (0 : Nat) (0 : Nat), AV.v (Value.int IntKind.i64 (List.getD x.acts x.i default).v), AV.v (Value.int IntKind.i64 (List.getD x.acts x.i
    default).w)] ∧ LeH [some (Blk.row [AV.v (Value.int IntKind.i64 x.f), AV.map (1 : Nat)]), some (Blk.mp [Cel.int IntKind.i64] false true x.n (hasC x.gv x.sn) (valC x.f x.gv x.sn))] [some
    (Blk.row [AV.v (Value.int IntKind.i64 x.f), AV.map (1 : Nat)]), some (Blk.mp [Cel.int IntKind.i64] false true x.n (hasC x.gv x.sn) (valC x.f x.gv x.sn))])) (Tree.chk (cl (LeL [AV.v
    (Value.int IntKind.i64 x.f), AV.v (Value.int IntKind.u32 x.bad), AV.sl (4 : Nat) (List.length x.acts) (lsF Ac.c x.acts), AV.v (Value.int IntKind.i64 x.view), AV.v (Value.int IntKind.u32
    x.sx), AV.v (Value.int IntKind.u32 x.sy), AV.ptr (0 : Nat) (0 : Nat), AV.ptr (3 : Nat) (0 : Nat), AV.v (Value.int IntKind.i64 x.who), AV.sb x.seen, AV.v (Value.int IntKind.i64 (↑x.i :
    Int)), AV.hs (5 : Nat) (0 : Nat) (2 : Nat), AV.v (Value.int IntKind.i64 (↑(2 : Nat) : Int)), AV.v (Value.int IntKind.i64 (0 : Int)), AV.any] [AV.v (Value.int IntKind.i64 x.f), AV.v
    (Value.int IntKind.u32 x.bad), AV.sl (4 : Nat) (List.length x.acts) (lsF Ac.c x.acts), AV.v (Value.int IntKind.i64 x.view), AV.v (Value.int IntKind.u32 x.sx), AV.v (Value.int IntKind.u32
    x.sy), AV.ptr (0 : Nat) (0 : Nat), AV.ptr (3 : Nat) (0 : Nat), AV.v (Value.int IntKind.i64 x.who), AV.sb x.seen, AV.v (Value.int IntKind.i64 (↑x.i : Int)), AV.hs (5 : Nat) (0 : Nat) (2 :
    Nat), AV.v (Value.int IntKind.i64 (2 : Int)), AV.v (Value.int IntKind.i64 (↑(0 : Nat) : Int)), AV.any] ∧ LeH [some (Blk.row [AV.v (Value.int IntKind.i64 x.f), AV.v (Value.int IntKind.u32
    x.bad), AV.map (1 : Nat), AV.hs (2 : Nat) (0 : Nat) (List.length x.l)]), some (Blk.mp [Cel.int IntKind.i64, Cel.int IntKind.i64, Cel.int IntKind.i64, Cel.int IntKind.i64, Cel.int
    IntKind.i64, Cel.int IntKind.i64, Cel.int IntKind.i64, Cel.int IntKind.i64, Cel.int IntKind.i64, Cel.int IntKind.i64, Cel.int IntKind.i64] true false (List.length x.l) (hasS x.l) anyV),
    some (Blk.arr (11 : Nat) (List.length (x.l ++ x.j)) (lsF Sh.c (x.l ++ x.j))), some (Blk.row [AV.v (Value.int IntKind.i64 x.f), AV.map (4 : Nat)]), some (Blk.mp [Cel.int IntKind.i64]
    false true x.n (hasC x.gv x.sn) (valC x.f x.gv x.sn)), some (Blk.arr (1 : Nat) (2 : Nat) fun x_1 => [AV.v (Value.int IntKind.u32 (bif Nat.beq x_1 (0 : Nat) then x.sx else bif Nat.beq x_1
    (1 : Nat) then x.sy else (0 : Int)))])] [some (Blk.row [AV.v (Value.int IntKind.i64 x.f), AV.v (Value.int IntKind.u32 x.bad), AV.map (1 : Nat), AV.hs (2 : Nat) (0 : Nat) (List.length
    x.l)]), some (Blk.mp [Cel.int IntKind.i64, Cel.int IntKind.i64, Cel.int IntKind.i64, Cel.int IntKind.i64, Cel.int IntKind.i64, Cel.int IntKind.i64, Cel.int IntKind.i64, Cel.int
    IntKind.i64, Cel.int IntKind.i64, Cel.int IntKind.i64, Cel.int IntKind.i64] true false (List.length x.l) (hasS x.l) anyV), some (Blk.arr (11 : Nat) (List.length (x.l ++ x.j)) (lsF Sh.c
    (x.l ++ x.j))), some (Blk.row [AV.v (Value.int IntKind.i64 x.f), AV.map (4 : Nat)]), some (Blk.mp [Cel.int IntKind.i64] false true x.n (hasC x.gv x.sn) (valC x.f x.gv x.sn)), some
    (Blk.arr (1 : Nat) (2 : Nat) (lsF U32.c [x.sx, x.sy]))])) (Tree.leaf (Out.mk AEx.normal [AV.v (Value.int IntKind.i64 x'.f), AV.v (Value.int IntKind.u32 x'.bad), AV.sl (4 : Nat)
    (List.length x'.acts) (lsF Ac.c x'.acts), AV.v (Value.int IntKind.i64 x'.view), AV.v (Value.int IntKind.u32 x'.sx), AV.v (Value.int IntKind.u32 x'.sy), AV.ptr (0 : Nat) (0 : Nat), AV.ptr
    (3 : Nat) (0 : Nat), AV.v (Value.int IntKind.i64 x'.who), AV.sb x'.seen, AV.v (Value.int IntKind.i64 (IntKind.wrap IntKind.i64 ((↑x'.i : Int) + (1 : Int)))), AV.any] [some (Blk.row [AV.v
    (Value.int IntKind.i64 x'.f), AV.v (Value.int IntKind.u32 x'.bad), AV.map (1 : Nat), AV.hs (2 : Nat) (0 : Nat) (List.length x'.l)]), some (Blk.mp [Cel.int IntKind.i64, Cel.int
    IntKind.i64, Cel.int IntKind.i64, Cel.int IntKind.i64, Cel.int IntKind.i64, Cel.int IntKind.i64, Cel.int IntKind.i64, Cel.int IntKind.i64, Cel.int IntKind.i64, Cel.int IntKind.i64,
    Cel.int IntKind.i64] true false (List.length x'.l) (hasS x'.l) anyV), some (Blk.arr (11 : Nat) (List.length (x'.l ++ x'.j)) (lsF Sh.c (x'.l ++ x'.j))), some (Blk.row [AV.v (Value.int
    IntKind.i64 x'.f), AV.map (4 : Nat)]), some (Blk.mp [Cel.int IntKind.i64] false true x'.n (hasC x'.gv x'.sn) (valC x'.f x'.gv x'.sn))])))) (Tree.br (decide ((List.getD x.acts x.i
    default).k = (1 : Int))) Tree.fail (Tree.br (decide ((List.getD x.acts x.i default).k = (2 : Int))) Tree.fail (Tree.chk (cl (LeL [AV.v (Value.int IntKind.i64 x.f), AV.v (Value.int
    IntKind.u32 x.bad), AV.sl (4 : Nat) (List.length x.acts) (lsF Ac.c x.acts), AV.v (Value.int IntKind.i64 x.view), AV.v (Value.int IntKind.u32 x.sx), AV.v (Value.int IntKind.u32 x.sy),
    AV.ptr (0 : Nat) (0 : Nat), AV.ptr (3 : Nat) (0 : Nat), AV.v (Value.int IntKind.i64 x.who), AV.sb x.seen, AV.v (Value.int IntKind.i64 (↑x.i : Int)), AV.hs (5 : Nat) (0 : Nat) (2 : Nat),
    AV.v (Value.int IntKind.i64 (↑(2 : Nat) : Int)), AV.v (Value.int IntKind.i64 (0 : Int)), AV.any] [AV.v (Value.int IntKind.i64 x.f), AV.v (Value.int IntKind.u32 x.bad), AV.sl (4 : Nat)
    (List.length x.acts) (lsF Ac.c x.acts), AV.v (Value.int IntKind.i64 x.view), AV.v (Value.int IntKind.u32 x.sx), AV.v (Value.int IntKind.u32 x.sy), AV.ptr (0 : Nat) (0 : Nat), AV.ptr (3 :
    Nat) (0 : Nat), AV.v (Value.int IntKind.i64 x.who), AV.sb x.seen, AV.v (Value.int IntKind.i64 (↑x.i : Int)), AV.hs (5 : Nat) (0 : Nat) (2 : Nat), AV.v (Value.int IntKind.i64 (2 : Int)),
    AV.v (Value.int IntKind.i64 (↑(0 : Nat) : Int)), AV.any] ∧ LeH [some (Blk.row [AV.v (Value.int IntKind.i64 x.f), AV.v (Value.int IntKind.u32 x.bad), AV.map (1 : Nat), AV.hs (2 : Nat) (0
    : Nat) (List.length x.l)]), some (Blk.mp [Cel.int IntKind.i64, Cel.int IntKind.i64, Cel.int IntKind.i64, Cel.int IntKind.i64, Cel.int IntKind.i64, Cel.int IntKind.i64, Cel.int
    IntKind.i64, Cel.int IntKind.i64, Cel.int IntKind.i64, Cel.int IntKind.i64, Cel.int IntKind.i64] true false (List.length x.l) (hasS x.l) anyV), some (Blk.arr (11 : Nat) (List.length (x.l
    ++ x.j)) (lsF Sh.c (x.l ++ x.j))), some (Blk.row [AV.v (Value.int IntKind.i64 x.f), AV.map (4 : Nat)]), some (Blk.mp [Cel.int IntKind.i64] false true x.n (hasC x.gv x.sn) (valC x.f x.gv
    x.sn)), some (Blk.arr (1 : Nat) (2 : Nat) fun x_1 => [AV.v (Value.int IntKind.u32 (bif Nat.beq x_1 (0 : Nat) then x.sx else bif Nat.beq x_1 (1 : Nat) then x.sy else (0 : Int)))])] [some
    (Blk.row [AV.v (Value.int IntKind.i64 x.f), AV.v (Value.int IntKind.u32 x.bad), AV.map (1 : Nat), AV.hs (2 : Nat) (0 : Nat) (List.length x.l)]), some (Blk.mp [Cel.int IntKind.i64,
    Cel.int IntKind.i64, Cel.int IntKind.i64, Cel.int IntKind.i64, Cel.int IntKind.i64, Cel.int IntKind.i64, Cel.int IntKind.i64, Cel.int IntKind.i64, Cel.int IntKind.i64, Cel.int
    IntKind.i64, Cel.int IntKind.i64] true false (List.length x.l) (hasS x.l) anyV), some (Blk.arr (11 : Nat) (List.length (x.l ++ x.j)) (lsF Sh.c (x.l ++ x.j))), some (Blk.row [AV.v
    (Value.int IntKind.i64 x.f), AV.map (4 : Nat)]), some (Blk.mp [Cel.int IntKind.i64] false true x.n (hasC x.gv x.sn) (valC x.f x.gv x.sn)), some (Blk.arr (1 : Nat) (2 : Nat) (lsF U32.c
    [x.sx, x.sy]))])) (Tree.leaf (Out.mk AEx.normal [AV.v (Value.int IntKind.i64 x'.f), AV.v (Value.int IntKind.u32 x'.bad), AV.sl (4 : Nat) (List.length x'.acts) (lsF Ac.c x'.acts), AV.v
    (Value.int IntKind.i64 x'.view), AV.v (Value.int IntKind.u32 x'.sx), AV.v (Value.int IntKind.u32 x'.sy), AV.ptr (0 : Nat) (0 : Nat), AV.ptr (3 : Nat) (0 : Nat), AV.v (Value.int
    IntKind.i64 x'.who), AV.sb x'.seen, AV.v (Value.int IntKind.i64 (IntKind.wrap IntKind.i64 ((↑x'.i : Int) + (1 : Int)))), AV.any] [some (Blk.row [AV.v (Value.int IntKind.i64 x'.f), AV.v
    (Value.int IntKind.u32 x'.bad), AV.map (1 : Nat), AV.hs (2 : Nat) (0 : Nat) (List.length x'.l)]), some (Blk.mp [Cel.int IntKind.i64, Cel.int IntKind.i64, Cel.int IntKind.i64, Cel.int
    IntKind.i64, Cel.int IntKind.i64, Cel.int IntKind.i64, Cel.int IntKind.i64, Cel.int IntKind.i64, Cel.int IntKind.i64, Cel.int IntKind.i64, Cel.int IntKind.i64] true false (List.length
    x'.l) (hasS x'.l) anyV), some (Blk.arr (11 : Nat) (List.length (x'.l ++ x'.j)) (lsF Sh.c (x'.l ++ x'.j))), some (Blk.row [AV.v (Value.int IntKind.i64 x'.f), AV.map (4 : Nat)]), some
    (Blk.mp [Cel.int IntKind.i64] false true x'.n (hasC x'.gv x'.sn) (valC x'.f x'.gv x'.sn))]))))))) (Tree.leaf (Out.mk (AEx.exit (0 : Nat)) [AV.v (Value.int IntKind.i64 x.f), AV.v
    (Value.int IntKind.u32 x.bad), AV.sl (4 : Nat) (List.length x.acts) (lsF Ac.c x.acts), AV.v (Value.int IntKind.i64 x.view), AV.v (Value.int IntKind.u32 x.sx), AV.v (Value.int IntKind.u32
    x.sy), AV.ptr (0 : Nat) (0 : Nat), AV.ptr (3 : Nat) (0 : Nat), AV.v (Value.int IntKind.i64 x.who), AV.sb x.seen, AV.v (Value.int IntKind.i64 (↑x.i : Int)), AV.any] [some (Blk.row [AV.v
    (Value.int IntKind.i64 x.f), AV.v (Value.int IntKind.u32 x.bad), AV.map (1 : Nat), AV.hs (2 : Nat) (0 : Nat) (List.length x.l)]), some (Blk.mp [Cel.int IntKind.i64, Cel.int IntKind.i64,
    Cel.int IntKind.i64, Cel.int IntKind.i64, Cel.int IntKind.i64, Cel.int IntKind.i64, Cel.int IntKind.i64, Cel.int IntKind.i64, Cel.int IntKind.i64, Cel.int IntKind.i64, Cel.int
    IntKind.i64] true false (List.length x.l) (hasS x.l) anyV), some (Blk.arr (11 : Nat) (List.length (x.l ++ x.j)) (lsF Sh.c (x.l ++ x.j))), some (Blk.row [AV.v (Value.int IntKind.i64 x.f),
    AV.map (4 : Nat)]), some (Blk.mp [Cel.int IntKind.i64] false true x.n (hasC x.gv x.sn) (valC x.f x.gv x.sn))])) := by kernel_rfl
theorem ocNew (x x' : X4) (hv : ¬ badV (x.acts.getD x.i default).v) (hw : ¬ ((x.acts.getD x.i default).w < 0 ∨ timesF 3 x.f ≤ (x.acts.getD x.i default).w)) (h1 : gvB x.gv (x.acts.getD x.i default).v = false) (h2 : snB x.sn (x.acts.getD x.i default).v = false) : roundE (P := Tryd.prog) (Γ := Γc) [CT.at 11 (ansChoNew (f := x.f) (gv := x.gv) (sn := x.sn) (n := x.n) hv hw h1 h2)] (L41 ({ x with gv := x.gv ++ [giv (x.acts.getD x.i default).w (x.acts.getD x.i default).v], n := x.n + 1 }) x') false 0 0 (lp4 0) lv41 nl41 131 (S41 x).1 (S41 x).2 =
  Tree.br (decide ((↑x.i : Int) < (↑(List.length x.acts) : Int))) (Tree.chk (decide ((0 : Int) ≤ (↑x.i : Int)) && decide ((↑x.i : Int) < (↑(List.length x.acts) : Int))) (Tree.br (decide
    ((List.getD x.acts x.i default).k = (0 : Int))) (Tree.chk (cl (LeL [AV.ptr (0 : Nat) (0 : Nat), AV.v (Value.int IntKind.i64 (List.getD x.acts x.i default).v), AV.v (Value.int IntKind.i64
    (List.getD x.acts x.i default).w)] [AV.ptr (0 : Nat) (0 : Nat), AV.v (Value.int IntKind.i64 (List.getD x.acts x.i default).v), AV.v (Value.int IntKind.i64 (List.getD x.acts x.i
    default).w)] ∧ LeH [some (Blk.row [AV.v (Value.int IntKind.i64 x.f), AV.map (1 : Nat)]), some (Blk.mp [Cel.int IntKind.i64] false true x.n (hasC x.gv x.sn) (valC x.f x.gv x.sn))] [some
    (Blk.row [AV.v (Value.int IntKind.i64 x.f), AV.map (1 : Nat)]), some (Blk.mp [Cel.int IntKind.i64] false true x.n (hasC x.gv x.sn) (valC x.f x.gv x.sn))])) (Tree.chk (cl (LeL [AV.v
    (Value.int IntKind.i64 x.f), AV.v (Value.int IntKind.u32 x.bad), AV.sl (4 : Nat) (List.length x.acts) (lsF Ac.c x.acts), AV.v (Value.int IntKind.i64 x.view), AV.v (Value.int IntKind.u32
    x.sx), AV.v (Value.int IntKind.u32 x.sy), AV.ptr (0 : Nat) (0 : Nat), AV.ptr (3 : Nat) (0 : Nat), AV.v (Value.int IntKind.i64 x.who), AV.sb x.seen, AV.v (Value.int IntKind.i64 (↑x.i :
    Int)), AV.hs (5 : Nat) (0 : Nat) (2 : Nat), AV.v (Value.int IntKind.i64 (↑(2 : Nat) : Int)), AV.v (Value.int IntKind.i64 (0 : Int)), AV.any] [AV.v (Value.int IntKind.i64 x.f), AV.v
    (Value.int IntKind.u32 x.bad), AV.sl (4 : Nat) (List.length (X4.mk x.f x.bad x.acts x.view x.sx x.sy x.l x.j (x.gv ++ [giv (List.getD x.acts x.i default).w (List.getD x.acts x.i
    default).v]) x.sn (x.n + (1 : Nat)) x.who x.seen x.i).acts) (lsF Ac.c (X4.mk x.f x.bad x.acts x.view x.sx x.sy x.l x.j (x.gv ++ [giv (List.getD x.acts x.i default).w (List.getD x.acts
    x.i default).v]) x.sn (x.n + (1 : Nat)) x.who x.seen x.i).acts), AV.v (Value.int IntKind.i64 x.view), AV.v (Value.int IntKind.u32 x.sx), AV.v (Value.int IntKind.u32 x.sy), AV.ptr (0 :
    Nat) (0 : Nat), AV.ptr (3 : Nat) (0 : Nat), AV.v (Value.int IntKind.i64 x.who), AV.sb x.seen, AV.v (Value.int IntKind.i64 (↑x.i : Int)), AV.hs (5 : Nat) (0 : Nat) (2 : Nat), AV.v
    (Value.int IntKind.i64 (2 : Int)), AV.v (Value.int IntKind.i64 (↑(0 : Nat) : Int)), AV.any] ∧ LeH [some (Blk.row [AV.v (Value.int IntKind.i64 x.f), AV.v (Value.int IntKind.u32 x.bad),
    AV.map (1 : Nat), AV.hs (2 : Nat) (0 : Nat) (List.length x.l)]), some (Blk.mp [Cel.int IntKind.i64, Cel.int IntKind.i64, Cel.int IntKind.i64, Cel.int IntKind.i64, Cel.int IntKind.i64,
    Cel.int IntKind.i64, Cel.int IntKind.i64, Cel.int IntKind.i64, Cel.int IntKind.i64, Cel.int IntKind.i64, Cel.int IntKind.i64] true false (List.length x.l) (hasS x.l) anyV), some (Blk.arr
    (11 : Nat) (List.length (x.l ++ x.j)) (lsF Sh.c (x.l ++ x.j))), some (Blk.row [AV.v (Value.int IntKind.i64 x.f), AV.map (4 : Nat)]), some (Blk.mp [Cel.int IntKind.i64] false true (x.n +
    (1 : Nat)) (hasC (x.gv ++ [giv (List.getD x.acts x.i default).w (List.getD x.acts x.i default).v]) x.sn) (valC x.f (x.gv ++ [giv (List.getD x.acts x.i default).w (List.getD x.acts x.i
    default).v]) x.sn)), some (Blk.arr (1 : Nat) (2 : Nat) fun x_1 => [AV.v (Value.int IntKind.u32 (bif Nat.beq x_1 (0 : Nat) then x.sx else bif Nat.beq x_1 (1 : Nat) then x.sy else (0 :
    Int)))])] [some (Blk.row [AV.v (Value.int IntKind.i64 x.f), AV.v (Value.int IntKind.u32 x.bad), AV.map (1 : Nat), AV.hs (2 : Nat) (0 : Nat) (List.length (X4.mk x.f x.bad x.acts x.view
    x.sx x.sy x.l x.j (x.gv ++ [giv (List.getD x.acts x.i default).w (List.getD x.acts x.i default).v]) x.sn (x.n + (1 : Nat)) x.who x.seen x.i).l)]), some (Blk.mp [Cel.int IntKind.i64,
    Cel.int IntKind.i64, Cel.int IntKind.i64, Cel.int IntKind.i64, Cel.int IntKind.i64, Cel.int IntKind.i64, Cel.int IntKind.i64, Cel.int IntKind.i64, Cel.int IntKind.i64, Cel.int
    IntKind.i64, Cel.int IntKind.i64] true false (List.length (X4.mk x.f x.bad x.acts x.view x.sx x.sy x.l x.j (x.gv ++ [giv (List.getD x.acts x.i default).w (List.getD x.acts x.i
    default).v]) x.sn (x.n + (1 : Nat)) x.who x.seen x.i).l) (hasS (X4.mk x.f x.bad x.acts x.view x.sx x.sy x.l x.j (x.gv ++ [giv (List.getD x.acts x.i default).w (List.getD x.acts x.i
    default).v]) x.sn (x.n + (1 : Nat)) x.who x.seen x.i).l) anyV), some (Blk.arr (11 : Nat) (List.length ((X4.mk x.f x.bad x.acts x.view x.sx x.sy x.l x.j (x.gv ++ [giv (List.getD x.acts
    x.i default).w (List.getD x.acts x.i default).v]) x.sn (x.n + (1 : Nat)) x.who x.seen x.i).l ++ (X4.mk x.f x.bad x.acts x.view x.sx x.sy x.l x.j (x.gv ++ [giv (List.getD x.acts x.i
    default).w (List.getD x.acts x.i default).v]) x.sn (x.n + (1 : Nat)) x.who x.seen x.i).j)) (lsF Sh.c ((X4.mk x.f x.bad x.acts x.view x.sx x.sy x.l x.j (x.gv ++ [giv (List.getD x.acts x.i
    default).w (List.getD x.acts x.i default).v]) x.sn (x.n + (1 : Nat)) x.who x.seen x.i).l ++ (X4.mk x.f x.bad x.acts x.view x.sx x.sy x.l x.j (x.gv ++ [giv (List.getD x.acts x.i
    default).w (List.getD x.acts x.i default).v]) x.sn (x.n + (1 : Nat)) x.who x.seen x.i).j))), some (Blk.row [AV.v (Value.int IntKind.i64 x.f), AV.map (4 : Nat)]), some (Blk.mp [Cel.int
    IntKind.i64] false true (x.n + (1 : Nat)) (hasC (X4.mk x.f x.bad x.acts x.view x.sx x.sy x.l x.j (x.gv ++ [giv (List.getD x.acts x.i default).w (List.getD x.acts x.i default).v]) x.sn
    (x.n + (1 : Nat)) x.who x.seen x.i).gv (X4.mk x.f x.bad x.acts x.view x.sx x.sy x.l x.j (x.gv ++ [giv (List.getD x.acts x.i default).w (List.getD x.acts x.i default).v]) x.sn (x.n + (1 :
    Nat)) x.who x.seen x.i).sn) (valC (X4.mk x.f x.bad x.acts x.view x.sx x.sy x.l x.j (x.gv ++ [giv (List.getD x.acts x.i default).w (List.getD x.acts x.i default).v]) x.sn (x.n + (1 :
    Nat)) x.who x.seen x.i).f (X4.mk x.f x.bad x.acts x.view x.sx x.sy x.l x.j (x.gv ++ [giv (List.getD x.acts x.i default).w (List.getD x.acts x.i default).v]) x.sn (x.n + (1 : Nat)) x.who
    x.seen x.i).gv (X4.mk x.f x.bad x.acts x.view x.sx x.sy x.l x.j (x.gv ++ [giv (List.getD x.acts x.i default).w (List.getD x.acts x.i default).v]) x.sn (x.n + (1 : Nat)) x.who x.seen
    x.i).sn)), some (Blk.arr (1 : Nat) (2 : Nat) (lsF U32.c [(X4.mk x.f x.bad x.acts x.view x.sx x.sy x.l x.j (x.gv ++ [giv (List.getD x.acts x.i default).w (List.getD x.acts x.i
    default).v]) x.sn (x.n + (1 : Nat)) x.who x.seen x.i).sx, (X4.mk x.f x.bad x.acts x.view x.sx x.sy x.l x.j (x.gv ++ [giv (List.getD x.acts x.i default).w (List.getD x.acts x.i
    default).v]) x.sn (x.n + (1 : Nat)) x.who x.seen x.i).sy]))])) (Tree.leaf (Out.mk AEx.normal [AV.v (Value.int IntKind.i64 x'.f), AV.v (Value.int IntKind.u32 x'.bad), AV.sl (4 : Nat)
    (List.length x'.acts) (lsF Ac.c x'.acts), AV.v (Value.int IntKind.i64 x'.view), AV.v (Value.int IntKind.u32 x'.sx), AV.v (Value.int IntKind.u32 x'.sy), AV.ptr (0 : Nat) (0 : Nat), AV.ptr
    (3 : Nat) (0 : Nat), AV.v (Value.int IntKind.i64 x'.who), AV.sb x'.seen, AV.v (Value.int IntKind.i64 (IntKind.wrap IntKind.i64 ((↑x'.i : Int) + (1 : Int)))), AV.any] [some (Blk.row [AV.v
    (Value.int IntKind.i64 x'.f), AV.v (Value.int IntKind.u32 x'.bad), AV.map (1 : Nat), AV.hs (2 : Nat) (0 : Nat) (List.length x'.l)]), some (Blk.mp [Cel.int IntKind.i64, Cel.int
    IntKind.i64, Cel.int IntKind.i64, Cel.int IntKind.i64, Cel.int IntKind.i64, Cel.int IntKind.i64, Cel.int IntKind.i64, Cel.int IntKind.i64, Cel.int IntKind.i64, Cel.int IntKind.i64,
    Cel.int IntKind.i64] true false (List.length x'.l) (hasS x'.l) anyV), some (Blk.arr (11 : Nat) (List.length (x'.l ++ x'.j)) (lsF Sh.c (x'.l ++ x'.j))), some (Blk.row [AV.v (Value.int
    IntKind.i64 x'.f), AV.map (4 : Nat)]), some (Blk.mp [Cel.int IntKind.i64] false true x'.n (hasC x'.gv x'.sn) (valC x'.f x'.gv x'.sn))])))) (Tree.br (decide ((List.getD x.acts x.i
    default).k = (1 : Int))) Tree.fail (Tree.br (decide ((List.getD x.acts x.i default).k = (2 : Int))) Tree.fail (Tree.chk (cl (LeL [AV.v (Value.int IntKind.i64 x.f), AV.v (Value.int
    IntKind.u32 x.bad), AV.sl (4 : Nat) (List.length x.acts) (lsF Ac.c x.acts), AV.v (Value.int IntKind.i64 x.view), AV.v (Value.int IntKind.u32 x.sx), AV.v (Value.int IntKind.u32 x.sy),
    AV.ptr (0 : Nat) (0 : Nat), AV.ptr (3 : Nat) (0 : Nat), AV.v (Value.int IntKind.i64 x.who), AV.sb x.seen, AV.v (Value.int IntKind.i64 (↑x.i : Int)), AV.hs (5 : Nat) (0 : Nat) (2 : Nat),
    AV.v (Value.int IntKind.i64 (↑(2 : Nat) : Int)), AV.v (Value.int IntKind.i64 (0 : Int)), AV.any] [AV.v (Value.int IntKind.i64 x.f), AV.v (Value.int IntKind.u32 x.bad), AV.sl (4 : Nat)
    (List.length (X4.mk x.f x.bad x.acts x.view x.sx x.sy x.l x.j (x.gv ++ [giv (List.getD x.acts x.i default).w (List.getD x.acts x.i default).v]) x.sn (x.n + (1 : Nat)) x.who x.seen
    x.i).acts) (lsF Ac.c (X4.mk x.f x.bad x.acts x.view x.sx x.sy x.l x.j (x.gv ++ [giv (List.getD x.acts x.i default).w (List.getD x.acts x.i default).v]) x.sn (x.n + (1 : Nat)) x.who
    x.seen x.i).acts), AV.v (Value.int IntKind.i64 x.view), AV.v (Value.int IntKind.u32 x.sx), AV.v (Value.int IntKind.u32 x.sy), AV.ptr (0 : Nat) (0 : Nat), AV.ptr (3 : Nat) (0 : Nat), AV.v
    (Value.int IntKind.i64 x.who), AV.sb x.seen, AV.v (Value.int IntKind.i64 (↑x.i : Int)), AV.hs (5 : Nat) (0 : Nat) (2 : Nat), AV.v (Value.int IntKind.i64 (2 : Int)), AV.v (Value.int
    IntKind.i64 (↑(0 : Nat) : Int)), AV.any] ∧ LeH [some (Blk.row [AV.v (Value.int IntKind.i64 x.f), AV.v (Value.int IntKind.u32 x.bad), AV.map (1 : Nat), AV.hs (2 : Nat) (0 : Nat)
    (List.length x.l)]), some (Blk.mp [Cel.int IntKind.i64, Cel.int IntKind.i64, Cel.int IntKind.i64, Cel.int IntKind.i64, Cel.int IntKind.i64, Cel.int IntKind.i64, Cel.int IntKind.i64,
    Cel.int IntKind.i64, Cel.int IntKind.i64, Cel.int IntKind.i64, Cel.int IntKind.i64] true false (List.length x.l) (hasS x.l) anyV), some (Blk.arr (11 : Nat) (List.length (x.l ++ x.j))
    (lsF Sh.c (x.l ++ x.j))), some (Blk.row [AV.v (Value.int IntKind.i64 x.f), AV.map (4 : Nat)]), some (Blk.mp [Cel.int IntKind.i64] false true x.n (hasC x.gv x.sn) (valC x.f x.gv x.sn)),
    some (Blk.arr (1 : Nat) (2 : Nat) fun x_1 => [AV.v (Value.int IntKind.u32 (bif Nat.beq x_1 (0 : Nat) then x.sx else bif Nat.beq x_1 (1 : Nat) then x.sy else (0 : Int)))])] [some (Blk.row
    [AV.v (Value.int IntKind.i64 x.f), AV.v (Value.int IntKind.u32 x.bad), AV.map (1 : Nat), AV.hs (2 : Nat) (0 : Nat) (List.length (X4.mk x.f x.bad x.acts x.view x.sx x.sy x.l x.j (x.gv ++
    [giv (List.getD x.acts x.i default).w (List.getD x.acts x.i default).v]) x.sn (x.n + (1 : Nat)) x.who x.seen x.i).l)]), some (Blk.mp [Cel.int IntKind.i64, Cel.int IntKind.i64, Cel.int
    IntKind.i64, Cel.int IntKind.i64, Cel.int IntKind.i64, Cel.int IntKind.i64, Cel.int IntKind.i64, Cel.int IntKind.i64, Cel.int IntKind.i64, Cel.int IntKind.i64, Cel.int IntKind.i64] true
    false (List.length (X4.mk x.f x.bad x.acts x.view x.sx x.sy x.l x.j (x.gv ++ [giv (List.getD x.acts x.i default).w (List.getD x.acts x.i default).v]) x.sn (x.n + (1 : Nat)) x.who x.seen
    x.i).l) (hasS (X4.mk x.f x.bad x.acts x.view x.sx x.sy x.l x.j (x.gv ++ [giv (List.getD x.acts x.i default).w (List.getD x.acts x.i default).v]) x.sn (x.n + (1 : Nat)) x.who x.seen
    x.i).l) anyV), some (Blk.arr (11 : Nat) (List.length ((X4.mk x.f x.bad x.acts x.view x.sx x.sy x.l x.j (x.gv ++ [giv (List.getD x.acts x.i default).w (List.getD x.acts x.i default).v])
    x.sn (x.n + (1 : Nat)) x.who x.seen x.i).l ++ (X4.mk x.f x.bad x.acts x.view x.sx x.sy x.l x.j (x.gv ++ [giv (List.getD x.acts x.i default).w (List.getD x.acts x.i default).v]) x.sn (x.n
    + (1 : Nat)) x.who x.seen x.i).j)) (lsF Sh.c ((X4.mk x.f x.bad x.acts x.view x.sx x.sy x.l x.j (x.gv ++ [giv (List.getD x.acts x.i default).w (List.getD x.acts x.i default).v]) x.sn (x.n
    + (1 : Nat)) x.who x.seen x.i).l ++ (X4.mk x.f x.bad x.acts x.view x.sx x.sy x.l x.j (x.gv ++ [giv (List.getD x.acts x.i default).w (List.getD x.acts x.i default).v]) x.sn (x.n + (1 :
    Nat)) x.who x.seen x.i).j))), some (Blk.row [AV.v (Value.int IntKind.i64 x.f), AV.map (4 : Nat)]), some (Blk.mp [Cel.int IntKind.i64] false true (x.n + (1 : Nat)) (hasC (X4.mk x.f x.bad
    x.acts x.view x.sx x.sy x.l x.j (x.gv ++ [giv (List.getD x.acts x.i default).w (List.getD x.acts x.i default).v]) x.sn (x.n + (1 : Nat)) x.who x.seen x.i).gv (X4.mk x.f x.bad x.acts
    x.view x.sx x.sy x.l x.j (x.gv ++ [giv (List.getD x.acts x.i default).w (List.getD x.acts x.i default).v]) x.sn (x.n + (1 : Nat)) x.who x.seen x.i).sn) (valC (X4.mk x.f x.bad x.acts
    x.view x.sx x.sy x.l x.j (x.gv ++ [giv (List.getD x.acts x.i default).w (List.getD x.acts x.i default).v]) x.sn (x.n + (1 : Nat)) x.who x.seen x.i).f (X4.mk x.f x.bad x.acts x.view x.sx
    x.sy x.l x.j (x.gv ++ [giv (List.getD x.acts x.i default).w (List.getD x.acts x.i default).v]) x.sn (x.n + (1 : Nat)) x.who x.seen x.i).gv (X4.mk x.f x.bad x.acts x.view x.sx x.sy x.l
    x.j (x.gv ++ [giv (List.getD x.acts x.i default).w (List.getD x.acts x.i default).v]) x.sn (x.n + (1 : Nat)) x.who x.seen x.i).sn)), some (Blk.arr (1 : Nat) (2 : Nat) (lsF U32.c [(X4.mk
    x.f x.bad x.acts x.view x.sx x.sy x.l x.j (x.gv ++ [giv (List.getD x.acts x.i default).w (List.getD x.acts x.i default).v]) x.sn (x.n + (1 : Nat)) x.who x.seen x.i).sx, (X4.mk x.f x.bad
    x.acts x.view x.sx x.sy x.l x.j (x.gv ++ [giv (List.getD x.acts x.i default).w (List.getD x.acts x.i default).v]) x.sn (x.n + (1 : Nat)) x.who x.seen x.i).sy]))])) (Tree.leaf (Out.mk
    AEx.normal [AV.v (Value.int IntKind.i64 x'.f), AV.v (Value.int IntKind.u32 x'.bad), AV.sl (4 : Nat) (List.length x'.acts) (lsF Ac.c x'.acts), AV.v (Value.int IntKind.i64 x'.view), AV.v
    (Value.int IntKind.u32 x'.sx), AV.v (Value.int IntKind.u32 x'.sy), AV.ptr (0 : Nat) (0 : Nat), AV.ptr (3 : Nat) (0 : Nat), AV.v (Value.int IntKind.i64 x'.who), AV.sb x'.seen, AV.v
    (Value.int IntKind.i64 (IntKind.wrap IntKind.i64 ((↑x'.i : Int) + (1 : Int)))), AV.any] [some (Blk.row [AV.v (Value.int IntKind.i64 x'.f), AV.v (Value.int IntKind.u32 x'.bad), AV.map (1
    : Nat), AV.hs (2 : Nat) (0 : Nat) (List.length x'.l)]), some (Blk.mp [Cel.int IntKind.i64, Cel.int IntKind.i64, Cel.int IntKind.i64, Cel.int IntKind.i64, Cel.int IntKind.i64, Cel.int
    IntKind.i64, Cel.int IntKind.i64, Cel.int IntKind.i64, Cel.int IntKind.i64, Cel.int IntKind.i64, Cel.int IntKind.i64] true false (List.length x'.l) (hasS x'.l) anyV), some (Blk.arr (11 :
    Nat) (List.length (x'.l ++ x'.j)) (lsF Sh.c (x'.l ++ x'.j))), some (Blk.row [AV.v (Value.int IntKind.i64 x'.f), AV.map (4 : Nat)]), some (Blk.mp [Cel.int IntKind.i64] false true x'.n
    (hasC x'.gv x'.sn) (valC x'.f x'.gv x'.sn))]))))))) (Tree.leaf (Out.mk (AEx.exit (0 : Nat)) [AV.v (Value.int IntKind.i64 x.f), AV.v (Value.int IntKind.u32 x.bad), AV.sl (4 : Nat)
    (List.length x.acts) (lsF Ac.c x.acts), AV.v (Value.int IntKind.i64 x.view), AV.v (Value.int IntKind.u32 x.sx), AV.v (Value.int IntKind.u32 x.sy), AV.ptr (0 : Nat) (0 : Nat), AV.ptr (3 :
    Nat) (0 : Nat), AV.v (Value.int IntKind.i64 x.who), AV.sb x.seen, AV.v (Value.int IntKind.i64 (↑x.i : Int)), AV.any] [some (Blk.row [AV.v (Value.int IntKind.i64 x.f), AV.v (Value.int
    IntKind.u32 x.bad), AV.map (1 : Nat), AV.hs (2 : Nat) (0 : Nat) (List.length x.l)]), some (Blk.mp [Cel.int IntKind.i64, Cel.int IntKind.i64, Cel.int IntKind.i64, Cel.int IntKind.i64,
    Cel.int IntKind.i64, Cel.int IntKind.i64, Cel.int IntKind.i64, Cel.int IntKind.i64, Cel.int IntKind.i64, Cel.int IntKind.i64, Cel.int IntKind.i64] true false (List.length x.l) (hasS x.l)
    anyV), some (Blk.arr (11 : Nat) (List.length (x.l ++ x.j)) (lsF Sh.c (x.l ++ x.j))), some (Blk.row [AV.v (Value.int IntKind.i64 x.f), AV.map (4 : Nat)]), some (Blk.mp [Cel.int
    IntKind.i64] false true x.n (hasC x.gv x.sn) (valC x.f x.gv x.sn))])) := by kernel_rfl
theorem os70 (x x' : X4) (hv : badV (x.acts.getD x.i default).v) : roundE (P := Tryd.prog) (Γ := Γc) [CT.at 13 (ansSee70 (s := (x.acts.getD x.i default).set) (f := x.f) (gv := x.gv) (sn := x.sn) (n := x.n) (l := x.l) (j := x.j) (o := x.f) (bad := x.bad) hv)] (L41 x x') false 0 0 (lp4 0) lv41 nl41 131 (S41 x).1 (S41 x).2 =
  Tree.br (decide ((↑x.i : Int) < (↑(List.length x.acts) : Int))) (Tree.chk (decide ((0 : Int) ≤ (↑x.i : Int)) && decide ((↑x.i : Int) < (↑(List.length x.acts) : Int))) (Tree.br (decide
    ((List.getD x.acts x.i default).k = (0 : Int))) Tree.fail (Tree.br (decide ((List.getD x.acts x.i default).k = (1 : Int))) (Tree.chk (cl (LeL [AV.ptr (0 : Nat) (0 : Nat), AV.ptr (2 :
    Nat) (0 : Nat), AV.v (Value.int IntKind.i64 (List.getD x.acts x.i default).v), AV.v (Value.int IntKind.u32 (List.getD x.acts x.i default).set)] [AV.ptr (0 : Nat) (0 : Nat), AV.ptr (2 :
    Nat) (0 : Nat), AV.v (Value.int IntKind.i64 (List.getD x.acts x.i default).v), AV.v (Value.int IntKind.u32 (List.getD x.acts x.i default).set)] ∧ LeH [some (Blk.row [AV.v (Value.int
    IntKind.i64 x.f), AV.map (1 : Nat)]), some (Blk.mp [Cel.int IntKind.i64] false true x.n (hasC x.gv x.sn) (valC x.f x.gv x.sn)), some (Blk.row [AV.v (Value.int IntKind.i64 x.f), AV.v
    (Value.int IntKind.u32 x.bad), AV.map (3 : Nat), AV.hs (4 : Nat) (0 : Nat) (List.length x.l)]), some (Blk.mp [Cel.int IntKind.i64, Cel.int IntKind.i64, Cel.int IntKind.i64, Cel.int
    IntKind.i64, Cel.int IntKind.i64, Cel.int IntKind.i64, Cel.int IntKind.i64, Cel.int IntKind.i64, Cel.int IntKind.i64, Cel.int IntKind.i64, Cel.int IntKind.i64] true false (List.length
    x.l) (hasS x.l) anyV), some (Blk.arr (11 : Nat) (List.length (x.l ++ x.j)) (lsF Sh.c (x.l ++ x.j)))] [some (Blk.row [AV.v (Value.int IntKind.i64 x.f), AV.map (1 : Nat)]), some (Blk.mp
    [Cel.int IntKind.i64] false true x.n (hasC x.gv x.sn) (valC x.f x.gv x.sn)), some (Blk.row [AV.v (Value.int IntKind.i64 x.f), AV.v (Value.int IntKind.u32 x.bad), AV.map (3 : Nat), AV.hs
    (4 : Nat) (0 : Nat) (List.length x.l)]), some (Blk.mp [Cel.int IntKind.i64, Cel.int IntKind.i64, Cel.int IntKind.i64, Cel.int IntKind.i64, Cel.int IntKind.i64, Cel.int IntKind.i64,
    Cel.int IntKind.i64, Cel.int IntKind.i64, Cel.int IntKind.i64, Cel.int IntKind.i64, Cel.int IntKind.i64] true false (List.length x.l) (hasS x.l) anyV), some (Blk.arr (11 : Nat)
    (List.length (x.l ++ x.j)) (lsF Sh.c (x.l ++ x.j)))])) (Tree.chk (cl (LeL [AV.v (Value.int IntKind.i64 x.f), AV.v (Value.int IntKind.u32 x.bad), AV.sl (4 : Nat) (List.length x.acts) (lsF
    Ac.c x.acts), AV.v (Value.int IntKind.i64 x.view), AV.v (Value.int IntKind.u32 x.sx), AV.v (Value.int IntKind.u32 x.sy), AV.ptr (0 : Nat) (0 : Nat), AV.ptr (3 : Nat) (0 : Nat), AV.v
    (Value.int IntKind.i64 x.who), AV.sb x.seen, AV.v (Value.int IntKind.i64 (↑x.i : Int)), AV.hs (5 : Nat) (0 : Nat) (2 : Nat), AV.v (Value.int IntKind.i64 (↑(2 : Nat) : Int)), AV.v
    (Value.int IntKind.i64 (0 : Int)), AV.any] [AV.v (Value.int IntKind.i64 x.f), AV.v (Value.int IntKind.u32 x.bad), AV.sl (4 : Nat) (List.length x.acts) (lsF Ac.c x.acts), AV.v (Value.int
    IntKind.i64 x.view), AV.v (Value.int IntKind.u32 x.sx), AV.v (Value.int IntKind.u32 x.sy), AV.ptr (0 : Nat) (0 : Nat), AV.ptr (3 : Nat) (0 : Nat), AV.v (Value.int IntKind.i64 x.who),
    AV.sb x.seen, AV.v (Value.int IntKind.i64 (↑x.i : Int)), AV.hs (5 : Nat) (0 : Nat) (2 : Nat), AV.v (Value.int IntKind.i64 (2 : Int)), AV.v (Value.int IntKind.i64 (↑(0 : Nat) : Int)),
    AV.any] ∧ LeH [some (Blk.row [AV.v (Value.int IntKind.i64 x.f), AV.v (Value.int IntKind.u32 x.bad), AV.map (1 : Nat), AV.hs (2 : Nat) (0 : Nat) (List.length x.l)]), some (Blk.mp [Cel.int
    IntKind.i64, Cel.int IntKind.i64, Cel.int IntKind.i64, Cel.int IntKind.i64, Cel.int IntKind.i64, Cel.int IntKind.i64, Cel.int IntKind.i64, Cel.int IntKind.i64, Cel.int IntKind.i64,
    Cel.int IntKind.i64, Cel.int IntKind.i64] true false (List.length x.l) (hasS x.l) anyV), some (Blk.arr (11 : Nat) (List.length (x.l ++ x.j)) (lsF Sh.c (x.l ++ x.j))), some (Blk.row [AV.v
    (Value.int IntKind.i64 x.f), AV.map (4 : Nat)]), some (Blk.mp [Cel.int IntKind.i64] false true x.n (hasC x.gv x.sn) (valC x.f x.gv x.sn)), some (Blk.arr (1 : Nat) (2 : Nat) fun x_1 =>
    [AV.v (Value.int IntKind.u32 (bif Nat.beq x_1 (0 : Nat) then x.sx else bif Nat.beq x_1 (1 : Nat) then x.sy else (0 : Int)))])] [some (Blk.row [AV.v (Value.int IntKind.i64 x.f), AV.v
    (Value.int IntKind.u32 x.bad), AV.map (1 : Nat), AV.hs (2 : Nat) (0 : Nat) (List.length x.l)]), some (Blk.mp [Cel.int IntKind.i64, Cel.int IntKind.i64, Cel.int IntKind.i64, Cel.int
    IntKind.i64, Cel.int IntKind.i64, Cel.int IntKind.i64, Cel.int IntKind.i64, Cel.int IntKind.i64, Cel.int IntKind.i64, Cel.int IntKind.i64, Cel.int IntKind.i64] true false (List.length
    x.l) (hasS x.l) anyV), some (Blk.arr (11 : Nat) (List.length (x.l ++ x.j)) (lsF Sh.c (x.l ++ x.j))), some (Blk.row [AV.v (Value.int IntKind.i64 x.f), AV.map (4 : Nat)]), some (Blk.mp
    [Cel.int IntKind.i64] false true x.n (hasC x.gv x.sn) (valC x.f x.gv x.sn)), some (Blk.arr (1 : Nat) (2 : Nat) (lsF U32.c [x.sx, x.sy]))])) (Tree.leaf (Out.mk AEx.normal [AV.v (Value.int
    IntKind.i64 x'.f), AV.v (Value.int IntKind.u32 x'.bad), AV.sl (4 : Nat) (List.length x'.acts) (lsF Ac.c x'.acts), AV.v (Value.int IntKind.i64 x'.view), AV.v (Value.int IntKind.u32
    x'.sx), AV.v (Value.int IntKind.u32 x'.sy), AV.ptr (0 : Nat) (0 : Nat), AV.ptr (3 : Nat) (0 : Nat), AV.v (Value.int IntKind.i64 x'.who), AV.sb x'.seen, AV.v (Value.int IntKind.i64
    (IntKind.wrap IntKind.i64 ((↑x'.i : Int) + (1 : Int)))), AV.any] [some (Blk.row [AV.v (Value.int IntKind.i64 x'.f), AV.v (Value.int IntKind.u32 x'.bad), AV.map (1 : Nat), AV.hs (2 : Nat)
    (0 : Nat) (List.length x'.l)]), some (Blk.mp [Cel.int IntKind.i64, Cel.int IntKind.i64, Cel.int IntKind.i64, Cel.int IntKind.i64, Cel.int IntKind.i64, Cel.int IntKind.i64, Cel.int
    IntKind.i64, Cel.int IntKind.i64, Cel.int IntKind.i64, Cel.int IntKind.i64, Cel.int IntKind.i64] true false (List.length x'.l) (hasS x'.l) anyV), some (Blk.arr (11 : Nat) (List.length
    (x'.l ++ x'.j)) (lsF Sh.c (x'.l ++ x'.j))), some (Blk.row [AV.v (Value.int IntKind.i64 x'.f), AV.map (4 : Nat)]), some (Blk.mp [Cel.int IntKind.i64] false true x'.n (hasC x'.gv x'.sn)
    (valC x'.f x'.gv x'.sn))])))) (Tree.br (decide ((List.getD x.acts x.i default).k = (2 : Int))) Tree.fail (Tree.chk (cl (LeL [AV.v (Value.int IntKind.i64 x.f), AV.v (Value.int IntKind.u32
    x.bad), AV.sl (4 : Nat) (List.length x.acts) (lsF Ac.c x.acts), AV.v (Value.int IntKind.i64 x.view), AV.v (Value.int IntKind.u32 x.sx), AV.v (Value.int IntKind.u32 x.sy), AV.ptr (0 :
    Nat) (0 : Nat), AV.ptr (3 : Nat) (0 : Nat), AV.v (Value.int IntKind.i64 x.who), AV.sb x.seen, AV.v (Value.int IntKind.i64 (↑x.i : Int)), AV.hs (5 : Nat) (0 : Nat) (2 : Nat), AV.v
    (Value.int IntKind.i64 (↑(2 : Nat) : Int)), AV.v (Value.int IntKind.i64 (0 : Int)), AV.any] [AV.v (Value.int IntKind.i64 x.f), AV.v (Value.int IntKind.u32 x.bad), AV.sl (4 : Nat)
    (List.length x.acts) (lsF Ac.c x.acts), AV.v (Value.int IntKind.i64 x.view), AV.v (Value.int IntKind.u32 x.sx), AV.v (Value.int IntKind.u32 x.sy), AV.ptr (0 : Nat) (0 : Nat), AV.ptr (3 :
    Nat) (0 : Nat), AV.v (Value.int IntKind.i64 x.who), AV.sb x.seen, AV.v (Value.int IntKind.i64 (↑x.i : Int)), AV.hs (5 : Nat) (0 : Nat) (2 : Nat), AV.v (Value.int IntKind.i64 (2 : Int)),
    AV.v (Value.int IntKind.i64 (↑(0 : Nat) : Int)), AV.any] ∧ LeH [some (Blk.row [AV.v (Value.int IntKind.i64 x.f), AV.v (Value.int IntKind.u32 x.bad), AV.map (1 : Nat), AV.hs (2 : Nat) (0
    : Nat) (List.length x.l)]), some (Blk.mp [Cel.int IntKind.i64, Cel.int IntKind.i64, Cel.int IntKind.i64, Cel.int IntKind.i64, Cel.int IntKind.i64, Cel.int IntKind.i64, Cel.int
    IntKind.i64, Cel.int IntKind.i64, Cel.int IntKind.i64, Cel.int IntKind.i64, Cel.int IntKind.i64] true false (List.length x.l) (hasS x.l) anyV), some (Blk.arr (11 : Nat) (List.length (x.l
    ++ x.j)) (lsF Sh.c (x.l ++ x.j))), some (Blk.row [AV.v (Value.int IntKind.i64 x.f), AV.map (4 : Nat)]), some (Blk.mp [Cel.int IntKind.i64] false true x.n (hasC x.gv x.sn) (valC x.f x.gv
    x.sn)), some (Blk.arr (1 : Nat) (2 : Nat) fun x_1 => [AV.v (Value.int IntKind.u32 (bif Nat.beq x_1 (0 : Nat) then x.sx else bif Nat.beq x_1 (1 : Nat) then x.sy else (0 : Int)))])] [some
    (Blk.row [AV.v (Value.int IntKind.i64 x.f), AV.v (Value.int IntKind.u32 x.bad), AV.map (1 : Nat), AV.hs (2 : Nat) (0 : Nat) (List.length x.l)]), some (Blk.mp [Cel.int IntKind.i64,
    Cel.int IntKind.i64, Cel.int IntKind.i64, Cel.int IntKind.i64, Cel.int IntKind.i64, Cel.int IntKind.i64, Cel.int IntKind.i64, Cel.int IntKind.i64, Cel.int IntKind.i64, Cel.int
    IntKind.i64, Cel.int IntKind.i64] true false (List.length x.l) (hasS x.l) anyV), some (Blk.arr (11 : Nat) (List.length (x.l ++ x.j)) (lsF Sh.c (x.l ++ x.j))), some (Blk.row [AV.v
    (Value.int IntKind.i64 x.f), AV.map (4 : Nat)]), some (Blk.mp [Cel.int IntKind.i64] false true x.n (hasC x.gv x.sn) (valC x.f x.gv x.sn)), some (Blk.arr (1 : Nat) (2 : Nat) (lsF U32.c
    [x.sx, x.sy]))])) (Tree.leaf (Out.mk AEx.normal [AV.v (Value.int IntKind.i64 x'.f), AV.v (Value.int IntKind.u32 x'.bad), AV.sl (4 : Nat) (List.length x'.acts) (lsF Ac.c x'.acts), AV.v
    (Value.int IntKind.i64 x'.view), AV.v (Value.int IntKind.u32 x'.sx), AV.v (Value.int IntKind.u32 x'.sy), AV.ptr (0 : Nat) (0 : Nat), AV.ptr (3 : Nat) (0 : Nat), AV.v (Value.int
    IntKind.i64 x'.who), AV.sb x'.seen, AV.v (Value.int IntKind.i64 (IntKind.wrap IntKind.i64 ((↑x'.i : Int) + (1 : Int)))), AV.any] [some (Blk.row [AV.v (Value.int IntKind.i64 x'.f), AV.v
    (Value.int IntKind.u32 x'.bad), AV.map (1 : Nat), AV.hs (2 : Nat) (0 : Nat) (List.length x'.l)]), some (Blk.mp [Cel.int IntKind.i64, Cel.int IntKind.i64, Cel.int IntKind.i64, Cel.int
    IntKind.i64, Cel.int IntKind.i64, Cel.int IntKind.i64, Cel.int IntKind.i64, Cel.int IntKind.i64, Cel.int IntKind.i64, Cel.int IntKind.i64, Cel.int IntKind.i64] true false (List.length
    x'.l) (hasS x'.l) anyV), some (Blk.arr (11 : Nat) (List.length (x'.l ++ x'.j)) (lsF Sh.c (x'.l ++ x'.j))), some (Blk.row [AV.v (Value.int IntKind.i64 x'.f), AV.map (4 : Nat)]), some
    (Blk.mp [Cel.int IntKind.i64] false true x'.n (hasC x'.gv x'.sn) (valC x'.f x'.gv x'.sn))]))))))) (Tree.leaf (Out.mk (AEx.exit (0 : Nat)) [AV.v (Value.int IntKind.i64 x.f), AV.v
    (Value.int IntKind.u32 x.bad), AV.sl (4 : Nat) (List.length x.acts) (lsF Ac.c x.acts), AV.v (Value.int IntKind.i64 x.view), AV.v (Value.int IntKind.u32 x.sx), AV.v (Value.int IntKind.u32
    x.sy), AV.ptr (0 : Nat) (0 : Nat), AV.ptr (3 : Nat) (0 : Nat), AV.v (Value.int IntKind.i64 x.who), AV.sb x.seen, AV.v (Value.int IntKind.i64 (↑x.i : Int)), AV.any] [some (Blk.row [AV.v
    (Value.int IntKind.i64 x.f), AV.v (Value.int IntKind.u32 x.bad), AV.map (1 : Nat), AV.hs (2 : Nat) (0 : Nat) (List.length x.l)]), some (Blk.mp [Cel.int IntKind.i64, Cel.int IntKind.i64,
    Cel.int IntKind.i64, Cel.int IntKind.i64, Cel.int IntKind.i64, Cel.int IntKind.i64, Cel.int IntKind.i64, Cel.int IntKind.i64, Cel.int IntKind.i64, Cel.int IntKind.i64, Cel.int
    IntKind.i64] true false (List.length x.l) (hasS x.l) anyV), some (Blk.arr (11 : Nat) (List.length (x.l ++ x.j)) (lsF Sh.c (x.l ++ x.j))), some (Blk.row [AV.v (Value.int IntKind.i64 x.f),
    AV.map (4 : Nat)]), some (Blk.mp [Cel.int IntKind.i64] false true x.n (hasC x.gv x.sn) (valC x.f x.gv x.sn))])) := by kernel_rfl
theorem osE (x x' : X4) (e : Int) (hv : ¬ badV (x.acts.getD x.i default).v) (hu : inU32 (x.acts.getD x.i default).set = true) (hb : inU32 x.bad = true) (hE : EnE (x.acts.getD x.i default).set (timesF 1 x.f) (stC (x.acts.getD x.i default).v) x.f x.bad x.l e) (he : e ≠ 0) : roundE (P := Tryd.prog) (Γ := Γc) [CT.at 13 (ansSeeE (s := (x.acts.getD x.i default).set) (f := x.f) (gv := x.gv) (sn := x.sn) (n := x.n) (l := x.l) (j := x.j) hv hu hb hE he)] (L41 x x') false 0 0 (lp4 0) lv41 nl41 131 (S41 x).1 (S41 x).2 =
  Tree.br (decide ((↑x.i : Int) < (↑(List.length x.acts) : Int))) (Tree.chk (decide ((0 : Int) ≤ (↑x.i : Int)) && decide ((↑x.i : Int) < (↑(List.length x.acts) : Int))) (Tree.br (decide
    ((List.getD x.acts x.i default).k = (0 : Int))) Tree.fail (Tree.br (decide ((List.getD x.acts x.i default).k = (1 : Int))) (Tree.chk (cl (LeL [AV.ptr (0 : Nat) (0 : Nat), AV.ptr (2 :
    Nat) (0 : Nat), AV.v (Value.int IntKind.i64 (List.getD x.acts x.i default).v), AV.v (Value.int IntKind.u32 (List.getD x.acts x.i default).set)] [AV.ptr (0 : Nat) (0 : Nat), AV.ptr (2 :
    Nat) (0 : Nat), AV.v (Value.int IntKind.i64 (List.getD x.acts x.i default).v), AV.v (Value.int IntKind.u32 (List.getD x.acts x.i default).set)] ∧ LeH [some (Blk.row [AV.v (Value.int
    IntKind.i64 x.f), AV.map (1 : Nat)]), some (Blk.mp [Cel.int IntKind.i64] false true x.n (hasC x.gv x.sn) (valC x.f x.gv x.sn)), some (Blk.row [AV.v (Value.int IntKind.i64 x.f), AV.v
    (Value.int IntKind.u32 x.bad), AV.map (3 : Nat), AV.hs (4 : Nat) (0 : Nat) (List.length x.l)]), some (Blk.mp [Cel.int IntKind.i64, Cel.int IntKind.i64, Cel.int IntKind.i64, Cel.int
    IntKind.i64, Cel.int IntKind.i64, Cel.int IntKind.i64, Cel.int IntKind.i64, Cel.int IntKind.i64, Cel.int IntKind.i64, Cel.int IntKind.i64, Cel.int IntKind.i64] true false (List.length
    x.l) (hasS x.l) anyV), some (Blk.arr (11 : Nat) (List.length (x.l ++ x.j)) (lsF Sh.c (x.l ++ x.j)))] [some (Blk.row [AV.v (Value.int IntKind.i64 x.f), AV.map (1 : Nat)]), some (Blk.mp
    [Cel.int IntKind.i64] false true x.n (hasC x.gv x.sn) (valC x.f x.gv x.sn)), some (Blk.row [AV.v (Value.int IntKind.i64 x.f), AV.v (Value.int IntKind.u32 x.bad), AV.map (3 : Nat), AV.hs
    (4 : Nat) (0 : Nat) (List.length x.l)]), some (Blk.mp [Cel.int IntKind.i64, Cel.int IntKind.i64, Cel.int IntKind.i64, Cel.int IntKind.i64, Cel.int IntKind.i64, Cel.int IntKind.i64,
    Cel.int IntKind.i64, Cel.int IntKind.i64, Cel.int IntKind.i64, Cel.int IntKind.i64, Cel.int IntKind.i64] true false (List.length x.l) (hasS x.l) anyV), some (Blk.arr (11 : Nat)
    (List.length (x.l ++ x.j)) (lsF Sh.c (x.l ++ x.j)))])) (Tree.chk (cl (LeL [AV.v (Value.int IntKind.i64 x.f), AV.v (Value.int IntKind.u32 x.bad), AV.sl (4 : Nat) (List.length x.acts) (lsF
    Ac.c x.acts), AV.v (Value.int IntKind.i64 x.view), AV.v (Value.int IntKind.u32 x.sx), AV.v (Value.int IntKind.u32 x.sy), AV.ptr (0 : Nat) (0 : Nat), AV.ptr (3 : Nat) (0 : Nat), AV.v
    (Value.int IntKind.i64 x.who), AV.sb x.seen, AV.v (Value.int IntKind.i64 (↑x.i : Int)), AV.hs (5 : Nat) (0 : Nat) (2 : Nat), AV.v (Value.int IntKind.i64 (↑(2 : Nat) : Int)), AV.v
    (Value.int IntKind.i64 (0 : Int)), AV.any] [AV.v (Value.int IntKind.i64 x.f), AV.v (Value.int IntKind.u32 x.bad), AV.sl (4 : Nat) (List.length x.acts) (lsF Ac.c x.acts), AV.v (Value.int
    IntKind.i64 x.view), AV.v (Value.int IntKind.u32 x.sx), AV.v (Value.int IntKind.u32 x.sy), AV.ptr (0 : Nat) (0 : Nat), AV.ptr (3 : Nat) (0 : Nat), AV.v (Value.int IntKind.i64 x.who),
    AV.sb x.seen, AV.v (Value.int IntKind.i64 (↑x.i : Int)), AV.hs (5 : Nat) (0 : Nat) (2 : Nat), AV.v (Value.int IntKind.i64 (2 : Int)), AV.v (Value.int IntKind.i64 (↑(0 : Nat) : Int)),
    AV.any] ∧ LeH [some (Blk.row [AV.v (Value.int IntKind.i64 x.f), AV.v (Value.int IntKind.u32 x.bad), AV.map (1 : Nat), AV.hs (2 : Nat) (0 : Nat) (List.length x.l)]), some (Blk.mp [Cel.int
    IntKind.i64, Cel.int IntKind.i64, Cel.int IntKind.i64, Cel.int IntKind.i64, Cel.int IntKind.i64, Cel.int IntKind.i64, Cel.int IntKind.i64, Cel.int IntKind.i64, Cel.int IntKind.i64,
    Cel.int IntKind.i64, Cel.int IntKind.i64] true false (List.length x.l) (hasS x.l) anyV), some (Blk.arr (11 : Nat) (List.length (x.l ++ x.j)) (lsF Sh.c (x.l ++ x.j))), some (Blk.row [AV.v
    (Value.int IntKind.i64 x.f), AV.map (4 : Nat)]), some (Blk.mp [Cel.int IntKind.i64] false true x.n (hasC x.gv x.sn) (valC x.f x.gv x.sn)), some (Blk.arr (1 : Nat) (2 : Nat) fun x_1 =>
    [AV.v (Value.int IntKind.u32 (bif Nat.beq x_1 (0 : Nat) then x.sx else bif Nat.beq x_1 (1 : Nat) then x.sy else (0 : Int)))])] [some (Blk.row [AV.v (Value.int IntKind.i64 x.f), AV.v
    (Value.int IntKind.u32 x.bad), AV.map (1 : Nat), AV.hs (2 : Nat) (0 : Nat) (List.length x.l)]), some (Blk.mp [Cel.int IntKind.i64, Cel.int IntKind.i64, Cel.int IntKind.i64, Cel.int
    IntKind.i64, Cel.int IntKind.i64, Cel.int IntKind.i64, Cel.int IntKind.i64, Cel.int IntKind.i64, Cel.int IntKind.i64, Cel.int IntKind.i64, Cel.int IntKind.i64] true false (List.length
    x.l) (hasS x.l) anyV), some (Blk.arr (11 : Nat) (List.length (x.l ++ x.j)) (lsF Sh.c (x.l ++ x.j))), some (Blk.row [AV.v (Value.int IntKind.i64 x.f), AV.map (4 : Nat)]), some (Blk.mp
    [Cel.int IntKind.i64] false true x.n (hasC x.gv x.sn) (valC x.f x.gv x.sn)), some (Blk.arr (1 : Nat) (2 : Nat) (lsF U32.c [x.sx, x.sy]))])) (Tree.leaf (Out.mk AEx.normal [AV.v (Value.int
    IntKind.i64 x'.f), AV.v (Value.int IntKind.u32 x'.bad), AV.sl (4 : Nat) (List.length x'.acts) (lsF Ac.c x'.acts), AV.v (Value.int IntKind.i64 x'.view), AV.v (Value.int IntKind.u32
    x'.sx), AV.v (Value.int IntKind.u32 x'.sy), AV.ptr (0 : Nat) (0 : Nat), AV.ptr (3 : Nat) (0 : Nat), AV.v (Value.int IntKind.i64 x'.who), AV.sb x'.seen, AV.v (Value.int IntKind.i64
    (IntKind.wrap IntKind.i64 ((↑x'.i : Int) + (1 : Int)))), AV.any] [some (Blk.row [AV.v (Value.int IntKind.i64 x'.f), AV.v (Value.int IntKind.u32 x'.bad), AV.map (1 : Nat), AV.hs (2 : Nat)
    (0 : Nat) (List.length x'.l)]), some (Blk.mp [Cel.int IntKind.i64, Cel.int IntKind.i64, Cel.int IntKind.i64, Cel.int IntKind.i64, Cel.int IntKind.i64, Cel.int IntKind.i64, Cel.int
    IntKind.i64, Cel.int IntKind.i64, Cel.int IntKind.i64, Cel.int IntKind.i64, Cel.int IntKind.i64] true false (List.length x'.l) (hasS x'.l) anyV), some (Blk.arr (11 : Nat) (List.length
    (x'.l ++ x'.j)) (lsF Sh.c (x'.l ++ x'.j))), some (Blk.row [AV.v (Value.int IntKind.i64 x'.f), AV.map (4 : Nat)]), some (Blk.mp [Cel.int IntKind.i64] false true x'.n (hasC x'.gv x'.sn)
    (valC x'.f x'.gv x'.sn))])))) (Tree.br (decide ((List.getD x.acts x.i default).k = (2 : Int))) Tree.fail (Tree.chk (cl (LeL [AV.v (Value.int IntKind.i64 x.f), AV.v (Value.int IntKind.u32
    x.bad), AV.sl (4 : Nat) (List.length x.acts) (lsF Ac.c x.acts), AV.v (Value.int IntKind.i64 x.view), AV.v (Value.int IntKind.u32 x.sx), AV.v (Value.int IntKind.u32 x.sy), AV.ptr (0 :
    Nat) (0 : Nat), AV.ptr (3 : Nat) (0 : Nat), AV.v (Value.int IntKind.i64 x.who), AV.sb x.seen, AV.v (Value.int IntKind.i64 (↑x.i : Int)), AV.hs (5 : Nat) (0 : Nat) (2 : Nat), AV.v
    (Value.int IntKind.i64 (↑(2 : Nat) : Int)), AV.v (Value.int IntKind.i64 (0 : Int)), AV.any] [AV.v (Value.int IntKind.i64 x.f), AV.v (Value.int IntKind.u32 x.bad), AV.sl (4 : Nat)
    (List.length x.acts) (lsF Ac.c x.acts), AV.v (Value.int IntKind.i64 x.view), AV.v (Value.int IntKind.u32 x.sx), AV.v (Value.int IntKind.u32 x.sy), AV.ptr (0 : Nat) (0 : Nat), AV.ptr (3 :
    Nat) (0 : Nat), AV.v (Value.int IntKind.i64 x.who), AV.sb x.seen, AV.v (Value.int IntKind.i64 (↑x.i : Int)), AV.hs (5 : Nat) (0 : Nat) (2 : Nat), AV.v (Value.int IntKind.i64 (2 : Int)),
    AV.v (Value.int IntKind.i64 (↑(0 : Nat) : Int)), AV.any] ∧ LeH [some (Blk.row [AV.v (Value.int IntKind.i64 x.f), AV.v (Value.int IntKind.u32 x.bad), AV.map (1 : Nat), AV.hs (2 : Nat) (0
    : Nat) (List.length x.l)]), some (Blk.mp [Cel.int IntKind.i64, Cel.int IntKind.i64, Cel.int IntKind.i64, Cel.int IntKind.i64, Cel.int IntKind.i64, Cel.int IntKind.i64, Cel.int
    IntKind.i64, Cel.int IntKind.i64, Cel.int IntKind.i64, Cel.int IntKind.i64, Cel.int IntKind.i64] true false (List.length x.l) (hasS x.l) anyV), some (Blk.arr (11 : Nat) (List.length (x.l
    ++ x.j)) (lsF Sh.c (x.l ++ x.j))), some (Blk.row [AV.v (Value.int IntKind.i64 x.f), AV.map (4 : Nat)]), some (Blk.mp [Cel.int IntKind.i64] false true x.n (hasC x.gv x.sn) (valC x.f x.gv
    x.sn)), some (Blk.arr (1 : Nat) (2 : Nat) fun x_1 => [AV.v (Value.int IntKind.u32 (bif Nat.beq x_1 (0 : Nat) then x.sx else bif Nat.beq x_1 (1 : Nat) then x.sy else (0 : Int)))])] [some
    (Blk.row [AV.v (Value.int IntKind.i64 x.f), AV.v (Value.int IntKind.u32 x.bad), AV.map (1 : Nat), AV.hs (2 : Nat) (0 : Nat) (List.length x.l)]), some (Blk.mp [Cel.int IntKind.i64,
    Cel.int IntKind.i64, Cel.int IntKind.i64, Cel.int IntKind.i64, Cel.int IntKind.i64, Cel.int IntKind.i64, Cel.int IntKind.i64, Cel.int IntKind.i64, Cel.int IntKind.i64, Cel.int
    IntKind.i64, Cel.int IntKind.i64] true false (List.length x.l) (hasS x.l) anyV), some (Blk.arr (11 : Nat) (List.length (x.l ++ x.j)) (lsF Sh.c (x.l ++ x.j))), some (Blk.row [AV.v
    (Value.int IntKind.i64 x.f), AV.map (4 : Nat)]), some (Blk.mp [Cel.int IntKind.i64] false true x.n (hasC x.gv x.sn) (valC x.f x.gv x.sn)), some (Blk.arr (1 : Nat) (2 : Nat) (lsF U32.c
    [x.sx, x.sy]))])) (Tree.leaf (Out.mk AEx.normal [AV.v (Value.int IntKind.i64 x'.f), AV.v (Value.int IntKind.u32 x'.bad), AV.sl (4 : Nat) (List.length x'.acts) (lsF Ac.c x'.acts), AV.v
    (Value.int IntKind.i64 x'.view), AV.v (Value.int IntKind.u32 x'.sx), AV.v (Value.int IntKind.u32 x'.sy), AV.ptr (0 : Nat) (0 : Nat), AV.ptr (3 : Nat) (0 : Nat), AV.v (Value.int
    IntKind.i64 x'.who), AV.sb x'.seen, AV.v (Value.int IntKind.i64 (IntKind.wrap IntKind.i64 ((↑x'.i : Int) + (1 : Int)))), AV.any] [some (Blk.row [AV.v (Value.int IntKind.i64 x'.f), AV.v
    (Value.int IntKind.u32 x'.bad), AV.map (1 : Nat), AV.hs (2 : Nat) (0 : Nat) (List.length x'.l)]), some (Blk.mp [Cel.int IntKind.i64, Cel.int IntKind.i64, Cel.int IntKind.i64, Cel.int
    IntKind.i64, Cel.int IntKind.i64, Cel.int IntKind.i64, Cel.int IntKind.i64, Cel.int IntKind.i64, Cel.int IntKind.i64, Cel.int IntKind.i64, Cel.int IntKind.i64] true false (List.length
    x'.l) (hasS x'.l) anyV), some (Blk.arr (11 : Nat) (List.length (x'.l ++ x'.j)) (lsF Sh.c (x'.l ++ x'.j))), some (Blk.row [AV.v (Value.int IntKind.i64 x'.f), AV.map (4 : Nat)]), some
    (Blk.mp [Cel.int IntKind.i64] false true x'.n (hasC x'.gv x'.sn) (valC x'.f x'.gv x'.sn))]))))))) (Tree.leaf (Out.mk (AEx.exit (0 : Nat)) [AV.v (Value.int IntKind.i64 x.f), AV.v
    (Value.int IntKind.u32 x.bad), AV.sl (4 : Nat) (List.length x.acts) (lsF Ac.c x.acts), AV.v (Value.int IntKind.i64 x.view), AV.v (Value.int IntKind.u32 x.sx), AV.v (Value.int IntKind.u32
    x.sy), AV.ptr (0 : Nat) (0 : Nat), AV.ptr (3 : Nat) (0 : Nat), AV.v (Value.int IntKind.i64 x.who), AV.sb x.seen, AV.v (Value.int IntKind.i64 (↑x.i : Int)), AV.any] [some (Blk.row [AV.v
    (Value.int IntKind.i64 x.f), AV.v (Value.int IntKind.u32 x.bad), AV.map (1 : Nat), AV.hs (2 : Nat) (0 : Nat) (List.length x.l)]), some (Blk.mp [Cel.int IntKind.i64, Cel.int IntKind.i64,
    Cel.int IntKind.i64, Cel.int IntKind.i64, Cel.int IntKind.i64, Cel.int IntKind.i64, Cel.int IntKind.i64, Cel.int IntKind.i64, Cel.int IntKind.i64, Cel.int IntKind.i64, Cel.int
    IntKind.i64] true false (List.length x.l) (hasS x.l) anyV), some (Blk.arr (11 : Nat) (List.length (x.l ++ x.j)) (lsF Sh.c (x.l ++ x.j))), some (Blk.row [AV.v (Value.int IntKind.i64 x.f),
    AV.map (4 : Nat)]), some (Blk.mp [Cel.int IntKind.i64] false true x.n (hasC x.gv x.sn) (valC x.f x.gv x.sn))])) := by kernel_rfl
theorem osOk (x x' : X4) (hv : ¬ badV (x.acts.getD x.i default).v) (hu : inU32 (x.acts.getD x.i default).set = true) (hb : inU32 x.bad = true) (hE : EnE (x.acts.getD x.i default).set (timesF 1 x.f) (stC (x.acts.getD x.i default).v) x.f x.bad x.l 0) : roundE (P := Tryd.prog) (Γ := Γc) [CT.at 13 (ansSeeOk (s := (x.acts.getD x.i default).set) (f := x.f) (gv := x.gv) (sn := x.sn) (n := x.n) (l := x.l) (j := x.j) hv hu hb hE)] (L41 ({ x with sn := addS x.sn (x.acts.getD x.i default).v, n := nC x.gv x.sn (x.acts.getD x.i default).v x.n }) x') false 0 0 (lp4 0) lv41 nl41 131 (S41 x).1 (S41 x).2 =
  Tree.br (decide ((↑x.i : Int) < (↑(List.length x.acts) : Int))) (Tree.chk (decide ((0 : Int) ≤ (↑x.i : Int)) && decide ((↑x.i : Int) < (↑(List.length x.acts) : Int))) (Tree.br (decide
    ((List.getD x.acts x.i default).k = (0 : Int))) Tree.fail (Tree.br (decide ((List.getD x.acts x.i default).k = (1 : Int))) (Tree.chk (cl (LeL [AV.ptr (0 : Nat) (0 : Nat), AV.ptr (2 :
    Nat) (0 : Nat), AV.v (Value.int IntKind.i64 (List.getD x.acts x.i default).v), AV.v (Value.int IntKind.u32 (List.getD x.acts x.i default).set)] [AV.ptr (0 : Nat) (0 : Nat), AV.ptr (2 :
    Nat) (0 : Nat), AV.v (Value.int IntKind.i64 (List.getD x.acts x.i default).v), AV.v (Value.int IntKind.u32 (List.getD x.acts x.i default).set)] ∧ LeH [some (Blk.row [AV.v (Value.int
    IntKind.i64 x.f), AV.map (1 : Nat)]), some (Blk.mp [Cel.int IntKind.i64] false true x.n (hasC x.gv x.sn) (valC x.f x.gv x.sn)), some (Blk.row [AV.v (Value.int IntKind.i64 x.f), AV.v
    (Value.int IntKind.u32 x.bad), AV.map (3 : Nat), AV.hs (4 : Nat) (0 : Nat) (List.length x.l)]), some (Blk.mp [Cel.int IntKind.i64, Cel.int IntKind.i64, Cel.int IntKind.i64, Cel.int
    IntKind.i64, Cel.int IntKind.i64, Cel.int IntKind.i64, Cel.int IntKind.i64, Cel.int IntKind.i64, Cel.int IntKind.i64, Cel.int IntKind.i64, Cel.int IntKind.i64] true false (List.length
    x.l) (hasS x.l) anyV), some (Blk.arr (11 : Nat) (List.length (x.l ++ x.j)) (lsF Sh.c (x.l ++ x.j)))] [some (Blk.row [AV.v (Value.int IntKind.i64 x.f), AV.map (1 : Nat)]), some (Blk.mp
    [Cel.int IntKind.i64] false true x.n (hasC x.gv x.sn) (valC x.f x.gv x.sn)), some (Blk.row [AV.v (Value.int IntKind.i64 x.f), AV.v (Value.int IntKind.u32 x.bad), AV.map (3 : Nat), AV.hs
    (4 : Nat) (0 : Nat) (List.length x.l)]), some (Blk.mp [Cel.int IntKind.i64, Cel.int IntKind.i64, Cel.int IntKind.i64, Cel.int IntKind.i64, Cel.int IntKind.i64, Cel.int IntKind.i64,
    Cel.int IntKind.i64, Cel.int IntKind.i64, Cel.int IntKind.i64, Cel.int IntKind.i64, Cel.int IntKind.i64] true false (List.length x.l) (hasS x.l) anyV), some (Blk.arr (11 : Nat)
    (List.length (x.l ++ x.j)) (lsF Sh.c (x.l ++ x.j)))])) (Tree.chk (cl (LeL [AV.v (Value.int IntKind.i64 x.f), AV.v (Value.int IntKind.u32 x.bad), AV.sl (4 : Nat) (List.length x.acts) (lsF
    Ac.c x.acts), AV.v (Value.int IntKind.i64 x.view), AV.v (Value.int IntKind.u32 x.sx), AV.v (Value.int IntKind.u32 x.sy), AV.ptr (0 : Nat) (0 : Nat), AV.ptr (3 : Nat) (0 : Nat), AV.v
    (Value.int IntKind.i64 x.who), AV.sb x.seen, AV.v (Value.int IntKind.i64 (↑x.i : Int)), AV.hs (5 : Nat) (0 : Nat) (2 : Nat), AV.v (Value.int IntKind.i64 (↑(2 : Nat) : Int)), AV.v
    (Value.int IntKind.i64 (0 : Int)), AV.any] [AV.v (Value.int IntKind.i64 x.f), AV.v (Value.int IntKind.u32 x.bad), AV.sl (4 : Nat) (List.length (X4.mk x.f x.bad x.acts x.view x.sx x.sy
    x.l x.j x.gv (addS x.sn (List.getD x.acts x.i default).v) (nC x.gv x.sn (List.getD x.acts x.i default).v x.n) x.who x.seen x.i).acts) (lsF Ac.c (X4.mk x.f x.bad x.acts x.view x.sx x.sy
    x.l x.j x.gv (addS x.sn (List.getD x.acts x.i default).v) (nC x.gv x.sn (List.getD x.acts x.i default).v x.n) x.who x.seen x.i).acts), AV.v (Value.int IntKind.i64 x.view), AV.v
    (Value.int IntKind.u32 x.sx), AV.v (Value.int IntKind.u32 x.sy), AV.ptr (0 : Nat) (0 : Nat), AV.ptr (3 : Nat) (0 : Nat), AV.v (Value.int IntKind.i64 x.who), AV.sb x.seen, AV.v (Value.int
    IntKind.i64 (↑x.i : Int)), AV.hs (5 : Nat) (0 : Nat) (2 : Nat), AV.v (Value.int IntKind.i64 (2 : Int)), AV.v (Value.int IntKind.i64 (↑(0 : Nat) : Int)), AV.any] ∧ LeH [some (Blk.row
    [AV.v (Value.int IntKind.i64 x.f), AV.v (Value.int IntKind.u32 x.bad), AV.map (1 : Nat), AV.hs (2 : Nat) (0 : Nat) (List.length x.l)]), some (Blk.mp [Cel.int IntKind.i64, Cel.int
    IntKind.i64, Cel.int IntKind.i64, Cel.int IntKind.i64, Cel.int IntKind.i64, Cel.int IntKind.i64, Cel.int IntKind.i64, Cel.int IntKind.i64, Cel.int IntKind.i64, Cel.int IntKind.i64,
    Cel.int IntKind.i64] true false (List.length x.l) (hasS x.l) anyV), some (Blk.arr (11 : Nat) (List.length (x.l ++ x.j)) (lsF Sh.c (x.l ++ x.j))), some (Blk.row [AV.v (Value.int
    IntKind.i64 x.f), AV.map (4 : Nat)]), some (Blk.mp [Cel.int IntKind.i64] false true (nC x.gv x.sn (List.getD x.acts x.i default).v x.n) (hasC x.gv (addS x.sn (List.getD x.acts x.i
    default).v)) (valC x.f x.gv (addS x.sn (List.getD x.acts x.i default).v))), some (Blk.arr (1 : Nat) (2 : Nat) fun x_1 => [AV.v (Value.int IntKind.u32 (bif Nat.beq x_1 (0 : Nat) then x.sx
    else bif Nat.beq x_1 (1 : Nat) then x.sy else (0 : Int)))])] [some (Blk.row [AV.v (Value.int IntKind.i64 x.f), AV.v (Value.int IntKind.u32 x.bad), AV.map (1 : Nat), AV.hs (2 : Nat) (0 :
    Nat) (List.length (X4.mk x.f x.bad x.acts x.view x.sx x.sy x.l x.j x.gv (addS x.sn (List.getD x.acts x.i default).v) (nC x.gv x.sn (List.getD x.acts x.i default).v x.n) x.who x.seen
    x.i).l)]), some (Blk.mp [Cel.int IntKind.i64, Cel.int IntKind.i64, Cel.int IntKind.i64, Cel.int IntKind.i64, Cel.int IntKind.i64, Cel.int IntKind.i64, Cel.int IntKind.i64, Cel.int
    IntKind.i64, Cel.int IntKind.i64, Cel.int IntKind.i64, Cel.int IntKind.i64] true false (List.length (X4.mk x.f x.bad x.acts x.view x.sx x.sy x.l x.j x.gv (addS x.sn (List.getD x.acts x.i
    default).v) (nC x.gv x.sn (List.getD x.acts x.i default).v x.n) x.who x.seen x.i).l) (hasS (X4.mk x.f x.bad x.acts x.view x.sx x.sy x.l x.j x.gv (addS x.sn (List.getD x.acts x.i
    default).v) (nC x.gv x.sn (List.getD x.acts x.i default).v x.n) x.who x.seen x.i).l) anyV), some (Blk.arr (11 : Nat) (List.length ((X4.mk x.f x.bad x.acts x.view x.sx x.sy x.l x.j x.gv
    (addS x.sn (List.getD x.acts x.i default).v) (nC x.gv x.sn (List.getD x.acts x.i default).v x.n) x.who x.seen x.i).l ++ (X4.mk x.f x.bad x.acts x.view x.sx x.sy x.l x.j x.gv (addS x.sn
    (List.getD x.acts x.i default).v) (nC x.gv x.sn (List.getD x.acts x.i default).v x.n) x.who x.seen x.i).j)) (lsF Sh.c ((X4.mk x.f x.bad x.acts x.view x.sx x.sy x.l x.j x.gv (addS x.sn
    (List.getD x.acts x.i default).v) (nC x.gv x.sn (List.getD x.acts x.i default).v x.n) x.who x.seen x.i).l ++ (X4.mk x.f x.bad x.acts x.view x.sx x.sy x.l x.j x.gv (addS x.sn (List.getD
    x.acts x.i default).v) (nC x.gv x.sn (List.getD x.acts x.i default).v x.n) x.who x.seen x.i).j))), some (Blk.row [AV.v (Value.int IntKind.i64 x.f), AV.map (4 : Nat)]), some (Blk.mp
    [Cel.int IntKind.i64] false true (nC x.gv x.sn (List.getD x.acts x.i default).v x.n) (hasC (X4.mk x.f x.bad x.acts x.view x.sx x.sy x.l x.j x.gv (addS x.sn (List.getD x.acts x.i
    default).v) (nC x.gv x.sn (List.getD x.acts x.i default).v x.n) x.who x.seen x.i).gv (X4.mk x.f x.bad x.acts x.view x.sx x.sy x.l x.j x.gv (addS x.sn (List.getD x.acts x.i default).v)
    (nC x.gv x.sn (List.getD x.acts x.i default).v x.n) x.who x.seen x.i).sn) (valC (X4.mk x.f x.bad x.acts x.view x.sx x.sy x.l x.j x.gv (addS x.sn (List.getD x.acts x.i default).v) (nC
    x.gv x.sn (List.getD x.acts x.i default).v x.n) x.who x.seen x.i).f (X4.mk x.f x.bad x.acts x.view x.sx x.sy x.l x.j x.gv (addS x.sn (List.getD x.acts x.i default).v) (nC x.gv x.sn
    (List.getD x.acts x.i default).v x.n) x.who x.seen x.i).gv (X4.mk x.f x.bad x.acts x.view x.sx x.sy x.l x.j x.gv (addS x.sn (List.getD x.acts x.i default).v) (nC x.gv x.sn (List.getD
    x.acts x.i default).v x.n) x.who x.seen x.i).sn)), some (Blk.arr (1 : Nat) (2 : Nat) (lsF U32.c [(X4.mk x.f x.bad x.acts x.view x.sx x.sy x.l x.j x.gv (addS x.sn (List.getD x.acts x.i
    default).v) (nC x.gv x.sn (List.getD x.acts x.i default).v x.n) x.who x.seen x.i).sx, (X4.mk x.f x.bad x.acts x.view x.sx x.sy x.l x.j x.gv (addS x.sn (List.getD x.acts x.i default).v)
    (nC x.gv x.sn (List.getD x.acts x.i default).v x.n) x.who x.seen x.i).sy]))])) (Tree.leaf (Out.mk AEx.normal [AV.v (Value.int IntKind.i64 x'.f), AV.v (Value.int IntKind.u32 x'.bad),
    AV.sl (4 : Nat) (List.length x'.acts) (lsF Ac.c x'.acts), AV.v (Value.int IntKind.i64 x'.view), AV.v (Value.int IntKind.u32 x'.sx), AV.v (Value.int IntKind.u32 x'.sy), AV.ptr (0 : Nat)
    (0 : Nat), AV.ptr (3 : Nat) (0 : Nat), AV.v (Value.int IntKind.i64 x'.who), AV.sb x'.seen, AV.v (Value.int IntKind.i64 (IntKind.wrap IntKind.i64 ((↑x'.i : Int) + (1 : Int)))), AV.any]
    [some (Blk.row [AV.v (Value.int IntKind.i64 x'.f), AV.v (Value.int IntKind.u32 x'.bad), AV.map (1 : Nat), AV.hs (2 : Nat) (0 : Nat) (List.length x'.l)]), some (Blk.mp [Cel.int
    IntKind.i64, Cel.int IntKind.i64, Cel.int IntKind.i64, Cel.int IntKind.i64, Cel.int IntKind.i64, Cel.int IntKind.i64, Cel.int IntKind.i64, Cel.int IntKind.i64, Cel.int IntKind.i64,
    Cel.int IntKind.i64, Cel.int IntKind.i64] true false (List.length x'.l) (hasS x'.l) anyV), some (Blk.arr (11 : Nat) (List.length (x'.l ++ x'.j)) (lsF Sh.c (x'.l ++ x'.j))), some (Blk.row
    [AV.v (Value.int IntKind.i64 x'.f), AV.map (4 : Nat)]), some (Blk.mp [Cel.int IntKind.i64] false true x'.n (hasC x'.gv x'.sn) (valC x'.f x'.gv x'.sn))])))) (Tree.br (decide ((List.getD
    x.acts x.i default).k = (2 : Int))) Tree.fail (Tree.chk (cl (LeL [AV.v (Value.int IntKind.i64 x.f), AV.v (Value.int IntKind.u32 x.bad), AV.sl (4 : Nat) (List.length x.acts) (lsF Ac.c
    x.acts), AV.v (Value.int IntKind.i64 x.view), AV.v (Value.int IntKind.u32 x.sx), AV.v (Value.int IntKind.u32 x.sy), AV.ptr (0 : Nat) (0 : Nat), AV.ptr (3 : Nat) (0 : Nat), AV.v
    (Value.int IntKind.i64 x.who), AV.sb x.seen, AV.v (Value.int IntKind.i64 (↑x.i : Int)), AV.hs (5 : Nat) (0 : Nat) (2 : Nat), AV.v (Value.int IntKind.i64 (↑(2 : Nat) : Int)), AV.v
    (Value.int IntKind.i64 (0 : Int)), AV.any] [AV.v (Value.int IntKind.i64 x.f), AV.v (Value.int IntKind.u32 x.bad), AV.sl (4 : Nat) (List.length (X4.mk x.f x.bad x.acts x.view x.sx x.sy
    x.l x.j x.gv (addS x.sn (List.getD x.acts x.i default).v) (nC x.gv x.sn (List.getD x.acts x.i default).v x.n) x.who x.seen x.i).acts) (lsF Ac.c (X4.mk x.f x.bad x.acts x.view x.sx x.sy
    x.l x.j x.gv (addS x.sn (List.getD x.acts x.i default).v) (nC x.gv x.sn (List.getD x.acts x.i default).v x.n) x.who x.seen x.i).acts), AV.v (Value.int IntKind.i64 x.view), AV.v
    (Value.int IntKind.u32 x.sx), AV.v (Value.int IntKind.u32 x.sy), AV.ptr (0 : Nat) (0 : Nat), AV.ptr (3 : Nat) (0 : Nat), AV.v (Value.int IntKind.i64 x.who), AV.sb x.seen, AV.v (Value.int
    IntKind.i64 (↑x.i : Int)), AV.hs (5 : Nat) (0 : Nat) (2 : Nat), AV.v (Value.int IntKind.i64 (2 : Int)), AV.v (Value.int IntKind.i64 (↑(0 : Nat) : Int)), AV.any] ∧ LeH [some (Blk.row
    [AV.v (Value.int IntKind.i64 x.f), AV.v (Value.int IntKind.u32 x.bad), AV.map (1 : Nat), AV.hs (2 : Nat) (0 : Nat) (List.length x.l)]), some (Blk.mp [Cel.int IntKind.i64, Cel.int
    IntKind.i64, Cel.int IntKind.i64, Cel.int IntKind.i64, Cel.int IntKind.i64, Cel.int IntKind.i64, Cel.int IntKind.i64, Cel.int IntKind.i64, Cel.int IntKind.i64, Cel.int IntKind.i64,
    Cel.int IntKind.i64] true false (List.length x.l) (hasS x.l) anyV), some (Blk.arr (11 : Nat) (List.length (x.l ++ x.j)) (lsF Sh.c (x.l ++ x.j))), some (Blk.row [AV.v (Value.int
    IntKind.i64 x.f), AV.map (4 : Nat)]), some (Blk.mp [Cel.int IntKind.i64] false true x.n (hasC x.gv x.sn) (valC x.f x.gv x.sn)), some (Blk.arr (1 : Nat) (2 : Nat) fun x_1 => [AV.v
    (Value.int IntKind.u32 (bif Nat.beq x_1 (0 : Nat) then x.sx else bif Nat.beq x_1 (1 : Nat) then x.sy else (0 : Int)))])] [some (Blk.row [AV.v (Value.int IntKind.i64 x.f), AV.v (Value.int
    IntKind.u32 x.bad), AV.map (1 : Nat), AV.hs (2 : Nat) (0 : Nat) (List.length (X4.mk x.f x.bad x.acts x.view x.sx x.sy x.l x.j x.gv (addS x.sn (List.getD x.acts x.i default).v) (nC x.gv
    x.sn (List.getD x.acts x.i default).v x.n) x.who x.seen x.i).l)]), some (Blk.mp [Cel.int IntKind.i64, Cel.int IntKind.i64, Cel.int IntKind.i64, Cel.int IntKind.i64, Cel.int IntKind.i64,
    Cel.int IntKind.i64, Cel.int IntKind.i64, Cel.int IntKind.i64, Cel.int IntKind.i64, Cel.int IntKind.i64, Cel.int IntKind.i64] true false (List.length (X4.mk x.f x.bad x.acts x.view x.sx
    x.sy x.l x.j x.gv (addS x.sn (List.getD x.acts x.i default).v) (nC x.gv x.sn (List.getD x.acts x.i default).v x.n) x.who x.seen x.i).l) (hasS (X4.mk x.f x.bad x.acts x.view x.sx x.sy x.l
    x.j x.gv (addS x.sn (List.getD x.acts x.i default).v) (nC x.gv x.sn (List.getD x.acts x.i default).v x.n) x.who x.seen x.i).l) anyV), some (Blk.arr (11 : Nat) (List.length ((X4.mk x.f
    x.bad x.acts x.view x.sx x.sy x.l x.j x.gv (addS x.sn (List.getD x.acts x.i default).v) (nC x.gv x.sn (List.getD x.acts x.i default).v x.n) x.who x.seen x.i).l ++ (X4.mk x.f x.bad x.acts
    x.view x.sx x.sy x.l x.j x.gv (addS x.sn (List.getD x.acts x.i default).v) (nC x.gv x.sn (List.getD x.acts x.i default).v x.n) x.who x.seen x.i).j)) (lsF Sh.c ((X4.mk x.f x.bad x.acts
    x.view x.sx x.sy x.l x.j x.gv (addS x.sn (List.getD x.acts x.i default).v) (nC x.gv x.sn (List.getD x.acts x.i default).v x.n) x.who x.seen x.i).l ++ (X4.mk x.f x.bad x.acts x.view x.sx
    x.sy x.l x.j x.gv (addS x.sn (List.getD x.acts x.i default).v) (nC x.gv x.sn (List.getD x.acts x.i default).v x.n) x.who x.seen x.i).j))), some (Blk.row [AV.v (Value.int IntKind.i64
    x.f), AV.map (4 : Nat)]), some (Blk.mp [Cel.int IntKind.i64] false true (nC x.gv x.sn (List.getD x.acts x.i default).v x.n) (hasC (X4.mk x.f x.bad x.acts x.view x.sx x.sy x.l x.j x.gv
    (addS x.sn (List.getD x.acts x.i default).v) (nC x.gv x.sn (List.getD x.acts x.i default).v x.n) x.who x.seen x.i).gv (X4.mk x.f x.bad x.acts x.view x.sx x.sy x.l x.j x.gv (addS x.sn
    (List.getD x.acts x.i default).v) (nC x.gv x.sn (List.getD x.acts x.i default).v x.n) x.who x.seen x.i).sn) (valC (X4.mk x.f x.bad x.acts x.view x.sx x.sy x.l x.j x.gv (addS x.sn
    (List.getD x.acts x.i default).v) (nC x.gv x.sn (List.getD x.acts x.i default).v x.n) x.who x.seen x.i).f (X4.mk x.f x.bad x.acts x.view x.sx x.sy x.l x.j x.gv (addS x.sn (List.getD
    x.acts x.i default).v) (nC x.gv x.sn (List.getD x.acts x.i default).v x.n) x.who x.seen x.i).gv (X4.mk x.f x.bad x.acts x.view x.sx x.sy x.l x.j x.gv (addS x.sn (List.getD x.acts x.i
    default).v) (nC x.gv x.sn (List.getD x.acts x.i default).v x.n) x.who x.seen x.i).sn)), some (Blk.arr (1 : Nat) (2 : Nat) (lsF U32.c [(X4.mk x.f x.bad x.acts x.view x.sx x.sy x.l x.j
    x.gv (addS x.sn (List.getD x.acts x.i default).v) (nC x.gv x.sn (List.getD x.acts x.i default).v x.n) x.who x.seen x.i).sx, (X4.mk x.f x.bad x.acts x.view x.sx x.sy x.l x.j x.gv (addS
    x.sn (List.getD x.acts x.i default).v) (nC x.gv x.sn (List.getD x.acts x.i default).v x.n) x.who x.seen x.i).sy]))])) (Tree.leaf (Out.mk AEx.normal [AV.v (Value.int IntKind.i64 x'.f),
    AV.v (Value.int IntKind.u32 x'.bad), AV.sl (4 : Nat) (List.length x'.acts) (lsF Ac.c x'.acts), AV.v (Value.int IntKind.i64 x'.view), AV.v (Value.int IntKind.u32 x'.sx), AV.v (Value.int
    IntKind.u32 x'.sy), AV.ptr (0 : Nat) (0 : Nat), AV.ptr (3 : Nat) (0 : Nat), AV.v (Value.int IntKind.i64 x'.who), AV.sb x'.seen, AV.v (Value.int IntKind.i64 (IntKind.wrap IntKind.i64
    ((↑x'.i : Int) + (1 : Int)))), AV.any] [some (Blk.row [AV.v (Value.int IntKind.i64 x'.f), AV.v (Value.int IntKind.u32 x'.bad), AV.map (1 : Nat), AV.hs (2 : Nat) (0 : Nat) (List.length
    x'.l)]), some (Blk.mp [Cel.int IntKind.i64, Cel.int IntKind.i64, Cel.int IntKind.i64, Cel.int IntKind.i64, Cel.int IntKind.i64, Cel.int IntKind.i64, Cel.int IntKind.i64, Cel.int
    IntKind.i64, Cel.int IntKind.i64, Cel.int IntKind.i64, Cel.int IntKind.i64] true false (List.length x'.l) (hasS x'.l) anyV), some (Blk.arr (11 : Nat) (List.length (x'.l ++ x'.j)) (lsF
    Sh.c (x'.l ++ x'.j))), some (Blk.row [AV.v (Value.int IntKind.i64 x'.f), AV.map (4 : Nat)]), some (Blk.mp [Cel.int IntKind.i64] false true x'.n (hasC x'.gv x'.sn) (valC x'.f x'.gv
    x'.sn))]))))))) (Tree.leaf (Out.mk (AEx.exit (0 : Nat)) [AV.v (Value.int IntKind.i64 x.f), AV.v (Value.int IntKind.u32 x.bad), AV.sl (4 : Nat) (List.length x.acts) (lsF Ac.c x.acts),
    AV.v (Value.int IntKind.i64 x.view), AV.v (Value.int IntKind.u32 x.sx), AV.v (Value.int IntKind.u32 x.sy), AV.ptr (0 : Nat) (0 : Nat), AV.ptr (3 : Nat) (0 : Nat), AV.v (Value.int
    IntKind.i64 x.who), AV.sb x.seen, AV.v (Value.int IntKind.i64 (↑x.i : Int)), AV.any] [some (Blk.row [AV.v (Value.int IntKind.i64 x.f), AV.v (Value.int IntKind.u32 x.bad), AV.map (1 :
    Nat), AV.hs (2 : Nat) (0 : Nat) (List.length x.l)]), some (Blk.mp [Cel.int IntKind.i64, Cel.int IntKind.i64, Cel.int IntKind.i64, Cel.int IntKind.i64, Cel.int IntKind.i64, Cel.int
    IntKind.i64, Cel.int IntKind.i64, Cel.int IntKind.i64, Cel.int IntKind.i64, Cel.int IntKind.i64, Cel.int IntKind.i64] true false (List.length x.l) (hasS x.l) anyV), some (Blk.arr (11 :
    Nat) (List.length (x.l ++ x.j)) (lsF Sh.c (x.l ++ x.j))), some (Blk.row [AV.v (Value.int IntKind.i64 x.f), AV.map (4 : Nat)]), some (Blk.mp [Cel.int IntKind.i64] false true x.n (hasC
    x.gv x.sn) (valC x.f x.gv x.sn))])) := by kernel_rfl
theorem oiOut (x x' : X4) (h : outS x.f (shC x)) : roundE (P := Tryd.prog) (Γ := Γc) [k15, CT.at 16 (ansIssueOut (f := x.f) (bad := x.bad) (l := x.l) (j := x.j) h)] (L41 x x') false 0 0 (lp4 0) lv41 nl41 131 (S41 x).1 (S41 x).2 =
  Tree.br (decide ((↑x.i : Int) < (↑(List.length x.acts) : Int))) (Tree.chk (decide ((0 : Int) ≤ (↑x.i : Int)) && decide ((↑x.i : Int) < (↑(List.length x.acts) : Int))) (Tree.br (decide
    ((List.getD x.acts x.i default).k = (0 : Int))) Tree.fail (Tree.br (decide ((List.getD x.acts x.i default).k = (1 : Int))) Tree.fail (Tree.br (decide ((List.getD x.acts x.i default).k =
    (2 : Int))) (Tree.chk (cl (LeL [AV.ptr (0 : Nat) (0 : Nat), AV.agg [AV.v (Value.int IntKind.i64 (List.getD x.acts x.i default).w), AV.v (Value.int IntKind.i64 (5 : Int)), AV.v (Value.int
    IntKind.i64 (0 : Int)), AV.v (Value.int IntKind.i64 (List.getD x.acts x.i default).v), AV.v (Value.int IntKind.i64 (0 : Int)), AV.v (Value.int IntKind.i64 (0 : Int)), AV.v (Value.int
    IntKind.i64 (0 : Int)), AV.v (Value.int IntKind.i64 (0 : Int)), AV.v (Value.int IntKind.i64 (0 : Int)), AV.v (Value.int IntKind.i64 (0 : Int)), AV.v (Value.int IntKind.i64 (0 : Int))]]
    [AV.ptr (0 : Nat) (0 : Nat), AV.agg [AV.v (Value.int IntKind.i64 (List.getD x.acts x.i default).w), AV.v (Value.int IntKind.i64 (5 : Int)), AV.v (Value.int IntKind.i64 (0 : Int)), AV.v
    (Value.int IntKind.i64 (List.getD x.acts x.i default).v), AV.v (Value.int IntKind.i64 (0 : Int)), AV.v (Value.int IntKind.i64 (0 : Int)), AV.v (Value.int IntKind.i64 (0 : Int)), AV.v
    (Value.int IntKind.i64 (0 : Int)), AV.v (Value.int IntKind.i64 (0 : Int)), AV.v (Value.int IntKind.i64 (0 : Int)), AV.v (Value.int IntKind.i64 (0 : Int))]] ∧ LeH [some (Blk.row [AV.v
    (Value.int IntKind.i64 x.f), AV.v (Value.int IntKind.u32 x.bad), AV.map (1 : Nat), AV.hs (2 : Nat) (0 : Nat) (List.length x.l)]), some (Blk.mp [Cel.int IntKind.i64, Cel.int IntKind.i64,
    Cel.int IntKind.i64, Cel.int IntKind.i64, Cel.int IntKind.i64, Cel.int IntKind.i64, Cel.int IntKind.i64, Cel.int IntKind.i64, Cel.int IntKind.i64, Cel.int IntKind.i64, Cel.int
    IntKind.i64] true false (List.length x.l) (hasS x.l) anyV), some (Blk.arr (11 : Nat) (List.length (x.l ++ x.j)) (lsF Sh.c (x.l ++ x.j)))] [some (Blk.row [AV.v (Value.int IntKind.i64
    x.f), AV.v (Value.int IntKind.u32 x.bad), AV.map (1 : Nat), AV.hs (2 : Nat) (0 : Nat) (List.length x.l)]), some (Blk.mp [Cel.int IntKind.i64, Cel.int IntKind.i64, Cel.int IntKind.i64,
    Cel.int IntKind.i64, Cel.int IntKind.i64, Cel.int IntKind.i64, Cel.int IntKind.i64, Cel.int IntKind.i64, Cel.int IntKind.i64, Cel.int IntKind.i64, Cel.int IntKind.i64] true false
    (List.length x.l) (hasS x.l) anyV), some (Blk.arr (11 : Nat) (List.length (x.l ++ x.j)) (lsF Sh.c (x.l ++ x.j)))])) (Tree.chk (cl (LeL [AV.v (Value.int IntKind.i64 x.f), AV.v (Value.int
    IntKind.u32 x.bad), AV.sl (4 : Nat) (List.length x.acts) (lsF Ac.c x.acts), AV.v (Value.int IntKind.i64 x.view), AV.v (Value.int IntKind.u32 x.sx), AV.v (Value.int IntKind.u32 x.sy),
    AV.ptr (0 : Nat) (0 : Nat), AV.ptr (3 : Nat) (0 : Nat), AV.v (Value.int IntKind.i64 x.who), AV.sb x.seen, AV.v (Value.int IntKind.i64 (↑x.i : Int)), AV.hs (5 : Nat) (0 : Nat) (2 : Nat),
    AV.v (Value.int IntKind.i64 (↑(2 : Nat) : Int)), AV.v (Value.int IntKind.i64 (0 : Int)), AV.any] [AV.v (Value.int IntKind.i64 x.f), AV.v (Value.int IntKind.u32 x.bad), AV.sl (4 : Nat)
    (List.length x.acts) (lsF Ac.c x.acts), AV.v (Value.int IntKind.i64 x.view), AV.v (Value.int IntKind.u32 x.sx), AV.v (Value.int IntKind.u32 x.sy), AV.ptr (0 : Nat) (0 : Nat), AV.ptr (3 :
    Nat) (0 : Nat), AV.v (Value.int IntKind.i64 x.who), AV.sb x.seen, AV.v (Value.int IntKind.i64 (↑x.i : Int)), AV.hs (5 : Nat) (0 : Nat) (2 : Nat), AV.v (Value.int IntKind.i64 (2 : Int)),
    AV.v (Value.int IntKind.i64 (↑(0 : Nat) : Int)), AV.any] ∧ LeH [some (Blk.row [AV.v (Value.int IntKind.i64 x.f), AV.v (Value.int IntKind.u32 x.bad), AV.map (1 : Nat), AV.hs (2 : Nat) (0
    : Nat) (List.length x.l)]), some (Blk.mp [Cel.int IntKind.i64, Cel.int IntKind.i64, Cel.int IntKind.i64, Cel.int IntKind.i64, Cel.int IntKind.i64, Cel.int IntKind.i64, Cel.int
    IntKind.i64, Cel.int IntKind.i64, Cel.int IntKind.i64, Cel.int IntKind.i64, Cel.int IntKind.i64] true false (List.length x.l) (hasS x.l) anyV), some (Blk.arr (11 : Nat) (List.length (x.l
    ++ x.j)) (lsF Sh.c (x.l ++ x.j))), some (Blk.row [AV.v (Value.int IntKind.i64 x.f), AV.map (4 : Nat)]), some (Blk.mp [Cel.int IntKind.i64] false true x.n (hasC x.gv x.sn) (valC x.f x.gv
    x.sn)), some (Blk.arr (1 : Nat) (2 : Nat) fun x_1 => [AV.v (Value.int IntKind.u32 (bif Nat.beq x_1 (0 : Nat) then x.sx else bif Nat.beq x_1 (1 : Nat) then x.sy else (0 : Int)))])] [some
    (Blk.row [AV.v (Value.int IntKind.i64 x.f), AV.v (Value.int IntKind.u32 x.bad), AV.map (1 : Nat), AV.hs (2 : Nat) (0 : Nat) (List.length x.l)]), some (Blk.mp [Cel.int IntKind.i64,
    Cel.int IntKind.i64, Cel.int IntKind.i64, Cel.int IntKind.i64, Cel.int IntKind.i64, Cel.int IntKind.i64, Cel.int IntKind.i64, Cel.int IntKind.i64, Cel.int IntKind.i64, Cel.int
    IntKind.i64, Cel.int IntKind.i64] true false (List.length x.l) (hasS x.l) anyV), some (Blk.arr (11 : Nat) (List.length (x.l ++ x.j)) (lsF Sh.c (x.l ++ x.j))), some (Blk.row [AV.v
    (Value.int IntKind.i64 x.f), AV.map (4 : Nat)]), some (Blk.mp [Cel.int IntKind.i64] false true x.n (hasC x.gv x.sn) (valC x.f x.gv x.sn)), some (Blk.arr (1 : Nat) (2 : Nat) (lsF U32.c
    [x.sx, x.sy]))])) (Tree.leaf (Out.mk AEx.normal [AV.v (Value.int IntKind.i64 x'.f), AV.v (Value.int IntKind.u32 x'.bad), AV.sl (4 : Nat) (List.length x'.acts) (lsF Ac.c x'.acts), AV.v
    (Value.int IntKind.i64 x'.view), AV.v (Value.int IntKind.u32 x'.sx), AV.v (Value.int IntKind.u32 x'.sy), AV.ptr (0 : Nat) (0 : Nat), AV.ptr (3 : Nat) (0 : Nat), AV.v (Value.int
    IntKind.i64 x'.who), AV.sb x'.seen, AV.v (Value.int IntKind.i64 (IntKind.wrap IntKind.i64 ((↑x'.i : Int) + (1 : Int)))), AV.any] [some (Blk.row [AV.v (Value.int IntKind.i64 x'.f), AV.v
    (Value.int IntKind.u32 x'.bad), AV.map (1 : Nat), AV.hs (2 : Nat) (0 : Nat) (List.length x'.l)]), some (Blk.mp [Cel.int IntKind.i64, Cel.int IntKind.i64, Cel.int IntKind.i64, Cel.int
    IntKind.i64, Cel.int IntKind.i64, Cel.int IntKind.i64, Cel.int IntKind.i64, Cel.int IntKind.i64, Cel.int IntKind.i64, Cel.int IntKind.i64, Cel.int IntKind.i64] true false (List.length
    x'.l) (hasS x'.l) anyV), some (Blk.arr (11 : Nat) (List.length (x'.l ++ x'.j)) (lsF Sh.c (x'.l ++ x'.j))), some (Blk.row [AV.v (Value.int IntKind.i64 x'.f), AV.map (4 : Nat)]), some
    (Blk.mp [Cel.int IntKind.i64] false true x'.n (hasC x'.gv x'.sn) (valC x'.f x'.gv x'.sn))])))) (Tree.chk (cl (LeL [AV.v (Value.int IntKind.i64 x.f), AV.v (Value.int IntKind.u32 x.bad),
    AV.sl (4 : Nat) (List.length x.acts) (lsF Ac.c x.acts), AV.v (Value.int IntKind.i64 x.view), AV.v (Value.int IntKind.u32 x.sx), AV.v (Value.int IntKind.u32 x.sy), AV.ptr (0 : Nat) (0 :
    Nat), AV.ptr (3 : Nat) (0 : Nat), AV.v (Value.int IntKind.i64 x.who), AV.sb x.seen, AV.v (Value.int IntKind.i64 (↑x.i : Int)), AV.hs (5 : Nat) (0 : Nat) (2 : Nat), AV.v (Value.int
    IntKind.i64 (↑(2 : Nat) : Int)), AV.v (Value.int IntKind.i64 (0 : Int)), AV.any] [AV.v (Value.int IntKind.i64 x.f), AV.v (Value.int IntKind.u32 x.bad), AV.sl (4 : Nat) (List.length
    x.acts) (lsF Ac.c x.acts), AV.v (Value.int IntKind.i64 x.view), AV.v (Value.int IntKind.u32 x.sx), AV.v (Value.int IntKind.u32 x.sy), AV.ptr (0 : Nat) (0 : Nat), AV.ptr (3 : Nat) (0 :
    Nat), AV.v (Value.int IntKind.i64 x.who), AV.sb x.seen, AV.v (Value.int IntKind.i64 (↑x.i : Int)), AV.hs (5 : Nat) (0 : Nat) (2 : Nat), AV.v (Value.int IntKind.i64 (2 : Int)), AV.v
    (Value.int IntKind.i64 (↑(0 : Nat) : Int)), AV.any] ∧ LeH [some (Blk.row [AV.v (Value.int IntKind.i64 x.f), AV.v (Value.int IntKind.u32 x.bad), AV.map (1 : Nat), AV.hs (2 : Nat) (0 :
    Nat) (List.length x.l)]), some (Blk.mp [Cel.int IntKind.i64, Cel.int IntKind.i64, Cel.int IntKind.i64, Cel.int IntKind.i64, Cel.int IntKind.i64, Cel.int IntKind.i64, Cel.int IntKind.i64,
    Cel.int IntKind.i64, Cel.int IntKind.i64, Cel.int IntKind.i64, Cel.int IntKind.i64] true false (List.length x.l) (hasS x.l) anyV), some (Blk.arr (11 : Nat) (List.length (x.l ++ x.j))
    (lsF Sh.c (x.l ++ x.j))), some (Blk.row [AV.v (Value.int IntKind.i64 x.f), AV.map (4 : Nat)]), some (Blk.mp [Cel.int IntKind.i64] false true x.n (hasC x.gv x.sn) (valC x.f x.gv x.sn)),
    some (Blk.arr (1 : Nat) (2 : Nat) fun x_1 => [AV.v (Value.int IntKind.u32 (bif Nat.beq x_1 (0 : Nat) then x.sx else bif Nat.beq x_1 (1 : Nat) then x.sy else (0 : Int)))])] [some (Blk.row
    [AV.v (Value.int IntKind.i64 x.f), AV.v (Value.int IntKind.u32 x.bad), AV.map (1 : Nat), AV.hs (2 : Nat) (0 : Nat) (List.length x.l)]), some (Blk.mp [Cel.int IntKind.i64, Cel.int
    IntKind.i64, Cel.int IntKind.i64, Cel.int IntKind.i64, Cel.int IntKind.i64, Cel.int IntKind.i64, Cel.int IntKind.i64, Cel.int IntKind.i64, Cel.int IntKind.i64, Cel.int IntKind.i64,
    Cel.int IntKind.i64] true false (List.length x.l) (hasS x.l) anyV), some (Blk.arr (11 : Nat) (List.length (x.l ++ x.j)) (lsF Sh.c (x.l ++ x.j))), some (Blk.row [AV.v (Value.int
    IntKind.i64 x.f), AV.map (4 : Nat)]), some (Blk.mp [Cel.int IntKind.i64] false true x.n (hasC x.gv x.sn) (valC x.f x.gv x.sn)), some (Blk.arr (1 : Nat) (2 : Nat) (lsF U32.c [x.sx,
    x.sy]))])) (Tree.leaf (Out.mk AEx.normal [AV.v (Value.int IntKind.i64 x'.f), AV.v (Value.int IntKind.u32 x'.bad), AV.sl (4 : Nat) (List.length x'.acts) (lsF Ac.c x'.acts), AV.v
    (Value.int IntKind.i64 x'.view), AV.v (Value.int IntKind.u32 x'.sx), AV.v (Value.int IntKind.u32 x'.sy), AV.ptr (0 : Nat) (0 : Nat), AV.ptr (3 : Nat) (0 : Nat), AV.v (Value.int
    IntKind.i64 x'.who), AV.sb x'.seen, AV.v (Value.int IntKind.i64 (IntKind.wrap IntKind.i64 ((↑x'.i : Int) + (1 : Int)))), AV.any] [some (Blk.row [AV.v (Value.int IntKind.i64 x'.f), AV.v
    (Value.int IntKind.u32 x'.bad), AV.map (1 : Nat), AV.hs (2 : Nat) (0 : Nat) (List.length x'.l)]), some (Blk.mp [Cel.int IntKind.i64, Cel.int IntKind.i64, Cel.int IntKind.i64, Cel.int
    IntKind.i64, Cel.int IntKind.i64, Cel.int IntKind.i64, Cel.int IntKind.i64, Cel.int IntKind.i64, Cel.int IntKind.i64, Cel.int IntKind.i64, Cel.int IntKind.i64] true false (List.length
    x'.l) (hasS x'.l) anyV), some (Blk.arr (11 : Nat) (List.length (x'.l ++ x'.j)) (lsF Sh.c (x'.l ++ x'.j))), some (Blk.row [AV.v (Value.int IntKind.i64 x'.f), AV.map (4 : Nat)]), some
    (Blk.mp [Cel.int IntKind.i64] false true x'.n (hasC x'.gv x'.sn) (valC x'.f x'.gv x'.sn))]))))))) (Tree.leaf (Out.mk (AEx.exit (0 : Nat)) [AV.v (Value.int IntKind.i64 x.f), AV.v
    (Value.int IntKind.u32 x.bad), AV.sl (4 : Nat) (List.length x.acts) (lsF Ac.c x.acts), AV.v (Value.int IntKind.i64 x.view), AV.v (Value.int IntKind.u32 x.sx), AV.v (Value.int IntKind.u32
    x.sy), AV.ptr (0 : Nat) (0 : Nat), AV.ptr (3 : Nat) (0 : Nat), AV.v (Value.int IntKind.i64 x.who), AV.sb x.seen, AV.v (Value.int IntKind.i64 (↑x.i : Int)), AV.any] [some (Blk.row [AV.v
    (Value.int IntKind.i64 x.f), AV.v (Value.int IntKind.u32 x.bad), AV.map (1 : Nat), AV.hs (2 : Nat) (0 : Nat) (List.length x.l)]), some (Blk.mp [Cel.int IntKind.i64, Cel.int IntKind.i64,
    Cel.int IntKind.i64, Cel.int IntKind.i64, Cel.int IntKind.i64, Cel.int IntKind.i64, Cel.int IntKind.i64, Cel.int IntKind.i64, Cel.int IntKind.i64, Cel.int IntKind.i64, Cel.int
    IntKind.i64] true false (List.length x.l) (hasS x.l) anyV), some (Blk.arr (11 : Nat) (List.length (x.l ++ x.j)) (lsF Sh.c (x.l ++ x.j))), some (Blk.row [AV.v (Value.int IntKind.i64 x.f),
    AV.map (4 : Nat)]), some (Blk.mp [Cel.int IntKind.i64] false true x.n (hasC x.gv x.sn) (valC x.f x.gv x.sn))])) := by kernel_rfl
theorem oiThere (x x' : X4) (h : ¬ outS x.f (shC x)) (hx : shC x ∈ x.l) : roundE (P := Tryd.prog) (Γ := Γc) [k15, CT.at 16 (ansIssueThere (f := x.f) (bad := x.bad) (l := x.l) (j := x.j) h hx)] (L41 x x') false 0 0 (lp4 0) lv41 nl41 131 (S41 x).1 (S41 x).2 =
  Tree.br (decide ((↑x.i : Int) < (↑(List.length x.acts) : Int))) (Tree.chk (decide ((0 : Int) ≤ (↑x.i : Int)) && decide ((↑x.i : Int) < (↑(List.length x.acts) : Int))) (Tree.br (decide
    ((List.getD x.acts x.i default).k = (0 : Int))) Tree.fail (Tree.br (decide ((List.getD x.acts x.i default).k = (1 : Int))) Tree.fail (Tree.br (decide ((List.getD x.acts x.i default).k =
    (2 : Int))) (Tree.chk (cl (LeL [AV.ptr (0 : Nat) (0 : Nat), AV.agg [AV.v (Value.int IntKind.i64 (List.getD x.acts x.i default).w), AV.v (Value.int IntKind.i64 (5 : Int)), AV.v (Value.int
    IntKind.i64 (0 : Int)), AV.v (Value.int IntKind.i64 (List.getD x.acts x.i default).v), AV.v (Value.int IntKind.i64 (0 : Int)), AV.v (Value.int IntKind.i64 (0 : Int)), AV.v (Value.int
    IntKind.i64 (0 : Int)), AV.v (Value.int IntKind.i64 (0 : Int)), AV.v (Value.int IntKind.i64 (0 : Int)), AV.v (Value.int IntKind.i64 (0 : Int)), AV.v (Value.int IntKind.i64 (0 : Int))]]
    [AV.ptr (0 : Nat) (0 : Nat), AV.agg [AV.v (Value.int IntKind.i64 (List.getD x.acts x.i default).w), AV.v (Value.int IntKind.i64 (5 : Int)), AV.v (Value.int IntKind.i64 (0 : Int)), AV.v
    (Value.int IntKind.i64 (List.getD x.acts x.i default).v), AV.v (Value.int IntKind.i64 (0 : Int)), AV.v (Value.int IntKind.i64 (0 : Int)), AV.v (Value.int IntKind.i64 (0 : Int)), AV.v
    (Value.int IntKind.i64 (0 : Int)), AV.v (Value.int IntKind.i64 (0 : Int)), AV.v (Value.int IntKind.i64 (0 : Int)), AV.v (Value.int IntKind.i64 (0 : Int))]] ∧ LeH [some (Blk.row [AV.v
    (Value.int IntKind.i64 x.f), AV.v (Value.int IntKind.u32 x.bad), AV.map (1 : Nat), AV.hs (2 : Nat) (0 : Nat) (List.length x.l)]), some (Blk.mp [Cel.int IntKind.i64, Cel.int IntKind.i64,
    Cel.int IntKind.i64, Cel.int IntKind.i64, Cel.int IntKind.i64, Cel.int IntKind.i64, Cel.int IntKind.i64, Cel.int IntKind.i64, Cel.int IntKind.i64, Cel.int IntKind.i64, Cel.int
    IntKind.i64] true false (List.length x.l) (hasS x.l) anyV), some (Blk.arr (11 : Nat) (List.length (x.l ++ x.j)) (lsF Sh.c (x.l ++ x.j)))] [some (Blk.row [AV.v (Value.int IntKind.i64
    x.f), AV.v (Value.int IntKind.u32 x.bad), AV.map (1 : Nat), AV.hs (2 : Nat) (0 : Nat) (List.length x.l)]), some (Blk.mp [Cel.int IntKind.i64, Cel.int IntKind.i64, Cel.int IntKind.i64,
    Cel.int IntKind.i64, Cel.int IntKind.i64, Cel.int IntKind.i64, Cel.int IntKind.i64, Cel.int IntKind.i64, Cel.int IntKind.i64, Cel.int IntKind.i64, Cel.int IntKind.i64] true false
    (List.length x.l) (hasS x.l) anyV), some (Blk.arr (11 : Nat) (List.length (x.l ++ x.j)) (lsF Sh.c (x.l ++ x.j)))])) (Tree.chk (cl (LeL [AV.v (Value.int IntKind.i64 x.f), AV.v (Value.int
    IntKind.u32 x.bad), AV.sl (4 : Nat) (List.length x.acts) (lsF Ac.c x.acts), AV.v (Value.int IntKind.i64 x.view), AV.v (Value.int IntKind.u32 x.sx), AV.v (Value.int IntKind.u32 x.sy),
    AV.ptr (0 : Nat) (0 : Nat), AV.ptr (3 : Nat) (0 : Nat), AV.v (Value.int IntKind.i64 x.who), AV.sb x.seen, AV.v (Value.int IntKind.i64 (↑x.i : Int)), AV.hs (5 : Nat) (0 : Nat) (2 : Nat),
    AV.v (Value.int IntKind.i64 (↑(2 : Nat) : Int)), AV.v (Value.int IntKind.i64 (0 : Int)), AV.any] [AV.v (Value.int IntKind.i64 x.f), AV.v (Value.int IntKind.u32 x.bad), AV.sl (4 : Nat)
    (List.length x.acts) (lsF Ac.c x.acts), AV.v (Value.int IntKind.i64 x.view), AV.v (Value.int IntKind.u32 x.sx), AV.v (Value.int IntKind.u32 x.sy), AV.ptr (0 : Nat) (0 : Nat), AV.ptr (3 :
    Nat) (0 : Nat), AV.v (Value.int IntKind.i64 x.who), AV.sb x.seen, AV.v (Value.int IntKind.i64 (↑x.i : Int)), AV.hs (5 : Nat) (0 : Nat) (2 : Nat), AV.v (Value.int IntKind.i64 (2 : Int)),
    AV.v (Value.int IntKind.i64 (↑(0 : Nat) : Int)), AV.any] ∧ LeH [some (Blk.row [AV.v (Value.int IntKind.i64 x.f), AV.v (Value.int IntKind.u32 x.bad), AV.map (1 : Nat), AV.hs (2 : Nat) (0
    : Nat) (List.length x.l)]), some (Blk.mp [Cel.int IntKind.i64, Cel.int IntKind.i64, Cel.int IntKind.i64, Cel.int IntKind.i64, Cel.int IntKind.i64, Cel.int IntKind.i64, Cel.int
    IntKind.i64, Cel.int IntKind.i64, Cel.int IntKind.i64, Cel.int IntKind.i64, Cel.int IntKind.i64] true false (List.length x.l) (hasS x.l) anyV), some (Blk.arr (11 : Nat) (List.length (x.l
    ++ x.j)) (lsF Sh.c (x.l ++ x.j))), some (Blk.row [AV.v (Value.int IntKind.i64 x.f), AV.map (4 : Nat)]), some (Blk.mp [Cel.int IntKind.i64] false true x.n (hasC x.gv x.sn) (valC x.f x.gv
    x.sn)), some (Blk.arr (1 : Nat) (2 : Nat) fun x_1 => [AV.v (Value.int IntKind.u32 (bif Nat.beq x_1 (0 : Nat) then x.sx else bif Nat.beq x_1 (1 : Nat) then x.sy else (0 : Int)))])] [some
    (Blk.row [AV.v (Value.int IntKind.i64 x.f), AV.v (Value.int IntKind.u32 x.bad), AV.map (1 : Nat), AV.hs (2 : Nat) (0 : Nat) (List.length x.l)]), some (Blk.mp [Cel.int IntKind.i64,
    Cel.int IntKind.i64, Cel.int IntKind.i64, Cel.int IntKind.i64, Cel.int IntKind.i64, Cel.int IntKind.i64, Cel.int IntKind.i64, Cel.int IntKind.i64, Cel.int IntKind.i64, Cel.int
    IntKind.i64, Cel.int IntKind.i64] true false (List.length x.l) (hasS x.l) anyV), some (Blk.arr (11 : Nat) (List.length (x.l ++ x.j)) (lsF Sh.c (x.l ++ x.j))), some (Blk.row [AV.v
    (Value.int IntKind.i64 x.f), AV.map (4 : Nat)]), some (Blk.mp [Cel.int IntKind.i64] false true x.n (hasC x.gv x.sn) (valC x.f x.gv x.sn)), some (Blk.arr (1 : Nat) (2 : Nat) (lsF U32.c
    [x.sx, x.sy]))])) (Tree.leaf (Out.mk AEx.normal [AV.v (Value.int IntKind.i64 x'.f), AV.v (Value.int IntKind.u32 x'.bad), AV.sl (4 : Nat) (List.length x'.acts) (lsF Ac.c x'.acts), AV.v
    (Value.int IntKind.i64 x'.view), AV.v (Value.int IntKind.u32 x'.sx), AV.v (Value.int IntKind.u32 x'.sy), AV.ptr (0 : Nat) (0 : Nat), AV.ptr (3 : Nat) (0 : Nat), AV.v (Value.int
    IntKind.i64 x'.who), AV.sb x'.seen, AV.v (Value.int IntKind.i64 (IntKind.wrap IntKind.i64 ((↑x'.i : Int) + (1 : Int)))), AV.any] [some (Blk.row [AV.v (Value.int IntKind.i64 x'.f), AV.v
    (Value.int IntKind.u32 x'.bad), AV.map (1 : Nat), AV.hs (2 : Nat) (0 : Nat) (List.length x'.l)]), some (Blk.mp [Cel.int IntKind.i64, Cel.int IntKind.i64, Cel.int IntKind.i64, Cel.int
    IntKind.i64, Cel.int IntKind.i64, Cel.int IntKind.i64, Cel.int IntKind.i64, Cel.int IntKind.i64, Cel.int IntKind.i64, Cel.int IntKind.i64, Cel.int IntKind.i64] true false (List.length
    x'.l) (hasS x'.l) anyV), some (Blk.arr (11 : Nat) (List.length (x'.l ++ x'.j)) (lsF Sh.c (x'.l ++ x'.j))), some (Blk.row [AV.v (Value.int IntKind.i64 x'.f), AV.map (4 : Nat)]), some
    (Blk.mp [Cel.int IntKind.i64] false true x'.n (hasC x'.gv x'.sn) (valC x'.f x'.gv x'.sn))])))) (Tree.chk (cl (LeL [AV.v (Value.int IntKind.i64 x.f), AV.v (Value.int IntKind.u32 x.bad),
    AV.sl (4 : Nat) (List.length x.acts) (lsF Ac.c x.acts), AV.v (Value.int IntKind.i64 x.view), AV.v (Value.int IntKind.u32 x.sx), AV.v (Value.int IntKind.u32 x.sy), AV.ptr (0 : Nat) (0 :
    Nat), AV.ptr (3 : Nat) (0 : Nat), AV.v (Value.int IntKind.i64 x.who), AV.sb x.seen, AV.v (Value.int IntKind.i64 (↑x.i : Int)), AV.hs (5 : Nat) (0 : Nat) (2 : Nat), AV.v (Value.int
    IntKind.i64 (↑(2 : Nat) : Int)), AV.v (Value.int IntKind.i64 (0 : Int)), AV.any] [AV.v (Value.int IntKind.i64 x.f), AV.v (Value.int IntKind.u32 x.bad), AV.sl (4 : Nat) (List.length
    x.acts) (lsF Ac.c x.acts), AV.v (Value.int IntKind.i64 x.view), AV.v (Value.int IntKind.u32 x.sx), AV.v (Value.int IntKind.u32 x.sy), AV.ptr (0 : Nat) (0 : Nat), AV.ptr (3 : Nat) (0 :
    Nat), AV.v (Value.int IntKind.i64 x.who), AV.sb x.seen, AV.v (Value.int IntKind.i64 (↑x.i : Int)), AV.hs (5 : Nat) (0 : Nat) (2 : Nat), AV.v (Value.int IntKind.i64 (2 : Int)), AV.v
    (Value.int IntKind.i64 (↑(0 : Nat) : Int)), AV.any] ∧ LeH [some (Blk.row [AV.v (Value.int IntKind.i64 x.f), AV.v (Value.int IntKind.u32 x.bad), AV.map (1 : Nat), AV.hs (2 : Nat) (0 :
    Nat) (List.length x.l)]), some (Blk.mp [Cel.int IntKind.i64, Cel.int IntKind.i64, Cel.int IntKind.i64, Cel.int IntKind.i64, Cel.int IntKind.i64, Cel.int IntKind.i64, Cel.int IntKind.i64,
    Cel.int IntKind.i64, Cel.int IntKind.i64, Cel.int IntKind.i64, Cel.int IntKind.i64] true false (List.length x.l) (hasS x.l) anyV), some (Blk.arr (11 : Nat) (List.length (x.l ++ x.j))
    (lsF Sh.c (x.l ++ x.j))), some (Blk.row [AV.v (Value.int IntKind.i64 x.f), AV.map (4 : Nat)]), some (Blk.mp [Cel.int IntKind.i64] false true x.n (hasC x.gv x.sn) (valC x.f x.gv x.sn)),
    some (Blk.arr (1 : Nat) (2 : Nat) fun x_1 => [AV.v (Value.int IntKind.u32 (bif Nat.beq x_1 (0 : Nat) then x.sx else bif Nat.beq x_1 (1 : Nat) then x.sy else (0 : Int)))])] [some (Blk.row
    [AV.v (Value.int IntKind.i64 x.f), AV.v (Value.int IntKind.u32 x.bad), AV.map (1 : Nat), AV.hs (2 : Nat) (0 : Nat) (List.length x.l)]), some (Blk.mp [Cel.int IntKind.i64, Cel.int
    IntKind.i64, Cel.int IntKind.i64, Cel.int IntKind.i64, Cel.int IntKind.i64, Cel.int IntKind.i64, Cel.int IntKind.i64, Cel.int IntKind.i64, Cel.int IntKind.i64, Cel.int IntKind.i64,
    Cel.int IntKind.i64] true false (List.length x.l) (hasS x.l) anyV), some (Blk.arr (11 : Nat) (List.length (x.l ++ x.j)) (lsF Sh.c (x.l ++ x.j))), some (Blk.row [AV.v (Value.int
    IntKind.i64 x.f), AV.map (4 : Nat)]), some (Blk.mp [Cel.int IntKind.i64] false true x.n (hasC x.gv x.sn) (valC x.f x.gv x.sn)), some (Blk.arr (1 : Nat) (2 : Nat) (lsF U32.c [x.sx,
    x.sy]))])) (Tree.leaf (Out.mk AEx.normal [AV.v (Value.int IntKind.i64 x'.f), AV.v (Value.int IntKind.u32 x'.bad), AV.sl (4 : Nat) (List.length x'.acts) (lsF Ac.c x'.acts), AV.v
    (Value.int IntKind.i64 x'.view), AV.v (Value.int IntKind.u32 x'.sx), AV.v (Value.int IntKind.u32 x'.sy), AV.ptr (0 : Nat) (0 : Nat), AV.ptr (3 : Nat) (0 : Nat), AV.v (Value.int
    IntKind.i64 x'.who), AV.sb x'.seen, AV.v (Value.int IntKind.i64 (IntKind.wrap IntKind.i64 ((↑x'.i : Int) + (1 : Int)))), AV.any] [some (Blk.row [AV.v (Value.int IntKind.i64 x'.f), AV.v
    (Value.int IntKind.u32 x'.bad), AV.map (1 : Nat), AV.hs (2 : Nat) (0 : Nat) (List.length x'.l)]), some (Blk.mp [Cel.int IntKind.i64, Cel.int IntKind.i64, Cel.int IntKind.i64, Cel.int
    IntKind.i64, Cel.int IntKind.i64, Cel.int IntKind.i64, Cel.int IntKind.i64, Cel.int IntKind.i64, Cel.int IntKind.i64, Cel.int IntKind.i64, Cel.int IntKind.i64] true false (List.length
    x'.l) (hasS x'.l) anyV), some (Blk.arr (11 : Nat) (List.length (x'.l ++ x'.j)) (lsF Sh.c (x'.l ++ x'.j))), some (Blk.row [AV.v (Value.int IntKind.i64 x'.f), AV.map (4 : Nat)]), some
    (Blk.mp [Cel.int IntKind.i64] false true x'.n (hasC x'.gv x'.sn) (valC x'.f x'.gv x'.sn))]))))))) (Tree.leaf (Out.mk (AEx.exit (0 : Nat)) [AV.v (Value.int IntKind.i64 x.f), AV.v
    (Value.int IntKind.u32 x.bad), AV.sl (4 : Nat) (List.length x.acts) (lsF Ac.c x.acts), AV.v (Value.int IntKind.i64 x.view), AV.v (Value.int IntKind.u32 x.sx), AV.v (Value.int IntKind.u32
    x.sy), AV.ptr (0 : Nat) (0 : Nat), AV.ptr (3 : Nat) (0 : Nat), AV.v (Value.int IntKind.i64 x.who), AV.sb x.seen, AV.v (Value.int IntKind.i64 (↑x.i : Int)), AV.any] [some (Blk.row [AV.v
    (Value.int IntKind.i64 x.f), AV.v (Value.int IntKind.u32 x.bad), AV.map (1 : Nat), AV.hs (2 : Nat) (0 : Nat) (List.length x.l)]), some (Blk.mp [Cel.int IntKind.i64, Cel.int IntKind.i64,
    Cel.int IntKind.i64, Cel.int IntKind.i64, Cel.int IntKind.i64, Cel.int IntKind.i64, Cel.int IntKind.i64, Cel.int IntKind.i64, Cel.int IntKind.i64, Cel.int IntKind.i64, Cel.int
    IntKind.i64] true false (List.length x.l) (hasS x.l) anyV), some (Blk.arr (11 : Nat) (List.length (x.l ++ x.j)) (lsF Sh.c (x.l ++ x.j))), some (Blk.row [AV.v (Value.int IntKind.i64 x.f),
    AV.map (4 : Nat)]), some (Blk.mp [Cel.int IntKind.i64] false true x.n (hasC x.gv x.sn) (valC x.f x.gv x.sn))])) := by kernel_rfl
theorem oiNew (x x' : X4) (hl' : x.l.length ≤ 999999999) (h : ¬ outS x.f (shC x)) (hx : ¬ shC x ∈ x.l) : roundE (P := Tryd.prog) (Γ := Γc) [k15, CT.at 16 (ansIssueNew (f := x.f) (bad := x.bad) (l := x.l) (j := x.j) h hx hl')] (L41 ({ x with l := x.l ++ [shC x], j := [] }) x') false 0 0 (lp4 0) lv41 nl41 131 (S41 x).1 (S41 x).2 =
  Tree.br (decide ((↑x.i : Int) < (↑(List.length x.acts) : Int))) (Tree.chk (decide ((0 : Int) ≤ (↑x.i : Int)) && decide ((↑x.i : Int) < (↑(List.length x.acts) : Int))) (Tree.br (decide
    ((List.getD x.acts x.i default).k = (0 : Int))) Tree.fail (Tree.br (decide ((List.getD x.acts x.i default).k = (1 : Int))) Tree.fail (Tree.br (decide ((List.getD x.acts x.i default).k =
    (2 : Int))) (Tree.chk (cl (LeL [AV.ptr (0 : Nat) (0 : Nat), AV.agg [AV.v (Value.int IntKind.i64 (List.getD x.acts x.i default).w), AV.v (Value.int IntKind.i64 (5 : Int)), AV.v (Value.int
    IntKind.i64 (0 : Int)), AV.v (Value.int IntKind.i64 (List.getD x.acts x.i default).v), AV.v (Value.int IntKind.i64 (0 : Int)), AV.v (Value.int IntKind.i64 (0 : Int)), AV.v (Value.int
    IntKind.i64 (0 : Int)), AV.v (Value.int IntKind.i64 (0 : Int)), AV.v (Value.int IntKind.i64 (0 : Int)), AV.v (Value.int IntKind.i64 (0 : Int)), AV.v (Value.int IntKind.i64 (0 : Int))]]
    [AV.ptr (0 : Nat) (0 : Nat), AV.agg [AV.v (Value.int IntKind.i64 (List.getD x.acts x.i default).w), AV.v (Value.int IntKind.i64 (5 : Int)), AV.v (Value.int IntKind.i64 (0 : Int)), AV.v
    (Value.int IntKind.i64 (List.getD x.acts x.i default).v), AV.v (Value.int IntKind.i64 (0 : Int)), AV.v (Value.int IntKind.i64 (0 : Int)), AV.v (Value.int IntKind.i64 (0 : Int)), AV.v
    (Value.int IntKind.i64 (0 : Int)), AV.v (Value.int IntKind.i64 (0 : Int)), AV.v (Value.int IntKind.i64 (0 : Int)), AV.v (Value.int IntKind.i64 (0 : Int))]] ∧ LeH [some (Blk.row [AV.v
    (Value.int IntKind.i64 x.f), AV.v (Value.int IntKind.u32 x.bad), AV.map (1 : Nat), AV.hs (2 : Nat) (0 : Nat) (List.length x.l)]), some (Blk.mp [Cel.int IntKind.i64, Cel.int IntKind.i64,
    Cel.int IntKind.i64, Cel.int IntKind.i64, Cel.int IntKind.i64, Cel.int IntKind.i64, Cel.int IntKind.i64, Cel.int IntKind.i64, Cel.int IntKind.i64, Cel.int IntKind.i64, Cel.int
    IntKind.i64] true false (List.length x.l) (hasS x.l) anyV), some (Blk.arr (11 : Nat) (List.length (x.l ++ x.j)) (lsF Sh.c (x.l ++ x.j)))] [some (Blk.row [AV.v (Value.int IntKind.i64
    x.f), AV.v (Value.int IntKind.u32 x.bad), AV.map (1 : Nat), AV.hs (2 : Nat) (0 : Nat) (List.length x.l)]), some (Blk.mp [Cel.int IntKind.i64, Cel.int IntKind.i64, Cel.int IntKind.i64,
    Cel.int IntKind.i64, Cel.int IntKind.i64, Cel.int IntKind.i64, Cel.int IntKind.i64, Cel.int IntKind.i64, Cel.int IntKind.i64, Cel.int IntKind.i64, Cel.int IntKind.i64] true false
    (List.length x.l) (hasS x.l) anyV), some (Blk.arr (11 : Nat) (List.length (x.l ++ x.j)) (lsF Sh.c (x.l ++ x.j)))])) (Tree.chk (cl (LeL [AV.v (Value.int IntKind.i64 x.f), AV.v (Value.int
    IntKind.u32 x.bad), AV.sl (4 : Nat) (List.length x.acts) (lsF Ac.c x.acts), AV.v (Value.int IntKind.i64 x.view), AV.v (Value.int IntKind.u32 x.sx), AV.v (Value.int IntKind.u32 x.sy),
    AV.ptr (0 : Nat) (0 : Nat), AV.ptr (3 : Nat) (0 : Nat), AV.v (Value.int IntKind.i64 x.who), AV.sb x.seen, AV.v (Value.int IntKind.i64 (↑x.i : Int)), AV.hs (5 : Nat) (0 : Nat) (2 : Nat),
    AV.v (Value.int IntKind.i64 (↑(2 : Nat) : Int)), AV.v (Value.int IntKind.i64 (0 : Int)), AV.any] [AV.v (Value.int IntKind.i64 x.f), AV.v (Value.int IntKind.u32 x.bad), AV.sl (4 : Nat)
    (List.length (X4.mk x.f x.bad x.acts x.view x.sx x.sy (x.l ++ [shC x]) [] x.gv x.sn x.n x.who x.seen x.i).acts) (lsF Ac.c (X4.mk x.f x.bad x.acts x.view x.sx x.sy (x.l ++ [shC x]) []
    x.gv x.sn x.n x.who x.seen x.i).acts), AV.v (Value.int IntKind.i64 x.view), AV.v (Value.int IntKind.u32 x.sx), AV.v (Value.int IntKind.u32 x.sy), AV.ptr (0 : Nat) (0 : Nat), AV.ptr (3 :
    Nat) (0 : Nat), AV.v (Value.int IntKind.i64 x.who), AV.sb x.seen, AV.v (Value.int IntKind.i64 (↑x.i : Int)), AV.hs (5 : Nat) (0 : Nat) (2 : Nat), AV.v (Value.int IntKind.i64 (2 : Int)),
    AV.v (Value.int IntKind.i64 (↑(0 : Nat) : Int)), AV.any] ∧ LeH [some (Blk.row [AV.v (Value.int IntKind.i64 x.f), AV.v (Value.int IntKind.u32 x.bad), AV.map (1 : Nat), AV.hs (2 : Nat) (0
    : Nat) (List.length (x.l ++ [shC x]))]), some (Blk.mp [Cel.int IntKind.i64, Cel.int IntKind.i64, Cel.int IntKind.i64, Cel.int IntKind.i64, Cel.int IntKind.i64, Cel.int IntKind.i64,
    Cel.int IntKind.i64, Cel.int IntKind.i64, Cel.int IntKind.i64, Cel.int IntKind.i64, Cel.int IntKind.i64] true false (List.length (x.l ++ [shC x])) (hasS (x.l ++ [shC x])) anyV), some
    (Blk.arr (11 : Nat) (List.length (x.l ++ [shC x])) (lsF Sh.c (x.l ++ [shC x]))), some (Blk.row [AV.v (Value.int IntKind.i64 x.f), AV.map (4 : Nat)]), some (Blk.mp [Cel.int IntKind.i64]
    false true x.n (hasC x.gv x.sn) (valC x.f x.gv x.sn)), some (Blk.arr (1 : Nat) (2 : Nat) fun x_1 => [AV.v (Value.int IntKind.u32 (bif Nat.beq x_1 (0 : Nat) then x.sx else bif Nat.beq x_1
    (1 : Nat) then x.sy else (0 : Int)))])] [some (Blk.row [AV.v (Value.int IntKind.i64 x.f), AV.v (Value.int IntKind.u32 x.bad), AV.map (1 : Nat), AV.hs (2 : Nat) (0 : Nat) (List.length
    (X4.mk x.f x.bad x.acts x.view x.sx x.sy (x.l ++ [shC x]) [] x.gv x.sn x.n x.who x.seen x.i).l)]), some (Blk.mp [Cel.int IntKind.i64, Cel.int IntKind.i64, Cel.int IntKind.i64, Cel.int
    IntKind.i64, Cel.int IntKind.i64, Cel.int IntKind.i64, Cel.int IntKind.i64, Cel.int IntKind.i64, Cel.int IntKind.i64, Cel.int IntKind.i64, Cel.int IntKind.i64] true false (List.length
    (X4.mk x.f x.bad x.acts x.view x.sx x.sy (x.l ++ [shC x]) [] x.gv x.sn x.n x.who x.seen x.i).l) (hasS (X4.mk x.f x.bad x.acts x.view x.sx x.sy (x.l ++ [shC x]) [] x.gv x.sn x.n x.who
    x.seen x.i).l) anyV), some (Blk.arr (11 : Nat) (List.length ((X4.mk x.f x.bad x.acts x.view x.sx x.sy (x.l ++ [shC x]) [] x.gv x.sn x.n x.who x.seen x.i).l ++ (X4.mk x.f x.bad x.acts
    x.view x.sx x.sy (x.l ++ [shC x]) [] x.gv x.sn x.n x.who x.seen x.i).j)) (lsF Sh.c ((X4.mk x.f x.bad x.acts x.view x.sx x.sy (x.l ++ [shC x]) [] x.gv x.sn x.n x.who x.seen x.i).l ++
    (X4.mk x.f x.bad x.acts x.view x.sx x.sy (x.l ++ [shC x]) [] x.gv x.sn x.n x.who x.seen x.i).j))), some (Blk.row [AV.v (Value.int IntKind.i64 x.f), AV.map (4 : Nat)]), some (Blk.mp
    [Cel.int IntKind.i64] false true x.n (hasC (X4.mk x.f x.bad x.acts x.view x.sx x.sy (x.l ++ [shC x]) [] x.gv x.sn x.n x.who x.seen x.i).gv (X4.mk x.f x.bad x.acts x.view x.sx x.sy (x.l
    ++ [shC x]) [] x.gv x.sn x.n x.who x.seen x.i).sn) (valC (X4.mk x.f x.bad x.acts x.view x.sx x.sy (x.l ++ [shC x]) [] x.gv x.sn x.n x.who x.seen x.i).f (X4.mk x.f x.bad x.acts x.view
    x.sx x.sy (x.l ++ [shC x]) [] x.gv x.sn x.n x.who x.seen x.i).gv (X4.mk x.f x.bad x.acts x.view x.sx x.sy (x.l ++ [shC x]) [] x.gv x.sn x.n x.who x.seen x.i).sn)), some (Blk.arr (1 :
    Nat) (2 : Nat) (lsF U32.c [(X4.mk x.f x.bad x.acts x.view x.sx x.sy (x.l ++ [shC x]) [] x.gv x.sn x.n x.who x.seen x.i).sx, (X4.mk x.f x.bad x.acts x.view x.sx x.sy (x.l ++ [shC x]) []
    x.gv x.sn x.n x.who x.seen x.i).sy]))])) (Tree.leaf (Out.mk AEx.normal [AV.v (Value.int IntKind.i64 x'.f), AV.v (Value.int IntKind.u32 x'.bad), AV.sl (4 : Nat) (List.length x'.acts) (lsF
    Ac.c x'.acts), AV.v (Value.int IntKind.i64 x'.view), AV.v (Value.int IntKind.u32 x'.sx), AV.v (Value.int IntKind.u32 x'.sy), AV.ptr (0 : Nat) (0 : Nat), AV.ptr (3 : Nat) (0 : Nat), AV.v
    (Value.int IntKind.i64 x'.who), AV.sb x'.seen, AV.v (Value.int IntKind.i64 (IntKind.wrap IntKind.i64 ((↑x'.i : Int) + (1 : Int)))), AV.any] [some (Blk.row [AV.v (Value.int IntKind.i64
    x'.f), AV.v (Value.int IntKind.u32 x'.bad), AV.map (1 : Nat), AV.hs (2 : Nat) (0 : Nat) (List.length x'.l)]), some (Blk.mp [Cel.int IntKind.i64, Cel.int IntKind.i64, Cel.int IntKind.i64,
    Cel.int IntKind.i64, Cel.int IntKind.i64, Cel.int IntKind.i64, Cel.int IntKind.i64, Cel.int IntKind.i64, Cel.int IntKind.i64, Cel.int IntKind.i64, Cel.int IntKind.i64] true false
    (List.length x'.l) (hasS x'.l) anyV), some (Blk.arr (11 : Nat) (List.length (x'.l ++ x'.j)) (lsF Sh.c (x'.l ++ x'.j))), some (Blk.row [AV.v (Value.int IntKind.i64 x'.f), AV.map (4 :
    Nat)]), some (Blk.mp [Cel.int IntKind.i64] false true x'.n (hasC x'.gv x'.sn) (valC x'.f x'.gv x'.sn))])))) (Tree.chk (cl (LeL [AV.v (Value.int IntKind.i64 x.f), AV.v (Value.int
    IntKind.u32 x.bad), AV.sl (4 : Nat) (List.length x.acts) (lsF Ac.c x.acts), AV.v (Value.int IntKind.i64 x.view), AV.v (Value.int IntKind.u32 x.sx), AV.v (Value.int IntKind.u32 x.sy),
    AV.ptr (0 : Nat) (0 : Nat), AV.ptr (3 : Nat) (0 : Nat), AV.v (Value.int IntKind.i64 x.who), AV.sb x.seen, AV.v (Value.int IntKind.i64 (↑x.i : Int)), AV.hs (5 : Nat) (0 : Nat) (2 : Nat),
    AV.v (Value.int IntKind.i64 (↑(2 : Nat) : Int)), AV.v (Value.int IntKind.i64 (0 : Int)), AV.any] [AV.v (Value.int IntKind.i64 x.f), AV.v (Value.int IntKind.u32 x.bad), AV.sl (4 : Nat)
    (List.length (X4.mk x.f x.bad x.acts x.view x.sx x.sy (x.l ++ [shC x]) [] x.gv x.sn x.n x.who x.seen x.i).acts) (lsF Ac.c (X4.mk x.f x.bad x.acts x.view x.sx x.sy (x.l ++ [shC x]) []
    x.gv x.sn x.n x.who x.seen x.i).acts), AV.v (Value.int IntKind.i64 x.view), AV.v (Value.int IntKind.u32 x.sx), AV.v (Value.int IntKind.u32 x.sy), AV.ptr (0 : Nat) (0 : Nat), AV.ptr (3 :
    Nat) (0 : Nat), AV.v (Value.int IntKind.i64 x.who), AV.sb x.seen, AV.v (Value.int IntKind.i64 (↑x.i : Int)), AV.hs (5 : Nat) (0 : Nat) (2 : Nat), AV.v (Value.int IntKind.i64 (2 : Int)),
    AV.v (Value.int IntKind.i64 (↑(0 : Nat) : Int)), AV.any] ∧ LeH [some (Blk.row [AV.v (Value.int IntKind.i64 x.f), AV.v (Value.int IntKind.u32 x.bad), AV.map (1 : Nat), AV.hs (2 : Nat) (0
    : Nat) (List.length x.l)]), some (Blk.mp [Cel.int IntKind.i64, Cel.int IntKind.i64, Cel.int IntKind.i64, Cel.int IntKind.i64, Cel.int IntKind.i64, Cel.int IntKind.i64, Cel.int
    IntKind.i64, Cel.int IntKind.i64, Cel.int IntKind.i64, Cel.int IntKind.i64, Cel.int IntKind.i64] true false (List.length x.l) (hasS x.l) anyV), some (Blk.arr (11 : Nat) (List.length (x.l
    ++ x.j)) (lsF Sh.c (x.l ++ x.j))), some (Blk.row [AV.v (Value.int IntKind.i64 x.f), AV.map (4 : Nat)]), some (Blk.mp [Cel.int IntKind.i64] false true x.n (hasC x.gv x.sn) (valC x.f x.gv
    x.sn)), some (Blk.arr (1 : Nat) (2 : Nat) fun x_1 => [AV.v (Value.int IntKind.u32 (bif Nat.beq x_1 (0 : Nat) then x.sx else bif Nat.beq x_1 (1 : Nat) then x.sy else (0 : Int)))])] [some
    (Blk.row [AV.v (Value.int IntKind.i64 x.f), AV.v (Value.int IntKind.u32 x.bad), AV.map (1 : Nat), AV.hs (2 : Nat) (0 : Nat) (List.length (X4.mk x.f x.bad x.acts x.view x.sx x.sy (x.l ++
    [shC x]) [] x.gv x.sn x.n x.who x.seen x.i).l)]), some (Blk.mp [Cel.int IntKind.i64, Cel.int IntKind.i64, Cel.int IntKind.i64, Cel.int IntKind.i64, Cel.int IntKind.i64, Cel.int
    IntKind.i64, Cel.int IntKind.i64, Cel.int IntKind.i64, Cel.int IntKind.i64, Cel.int IntKind.i64, Cel.int IntKind.i64] true false (List.length (X4.mk x.f x.bad x.acts x.view x.sx x.sy
    (x.l ++ [shC x]) [] x.gv x.sn x.n x.who x.seen x.i).l) (hasS (X4.mk x.f x.bad x.acts x.view x.sx x.sy (x.l ++ [shC x]) [] x.gv x.sn x.n x.who x.seen x.i).l) anyV), some (Blk.arr (11 :
    Nat) (List.length ((X4.mk x.f x.bad x.acts x.view x.sx x.sy (x.l ++ [shC x]) [] x.gv x.sn x.n x.who x.seen x.i).l ++ (X4.mk x.f x.bad x.acts x.view x.sx x.sy (x.l ++ [shC x]) [] x.gv
    x.sn x.n x.who x.seen x.i).j)) (lsF Sh.c ((X4.mk x.f x.bad x.acts x.view x.sx x.sy (x.l ++ [shC x]) [] x.gv x.sn x.n x.who x.seen x.i).l ++ (X4.mk x.f x.bad x.acts x.view x.sx x.sy (x.l
    ++ [shC x]) [] x.gv x.sn x.n x.who x.seen x.i).j))), some (Blk.row [AV.v (Value.int IntKind.i64 x.f), AV.map (4 : Nat)]), some (Blk.mp [Cel.int IntKind.i64] false true x.n (hasC (X4.mk
    x.f x.bad x.acts x.view x.sx x.sy (x.l ++ [shC x]) [] x.gv x.sn x.n x.who x.seen x.i).gv (X4.mk x.f x.bad x.acts x.view x.sx x.sy (x.l ++ [shC x]) [] x.gv x.sn x.n x.who x.seen x.i).sn)
    (valC (X4.mk x.f x.bad x.acts x.view x.sx x.sy (x.l ++ [shC x]) [] x.gv x.sn x.n x.who x.seen x.i).f (X4.mk x.f x.bad x.acts x.view x.sx x.sy (x.l ++ [shC x]) [] x.gv x.sn x.n x.who
    x.seen x.i).gv (X4.mk x.f x.bad x.acts x.view x.sx x.sy (x.l ++ [shC x]) [] x.gv x.sn x.n x.who x.seen x.i).sn)), some (Blk.arr (1 : Nat) (2 : Nat) (lsF U32.c [(X4.mk x.f x.bad x.acts
    x.view x.sx x.sy (x.l ++ [shC x]) [] x.gv x.sn x.n x.who x.seen x.i).sx, (X4.mk x.f x.bad x.acts x.view x.sx x.sy (x.l ++ [shC x]) [] x.gv x.sn x.n x.who x.seen x.i).sy]))])) (Tree.leaf
    (Out.mk AEx.normal [AV.v (Value.int IntKind.i64 x'.f), AV.v (Value.int IntKind.u32 x'.bad), AV.sl (4 : Nat) (List.length x'.acts) (lsF Ac.c x'.acts), AV.v (Value.int IntKind.i64
    x'.view), AV.v (Value.int IntKind.u32 x'.sx), AV.v (Value.int IntKind.u32 x'.sy), AV.ptr (0 : Nat) (0 : Nat), AV.ptr (3 : Nat) (0 : Nat), AV.v (Value.int IntKind.i64 x'.who), AV.sb
    x'.seen, AV.v (Value.int IntKind.i64 (IntKind.wrap IntKind.i64 ((↑x'.i : Int) + (1 : Int)))), AV.any] [some (Blk.row [AV.v (Value.int IntKind.i64 x'.f), AV.v (Value.int IntKind.u32
    x'.bad), AV.map (1 : Nat), AV.hs (2 : Nat) (0 : Nat) (List.length x'.l)]), some (Blk.mp [Cel.int IntKind.i64, Cel.int IntKind.i64, Cel.int IntKind.i64, Cel.int IntKind.i64, Cel.int
    IntKind.i64, Cel.int IntKind.i64, Cel.int IntKind.i64, Cel.int IntKind.i64, Cel.int IntKind.i64, Cel.int IntKind.i64, Cel.int IntKind.i64] true false (List.length x'.l) (hasS x'.l)
    anyV), some (Blk.arr (11 : Nat) (List.length (x'.l ++ x'.j)) (lsF Sh.c (x'.l ++ x'.j))), some (Blk.row [AV.v (Value.int IntKind.i64 x'.f), AV.map (4 : Nat)]), some (Blk.mp [Cel.int
    IntKind.i64] false true x'.n (hasC x'.gv x'.sn) (valC x'.f x'.gv x'.sn))]))))))) (Tree.leaf (Out.mk (AEx.exit (0 : Nat)) [AV.v (Value.int IntKind.i64 x.f), AV.v (Value.int IntKind.u32
    x.bad), AV.sl (4 : Nat) (List.length x.acts) (lsF Ac.c x.acts), AV.v (Value.int IntKind.i64 x.view), AV.v (Value.int IntKind.u32 x.sx), AV.v (Value.int IntKind.u32 x.sy), AV.ptr (0 :
    Nat) (0 : Nat), AV.ptr (3 : Nat) (0 : Nat), AV.v (Value.int IntKind.i64 x.who), AV.sb x.seen, AV.v (Value.int IntKind.i64 (↑x.i : Int)), AV.any] [some (Blk.row [AV.v (Value.int
    IntKind.i64 x.f), AV.v (Value.int IntKind.u32 x.bad), AV.map (1 : Nat), AV.hs (2 : Nat) (0 : Nat) (List.length x.l)]), some (Blk.mp [Cel.int IntKind.i64, Cel.int IntKind.i64, Cel.int
    IntKind.i64, Cel.int IntKind.i64, Cel.int IntKind.i64, Cel.int IntKind.i64, Cel.int IntKind.i64, Cel.int IntKind.i64, Cel.int IntKind.i64, Cel.int IntKind.i64, Cel.int IntKind.i64] true
    false (List.length x.l) (hasS x.l) anyV), some (Blk.arr (11 : Nat) (List.length (x.l ++ x.j)) (lsF Sh.c (x.l ++ x.j))), some (Blk.row [AV.v (Value.int IntKind.i64 x.f), AV.map (4 :
    Nat)]), some (Blk.mp [Cel.int IntKind.i64] false true x.n (hasC x.gv x.sn) (valC x.f x.gv x.sn))])) := by kernel_rfl
end Go.Eng.Co

/- coin: all see the same: what a view's two looks do. -/
namespace Go.Eng.Co
open Go Go.Eng Go.Eng.M Go.Proofs
set_option linter.unusedSimpArgs false
set_option linter.unusedVariables false
theorem clT : cl True = true := cl_iff.2 trivial
open Classical in
noncomputable def stepS (x : X4) (s : Int) : X4 := if ¬ badV x.view ∧ EnE s (timesF 1 x.f) (stC x.view) x.f x.bad x.l 0 then { x with sn := addS x.sn x.view, n := nC x.gv x.sn x.view x.n, who := whoV x.f x.gv x.view, seen := true } else x
noncomputable def finS (x : X4) (z : List Int) : X4 := z.foldl stepS x
structure In4 (x : X4) : Prop where
  f0 : timesF 3 x.f ≠ 0
  b : inU32 x.bad = true
  pb : (pc x.bad : Int) ≤ x.f
  ok : GvOK x.f x.gv
  sn : x.seen = true → snB x.sn x.view = true ∧ whoV x.f x.gv x.view = x.who
theorem en_ok {s le : Int} {st : St} {f bad : Int} {l : List Sh} (h : EnE s le st f bad l 0) : ¬ (pc s : Int) < le := by
  generalize hE : (0 : Int) = E at h
  cases h with
  | chk h => exact absurd hE.symm h
  | err p h h2 h3 h4 => exact absurd hE.symm h3
  | few h h4 h5 => simp at hE
  | ok h h4 h5 => exact h5
theorem times1 {f : Int} (h : timesF 3 f ≠ 0) : timesF 1 f = f + 1 ∧ 1 ≤ f ∧ f ≤ 3 ∧ timesF 3 f = 3 * f + 1 := by
  have h1 : ¬ (f < 1 ∨ 3 < f) := fun h2 => h (times_zero.2 h2)
  rw [timesF, if_neg h1, timesF, if_neg h1]; omega
theorem good_some {x : X4} {s : Int} {st : St} (hu : inU32 s = true) (h : In4 x) (hE : EnE s (timesF 1 x.f) st x.f x.bad x.l 0) : ¬ (pc (bitI .andNot .u32 s x.bad) : Int) = 0 := fun h0 => by
  have h1 := en_ok hE
  obtain ⟨h2, h3, h4, _⟩ := times1 h.f0
  have h5 := (tb_andNot hu h.b).2
  have h6 := cnt_or (tb (bitI .andNot .u32 s x.bad)) (fun i => tb s i && tb x.bad i)
  have h7 : cnt (tb s) = cnt (fun i => tb (bitI .andNot .u32 s x.bad) i || (tb s i && tb x.bad i)) := cnt_congr fun i hi => by
    rw [h5 i hi]; cases tb s i <;> cases tb x.bad i <;> rfl
  have h8 : cnt (fun i => tb s i && tb x.bad i) ≤ cnt (tb x.bad) := cnt_mono fun i _ ht => by
    rw [Bool.and_eq_true] at ht; exact ht.2
  have h9 := h.pb
  rw [pc_cnt] at h0 h1 h9
  omega
theorem lead_ok {f v : Int} (h : timesF 3 f ≠ 0) : 0 ≤ leadF f v ∧ leadF f v < timesF 3 f := by
  have h1 : ¬ (f < 1 ∨ 3 < f) := fun h2 => h (times_zero.2 h2)
  have h2 := (times1 h).2.2.2
  rw [h2, leadF, if_neg h1]
  have := (times1 h).2.1
  exact ⟨Int.emod_nonneg _ (by omega), Int.emod_lt_of_pos _ (by omega)⟩
theorem In4.who {x : X4} (h : In4 x) (v : Int) : 0 ≤ whoV x.f x.gv v ∧ whoV x.f x.gv v < timesF 3 x.f := by
  cases hg : gvB x.gv v with
  | true => obtain ⟨a, b, c⟩ := h.ok.cho hg; omega
  | false => rw [whoV_none hg]; exact lead_ok h.f0
theorem stepS_ok {x : X4} {s : Int} (h : ¬ badV x.view) (hE : EnE s (timesF 1 x.f) (stC x.view) x.f x.bad x.l 0) : stepS x s = { x with sn := addS x.sn x.view, n := nC x.gv x.sn x.view x.n, who := whoV x.f x.gv x.view, seen := true } := if_pos ⟨h, hE⟩
theorem stepS_not {x : X4} {s : Int} (h : ¬ (¬ badV x.view ∧ EnE s (timesF 1 x.f) (stC x.view) x.f x.bad x.l 0)) : stepS x s = x := if_neg h
theorem In4.step {x : X4} (h : In4 x) (s : Int) : In4 (stepS x s) := by
  by_cases hx : ¬ badV x.view ∧ EnE s (timesF 1 x.f) (stC x.view) x.f x.bad x.l 0
  · rw [stepS_ok hx.1 hx.2]
    exact ⟨h.f0, h.b, h.pb, h.ok, fun _ => ⟨by show snB (addS x.sn x.view) x.view = true; rw [snB_add]; simp, rfl⟩⟩
  · rw [stepS_not hx]; exact h
theorem finS_next {x : X4} {z : List Int} {k : Nat} (hk : k < z.length) : finS x (z.drop k) = finS (stepS x (z.getD k default)) (z.drop (k + 1)) := by
  unfold finS
  rw [List.drop_eq_getElem_cons hk, List.foldl_cons, getD_get hk]
theorem finS_end {x : X4} {z : List Int} {k : Nat} (hk : z.length ≤ k) : finS x (z.drop k) = x := by
  unfold finS
  rw [List.drop_eq_nil_of_le hk]; rfl
abbrev RI4 (z : List Int) (p : X4 × Nat) : Prop := RoundOK Tryd.prog Γc 0 131 0 (lp4 1) lv42 [] (S42 p.1 z p.2) (OwesA (fun p : X4 × Nat => S42 p.1 z p.2) (fun p => In4 p.1 ∧ p.2 ≤ 2) (fun p => O42 (finS p.1 (z.drop p.2))) (fun p => 2 - p.2) (2 - p.2) (O42 (finS p.1 (z.drop p.2))))
theorem goI {z : List Int} {p p' : X4 × Nat} {fr : List AV} {H : Heap} (hk : p.2 < 2) (he : p'.2 = p.2 + 1) (hi : In4 p'.1) (h4 : LeL fr (S42 p'.1 z p'.2).1) (h5 : LeH H (S42 p'.1 z p'.2).2) (hO : O42 (finS p'.1 (z.drop p'.2)) = O42 (finS p.1 (z.drop p.2))) :
    ∃ p' : X4 × Nat, LeL fr (S42 p'.1 z p'.2).fst ∧ LeH H (S42 p'.1 z p'.2).snd ∧ (In4 p'.1 ∧ p'.2 ≤ 2) ∧ O42 (finS p'.1 (z.drop p'.2)) = O42 (finS p.1 (z.drop p.2)) ∧ 2 - p'.2 < 2 - p.2 :=
  ⟨p', h4, h5, ⟨hi, by omega⟩, hO, by omega⟩
theorem li70 {z : List Int} {x : X4} {k : Nat} (hz : z.length = 2) (hu : inU32 (z.getD k default) = true) (hi : In4 x) (hk : k < 2) (hv : badV x.view) : RI4 z (x, k) := by
  have hO : O42 (finS x (z.drop (k + 1))) = O42 (finS x (z.drop k)) := by
    rw [finS_next (k := k) (by omega), stepS_not (fun h => h.1 hv)]
  refine .of (L := Lno) (failOK fun _ _ _ => rfl) (i70 x z k _ (ansCnt (tb_andNot hu hi.b).1) hv) ?_
  simp only [or_true, true_or, false_or, or_false, and_false, false_and, cond_true, cond_false, Bool.not_true, Bool.not_false, Bool.false_eq_true, Bool.true_eq_false, not_true_eq_false, not_false_eq_true, false_implies, true_implies, implies_true, Nat.blt_eq, owesN, owesX, owesR, notT, sat_brT, sat_brF, sat_chkT, cl_iff, cl_false, AV.le_refl, AV.le_any, OLe_refl, OLe_none, sat_brN, Tree.sat_chk, Tree.sat_leaf, Tree.sat_fail, Nat.zero_add, Nat.sub_zero, Int.toNat_natCast, LeH_cons, LeH_nil, LeL_cons, LeL_nil, and_true, true_and, Bool.and_eq_true, Bool.or_eq_true, decide_eq_true_eq, decide_eq_false_iff_not, Bool.cond_true_left, Bool.cond_false_right, List.cons_append, List.nil_append, List.map_cons, List.map_nil, wrapUpN (show k ≤ 1000000000 by omega)]
  repeat' (first | apply And.intro | intro _hc)
  all_goals first | omega | contradiction | exact AV.le_refl _ | exact AV.le_any _ | exact OLe.refl _ | exact OLe.none _ | exact LeH.refl _ | exact LeL.refl _ | exact AV.le.bs _ | exact AV.le.sb _ | exact goI (p := (x, k)) (p' := (x, k + 1)) hk rfl hi (LeL.refl _) (LeH.refl _) hO | (exfalso; omega) | contradiction
theorem liE {z : List Int} {x : X4} {k : Nat} (hz : z.length = 2) (hu : inU32 (z.getD k default) = true) (hi : In4 x) (hk : k < 2) (hv : ¬ badV x.view) (e : Int) (hE : EnE (z.getD k default) (timesF 1 x.f) (stC x.view) x.f x.bad x.l e) (he : e ≠ 0) (hn : ¬ EnE (z.getD k default) (timesF 1 x.f) (stC x.view) x.f x.bad x.l 0) : RI4 z (x, k) := by
  have hO : O42 (finS x (z.drop (k + 1))) = O42 (finS x (z.drop k)) := by
    rw [finS_next (k := k) (by omega), stepS_not (fun h => hn h.2)]
  refine .of (L := Lno) (failOK fun _ _ _ => rfl) (iE x z k _ (ansCnt (tb_andNot hu hi.b).1) e hv hu hi.b hE he) ?_
  simp only [or_true, true_or, false_or, or_false, and_false, false_and, cond_true, cond_false, Bool.not_true, Bool.not_false, Bool.false_eq_true, Bool.true_eq_false, not_true_eq_false, not_false_eq_true, false_implies, true_implies, implies_true, Nat.blt_eq, owesN, owesX, owesR, notT, sat_brT, sat_brF, sat_chkT, cl_iff, cl_false, AV.le_refl, AV.le_any, OLe_refl, OLe_none, sat_brN, Tree.sat_chk, Tree.sat_leaf, Tree.sat_fail, Nat.zero_add, Nat.sub_zero, Int.toNat_natCast, LeH_cons, LeH_nil, LeL_cons, LeL_nil, and_true, true_and, Bool.and_eq_true, Bool.or_eq_true, decide_eq_true_eq, decide_eq_false_iff_not, Bool.cond_true_left, Bool.cond_false_right, List.cons_append, List.nil_append, List.map_cons, List.map_nil, he, wrapUpN (show k ≤ 1000000000 by omega)]
  repeat' (first | apply And.intro | intro _hc)
  all_goals first | omega | contradiction | exact AV.le_refl _ | exact AV.le_any _ | exact OLe.refl _ | exact OLe.none _ | exact LeH.refl _ | exact LeL.refl _ | exact AV.le.bs _ | exact AV.le.sb _ | exact goI (p := (x, k)) (p' := (x, k + 1)) hk rfl hi (LeL.refl _) (LeH.refl _) hO | (exfalso; omega) | contradiction
theorem liOk {z : List Int} {x : X4} {k : Nat} (hz : z.length = 2) (hu : inU32 (z.getD k default) = true) (hi : In4 x) (hk : k < 2) (hv : ¬ badV x.view) (hE : EnE (z.getD k default) (timesF 1 x.f) (stC x.view) x.f x.bad x.l 0) : RI4 z (x, k) := by
  have hS := stepS_ok hv hE
  have hO : O42 (finS (stepS x (z.getD k default)) (z.drop (k + 1))) = O42 (finS x (z.drop k)) := by
    rw [← finS_next (k := k) (by omega)]
  have hi' := hi.step (z.getD k default)
  rw [hS] at hO hi'
  have hc := good_some hu hi hE
  obtain ⟨hw0, hw1⟩ := hi.who x.view
  have hw0' : ¬ whoV x.f x.gv x.view < 0 := by omega
  have hw1' : ¬ timesF 3 x.f ≤ whoV x.f x.gv x.view := by omega
  refine .of (L := Lno) (failOK fun _ _ _ => rfl) (iOk x z k _ (ansCnt (tb_andNot hu hi.b).1) hv hu hi.b hE) ?_
  cases hs : x.seen with
  | false =>
    simp only [or_true, true_or, false_or, or_false, and_false, false_and, cond_true, cond_false, Bool.not_true, Bool.not_false, Bool.false_eq_true, Bool.true_eq_false, not_true_eq_false, not_false_eq_true, false_implies, true_implies, implies_true, Nat.blt_eq, owesN, owesX, owesR, notT, sat_brT, sat_brF, sat_chkT, cl_iff, cl_false, AV.le_refl, AV.le_any, OLe_refl, OLe_none, sat_brN, Tree.sat_chk, Tree.sat_leaf, Tree.sat_fail, Nat.zero_add, Nat.sub_zero, Int.toNat_natCast, LeH_cons, LeH_nil, LeL_cons, LeL_nil, and_true, true_and, Bool.and_eq_true, Bool.or_eq_true, decide_eq_true_eq, decide_eq_false_iff_not, Bool.cond_true_left, Bool.cond_false_right, List.cons_append, List.nil_append, List.map_cons, List.map_nil, hs, hc, hw0', hw1', clT, gooS, Nat.zero_add, wrapUpN (show k ≤ 1000000000 by omega)]
    repeat' (first | apply And.intro | intro _hc)
    all_goals first | omega | contradiction | exact AV.le_refl _ | exact AV.le_any _ | exact OLe.refl _ | exact OLe.none _ | exact LeH.refl _ | exact LeL.refl _ | exact AV.le.bs _ | exact AV.le.sb _ | exact goI (p := (x, k)) (p' := ({ x with sn := addS x.sn x.view, n := nC x.gv x.sn x.view x.n, who := whoV x.f x.gv x.view, seen := true }, k + 1)) hk rfl hi' ⟨.refl _, .refl _, .refl _, .refl _, .refl _, .refl _, .refl _, .refl _, .refl _, .bs _, .refl _, .refl _, .refl _, .refl _, .refl _, trivial⟩ (LeH.refl _) hO | (exfalso; omega) | contradiction
  | true =>
    have hwe := (hi.sn hs).2
    have hwe' : ¬ x.who < 0 := by omega
    have hwf : ¬ timesF 3 x.f ≤ x.who := by omega
    rw [hwe] at hO hi'
    simp only [or_true, true_or, false_or, or_false, and_false, false_and, cond_true, cond_false, Bool.not_true, Bool.not_false, Bool.false_eq_true, Bool.true_eq_false, not_true_eq_false, not_false_eq_true, false_implies, true_implies, implies_true, Nat.blt_eq, owesN, owesX, owesR, notT, sat_brT, sat_brF, sat_chkT, cl_iff, cl_false, AV.le_refl, AV.le_any, OLe_refl, OLe_none, sat_brN, Tree.sat_chk, Tree.sat_leaf, Tree.sat_fail, Nat.zero_add, Nat.sub_zero, Int.toNat_natCast, LeH_cons, LeH_nil, LeL_cons, LeL_nil, and_true, true_and, Bool.and_eq_true, Bool.or_eq_true, decide_eq_true_eq, decide_eq_false_iff_not, Bool.cond_true_left, Bool.cond_false_right, List.cons_append, List.nil_append, List.map_cons, List.map_nil, hs, hc, hwe, hwe', hwf, clT, gooS, Nat.zero_add, wrapUpN (show k ≤ 1000000000 by omega)]
    repeat' (first | apply And.intro | intro _hc)
    all_goals first | omega | contradiction | exact AV.le_refl _ | exact AV.le_any _ | exact OLe.refl _ | exact OLe.none _ | exact LeH.refl _ | exact LeL.refl _ | exact AV.le.bs _ | exact AV.le.sb _ | exact goI (p := (x, k)) (p' := ({ x with sn := addS x.sn x.view, n := nC x.gv x.sn x.view x.n, who := x.who, seen := true }, k + 1)) hk rfl hi' ⟨.refl _, .refl _, .refl _, .refl _, .refl _, .refl _, .refl _, .refl _, .refl _, .bs _, .refl _, .refl _, .refl _, .refl _, .refl _, trivial⟩ (LeH.refl _) hO | (exfalso; omega) | contradiction
theorem liEnd {z : List Int} {x : X4} {k : Nat} (hz : z.length = 2) (hk : 2 ≤ k) : RI4 z (x, k) := by
  have hO : finS x (z.drop k) = x := finS_end (by omega)
  refine .of (L := Lno) (failOK fun _ _ _ => rfl) (i0 x z k) ?_
  simp only [or_true, true_or, false_or, or_false, and_false, false_and, cond_true, cond_false, Bool.not_true, Bool.not_false, Bool.false_eq_true, Bool.true_eq_false, not_true_eq_false, not_false_eq_true, false_implies, true_implies, implies_true, Nat.blt_eq, owesN, owesX, owesR, notT, sat_brT, sat_brF, sat_chkT, cl_iff, cl_false, AV.le_refl, AV.le_any, OLe_refl, OLe_none, sat_brN, Tree.sat_chk, Tree.sat_leaf, Tree.sat_fail, Nat.zero_add, Nat.sub_zero, Int.toNat_natCast, LeH_cons, LeH_nil, LeL_cons, LeL_nil, and_true, true_and, Bool.and_eq_true, Bool.or_eq_true, decide_eq_true_eq, decide_eq_false_iff_not, Bool.cond_true_left, Bool.cond_false_right, List.cons_append, List.nil_append, List.map_cons, List.map_nil, hO]
  repeat' (first | apply And.intro | intro _hc)
  all_goals first | omega | contradiction | exact AV.le_refl _ | exact AV.le_any _ | exact OLe.refl _ | exact OLe.none _ | exact LeH.refl _ | exact LeL.refl _ | exact AV.le.bs _ | exact AV.le.sb _ | exact rfl | (exfalso; omega) | contradiction
end Go.Eng.Co

/- coin: all see the same: the rounds' ends, the law. -/
namespace Go.Eng.Co
open Go Go.Eng Go.Eng.M Go.Proofs
set_option linter.unusedSimpArgs false
set_option linter.unusedVariables false
theorem loop42 {z : List Int} (hz : z.length = 2) (hu : ∀ k, k < 2 → inU32 (z.getD k default) = true) : ∀ p : X4 × Nat, In4 p.1 ∧ p.2 ≤ 2 → LoopOK Tryd.prog Γc 0 131 (lp4 1) (LSpec.at lv42 [] (S42 p.1 z p.2) (O42 (finS p.1 (z.drop p.2)))) := by
  refine loop_at (S := fun p : X4 × Nat => S42 p.1 z p.2) (O := fun p => O42 (finS p.1 (z.drop p.2))) (k := 0) (fun p => 2 - p.2) fun p hp => ?_
  show RI4 z p
  obtain ⟨x, k⟩ := p
  obtain ⟨hi, hk2⟩ := hp
  rcases Nat.lt_or_ge k 2 with hk | hk
  case inr => exact liEnd hz hk
  by_cases hv : badV x.view
  · exact li70 hz (hu k hk) hi hk hv
  by_cases h0 : EnE (z.getD k default) (timesF 1 x.f) (stC x.view) x.f x.bad x.l 0
  · exact liOk hz (hu k hk) hi hk hv h0
  · obtain ⟨e, he⟩ := EnE.ex (z.getD k default) (timesF 1 x.f) (stC x.view) x.f x.bad x.l
    exact liE hz (hu k hk) hi hk hv e he (fun h => h0 (h ▸ he)) h0
structure Keep (x x' : X4) : Prop where
  f : x'.f = x.f
  bad : x'.bad = x.bad
  acts : x'.acts = x.acts
  view : x'.view = x.view
  sx : x'.sx = x.sx
  sy : x'.sy = x.sy
  l : x'.l = x.l
  i : x'.i = x.i
theorem Keep.step (x : X4) (s : Int) : Keep x (stepS x s) := by
  by_cases hx : ¬ badV x.view ∧ EnE s (timesF 1 x.f) (stC x.view) x.f x.bad x.l 0
  · rw [stepS_ok hx.1 hx.2]; exact ⟨rfl, rfl, rfl, rfl, rfl, rfl, rfl, rfl⟩
  · rw [stepS_not hx]; exact ⟨rfl, rfl, rfl, rfl, rfl, rfl, rfl, rfl⟩
theorem Keep.trans {x y z : X4} (h : Keep x y) (h' : Keep y z) : Keep x z := ⟨h'.f.trans h.f, h'.bad.trans h.bad, h'.acts.trans h.acts, h'.view.trans h.view, h'.sx.trans h.sx, h'.sy.trans h.sy, h'.l.trans h.l, h'.i.trans h.i⟩
theorem inner {x : X4} (hi : In4 x) (h1 : inU32 x.sx = true) (h2 : inU32 x.sy = true) : ∃ x', LoopOK Tryd.prog Γc 0 131 (lp4 1) (LSpec.at lv42 [] (S42 x [x.sx, x.sy] 0) (O42 x')) ∧ Keep x x' ∧ In4 x' := by
  refine ⟨stepS (stepS x x.sx) x.sy, ?_, (Keep.step x _).trans (Keep.step _ _), (hi.step _).step _⟩
  exact loop42 (z := [x.sx, x.sy]) rfl (fun k hk => by
    match k with
    | 0 => exact h1
    | 1 => exact h2) (x, 0) ⟨hi, Nat.zero_le _⟩
theorem inner4 {x x' : X4} (h : LoopOK Tryd.prog Γc 0 131 (lp4 1) (LSpec.at lv42 [] (S42 x [x.sx, x.sy] 0) (O42 x'))) : ∀ (j : Nat) (b : Code), (loopBodies (lp4 0))[j]? = some b → LoopOK Tryd.prog Γc 0 131 b (L41 x x' (0 + j)) :=
  fun j b hj => oneLoop (L := fun j => L41 x x' (0 + j)) (b := lp4 1) (by kernel_rfl) h j b hj
structure pre4 (f bad : Int) (acts : List Ac) (view sx sy : Int) (x : X4) : Prop where
  e0 : x.f = f
  e1 : x.bad = bad
  e2 : x.acts = acts
  e3 : x.view = view
  e4 : x.sx = sx
  e5 : x.sy = sy
  i : x.i ≤ acts.length
  l : x.l.length ≤ x.i
  inv : In4 x
abbrev O41 : Out := ⟨.exit 0, [.any, .any, .any, .any, .any, .any, .any, .any, .any, .any, .any, .any], [none, none, none, none, none]⟩
abbrev RO4 (f bad : Int) (acts : List Ac) (view sx sy : Int) (x : X4) : Prop := RoundOK Tryd.prog Γc 0 131 0 (lp4 0) lv41 nl41 (S41 x) (OwesA S41 (pre4 f bad acts view sx sy) (fun _ => O41) (fun x => acts.length - x.i) (acts.length - x.i) O41)
theorem go4 {f bad view sx sy : Int} {acts : List Ac} {fr : List AV} {H : Heap} {x x1 x' : X4} (hp : pre4 f bad acts view sx sy x) (hi : x.i < acts.length) (h1 : Keep x1 x') (h0 : x1.f = x.f ∧ x1.bad = x.bad ∧ x1.acts = x.acts ∧ x1.view = x.view ∧ x1.sx = x.sx ∧ x1.sy = x.sy ∧ x1.i = x.i) (hl : x1.l.length ≤ x.i + 1) (hI : In4 x') (h4 : LeL fr (S41 { x' with i := x'.i + 1 }).1) (h5 : LeH H (S41 { x' with i := x'.i + 1 }).2) :
    ∃ x', LeL fr (S41 x').fst ∧ LeH H (S41 x').snd ∧ pre4 f bad acts view sx sy x' ∧ acts.length - x'.i < acts.length - x.i := by
  obtain ⟨a0, a1, a2, a3, a4, a5, a6, a7, a8⟩ := hp
  obtain ⟨b0, b1, b2, b3, b4, b5, b6⟩ := h0
  have hx : x'.i = x.i := h1.i.trans b6
  refine ⟨_, h4, h5, ⟨h1.f.trans (b0.trans a0), h1.bad.trans (b1.trans a1), h1.acts.trans (b2.trans a2), h1.view.trans (b3.trans a3), h1.sx.trans (b4.trans a4), h1.sy.trans (b5.trans a5), ?_, ?_, ⟨hI.f0, hI.b, hI.pb, hI.ok, hI.sn⟩⟩, ?_⟩
  · show x'.i + 1 ≤ acts.length
    omega
  · show x'.l.length ≤ x'.i + 1
    rw [h1.l]; omega
  · show acts.length - (x'.i + 1) < acts.length - x.i
    omega
theorem hA {sx sy : Int} {g : Nat → List AV} (h0 : g 0 = [.v (.int .u32 sx)]) (h1 : g 1 = [.v (.int .u32 sy)]) : OLe (some (.arr 1 2 g)) (some (.arr 1 2 (lsF U32.c [sx, sy]))) :=
  OLe.arr rfl (fun e he => by
    match e with
    | 0 => exact h0
    | 1 => exact h1) (fun _ => rfl)
theorem In4.cho {x : X4} {w v : Int} {n : Nat} (h : In4 x) (hw : ¬ (w < 0 ∨ timesF 3 x.f ≤ w)) (hs : snB x.sn v = false) : In4 { x with gv := x.gv ++ [giv w v], n := n } :=
  ⟨h.f0, h.b, h.pb, h.ok.new hw, fun hx => by
    obtain ⟨h1, h2⟩ := h.sn hx
    refine ⟨h1, ?_⟩
    have hne : v ≠ x.view := fun he => by rw [he, h1] at hs; cases hs
    show whoV x.f (x.gv ++ [giv w v]) x.view = x.who
    rw [whoV_old hne]; exact h2⟩
theorem In4.see {x : X4} {n : Nat} (h : In4 x) (v : Int) : In4 { x with sn := addS x.sn v, n := n } :=
  ⟨h.f0, h.b, h.pb, h.ok, fun hx => by
    obtain ⟨h1, h2⟩ := h.sn hx
    refine ⟨?_, h2⟩
    show snB (addS x.sn v) x.view = true
    rw [snB_add, h1]; rfl⟩
theorem In4.iss {x : X4} {l j : List Sh} (h : In4 x) : In4 { x with l := l, j := j } := ⟨h.f0, h.b, h.pb, h.ok, h.sn⟩
theorem mend {f bad view sx sy : Int} {acts : List Ac} {x : X4} (hp : pre4 f bad acts view sx sy x) (hn : acts.length ≤ 100) (hx : inU32 x.sx = true) (hy : inU32 x.sy = true) (hi : x.i < acts.length) (h0 : (x.acts.getD x.i default).k ≠ 0) (h1 : (x.acts.getD x.i default).k ≠ 1) (h2 : (x.acts.getD x.i default).k ≠ 2)  : RO4 f bad acts view sx sy x := by
  have hp2 := hp.e2
  have hpi := hp.i
  have hpl := hp.l
  have hac : x.acts.length = acts.length := by rw [hp2]
  obtain ⟨x', hl, hK, hI⟩ := inner (x := x) hp.inv hx hy
  have hxi : x'.i = x.i := hK.i
  have hlen : (X4.l (x)).length ≤ x.i + 1 := by first | omega | (simp only [List.length_append, List.length_cons, List.length_nil]; omega)
  refine .of (inner4 hl) (oend x x') ?_
  simp only [or_true, true_or, false_or, or_false, and_false, false_and, cond_true, cond_false, Bool.not_true, Bool.not_false, Bool.false_eq_true, Bool.true_eq_false, not_true_eq_false, not_false_eq_true, false_implies, true_implies, implies_true, Nat.blt_eq, owesN, owesX, owesR, notT, sat_brT, sat_brF, sat_chkT, cl_iff, cl_false, AV.le_refl, AV.le_any, OLe_refl, OLe_none, sat_brN, Tree.sat_chk, Tree.sat_leaf, Tree.sat_fail, Nat.zero_add, Nat.sub_zero, Int.toNat_natCast, LeH_cons, LeH_nil, LeL_cons, LeL_nil, and_true, true_and, Bool.and_eq_true, Bool.or_eq_true, decide_eq_true_eq, decide_eq_false_iff_not, Bool.cond_true_left, Bool.cond_false_right, List.cons_append, List.nil_append, List.map_cons, List.map_nil, wrapUpN (show x'.i ≤ 1000000000 by omega)]
  repeat' (first | apply And.intro | intro _hc)
  all_goals first | omega | contradiction | exact AV.le_refl _ | exact AV.le_any _ | exact OLe.refl _ | exact OLe.none _ | exact LeH.refl _ | exact LeL.refl _ | exact AV.le.bs _ | exact AV.le.sb _ | exact go4 hp hi hK ⟨rfl, rfl, rfl, rfl, rfl, rfl, rfl⟩ hlen hI (LeL.refl _) (LeH.refl _) | exact hA rfl rfl | ((rw [List.append_nil]; exact OLe.refl _)) | (exfalso; omega) | contradiction
theorem mc70 {f bad view sx sy : Int} {acts : List Ac} {x : X4} (hp : pre4 f bad acts view sx sy x) (hn : acts.length ≤ 100) (hx : inU32 x.sx = true) (hy : inU32 x.sy = true) (hi : x.i < acts.length) (hk : (x.acts.getD x.i default).k = 0) (hv : badV (x.acts.getD x.i default).v) : RO4 f bad acts view sx sy x := by
  have hp2 := hp.e2
  have hpi := hp.i
  have hpl := hp.l
  have hac : x.acts.length = acts.length := by rw [hp2]
  obtain ⟨x', hl, hK, hI⟩ := inner (x := x) hp.inv hx hy
  have hxi : x'.i = x.i := hK.i
  have hlen : (X4.l (x)).length ≤ x.i + 1 := by first | omega | (simp only [List.length_append, List.length_cons, List.length_nil]; omega)
  refine .of (inner4 hl) (oc70 x x' hv) ?_
  simp only [or_true, true_or, false_or, or_false, and_false, false_and, cond_true, cond_false, Bool.not_true, Bool.not_false, Bool.false_eq_true, Bool.true_eq_false, not_true_eq_false, not_false_eq_true, false_implies, true_implies, implies_true, Nat.blt_eq, owesN, owesX, owesR, notT, sat_brT, sat_brF, sat_chkT, cl_iff, cl_false, AV.le_refl, AV.le_any, OLe_refl, OLe_none, sat_brN, Tree.sat_chk, Tree.sat_leaf, Tree.sat_fail, Nat.zero_add, Nat.sub_zero, Int.toNat_natCast, LeH_cons, LeH_nil, LeL_cons, LeL_nil, and_true, true_and, Bool.and_eq_true, Bool.or_eq_true, decide_eq_true_eq, decide_eq_false_iff_not, Bool.cond_true_left, Bool.cond_false_right, List.cons_append, List.nil_append, List.map_cons, List.map_nil, wrapUpN (show x'.i ≤ 1000000000 by omega)]
  repeat' (first | apply And.intro | intro _hc)
  all_goals first | omega | contradiction | exact AV.le_refl _ | exact AV.le_any _ | exact OLe.refl _ | exact OLe.none _ | exact LeH.refl _ | exact LeL.refl _ | exact AV.le.bs _ | exact AV.le.sb _ | exact go4 hp hi hK ⟨rfl, rfl, rfl, rfl, rfl, rfl, rfl⟩ hlen hI (LeL.refl _) (LeH.refl _) | exact hA rfl rfl | ((rw [List.append_nil]; exact OLe.refl _)) | (exfalso; omega) | contradiction
theorem mcOut {f bad view sx sy : Int} {acts : List Ac} {x : X4} (hp : pre4 f bad acts view sx sy x) (hn : acts.length ≤ 100) (hx : inU32 x.sx = true) (hy : inU32 x.sy = true) (hi : x.i < acts.length) (hk : (x.acts.getD x.i default).k = 0) (hv : ¬ badV (x.acts.getD x.i default).v) (hw : (x.acts.getD x.i default).w < 0 ∨ timesF 3 x.f ≤ (x.acts.getD x.i default).w) : RO4 f bad acts view sx sy x := by
  have hp2 := hp.e2
  have hpi := hp.i
  have hpl := hp.l
  have hac : x.acts.length = acts.length := by rw [hp2]
  obtain ⟨x', hl, hK, hI⟩ := inner (x := x) hp.inv hx hy
  have hxi : x'.i = x.i := hK.i
  have hlen : (X4.l (x)).length ≤ x.i + 1 := by first | omega | (simp only [List.length_append, List.length_cons, List.length_nil]; omega)
  refine .of (inner4 hl) (ocOut x x' hv hw) ?_
  simp only [or_true, true_or, false_or, or_false, and_false, false_and, cond_true, cond_false, Bool.not_true, Bool.not_false, Bool.false_eq_true, Bool.true_eq_false, not_true_eq_false, not_false_eq_true, false_implies, true_implies, implies_true, Nat.blt_eq, owesN, owesX, owesR, notT, sat_brT, sat_brF, sat_chkT, cl_iff, cl_false, AV.le_refl, AV.le_any, OLe_refl, OLe_none, sat_brN, Tree.sat_chk, Tree.sat_leaf, Tree.sat_fail, Nat.zero_add, Nat.sub_zero, Int.toNat_natCast, LeH_cons, LeH_nil, LeL_cons, LeL_nil, and_true, true_and, Bool.and_eq_true, Bool.or_eq_true, decide_eq_true_eq, decide_eq_false_iff_not, Bool.cond_true_left, Bool.cond_false_right, List.cons_append, List.nil_append, List.map_cons, List.map_nil, wrapUpN (show x'.i ≤ 1000000000 by omega)]
  repeat' (first | apply And.intro | intro _hc)
  all_goals first | omega | contradiction | exact AV.le_refl _ | exact AV.le_any _ | exact OLe.refl _ | exact OLe.none _ | exact LeH.refl _ | exact LeL.refl _ | exact AV.le.bs _ | exact AV.le.sb _ | exact go4 hp hi hK ⟨rfl, rfl, rfl, rfl, rfl, rfl, rfl⟩ hlen hI (LeL.refl _) (LeH.refl _) | exact hA rfl rfl | ((rw [List.append_nil]; exact OLe.refl _)) | (exfalso; omega) | contradiction
theorem mcThere {f bad view sx sy : Int} {acts : List Ac} {x : X4} (hp : pre4 f bad acts view sx sy x) (hn : acts.length ≤ 100) (hx : inU32 x.sx = true) (hy : inU32 x.sy = true) (hi : x.i < acts.length) (hk : (x.acts.getD x.i default).k = 0) (hv : ¬ badV (x.acts.getD x.i default).v) (hw : ¬ ((x.acts.getD x.i default).w < 0 ∨ timesF 3 x.f ≤ (x.acts.getD x.i default).w)) (ht : gvB x.gv (x.acts.getD x.i default).v = true ∨ snB x.sn (x.acts.getD x.i default).v = true) : RO4 f bad acts view sx sy x := by
  have hp2 := hp.e2
  have hpi := hp.i
  have hpl := hp.l
  have hac : x.acts.length = acts.length := by rw [hp2]
  obtain ⟨x', hl, hK, hI⟩ := inner (x := x) hp.inv hx hy
  have hxi : x'.i = x.i := hK.i
  have hlen : (X4.l (x)).length ≤ x.i + 1 := by first | omega | (simp only [List.length_append, List.length_cons, List.length_nil]; omega)
  refine .of (inner4 hl) (ocThere x x' hv hw ht) ?_
  simp only [or_true, true_or, false_or, or_false, and_false, false_and, cond_true, cond_false, Bool.not_true, Bool.not_false, Bool.false_eq_true, Bool.true_eq_false, not_true_eq_false, not_false_eq_true, false_implies, true_implies, implies_true, Nat.blt_eq, owesN, owesX, owesR, notT, sat_brT, sat_brF, sat_chkT, cl_iff, cl_false, AV.le_refl, AV.le_any, OLe_refl, OLe_none, sat_brN, Tree.sat_chk, Tree.sat_leaf, Tree.sat_fail, Nat.zero_add, Nat.sub_zero, Int.toNat_natCast, LeH_cons, LeH_nil, LeL_cons, LeL_nil, and_true, true_and, Bool.and_eq_true, Bool.or_eq_true, decide_eq_true_eq, decide_eq_false_iff_not, Bool.cond_true_left, Bool.cond_false_right, List.cons_append, List.nil_append, List.map_cons, List.map_nil, wrapUpN (show x'.i ≤ 1000000000 by omega)]
  repeat' (first | apply And.intro | intro _hc)
  all_goals first | omega | contradiction | exact AV.le_refl _ | exact AV.le_any _ | exact OLe.refl _ | exact OLe.none _ | exact LeH.refl _ | exact LeL.refl _ | exact AV.le.bs _ | exact AV.le.sb _ | exact go4 hp hi hK ⟨rfl, rfl, rfl, rfl, rfl, rfl, rfl⟩ hlen hI (LeL.refl _) (LeH.refl _) | exact hA rfl rfl | ((rw [List.append_nil]; exact OLe.refl _)) | (exfalso; omega) | contradiction
theorem mcNew {f bad view sx sy : Int} {acts : List Ac} {x : X4} (hp : pre4 f bad acts view sx sy x) (hn : acts.length ≤ 100) (hx : inU32 x.sx = true) (hy : inU32 x.sy = true) (hi : x.i < acts.length) (hk : (x.acts.getD x.i default).k = 0) (hv : ¬ badV (x.acts.getD x.i default).v) (hw : ¬ ((x.acts.getD x.i default).w < 0 ∨ timesF 3 x.f ≤ (x.acts.getD x.i default).w)) (h1 : gvB x.gv (x.acts.getD x.i default).v = false) (h2 : snB x.sn (x.acts.getD x.i default).v = false) : RO4 f bad acts view sx sy x := by
  have hp2 := hp.e2
  have hpi := hp.i
  have hpl := hp.l
  have hac : x.acts.length = acts.length := by rw [hp2]
  obtain ⟨x', hl, hK, hI⟩ := inner (x := { x with gv := x.gv ++ [giv (x.acts.getD x.i default).w (x.acts.getD x.i default).v], n := x.n + 1 }) (hp.inv.cho hw h2) hx hy
  have hxi : x'.i = x.i := hK.i
  have hlen : (X4.l ({ x with gv := x.gv ++ [giv (x.acts.getD x.i default).w (x.acts.getD x.i default).v], n := x.n + 1 })).length ≤ x.i + 1 := by first | omega | (simp only [List.length_append, List.length_cons, List.length_nil]; omega)
  refine .of (inner4 hl) (ocNew x x' hv hw h1 h2) ?_
  simp only [or_true, true_or, false_or, or_false, and_false, false_and, cond_true, cond_false, Bool.not_true, Bool.not_false, Bool.false_eq_true, Bool.true_eq_false, not_true_eq_false, not_false_eq_true, false_implies, true_implies, implies_true, Nat.blt_eq, owesN, owesX, owesR, notT, sat_brT, sat_brF, sat_chkT, cl_iff, cl_false, AV.le_refl, AV.le_any, OLe_refl, OLe_none, sat_brN, Tree.sat_chk, Tree.sat_leaf, Tree.sat_fail, Nat.zero_add, Nat.sub_zero, Int.toNat_natCast, LeH_cons, LeH_nil, LeL_cons, LeL_nil, and_true, true_and, Bool.and_eq_true, Bool.or_eq_true, decide_eq_true_eq, decide_eq_false_iff_not, Bool.cond_true_left, Bool.cond_false_right, List.cons_append, List.nil_append, List.map_cons, List.map_nil, wrapUpN (show x'.i ≤ 1000000000 by omega)]
  repeat' (first | apply And.intro | intro _hc)
  all_goals first | omega | contradiction | exact AV.le_refl _ | exact AV.le_any _ | exact OLe.refl _ | exact OLe.none _ | exact LeH.refl _ | exact LeL.refl _ | exact AV.le.bs _ | exact AV.le.sb _ | exact go4 hp hi hK ⟨rfl, rfl, rfl, rfl, rfl, rfl, rfl⟩ hlen hI (LeL.refl _) (LeH.refl _) | exact hA rfl rfl | ((rw [List.append_nil]; exact OLe.refl _)) | (exfalso; omega) | contradiction
theorem ms70 {f bad view sx sy : Int} {acts : List Ac} {x : X4} (hp : pre4 f bad acts view sx sy x) (hn : acts.length ≤ 100) (hx : inU32 x.sx = true) (hy : inU32 x.sy = true) (hi : x.i < acts.length) (hk : (x.acts.getD x.i default).k = 1) (hv : badV (x.acts.getD x.i default).v) : RO4 f bad acts view sx sy x := by
  have hp2 := hp.e2
  have hpi := hp.i
  have hpl := hp.l
  have hac : x.acts.length = acts.length := by rw [hp2]
  obtain ⟨x', hl, hK, hI⟩ := inner (x := x) hp.inv hx hy
  have hxi : x'.i = x.i := hK.i
  have hlen : (X4.l (x)).length ≤ x.i + 1 := by first | omega | (simp only [List.length_append, List.length_cons, List.length_nil]; omega)
  refine .of (inner4 hl) (os70 x x' hv) ?_
  simp only [or_true, true_or, false_or, or_false, and_false, false_and, cond_true, cond_false, Bool.not_true, Bool.not_false, Bool.false_eq_true, Bool.true_eq_false, not_true_eq_false, not_false_eq_true, false_implies, true_implies, implies_true, Nat.blt_eq, owesN, owesX, owesR, notT, sat_brT, sat_brF, sat_chkT, cl_iff, cl_false, AV.le_refl, AV.le_any, OLe_refl, OLe_none, sat_brN, Tree.sat_chk, Tree.sat_leaf, Tree.sat_fail, Nat.zero_add, Nat.sub_zero, Int.toNat_natCast, LeH_cons, LeH_nil, LeL_cons, LeL_nil, and_true, true_and, Bool.and_eq_true, Bool.or_eq_true, decide_eq_true_eq, decide_eq_false_iff_not, Bool.cond_true_left, Bool.cond_false_right, List.cons_append, List.nil_append, List.map_cons, List.map_nil, wrapUpN (show x'.i ≤ 1000000000 by omega)]
  repeat' (first | apply And.intro | intro _hc)
  all_goals first | omega | contradiction | exact AV.le_refl _ | exact AV.le_any _ | exact OLe.refl _ | exact OLe.none _ | exact LeH.refl _ | exact LeL.refl _ | exact AV.le.bs _ | exact AV.le.sb _ | exact go4 hp hi hK ⟨rfl, rfl, rfl, rfl, rfl, rfl, rfl⟩ hlen hI (LeL.refl _) (LeH.refl _) | exact hA rfl rfl | ((rw [List.append_nil]; exact OLe.refl _)) | (exfalso; omega) | contradiction
theorem msE {f bad view sx sy : Int} {acts : List Ac} {x : X4} (hp : pre4 f bad acts view sx sy x) (hn : acts.length ≤ 100) (hx : inU32 x.sx = true) (hy : inU32 x.sy = true) (hi : x.i < acts.length) (hk : (x.acts.getD x.i default).k = 1) (e : Int) (hv : ¬ badV (x.acts.getD x.i default).v) (hu : inU32 (x.acts.getD x.i default).set = true) (hE : EnE (x.acts.getD x.i default).set (timesF 1 x.f) (stC (x.acts.getD x.i default).v) x.f x.bad x.l e) (he : e ≠ 0) : RO4 f bad acts view sx sy x := by
  have hp2 := hp.e2
  have hpi := hp.i
  have hpl := hp.l
  have hac : x.acts.length = acts.length := by rw [hp2]
  obtain ⟨x', hl, hK, hI⟩ := inner (x := x) hp.inv hx hy
  have hxi : x'.i = x.i := hK.i
  have hlen : (X4.l (x)).length ≤ x.i + 1 := by first | omega | (simp only [List.length_append, List.length_cons, List.length_nil]; omega)
  refine .of (inner4 hl) (osE x x' e hv hu hp.inv.b hE he) ?_
  simp only [or_true, true_or, false_or, or_false, and_false, false_and, cond_true, cond_false, Bool.not_true, Bool.not_false, Bool.false_eq_true, Bool.true_eq_false, not_true_eq_false, not_false_eq_true, false_implies, true_implies, implies_true, Nat.blt_eq, owesN, owesX, owesR, notT, sat_brT, sat_brF, sat_chkT, cl_iff, cl_false, AV.le_refl, AV.le_any, OLe_refl, OLe_none, sat_brN, Tree.sat_chk, Tree.sat_leaf, Tree.sat_fail, Nat.zero_add, Nat.sub_zero, Int.toNat_natCast, LeH_cons, LeH_nil, LeL_cons, LeL_nil, and_true, true_and, Bool.and_eq_true, Bool.or_eq_true, decide_eq_true_eq, decide_eq_false_iff_not, Bool.cond_true_left, Bool.cond_false_right, List.cons_append, List.nil_append, List.map_cons, List.map_nil, wrapUpN (show x'.i ≤ 1000000000 by omega)]
  repeat' (first | apply And.intro | intro _hc)
  all_goals first | omega | contradiction | exact AV.le_refl _ | exact AV.le_any _ | exact OLe.refl _ | exact OLe.none _ | exact LeH.refl _ | exact LeL.refl _ | exact AV.le.bs _ | exact AV.le.sb _ | exact go4 hp hi hK ⟨rfl, rfl, rfl, rfl, rfl, rfl, rfl⟩ hlen hI (LeL.refl _) (LeH.refl _) | exact hA rfl rfl | ((rw [List.append_nil]; exact OLe.refl _)) | (exfalso; omega) | contradiction
theorem msOk {f bad view sx sy : Int} {acts : List Ac} {x : X4} (hp : pre4 f bad acts view sx sy x) (hn : acts.length ≤ 100) (hx : inU32 x.sx = true) (hy : inU32 x.sy = true) (hi : x.i < acts.length) (hk : (x.acts.getD x.i default).k = 1) (hv : ¬ badV (x.acts.getD x.i default).v) (hu : inU32 (x.acts.getD x.i default).set = true) (hE : EnE (x.acts.getD x.i default).set (timesF 1 x.f) (stC (x.acts.getD x.i default).v) x.f x.bad x.l 0) : RO4 f bad acts view sx sy x := by
  have hp2 := hp.e2
  have hpi := hp.i
  have hpl := hp.l
  have hac : x.acts.length = acts.length := by rw [hp2]
  obtain ⟨x', hl, hK, hI⟩ := inner (x := { x with sn := addS x.sn (x.acts.getD x.i default).v, n := nC x.gv x.sn (x.acts.getD x.i default).v x.n }) (hp.inv.see _) hx hy
  have hxi : x'.i = x.i := hK.i
  have hlen : (X4.l ({ x with sn := addS x.sn (x.acts.getD x.i default).v, n := nC x.gv x.sn (x.acts.getD x.i default).v x.n })).length ≤ x.i + 1 := by first | omega | (simp only [List.length_append, List.length_cons, List.length_nil]; omega)
  refine .of (inner4 hl) (osOk x x' hv hu hp.inv.b hE) ?_
  simp only [or_true, true_or, false_or, or_false, and_false, false_and, cond_true, cond_false, Bool.not_true, Bool.not_false, Bool.false_eq_true, Bool.true_eq_false, not_true_eq_false, not_false_eq_true, false_implies, true_implies, implies_true, Nat.blt_eq, owesN, owesX, owesR, notT, sat_brT, sat_brF, sat_chkT, cl_iff, cl_false, AV.le_refl, AV.le_any, OLe_refl, OLe_none, sat_brN, Tree.sat_chk, Tree.sat_leaf, Tree.sat_fail, Nat.zero_add, Nat.sub_zero, Int.toNat_natCast, LeH_cons, LeH_nil, LeL_cons, LeL_nil, and_true, true_and, Bool.and_eq_true, Bool.or_eq_true, decide_eq_true_eq, decide_eq_false_iff_not, Bool.cond_true_left, Bool.cond_false_right, List.cons_append, List.nil_append, List.map_cons, List.map_nil, wrapUpN (show x'.i ≤ 1000000000 by omega)]
  repeat' (first | apply And.intro | intro _hc)
  all_goals first | omega | contradiction | exact AV.le_refl _ | exact AV.le_any _ | exact OLe.refl _ | exact OLe.none _ | exact LeH.refl _ | exact LeL.refl _ | exact AV.le.bs _ | exact AV.le.sb _ | exact go4 hp hi hK ⟨rfl, rfl, rfl, rfl, rfl, rfl, rfl⟩ hlen hI (LeL.refl _) (LeH.refl _) | exact hA rfl rfl | ((rw [List.append_nil]; exact OLe.refl _)) | (exfalso; omega) | contradiction
theorem miOut {f bad view sx sy : Int} {acts : List Ac} {x : X4} (hp : pre4 f bad acts view sx sy x) (hn : acts.length ≤ 100) (hx : inU32 x.sx = true) (hy : inU32 x.sy = true) (hi : x.i < acts.length) (hk : (x.acts.getD x.i default).k = 2) (h : outS x.f (shC x)) : RO4 f bad acts view sx sy x := by
  have hp2 := hp.e2
  have hpi := hp.i
  have hpl := hp.l
  have hac : x.acts.length = acts.length := by rw [hp2]
  obtain ⟨x', hl, hK, hI⟩ := inner (x := x) hp.inv hx hy
  have hxi : x'.i = x.i := hK.i
  have hlen : (X4.l (x)).length ≤ x.i + 1 := by first | omega | (simp only [List.length_append, List.length_cons, List.length_nil]; omega)
  refine .of (inner4 hl) (oiOut x x' h) ?_
  simp only [or_true, true_or, false_or, or_false, and_false, false_and, cond_true, cond_false, Bool.not_true, Bool.not_false, Bool.false_eq_true, Bool.true_eq_false, not_true_eq_false, not_false_eq_true, false_implies, true_implies, implies_true, Nat.blt_eq, owesN, owesX, owesR, notT, sat_brT, sat_brF, sat_chkT, cl_iff, cl_false, AV.le_refl, AV.le_any, OLe_refl, OLe_none, sat_brN, Tree.sat_chk, Tree.sat_leaf, Tree.sat_fail, Nat.zero_add, Nat.sub_zero, Int.toNat_natCast, LeH_cons, LeH_nil, LeL_cons, LeL_nil, and_true, true_and, Bool.and_eq_true, Bool.or_eq_true, decide_eq_true_eq, decide_eq_false_iff_not, Bool.cond_true_left, Bool.cond_false_right, List.cons_append, List.nil_append, List.map_cons, List.map_nil, wrapUpN (show x'.i ≤ 1000000000 by omega)]
  repeat' (first | apply And.intro | intro _hc)
  all_goals first | omega | contradiction | exact AV.le_refl _ | exact AV.le_any _ | exact OLe.refl _ | exact OLe.none _ | exact LeH.refl _ | exact LeL.refl _ | exact AV.le.bs _ | exact AV.le.sb _ | exact go4 hp hi hK ⟨rfl, rfl, rfl, rfl, rfl, rfl, rfl⟩ hlen hI (LeL.refl _) (LeH.refl _) | exact hA rfl rfl | ((rw [List.append_nil]; exact OLe.refl _)) | (exfalso; omega) | contradiction
theorem miThere {f bad view sx sy : Int} {acts : List Ac} {x : X4} (hp : pre4 f bad acts view sx sy x) (hn : acts.length ≤ 100) (hx : inU32 x.sx = true) (hy : inU32 x.sy = true) (hi : x.i < acts.length) (hk : (x.acts.getD x.i default).k = 2) (h : ¬ outS x.f (shC x)) (hm : shC x ∈ x.l) : RO4 f bad acts view sx sy x := by
  have hp2 := hp.e2
  have hpi := hp.i
  have hpl := hp.l
  have hac : x.acts.length = acts.length := by rw [hp2]
  obtain ⟨x', hl, hK, hI⟩ := inner (x := x) hp.inv hx hy
  have hxi : x'.i = x.i := hK.i
  have hlen : (X4.l (x)).length ≤ x.i + 1 := by first | omega | (simp only [List.length_append, List.length_cons, List.length_nil]; omega)
  refine .of (inner4 hl) (oiThere x x' h hm) ?_
  simp only [or_true, true_or, false_or, or_false, and_false, false_and, cond_true, cond_false, Bool.not_true, Bool.not_false, Bool.false_eq_true, Bool.true_eq_false, not_true_eq_false, not_false_eq_true, false_implies, true_implies, implies_true, Nat.blt_eq, owesN, owesX, owesR, notT, sat_brT, sat_brF, sat_chkT, cl_iff, cl_false, AV.le_refl, AV.le_any, OLe_refl, OLe_none, sat_brN, Tree.sat_chk, Tree.sat_leaf, Tree.sat_fail, Nat.zero_add, Nat.sub_zero, Int.toNat_natCast, LeH_cons, LeH_nil, LeL_cons, LeL_nil, and_true, true_and, Bool.and_eq_true, Bool.or_eq_true, decide_eq_true_eq, decide_eq_false_iff_not, Bool.cond_true_left, Bool.cond_false_right, List.cons_append, List.nil_append, List.map_cons, List.map_nil, wrapUpN (show x'.i ≤ 1000000000 by omega)]
  repeat' (first | apply And.intro | intro _hc)
  all_goals first | omega | contradiction | exact AV.le_refl _ | exact AV.le_any _ | exact OLe.refl _ | exact OLe.none _ | exact LeH.refl _ | exact LeL.refl _ | exact AV.le.bs _ | exact AV.le.sb _ | exact go4 hp hi hK ⟨rfl, rfl, rfl, rfl, rfl, rfl, rfl⟩ hlen hI (LeL.refl _) (LeH.refl _) | exact hA rfl rfl | ((rw [List.append_nil]; exact OLe.refl _)) | (exfalso; omega) | contradiction
theorem miNew {f bad view sx sy : Int} {acts : List Ac} {x : X4} (hp : pre4 f bad acts view sx sy x) (hn : acts.length ≤ 100) (hx : inU32 x.sx = true) (hy : inU32 x.sy = true) (hi : x.i < acts.length) (hk : (x.acts.getD x.i default).k = 2) (h : ¬ outS x.f (shC x)) (hm : ¬ shC x ∈ x.l) : RO4 f bad acts view sx sy x := by
  have hp2 := hp.e2
  have hpi := hp.i
  have hpl := hp.l
  have hac : x.acts.length = acts.length := by rw [hp2]
  obtain ⟨x', hl, hK, hI⟩ := inner (x := { x with l := x.l ++ [shC x], j := [] }) hp.inv.iss hx hy
  have hxi : x'.i = x.i := hK.i
  have hlen : (X4.l ({ x with l := x.l ++ [shC x], j := [] })).length ≤ x.i + 1 := by first | omega | (simp only [List.length_append, List.length_cons, List.length_nil]; omega)
  refine .of (inner4 hl) (oiNew x x' (by omega) h hm) ?_
  simp only [or_true, true_or, false_or, or_false, and_false, false_and, cond_true, cond_false, Bool.not_true, Bool.not_false, Bool.false_eq_true, Bool.true_eq_false, not_true_eq_false, not_false_eq_true, false_implies, true_implies, implies_true, Nat.blt_eq, owesN, owesX, owesR, notT, sat_brT, sat_brF, sat_chkT, cl_iff, cl_false, AV.le_refl, AV.le_any, OLe_refl, OLe_none, sat_brN, Tree.sat_chk, Tree.sat_leaf, Tree.sat_fail, Nat.zero_add, Nat.sub_zero, Int.toNat_natCast, LeH_cons, LeH_nil, LeL_cons, LeL_nil, and_true, true_and, Bool.and_eq_true, Bool.or_eq_true, decide_eq_true_eq, decide_eq_false_iff_not, Bool.cond_true_left, Bool.cond_false_right, List.cons_append, List.nil_append, List.map_cons, List.map_nil, wrapUpN (show x'.i ≤ 1000000000 by omega)]
  repeat' (first | apply And.intro | intro _hc)
  all_goals first | omega | contradiction | exact AV.le_refl _ | exact AV.le_any _ | exact OLe.refl _ | exact OLe.none _ | exact LeH.refl _ | exact LeL.refl _ | exact AV.le.bs _ | exact AV.le.sb _ | exact go4 hp hi hK ⟨rfl, rfl, rfl, rfl, rfl, rfl, rfl⟩ hlen hI (LeL.refl _) (LeH.refl _) | exact hA rfl rfl | ((rw [List.append_nil]; exact OLe.refl _)) | (exfalso; omega) | contradiction
theorem ostop (x : X4) : roundE (P := Tryd.prog) (Γ := Γc) [] Lno false 0 0 (lp4 0) lv41 nl41 131 (S41 x).1 (S41 x).2 =
  Tree.br (decide ((↑x.i : Int) < (↑(List.length x.acts) : Int))) (Tree.chk (decide ((0 : Int) ≤ (↑x.i : Int)) && decide ((↑x.i : Int) < (↑(List.length x.acts) : Int))) (Tree.br (decide
    ((List.getD x.acts x.i default).k = (0 : Int))) Tree.fail (Tree.br (decide ((List.getD x.acts x.i default).k = (1 : Int))) Tree.fail (Tree.br (decide ((List.getD x.acts x.i default).k =
    (2 : Int))) Tree.fail Tree.fail)))) (Tree.leaf (Out.mk (AEx.exit (0 : Nat)) [AV.v (Value.int IntKind.i64 x.f), AV.v (Value.int IntKind.u32 x.bad), AV.sl (4 : Nat) (List.length x.acts)
    (lsF Ac.c x.acts), AV.v (Value.int IntKind.i64 x.view), AV.v (Value.int IntKind.u32 x.sx), AV.v (Value.int IntKind.u32 x.sy), AV.ptr (0 : Nat) (0 : Nat), AV.ptr (3 : Nat) (0 : Nat), AV.v
    (Value.int IntKind.i64 x.who), AV.sb x.seen, AV.v (Value.int IntKind.i64 (↑x.i : Int)), AV.any] [some (Blk.row [AV.v (Value.int IntKind.i64 x.f), AV.v (Value.int IntKind.u32 x.bad),
    AV.map (1 : Nat), AV.hs (2 : Nat) (0 : Nat) (List.length x.l)]), some (Blk.mp [Cel.int IntKind.i64, Cel.int IntKind.i64, Cel.int IntKind.i64, Cel.int IntKind.i64, Cel.int IntKind.i64,
    Cel.int IntKind.i64, Cel.int IntKind.i64, Cel.int IntKind.i64, Cel.int IntKind.i64, Cel.int IntKind.i64, Cel.int IntKind.i64] true false (List.length x.l) (hasS x.l) anyV), some (Blk.arr
    (11 : Nat) (List.length (x.l ++ x.j)) (lsF Sh.c (x.l ++ x.j))), some (Blk.row [AV.v (Value.int IntKind.i64 x.f), AV.map (4 : Nat)]), some (Blk.mp [Cel.int IntKind.i64] false true x.n
    (hasC x.gv x.sn) (valC x.f x.gv x.sn))])) := by kernel_rfl
theorem mstop {f bad view sx sy : Int} {acts : List Ac} {x : X4} (hp : pre4 f bad acts view sx sy x) (hi : acts.length ≤ x.i) : RO4 f bad acts view sx sy x := by
  have hp2 := hp.e2
  have hac : x.acts.length = acts.length := by rw [hp2]
  refine .of (L := Lno) (failOK fun _ _ _ => rfl) (ostop x) ?_
  simp only [or_true, true_or, false_or, or_false, and_false, false_and, cond_true, cond_false, Bool.not_true, Bool.not_false, Bool.false_eq_true, Bool.true_eq_false, not_true_eq_false, not_false_eq_true, false_implies, true_implies, implies_true, Nat.blt_eq, owesN, owesX, owesR, notT, sat_brT, sat_brF, sat_chkT, cl_iff, cl_false, AV.le_refl, AV.le_any, OLe_refl, OLe_none, sat_brN, Tree.sat_chk, Tree.sat_leaf, Tree.sat_fail, Nat.zero_add, Nat.sub_zero, Int.toNat_natCast, LeH_cons, LeH_nil, LeL_cons, LeL_nil, and_true, true_and, Bool.and_eq_true, Bool.or_eq_true, decide_eq_true_eq, decide_eq_false_iff_not, Bool.cond_true_left, Bool.cond_false_right, List.cons_append, List.nil_append, List.map_cons, List.map_nil]
  repeat' (first | apply And.intro | intro _hc)
  all_goals first | omega | contradiction | exact AV.le_refl _ | exact AV.le_any _ | exact OLe.refl _ | exact OLe.none _ | exact LeH.refl _ | exact LeL.refl _ | exact AV.le.bs _ | exact AV.le.sb _ | exact rfl | (exfalso; omega) | contradiction
theorem loop41 {f bad view sx sy : Int} {acts : List Ac} (hn : acts.length ≤ 100) (hx : inU32 sx = true) (hy : inU32 sy = true) (hset : ∀ i, i < acts.length → inU32 (acts.getD i default).set = true) : ∀ x, pre4 f bad acts view sx sy x → LoopOK Tryd.prog Γc 0 131 (lp4 0) (LSpec.at lv41 nl41 (S41 x) O41) := by
  refine loop_at (S := S41) (O := fun _ => O41) (k := 0) (fun x => acts.length - x.i) fun x hp => ?_
  show RO4 f bad acts view sx sy x
  have hx' : inU32 x.sx = true := by rw [hp.e4]; exact hx
  have hy' : inU32 x.sy = true := by rw [hp.e5]; exact hy
  rcases Nat.lt_or_ge x.i acts.length with hi | hi
  case inr => exact mstop hp hi
  have hu : inU32 (x.acts.getD x.i default).set = true := by rw [hp.e2]; exact hset x.i hi
  by_cases k0 : (x.acts.getD x.i default).k = 0
  · by_cases hv : badV (x.acts.getD x.i default).v
    · exact mc70 hp hn hx' hy' hi k0 hv
    by_cases hw : (x.acts.getD x.i default).w < 0 ∨ timesF 3 x.f ≤ (x.acts.getD x.i default).w
    · exact mcOut hp hn hx' hy' hi k0 hv hw
    cases h1 : gvB x.gv (x.acts.getD x.i default).v with
    | true => exact mcThere hp hn hx' hy' hi k0 hv hw (.inl h1)
    | false =>
      cases h2 : snB x.sn (x.acts.getD x.i default).v with
      | true => exact mcThere hp hn hx' hy' hi k0 hv hw (.inr h2)
      | false => exact mcNew hp hn hx' hy' hi k0 hv hw h1 h2
  by_cases k1 : (x.acts.getD x.i default).k = 1
  · by_cases hv : badV (x.acts.getD x.i default).v
    · exact ms70 hp hn hx' hy' hi k1 hv
    obtain ⟨e, he⟩ := EnE.ex (x.acts.getD x.i default).set (timesF 1 x.f) (stC (x.acts.getD x.i default).v) x.f x.bad x.l
    by_cases h0 : e = 0
    · subst h0
      exact msOk hp hn hx' hy' hi k1 hv hu he
    · exact msE hp hn hx' hy' hi k1 e hv hu he h0
  by_cases k2 : (x.acts.getD x.i default).k = 2
  · by_cases h : outS x.f (shC x)
    · exact miOut hp hn hx' hy' hi k2 h
    by_cases hm : shC x ∈ x.l
    · exact miThere hp hn hx' hy' hi k2 h hm
    · exact miNew hp hn hx' hy' hi k2 h hm
  exact mend hp hn hx' hy' hi k0 k1 k2
def A4 (f bad : Int) (acts : List Ac) (view sx sy : Int) : List AV := [.v (.int .i64 f), .v (.int .u32 bad), .sl 4 acts.length (lsF Ac.c acts), .v (.int .i64 view), .v (.int .u32 sx), .v (.int .u32 sy)]
noncomputable def LB (s : List AV × Heap) (o : Out) : Nat → LSpec
  | 0 => LSpec.at lv41 nl41 s o
  | _ => ⟨[], [], fun _ _ => .fail⟩
theorem law4a (f bad view sx sy : Int) (acts : List Ac) : bodyE (P := Tryd.prog) (Γ := Γc) [c6, k7, k9] Lno false 131 [.tmp 12] (bodyOf Tryd.f4) (A4 f bad acts view sx sy) [] =
  Tree.chk (inU32 bad) (Tree.br (!decide (checkF f bad = (0 : Int))) (Tree.chk true (Tree.br (decide (timesF (3 : Int) f = (0 : Int))) (Tree.br (bif !decide (checkF f bad = (0 : Int)) then
    true else true) (Tree.leaf (Ans.mk (AV.v (Value.bool true)) [])) Tree.fail) (Tree.br (bif !decide (checkF f bad = (0 : Int)) then true else decide ((100 : Int) < (↑(List.length acts) :
    Int))) (Tree.leaf (Ans.mk (AV.v (Value.bool true)) [])) Tree.fail))) (Tree.chk (inU32 bad) (Tree.br (decide (f < (↑(pc bad) : Int))) (Tree.chk true (Tree.br (decide (timesF (3 : Int) f =
    (0 : Int))) (Tree.br true (Tree.leaf (Ans.mk (AV.v (Value.bool true)) [])) Tree.fail) (Tree.br true (Tree.leaf (Ans.mk (AV.v (Value.bool true)) [])) Tree.fail))) (Tree.chk true (Tree.br
    (decide (timesF (3 : Int) f = (0 : Int))) (Tree.br true (Tree.leaf (Ans.mk (AV.v (Value.bool true)) [])) Tree.fail) (Tree.br (decide ((100 : Int) < (↑(List.length acts) : Int)))
    (Tree.leaf (Ans.mk (AV.v (Value.bool true)) [])) Tree.fail)))))) := by kernel_rfl
theorem law4k (f bad view sx sy : Int) (acts : List Ac) : bodyE (P := Tryd.prog) (Γ := Γc) [c6, k7, k9] (LB (S41 ⟨f, bad, acts, view, sx, sy, [], [], [], [], 0, 0, false, 0⟩) O41) false 131 [.tmp 12] (bodyOf Tryd.f4) (A4 f bad acts view sx sy) [] =
  Tree.chk (inU32 bad) (Tree.br (!decide (checkF f bad = (0 : Int))) (Tree.chk true (Tree.br (decide (timesF (3 : Int) f = (0 : Int))) (Tree.br (bif !decide (checkF f bad = (0 : Int)) then
    true else true) (Tree.leaf (Ans.mk (AV.v (Value.bool true)) [])) (Tree.chk (cl (LeL [AV.v (Value.int IntKind.i64 f), AV.v (Value.int IntKind.u32 bad), AV.sl (4 : Nat) (List.length acts)
    (lsF Ac.c acts), AV.v (Value.int IntKind.i64 view), AV.v (Value.int IntKind.u32 sx), AV.v (Value.int IntKind.u32 sy), AV.v (Value.pointer none), AV.v (Value.pointer none), AV.v
    (Value.int IntKind.i64 (0 : Int)), AV.v (Value.bool false), AV.v (Value.int IntKind.i64 (0 : Int)), AV.v (Value.bool false)] [AV.v (Value.int IntKind.i64 f), AV.v (Value.int IntKind.u32
    bad), AV.sl (4 : Nat) (List.length (X4.mk f bad acts view sx sy [] [] [] [] (0 : Nat) (0 : Int) false (0 : Nat)).acts) (lsF Ac.c (X4.mk f bad acts view sx sy [] [] [] [] (0 : Nat) (0 :
    Int) false (0 : Nat)).acts), AV.v (Value.int IntKind.i64 view), AV.v (Value.int IntKind.u32 sx), AV.v (Value.int IntKind.u32 sy), AV.ptr (0 : Nat) (0 : Nat), AV.ptr (3 : Nat) (0 : Nat),
    AV.v (Value.int IntKind.i64 (0 : Int)), AV.sb false, AV.v (Value.int IntKind.i64 (↑(0 : Nat) : Int)), AV.any] ∧ LeH [] [some (Blk.row [AV.v (Value.int IntKind.i64 f), AV.v (Value.int
    IntKind.u32 bad), AV.map (1 : Nat), AV.hs (2 : Nat) (0 : Nat) (0 : Nat)]), some (Blk.mp [Cel.int IntKind.i64, Cel.int IntKind.i64, Cel.int IntKind.i64, Cel.int IntKind.i64, Cel.int
    IntKind.i64, Cel.int IntKind.i64, Cel.int IntKind.i64, Cel.int IntKind.i64, Cel.int IntKind.i64, Cel.int IntKind.i64, Cel.int IntKind.i64] true false (0 : Nat) (hasS (X4.mk f bad acts
    view sx sy [] [] [] [] (0 : Nat) (0 : Int) false (0 : Nat)).l) anyV), some (Blk.arr (11 : Nat) (0 : Nat) (lsF Sh.c ((X4.mk f bad acts view sx sy [] [] [] [] (0 : Nat) (0 : Int) false (0
    : Nat)).l ++ (X4.mk f bad acts view sx sy [] [] [] [] (0 : Nat) (0 : Int) false (0 : Nat)).j))), some (Blk.row [AV.v (Value.int IntKind.i64 f), AV.map (4 : Nat)]), some (Blk.mp [Cel.int
    IntKind.i64] false true (0 : Nat) (hasC (X4.mk f bad acts view sx sy [] [] [] [] (0 : Nat) (0 : Int) false (0 : Nat)).gv (X4.mk f bad acts view sx sy [] [] [] [] (0 : Nat) (0 : Int)
    false (0 : Nat)).sn) (valC (X4.mk f bad acts view sx sy [] [] [] [] (0 : Nat) (0 : Int) false (0 : Nat)).f (X4.mk f bad acts view sx sy [] [] [] [] (0 : Nat) (0 : Int) false (0 :
    Nat)).gv (X4.mk f bad acts view sx sy [] [] [] [] (0 : Nat) (0 : Int) false (0 : Nat)).sn))])) (Tree.leaf (Ans.mk (AV.v (Value.bool true)) [])))) (Tree.br (bif !decide (checkF f bad = (0
    : Int)) then true else decide ((100 : Int) < (↑(List.length acts) : Int))) (Tree.leaf (Ans.mk (AV.v (Value.bool true)) [])) (Tree.chk (cl (LeL [AV.v (Value.int IntKind.i64 f), AV.v
    (Value.int IntKind.u32 bad), AV.sl (4 : Nat) (List.length acts) (lsF Ac.c acts), AV.v (Value.int IntKind.i64 view), AV.v (Value.int IntKind.u32 sx), AV.v (Value.int IntKind.u32 sy), AV.v
    (Value.pointer none), AV.ptr (0 : Nat) (0 : Nat), AV.v (Value.int IntKind.i64 (0 : Int)), AV.v (Value.bool false), AV.v (Value.int IntKind.i64 (0 : Int)), AV.v (Value.bool false)] [AV.v
    (Value.int IntKind.i64 f), AV.v (Value.int IntKind.u32 bad), AV.sl (4 : Nat) (List.length (X4.mk f bad acts view sx sy [] [] [] [] (0 : Nat) (0 : Int) false (0 : Nat)).acts) (lsF Ac.c
    (X4.mk f bad acts view sx sy [] [] [] [] (0 : Nat) (0 : Int) false (0 : Nat)).acts), AV.v (Value.int IntKind.i64 view), AV.v (Value.int IntKind.u32 sx), AV.v (Value.int IntKind.u32 sy),
    AV.ptr (0 : Nat) (0 : Nat), AV.ptr (3 : Nat) (0 : Nat), AV.v (Value.int IntKind.i64 (0 : Int)), AV.sb false, AV.v (Value.int IntKind.i64 (↑(0 : Nat) : Int)), AV.any] ∧ LeH [some (Blk.row
    [AV.v (Value.int IntKind.i64 f), AV.map (1 : Nat)]), some (Blk.mp [Cel.int IntKind.i64] false true (0 : Nat) (fun x => false) fun x => [AV.v (Value.int IntKind.i64 (0 : Int)), AV.v
    (Value.bool false), AV.v (Value.bool false)])] [some (Blk.row [AV.v (Value.int IntKind.i64 f), AV.v (Value.int IntKind.u32 bad), AV.map (1 : Nat), AV.hs (2 : Nat) (0 : Nat) (0 : Nat)]),
    some (Blk.mp [Cel.int IntKind.i64, Cel.int IntKind.i64, Cel.int IntKind.i64, Cel.int IntKind.i64, Cel.int IntKind.i64, Cel.int IntKind.i64, Cel.int IntKind.i64, Cel.int IntKind.i64,
    Cel.int IntKind.i64, Cel.int IntKind.i64, Cel.int IntKind.i64] true false (0 : Nat) (hasS (X4.mk f bad acts view sx sy [] [] [] [] (0 : Nat) (0 : Int) false (0 : Nat)).l) anyV), some
    (Blk.arr (11 : Nat) (0 : Nat) (lsF Sh.c ((X4.mk f bad acts view sx sy [] [] [] [] (0 : Nat) (0 : Int) false (0 : Nat)).l ++ (X4.mk f bad acts view sx sy [] [] [] [] (0 : Nat) (0 : Int)
    false (0 : Nat)).j))), some (Blk.row [AV.v (Value.int IntKind.i64 f), AV.map (4 : Nat)]), some (Blk.mp [Cel.int IntKind.i64] false true (0 : Nat) (hasC (X4.mk f bad acts view sx sy [] []
    [] [] (0 : Nat) (0 : Int) false (0 : Nat)).gv (X4.mk f bad acts view sx sy [] [] [] [] (0 : Nat) (0 : Int) false (0 : Nat)).sn) (valC (X4.mk f bad acts view sx sy [] [] [] [] (0 : Nat)
    (0 : Int) false (0 : Nat)).f (X4.mk f bad acts view sx sy [] [] [] [] (0 : Nat) (0 : Int) false (0 : Nat)).gv (X4.mk f bad acts view sx sy [] [] [] [] (0 : Nat) (0 : Int) false (0 :
    Nat)).sn))])) (Tree.leaf (Ans.mk (AV.v (Value.bool true)) [])))))) (Tree.chk (inU32 bad) (Tree.br (decide (f < (↑(pc bad) : Int))) (Tree.chk true (Tree.br (decide (timesF (3 : Int) f =
    (0 : Int))) (Tree.br true (Tree.leaf (Ans.mk (AV.v (Value.bool true)) [])) (Tree.chk (cl (LeL [AV.v (Value.int IntKind.i64 f), AV.v (Value.int IntKind.u32 bad), AV.sl (4 : Nat)
    (List.length acts) (lsF Ac.c acts), AV.v (Value.int IntKind.i64 view), AV.v (Value.int IntKind.u32 sx), AV.v (Value.int IntKind.u32 sy), AV.v (Value.pointer none), AV.v (Value.pointer
    none), AV.v (Value.int IntKind.i64 (0 : Int)), AV.v (Value.bool false), AV.v (Value.int IntKind.i64 (0 : Int)), AV.v (Value.bool false)] [AV.v (Value.int IntKind.i64 f), AV.v (Value.int
    IntKind.u32 bad), AV.sl (4 : Nat) (List.length (X4.mk f bad acts view sx sy [] [] [] [] (0 : Nat) (0 : Int) false (0 : Nat)).acts) (lsF Ac.c (X4.mk f bad acts view sx sy [] [] [] [] (0 :
    Nat) (0 : Int) false (0 : Nat)).acts), AV.v (Value.int IntKind.i64 view), AV.v (Value.int IntKind.u32 sx), AV.v (Value.int IntKind.u32 sy), AV.ptr (0 : Nat) (0 : Nat), AV.ptr (3 : Nat)
    (0 : Nat), AV.v (Value.int IntKind.i64 (0 : Int)), AV.sb false, AV.v (Value.int IntKind.i64 (↑(0 : Nat) : Int)), AV.any] ∧ LeH [] [some (Blk.row [AV.v (Value.int IntKind.i64 f), AV.v
    (Value.int IntKind.u32 bad), AV.map (1 : Nat), AV.hs (2 : Nat) (0 : Nat) (0 : Nat)]), some (Blk.mp [Cel.int IntKind.i64, Cel.int IntKind.i64, Cel.int IntKind.i64, Cel.int IntKind.i64,
    Cel.int IntKind.i64, Cel.int IntKind.i64, Cel.int IntKind.i64, Cel.int IntKind.i64, Cel.int IntKind.i64, Cel.int IntKind.i64, Cel.int IntKind.i64] true false (0 : Nat) (hasS (X4.mk f bad
    acts view sx sy [] [] [] [] (0 : Nat) (0 : Int) false (0 : Nat)).l) anyV), some (Blk.arr (11 : Nat) (0 : Nat) (lsF Sh.c ((X4.mk f bad acts view sx sy [] [] [] [] (0 : Nat) (0 : Int)
    false (0 : Nat)).l ++ (X4.mk f bad acts view sx sy [] [] [] [] (0 : Nat) (0 : Int) false (0 : Nat)).j))), some (Blk.row [AV.v (Value.int IntKind.i64 f), AV.map (4 : Nat)]), some (Blk.mp
    [Cel.int IntKind.i64] false true (0 : Nat) (hasC (X4.mk f bad acts view sx sy [] [] [] [] (0 : Nat) (0 : Int) false (0 : Nat)).gv (X4.mk f bad acts view sx sy [] [] [] [] (0 : Nat) (0 :
    Int) false (0 : Nat)).sn) (valC (X4.mk f bad acts view sx sy [] [] [] [] (0 : Nat) (0 : Int) false (0 : Nat)).f (X4.mk f bad acts view sx sy [] [] [] [] (0 : Nat) (0 : Int) false (0 :
    Nat)).gv (X4.mk f bad acts view sx sy [] [] [] [] (0 : Nat) (0 : Int) false (0 : Nat)).sn))])) (Tree.leaf (Ans.mk (AV.v (Value.bool true)) [])))) (Tree.br true (Tree.leaf (Ans.mk (AV.v
    (Value.bool true)) [])) (Tree.chk (cl (LeL [AV.v (Value.int IntKind.i64 f), AV.v (Value.int IntKind.u32 bad), AV.sl (4 : Nat) (List.length acts) (lsF Ac.c acts), AV.v (Value.int
    IntKind.i64 view), AV.v (Value.int IntKind.u32 sx), AV.v (Value.int IntKind.u32 sy), AV.v (Value.pointer none), AV.ptr (0 : Nat) (0 : Nat), AV.v (Value.int IntKind.i64 (0 : Int)), AV.v
    (Value.bool false), AV.v (Value.int IntKind.i64 (0 : Int)), AV.v (Value.bool false)] [AV.v (Value.int IntKind.i64 f), AV.v (Value.int IntKind.u32 bad), AV.sl (4 : Nat) (List.length
    (X4.mk f bad acts view sx sy [] [] [] [] (0 : Nat) (0 : Int) false (0 : Nat)).acts) (lsF Ac.c (X4.mk f bad acts view sx sy [] [] [] [] (0 : Nat) (0 : Int) false (0 : Nat)).acts), AV.v
    (Value.int IntKind.i64 view), AV.v (Value.int IntKind.u32 sx), AV.v (Value.int IntKind.u32 sy), AV.ptr (0 : Nat) (0 : Nat), AV.ptr (3 : Nat) (0 : Nat), AV.v (Value.int IntKind.i64 (0 :
    Int)), AV.sb false, AV.v (Value.int IntKind.i64 (↑(0 : Nat) : Int)), AV.any] ∧ LeH [some (Blk.row [AV.v (Value.int IntKind.i64 f), AV.map (1 : Nat)]), some (Blk.mp [Cel.int IntKind.i64]
    false true (0 : Nat) (fun x => false) fun x => [AV.v (Value.int IntKind.i64 (0 : Int)), AV.v (Value.bool false), AV.v (Value.bool false)])] [some (Blk.row [AV.v (Value.int IntKind.i64
    f), AV.v (Value.int IntKind.u32 bad), AV.map (1 : Nat), AV.hs (2 : Nat) (0 : Nat) (0 : Nat)]), some (Blk.mp [Cel.int IntKind.i64, Cel.int IntKind.i64, Cel.int IntKind.i64, Cel.int
    IntKind.i64, Cel.int IntKind.i64, Cel.int IntKind.i64, Cel.int IntKind.i64, Cel.int IntKind.i64, Cel.int IntKind.i64, Cel.int IntKind.i64, Cel.int IntKind.i64] true false (0 : Nat) (hasS
    (X4.mk f bad acts view sx sy [] [] [] [] (0 : Nat) (0 : Int) false (0 : Nat)).l) anyV), some (Blk.arr (11 : Nat) (0 : Nat) (lsF Sh.c ((X4.mk f bad acts view sx sy [] [] [] [] (0 : Nat)
    (0 : Int) false (0 : Nat)).l ++ (X4.mk f bad acts view sx sy [] [] [] [] (0 : Nat) (0 : Int) false (0 : Nat)).j))), some (Blk.row [AV.v (Value.int IntKind.i64 f), AV.map (4 : Nat)]),
    some (Blk.mp [Cel.int IntKind.i64] false true (0 : Nat) (hasC (X4.mk f bad acts view sx sy [] [] [] [] (0 : Nat) (0 : Int) false (0 : Nat)).gv (X4.mk f bad acts view sx sy [] [] [] [] (0
    : Nat) (0 : Int) false (0 : Nat)).sn) (valC (X4.mk f bad acts view sx sy [] [] [] [] (0 : Nat) (0 : Int) false (0 : Nat)).f (X4.mk f bad acts view sx sy [] [] [] [] (0 : Nat) (0 : Int)
    false (0 : Nat)).gv (X4.mk f bad acts view sx sy [] [] [] [] (0 : Nat) (0 : Int) false (0 : Nat)).sn))])) (Tree.leaf (Ans.mk (AV.v (Value.bool true)) [])))))) (Tree.chk true (Tree.br
    (decide (timesF (3 : Int) f = (0 : Int))) (Tree.br true (Tree.leaf (Ans.mk (AV.v (Value.bool true)) [])) (Tree.chk (cl (LeL [AV.v (Value.int IntKind.i64 f), AV.v (Value.int IntKind.u32
    bad), AV.sl (4 : Nat) (List.length acts) (lsF Ac.c acts), AV.v (Value.int IntKind.i64 view), AV.v (Value.int IntKind.u32 sx), AV.v (Value.int IntKind.u32 sy), AV.ptr (0 : Nat) (0 : Nat),
    AV.v (Value.pointer none), AV.v (Value.int IntKind.i64 (0 : Int)), AV.v (Value.bool false), AV.v (Value.int IntKind.i64 (0 : Int)), AV.v (Value.bool false)] [AV.v (Value.int IntKind.i64
    f), AV.v (Value.int IntKind.u32 bad), AV.sl (4 : Nat) (List.length (X4.mk f bad acts view sx sy [] [] [] [] (0 : Nat) (0 : Int) false (0 : Nat)).acts) (lsF Ac.c (X4.mk f bad acts view sx
    sy [] [] [] [] (0 : Nat) (0 : Int) false (0 : Nat)).acts), AV.v (Value.int IntKind.i64 view), AV.v (Value.int IntKind.u32 sx), AV.v (Value.int IntKind.u32 sy), AV.ptr (0 : Nat) (0 :
    Nat), AV.ptr (3 : Nat) (0 : Nat), AV.v (Value.int IntKind.i64 (0 : Int)), AV.sb false, AV.v (Value.int IntKind.i64 (↑(0 : Nat) : Int)), AV.any] ∧ LeH [some (Blk.row [AV.v (Value.int
    IntKind.i64 f), AV.v (Value.int IntKind.u32 bad), AV.map (1 : Nat), AV.hs (2 : Nat) (0 : Nat) (0 : Nat)]), some (Blk.mp [Cel.int IntKind.i64, Cel.int IntKind.i64, Cel.int IntKind.i64,
    Cel.int IntKind.i64, Cel.int IntKind.i64, Cel.int IntKind.i64, Cel.int IntKind.i64, Cel.int IntKind.i64, Cel.int IntKind.i64, Cel.int IntKind.i64, Cel.int IntKind.i64] true false (0 :
    Nat) (fun x => false) fun x => [AV.v (Value.int IntKind.i64 (0 : Int))]), some (Blk.arr (11 : Nat) (0 : Nat) fun x => [AV.v (Value.int IntKind.i64 (0 : Int)), AV.v (Value.int IntKind.i64
    (0 : Int)), AV.v (Value.int IntKind.i64 (0 : Int)), AV.v (Value.int IntKind.i64 (0 : Int)), AV.v (Value.int IntKind.i64 (0 : Int)), AV.v (Value.int IntKind.i64 (0 : Int)), AV.v
    (Value.int IntKind.i64 (0 : Int)), AV.v (Value.int IntKind.i64 (0 : Int)), AV.v (Value.int IntKind.i64 (0 : Int)), AV.v (Value.int IntKind.i64 (0 : Int)), AV.v (Value.int IntKind.i64 (0
    : Int))])] [some (Blk.row [AV.v (Value.int IntKind.i64 f), AV.v (Value.int IntKind.u32 bad), AV.map (1 : Nat), AV.hs (2 : Nat) (0 : Nat) (0 : Nat)]), some (Blk.mp [Cel.int IntKind.i64,
    Cel.int IntKind.i64, Cel.int IntKind.i64, Cel.int IntKind.i64, Cel.int IntKind.i64, Cel.int IntKind.i64, Cel.int IntKind.i64, Cel.int IntKind.i64, Cel.int IntKind.i64, Cel.int
    IntKind.i64, Cel.int IntKind.i64] true false (0 : Nat) (hasS (X4.mk f bad acts view sx sy [] [] [] [] (0 : Nat) (0 : Int) false (0 : Nat)).l) anyV), some (Blk.arr (11 : Nat) (0 : Nat)
    (lsF Sh.c ((X4.mk f bad acts view sx sy [] [] [] [] (0 : Nat) (0 : Int) false (0 : Nat)).l ++ (X4.mk f bad acts view sx sy [] [] [] [] (0 : Nat) (0 : Int) false (0 : Nat)).j))), some
    (Blk.row [AV.v (Value.int IntKind.i64 f), AV.map (4 : Nat)]), some (Blk.mp [Cel.int IntKind.i64] false true (0 : Nat) (hasC (X4.mk f bad acts view sx sy [] [] [] [] (0 : Nat) (0 : Int)
    false (0 : Nat)).gv (X4.mk f bad acts view sx sy [] [] [] [] (0 : Nat) (0 : Int) false (0 : Nat)).sn) (valC (X4.mk f bad acts view sx sy [] [] [] [] (0 : Nat) (0 : Int) false (0 :
    Nat)).f (X4.mk f bad acts view sx sy [] [] [] [] (0 : Nat) (0 : Int) false (0 : Nat)).gv (X4.mk f bad acts view sx sy [] [] [] [] (0 : Nat) (0 : Int) false (0 : Nat)).sn))])) (Tree.leaf
    (Ans.mk (AV.v (Value.bool true)) [])))) (Tree.br (decide ((100 : Int) < (↑(List.length acts) : Int))) (Tree.leaf (Ans.mk (AV.v (Value.bool true)) [])) (Tree.chk (cl (LeL [AV.v (Value.int
    IntKind.i64 f), AV.v (Value.int IntKind.u32 bad), AV.sl (4 : Nat) (List.length acts) (lsF Ac.c acts), AV.v (Value.int IntKind.i64 view), AV.v (Value.int IntKind.u32 sx), AV.v (Value.int
    IntKind.u32 sy), AV.ptr (0 : Nat) (0 : Nat), AV.ptr (3 : Nat) (0 : Nat), AV.v (Value.int IntKind.i64 (0 : Int)), AV.v (Value.bool false), AV.v (Value.int IntKind.i64 (0 : Int)), AV.v
    (Value.bool false)] [AV.v (Value.int IntKind.i64 f), AV.v (Value.int IntKind.u32 bad), AV.sl (4 : Nat) (List.length (X4.mk f bad acts view sx sy [] [] [] [] (0 : Nat) (0 : Int) false (0
    : Nat)).acts) (lsF Ac.c (X4.mk f bad acts view sx sy [] [] [] [] (0 : Nat) (0 : Int) false (0 : Nat)).acts), AV.v (Value.int IntKind.i64 view), AV.v (Value.int IntKind.u32 sx), AV.v
    (Value.int IntKind.u32 sy), AV.ptr (0 : Nat) (0 : Nat), AV.ptr (3 : Nat) (0 : Nat), AV.v (Value.int IntKind.i64 (0 : Int)), AV.sb false, AV.v (Value.int IntKind.i64 (↑(0 : Nat) : Int)),
    AV.any] ∧ LeH [some (Blk.row [AV.v (Value.int IntKind.i64 f), AV.v (Value.int IntKind.u32 bad), AV.map (1 : Nat), AV.hs (2 : Nat) (0 : Nat) (0 : Nat)]), some (Blk.mp [Cel.int
    IntKind.i64, Cel.int IntKind.i64, Cel.int IntKind.i64, Cel.int IntKind.i64, Cel.int IntKind.i64, Cel.int IntKind.i64, Cel.int IntKind.i64, Cel.int IntKind.i64, Cel.int IntKind.i64,
    Cel.int IntKind.i64, Cel.int IntKind.i64] true false (0 : Nat) (fun x => false) fun x => [AV.v (Value.int IntKind.i64 (0 : Int))]), some (Blk.arr (11 : Nat) (0 : Nat) fun x => [AV.v
    (Value.int IntKind.i64 (0 : Int)), AV.v (Value.int IntKind.i64 (0 : Int)), AV.v (Value.int IntKind.i64 (0 : Int)), AV.v (Value.int IntKind.i64 (0 : Int)), AV.v (Value.int IntKind.i64 (0
    : Int)), AV.v (Value.int IntKind.i64 (0 : Int)), AV.v (Value.int IntKind.i64 (0 : Int)), AV.v (Value.int IntKind.i64 (0 : Int)), AV.v (Value.int IntKind.i64 (0 : Int)), AV.v (Value.int
    IntKind.i64 (0 : Int)), AV.v (Value.int IntKind.i64 (0 : Int))]), some (Blk.row [AV.v (Value.int IntKind.i64 f), AV.map (4 : Nat)]), some (Blk.mp [Cel.int IntKind.i64] false true (0 :
    Nat) (fun x => false) fun x => [AV.v (Value.int IntKind.i64 (0 : Int)), AV.v (Value.bool false), AV.v (Value.bool false)])] [some (Blk.row [AV.v (Value.int IntKind.i64 f), AV.v
    (Value.int IntKind.u32 bad), AV.map (1 : Nat), AV.hs (2 : Nat) (0 : Nat) (0 : Nat)]), some (Blk.mp [Cel.int IntKind.i64, Cel.int IntKind.i64, Cel.int IntKind.i64, Cel.int IntKind.i64,
    Cel.int IntKind.i64, Cel.int IntKind.i64, Cel.int IntKind.i64, Cel.int IntKind.i64, Cel.int IntKind.i64, Cel.int IntKind.i64, Cel.int IntKind.i64] true false (0 : Nat) (hasS (X4.mk f bad
    acts view sx sy [] [] [] [] (0 : Nat) (0 : Int) false (0 : Nat)).l) anyV), some (Blk.arr (11 : Nat) (0 : Nat) (lsF Sh.c ((X4.mk f bad acts view sx sy [] [] [] [] (0 : Nat) (0 : Int)
    false (0 : Nat)).l ++ (X4.mk f bad acts view sx sy [] [] [] [] (0 : Nat) (0 : Int) false (0 : Nat)).j))), some (Blk.row [AV.v (Value.int IntKind.i64 f), AV.map (4 : Nat)]), some (Blk.mp
    [Cel.int IntKind.i64] false true (0 : Nat) (hasC (X4.mk f bad acts view sx sy [] [] [] [] (0 : Nat) (0 : Int) false (0 : Nat)).gv (X4.mk f bad acts view sx sy [] [] [] [] (0 : Nat) (0 :
    Int) false (0 : Nat)).sn) (valC (X4.mk f bad acts view sx sy [] [] [] [] (0 : Nat) (0 : Int) false (0 : Nat)).f (X4.mk f bad acts view sx sy [] [] [] [] (0 : Nat) (0 : Int) false (0 :
    Nat)).gv (X4.mk f bad acts view sx sy [] [] [] [] (0 : Nat) (0 : Int) false (0 : Nat)).sn))])) (Tree.leaf (Ans.mk (AV.v (Value.bool true)) []))))))))) := by kernel_rfl
end Go.Eng.Co

/- coin: all see the same: the law. -/
namespace Go.Eng.Co
open Go Go.Eng Go.Eng.M Go.Proofs
set_option linter.unusedSimpArgs false
set_option linter.unusedVariables false
theorem check_times {f s : Int} (h : checkF f s = 0) : timesF 3 f ≠ 0 := fun h0 => by
  have h1 := times_zero.1 h0
  unfold checkF at h
  rw [if_pos h1] at h
  simp at h
theorem law4 (f bad : Int) (acts : List Ac) (view sx sy : Int) (hb : inU32 bad = true) (hx : inU32 sx = true) (hy : inU32 sy = true) (hset : ∀ i, i < acts.length → inU32 (acts.getD i default).set = true) : LawOK Tryd.prog Γc 131 [.tmp 12] (bodyOf Tryd.f4) (A4 f bad acts view sx sy) := by
  by_cases hno : 100 < acts.length ∨ checkF f bad ≠ 0 ∨ f < (pc bad : Int)
  · refine .mk' (T := [c6, k7, k9]) (ip := false) (L := Lno) (failOK fun _ _ _ => rfl) (Right.of (law4a f bad view sx sy acts) ?_)
    by_cases hc : checkF f bad = 0
    · have hf := check_times hc
      have hq : 100 < acts.length ∨ f < (pc bad : Int) := by
        rcases hno with h | h | h
        · exact .inl h
        · exact absurd hc h
        · exact .inr h
      by_cases hp : f < (pc bad : Int)
      · simp only [or_true, true_or, false_or, or_false, and_false, false_and, cond_true, cond_false, Bool.not_true, Bool.not_false, Bool.false_eq_true, Bool.true_eq_false, not_true_eq_false, not_false_eq_true, false_implies, true_implies, implies_true, Nat.blt_eq, owesN, owesX, owesR, notT, sat_brT, sat_brF, sat_chkT, cl_iff, cl_false, AV.le_refl, AV.le_any, OLe_refl, OLe_none, sat_brN, Tree.sat_chk, Tree.sat_leaf, Tree.sat_fail, Nat.zero_add, Nat.sub_zero, Int.toNat_natCast, LeH_cons, LeH_nil, LeL_cons, LeL_nil, and_true, true_and, Bool.and_eq_true, Bool.or_eq_true, decide_eq_true_eq, decide_eq_false_iff_not, Bool.cond_true_left, Bool.cond_false_right, List.cons_append, List.nil_append, List.map_cons, List.map_nil, hb, hc, hp, hf]
        repeat' (first | apply And.intro | intro _hc)
        all_goals first | omega | contradiction | exact AV.le_refl _ | exact AV.le_any _ | exact OLe.refl _ | exact OLe.none _ | exact LeH.refl _ | exact LeL.refl _ | exact AV.le.bs _ | exact AV.le.sb _ | (exfalso; omega) | contradiction
      · have h1 : 100 < acts.length := hq.resolve_right hp
        simp only [or_true, true_or, false_or, or_false, and_false, false_and, cond_true, cond_false, Bool.not_true, Bool.not_false, Bool.false_eq_true, Bool.true_eq_false, not_true_eq_false, not_false_eq_true, false_implies, true_implies, implies_true, Nat.blt_eq, owesN, owesX, owesR, notT, sat_brT, sat_brF, sat_chkT, cl_iff, cl_false, AV.le_refl, AV.le_any, OLe_refl, OLe_none, sat_brN, Tree.sat_chk, Tree.sat_leaf, Tree.sat_fail, Nat.zero_add, Nat.sub_zero, Int.toNat_natCast, LeH_cons, LeH_nil, LeL_cons, LeL_nil, and_true, true_and, Bool.and_eq_true, Bool.or_eq_true, decide_eq_true_eq, decide_eq_false_iff_not, Bool.cond_true_left, Bool.cond_false_right, List.cons_append, List.nil_append, List.map_cons, List.map_nil, hb, hc, hp, hf, h1]
        repeat' (first | apply And.intro | intro _hc)
        all_goals first | omega | contradiction | exact AV.le_refl _ | exact AV.le_any _ | exact OLe.refl _ | exact OLe.none _ | exact LeH.refl _ | exact LeL.refl _ | exact AV.le.bs _ | exact AV.le.sb _ | (exfalso; omega) | contradiction
    · by_cases hf : timesF 3 f = 0
      · simp only [or_true, true_or, false_or, or_false, and_false, false_and, cond_true, cond_false, Bool.not_true, Bool.not_false, Bool.false_eq_true, Bool.true_eq_false, not_true_eq_false, not_false_eq_true, false_implies, true_implies, implies_true, Nat.blt_eq, owesN, owesX, owesR, notT, sat_brT, sat_brF, sat_chkT, cl_iff, cl_false, AV.le_refl, AV.le_any, OLe_refl, OLe_none, sat_brN, Tree.sat_chk, Tree.sat_leaf, Tree.sat_fail, Nat.zero_add, Nat.sub_zero, Int.toNat_natCast, LeH_cons, LeH_nil, LeL_cons, LeL_nil, and_true, true_and, Bool.and_eq_true, Bool.or_eq_true, decide_eq_true_eq, decide_eq_false_iff_not, Bool.cond_true_left, Bool.cond_false_right, List.cons_append, List.nil_append, List.map_cons, List.map_nil, hb, hc, hf]
        repeat' (first | apply And.intro | intro _hc)
        all_goals first | omega | contradiction | exact AV.le_refl _ | exact AV.le_any _ | exact OLe.refl _ | exact OLe.none _ | exact LeH.refl _ | exact LeL.refl _ | exact AV.le.bs _ | exact AV.le.sb _ | (exfalso; omega) | contradiction
      · simp only [or_true, true_or, false_or, or_false, and_false, false_and, cond_true, cond_false, Bool.not_true, Bool.not_false, Bool.false_eq_true, Bool.true_eq_false, not_true_eq_false, not_false_eq_true, false_implies, true_implies, implies_true, Nat.blt_eq, owesN, owesX, owesR, notT, sat_brT, sat_brF, sat_chkT, cl_iff, cl_false, AV.le_refl, AV.le_any, OLe_refl, OLe_none, sat_brN, Tree.sat_chk, Tree.sat_leaf, Tree.sat_fail, Nat.zero_add, Nat.sub_zero, Int.toNat_natCast, LeH_cons, LeH_nil, LeL_cons, LeL_nil, and_true, true_and, Bool.and_eq_true, Bool.or_eq_true, decide_eq_true_eq, decide_eq_false_iff_not, Bool.cond_true_left, Bool.cond_false_right, List.cons_append, List.nil_append, List.map_cons, List.map_nil, hb, hc, hf]
        repeat' (first | apply And.intro | intro _hc)
        all_goals first | omega | contradiction | exact AV.le_refl _ | exact AV.le_any _ | exact OLe.refl _ | exact OLe.none _ | exact LeH.refl _ | exact LeL.refl _ | exact AV.le.bs _ | exact AV.le.sb _ | (exfalso; omega) | contradiction
  have hn : acts.length ≤ 100 := by omega
  have hc : checkF f bad = 0 := Classical.byContradiction fun h => hno (.inr (.inl h))
  have hp : ¬ f < (pc bad : Int) := fun h => hno (.inr (.inr h))
  have hf := check_times hc
  have hx0 : pre4 f bad acts view sx sy ⟨f, bad, acts, view, sx, sy, [], [], [], [], 0, 0, false, 0⟩ := ⟨rfl, rfl, rfl, rfl, rfl, rfl, Nat.zero_le _, Nat.le_refl _, ⟨hf, hb, by show (pc bad : Int) ≤ f; omega, fun g hg => absurd hg (List.not_mem_nil), fun h => by cases h⟩⟩
  have hl := loop41 hn hx hy hset _ hx0
  refine .mk' (T := [c6, k7, k9]) (ip := false) (L := LB (S41 ⟨f, bad, acts, view, sx, sy, [], [], [], [], 0, 0, false, 0⟩) O41) (twoLoops (b := lp4 0) (b' := lp4 1) (by kernel_rfl) hl (fun _ _ _ h => by simp [LB, Tree.get] at h)) (Right.of (law4k f bad view sx sy acts) ?_)
  simp only [or_true, true_or, false_or, or_false, and_false, false_and, cond_true, cond_false, Bool.not_true, Bool.not_false, Bool.false_eq_true, Bool.true_eq_false, not_true_eq_false, not_false_eq_true, false_implies, true_implies, implies_true, Nat.blt_eq, owesN, owesX, owesR, notT, sat_brT, sat_brF, sat_chkT, cl_iff, cl_false, AV.le_refl, AV.le_any, OLe_refl, OLe_none, sat_brN, Tree.sat_chk, Tree.sat_leaf, Tree.sat_fail, Nat.zero_add, Nat.sub_zero, Int.toNat_natCast, LeH_cons, LeH_nil, LeL_cons, LeL_nil, and_true, true_and, Bool.and_eq_true, Bool.or_eq_true, decide_eq_true_eq, decide_eq_false_iff_not, Bool.cond_true_left, Bool.cond_false_right, List.cons_append, List.nil_append, List.map_cons, List.map_nil, hb, hc, hp, hf]
  repeat' (first | apply And.intro | intro _hc)
  all_goals first | omega | contradiction | exact AV.le_refl _ | exact AV.le_any _ | exact OLe.refl _ | exact OLe.none _ | exact LeH.refl _ | exact LeL.refl _ | exact AV.le.bs _ | exact AV.le.sb _ | exact hN0 _ | exact hI0 _ | exact hN1 _ | exact hI1 _ | exact hM0 | exact hC0 | (exfalso; omega) | contradiction
structure Y4 where
  f : Int
  bad : Int
  acts : List Ac
  view : Int
  sx : Int
  sy : Int
noncomputable def c4 : CT Tryd.prog Γc := CT.lawE (fun x : Y4 => A4 x.f x.bad x.acts x.view x.sx x.sy) (fun x => inU32 x.bad = true ∧ inU32 x.sx = true ∧ inU32 x.sy = true ∧ ∀ i, i < x.acts.length → inU32 (x.acts.getD i default).set = true) 4 Tryd.f4 (bodyOf Tryd.f4) 131 [.tmp 12] Tryd.func4 (by kernel_rfl) (by kernel_rfl) (by kernel_rfl) (by kernel_rfl) (fun _ _ => by simp [A4]) (fun x h => law4 x.f x.bad x.acts x.view x.sx x.sy h.1 h.2.1 h.2.2.1 h.2.2.2)
end Go.Eng.Co

/- Six parameters. -/
namespace Go.Eng
open Go
set_option linter.unusedSimpArgs false
set_option linter.unusedVariables false
section
open Go.ChangeShapes Go.RowKit
variable {H : Type} {enc : TypeId × Value → H} {P : Program} {w : World} {base : Nat} {spare : Nat → Bool} {held : Bool}
theorem trodAll_six {t0 t1 t2 t3 t4 t5 : TypeId} {args : Array Value} {ds : List (DataW H)} {ps : List MemPlace} (h : DataW.TrodAll enc P w base spare held [t0, t1, t2, t3, t4, t5] args.toList ds ps) :
    ∃ v0 v1 v2 v3 v4 v5 d0 d1 d2 d3 d4 d5 p0 p1 p2 p3 p4 p5, args = #[v0, v1, v2, v3, v4, v5] ∧ ds = [d0, d1, d2, d3, d4, d5] ∧ ps = p0 ++ p1 ++ p2 ++ p3 ++ p4 ++ p5 ∧ DataW.Trod enc P w base spare held t0 v0 d0 p0 ∧ DataW.Trod enc P w base spare held t1 v1 d1 p1 ∧
      DataW.Trod enc P w base spare held t2 v2 d2 p2 ∧ DataW.Trod enc P w base spare held t3 v3 d3 p3 ∧ DataW.Trod enc P w base spare held t4 v4 d4 p4 ∧ DataW.Trod enc P w base spare held t5 v5 d5 p5 := by
  obtain ⟨v0, s0, d0, e0, p0, q0, hargs, rfl, rfl, h0, r0⟩ := trodAll_cons h
  obtain ⟨v1, s1, d1, e1, p1, q1, rfl, rfl, rfl, h1, r1⟩ := trodAll_cons r0
  obtain ⟨v2, s2, d2, e2, p2, q2, rfl, rfl, rfl, h2, r2⟩ := trodAll_cons r1
  obtain ⟨v3, s3, d3, e3, p3, q3, rfl, rfl, rfl, h3, r3⟩ := trodAll_cons r2
  obtain ⟨v4, s4, d4, e4, p4, q4, rfl, rfl, rfl, h4, r4⟩ := trodAll_cons r3
  obtain ⟨v5, s5, d5, e5, p5, q5, rfl, rfl, rfl, h5, r5⟩ := trodAll_cons r4
  obtain ⟨rfl, rfl, rfl⟩ := trodAll_nil r5
  exact ⟨v0, v1, v2, v3, v4, v5, d0, d1, d2, d3, d4, d5, p0, p1, p2, p3, p4, p5, by cases args; simp_all, rfl, by simp, h0, h1, h2, h3, h4, h5⟩
end
end Go.Eng
