/- SignPlays holds at every input: the table math/bits.deBruijn32tab as the program lays it (tied). -/
import Derived.Test.YtnpfcaecaflfbaaDoorPart5
import Derived.Test.YtnpfcaecaflfbaaDoorRows
import Derived.Test.YtnpfcaecaflfbaaDoorTie
import Derived.Test.YtnpfcaecaflfbaaDoorCards
import Derived.ProofKit
import Derived.LaidMore
import Derived.OpenShut
import Derived.Stop.Joined
import Derived.SevenTiedAt
/- sign: any calls: the law. -/
namespace Go.Eng.Si
open Go Go.Eng Go.Eng.M Go.Proofs
set_option linter.unusedSimpArgs false
set_option linter.unusedVariables false
noncomputable def k7 : CT Tryd.prog Γs := CT.auto false 100 3 [SiQ.c21, SiQ.c10] 7 Tryd.f7 (bodyOf Tryd.f7) false 22 [.tmp 4, .tmp 5] Tryd.func7 (by kernel_rfl) (by kernel_rfl) (by kernel_rfl) (by kernel_rfl)
noncomputable def k13 : CT Tryd.prog Γs := CT.auto false 100 3 [SiQ.c22, SiQ.c20] 13 Tryd.f13 (bodyOf Tryd.f13) false 22 [.tmp 4, .tmp 5] Tryd.func13 (by kernel_rfl) (by kernel_rfl) (by kernel_rfl) (by kernel_rfl)
noncomputable abbrev T4 : List (CT Tryd.prog Γs) := [c6, k7, k13]
def A4 (f bad : Int) (acts : List Ac) : List AV := [.v (.int .i64 f), .v (.int .u32 bad), .sl 14 acts.length (lsF Ac.c acts)]
def S43 (f bad : Int) (acts : List Ac) : List AV × Heap := ([.v (.int .i64 f), .v (.int .u32 bad), .sl 14 acts.length (lsF Ac.c acts), .v (.pointer none), .v (.pointer none), .v (.int .i64 0), .any], [])
abbrev O43 : Out := ⟨.exit 0, [.any, .any, .any, .any, .any, .any, .any], []⟩
noncomputable def LA (s : List AV × Heap) (o : Out) : Nat → LSpec
  | 0 => LSpec.at lv41 nl41 s o
  | _ => ⟨[], [], fun _ _ => .fail⟩
theorem r43 (f bad : Int) (acts : List Ac) : roundE (P := Tryd.prog) (Γ := Γs) [] Lno false 0 0 (lp4 0) lv41 nl41 159 (S43 f bad acts).1 (S43 f bad acts).2 =
  Tree.br (bif decide ((0 : Int) < (↑(List.length acts) : Int)) then false else false) (Tree.chk (decide ((0 : Int) < (↑(List.length acts) : Int))) (Tree.br (decide ((List.getD acts (Int.toNat
(0 : Int)) default).k = (0 : Int))) Tree.fail (Tree.br (decide ((List.getD acts (Int.toNat (0 : Int)) default).k = (1 : Int))) Tree.fail (Tree.br (decide ((List.getD acts (Int.toNat (0 :
Int)) default).k = (2 : Int))) Tree.fail (Tree.br (decide ((List.getD acts (Int.toNat (0 : Int)) default).k = (3 : Int))) Tree.fail Tree.fail))))) (Tree.leaf (Out.mk (AEx.exit (0 : Nat))
[AV.v (Value.int IntKind.i64 f), AV.v (Value.int IntKind.u32 bad), AV.sl (14 : Nat) (List.length acts) (lsF Ac.c acts), AV.v (Value.pointer none), AV.v (Value.pointer none), AV.v (Value.int
IntKind.i64 (0 : Int)), AV.any] [])) := by kernel_rfl
theorem law4a (f bad : Int) (acts : List Ac) : bodyE (P := Tryd.prog) (Γ := Γs) T4 Lno false 159 [.tmp 6] (bodyOf Tryd.f4) (A4 f bad acts) [] =
  Tree.br (decide ((100 : Int) < (↑(List.length acts) : Int))) (Tree.leaf (Ans.mk (AV.v (Value.bool true)) [])) (Tree.chk (inU32 bad) (Tree.br (!decide (checkF f bad = (0 : Int))) (Tree.chk
(inU32 bad) (Tree.br (!decide (checkF f bad = (0 : Int))) (Tree.br (bif !decide (checkF f bad = checkF f bad) then true else !true == !decide (checkF f bad = (0 : Int))) (Tree.leaf (Ans.mk
(AV.v (Value.bool false)) [])) Tree.fail) (Tree.chk (inU32 bad) (Tree.br (decide (f < (↑(pc bad) : Int))) (Tree.br (bif !decide (checkF f bad = (1 : Int)) then true else false) (Tree.leaf
(Ans.mk (AV.v (Value.bool false)) [])) Tree.fail) (Tree.br (bif !decide (checkF f bad = (0 : Int)) then true else true) (Tree.leaf (Ans.mk (AV.v (Value.bool false)) [])) Tree.fail)))))
(Tree.chk (inU32 bad) (Tree.br (decide (f < (↑(pc bad) : Int))) (Tree.chk (inU32 bad) (Tree.br (!decide (checkF f bad = (0 : Int))) (Tree.br (bif !decide ((1 : Int) = checkF f bad) then true
else !true == !decide (checkF f bad = (0 : Int))) (Tree.leaf (Ans.mk (AV.v (Value.bool false)) [])) Tree.fail) (Tree.chk (inU32 bad) (Tree.br (decide (f < (↑(pc bad) : Int))) (Tree.br false
(Tree.leaf (Ans.mk (AV.v (Value.bool false)) [])) Tree.fail) (Tree.br true (Tree.leaf (Ans.mk (AV.v (Value.bool false)) [])) Tree.fail))))) (Tree.chk (inU32 bad) (Tree.br (!decide (checkF f
bad = (0 : Int))) (Tree.br (bif !decide ((0 : Int) = checkF f bad) then true else !false == !decide (checkF f bad = (0 : Int))) (Tree.leaf (Ans.mk (AV.v (Value.bool false)) [])) Tree.fail)
(Tree.chk (inU32 bad) (Tree.br (decide (f < (↑(pc bad) : Int))) (Tree.br true (Tree.leaf (Ans.mk (AV.v (Value.bool false)) [])) Tree.fail) (Tree.br false (Tree.leaf (Ans.mk (AV.v (Value.bool
false)) [])) Tree.fail))))))))) := by kernel_rfl
theorem law4n (f bad : Int) (acts : List Ac) : bodyE (P := Tryd.prog) (Γ := Γs) T4 (LA (S43 f bad acts) O43) false 159 [.tmp 6] (bodyOf Tryd.f4) (A4 f bad acts) [] =
  Tree.br (decide ((100 : Int) < (↑(List.length acts) : Int))) (Tree.leaf (Ans.mk (AV.v (Value.bool true)) [])) (Tree.chk (inU32 bad) (Tree.br (!decide (checkF f bad = (0 : Int))) (Tree.chk
(inU32 bad) (Tree.br (!decide (checkF f bad = (0 : Int))) (Tree.br (bif !decide (checkF f bad = checkF f bad) then true else !true == !decide (checkF f bad = (0 : Int))) (Tree.leaf (Ans.mk
(AV.v (Value.bool false)) [])) (Tree.chk (cl (LeL [AV.v (Value.int IntKind.i64 f), AV.v (Value.int IntKind.u32 bad), AV.sl (14 : Nat) (List.length acts) (lsF Ac.c acts), AV.v (Value.pointer
none), AV.v (Value.pointer none), AV.v (Value.int IntKind.i64 (0 : Int)), AV.v (Value.bool false)] [AV.v (Value.int IntKind.i64 f), AV.v (Value.int IntKind.u32 bad), AV.sl (14 : Nat)
(List.length acts) (lsF Ac.c acts), AV.v (Value.pointer none), AV.v (Value.pointer none), AV.v (Value.int IntKind.i64 (0 : Int)), AV.any] ∧ LeH [] [])) (Tree.leaf (Ans.mk (AV.v (Value.bool
true)) [])))) (Tree.chk (inU32 bad) (Tree.br (decide (f < (↑(pc bad) : Int))) (Tree.br (bif !decide (checkF f bad = (1 : Int)) then true else false) (Tree.leaf (Ans.mk (AV.v (Value.bool
false)) [])) (Tree.chk (cl (LeL [AV.v (Value.int IntKind.i64 f), AV.v (Value.int IntKind.u32 bad), AV.sl (14 : Nat) (List.length acts) (lsF Ac.c acts), AV.v (Value.pointer none), AV.v
(Value.pointer none), AV.v (Value.int IntKind.i64 (0 : Int)), AV.v (Value.bool false)] [AV.v (Value.int IntKind.i64 f), AV.v (Value.int IntKind.u32 bad), AV.sl (14 : Nat) (List.length acts)
(lsF Ac.c acts), AV.v (Value.pointer none), AV.v (Value.pointer none), AV.v (Value.int IntKind.i64 (0 : Int)), AV.any] ∧ LeH [] [])) (Tree.leaf (Ans.mk (AV.v (Value.bool true)) []))))
(Tree.br (bif !decide (checkF f bad = (0 : Int)) then true else true) (Tree.leaf (Ans.mk (AV.v (Value.bool false)) [])) (Tree.chk (cl (LeL [AV.v (Value.int IntKind.i64 f), AV.v (Value.int
IntKind.u32 bad), AV.sl (14 : Nat) (List.length acts) (lsF Ac.c acts), AV.v (Value.pointer none), AV.ptr (0 : Nat) (0 : Nat), AV.v (Value.int IntKind.i64 (0 : Int)), AV.v (Value.bool false)]
[AV.v (Value.int IntKind.i64 f), AV.v (Value.int IntKind.u32 bad), AV.sl (14 : Nat) (List.length acts) (lsF Ac.c acts), AV.v (Value.pointer none), AV.v (Value.pointer none), AV.v (Value.int
IntKind.i64 (0 : Int)), AV.any] ∧ LeH [some (Blk.row [AV.v (Value.int IntKind.i64 f), AV.v (Value.int IntKind.u32 bad), AV.hs (1 : Nat) (0 : Nat) (0 : Nat)]), some (Blk.arr (11 : Nat) (0 :
Nat) fun x => [AV.v (Value.int IntKind.i64 (0 : Int)), AV.v (Value.int IntKind.i64 (0 : Int)), AV.v (Value.int IntKind.i64 (0 : Int)), AV.v (Value.int IntKind.i64 (0 : Int)), AV.v (Value.int
IntKind.i64 (0 : Int)), AV.v (Value.int IntKind.i64 (0 : Int)), AV.v (Value.int IntKind.i64 (0 : Int)), AV.v (Value.int IntKind.i64 (0 : Int)), AV.v (Value.int IntKind.i64 (0 : Int)), AV.v
(Value.int IntKind.i64 (0 : Int)), AV.v (Value.int IntKind.i64 (0 : Int))])] [])) (Tree.leaf (Ans.mk (AV.v (Value.bool true)) [])))))))) (Tree.chk (inU32 bad) (Tree.br (decide (f < (↑(pc
bad) : Int))) (Tree.chk (inU32 bad) (Tree.br (!decide (checkF f bad = (0 : Int))) (Tree.br (bif !decide ((1 : Int) = checkF f bad) then true else !true == !decide (checkF f bad = (0 : Int)))
(Tree.leaf (Ans.mk (AV.v (Value.bool false)) [])) (Tree.chk (cl (LeL [AV.v (Value.int IntKind.i64 f), AV.v (Value.int IntKind.u32 bad), AV.sl (14 : Nat) (List.length acts) (lsF Ac.c acts),
AV.v (Value.pointer none), AV.v (Value.pointer none), AV.v (Value.int IntKind.i64 (0 : Int)), AV.v (Value.bool false)] [AV.v (Value.int IntKind.i64 f), AV.v (Value.int IntKind.u32 bad),
AV.sl (14 : Nat) (List.length acts) (lsF Ac.c acts), AV.v (Value.pointer none), AV.v (Value.pointer none), AV.v (Value.int IntKind.i64 (0 : Int)), AV.any] ∧ LeH [] [])) (Tree.leaf (Ans.mk
(AV.v (Value.bool true)) [])))) (Tree.chk (inU32 bad) (Tree.br (decide (f < (↑(pc bad) : Int))) (Tree.br false (Tree.leaf (Ans.mk (AV.v (Value.bool false)) [])) (Tree.chk (cl (LeL [AV.v
(Value.int IntKind.i64 f), AV.v (Value.int IntKind.u32 bad), AV.sl (14 : Nat) (List.length acts) (lsF Ac.c acts), AV.v (Value.pointer none), AV.v (Value.pointer none), AV.v (Value.int
IntKind.i64 (0 : Int)), AV.v (Value.bool false)] [AV.v (Value.int IntKind.i64 f), AV.v (Value.int IntKind.u32 bad), AV.sl (14 : Nat) (List.length acts) (lsF Ac.c acts), AV.v (Value.pointer
none), AV.v (Value.pointer none), AV.v (Value.int IntKind.i64 (0 : Int)), AV.any] ∧ LeH [] [])) (Tree.leaf (Ans.mk (AV.v (Value.bool true)) [])))) (Tree.br true (Tree.leaf (Ans.mk (AV.v
(Value.bool false)) [])) (Tree.chk (cl (LeL [AV.v (Value.int IntKind.i64 f), AV.v (Value.int IntKind.u32 bad), AV.sl (14 : Nat) (List.length acts) (lsF Ac.c acts), AV.v (Value.pointer none),
AV.ptr (0 : Nat) (0 : Nat), AV.v (Value.int IntKind.i64 (0 : Int)), AV.v (Value.bool false)] [AV.v (Value.int IntKind.i64 f), AV.v (Value.int IntKind.u32 bad), AV.sl (14 : Nat) (List.length
acts) (lsF Ac.c acts), AV.v (Value.pointer none), AV.v (Value.pointer none), AV.v (Value.int IntKind.i64 (0 : Int)), AV.any] ∧ LeH [some (Blk.row [AV.v (Value.int IntKind.i64 f), AV.v
(Value.int IntKind.u32 bad), AV.hs (1 : Nat) (0 : Nat) (0 : Nat)]), some (Blk.arr (11 : Nat) (0 : Nat) fun x => [AV.v (Value.int IntKind.i64 (0 : Int)), AV.v (Value.int IntKind.i64 (0 :
Int)), AV.v (Value.int IntKind.i64 (0 : Int)), AV.v (Value.int IntKind.i64 (0 : Int)), AV.v (Value.int IntKind.i64 (0 : Int)), AV.v (Value.int IntKind.i64 (0 : Int)), AV.v (Value.int
IntKind.i64 (0 : Int)), AV.v (Value.int IntKind.i64 (0 : Int)), AV.v (Value.int IntKind.i64 (0 : Int)), AV.v (Value.int IntKind.i64 (0 : Int)), AV.v (Value.int IntKind.i64 (0 : Int))])] []))
(Tree.leaf (Ans.mk (AV.v (Value.bool true)) [])))))))) (Tree.chk (inU32 bad) (Tree.br (!decide (checkF f bad = (0 : Int))) (Tree.br (bif !decide ((0 : Int) = checkF f bad) then true else
!false == !decide (checkF f bad = (0 : Int))) (Tree.leaf (Ans.mk (AV.v (Value.bool false)) [])) (Tree.chk (cl (LeL [AV.v (Value.int IntKind.i64 f), AV.v (Value.int IntKind.u32 bad), AV.sl
(14 : Nat) (List.length acts) (lsF Ac.c acts), AV.ptr (0 : Nat) (0 : Nat), AV.v (Value.pointer none), AV.v (Value.int IntKind.i64 (0 : Int)), AV.v (Value.bool false)] [AV.v (Value.int
IntKind.i64 f), AV.v (Value.int IntKind.u32 bad), AV.sl (14 : Nat) (List.length acts) (lsF Ac.c acts), AV.v (Value.pointer none), AV.v (Value.pointer none), AV.v (Value.int IntKind.i64 (0 :
Int)), AV.any] ∧ LeH [some (Blk.row [AV.v (Value.int IntKind.i64 f), AV.v (Value.int IntKind.u32 bad), AV.map (1 : Nat), AV.hs (2 : Nat) (0 : Nat) (0 : Nat)]), some (Blk.mp [Cel.int
IntKind.i64, Cel.int IntKind.i64, Cel.int IntKind.i64, Cel.int IntKind.i64, Cel.int IntKind.i64, Cel.int IntKind.i64, Cel.int IntKind.i64, Cel.int IntKind.i64, Cel.int IntKind.i64, Cel.int
IntKind.i64, Cel.int IntKind.i64] true false (0 : Nat) (fun x => false) fun x => [AV.v (Value.int IntKind.i64 (0 : Int))]), some (Blk.arr (11 : Nat) (0 : Nat) fun x => [AV.v (Value.int
IntKind.i64 (0 : Int)), AV.v (Value.int IntKind.i64 (0 : Int)), AV.v (Value.int IntKind.i64 (0 : Int)), AV.v (Value.int IntKind.i64 (0 : Int)), AV.v (Value.int IntKind.i64 (0 : Int)), AV.v
(Value.int IntKind.i64 (0 : Int)), AV.v (Value.int IntKind.i64 (0 : Int)), AV.v (Value.int IntKind.i64 (0 : Int)), AV.v (Value.int IntKind.i64 (0 : Int)), AV.v (Value.int IntKind.i64 (0 :
Int)), AV.v (Value.int IntKind.i64 (0 : Int))])] [])) (Tree.leaf (Ans.mk (AV.v (Value.bool true)) [])))) (Tree.chk (inU32 bad) (Tree.br (decide (f < (↑(pc bad) : Int))) (Tree.br true
(Tree.leaf (Ans.mk (AV.v (Value.bool false)) [])) (Tree.chk (cl (LeL [AV.v (Value.int IntKind.i64 f), AV.v (Value.int IntKind.u32 bad), AV.sl (14 : Nat) (List.length acts) (lsF Ac.c acts),
AV.ptr (0 : Nat) (0 : Nat), AV.v (Value.pointer none), AV.v (Value.int IntKind.i64 (0 : Int)), AV.v (Value.bool false)] [AV.v (Value.int IntKind.i64 f), AV.v (Value.int IntKind.u32 bad),
AV.sl (14 : Nat) (List.length acts) (lsF Ac.c acts), AV.v (Value.pointer none), AV.v (Value.pointer none), AV.v (Value.int IntKind.i64 (0 : Int)), AV.any] ∧ LeH [some (Blk.row [AV.v
(Value.int IntKind.i64 f), AV.v (Value.int IntKind.u32 bad), AV.map (1 : Nat), AV.hs (2 : Nat) (0 : Nat) (0 : Nat)]), some (Blk.mp [Cel.int IntKind.i64, Cel.int IntKind.i64, Cel.int
IntKind.i64, Cel.int IntKind.i64, Cel.int IntKind.i64, Cel.int IntKind.i64, Cel.int IntKind.i64, Cel.int IntKind.i64, Cel.int IntKind.i64, Cel.int IntKind.i64, Cel.int IntKind.i64] true
false (0 : Nat) (fun x => false) fun x => [AV.v (Value.int IntKind.i64 (0 : Int))]), some (Blk.arr (11 : Nat) (0 : Nat) fun x => [AV.v (Value.int IntKind.i64 (0 : Int)), AV.v (Value.int
IntKind.i64 (0 : Int)), AV.v (Value.int IntKind.i64 (0 : Int)), AV.v (Value.int IntKind.i64 (0 : Int)), AV.v (Value.int IntKind.i64 (0 : Int)), AV.v (Value.int IntKind.i64 (0 : Int)), AV.v
(Value.int IntKind.i64 (0 : Int)), AV.v (Value.int IntKind.i64 (0 : Int)), AV.v (Value.int IntKind.i64 (0 : Int)), AV.v (Value.int IntKind.i64 (0 : Int)), AV.v (Value.int IntKind.i64 (0 :
Int))])] [])) (Tree.leaf (Ans.mk (AV.v (Value.bool true)) [])))) (Tree.br false (Tree.leaf (Ans.mk (AV.v (Value.bool false)) [])) (Tree.chk (cl (LeL [AV.v (Value.int IntKind.i64 f), AV.v
(Value.int IntKind.u32 bad), AV.sl (14 : Nat) (List.length acts) (lsF Ac.c acts), AV.ptr (0 : Nat) (0 : Nat), AV.ptr (3 : Nat) (0 : Nat), AV.v (Value.int IntKind.i64 (0 : Int)), AV.v
(Value.bool false)] [AV.v (Value.int IntKind.i64 f), AV.v (Value.int IntKind.u32 bad), AV.sl (14 : Nat) (List.length acts) (lsF Ac.c acts), AV.v (Value.pointer none), AV.v (Value.pointer
none), AV.v (Value.int IntKind.i64 (0 : Int)), AV.any] ∧ LeH [some (Blk.row [AV.v (Value.int IntKind.i64 f), AV.v (Value.int IntKind.u32 bad), AV.map (1 : Nat), AV.hs (2 : Nat) (0 : Nat) (0
: Nat)]), some (Blk.mp [Cel.int IntKind.i64, Cel.int IntKind.i64, Cel.int IntKind.i64, Cel.int IntKind.i64, Cel.int IntKind.i64, Cel.int IntKind.i64, Cel.int IntKind.i64, Cel.int
IntKind.i64, Cel.int IntKind.i64, Cel.int IntKind.i64, Cel.int IntKind.i64] true false (0 : Nat) (fun x => false) fun x => [AV.v (Value.int IntKind.i64 (0 : Int))]), some (Blk.arr (11 : Nat)
(0 : Nat) fun x => [AV.v (Value.int IntKind.i64 (0 : Int)), AV.v (Value.int IntKind.i64 (0 : Int)), AV.v (Value.int IntKind.i64 (0 : Int)), AV.v (Value.int IntKind.i64 (0 : Int)), AV.v
(Value.int IntKind.i64 (0 : Int)), AV.v (Value.int IntKind.i64 (0 : Int)), AV.v (Value.int IntKind.i64 (0 : Int)), AV.v (Value.int IntKind.i64 (0 : Int)), AV.v (Value.int IntKind.i64 (0 :
Int)), AV.v (Value.int IntKind.i64 (0 : Int)), AV.v (Value.int IntKind.i64 (0 : Int))]), some (Blk.row [AV.v (Value.int IntKind.i64 f), AV.v (Value.int IntKind.u32 bad), AV.hs (4 : Nat) (0 :
Nat) (0 : Nat)]), some (Blk.arr (11 : Nat) (0 : Nat) fun x => [AV.v (Value.int IntKind.i64 (0 : Int)), AV.v (Value.int IntKind.i64 (0 : Int)), AV.v (Value.int IntKind.i64 (0 : Int)), AV.v
(Value.int IntKind.i64 (0 : Int)), AV.v (Value.int IntKind.i64 (0 : Int)), AV.v (Value.int IntKind.i64 (0 : Int)), AV.v (Value.int IntKind.i64 (0 : Int)), AV.v (Value.int IntKind.i64 (0 :
Int)), AV.v (Value.int IntKind.i64 (0 : Int)), AV.v (Value.int IntKind.i64 (0 : Int)), AV.v (Value.int IntKind.i64 (0 : Int))])] [])) (Tree.leaf (Ans.mk (AV.v (Value.bool true))
[])))))))))))) := by kernel_rfl
theorem law4k (f bad : Int) (acts : List Ac) : bodyE (P := Tryd.prog) (Γ := Γs) T4 (LA (S41 ⟨f, bad, acts, [], [], [], 0⟩) O41) false 159 [.tmp 6] (bodyOf Tryd.f4) (A4 f bad acts) [] =
  Tree.br (decide ((100 : Int) < (↑(List.length acts) : Int))) (Tree.leaf (Ans.mk (AV.v (Value.bool true)) [])) (Tree.chk (inU32 bad) (Tree.br (!decide (checkF f bad = (0 : Int))) (Tree.chk
(inU32 bad) (Tree.br (!decide (checkF f bad = (0 : Int))) (Tree.br (bif !decide (checkF f bad = checkF f bad) then true else !true == !decide (checkF f bad = (0 : Int))) (Tree.leaf (Ans.mk
(AV.v (Value.bool false)) [])) (Tree.chk (cl (LeL [AV.v (Value.int IntKind.i64 f), AV.v (Value.int IntKind.u32 bad), AV.sl (14 : Nat) (List.length acts) (lsF Ac.c acts), AV.v (Value.pointer
none), AV.v (Value.pointer none), AV.v (Value.int IntKind.i64 (0 : Int)), AV.v (Value.bool false)] [AV.v (Value.int IntKind.i64 f), AV.v (Value.int IntKind.u32 bad), AV.sl (14 : Nat)
(List.length (X4.mk f bad acts [] [] [] (0 : Nat)).acts) (lsF Ac.c (X4.mk f bad acts [] [] [] (0 : Nat)).acts), AV.ptr (0 : Nat) (0 : Nat), AV.ptr (3 : Nat) (0 : Nat), AV.v (Value.int
IntKind.i64 (↑(0 : Nat) : Int)), AV.any] ∧ LeH [] [some (Blk.row [AV.v (Value.int IntKind.i64 f), AV.v (Value.int IntKind.u32 bad), AV.map (1 : Nat), AV.hs (2 : Nat) (0 : Nat) (0 : Nat)]),
some (Blk.mp [Cel.int IntKind.i64, Cel.int IntKind.i64, Cel.int IntKind.i64, Cel.int IntKind.i64, Cel.int IntKind.i64, Cel.int IntKind.i64, Cel.int IntKind.i64, Cel.int IntKind.i64, Cel.int
IntKind.i64, Cel.int IntKind.i64, Cel.int IntKind.i64] true false (0 : Nat) (hasS (X4.mk f bad acts [] [] [] (0 : Nat)).l) anyV), some (Blk.arr (11 : Nat) (0 : Nat) (lsF Sh.c ((X4.mk f bad
acts [] [] [] (0 : Nat)).l ++ (X4.mk f bad acts [] [] [] (0 : Nat)).j))), some (Blk.row [AV.v (Value.int IntKind.i64 f), AV.v (Value.int IntKind.u32 bad), AV.hs (4 : Nat) (0 : Nat) (0 :
Nat)]), some (Blk.arr (11 : Nat) (0 : Nat) (lsF Sh.c ((X4.mk f bad acts [] [] [] (0 : Nat)).l ++ (X4.mk f bad acts [] [] [] (0 : Nat)).j')))])) (Tree.leaf (Ans.mk (AV.v (Value.bool true))
[])))) (Tree.chk (inU32 bad) (Tree.br (decide (f < (↑(pc bad) : Int))) (Tree.br (bif !decide (checkF f bad = (1 : Int)) then true else false) (Tree.leaf (Ans.mk (AV.v (Value.bool false))
[])) (Tree.chk (cl (LeL [AV.v (Value.int IntKind.i64 f), AV.v (Value.int IntKind.u32 bad), AV.sl (14 : Nat) (List.length acts) (lsF Ac.c acts), AV.v (Value.pointer none), AV.v (Value.pointer
none), AV.v (Value.int IntKind.i64 (0 : Int)), AV.v (Value.bool false)] [AV.v (Value.int IntKind.i64 f), AV.v (Value.int IntKind.u32 bad), AV.sl (14 : Nat) (List.length (X4.mk f bad acts []
[] [] (0 : Nat)).acts) (lsF Ac.c (X4.mk f bad acts [] [] [] (0 : Nat)).acts), AV.ptr (0 : Nat) (0 : Nat), AV.ptr (3 : Nat) (0 : Nat), AV.v (Value.int IntKind.i64 (↑(0 : Nat) : Int)), AV.any]
∧ LeH [] [some (Blk.row [AV.v (Value.int IntKind.i64 f), AV.v (Value.int IntKind.u32 bad), AV.map (1 : Nat), AV.hs (2 : Nat) (0 : Nat) (0 : Nat)]), some (Blk.mp [Cel.int IntKind.i64, Cel.int
IntKind.i64, Cel.int IntKind.i64, Cel.int IntKind.i64, Cel.int IntKind.i64, Cel.int IntKind.i64, Cel.int IntKind.i64, Cel.int IntKind.i64, Cel.int IntKind.i64, Cel.int IntKind.i64, Cel.int
IntKind.i64] true false (0 : Nat) (hasS (X4.mk f bad acts [] [] [] (0 : Nat)).l) anyV), some (Blk.arr (11 : Nat) (0 : Nat) (lsF Sh.c ((X4.mk f bad acts [] [] [] (0 : Nat)).l ++ (X4.mk f bad
acts [] [] [] (0 : Nat)).j))), some (Blk.row [AV.v (Value.int IntKind.i64 f), AV.v (Value.int IntKind.u32 bad), AV.hs (4 : Nat) (0 : Nat) (0 : Nat)]), some (Blk.arr (11 : Nat) (0 : Nat) (lsF
Sh.c ((X4.mk f bad acts [] [] [] (0 : Nat)).l ++ (X4.mk f bad acts [] [] [] (0 : Nat)).j')))])) (Tree.leaf (Ans.mk (AV.v (Value.bool true)) [])))) (Tree.br (bif !decide (checkF f bad = (0 :
Int)) then true else true) (Tree.leaf (Ans.mk (AV.v (Value.bool false)) [])) (Tree.chk (cl (LeL [AV.v (Value.int IntKind.i64 f), AV.v (Value.int IntKind.u32 bad), AV.sl (14 : Nat)
(List.length acts) (lsF Ac.c acts), AV.v (Value.pointer none), AV.ptr (0 : Nat) (0 : Nat), AV.v (Value.int IntKind.i64 (0 : Int)), AV.v (Value.bool false)] [AV.v (Value.int IntKind.i64 f),
AV.v (Value.int IntKind.u32 bad), AV.sl (14 : Nat) (List.length (X4.mk f bad acts [] [] [] (0 : Nat)).acts) (lsF Ac.c (X4.mk f bad acts [] [] [] (0 : Nat)).acts), AV.ptr (0 : Nat) (0 : Nat),
AV.ptr (3 : Nat) (0 : Nat), AV.v (Value.int IntKind.i64 (↑(0 : Nat) : Int)), AV.any] ∧ LeH [some (Blk.row [AV.v (Value.int IntKind.i64 f), AV.v (Value.int IntKind.u32 bad), AV.hs (1 : Nat)
(0 : Nat) (0 : Nat)]), some (Blk.arr (11 : Nat) (0 : Nat) fun x => [AV.v (Value.int IntKind.i64 (0 : Int)), AV.v (Value.int IntKind.i64 (0 : Int)), AV.v (Value.int IntKind.i64 (0 : Int)),
AV.v (Value.int IntKind.i64 (0 : Int)), AV.v (Value.int IntKind.i64 (0 : Int)), AV.v (Value.int IntKind.i64 (0 : Int)), AV.v (Value.int IntKind.i64 (0 : Int)), AV.v (Value.int IntKind.i64 (0
: Int)), AV.v (Value.int IntKind.i64 (0 : Int)), AV.v (Value.int IntKind.i64 (0 : Int)), AV.v (Value.int IntKind.i64 (0 : Int))])] [some (Blk.row [AV.v (Value.int IntKind.i64 f), AV.v
(Value.int IntKind.u32 bad), AV.map (1 : Nat), AV.hs (2 : Nat) (0 : Nat) (0 : Nat)]), some (Blk.mp [Cel.int IntKind.i64, Cel.int IntKind.i64, Cel.int IntKind.i64, Cel.int IntKind.i64,
Cel.int IntKind.i64, Cel.int IntKind.i64, Cel.int IntKind.i64, Cel.int IntKind.i64, Cel.int IntKind.i64, Cel.int IntKind.i64, Cel.int IntKind.i64] true false (0 : Nat) (hasS (X4.mk f bad
acts [] [] [] (0 : Nat)).l) anyV), some (Blk.arr (11 : Nat) (0 : Nat) (lsF Sh.c ((X4.mk f bad acts [] [] [] (0 : Nat)).l ++ (X4.mk f bad acts [] [] [] (0 : Nat)).j))), some (Blk.row [AV.v
(Value.int IntKind.i64 f), AV.v (Value.int IntKind.u32 bad), AV.hs (4 : Nat) (0 : Nat) (0 : Nat)]), some (Blk.arr (11 : Nat) (0 : Nat) (lsF Sh.c ((X4.mk f bad acts [] [] [] (0 : Nat)).l ++
(X4.mk f bad acts [] [] [] (0 : Nat)).j')))])) (Tree.leaf (Ans.mk (AV.v (Value.bool true)) [])))))))) (Tree.chk (inU32 bad) (Tree.br (decide (f < (↑(pc bad) : Int))) (Tree.chk (inU32 bad)
(Tree.br (!decide (checkF f bad = (0 : Int))) (Tree.br (bif !decide ((1 : Int) = checkF f bad) then true else !true == !decide (checkF f bad = (0 : Int))) (Tree.leaf (Ans.mk (AV.v
(Value.bool false)) [])) (Tree.chk (cl (LeL [AV.v (Value.int IntKind.i64 f), AV.v (Value.int IntKind.u32 bad), AV.sl (14 : Nat) (List.length acts) (lsF Ac.c acts), AV.v (Value.pointer none),
AV.v (Value.pointer none), AV.v (Value.int IntKind.i64 (0 : Int)), AV.v (Value.bool false)] [AV.v (Value.int IntKind.i64 f), AV.v (Value.int IntKind.u32 bad), AV.sl (14 : Nat) (List.length
(X4.mk f bad acts [] [] [] (0 : Nat)).acts) (lsF Ac.c (X4.mk f bad acts [] [] [] (0 : Nat)).acts), AV.ptr (0 : Nat) (0 : Nat), AV.ptr (3 : Nat) (0 : Nat), AV.v (Value.int IntKind.i64 (↑(0 :
Nat) : Int)), AV.any] ∧ LeH [] [some (Blk.row [AV.v (Value.int IntKind.i64 f), AV.v (Value.int IntKind.u32 bad), AV.map (1 : Nat), AV.hs (2 : Nat) (0 : Nat) (0 : Nat)]), some (Blk.mp
[Cel.int IntKind.i64, Cel.int IntKind.i64, Cel.int IntKind.i64, Cel.int IntKind.i64, Cel.int IntKind.i64, Cel.int IntKind.i64, Cel.int IntKind.i64, Cel.int IntKind.i64, Cel.int IntKind.i64,
Cel.int IntKind.i64, Cel.int IntKind.i64] true false (0 : Nat) (hasS (X4.mk f bad acts [] [] [] (0 : Nat)).l) anyV), some (Blk.arr (11 : Nat) (0 : Nat) (lsF Sh.c ((X4.mk f bad acts [] [] []
(0 : Nat)).l ++ (X4.mk f bad acts [] [] [] (0 : Nat)).j))), some (Blk.row [AV.v (Value.int IntKind.i64 f), AV.v (Value.int IntKind.u32 bad), AV.hs (4 : Nat) (0 : Nat) (0 : Nat)]), some
(Blk.arr (11 : Nat) (0 : Nat) (lsF Sh.c ((X4.mk f bad acts [] [] [] (0 : Nat)).l ++ (X4.mk f bad acts [] [] [] (0 : Nat)).j')))])) (Tree.leaf (Ans.mk (AV.v (Value.bool true)) []))))
(Tree.chk (inU32 bad) (Tree.br (decide (f < (↑(pc bad) : Int))) (Tree.br false (Tree.leaf (Ans.mk (AV.v (Value.bool false)) [])) (Tree.chk (cl (LeL [AV.v (Value.int IntKind.i64 f), AV.v
(Value.int IntKind.u32 bad), AV.sl (14 : Nat) (List.length acts) (lsF Ac.c acts), AV.v (Value.pointer none), AV.v (Value.pointer none), AV.v (Value.int IntKind.i64 (0 : Int)), AV.v
(Value.bool false)] [AV.v (Value.int IntKind.i64 f), AV.v (Value.int IntKind.u32 bad), AV.sl (14 : Nat) (List.length (X4.mk f bad acts [] [] [] (0 : Nat)).acts) (lsF Ac.c (X4.mk f bad acts
[] [] [] (0 : Nat)).acts), AV.ptr (0 : Nat) (0 : Nat), AV.ptr (3 : Nat) (0 : Nat), AV.v (Value.int IntKind.i64 (↑(0 : Nat) : Int)), AV.any] ∧ LeH [] [some (Blk.row [AV.v (Value.int
IntKind.i64 f), AV.v (Value.int IntKind.u32 bad), AV.map (1 : Nat), AV.hs (2 : Nat) (0 : Nat) (0 : Nat)]), some (Blk.mp [Cel.int IntKind.i64, Cel.int IntKind.i64, Cel.int IntKind.i64,
Cel.int IntKind.i64, Cel.int IntKind.i64, Cel.int IntKind.i64, Cel.int IntKind.i64, Cel.int IntKind.i64, Cel.int IntKind.i64, Cel.int IntKind.i64, Cel.int IntKind.i64] true false (0 : Nat)
(hasS (X4.mk f bad acts [] [] [] (0 : Nat)).l) anyV), some (Blk.arr (11 : Nat) (0 : Nat) (lsF Sh.c ((X4.mk f bad acts [] [] [] (0 : Nat)).l ++ (X4.mk f bad acts [] [] [] (0 : Nat)).j))),
some (Blk.row [AV.v (Value.int IntKind.i64 f), AV.v (Value.int IntKind.u32 bad), AV.hs (4 : Nat) (0 : Nat) (0 : Nat)]), some (Blk.arr (11 : Nat) (0 : Nat) (lsF Sh.c ((X4.mk f bad acts [] []
[] (0 : Nat)).l ++ (X4.mk f bad acts [] [] [] (0 : Nat)).j')))])) (Tree.leaf (Ans.mk (AV.v (Value.bool true)) [])))) (Tree.br true (Tree.leaf (Ans.mk (AV.v (Value.bool false)) [])) (Tree.chk
(cl (LeL [AV.v (Value.int IntKind.i64 f), AV.v (Value.int IntKind.u32 bad), AV.sl (14 : Nat) (List.length acts) (lsF Ac.c acts), AV.v (Value.pointer none), AV.ptr (0 : Nat) (0 : Nat), AV.v
(Value.int IntKind.i64 (0 : Int)), AV.v (Value.bool false)] [AV.v (Value.int IntKind.i64 f), AV.v (Value.int IntKind.u32 bad), AV.sl (14 : Nat) (List.length (X4.mk f bad acts [] [] [] (0 :
Nat)).acts) (lsF Ac.c (X4.mk f bad acts [] [] [] (0 : Nat)).acts), AV.ptr (0 : Nat) (0 : Nat), AV.ptr (3 : Nat) (0 : Nat), AV.v (Value.int IntKind.i64 (↑(0 : Nat) : Int)), AV.any] ∧ LeH
[some (Blk.row [AV.v (Value.int IntKind.i64 f), AV.v (Value.int IntKind.u32 bad), AV.hs (1 : Nat) (0 : Nat) (0 : Nat)]), some (Blk.arr (11 : Nat) (0 : Nat) fun x => [AV.v (Value.int
IntKind.i64 (0 : Int)), AV.v (Value.int IntKind.i64 (0 : Int)), AV.v (Value.int IntKind.i64 (0 : Int)), AV.v (Value.int IntKind.i64 (0 : Int)), AV.v (Value.int IntKind.i64 (0 : Int)), AV.v
(Value.int IntKind.i64 (0 : Int)), AV.v (Value.int IntKind.i64 (0 : Int)), AV.v (Value.int IntKind.i64 (0 : Int)), AV.v (Value.int IntKind.i64 (0 : Int)), AV.v (Value.int IntKind.i64 (0 :
Int)), AV.v (Value.int IntKind.i64 (0 : Int))])] [some (Blk.row [AV.v (Value.int IntKind.i64 f), AV.v (Value.int IntKind.u32 bad), AV.map (1 : Nat), AV.hs (2 : Nat) (0 : Nat) (0 : Nat)]),
some (Blk.mp [Cel.int IntKind.i64, Cel.int IntKind.i64, Cel.int IntKind.i64, Cel.int IntKind.i64, Cel.int IntKind.i64, Cel.int IntKind.i64, Cel.int IntKind.i64, Cel.int IntKind.i64, Cel.int
IntKind.i64, Cel.int IntKind.i64, Cel.int IntKind.i64] true false (0 : Nat) (hasS (X4.mk f bad acts [] [] [] (0 : Nat)).l) anyV), some (Blk.arr (11 : Nat) (0 : Nat) (lsF Sh.c ((X4.mk f bad
acts [] [] [] (0 : Nat)).l ++ (X4.mk f bad acts [] [] [] (0 : Nat)).j))), some (Blk.row [AV.v (Value.int IntKind.i64 f), AV.v (Value.int IntKind.u32 bad), AV.hs (4 : Nat) (0 : Nat) (0 :
Nat)]), some (Blk.arr (11 : Nat) (0 : Nat) (lsF Sh.c ((X4.mk f bad acts [] [] [] (0 : Nat)).l ++ (X4.mk f bad acts [] [] [] (0 : Nat)).j')))])) (Tree.leaf (Ans.mk (AV.v (Value.bool true))
[])))))))) (Tree.chk (inU32 bad) (Tree.br (!decide (checkF f bad = (0 : Int))) (Tree.br (bif !decide ((0 : Int) = checkF f bad) then true else !false == !decide (checkF f bad = (0 : Int)))
(Tree.leaf (Ans.mk (AV.v (Value.bool false)) [])) (Tree.chk (cl (LeL [AV.v (Value.int IntKind.i64 f), AV.v (Value.int IntKind.u32 bad), AV.sl (14 : Nat) (List.length acts) (lsF Ac.c acts),
AV.ptr (0 : Nat) (0 : Nat), AV.v (Value.pointer none), AV.v (Value.int IntKind.i64 (0 : Int)), AV.v (Value.bool false)] [AV.v (Value.int IntKind.i64 f), AV.v (Value.int IntKind.u32 bad),
AV.sl (14 : Nat) (List.length (X4.mk f bad acts [] [] [] (0 : Nat)).acts) (lsF Ac.c (X4.mk f bad acts [] [] [] (0 : Nat)).acts), AV.ptr (0 : Nat) (0 : Nat), AV.ptr (3 : Nat) (0 : Nat), AV.v
(Value.int IntKind.i64 (↑(0 : Nat) : Int)), AV.any] ∧ LeH [some (Blk.row [AV.v (Value.int IntKind.i64 f), AV.v (Value.int IntKind.u32 bad), AV.map (1 : Nat), AV.hs (2 : Nat) (0 : Nat) (0 :
Nat)]), some (Blk.mp [Cel.int IntKind.i64, Cel.int IntKind.i64, Cel.int IntKind.i64, Cel.int IntKind.i64, Cel.int IntKind.i64, Cel.int IntKind.i64, Cel.int IntKind.i64, Cel.int IntKind.i64,
Cel.int IntKind.i64, Cel.int IntKind.i64, Cel.int IntKind.i64] true false (0 : Nat) (fun x => false) fun x => [AV.v (Value.int IntKind.i64 (0 : Int))]), some (Blk.arr (11 : Nat) (0 : Nat)
fun x => [AV.v (Value.int IntKind.i64 (0 : Int)), AV.v (Value.int IntKind.i64 (0 : Int)), AV.v (Value.int IntKind.i64 (0 : Int)), AV.v (Value.int IntKind.i64 (0 : Int)), AV.v (Value.int
IntKind.i64 (0 : Int)), AV.v (Value.int IntKind.i64 (0 : Int)), AV.v (Value.int IntKind.i64 (0 : Int)), AV.v (Value.int IntKind.i64 (0 : Int)), AV.v (Value.int IntKind.i64 (0 : Int)), AV.v
(Value.int IntKind.i64 (0 : Int)), AV.v (Value.int IntKind.i64 (0 : Int))])] [some (Blk.row [AV.v (Value.int IntKind.i64 f), AV.v (Value.int IntKind.u32 bad), AV.map (1 : Nat), AV.hs (2 :
Nat) (0 : Nat) (0 : Nat)]), some (Blk.mp [Cel.int IntKind.i64, Cel.int IntKind.i64, Cel.int IntKind.i64, Cel.int IntKind.i64, Cel.int IntKind.i64, Cel.int IntKind.i64, Cel.int IntKind.i64,
Cel.int IntKind.i64, Cel.int IntKind.i64, Cel.int IntKind.i64, Cel.int IntKind.i64] true false (0 : Nat) (hasS (X4.mk f bad acts [] [] [] (0 : Nat)).l) anyV), some (Blk.arr (11 : Nat) (0 :
Nat) (lsF Sh.c ((X4.mk f bad acts [] [] [] (0 : Nat)).l ++ (X4.mk f bad acts [] [] [] (0 : Nat)).j))), some (Blk.row [AV.v (Value.int IntKind.i64 f), AV.v (Value.int IntKind.u32 bad), AV.hs
(4 : Nat) (0 : Nat) (0 : Nat)]), some (Blk.arr (11 : Nat) (0 : Nat) (lsF Sh.c ((X4.mk f bad acts [] [] [] (0 : Nat)).l ++ (X4.mk f bad acts [] [] [] (0 : Nat)).j')))])) (Tree.leaf (Ans.mk
(AV.v (Value.bool true)) [])))) (Tree.chk (inU32 bad) (Tree.br (decide (f < (↑(pc bad) : Int))) (Tree.br true (Tree.leaf (Ans.mk (AV.v (Value.bool false)) [])) (Tree.chk (cl (LeL [AV.v
(Value.int IntKind.i64 f), AV.v (Value.int IntKind.u32 bad), AV.sl (14 : Nat) (List.length acts) (lsF Ac.c acts), AV.ptr (0 : Nat) (0 : Nat), AV.v (Value.pointer none), AV.v (Value.int
IntKind.i64 (0 : Int)), AV.v (Value.bool false)] [AV.v (Value.int IntKind.i64 f), AV.v (Value.int IntKind.u32 bad), AV.sl (14 : Nat) (List.length (X4.mk f bad acts [] [] [] (0 : Nat)).acts)
(lsF Ac.c (X4.mk f bad acts [] [] [] (0 : Nat)).acts), AV.ptr (0 : Nat) (0 : Nat), AV.ptr (3 : Nat) (0 : Nat), AV.v (Value.int IntKind.i64 (↑(0 : Nat) : Int)), AV.any] ∧ LeH [some (Blk.row
[AV.v (Value.int IntKind.i64 f), AV.v (Value.int IntKind.u32 bad), AV.map (1 : Nat), AV.hs (2 : Nat) (0 : Nat) (0 : Nat)]), some (Blk.mp [Cel.int IntKind.i64, Cel.int IntKind.i64, Cel.int
IntKind.i64, Cel.int IntKind.i64, Cel.int IntKind.i64, Cel.int IntKind.i64, Cel.int IntKind.i64, Cel.int IntKind.i64, Cel.int IntKind.i64, Cel.int IntKind.i64, Cel.int IntKind.i64] true
false (0 : Nat) (fun x => false) fun x => [AV.v (Value.int IntKind.i64 (0 : Int))]), some (Blk.arr (11 : Nat) (0 : Nat) fun x => [AV.v (Value.int IntKind.i64 (0 : Int)), AV.v (Value.int
IntKind.i64 (0 : Int)), AV.v (Value.int IntKind.i64 (0 : Int)), AV.v (Value.int IntKind.i64 (0 : Int)), AV.v (Value.int IntKind.i64 (0 : Int)), AV.v (Value.int IntKind.i64 (0 : Int)), AV.v
(Value.int IntKind.i64 (0 : Int)), AV.v (Value.int IntKind.i64 (0 : Int)), AV.v (Value.int IntKind.i64 (0 : Int)), AV.v (Value.int IntKind.i64 (0 : Int)), AV.v (Value.int IntKind.i64 (0 :
Int))])] [some (Blk.row [AV.v (Value.int IntKind.i64 f), AV.v (Value.int IntKind.u32 bad), AV.map (1 : Nat), AV.hs (2 : Nat) (0 : Nat) (0 : Nat)]), some (Blk.mp [Cel.int IntKind.i64, Cel.int
IntKind.i64, Cel.int IntKind.i64, Cel.int IntKind.i64, Cel.int IntKind.i64, Cel.int IntKind.i64, Cel.int IntKind.i64, Cel.int IntKind.i64, Cel.int IntKind.i64, Cel.int IntKind.i64, Cel.int
IntKind.i64] true false (0 : Nat) (hasS (X4.mk f bad acts [] [] [] (0 : Nat)).l) anyV), some (Blk.arr (11 : Nat) (0 : Nat) (lsF Sh.c ((X4.mk f bad acts [] [] [] (0 : Nat)).l ++ (X4.mk f bad
acts [] [] [] (0 : Nat)).j))), some (Blk.row [AV.v (Value.int IntKind.i64 f), AV.v (Value.int IntKind.u32 bad), AV.hs (4 : Nat) (0 : Nat) (0 : Nat)]), some (Blk.arr (11 : Nat) (0 : Nat) (lsF
Sh.c ((X4.mk f bad acts [] [] [] (0 : Nat)).l ++ (X4.mk f bad acts [] [] [] (0 : Nat)).j')))])) (Tree.leaf (Ans.mk (AV.v (Value.bool true)) [])))) (Tree.br false (Tree.leaf (Ans.mk (AV.v
(Value.bool false)) [])) (Tree.chk (cl (LeL [AV.v (Value.int IntKind.i64 f), AV.v (Value.int IntKind.u32 bad), AV.sl (14 : Nat) (List.length acts) (lsF Ac.c acts), AV.ptr (0 : Nat) (0 :
Nat), AV.ptr (3 : Nat) (0 : Nat), AV.v (Value.int IntKind.i64 (0 : Int)), AV.v (Value.bool false)] [AV.v (Value.int IntKind.i64 f), AV.v (Value.int IntKind.u32 bad), AV.sl (14 : Nat)
(List.length (X4.mk f bad acts [] [] [] (0 : Nat)).acts) (lsF Ac.c (X4.mk f bad acts [] [] [] (0 : Nat)).acts), AV.ptr (0 : Nat) (0 : Nat), AV.ptr (3 : Nat) (0 : Nat), AV.v (Value.int
IntKind.i64 (↑(0 : Nat) : Int)), AV.any] ∧ LeH [some (Blk.row [AV.v (Value.int IntKind.i64 f), AV.v (Value.int IntKind.u32 bad), AV.map (1 : Nat), AV.hs (2 : Nat) (0 : Nat) (0 : Nat)]), some
(Blk.mp [Cel.int IntKind.i64, Cel.int IntKind.i64, Cel.int IntKind.i64, Cel.int IntKind.i64, Cel.int IntKind.i64, Cel.int IntKind.i64, Cel.int IntKind.i64, Cel.int IntKind.i64, Cel.int
IntKind.i64, Cel.int IntKind.i64, Cel.int IntKind.i64] true false (0 : Nat) (fun x => false) fun x => [AV.v (Value.int IntKind.i64 (0 : Int))]), some (Blk.arr (11 : Nat) (0 : Nat) fun x =>
[AV.v (Value.int IntKind.i64 (0 : Int)), AV.v (Value.int IntKind.i64 (0 : Int)), AV.v (Value.int IntKind.i64 (0 : Int)), AV.v (Value.int IntKind.i64 (0 : Int)), AV.v (Value.int IntKind.i64
(0 : Int)), AV.v (Value.int IntKind.i64 (0 : Int)), AV.v (Value.int IntKind.i64 (0 : Int)), AV.v (Value.int IntKind.i64 (0 : Int)), AV.v (Value.int IntKind.i64 (0 : Int)), AV.v (Value.int
IntKind.i64 (0 : Int)), AV.v (Value.int IntKind.i64 (0 : Int))]), some (Blk.row [AV.v (Value.int IntKind.i64 f), AV.v (Value.int IntKind.u32 bad), AV.hs (4 : Nat) (0 : Nat) (0 : Nat)]), some
(Blk.arr (11 : Nat) (0 : Nat) fun x => [AV.v (Value.int IntKind.i64 (0 : Int)), AV.v (Value.int IntKind.i64 (0 : Int)), AV.v (Value.int IntKind.i64 (0 : Int)), AV.v (Value.int IntKind.i64 (0
: Int)), AV.v (Value.int IntKind.i64 (0 : Int)), AV.v (Value.int IntKind.i64 (0 : Int)), AV.v (Value.int IntKind.i64 (0 : Int)), AV.v (Value.int IntKind.i64 (0 : Int)), AV.v (Value.int
IntKind.i64 (0 : Int)), AV.v (Value.int IntKind.i64 (0 : Int)), AV.v (Value.int IntKind.i64 (0 : Int))])] [some (Blk.row [AV.v (Value.int IntKind.i64 f), AV.v (Value.int IntKind.u32 bad),
AV.map (1 : Nat), AV.hs (2 : Nat) (0 : Nat) (0 : Nat)]), some (Blk.mp [Cel.int IntKind.i64, Cel.int IntKind.i64, Cel.int IntKind.i64, Cel.int IntKind.i64, Cel.int IntKind.i64, Cel.int
IntKind.i64, Cel.int IntKind.i64, Cel.int IntKind.i64, Cel.int IntKind.i64, Cel.int IntKind.i64, Cel.int IntKind.i64] true false (0 : Nat) (hasS (X4.mk f bad acts [] [] [] (0 : Nat)).l)
anyV), some (Blk.arr (11 : Nat) (0 : Nat) (lsF Sh.c ((X4.mk f bad acts [] [] [] (0 : Nat)).l ++ (X4.mk f bad acts [] [] [] (0 : Nat)).j))), some (Blk.row [AV.v (Value.int IntKind.i64 f),
AV.v (Value.int IntKind.u32 bad), AV.hs (4 : Nat) (0 : Nat) (0 : Nat)]), some (Blk.arr (11 : Nat) (0 : Nat) (lsF Sh.c ((X4.mk f bad acts [] [] [] (0 : Nat)).l ++ (X4.mk f bad acts [] [] []
(0 : Nat)).j')))])) (Tree.leaf (Ans.mk (AV.v (Value.bool true)) [])))))))))))) := by kernel_rfl
theorem loop43 (f bad : Int) (acts : List Ac) : LoopOK Tryd.prog Γs 0 159 (lp4 0) (LSpec.at lv41 nl41 (S43 f bad acts) O43) := by
  have hc : ∀ b : Bool, (bif b then false else false) = false := fun b => by cases b <;> rfl
  refine loop_at (S := fun _ : Unit => S43 f bad acts) (O := fun _ => O43) (pre := fun _ => True) (k := 0) (fun _ => 0) (fun x _ => .of (L := Lno) (failOK fun _ _ _ => rfl) (r43 f bad acts) ?_) () trivial
  simp only [or_true, true_or, false_or, or_false, and_false, false_and, cond_true, cond_false, Bool.not_true, Bool.not_false, Bool.false_eq_true, Bool.true_eq_false, not_true_eq_false, not_false_eq_true, false_implies, true_implies, implies_true, Nat.blt_eq, owesN, owesX, owesR, notT, sat_brT, sat_brF, sat_chkT, cl_iff, cl_false, AV.le_refl, AV.le_any, OLe_refl, OLe_none, sat_brN, Tree.sat_chk, Tree.sat_leaf, Tree.sat_fail, Nat.zero_add, Nat.sub_zero, Int.toNat_natCast, LeH_cons, LeH_nil, LeL_cons, LeL_nil, and_true, true_and, Bool.and_eq_true, Bool.or_eq_true, decide_eq_true_eq, decide_eq_false_iff_not, Bool.cond_true_left, Bool.cond_false_right, List.cons_append, List.nil_append, List.map_cons, List.map_nil, hc]
  repeat' (first | apply And.intro | intro _hc)
  all_goals first | omega | contradiction | exact AV.le_refl _ | exact AV.le_any _ | exact OLe.refl _ | exact OLe.none _ | exact LeH.refl _ | exact LeL.refl _ | exact AV.le.bs _ | exact AV.le.sb _ | exact rfl | (exfalso; omega) | contradiction
theorem law4 (f bad : Int) (acts : List Ac) (hb : inU32 bad = true) (hset : ∀ i, i < acts.length → inU32 (acts.getD i default).set = true) : LawOK Tryd.prog Γs 159 [.tmp 6] (bodyOf Tryd.f4) (A4 f bad acts) := by
  have h3 : ∀ b : Bool, (bif b then true else true) = true := fun b => by cases b <;> rfl
  by_cases h1 : 100 < acts.length
  · refine .mk' (T := T4) (ip := false) (L := Lno) (failOK fun _ _ _ => rfl) (Right.of (law4a f bad acts) ?_)
    simp only [or_true, true_or, false_or, or_false, and_false, false_and, cond_true, cond_false, Bool.not_true, Bool.not_false, Bool.false_eq_true, Bool.true_eq_false, not_true_eq_false, not_false_eq_true, false_implies, true_implies, implies_true, Nat.blt_eq, owesN, owesX, owesR, notT, sat_brT, sat_brF, sat_chkT, cl_iff, cl_false, AV.le_refl, AV.le_any, OLe_refl, OLe_none, sat_brN, Tree.sat_chk, Tree.sat_leaf, Tree.sat_fail, Nat.zero_add, Nat.sub_zero, Int.toNat_natCast, LeH_cons, LeH_nil, LeL_cons, LeL_nil, and_true, true_and, Bool.and_eq_true, Bool.or_eq_true, decide_eq_true_eq, decide_eq_false_iff_not, Bool.cond_true_left, Bool.cond_false_right, List.cons_append, List.nil_append, List.map_cons, List.map_nil]
    repeat' (first | apply And.intro | intro _hc)
    all_goals first | omega | contradiction | exact AV.le_refl _ | exact AV.le_any _ | exact OLe.refl _ | exact OLe.none _ | exact LeH.refl _ | exact LeL.refl _ | exact AV.le.bs _ | exact AV.le.sb _ | (exfalso; omega) | contradiction
  have two : ∀ (sx : List AV × Heap) (o : Out), LoopOK Tryd.prog Γs 0 159 (lp4 0) (LSpec.at lv41 nl41 sx o) → ∀ (j : Nat) (b : Code), (loopBodies (bodyOf Tryd.f4))[j]? = some b → LoopOK Tryd.prog Γs 0 159 b (LA sx o j) :=
    fun sx o h => twoLoops (b := lp4 0) (b' := lp4 1) (by kernel_rfl) h (fun _ _ _ h => by simp [LA, Tree.get] at h)
  by_cases hc : checkF f bad = 0
  · by_cases hp : f < (pc bad : Int)
    · refine .mk' (T := T4) (ip := false) (L := LA (S43 f bad acts) O43) (two _ _ (loop43 f bad acts)) (Right.of (law4n f bad acts) ?_)
      simp only [or_true, true_or, false_or, or_false, and_false, false_and, cond_true, cond_false, Bool.not_true, Bool.not_false, Bool.false_eq_true, Bool.true_eq_false, not_true_eq_false, not_false_eq_true, false_implies, true_implies, implies_true, Nat.blt_eq, owesN, owesX, owesR, notT, sat_brT, sat_brF, sat_chkT, cl_iff, cl_false, AV.le_refl, AV.le_any, OLe_refl, OLe_none, sat_brN, Tree.sat_chk, Tree.sat_leaf, Tree.sat_fail, Nat.zero_add, Nat.sub_zero, Int.toNat_natCast, LeH_cons, LeH_nil, LeL_cons, LeL_nil, and_true, true_and, Bool.and_eq_true, Bool.or_eq_true, decide_eq_true_eq, decide_eq_false_iff_not, Bool.cond_true_left, Bool.cond_false_right, List.cons_append, List.nil_append, List.map_cons, List.map_nil, hb, hc, hp]
      repeat' (first | apply And.intro | intro _hc)
      all_goals first | omega | contradiction | exact AV.le_refl _ | exact AV.le_any _ | exact OLe.refl _ | exact OLe.none _ | exact LeH.refl _ | exact LeL.refl _ | exact AV.le.bs _ | exact AV.le.sb _ | (exfalso; omega) | contradiction
    · have hl := loop41 (f := f) (bad := bad) (acts := acts) (by omega) hb hset ⟨f, bad, acts, [], [], [], 0⟩ ⟨rfl, rfl, rfl, Nat.zero_le _, Nat.le_refl _⟩
      have hN : ∀ (g : Nat → List AV) (l : List Sh), l = [] → OLe (some (.arr 11 0 g)) (some (.arr 11 0 (lsF Sh.c l))) := fun g l _ => OLe.arr rfl (fun e he => absurd he (Nat.not_lt_zero e)) (fun _ => rfl)
      have hM : OLe (some (.mp Sh.ks true false 0 (fun _ => false) fun _ => [AV.v (Value.int IntKind.i64 0)])) (some (.mp Sh.ks true false 0 (hasS []) anyV)) := OLe.mp rfl (fun _ => rfl) (fun _ _ => ⟨.any _, trivial⟩)
      refine .mk' (T := T4) (ip := false) (L := LA (S41 ⟨f, bad, acts, [], [], [], 0⟩) O41) (two _ _ hl) (Right.of (law4k f bad acts) ?_)
      simp only [or_true, true_or, false_or, or_false, and_false, false_and, cond_true, cond_false, Bool.not_true, Bool.not_false, Bool.false_eq_true, Bool.true_eq_false, not_true_eq_false, not_false_eq_true, false_implies, true_implies, implies_true, Nat.blt_eq, owesN, owesX, owesR, notT, sat_brT, sat_brF, sat_chkT, cl_iff, cl_false, AV.le_refl, AV.le_any, OLe_refl, OLe_none, sat_brN, Tree.sat_chk, Tree.sat_leaf, Tree.sat_fail, Nat.zero_add, Nat.sub_zero, Int.toNat_natCast, LeH_cons, LeH_nil, LeL_cons, LeL_nil, and_true, true_and, Bool.and_eq_true, Bool.or_eq_true, decide_eq_true_eq, decide_eq_false_iff_not, Bool.cond_true_left, Bool.cond_false_right, List.cons_append, List.nil_append, List.map_cons, List.map_nil, hb, hc, hp]
      repeat' (first | apply And.intro | intro _hc)
      all_goals first | omega | contradiction | exact AV.le_refl _ | exact AV.le_any _ | exact OLe.refl _ | exact OLe.none _ | exact LeH.refl _ | exact LeL.refl _ | exact AV.le.bs _ | exact AV.le.sb _ | exact hN _ _ rfl | exact hM | (exfalso; omega) | contradiction
  · have k2 : (bif !decide (checkF f bad = checkF f bad) then true else !true == !decide (checkF f bad = 0)) = false := by simp [hc]
    refine .mk' (T := T4) (ip := false) (L := LA (S43 f bad acts) O43) (two _ _ (loop43 f bad acts)) (Right.of (law4n f bad acts) ?_)
    simp only [or_true, true_or, false_or, or_false, and_false, false_and, cond_true, cond_false, Bool.not_true, Bool.not_false, Bool.false_eq_true, Bool.true_eq_false, not_true_eq_false, not_false_eq_true, false_implies, true_implies, implies_true, Nat.blt_eq, owesN, owesX, owesR, notT, sat_brT, sat_brF, sat_chkT, cl_iff, cl_false, AV.le_refl, AV.le_any, OLe_refl, OLe_none, sat_brN, Tree.sat_chk, Tree.sat_leaf, Tree.sat_fail, Nat.zero_add, Nat.sub_zero, Int.toNat_natCast, LeH_cons, LeH_nil, LeL_cons, LeL_nil, and_true, true_and, Bool.and_eq_true, Bool.or_eq_true, decide_eq_true_eq, decide_eq_false_iff_not, Bool.cond_true_left, Bool.cond_false_right, List.cons_append, List.nil_append, List.map_cons, List.map_nil, hb, k2, hc]
    repeat' (first | apply And.intro | intro _hc)
    all_goals first | omega | contradiction | exact AV.le_refl _ | exact AV.le_any _ | exact OLe.refl _ | exact OLe.none _ | exact LeH.refl _ | exact LeL.refl _ | exact AV.le.bs _ | exact AV.le.sb _ | (exfalso; omega) | contradiction
noncomputable def c4 : CT Tryd.prog Γs := CT.lawE (fun x : Int × Int × List Ac => A4 x.1 x.2.1 x.2.2) (fun x => inU32 x.2.1 = true ∧ ∀ i, i < x.2.2.length → inU32 (x.2.2.getD i default).set = true) 4 Tryd.f4 (bodyOf Tryd.f4) 159 [.tmp 6] Tryd.func4 (by kernel_rfl) (by kernel_rfl) (by kernel_rfl) (by kernel_rfl) (fun _ _ => by simp [A4]) (fun x h => law4 x.1 x.2.1 x.2.2 h.1 h.2)
theorem inU32_wf {n : Int} (h : (Lit.int .u32 n).wf = true) : inU32 n = true := by
  simp [Lit.wf, IntKind.min, IntKind.max, IntKind.signed, IntKind.bits] at h
  exact inU32_iff.2 ⟨by omega, by omega⟩
theorem acSet {a : Ac} (h : GoodVs Ac.ks a.cells) : inU32 a.set = true := by
  have h3 := h.2.2.2.1
  obtain ⟨n, e, hw⟩ := h3
  cases e
  exact inU32_wf hw
end Go.Eng.Si

/- The program's one table: what the rows' condition gives. -/
namespace Go.Proofs.YtnpfcaecaflfbaaDoor
open Go Go.ChangeShapes Go.WideShapes Go.ChangeAt Go.WideMaps Go.WideElems Go.RowKit Go.Eng Go.Eng.M Go.Eng.Si
set_option linter.unusedSimpArgs false
set_option linter.unusedVariables false

theorem own : ownKnob Tryd.prog.godebug = none := by kernel_rfl
theorem gTab : Tryd.prog.globalNamed "math/bits.deBruijn32tab" = some 0 := by kernel_rfl
theorem tTab : (Tryd.prog.globals[0]?).map (·.type) = some 70 := by kernel_rfl
abbrev laidL : List (String × DataW Unit) := [("math/bits.deBruijn32tab", Lib.tabData .u8 deb)]
theorem door_met (os : Os) (args : Array Value) : laidMetH Tryd.prog laidL ((World.doorLaid Tryd.prog 400 os).forCall (fun _ _ => 0) ⟨#[], args, []⟩).memory :=
  laidMetH_of_parts3 (fuel := 8) (laidMet_of_run' 8 (by kernel_rfl) (by kernel_rfl)) (by kernel_rfl) (by kernel_rfl)
theorem globals_ok {W : World} (h : laidMetH Tryd.prog laidL W) : Globals Γs (σof W) := by
  rw [MakeChecks.laidMetH_plain _ _ _ (by kernel_rfl)] at h
  have hT := Lib.tabIs_of_head gTab tTab Tryd.underlying70 Tryd.underlying5 (by kernel_rfl) (by kernel_rfl) h
  intro g
  unfold Γs
  split
  · rename_i hg
    obtain rfl := Nat.eq_of_beq_eq_true hg
    refine .pa 1 32 _ ⟨0, 0, none⟩ (fun e j => .int .u8 (deb.getD e 0)) rfl (fun _ => rfl) (fun e j c he hc => ?_) (fun e j c he hc => ?_)
    · cases j with
      | zero => simpa using σof_of (hT.cell gTab e (by simpa [deb] using he))
      | succ j => simp at hc
    · cases j with
      | zero => simp at hc; subst hc; exact .v _
      | succ j => simp at hc
  · exact .any _
end Go.Proofs.YtnpfcaecaflfbaaDoor

/- SignPlays holds at every input: the table math/bits.deBruijn32tab as the program lays it (tied). -/
namespace Go.Proofs.YtnpfcaecaflfbaaDoor
open Go Go.ChangeShapes Go.WideShapes Go.ChangeAt Go.WideMaps Go.WideElems Go.RowKit Go.Eng Go.Eng.M Go.Eng.Si
set_option linter.unusedSimpArgs false
set_option linter.unusedVariables false

set_option maxRecDepth 100000 in
theorem signPlays_lifted (os : Os) (started : os.Started) (H : Type) (enc : TypeId × Value → H) :
    ReturnsInHanded {} Tryd.checked os 4 .any (fun w args => (Rows.signPlaysSpec.pre enc Tryd.prog Tryd.f4 [] false w args ∧ laidMetH Tryd.prog laidL w) ∧ sizedMet enc Tryd.prog Tryd.f4 (OpenSpec.ofChange Rows.signPlaysSpec) false w args)
      (Rows.signPlaysSpec.post enc Tryd.prog Tryd.f4 false true false false) := by
  refine returnsInHanded_of_change_and (C := Tryd.checked) (X := fun w _ => laidMetH Tryd.prog laidL w) (fun _ _ _ hh h => h.of_heap hh) own started (by kernel_rfl) Tryd.func4
    (ChangeSpec.witness_shaped (enc := enc) (C := Tryd.checked) (os := os) (X := fun w _ => laidMetH Tryd.prog laidL w) false (World.doorLaid Tryd.prog 400 os) #[.int .i64 1, .int .u32 1, .slice none 0 0] 8 rfl (World.shaped_of_RefB (by kernel_rfl) (by kernel_rfl)) (by kernel_rfl) (by kernel_rfl) (by kernel_rfl) (door_met os _)) ?_
  intro W base args ds gs before hval0 hW _ _ hL _
  have hval : ∀ (j : Nat) t v, Tryd.f4.params[j]? = some t → args[j]? = some v → Value.okWide Tryd.prog W .any base t v := hval0
  have hW' := hW
  obtain ⟨p, q, hA0, hV, rfl, hfz, hnd⟩ := hW
  have hA : DataW.TrodAll enc Tryd.prog W 0 (fun _ => true) true Tryd.f4.params.toList args.toList ds p := hA0
  rw [Tryd.params4] at hA hval
  obtain ⟨v0, v1, v2, d0, d1, d2, p0, p1, p2, rfl, rfl, rfl, h0, h1, h2⟩ := trodAll_three hA
  obtain ⟨rfl, rfl⟩ := trodVars_none hV
  obtain ⟨n0, rfl, rfl, rfl, w0⟩ := open_int Tryd.underlying3 (hval 0 3 v0 rfl rfl) h0
  obtain ⟨n1, rfl, rfl, rfl, w1⟩ := open_int Tryd.underlying22 (hval 1 22 v1 rfl rfl) h1
  obtain ⟨n2, s2, w2⟩ := open_slL 9 Ac.cells Ac.c (ks := [.int .i64, .int .i64, .int .i64, .int .u32, .int .i64, .int .i64, .int .i64, .int .i64, .int .i64, .int .i64, .int .i64, .int .i64, .int .i64, .int .i64]) (sz := 14) rfl (fun _ => rfl) (fun _ => rfl) Ac.dec rfl Tryd.underlying23 (by kernel_rfl) (by kernel_rfl) (hval 2 23 v2 rfl rfl) h2
  refine (calls_true c4 (xs := [.v (.int .i64 n0), .v (.int .u32 n1), .sl 14 n2.length (lsF Ac.c n2)]) (law_in (A := fun x : Int × Int × List Ac => A4 x.1 x.2.1 x.2.2) (pre := fun x => inU32 x.2.1 = true ∧ ∀ i, i < x.2.2.length → inU32 (x.2.2.getD i default).set = true) (x := (n0, n1, n2)) ⟨inU32_wf w1, fun i hi => acSet (w2 i hi)⟩ (.refl _)) (globals_ok hL) (.one (V_v _) (.one (V_v _) (.one (.base s2) .none)))).mono fun e W' ⟨he, ho⟩ => ?_
  subst he
  exact ⟨_, rfl, post_true (tb := 4) (by kernel_rfl) (by kernel_rfl) (by kernel_rfl) (by kernel_rfl) (by kernel_rfl) Tryd.underlying4 hW' rfl rfl ho⟩

theorem signPlays_holds : Rows.SignPlaysSaid :=
  OpenClaim.holds_of_wide 4 Tryd.f4 rfl rfl rfl rfl rfl rfl rfl ⟨rfl, rfl, rfl, rfl, rfl⟩ rfl rfl rfl rfl rfl (by kernel_rfl) Tryd.func4 (by kernel_rfl)
    (of_decide_eq_true (by kernel_rfl)) (by unfold Func.isWrapper; first | (rw [if_pos (by decide +kernel)]; kernel_rfl) | (rw [if_neg (by decide +kernel)]; exact ⟨rfl, rfl⟩))
    (fun os started H enc _ => signPlays_lifted os started H enc)
theorem signPlays_card : Rows.SignPlaysCardSaid :=
  Claim7.holds_tied_plain_at .later [] [.data] true (true, "ea82103bd4f039685425a6885866ce4cd769803ee69860d8a1ebfe73fbf5a892") false
    signPlays_holds (fun _ h => by cases h) (by kernel_rfl) (fun _ h => by cases h) signPlays_row_tie rfl ⟨rfl, rfl⟩ (by kernel_rfl) rfl
    (fun f fn hf hfn => by
      obtain rfl : f = 4 := Option.some.inj ((show Tryd.prog.funcNamed "hallmoot/hallmootlaw06.SignPlays" = some 4 by kernel_rfl).symm.trans hf) |>.symm
      obtain rfl : fn = Tryd.f4 := (Option.some.inj (Tryd.func4.symm.trans hfn)).symm
      exact ⟨by kernel_rfl, fun j t ht => by
        rw [Tryd.params4] at ht
        have hm : t ∈ [3, 22, 23] := by simpa using Array.mem_of_getElem? ht
        have hall : ([3, 22, 23].all fun u => !Tryd.prog.wantsStandIn u) = true := by kernel_rfl
        exact (show Tryd.prog.wantsStandIn t = false by simpa using List.all_eq_true.1 hall t hm)⟩)
    (by kernel_rfl)
#print axioms signPlays_card
end Go.Proofs.YtnpfcaecaflfbaaDoor
