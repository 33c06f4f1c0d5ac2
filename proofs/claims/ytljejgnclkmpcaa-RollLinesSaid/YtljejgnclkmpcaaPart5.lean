/- Texts that RK14r needs: YB3 and what follows it. -/
import Derived.Test.YtljejgnclkmpcaaPart4
set_option linter.unnecessarySimpa false
set_option linter.unusedSectionVars false
set_option linter.unusedSimpArgs false
set_option linter.unusedVariables false
namespace Go.Eng.SB
open Go Go.Eng Go.Proofs
inductive NA where
  | nil
  | sl (m : Nat) (g : Nat → Int)
  | hs (m : Nat) (g : Nat → Int)
def NA.m : NA → Nat
  | .nil => 0
  | .sl m _ => m
  | .hs m _ => m
def NA.g : NA → Nat → Int
  | .nil => fun _ => 0
  | .sl _ g => g
  | .hs _ g => g
def i64F (g : Nat → Int) : Nat → List AV := fun j => [.v (.int .i64 (g j))]
def NA.av : NA → AV
  | .nil => .v (.slice none 0 0)
  | .sl m g => .sl 1 m (i64F g)
  | .hs m _ => .hs 0 0 m
def NA.bl : NA → List Blk
  | .hs m g => [.arr 1 m (i64F g)]
  | _ => []
def NA.k : NA → Nat
  | .hs _ _ => 1
  | _ => 0
def catN (g : Nat → Int) : Nat → ByteArray
  | 0 => ⟨#[]⟩
  | i + 1 => catN g i ++ numB (g i).toNat
def outV (k : Nat) (g : Nat → Int) : Nat → AV
  | 0 => .v (.slice none 0 0)
  | i + 1 => .hs k 0 (catN g (i + 1)).size
def outB (g : Nat → Int) : Nat → Heap
  | 0 => []
  | i + 1 => [some (.arr 1 (catN g (i + 1)).size (bsF (catN g (i + 1))))]
noncomputable def loopM : Code := loopOf (bodyOf Try.f82) 0
def SM (a : NA) (i : Nat) : List AV × Heap := ([.any, .any, outV a.k a.g i, a.av, .v (.int .i64 (a.m : Int)), .v (.int .i64 (i : Int))], a.bl.map some ++ outB a.g i)
def OMg (a : NA) : Out := ⟨.exit 0, [.any, .any, outV a.k a.g a.m, .any, .any, .any], a.bl.map some ++ outB a.g a.m⟩
def OMb (a : NA) : Out := ⟨.ret, [.v (.slice none 0 0), .v (.int .i64 10), .any, .any, .any, .any], a.bl.map some⟩
theorem catN_small {g : Nat → Int} : ∀ {i : Nat}, (∀ j, j < i → okN (g j) = true) → (catN g i).size ≤ 9 * i ∧ (0 < i → 0 < (catN g i).size)
  | 0, _ => ⟨Nat.zero_le _, fun h => by omega⟩
  | i + 1, h => by
    obtain ⟨h1, _⟩ := catN_small (g := g) (i := i) fun j hj => h j (by omega)
    obtain ⟨k, hk, hk2⟩ := okN_nat (h i (by omega))
    have := numB_size hk2
    simp only [catN, ByteArray.size_append, hk, Int.toNat_natCast]
    omega
theorem small_cat {g : Nat → Int} {i : Nat} (h : ∀ j, j < i → okN (g j) = true) (hi : i ≤ 100000) : small (catN g i) := by
  have := (catN_small h).1
  unfold small; omega
theorem roundMn  : roundE (P := Try.prog) (Γ := Γb) [] Lno false 0 0 loopM [2, 3, 4, 8, 9, 10] [] 25 [.any, .any, .v (.slice none 0 0), .v (.slice none 0 0), .v (.int .i64 (0 : Nat)), .v (.int .i64 (0 : Nat))] [] =
  Tree.br false Tree.fail (Tree.leaf (Out.mk (AEx.exit (0 : Nat)) [AV.any, AV.any, AV.v (Value.slice none (0 : Nat) (0 : Nat)), AV.v (Value.slice none (0 : Nat) (0 : Nat)), AV.v (Value.int
    IntKind.i64 (↑(0 : Nat) : Int)), AV.v (Value.int IntKind.i64 (↑(0 : Nat) : Int))] [])) := by kernel_rfl
theorem roundMs0 (m : Nat) (g : Nat → Int) (n : Nat) (h : n ≤ 4611686018427387904) : roundE (P := Try.prog) (Γ := Γb) [CT.at 121 (ansNum .nil n trivial h)] Lno false 0 0 loopM [2, 3, 4, 8, 9, 10] [] 25 [.any, .any, .v (.slice none 0 0), .sl 1 m (i64F g), .v (.int .i64 (m : Int)), .v (.int .i64 (0 : Nat))] [] =
  Tree.br (decide ((↑(0 : Nat) : Int) < (↑m : Int))) (Tree.chk (decide ((↑(0 : Nat) : Int) < (↑m : Int))) (Tree.chk (cl (LeL [AV.v (Value.slice none (0 : Nat) (0 : Nat)), AV.v (Value.int
    IntKind.i64 (g (Int.toNat (↑(0 : Nat) : Int))))] [AV.v (Value.slice none (0 : Nat) (0 : Nat)), AV.v (Value.int IntKind.i64 (↑n : Int))] ∧ LeH [] [])) (Tree.br false (Tree.leaf (Out.mk
    AEx.ret [AV.v (Value.slice none (0 : Nat) (0 : Nat)), AV.v (Value.int IntKind.i64 (0 : Int)), AV.hs (0 : Nat) (0 : Nat) (ByteArray.size (BA.t BA.nil ++ numB n)), AV.sl (1 : Nat) m fun j
    => [AV.v (Value.int IntKind.i64 (g j))], AV.v (Value.int IntKind.i64 (↑m : Int)), AV.v (Value.int IntKind.i64 (↑(0 : Nat) : Int))] [some (Blk.arr (1 : Nat) (ByteArray.size (BA.t BA.nil
    ++ numB n)) fun j => [AV.v (Value.int IntKind.u8 (sbyte (BA.t BA.nil ++ numB n) j))])])) (Tree.leaf (Out.mk AEx.normal [AV.any, AV.any, AV.hs (0 : Nat) (0 : Nat) (ByteArray.size (BA.t
    BA.nil ++ numB n)), AV.sl (1 : Nat) m fun j => [AV.v (Value.int IntKind.i64 (g j))], AV.v (Value.int IntKind.i64 (↑m : Int)), AV.v (Value.int IntKind.i64 (IntKind.wrap IntKind.i64 ((↑(0
    : Nat) : Int) + (1 : Int))))] [some (Blk.arr (1 : Nat) (ByteArray.size (BA.t BA.nil ++ numB n)) fun j => [AV.v (Value.int IntKind.u8 (sbyte (BA.t BA.nil ++ numB n) j))])]))))) (Tree.leaf
    (Out.mk (AEx.exit (0 : Nat)) [AV.any, AV.any, AV.v (Value.slice none (0 : Nat) (0 : Nat)), AV.sl (1 : Nat) m fun j => [AV.v (Value.int IntKind.i64 (g j))], AV.v (Value.int IntKind.i64
    (↑m : Int)), AV.v (Value.int IntKind.i64 (↑(0 : Nat) : Int))] [])) := by kernel_rfl
theorem roundMs1 (m : Nat) (g : Nat → Int) (n i : Nat) (t : ByteArray) (ht : (BA.hs t).ok) (h : n ≤ 4611686018427387904) : roundE (P := Try.prog) (Γ := Γb) [CT.at 121 (ansNum (.hs t) n ht h)] Lno false 0 0 loopM [2, 3, 4, 8, 9, 10] [] 25 [.any, .any, .hs 0 0 t.size, .sl 1 m (i64F g), .v (.int .i64 (m : Int)), .v (.int .i64 (i : Int))] [some (.arr 1 t.size (bsF t))] =
  Tree.br (decide ((↑i : Int) < (↑m : Int))) (Tree.chk (decide ((0 : Int) ≤ (↑i : Int)) && decide ((↑i : Int) < (↑m : Int))) (Tree.chk (cl (LeL [AV.hs (0 : Nat) (0 : Nat) (ByteArray.size t),
    AV.v (Value.int IntKind.i64 (g (Int.toNat (↑i : Int))))] [AV.hs (0 : Nat) (0 : Nat) (ByteArray.size t), AV.v (Value.int IntKind.i64 (↑n : Int))] ∧ LeH [some (Blk.arr (1 : Nat)
    (ByteArray.size t) fun j => [AV.v (Value.int IntKind.u8 (sbyte t j))])] [some (Blk.arr (1 : Nat) (ByteArray.size t) fun j => [AV.v (Value.int IntKind.u8 (sbyte t j))])])) (Tree.br false
    (Tree.leaf (Out.mk AEx.ret [AV.v (Value.slice none (0 : Nat) (0 : Nat)), AV.v (Value.int IntKind.i64 (0 : Int)), AV.hs (0 : Nat) (0 : Nat) (ByteArray.size (BA.t (BA.hs t) ++ numB n)),
    AV.sl (1 : Nat) m fun j => [AV.v (Value.int IntKind.i64 (g j))], AV.v (Value.int IntKind.i64 (↑m : Int)), AV.v (Value.int IntKind.i64 (↑i : Int))] [some (Blk.arr (1 : Nat)
    (ByteArray.size (BA.t (BA.hs t) ++ numB n)) fun j => [AV.v (Value.int IntKind.u8 (sbyte (BA.t (BA.hs t) ++ numB n) j))])])) (Tree.leaf (Out.mk AEx.normal [AV.any, AV.any, AV.hs (0 : Nat)
    (0 : Nat) (ByteArray.size (BA.t (BA.hs t) ++ numB n)), AV.sl (1 : Nat) m fun j => [AV.v (Value.int IntKind.i64 (g j))], AV.v (Value.int IntKind.i64 (↑m : Int)), AV.v (Value.int
    IntKind.i64 (IntKind.wrap IntKind.i64 ((↑i : Int) + (1 : Int))))] [some (Blk.arr (1 : Nat) (ByteArray.size (BA.t (BA.hs t) ++ numB n)) fun j => [AV.v (Value.int IntKind.u8 (sbyte (BA.t
    (BA.hs t) ++ numB n) j))])]))))) (Tree.leaf (Out.mk (AEx.exit (0 : Nat)) [AV.any, AV.any, AV.hs (0 : Nat) (0 : Nat) (ByteArray.size t), AV.sl (1 : Nat) m fun j => [AV.v (Value.int
    IntKind.i64 (g j))], AV.v (Value.int IntKind.i64 (↑m : Int)), AV.v (Value.int IntKind.i64 (↑i : Int))] [some (Blk.arr (1 : Nat) (ByteArray.size t) fun j => [AV.v (Value.int IntKind.u8
    (sbyte t j))])])) := by kernel_rfl
theorem roundMh0 (m : Nat) (g : Nat → Int) (n : Nat) (h : n ≤ 4611686018427387904) : roundE (P := Try.prog) (Γ := Γb) [CT.at 121 (ansNum .nil n trivial h)] Lno false 1 0 loopM [2, 3, 4, 8, 9, 10] [] 25 [.any, .any, .v (.slice none 0 0), .hs 0 0 m, .v (.int .i64 (m : Int)), .v (.int .i64 (0 : Nat))] [some (.arr 1 m (i64F g))] =
  Tree.br (decide ((↑(0 : Nat) : Int) < (↑m : Int))) (Tree.chk (decide ((↑(0 : Nat) : Int) < (↑m : Int))) (Tree.chk (cl (LeL [AV.v (Value.slice none (0 : Nat) (0 : Nat)), AV.v (Value.int
    IntKind.i64 (g ((0 : Nat) + Int.toNat (↑(0 : Nat) : Int))))] [AV.v (Value.slice none (0 : Nat) (0 : Nat)), AV.v (Value.int IntKind.i64 (↑n : Int))] ∧ LeH [] [])) (Tree.br false
    (Tree.leaf (Out.mk AEx.ret [AV.v (Value.slice none (0 : Nat) (0 : Nat)), AV.v (Value.int IntKind.i64 (0 : Int)), AV.hs (1 : Nat) (0 : Nat) (ByteArray.size (BA.t BA.nil ++ numB n)), AV.hs
    (0 : Nat) (0 : Nat) m, AV.v (Value.int IntKind.i64 (↑m : Int)), AV.v (Value.int IntKind.i64 (↑(0 : Nat) : Int))] [some (Blk.arr (1 : Nat) m fun j => [AV.v (Value.int IntKind.i64 (g
    j))]), some (Blk.arr (1 : Nat) (ByteArray.size (BA.t BA.nil ++ numB n)) fun j => [AV.v (Value.int IntKind.u8 (sbyte (BA.t BA.nil ++ numB n) j))])])) (Tree.leaf (Out.mk AEx.normal
    [AV.any, AV.any, AV.hs (1 : Nat) (0 : Nat) (ByteArray.size (BA.t BA.nil ++ numB n)), AV.hs (0 : Nat) (0 : Nat) m, AV.v (Value.int IntKind.i64 (↑m : Int)), AV.v (Value.int IntKind.i64
    (IntKind.wrap IntKind.i64 ((↑(0 : Nat) : Int) + (1 : Int))))] [some (Blk.arr (1 : Nat) m fun j => [AV.v (Value.int IntKind.i64 (g j))]), some (Blk.arr (1 : Nat) (ByteArray.size (BA.t
    BA.nil ++ numB n)) fun j => [AV.v (Value.int IntKind.u8 (sbyte (BA.t BA.nil ++ numB n) j))])]))))) (Tree.leaf (Out.mk (AEx.exit (0 : Nat)) [AV.any, AV.any, AV.v (Value.slice none (0 :
    Nat) (0 : Nat)), AV.hs (0 : Nat) (0 : Nat) m, AV.v (Value.int IntKind.i64 (↑m : Int)), AV.v (Value.int IntKind.i64 (↑(0 : Nat) : Int))] [some (Blk.arr (1 : Nat) m fun j => [AV.v
    (Value.int IntKind.i64 (g j))])])) := by kernel_rfl
theorem roundMh1 (m : Nat) (g : Nat → Int) (n i : Nat) (t : ByteArray) (ht : (BA.hs t).ok) (h : n ≤ 4611686018427387904) : roundE (P := Try.prog) (Γ := Γb) [CT.at 121 (ansNum (.hs t) n ht h)] Lno false 1 0 loopM [2, 3, 4, 8, 9, 10] [] 25 [.any, .any, .hs 1 0 t.size, .hs 0 0 m, .v (.int .i64 (m : Int)), .v (.int .i64 (i : Int))] [some (.arr 1 m (i64F g)), some (.arr 1 t.size (bsF t))] =
  Tree.br (decide ((↑i : Int) < (↑m : Int))) (Tree.chk (decide ((0 : Int) ≤ (↑i : Int)) && decide ((↑i : Int) < (↑m : Int))) (Tree.chk (cl (LeL [AV.hs (0 : Nat) (0 : Nat) (ByteArray.size t),
    AV.v (Value.int IntKind.i64 (g ((0 : Nat) + Int.toNat (↑i : Int))))] [AV.hs (0 : Nat) (0 : Nat) (ByteArray.size t), AV.v (Value.int IntKind.i64 (↑n : Int))] ∧ LeH [some (Blk.arr (1 :
    Nat) (ByteArray.size t) fun j => [AV.v (Value.int IntKind.u8 (sbyte t j))])] [some (Blk.arr (1 : Nat) (ByteArray.size t) fun j => [AV.v (Value.int IntKind.u8 (sbyte t j))])])) (Tree.br
    false (Tree.leaf (Out.mk AEx.ret [AV.v (Value.slice none (0 : Nat) (0 : Nat)), AV.v (Value.int IntKind.i64 (0 : Int)), AV.hs (1 : Nat) (0 : Nat) (ByteArray.size (BA.t (BA.hs t) ++ numB
    n)), AV.hs (0 : Nat) (0 : Nat) m, AV.v (Value.int IntKind.i64 (↑m : Int)), AV.v (Value.int IntKind.i64 (↑i : Int))] [some (Blk.arr (1 : Nat) m fun j => [AV.v (Value.int IntKind.i64 (g
    j))]), some (Blk.arr (1 : Nat) (ByteArray.size (BA.t (BA.hs t) ++ numB n)) fun j => [AV.v (Value.int IntKind.u8 (sbyte (BA.t (BA.hs t) ++ numB n) j))])])) (Tree.leaf (Out.mk AEx.normal
    [AV.any, AV.any, AV.hs (1 : Nat) (0 : Nat) (ByteArray.size (BA.t (BA.hs t) ++ numB n)), AV.hs (0 : Nat) (0 : Nat) m, AV.v (Value.int IntKind.i64 (↑m : Int)), AV.v (Value.int IntKind.i64
    (IntKind.wrap IntKind.i64 ((↑i : Int) + (1 : Int))))] [some (Blk.arr (1 : Nat) m fun j => [AV.v (Value.int IntKind.i64 (g j))]), some (Blk.arr (1 : Nat) (ByteArray.size (BA.t (BA.hs t)
    ++ numB n)) fun j => [AV.v (Value.int IntKind.u8 (sbyte (BA.t (BA.hs t) ++ numB n) j))])]))))) (Tree.leaf (Out.mk (AEx.exit (0 : Nat)) [AV.any, AV.any, AV.hs (1 : Nat) (0 : Nat)
    (ByteArray.size t), AV.hs (0 : Nat) (0 : Nat) m, AV.v (Value.int IntKind.i64 (↑m : Int)), AV.v (Value.int IntKind.i64 (↑i : Int))] [some (Blk.arr (1 : Nat) m fun j => [AV.v (Value.int
    IntKind.i64 (g j))]), some (Blk.arr (1 : Nat) (ByteArray.size t) fun j => [AV.v (Value.int IntKind.u8 (sbyte t j))])])) := by kernel_rfl
theorem roundMb0 (m : Nat) (g : Nat → Int) (n : Int) (h : n < 0 ∨ 4611686018427387904 < n) : roundE (P := Try.prog) (Γ := Γb) [CT.at 121 (ansBad .nil n trivial h)] Lno false 0 0 loopM [2, 3, 4, 8, 9, 10] [] 25 [.any, .any, .v (.slice none 0 0), .sl 1 m (i64F g), .v (.int .i64 (m : Int)), .v (.int .i64 (0 : Nat))] [] =
  Tree.br (decide ((↑(0 : Nat) : Int) < (↑m : Int))) (Tree.chk (decide ((↑(0 : Nat) : Int) < (↑m : Int))) (Tree.chk (cl (LeL [AV.v (Value.slice none (0 : Nat) (0 : Nat)), AV.v (Value.int
    IntKind.i64 (g (Int.toNat (↑(0 : Nat) : Int))))] [AV.v (Value.slice none (0 : Nat) (0 : Nat)), AV.v (Value.int IntKind.i64 n)] ∧ LeH [] [])) (Tree.br true (Tree.leaf (Out.mk AEx.ret
    [AV.v (Value.slice none (0 : Nat) (0 : Nat)), AV.v (Value.int IntKind.i64 (10 : Int)), AV.v (Value.slice none (0 : Nat) (0 : Nat)), AV.sl (1 : Nat) m fun j => [AV.v (Value.int
    IntKind.i64 (g j))], AV.v (Value.int IntKind.i64 (↑m : Int)), AV.v (Value.int IntKind.i64 (↑(0 : Nat) : Int))] [])) (Tree.leaf (Out.mk AEx.normal [AV.any, AV.any, AV.v (Value.slice none
    (0 : Nat) (0 : Nat)), AV.sl (1 : Nat) m fun j => [AV.v (Value.int IntKind.i64 (g j))], AV.v (Value.int IntKind.i64 (↑m : Int)), AV.v (Value.int IntKind.i64 (IntKind.wrap IntKind.i64
    ((↑(0 : Nat) : Int) + (1 : Int))))] []))))) (Tree.leaf (Out.mk (AEx.exit (0 : Nat)) [AV.any, AV.any, AV.v (Value.slice none (0 : Nat) (0 : Nat)), AV.sl (1 : Nat) m fun j => [AV.v
    (Value.int IntKind.i64 (g j))], AV.v (Value.int IntKind.i64 (↑m : Int)), AV.v (Value.int IntKind.i64 (↑(0 : Nat) : Int))] [])) := by kernel_rfl
theorem roundMb1 (m : Nat) (g : Nat → Int) (n : Int) (i : Nat) (t : ByteArray) (ht : (BA.hs t).ok) (h : n < 0 ∨ 4611686018427387904 < n) : roundE (P := Try.prog) (Γ := Γb) [CT.at 121 (ansBad (.hs t) n ht h)] Lno false 0 0 loopM [2, 3, 4, 8, 9, 10] [] 25 [.any, .any, .hs 0 0 t.size, .sl 1 m (i64F g), .v (.int .i64 (m : Int)), .v (.int .i64 (i : Int))] [some (.arr 1 t.size (bsF t))] =
  Tree.br (decide ((↑i : Int) < (↑m : Int))) (Tree.chk (decide ((0 : Int) ≤ (↑i : Int)) && decide ((↑i : Int) < (↑m : Int))) (Tree.chk (cl (LeL [AV.hs (0 : Nat) (0 : Nat) (ByteArray.size t),
    AV.v (Value.int IntKind.i64 (g (Int.toNat (↑i : Int))))] [AV.hs (0 : Nat) (0 : Nat) (ByteArray.size t), AV.v (Value.int IntKind.i64 n)] ∧ LeH [some (Blk.arr (1 : Nat) (ByteArray.size t)
    fun j => [AV.v (Value.int IntKind.u8 (sbyte t j))])] [some (Blk.arr (1 : Nat) (ByteArray.size t) fun j => [AV.v (Value.int IntKind.u8 (sbyte t j))])])) (Tree.br true (Tree.leaf (Out.mk
    AEx.ret [AV.v (Value.slice none (0 : Nat) (0 : Nat)), AV.v (Value.int IntKind.i64 (10 : Int)), AV.v (Value.slice none (0 : Nat) (0 : Nat)), AV.sl (1 : Nat) m fun j => [AV.v (Value.int
    IntKind.i64 (g j))], AV.v (Value.int IntKind.i64 (↑m : Int)), AV.v (Value.int IntKind.i64 (↑i : Int))] [])) (Tree.leaf (Out.mk AEx.normal [AV.any, AV.any, AV.v (Value.slice none (0 :
    Nat) (0 : Nat)), AV.sl (1 : Nat) m fun j => [AV.v (Value.int IntKind.i64 (g j))], AV.v (Value.int IntKind.i64 (↑m : Int)), AV.v (Value.int IntKind.i64 (IntKind.wrap IntKind.i64 ((↑i :
    Int) + (1 : Int))))] []))))) (Tree.leaf (Out.mk (AEx.exit (0 : Nat)) [AV.any, AV.any, AV.hs (0 : Nat) (0 : Nat) (ByteArray.size t), AV.sl (1 : Nat) m fun j => [AV.v (Value.int
    IntKind.i64 (g j))], AV.v (Value.int IntKind.i64 (↑m : Int)), AV.v (Value.int IntKind.i64 (↑i : Int))] [some (Blk.arr (1 : Nat) (ByteArray.size t) fun j => [AV.v (Value.int IntKind.u8
    (sbyte t j))])])) := by kernel_rfl
theorem pick {g : Nat → Int} {m i : Nat} (hok : ∀ j, j < m → okN (g j) = true) : ∃ k : Nat, k ≤ 4611686018427387904 ∧ (i < m → g i = k) := by
  by_cases h : i < m
  · obtain ⟨k, h1, h2⟩ := okN_nat (hok i h)
    exact ⟨k, h2, fun _ => h1⟩
  · exact ⟨0, by decide, fun h' => absurd h' h⟩
theorem hs_ok {g : Nat → Int} {i : Nat} (h : ∀ j, j < i + 1 → okN (g j) = true) (hi : i + 1 ≤ 100000) : (BA.hs (catN g (i + 1))).ok := ⟨small_cat h hi, (catN_small h).2 (by omega)⟩
theorem loopMg_ok (a : NA) (hok : ∀ j, j < a.m → okN (a.g j) = true) (hm : a.m ≤ 100000) : ∀ i, i ≤ a.m → LoopOK Try.prog Γb a.bl.length 25 loopM (LSpec.at [2, 3, 4, 8, 9, 10] [] (SM a i) (OMg a)) := by
  refine loop_at (S := SM a) (pre := fun i => i ≤ a.m) (O := fun _ => OMg a) (k := 0) (fun i => a.m - i) fun i hi => ?_
  cases a with
  | nil =>
    obtain rfl : i = 0 := Nat.le_zero.1 hi
    refine ⟨[], Lno, false, noLoops (by kernel_rfl), ?_⟩
    show (roundE (P := Try.prog) (Γ := Γb) [] Lno false 0 0 loopM [2, 3, 4, 8, 9, 10] [] 25 [.any, .any, .v (.slice none 0 0), .v (.slice none 0 0), .v (.int .i64 (0 : Nat)), .v (.int .i64 (0 : Nat))] []).sat _
    rw [roundMn]
    exact ⟨fun h => by simp at h, fun _ => ⟨rfl, ⟨.any _, .any _, .refl _, .any _, .any _, .any _, trivial⟩, trivial⟩⟩
  | sl m g =>
    have hok : ∀ j, j < m → okN (g j) = true := hok
    have hm : m ≤ 100000 := hm
    obtain ⟨n, hn, hg⟩ := pick (i := i) hok
    cases i with
    | zero =>
      refine ⟨[CT.at 121 (ansNum .nil n trivial hn)], Lno, false, noLoops (by kernel_rfl), ?_⟩
      show (roundE (P := Try.prog) (Γ := Γb) [CT.at 121 (ansNum .nil n trivial hn)] Lno false 0 0 loopM [2, 3, 4, 8, 9, 10] [] 25 [.any, .any, .v (.slice none 0 0), .sl 1 m (i64F g), .v (.int .i64 (m : Int)), .v (.int .i64 (0 : Nat))] []).sat _
      rw [roundMs0 m g n hn]
      refine ⟨fun hc => ?_, fun hc => ?_⟩
      · have hlt : 0 < m := by have := of_decide_eq_true hc; omega
        have h := hg hlt
        have e : BA.nil.t ++ numB n = catN g (0 + 1) := by
          show catN g (0) ++ numB n = catN g (0) ++ numB (g (0)).toNat
          rw [h, Int.toNat_natCast]
        have e3 : IntKind.i64.wrap (((0 : Nat) : Int) + (1 : Int)) = ((0 + 1 : Nat) : Int) := by rw [wrap64E]; omega
        rw [e, e3]
        refine ⟨by first | exact hc | (rw [Bool.true_and]; exact hc), cl_iff.2 ⟨⟨.refl _, .of_eq (by simp only [Int.toNat_natCast]; rw [h]), trivial⟩, trivial⟩, fun h => by simp at h, fun _ => ⟨0 + 1, LeL.refl _, LeH.refl _, hlt, rfl, ?_⟩⟩
        show m - (0 + 1) < m - (0); omega
      · have h := of_decide_eq_false hc
        obtain rfl : m = 0 := by have h2 : 0 ≤ m := hi; omega
        exact ⟨rfl, ⟨.any _, .any _, .refl _, .any _, .any _, .any _, trivial⟩, LeH.refl _⟩
    | succ i =>
      have hb : (BA.hs (catN g (i + 1))).ok := hs_ok (fun j hj => hok j (Nat.lt_of_lt_of_le hj hi)) (Nat.le_trans hi hm)
      refine ⟨[CT.at 121 (ansNum (.hs (catN g (i + 1))) n hb hn)], Lno, false, noLoops (by kernel_rfl), ?_⟩
      show (roundE (P := Try.prog) (Γ := Γb) [CT.at 121 (ansNum (.hs (catN g (i + 1))) n hb hn)] Lno false 0 0 loopM [2, 3, 4, 8, 9, 10] [] 25 [.any, .any, .hs 0 0 (catN g (i + 1)).size, .sl 1 m (i64F g), .v (.int .i64 (m : Int)), .v (.int .i64 ((i + 1 : Nat) : Int))] [some (.arr 1 (catN g (i + 1)).size (bsF (catN g (i + 1))))]).sat _
      rw [roundMs1 m g n (i + 1) (catN g (i + 1)) hb hn]
      refine ⟨fun hc => ?_, fun hc => ?_⟩
      · have hlt : i + 1 < m := by have := of_decide_eq_true hc; omega
        have h := hg hlt
        have e : (BA.hs (catN g (i + 1))).t ++ numB n = catN g (i + 1 + 1) := by
          show catN g (i + 1) ++ numB n = catN g (i + 1) ++ numB (g (i + 1)).toNat
          rw [h, Int.toNat_natCast]
        have e3 : IntKind.i64.wrap (((i + 1 : Nat) : Int) + (1 : Int)) = ((i + 1 + 1 : Nat) : Int) := by rw [wrap64E]; omega
        rw [e, e3]
        refine ⟨by rw [hc]; simp; omega, cl_iff.2 ⟨⟨.refl _, .of_eq (by simp only [Int.toNat_natCast]; rw [h]), trivial⟩, LeH.refl _⟩, fun h => by simp at h, fun _ => ⟨i + 1 + 1, LeL.refl _, LeH.refl _, hlt, rfl, ?_⟩⟩
        show m - (i + 1 + 1) < m - (i + 1); omega
      · have h := of_decide_eq_false hc
        obtain rfl : m = i + 1 := by have h2 : i + 1 ≤ m := hi; omega
        exact ⟨rfl, ⟨.any _, .any _, .refl _, .any _, .any _, .any _, trivial⟩, LeH.refl _⟩
  | hs m g =>
    have hok : ∀ j, j < m → okN (g j) = true := hok
    have hm : m ≤ 100000 := hm
    obtain ⟨n, hn, hg⟩ := pick (i := i) hok
    cases i with
    | zero =>
      refine ⟨[CT.at 121 (ansNum .nil n trivial hn)], Lno, false, noLoops (by kernel_rfl), ?_⟩
      show (roundE (P := Try.prog) (Γ := Γb) [CT.at 121 (ansNum .nil n trivial hn)] Lno false 1 0 loopM [2, 3, 4, 8, 9, 10] [] 25 [.any, .any, .v (.slice none 0 0), .hs 0 0 m, .v (.int .i64 (m : Int)), .v (.int .i64 (0 : Nat))] [some (.arr 1 m (i64F g))]).sat _
      rw [roundMh0 m g n hn]
      refine ⟨fun hc => ?_, fun hc => ?_⟩
      · have hlt : 0 < m := by have := of_decide_eq_true hc; omega
        have h := hg hlt
        have e : BA.nil.t ++ numB n = catN g (0 + 1) := by
          show catN g (0) ++ numB n = catN g (0) ++ numB (g (0)).toNat
          rw [h, Int.toNat_natCast]
        have e3 : IntKind.i64.wrap (((0 : Nat) : Int) + (1 : Int)) = ((0 + 1 : Nat) : Int) := by rw [wrap64E]; omega
        rw [e, e3]
        refine ⟨by first | exact hc | (rw [Bool.true_and]; exact hc), cl_iff.2 ⟨⟨.refl _, .of_eq (by simp only [Int.toNat_natCast, Nat.zero_add]; rw [h]), trivial⟩, trivial⟩, fun h => by simp at h, fun _ => ⟨0 + 1, LeL.refl _, LeH.refl _, hlt, rfl, ?_⟩⟩
        show m - (0 + 1) < m - (0); omega
      · have h := of_decide_eq_false hc
        obtain rfl : m = 0 := by have h2 : 0 ≤ m := hi; omega
        exact ⟨rfl, ⟨.any _, .any _, .refl _, .any _, .any _, .any _, trivial⟩, LeH.refl _⟩
    | succ i =>
      have hb : (BA.hs (catN g (i + 1))).ok := hs_ok (fun j hj => hok j (Nat.lt_of_lt_of_le hj hi)) (Nat.le_trans hi hm)
      refine ⟨[CT.at 121 (ansNum (.hs (catN g (i + 1))) n hb hn)], Lno, false, noLoops (by kernel_rfl), ?_⟩
      show (roundE (P := Try.prog) (Γ := Γb) [CT.at 121 (ansNum (.hs (catN g (i + 1))) n hb hn)] Lno false 1 0 loopM [2, 3, 4, 8, 9, 10] [] 25 [.any, .any, .hs 1 0 (catN g (i + 1)).size, .hs 0 0 m, .v (.int .i64 (m : Int)), .v (.int .i64 ((i + 1 : Nat) : Int))] [some (.arr 1 m (i64F g)), some (.arr 1 (catN g (i + 1)).size (bsF (catN g (i + 1))))]).sat _
      rw [roundMh1 m g n (i + 1) (catN g (i + 1)) hb hn]
      refine ⟨fun hc => ?_, fun hc => ?_⟩
      · have hlt : i + 1 < m := by have := of_decide_eq_true hc; omega
        have h := hg hlt
        have e : (BA.hs (catN g (i + 1))).t ++ numB n = catN g (i + 1 + 1) := by
          show catN g (i + 1) ++ numB n = catN g (i + 1) ++ numB (g (i + 1)).toNat
          rw [h, Int.toNat_natCast]
        have e3 : IntKind.i64.wrap (((i + 1 : Nat) : Int) + (1 : Int)) = ((i + 1 + 1 : Nat) : Int) := by rw [wrap64E]; omega
        rw [e, e3]
        refine ⟨by rw [hc]; simp; omega, cl_iff.2 ⟨⟨.refl _, .of_eq (by simp only [Int.toNat_natCast, Nat.zero_add]; rw [h]), trivial⟩, LeH.refl _⟩, fun h => by simp at h, fun _ => ⟨i + 1 + 1, LeL.refl _, LeH.refl _, hlt, rfl, ?_⟩⟩
        show m - (i + 1 + 1) < m - (i + 1); omega
      · have h := of_decide_eq_false hc
        obtain rfl : m = i + 1 := by have h2 : i + 1 ≤ m := hi; omega
        exact ⟨rfl, ⟨.any _, .any _, .refl _, .any _, .any _, .any _, trivial⟩, LeH.refl _⟩
theorem okN_bad {n : Int} (h : okN n = false) : n < 0 ∨ 4611686018427387904 < n := by
  unfold okN at h
  by_cases h1 : n < 0
  · exact .inl h1
  · rw [decide_eq_true (show 0 ≤ n by omega), Bool.true_and, decide_eq_false_iff_not] at h
    exact .inr (by omega)
theorem loopMb_ok (m : Nat) (g : Nat → Int) (b : Nat) (hb : b < m) (hok : ∀ j, j < b → okN (g j) = true) (hbad : okN (g b) = false) (hm : m ≤ 100000) : ∀ i, i ≤ b → LoopOK Try.prog Γb 0 25 loopM (LSpec.at [2, 3, 4, 8, 9, 10] [] (SM (.sl m g) i) (OMb (.sl m g))) := by
  refine loop_at (S := SM (.sl m g)) (pre := fun i => i ≤ b) (O := fun _ => OMb (.sl m g)) (k := 0) (fun i => b - i) fun i hi => ?_
  rcases Nat.lt_or_ge i b with hib | hib
  · obtain ⟨n, hg, hn⟩ := okN_nat (hok i hib)
    cases i with
    | zero =>
      refine ⟨[CT.at 121 (ansNum .nil n trivial hn)], Lno, false, noLoops (by kernel_rfl), ?_⟩
      show (roundE (P := Try.prog) (Γ := Γb) [CT.at 121 (ansNum .nil n trivial hn)] Lno false 0 0 loopM [2, 3, 4, 8, 9, 10] [] 25 [.any, .any, .v (.slice none 0 0), .sl 1 m (i64F g), .v (.int .i64 (m : Int)), .v (.int .i64 (0 : Nat))] []).sat _
      rw [roundMs0 m g n hn]
      refine ⟨fun hc => ?_, fun hc => ?_⟩
      · have hlt : 0 < m := by have := of_decide_eq_true hc; omega
        have h := hg
        have e : BA.nil.t ++ numB n = catN g (0 + 1) := by
          show catN g (0) ++ numB n = catN g (0) ++ numB (g (0)).toNat
          rw [h, Int.toNat_natCast]
        have e3 : IntKind.i64.wrap (((0 : Nat) : Int) + (1 : Int)) = ((0 + 1 : Nat) : Int) := by rw [wrap64E]; omega
        rw [e, e3]
        refine ⟨by first | exact hc | (rw [Bool.true_and]; exact hc), cl_iff.2 ⟨⟨.refl _, .of_eq (by simp only [Int.toNat_natCast]; rw [h]), trivial⟩, trivial⟩, fun h => by simp at h, fun _ => ⟨0 + 1, LeL.refl _, LeH.refl _, Nat.succ_le_of_lt hib, rfl, ?_⟩⟩
        show b - (0 + 1) < b - (0); omega
      · have h := of_decide_eq_false hc
        omega
    | succ i =>
      have hb' : (BA.hs (catN g (i + 1))).ok := hs_ok (fun j hj => hok j (Nat.lt_of_lt_of_le hj hi)) (by omega)
      refine ⟨[CT.at 121 (ansNum (.hs (catN g (i + 1))) n hb' hn)], Lno, false, noLoops (by kernel_rfl), ?_⟩
      show (roundE (P := Try.prog) (Γ := Γb) [CT.at 121 (ansNum (.hs (catN g (i + 1))) n hb' hn)] Lno false 0 0 loopM [2, 3, 4, 8, 9, 10] [] 25 [.any, .any, .hs 0 0 (catN g (i + 1)).size, .sl 1 m (i64F g), .v (.int .i64 (m : Int)), .v (.int .i64 ((i + 1 : Nat) : Int))] [some (.arr 1 (catN g (i + 1)).size (bsF (catN g (i + 1))))]).sat _
      rw [roundMs1 m g n (i + 1) (catN g (i + 1)) hb' hn]
      refine ⟨fun hc => ?_, fun hc => ?_⟩
      · have hlt : i + 1 < m := by have := of_decide_eq_true hc; omega
        have h := hg
        have e : (BA.hs (catN g (i + 1))).t ++ numB n = catN g (i + 1 + 1) := by
          show catN g (i + 1) ++ numB n = catN g (i + 1) ++ numB (g (i + 1)).toNat
          rw [h, Int.toNat_natCast]
        have e3 : IntKind.i64.wrap (((i + 1 : Nat) : Int) + (1 : Int)) = ((i + 1 + 1 : Nat) : Int) := by rw [wrap64E]; omega
        rw [e, e3]
        refine ⟨by rw [hc]; simp; omega, cl_iff.2 ⟨⟨.refl _, .of_eq (by simp only [Int.toNat_natCast]; rw [h]), trivial⟩, LeH.refl _⟩, fun h => by simp at h, fun _ => ⟨i + 1 + 1, LeL.refl _, LeH.refl _, Nat.succ_le_of_lt hib, rfl, ?_⟩⟩
        show b - (i + 1 + 1) < b - (i + 1); omega
      · have h := of_decide_eq_false hc
        omega
  · obtain rfl : i = b := Nat.le_antisymm hi hib
    have hn := okN_bad hbad
    cases i with
    | zero =>
      refine ⟨[CT.at 121 (ansBad .nil (g 0) trivial hn)], Lno, false, noLoops (by kernel_rfl), ?_⟩
      show (roundE (P := Try.prog) (Γ := Γb) [CT.at 121 (ansBad .nil (g 0) trivial hn)] Lno false 0 0 loopM [2, 3, 4, 8, 9, 10] [] 25 [.any, .any, .v (.slice none 0 0), .sl 1 m (i64F g), .v (.int .i64 (m : Int)), .v (.int .i64 (0 : Nat))] []).sat _
      rw [roundMb0 m g (g 0) hn]
      have hc : decide (((0 : Nat) : Int) < (m : Int)) = true := decide_eq_true (by omega)
      rw [hc]
      exact ⟨fun _ => ⟨rfl, cl_iff.2 ⟨LeL.refl _, trivial⟩, fun _ => ⟨rfl, ⟨.refl _, .refl _, .any _, .any _, .any _, .any _, trivial⟩, trivial⟩, fun h => by simp at h⟩, fun h => by simp at h⟩
    | succ i =>
      have hb' : (BA.hs (catN g (i + 1))).ok := hs_ok (fun j hj => hok j hj) (by omega)
      refine ⟨[CT.at 121 (ansBad (.hs (catN g (i + 1))) (g (i + 1)) hb' hn)], Lno, false, noLoops (by kernel_rfl), ?_⟩
      show (roundE (P := Try.prog) (Γ := Γb) [CT.at 121 (ansBad (.hs (catN g (i + 1))) (g (i + 1)) hb' hn)] Lno false 0 0 loopM [2, 3, 4, 8, 9, 10] [] 25 [.any, .any, .hs 0 0 (catN g (i + 1)).size, .sl 1 m (i64F g), .v (.int .i64 (m : Int)), .v (.int .i64 ((i + 1 : Nat) : Int))] [some (.arr 1 (catN g (i + 1)).size (bsF (catN g (i + 1))))]).sat _
      rw [roundMb1 m g (g (i + 1)) (i + 1) (catN g (i + 1)) hb' hn]
      have hc : decide (((i + 1 : Nat) : Int) < (m : Int)) = true := decide_eq_true (by omega)
      rw [hc]
      exact ⟨fun _ => ⟨by rw [decide_eq_true (show (0 : Int) ≤ ((i + 1 : Nat) : Int) by omega)]; rfl, cl_iff.2 ⟨LeL.refl _, LeH.refl _⟩, fun _ => ⟨rfl, ⟨.refl _, .refl _, .any _, .any _, .any _, .any _, trivial⟩, trivial⟩, fun h => by simp at h⟩, fun h => by simp at h⟩
theorem runMg (a : NA) (m : Nat) (g : Nat → Int) : bodyE (P := Try.prog) (Γ := Γb) [] (fun _ => LSpec.at [2, 3, 4, 8, 9, 10] [] (SM (.sl (m + 1) g) 0) (OMg (.sl (m + 1) g))) false 25 [.tmp 2, .tmp 3] (bodyOf Try.f82) [.sl 1 (m + 1) (i64F g)] [] =
  Tree.chk (cl (LeL [AV.v (Value.slice none (0 : Nat) (0 : Nat)), AV.v (Value.int IntKind.i64 (0 : Int)), AV.v (Value.slice none (0 : Nat) (0 : Nat)), AV.sl (1 : Nat) (m + (1 : Nat)) fun j =>
    [AV.v (Value.int IntKind.i64 (g j))], AV.v (Value.int IntKind.i64 (↑(m + (1 : Nat)) : Int)), AV.v (Value.int IntKind.i64 (0 : Int))] [AV.any, AV.any, AV.v (Value.slice none (0 : Nat) (0
    : Nat)), AV.sl (1 : Nat) (m + (1 : Nat)) fun j => [AV.v (Value.int IntKind.i64 (g j))], AV.v (Value.int IntKind.i64 (↑(NA.m (NA.sl (m + (1 : Nat)) g)) : Int)), AV.v (Value.int
    IntKind.i64 (↑(0 : Nat) : Int))] ∧ LeH [] [])) (Tree.leaf (Ans.mk (AV.tup [AV.hs (0 : Nat) (0 : Nat) (ByteArray.size (catN (NA.g (NA.sl (m + (1 : Nat)) g)) (Nat.add._f Nat.zero
    PUnit.unit m + (1 : Nat)))), AV.v (Value.int IntKind.i64 (0 : Int))]) [some (Blk.arr (1 : Nat) (ByteArray.size (catN (NA.g (NA.sl (m + (1 : Nat)) g)) (Nat.add._f Nat.zero PUnit.unit m +
    (1 : Nat)))) fun j => [AV.v (Value.int IntKind.u8 (sbyte (catN (NA.g (NA.sl (m + (1 : Nat)) g)) (Nat.add._f Nat.zero PUnit.unit m + (1 : Nat))) j))])])) := by kernel_rfl
theorem runM0 (g : Nat → Int) : bodyE (P := Try.prog) (Γ := Γb) [] (fun _ => LSpec.at [2, 3, 4, 8, 9, 10] [] (SM (.sl 0 g) 0) (OMg (.sl 0 g))) false 25 [.tmp 2, .tmp 3] (bodyOf Try.f82) [.sl 1 0 (i64F g)] [] =
  Tree.chk (cl (LeL [AV.v (Value.slice none (0 : Nat) (0 : Nat)), AV.v (Value.int IntKind.i64 (0 : Int)), AV.v (Value.slice none (0 : Nat) (0 : Nat)), AV.sl (1 : Nat) (0 : Nat) fun j => [AV.v
    (Value.int IntKind.i64 (g j))], AV.v (Value.int IntKind.i64 (↑(0 : Nat) : Int)), AV.v (Value.int IntKind.i64 (0 : Int))] [AV.any, AV.any, AV.v (Value.slice none (0 : Nat) (0 : Nat)),
    AV.sl (1 : Nat) (0 : Nat) fun j => [AV.v (Value.int IntKind.i64 (g j))], AV.v (Value.int IntKind.i64 (↑(0 : Nat) : Int)), AV.v (Value.int IntKind.i64 (↑(0 : Nat) : Int))] ∧ LeH [] []))
    (Tree.leaf (Ans.mk (AV.tup [AV.v (Value.slice none (0 : Nat) (0 : Nat)), AV.v (Value.int IntKind.i64 (0 : Int))]) [])) := by kernel_rfl
theorem runMn  : bodyE (P := Try.prog) (Γ := Γb) [] (fun _ => LSpec.at [2, 3, 4, 8, 9, 10] [] (SM .nil 0) (OMg .nil)) false 25 [.tmp 2, .tmp 3] (bodyOf Try.f82) [.v (.slice none 0 0)] [] =
  Tree.chk (cl (LeL [AV.v (Value.slice none (0 : Nat) (0 : Nat)), AV.v (Value.int IntKind.i64 (0 : Int)), AV.v (Value.slice none (0 : Nat) (0 : Nat)), AV.v (Value.slice none (0 : Nat) (0 :
    Nat)), AV.v (Value.int IntKind.i64 (0 : Int)), AV.v (Value.int IntKind.i64 (0 : Int))] [AV.any, AV.any, AV.v (Value.slice none (0 : Nat) (0 : Nat)), AV.v (Value.slice none (0 : Nat) (0 :
    Nat)), AV.v (Value.int IntKind.i64 (↑(0 : Nat) : Int)), AV.v (Value.int IntKind.i64 (↑(0 : Nat) : Int))] ∧ LeH [] [])) (Tree.leaf (Ans.mk (AV.tup [AV.v (Value.slice none (0 : Nat) (0 :
    Nat)), AV.v (Value.int IntKind.i64 (0 : Int))]) [])) := by kernel_rfl
theorem runMh (m : Nat) (g : Nat → Int) : bodyE (P := Try.prog) (Γ := Γb) [] (fun _ => LSpec.at [2, 3, 4, 8, 9, 10] [] (SM (.hs (m + 1) g) 0) (OMg (.hs (m + 1) g))) false 25 [.tmp 2, .tmp 3] (bodyOf Try.f82) [.hs 0 0 (m + 1)] [.arr 1 (m + 1) (i64F g)] =
  Tree.chk (cl (LeL [AV.v (Value.slice none (0 : Nat) (0 : Nat)), AV.v (Value.int IntKind.i64 (0 : Int)), AV.v (Value.slice none (0 : Nat) (0 : Nat)), AV.hs (0 : Nat) (0 : Nat) (m + (1 :
    Nat)), AV.v (Value.int IntKind.i64 (↑(m + (1 : Nat)) : Int)), AV.v (Value.int IntKind.i64 (0 : Int))] [AV.any, AV.any, AV.v (Value.slice none (0 : Nat) (0 : Nat)), AV.hs (0 : Nat) (0 :
    Nat) (m + (1 : Nat)), AV.v (Value.int IntKind.i64 (↑(NA.m (NA.hs (m + (1 : Nat)) g)) : Int)), AV.v (Value.int IntKind.i64 (↑(0 : Nat) : Int))] ∧ LeH [some (Blk.arr (1 : Nat) (m + (1 :
    Nat)) fun j => [AV.v (Value.int IntKind.i64 (g j))])] [some (Blk.arr (1 : Nat) (m + (1 : Nat)) fun j => [AV.v (Value.int IntKind.i64 (g j))])])) (Tree.leaf (Ans.mk (AV.tup [AV.hs (1 :
    Nat) (0 : Nat) (ByteArray.size (catN (NA.g (NA.hs (m + (1 : Nat)) g)) (Nat.add._f Nat.zero PUnit.unit m + (1 : Nat)))), AV.v (Value.int IntKind.i64 (0 : Int))]) [some (Blk.arr (1 : Nat)
    (m + (1 : Nat)) fun j => [AV.v (Value.int IntKind.i64 (g j))]), some (Blk.arr (1 : Nat) (ByteArray.size (catN (NA.g (NA.hs (m + (1 : Nat)) g)) (Nat.add._f Nat.zero PUnit.unit m + (1 :
    Nat)))) fun j => [AV.v (Value.int IntKind.u8 (sbyte (catN (NA.g (NA.hs (m + (1 : Nat)) g)) (Nat.add._f Nat.zero PUnit.unit m + (1 : Nat))) j))])])) := by kernel_rfl
theorem runMb (m : Nat) (g : Nat → Int) : bodyE (P := Try.prog) (Γ := Γb) [] (fun _ => LSpec.at [2, 3, 4, 8, 9, 10] [] (SM (.sl m g) 0) (OMb (.sl m g))) false 25 [.tmp 2, .tmp 3] (bodyOf Try.f82) [.sl 1 m (i64F g)] [] =
  Tree.chk (cl (LeL [AV.v (Value.slice none (0 : Nat) (0 : Nat)), AV.v (Value.int IntKind.i64 (0 : Int)), AV.v (Value.slice none (0 : Nat) (0 : Nat)), AV.sl (1 : Nat) m fun j => [AV.v
    (Value.int IntKind.i64 (g j))], AV.v (Value.int IntKind.i64 (↑m : Int)), AV.v (Value.int IntKind.i64 (0 : Int))] [AV.any, AV.any, AV.v (Value.slice none (0 : Nat) (0 : Nat)), AV.sl (1 :
    Nat) m fun j => [AV.v (Value.int IntKind.i64 (g j))], AV.v (Value.int IntKind.i64 (↑(NA.m (NA.sl m g)) : Int)), AV.v (Value.int IntKind.i64 (↑(0 : Nat) : Int))] ∧ LeH [] [])) (Tree.leaf
    (Ans.mk (AV.tup [AV.v (Value.slice none (0 : Nat) (0 : Nat)), AV.v (Value.int IntKind.i64 (10 : Int))]) [])) := by kernel_rfl
def outBl (g : Nat → Int) : Nat → List Blk
  | 0 => []
  | i + 1 => [.arr 1 (catN g (i + 1)).size (bsF (catN g (i + 1)))]
def NA.ok (a : NA) : Prop := (∀ j, j < a.m → okN (a.g j) = true) ∧ a.m ≤ 100000 ∧ (a.k = 1 → 0 < a.m)
theorem ansNums : ∀ (a : NA), a.ok → Answers Try.prog Γb 82 [a.av] a.bl (.tup [outV a.k a.g a.m, .v (.int .i64 0)]) (a.bl.map some) (outBl a.g a.m)
  | .nil, h => answers (fn := Try.f82) (c := bodyOf Try.f82) (ntmps := 25) (results := [.tmp 2, .tmp 3]) [] (fun _ => LSpec.at [2, 3, 4, 8, 9, 10] [] (SM .nil 0) (OMg .nil)) false Try.func82 (by kernel_rfl) (by kernel_rfl) (by kernel_rfl) (by kernel_rfl) (by simp) rfl
    (oneLoop (b := loopM) (by kernel_rfl) (loopMg_ok .nil h.1 h.2.1 0 (Nat.zero_le _))) (Meets.of runMn ⟨cl_iff.2 ⟨⟨.any _, .any _, .refl _, .refl _, .refl _, .refl _, trivial⟩, trivial⟩, .refl _, trivial⟩)
  | .sl 0 g, h => answers (fn := Try.f82) (c := bodyOf Try.f82) (ntmps := 25) (results := [.tmp 2, .tmp 3]) [] (fun _ => LSpec.at [2, 3, 4, 8, 9, 10] [] (SM (.sl 0 g) 0) (OMg (.sl 0 g))) false Try.func82 (by kernel_rfl) (by kernel_rfl) (by kernel_rfl) (by kernel_rfl) (by simp) rfl
    (oneLoop (b := loopM) (by kernel_rfl) (loopMg_ok (.sl 0 g) h.1 h.2.1 0 (Nat.zero_le _))) (Meets.of (runM0 g) ⟨cl_iff.2 ⟨⟨.any _, .any _, .refl _, .refl _, .refl _, .refl _, trivial⟩, trivial⟩, .refl _, trivial⟩)
  | .sl (m + 1) g, h => answers (fn := Try.f82) (c := bodyOf Try.f82) (ntmps := 25) (results := [.tmp 2, .tmp 3]) [] (fun _ => LSpec.at [2, 3, 4, 8, 9, 10] [] (SM (.sl (m + 1) g) 0) (OMg (.sl (m + 1) g))) false Try.func82 (by kernel_rfl) (by kernel_rfl) (by kernel_rfl) (by kernel_rfl) (by simp) rfl
    (oneLoop (b := loopM) (by kernel_rfl) (loopMg_ok (.sl (m + 1) g) h.1 h.2.1 0 (Nat.zero_le _))) (Meets.of (runMg .nil m g) ⟨cl_iff.2 ⟨⟨.any _, .any _, .refl _, .refl _, .refl _, .refl _, trivial⟩, trivial⟩, .refl _, .refl _, trivial⟩)
  | .hs (m + 1) g, h => answers (fn := Try.f82) (c := bodyOf Try.f82) (ntmps := 25) (results := [.tmp 2, .tmp 3]) [] (fun _ => LSpec.at [2, 3, 4, 8, 9, 10] [] (SM (.hs (m + 1) g) 0) (OMg (.hs (m + 1) g))) false Try.func82 (by kernel_rfl) (by kernel_rfl) (by kernel_rfl) (by kernel_rfl) (by simp) rfl
    (oneLoop (b := loopM) (by kernel_rfl) (loopMg_ok (.hs (m + 1) g) h.1 h.2.1 0 (Nat.zero_le _))) (Meets.of (runMh m g) ⟨cl_iff.2 ⟨⟨.any _, .any _, .refl _, .refl _, .refl _, .refl _, trivial⟩, LeH.refl _⟩, .refl _, .refl _, .refl _, trivial⟩)
  | .hs 0 g, h => absurd (h.2.2 rfl) (Nat.lt_irrefl _)
theorem ansNumsBad (m : Nat) (g : Nat → Int) (b : Nat) (hb : b < m) (hok : ∀ j, j < b → okN (g j) = true) (hbad : okN (g b) = false) (hm : m ≤ 100000) : Answers Try.prog Γb 82 [.sl 1 m (i64F g)] [] (.tup [.v (.slice none 0 0), .v (.int .i64 10)]) [] [] :=
  answers (fn := Try.f82) (c := bodyOf Try.f82) (ntmps := 25) (results := [.tmp 2, .tmp 3]) [] (fun _ => LSpec.at [2, 3, 4, 8, 9, 10] [] (SM (.sl m g) 0) (OMb (.sl m g))) false Try.func82 (by kernel_rfl) (by kernel_rfl) (by kernel_rfl) (by kernel_rfl) (by simp) rfl
    (oneLoop (b := loopM) (by kernel_rfl) (loopMb_ok m g b hb hok hbad hm 0 (Nat.zero_le _))) (Meets.of (runMb m g) ⟨cl_iff.2 ⟨⟨.any _, .any _, .refl _, .refl _, .refl _, .refl _, trivial⟩, trivial⟩, .refl _, trivial⟩)
theorem ansNumsS (m : Nat) (g : Nat → Int) (h : (NA.sl (m + 1) g).ok) : Answers Try.prog Γb 82 [.sl 1 (m + 1) (i64F g)] [] (.tup [.hs 0 0 (catN g (m + 1)).size, .v (.int .i64 0)]) [] [.arr 1 (catN g (m + 1)).size (bsF (catN g (m + 1)))] := ansNums (.sl (m + 1) g) h
theorem ansNums0 (g : Nat → Int) (h : (NA.sl 0 g).ok) : Answers Try.prog Γb 82 [.sl 1 0 (i64F g)] [] (.tup [.v (.slice none 0 0), .v (.int .i64 0)]) [] [] := ansNums (.sl 0 g) h
theorem ansNumsN (h : NA.nil.ok) : Answers Try.prog Γb 82 [.v (.slice none 0 0)] [] (.tup [.v (.slice none 0 0), .v (.int .i64 0)]) [] [] := ansNums .nil h
theorem allBytes0 (n : Nat) (t : ByteArray) : (allBytes n fun j => [AV.v (Value.int IntKind.u8 (sbyte t ((0 : Nat) + j)))]) = true := by
  simp only [Nat.zero_add]; exact allBytes_bsF n t
theorem textOf0 (t : ByteArray) : (textOf t.size fun j => [AV.v (Value.int IntKind.u8 (sbyte t ((0 : Nat) + j)))]) = t := by
  simp only [Nat.zero_add]; exact textOf_bsF t
theorem okN_of {n : Nat} (h : n ≤ 4611686018427387904) : okN (n : Int) = true := by
  unfold okN
  rw [decide_eq_true (show (0 : Int) ≤ (n : Int) by omega), decide_eq_true (show (n : Int) ≤ 4611686018427387904 by omega)]; rfl
theorem okN_not {n : Int} (h : n < 0 ∨ 4611686018427387904 < n) : okN n = false := by
  cases hh : okN n with
  | false => rfl
  | true => obtain ⟨k, rfl, hk⟩ := okN_nat hh; omega
theorem guard3 {a b c : Bool} (h : (bif a then true else bif b then true else c) = false) : a = false ∧ b = false ∧ c = false := by
  cases a <;> cases b <;> cases c <;> simp at h ⊢
theorem LeL_self (xs : List AV) : LeL xs xs = True := eq_true (LeL.refl xs)
theorem LeH_self (xs : Heap) : LeH xs xs = True := eq_true (LeH.refl xs)
theorem cl_true : cl True = true := cl_iff.2 trivial
theorem allBytesF (n : Nat) (t : ByteArray) : (allBytes n fun j => [AV.v (Value.int IntKind.u8 (sbyte t j))]) = true := allBytes_bsF n t
theorem textOfF (t : ByteArray) : (textOf t.size fun j => [AV.v (Value.int IntKind.u8 (sbyte t j))]) = t := textOf_bsF t
theorem textOfF2 (a b : ByteArray) : (textOf (a.size + b.size) fun j => [AV.v (Value.int IntKind.u8 (sbyte (a ++ b) j))]) = a ++ b := by
  have := textOfF (a ++ b)
  rwa [ByteArray.size_append] at this
theorem textOfF3 (a b c : ByteArray) : (textOf (a.size + (b.size + c.size)) fun j => [AV.v (Value.int IntKind.u8 (sbyte (a ++ (b ++ c)) j))]) = a ++ (b ++ c) := by
  have := textOfF (a ++ (b ++ c))
  rwa [ByteArray.size_append, ByteArray.size_append] at this
end Go.Eng.SB

namespace Go.Eng.SB
open Go Go.Eng Go.Proofs
namespace S
noncomputable def c125 : CT Try.prog Γb := CT.auto false 100 3 [] 125 Try.f125 (bodyOf Try.f125) false 15 [.tmp 6] Try.func125 (by kernel_rfl) (by kernel_rfl) (by kernel_rfl) (by kernel_rfl)
noncomputable def c128 : CT Try.prog Γb := CT.auto false 100 3 [] 128 Try.f128 (bodyOf Try.f128) false 15 [.tmp 4] Try.func128 (by kernel_rfl) (by kernel_rfl) (by kernel_rfl) (by kernel_rfl)
noncomputable def c100 : CT Try.prog Γb := CT.auto false 100 3 [c128] 100 Try.f100 (bodyOf Try.f100) false 5 [.tmp 2] Try.func100 (by kernel_rfl) (by kernel_rfl) (by kernel_rfl) (by kernel_rfl)
noncomputable def c154 : CT Try.prog Γb := CT.auto false 100 3 [c100] 154 Try.f154 (bodyOf Try.f154) false 7 [.tmp 2] Try.func154 (by kernel_rfl) (by kernel_rfl) (by kernel_rfl) (by kernel_rfl)
noncomputable def c146 : CT Try.prog Γb := CT.auto false 100 3 [c100, c154] 146 Try.f146 (bodyOf Try.f146) false 15 [.tmp 4] Try.func146 (by kernel_rfl) (by kernel_rfl) (by kernel_rfl) (by kernel_rfl)
noncomputable def c147 : CT Try.prog Γb := CT.auto false 100 3 [] 147 Try.f147 (bodyOf Try.f147) false 6 [.tmp 2] Try.func147 (by kernel_rfl) (by kernel_rfl) (by kernel_rfl) (by kernel_rfl)
end S
def i6u2 : List Cel := [.int .i64, .int .i64, .int .i64, .int .i64, .int .i64, .int .i64, .int .u32, .int .u32]
def setOk (s : Int) : Bool := decide (bitI .andNot .u32 s 1023 = 0)
def g21 : List KC → AV
  | [.i s] => .sb (setOk s)
  | _ => .any
theorem run21 (s : Int) : bodyE (P := Try.prog) (Γ := Γb) [S.c146] Lno false 6 [.tmp 2] (bodyOf Try.f126) [.v (.int .u32 s)] [] =
  Tree.chk true
  (Tree.leaf
    {
      val :=
        AV.sb
          (bif false then false
          else
            bif
                !decide
                    (bitI BinOp.andNot IntKind.u32 s
                        (IntKind.u32.wrap
                          (IntKind.u32.wrap
                              ((1 : Int) *
                                (2 : Int) ^
                                  min
                                    (bif false then (0 : Int)
                                      else
                                        IntKind.i64.wrap (IntKind.i64.wrap ((3 : Int) * (3 : Int)) + (1 : Int))).toNat
                                    (32 : Nat)) -
                            (1 : Int))) =
                      (0 : Int)) then
              false
            else true),
      H := [] }) := by kernel_rfl
theorem gives21 (s : Int) : Gives (bodyE (P := Try.prog) (Γ := Γb) [S.c146] Lno false 6 [.tmp 2] (bodyOf Try.f126) [.v (.int .u32 s)] []) (.sb (setOk s)) := by
  refine Gives.of (run21 s) ?_
  simp only [Tree.sat_chk, Tree.sat_leaf, LeH_nil, and_true, le_sbsb]
  refine ⟨trivial, ?_⟩
  have e : (IntKind.u32.wrap (IntKind.u32.wrap ((1 : Int) * (2 : Int) ^ min (bif false then (0 : Int) else IntKind.i64.wrap (IntKind.i64.wrap ((3 : Int) * (3 : Int)) + (1 : Int))).toNat (32 : Nat)) - (1 : Int))) = 1023 := by kernel_rfl
  rw [e]
  unfold setOk
  cases decide (bitI BinOp.andNot IntKind.u32 s 1023 = 0) <;> rfl
theorem fit1 {c : Cel} {l : List KC} (h : kFit [c] l = true) : ∃ x, l = [x] ∧ kcFit c x = true := by
  match l, h with
  | [x], h => simp only [kFit, Bool.and_true] at h; exact ⟨x, rfl, h⟩
  | [], h => simp [kFit] at h
  | _ :: _ :: _, h => simp [kFit] at h
noncomputable def Z.c126 : CT Try.prog Γb := CT.fun 126 Try.f126 (bodyOf Try.f126) [S.c146] Lno false 6 [.tmp 2] [.c (.int .u32)] (fun _ => true) g21 Try.func126 (by kernel_rfl) (by kernel_rfl) (by kernel_rfl) (by kernel_rfl) (by decide) (noLoops (by kernel_rfl))
  (fun l h _ => by
    obtain ⟨x, rfl, hx⟩ := fit1 h
    cases x <;> simp [kcFit] at hx
    exact gives21 _)
theorem run7 (k b v r h a s c : Int) : bodyE (P := Try.prog) (Γ := Γb) [S.c125, Z.c126] Lno false 72 [.tmp 2] (bodyOf Try.f93) [.agg [.v (.int .i64 k), .v (.int .i64 b), .v (.int .i64 v), .v (.int .i64 r), .v (.int .i64 h), .v (.int .i64 a), .v (.int .u32 s), .v (.int .u32 c)]] [] =
  Tree.chk
  (bif bif decide ((1 : Int) ≤ b) then decide (b ≤ (2147483647 : Int)) else false then
    bif bif decide ((1 : Int) ≤ v) then decide (v ≤ (1048576 : Int)) else false then
      bif bif decide ((1 : Int) ≤ r) then decide (r ≤ (1073741824 : Int)) else false then
        bif !decide (s = (0 : Int)) then true else true
      else true
    else true
  else true)
  (Tree.br (decide (k = (0 : Int)))
    (Tree.br
      (!(decide (k = (0 : Int)) &&
          (decide (b = (0 : Int)) &&
            (decide (v = (0 : Int)) &&
              (decide (r = (0 : Int)) &&
                (decide (h = (0 : Int)) &&
                  (decide (a = (0 : Int)) && (decide (s = (0 : Int)) && decide (c = (0 : Int))))))))))
      (Tree.leaf { val := AV.v (Value.int IntKind.i64 (110 : Int)), H := [] })
      (Tree.leaf { val := AV.v (Value.int IntKind.i64 (0 : Int)), H := [] }))
    (Tree.br (decide (k = (1 : Int)))
      (Tree.br
        (!bif
              bif bif decide ((1 : Int) ≤ b) then decide (b ≤ (2147483647 : Int)) else false then
                bif bif decide ((1 : Int) ≤ v) then decide (v ≤ (1048576 : Int)) else false then
                  bif bif decide ((1 : Int) ≤ r) then decide (r ≤ (1073741824 : Int)) else false then
                    bif !decide (s = (0 : Int)) then setOk s else false
                  else false
                else false
              else false then
            bif decide (h = (0 : Int)) then bif decide (a = (0 : Int)) then decide (c = (0 : Int)) else false else false
          else false)
        (Tree.leaf { val := AV.v (Value.int IntKind.i64 (110 : Int)), H := [] })
        (Tree.leaf { val := AV.v (Value.int IntKind.i64 (0 : Int)), H := [] }))
      (Tree.br (decide (k = (2 : Int)))
        (Tree.chk
          (bif
              bif bif decide ((1 : Int) ≤ b) then decide (b ≤ (2147483647 : Int)) else false then
                bif bif decide ((1 : Int) ≤ v) then decide (v ≤ (1048576 : Int)) else false then
                  bif bif decide ((1 : Int) ≤ r) then decide (r ≤ (1073741824 : Int)) else false then
                    bif !decide (s = (0 : Int)) then setOk s else false
                  else false
                else false
              else false then
            bif bif decide ((1 : Int) ≤ h) then decide (h ≤ (3 : Int)) else false then
              bif bif decide ((0 : Int) ≤ a) then decide (a ≤ (9 : Int)) else false then true else true
            else true
          else true)
          (Tree.br
            (!bif
                  bif bif decide ((1 : Int) ≤ b) then decide (b ≤ (2147483647 : Int)) else false then
                    bif bif decide ((1 : Int) ≤ v) then decide (v ≤ (1048576 : Int)) else false then
                      bif bif decide ((1 : Int) ≤ r) then decide (r ≤ (1073741824 : Int)) else false then
                        bif !decide (s = (0 : Int)) then setOk s else false
                      else false
                    else false
                  else false then
                bif bif decide ((1 : Int) ≤ h) then decide (h ≤ (3 : Int)) else false then
                  bif bif decide ((0 : Int) ≤ a) then decide (a ≤ (9 : Int)) else false then setOk c else false
                else false
              else false)
            (Tree.leaf { val := AV.v (Value.int IntKind.i64 (110 : Int)), H := [] })
            (Tree.leaf { val := AV.v (Value.int IntKind.i64 (0 : Int)), H := [] })))
        (Tree.leaf { val := AV.v (Value.int IntKind.i64 (110 : Int)), H := [] })))) := by kernel_rfl
theorem run22 (k b v r h a s c : Int) : bodyE (P := Try.prog) (Γ := Γb) [] Lno false 13 [.cell 2 165] (bodyOf Try.f98) [.agg [.v (.int .i64 k), .v (.int .i64 b), .v (.int .i64 v), .v (.int .i64 r), .v (.int .i64 h), .v (.int .i64 a), .v (.int .u32 s), .v (.int .u32 c)]] [] =
  Tree.br (decide (k = (2 : Int)))
  (Tree.leaf
    {
      val :=
        AV.agg
          [AV.v (Value.int IntKind.i64 (bif true then v else bif false then (1 : Int) else bif false then r else v)),
            AV.v (Value.int IntKind.i64 (bif false then v else bif true then (1 : Int) else bif false then r else v)),
            AV.v (Value.int IntKind.i64 (bif false then v else bif false then (1 : Int) else bif true then r else v))],
      H := [] })
  (Tree.leaf
    {
      val :=
        AV.agg
          [AV.v (Value.int IntKind.i64 (bif true then v else bif false then (0 : Int) else bif false then r else v)),
            AV.v (Value.int IntKind.i64 (bif false then v else bif true then (0 : Int) else bif false then r else v)),
            AV.v (Value.int IntKind.i64 (bif false then v else bif false then (0 : Int) else bif true then r else v))],
      H := [] }) := by kernel_rfl

def cmpI (a b : Int) : Int := if a < b then -1 else if b < a then 1 else 0
theorem run33 (a b : Int) : bodyE (P := Try.prog) (Γ := Γb) [S.c147] Lno false 20 [.tmp 4] (bodyOf Try.f127) [.v (.int .i64 a), .v (.int .i64 b)] [] =
  Tree.br (!decide (a = a))
  (Tree.br (!decide (b = b)) (Tree.leaf { val := AV.v (Value.int IntKind.i64 (0 : Int)), H := [] })
    (Tree.leaf { val := AV.v (Value.int IntKind.i64 (-1 : Int)), H := [] }))
  (Tree.br (!decide (b = b)) (Tree.leaf { val := AV.v (Value.int IntKind.i64 (1 : Int)), H := [] })
    (Tree.br (decide (a < b)) (Tree.leaf { val := AV.v (Value.int IntKind.i64 (-1 : Int)), H := [] })
      (Tree.br (decide (b < a)) (Tree.leaf { val := AV.v (Value.int IntKind.i64 (1 : Int)), H := [] })
        (Tree.leaf { val := AV.v (Value.int IntKind.i64 (0 : Int)), H := [] })))) := by kernel_rfl
theorem gives33 (a b : Int) : Gives (bodyE (P := Try.prog) (Γ := Γb) [S.c147] Lno false 20 [.tmp 4] (bodyOf Try.f127) [.v (.int .i64 a), .v (.int .i64 b)] []) (.v (.int .i64 (cmpI a b))) := by
  refine Gives.of (run33 a b) ?_
  unfold cmpI
  by_cases h1 : a < b
  · simp [Tree.sat, h1, le_int]
  · by_cases h2 : b < a <;> simp [Tree.sat, h1, h2, le_int]
noncomputable def Z.c127 : CT Try.prog Γb := CT.val2 127 Try.f127 (bodyOf Try.f127) [S.c147] Lno false 20 [.tmp 4] .i64 .i64 (fun _ _ => true) (fun a b => .v (.int .i64 (cmpI a b))) Try.func127 (by kernel_rfl) (by kernel_rfl) (by kernel_rfl) (by kernel_rfl) (by decide) (noLoops (by kernel_rfl)) (fun a b _ => gives33 a b)
noncomputable def Z.c99 : CT Try.prog Γb := CT.auto false 4 1 [Z.c127] 99 Try.f99 (bodyOf Try.f99) false 36 [.tmp 4] Try.func99 (by kernel_rfl) (by kernel_rfl) (by kernel_rfl) (by kernel_rfl)
structure Ct where
  k : Int
  b : Int
  v : Int
  r : Int
  h : Int
  a : Int
  s : Int
  c : Int
def Ct.av (x : Ct) : AV := .agg [.v (.int .i64 x.k), .v (.int .i64 x.b), .v (.int .i64 x.v), .v (.int .i64 x.r), .v (.int .i64 x.h), .v (.int .i64 x.a), .v (.int .u32 x.s), .v (.int .u32 x.c)]
theorem fitCt {l : List KC} (h : kFit i6u2 l = true) : ∃ x : Ct, l = [.i x.k, .i x.b, .i x.v, .i x.r, .i x.h, .i x.a, .i x.s, .i x.c] := by
  unfold i6u2 at h
  match l, h with
  | [.i k, .i b, .i v, .i r, .i h, .i a, .i s, .i c], _ => exact ⟨⟨k, b, v, r, h, a, s, c⟩, rfl⟩
theorem fitCt2 {l : List KC} (h : kFit (i6u2 ++ i6u2) l = true) : ∃ x y : Ct, l = [.i x.k, .i x.b, .i x.v, .i x.r, .i x.h, .i x.a, .i x.s, .i x.c, .i y.k, .i y.b, .i y.v, .i y.r, .i y.h, .i y.a, .i y.s, .i y.c] := by
  unfold i6u2 at h
  match l, h with
  | [.i k, .i b, .i v, .i r, .i h, .i a, .i s, .i c, .i k', .i b', .i v', .i r', .i h', .i a', .i s', .i c'], _ => exact ⟨⟨k, b, v, r, h, a, s, c⟩, ⟨k', b', v', r', h', a', s', c'⟩, rfl⟩
def g22 : List KC → AV
  | [.i k, .i _, .i v, .i r, .i _, .i _, .i _, .i _] => .agg [.v (.int .i64 v), .v (.int .i64 (bif decide (k = 2) then 1 else 0)), .v (.int .i64 r)]
  | _ => .any
theorem gives22 (x : Ct) : Gives (bodyE (P := Try.prog) (Γ := Γb) [] Lno false 13 [.cell 2 165] (bodyOf Try.f98) [x.av] []) (.agg [.v (.int .i64 x.v), .v (.int .i64 (bif decide (x.k = 2) then 1 else 0)), .v (.int .i64 x.r)]) := by
  refine Gives.of (run22 x.k x.b x.v x.r x.h x.a x.s x.c) ?_
  by_cases h : x.k = 2
  · rw [decide_eq_true h]; exact ⟨fun _ => ⟨.refl _, trivial⟩, fun h => by simp at h⟩
  · rw [decide_eq_false h]; exact ⟨fun h => by simp at h, fun _ => ⟨.refl _, trivial⟩⟩
noncomputable def Z.c98 : CT Try.prog Γb := CT.fun 98 Try.f98 (bodyOf Try.f98) [] Lno false 13 [.cell 2 165] [.a i6u2] (fun _ => true) g22 Try.func98 (by kernel_rfl) (by kernel_rfl) (by kernel_rfl) (by kernel_rfl) (by decide) (noLoops (by kernel_rfl))
  (fun l h _ => by
    obtain ⟨x, rfl⟩ := fitCt h
    exact gives22 x)
def Ct.wf (x : Ct) : Bool := decide (1 ≤ x.b) && decide (x.b ≤ 2147483647) && decide (1 ≤ x.v) && decide (x.v ≤ 1048576) && decide (1 ≤ x.r) && decide (x.r ≤ 1073741824) && !decide (x.s = 0) && setOk x.s
def Ct.ok (x : Ct) : Bool := bif decide (x.k = 0) then decide (x.b = 0) && decide (x.v = 0) && decide (x.r = 0) && decide (x.h = 0) && decide (x.a = 0) && decide (x.s = 0) && decide (x.c = 0)
  else bif decide (x.k = 1) then x.wf && decide (x.h = 0) && decide (x.a = 0) && decide (x.c = 0)
  else bif decide (x.k = 2) then x.wf && decide (1 ≤ x.h) && decide (x.h ≤ 3) && decide (0 ≤ x.a) && decide (x.a ≤ 9) && setOk x.c else false
def g7 : List KC → AV
  | [.i k, .i b, .i v, .i r, .i h, .i a, .i s, .i c] => .v (.int .i64 (bif Ct.ok ⟨k, b, v, r, h, a, s, c⟩ then 0 else 110))
  | _ => .any
theorem gives7 (x : Ct) : Gives (bodyE (P := Try.prog) (Γ := Γb) [S.c125, Z.c126] Lno false 72 [.tmp 2] (bodyOf Try.f93) [x.av] []) (.v (.int .i64 (bif x.ok then 0 else 110))) := by
  refine Gives.of (run7 x.k x.b x.v x.r x.h x.a x.s x.c) ?_
  obtain ⟨k, b, v, r, h, a, s, c⟩ := x
  simp only [Ct.ok, Ct.wf]
  generalize setOk s = S
  generalize setOk c = C
  by_cases k0 : k = 0
  · subst k0
    simp only [decide_true, Tree.sat_chk, Tree.sat_br, Tree.sat_leaf, le_int, LeH_nil, and_true, true_and, cond_true]
    refine ⟨by grind, ?_⟩
    grind
  · by_cases k1 : k = 1
    · subst k1
      simp only [decide_true, Tree.sat_chk, Tree.sat_br, Tree.sat_leaf, le_int, LeH_nil, and_true, true_and, cond_true]
      grind
    · by_cases k2 : k = 2
      · subst k2
        simp only [decide_true, Tree.sat_chk, Tree.sat_br, Tree.sat_leaf, le_int, LeH_nil, and_true, true_and, cond_true]
        grind
      · rw [decide_eq_false k0, decide_eq_false k1, decide_eq_false k2]
        simp only [Tree.sat_chk, Tree.sat_br, Tree.sat_leaf, le_int, LeH_nil, and_true, true_and, cond_true, cond_false]
        grind
noncomputable def Z.c93 : CT Try.prog Γb := CT.fun 93 Try.f93 (bodyOf Try.f93) [S.c125, Z.c126] Lno false 72 [.tmp 2] [.a i6u2] (fun _ => true) g7 Try.func93 (by kernel_rfl) (by kernel_rfl) (by kernel_rfl) (by kernel_rfl) (by decide) (noLoops (by kernel_rfl))
  (fun l h _ => by
    obtain ⟨x, rfl⟩ := fitCt h
    exact gives7 x)
end Go.Eng.SB

namespace Go.Eng.SB
open Go Go.Eng Go.Proofs
def Ct.cls (x : Ct) : Int := bif decide (x.k = 2) then 1 else 0
def Ct.cmp (x y : Ct) : Int := bif decide (cmpI x.v y.v = 0) then (bif decide (cmpI x.cls y.cls = 0) then cmpI x.r y.r else cmpI x.cls y.cls) else cmpI x.v y.v
def g10 : List KC → AV
  | [.i k, .i b, .i v, .i r, .i h, .i a, .i s, .i c, .i k', .i b', .i v', .i r', .i h', .i a', .i s', .i c'] => .v (.int .i64 (Ct.cmp ⟨k, b, v, r, h, a, s, c⟩ ⟨k', b', v', r', h', a', s', c'⟩))
  | _ => .any
theorem run10 (x y : Ct) : bodyE (P := Try.prog) (Γ := Γb) [Z.c98, Z.c99] Lno false 14 [.tmp 4] (bodyOf Try.f45) [x.av, y.av] [] =
  Tree.chk true (Tree.chk true (Tree.chk true (Tree.chk true (Tree.br true (Tree.chk true (Tree.br false (Tree.leaf (Ans.mk (AV.v (Value.int IntKind.i64 (1 : Int))) [])) (Tree.chk true
    (Tree.chk true (Tree.br (!decide (cmpI x.v y.v = (0 : Int))) (Tree.leaf (Ans.mk (AV.v (Value.int IntKind.i64 (cmpI x.v y.v))) [])) (Tree.br true (Tree.chk true (Tree.br false (Tree.leaf
    (Ans.mk (AV.v (Value.int IntKind.i64 (1 : Int))) [])) (Tree.chk true (Tree.chk true (Tree.br (!decide (cmpI (bif decide (x.k = (2 : Int)) then (1 : Int) else (0 : Int)) (bif decide (y.k
    = (2 : Int)) then (1 : Int) else (0 : Int)) = (0 : Int))) (Tree.leaf (Ans.mk (AV.v (Value.int IntKind.i64 (cmpI (bif decide (x.k = (2 : Int)) then (1 : Int) else (0 : Int)) (bif decide
    (y.k = (2 : Int)) then (1 : Int) else (0 : Int))))) [])) (Tree.br true (Tree.chk true (Tree.br false (Tree.leaf (Ans.mk (AV.v (Value.int IntKind.i64 (1 : Int))) [])) (Tree.chk true
    (Tree.chk true (Tree.br (!decide (cmpI x.r y.r = (0 : Int))) (Tree.leaf (Ans.mk (AV.v (Value.int IntKind.i64 (cmpI x.r y.r))) [])) (Tree.br false (Tree.chk false (Tree.br true (Tree.leaf
    (Ans.mk (AV.v (Value.int IntKind.i64 (1 : Int))) [])) (Tree.chk false (Tree.chk true (Tree.br (!decide (cmpI x.v y.v = (0 : Int))) (Tree.leaf (Ans.mk (AV.v (Value.int IntKind.i64 (cmpI
    x.v y.v))) [])) Tree.fail))))) (Tree.br false (Tree.leaf (Ans.mk (AV.v (Value.int IntKind.i64 (-1 : Int))) [])) (Tree.leaf (Ans.mk (AV.v (Value.int IntKind.i64 (0 : Int))) [])))))))))
    (Tree.br false (Tree.leaf (Ans.mk (AV.v (Value.int IntKind.i64 (-1 : Int))) [])) (Tree.leaf (Ans.mk (AV.v (Value.int IntKind.i64 (0 : Int))) []))))))))) (Tree.br false (Tree.leaf (Ans.mk
    (AV.v (Value.int IntKind.i64 (-1 : Int))) [])) (Tree.leaf (Ans.mk (AV.v (Value.int IntKind.i64 (0 : Int))) []))))))))) (Tree.br false (Tree.leaf (Ans.mk (AV.v (Value.int IntKind.i64 (-1
    : Int))) [])) (Tree.leaf (Ans.mk (AV.v (Value.int IntKind.i64 (0 : Int))) []))))))) := by kernel_rfl
theorem gives10 (x y : Ct) : Gives (bodyE (P := Try.prog) (Γ := Γb) [Z.c98, Z.c99] Lno false 14 [.tmp 4] (bodyOf Try.f45) [x.av, y.av] []) (.v (.int .i64 (x.cmp y))) := by
  refine Gives.of (run10 x y) ?_
  simp only [Ct.cmp, Ct.cls, cond_true, cond_false, Tree.sat_chk, Tree.sat_br, Tree.sat_leaf, le_int, LeH_nil, and_true, true_and]
  grind
noncomputable def Z.c45 : CT Try.prog Γb := CT.fun 45 Try.f45 (bodyOf Try.f45) [Z.c98, Z.c99] Lno false 14 [.tmp 4] [.a i6u2, .a i6u2] (fun _ => true) g10 Try.func45 (by kernel_rfl) (by kernel_rfl) (by kernel_rfl) (by kernel_rfl) (by decide) (noLoops (by kernel_rfl))
  (fun l h _ => by
    obtain ⟨x, y, rfl⟩ := fitCt2 h
    exact gives10 x y)
end Go.Eng.SB

namespace Go.Eng.SB
open Go Go.Eng Go.Proofs
def gC (x : Ct) : Nat → Int
  | 0 => x.k
  | 1 => x.b
  | 2 => x.v
  | 3 => x.r
  | 4 => x.s
  | 5 => x.h
  | 6 => x.a
  | _ => x.c
theorem ansNumsH (m : Nat) (g : Nat → Int) (h : (NA.hs (m + 1) g).ok) : Answers Try.prog Γb 82 [.hs 0 0 (m + 1)] [.arr 1 (m + 1) (i64F g)] (.tup [.hs 1 0 (catN g (m + 1)).size, .v (.int .i64 0)]) [some (.arr 1 (m + 1) (i64F g))] [.arr 1 (catN g (m + 1)).size (bsF (catN g (m + 1)))] := ansNums (.hs (m + 1) g) h
theorem runB0 (x : Ct) (hl : (NA.hs (0 + 1) (gC x)).ok) : bodyE (P := Try.prog) (Γ := Γb) [Z.c93, CT.at 82 (ansNumsH 0 (gC x) hl)] Lno false 46 [.tmp 2, .tmp 3] (bodyOf Try.f41) [x.av] [] =
  Tree.chk true (Tree.br (!decide ((bif Ct.ok (Ct.mk x.k x.b x.v x.r x.h x.a x.s x.c) then (0 : Int) else (110 : Int)) = (0 : Int))) (Tree.leaf (Ans.mk (AV.tup [AV.v (Value.slice none (0 :
    Nat) (0 : Nat)), AV.v (Value.int IntKind.i64 (bif Ct.ok (Ct.mk x.k x.b x.v x.r x.h x.a x.s x.c) then (0 : Int) else (110 : Int)))]) [])) (Tree.br (!decide (x.k = (0 : Int))) (Tree.chk
    true (Tree.br (decide (x.k = (2 : Int))) (Tree.chk true (Tree.chk (cl (LeL [AV.hs (0 : Nat) (0 : Nat) (8 : Nat)] [AV.hs (0 : Nat) (0 : Nat) (1 : Nat)] ∧ LeH [some (Blk.arr (1 : Nat) (8 :
    Nat) fun j => mixL (decide (j < (5 : Nat))) (mixL (decide ((0 : Nat) + j < (1 : Nat))) (chain [AV.v (Value.int IntKind.i64 (0 : Int))] (0 : Nat) [[AV.v (Value.int IntKind.i64 x.k)]] ((0
    : Nat) + ((0 : Nat) + j))) (chain [AV.v (Value.int IntKind.i64 (0 : Int))] (0 : Nat) [[AV.v (Value.int IntKind.i64 x.b)], [AV.v (Value.int IntKind.i64 x.v)], [AV.v (Value.int IntKind.i64
    x.r)], [AV.v (Value.int IntKind.i64 (IntKind.wrap IntKind.i64 x.s))]] ((0 : Nat) + ((0 : Nat) + j - (1 : Nat))))) (chain [AV.v (Value.int IntKind.i64 (0 : Int))] (0 : Nat) [[AV.v
    (Value.int IntKind.i64 x.h)], [AV.v (Value.int IntKind.i64 x.a)], [AV.v (Value.int IntKind.i64 (IntKind.wrap IntKind.i64 x.c))]] ((0 : Nat) + (j - (5 : Nat)))))] [some (Blk.arr (1 : Nat)
    (1 : Nat) fun j => [AV.v (Value.int IntKind.i64 (gC x j))])])) (Tree.leaf (Ans.mk (AV.tup [AV.hs (0 : Nat) (0 : Nat) (ByteArray.size (catN (gC x) (1 : Nat))), AV.v (Value.int IntKind.i64
    (0 : Int))]) [some (Blk.arr (1 : Nat) (ByteArray.size (catN (gC x) (1 : Nat))) fun j => [AV.v (Value.int IntKind.u8 (sbyte (catN (gC x) (1 : Nat)) j))])])))) (Tree.chk (cl (LeL [AV.hs (0
    : Nat) (0 : Nat) (5 : Nat)] [AV.hs (0 : Nat) (0 : Nat) (1 : Nat)] ∧ LeH [some (Blk.arr (1 : Nat) (5 : Nat) fun j => mixL (decide (j < (1 : Nat))) (chain [AV.v (Value.int IntKind.i64 (0 :
    Int))] (0 : Nat) [[AV.v (Value.int IntKind.i64 x.k)]] ((0 : Nat) + j)) (chain [AV.v (Value.int IntKind.i64 (0 : Int))] (0 : Nat) [[AV.v (Value.int IntKind.i64 x.b)], [AV.v (Value.int
    IntKind.i64 x.v)], [AV.v (Value.int IntKind.i64 x.r)], [AV.v (Value.int IntKind.i64 (IntKind.wrap IntKind.i64 x.s))]] ((0 : Nat) + (j - (1 : Nat)))))] [some (Blk.arr (1 : Nat) (1 : Nat)
    fun j => [AV.v (Value.int IntKind.i64 (gC x j))])])) (Tree.leaf (Ans.mk (AV.tup [AV.hs (0 : Nat) (0 : Nat) (ByteArray.size (catN (gC x) (1 : Nat))), AV.v (Value.int IntKind.i64 (0 :
    Int))]) [some (Blk.arr (1 : Nat) (ByteArray.size (catN (gC x) (1 : Nat))) fun j => [AV.v (Value.int IntKind.u8 (sbyte (catN (gC x) (1 : Nat)) j))])]))))) (Tree.br (decide (x.k = (2 :
    Int))) (Tree.chk true (Tree.chk (cl (LeL [AV.hs (0 : Nat) (0 : Nat) (4 : Nat)] [AV.hs (0 : Nat) (0 : Nat) (1 : Nat)] ∧ LeH [some (Blk.arr (1 : Nat) (4 : Nat) fun j => mixL (decide (j <
    (1 : Nat))) (chain [AV.v (Value.int IntKind.i64 (0 : Int))] (0 : Nat) [[AV.v (Value.int IntKind.i64 x.k)]] ((0 : Nat) + j)) (chain [AV.v (Value.int IntKind.i64 (0 : Int))] (0 : Nat)
    [[AV.v (Value.int IntKind.i64 x.h)], [AV.v (Value.int IntKind.i64 x.a)], [AV.v (Value.int IntKind.i64 (IntKind.wrap IntKind.i64 x.c))]] ((0 : Nat) + (j - (1 : Nat)))))] [some (Blk.arr (1
    : Nat) (1 : Nat) fun j => [AV.v (Value.int IntKind.i64 (gC x j))])])) (Tree.leaf (Ans.mk (AV.tup [AV.hs (0 : Nat) (0 : Nat) (ByteArray.size (catN (gC x) (1 : Nat))), AV.v (Value.int
    IntKind.i64 (0 : Int))]) [some (Blk.arr (1 : Nat) (ByteArray.size (catN (gC x) (1 : Nat))) fun j => [AV.v (Value.int IntKind.u8 (sbyte (catN (gC x) (1 : Nat)) j))])])))) (Tree.chk (cl
    (LeL [AV.hs (0 : Nat) (0 : Nat) (1 : Nat)] [AV.hs (0 : Nat) (0 : Nat) (1 : Nat)] ∧ LeH [some (Blk.arr (1 : Nat) (1 : Nat) fun x_1 => [AV.v (Value.int IntKind.i64 (bif Nat.beq x_1 (0 :
    Nat) then x.k else (0 : Int)))])] [some (Blk.arr (1 : Nat) (1 : Nat) fun j => [AV.v (Value.int IntKind.i64 (gC x j))])])) (Tree.leaf (Ans.mk (AV.tup [AV.hs (0 : Nat) (0 : Nat)
    (ByteArray.size (catN (gC x) (1 : Nat))), AV.v (Value.int IntKind.i64 (0 : Int))]) [some (Blk.arr (1 : Nat) (ByteArray.size (catN (gC x) (1 : Nat))) fun j => [AV.v (Value.int IntKind.u8
    (sbyte (catN (gC x) (1 : Nat)) j))])])))))) := by kernel_rfl
theorem runB4 (x : Ct) (hl : (NA.hs (4 + 1) (gC x)).ok) : bodyE (P := Try.prog) (Γ := Γb) [Z.c93, CT.at 82 (ansNumsH 4 (gC x) hl)] Lno false 46 [.tmp 2, .tmp 3] (bodyOf Try.f41) [x.av] [] =
  Tree.chk true (Tree.br (!decide ((bif Ct.ok (Ct.mk x.k x.b x.v x.r x.h x.a x.s x.c) then (0 : Int) else (110 : Int)) = (0 : Int))) (Tree.leaf (Ans.mk (AV.tup [AV.v (Value.slice none (0 :
    Nat) (0 : Nat)), AV.v (Value.int IntKind.i64 (bif Ct.ok (Ct.mk x.k x.b x.v x.r x.h x.a x.s x.c) then (0 : Int) else (110 : Int)))]) [])) (Tree.br (!decide (x.k = (0 : Int))) (Tree.chk
    true (Tree.br (decide (x.k = (2 : Int))) (Tree.chk true (Tree.chk (cl (LeL [AV.hs (0 : Nat) (0 : Nat) (8 : Nat)] [AV.hs (0 : Nat) (0 : Nat) (5 : Nat)] ∧ LeH [some (Blk.arr (1 : Nat) (8 :
    Nat) fun j => mixL (decide (j < (5 : Nat))) (mixL (decide ((0 : Nat) + j < (1 : Nat))) (chain [AV.v (Value.int IntKind.i64 (0 : Int))] (0 : Nat) [[AV.v (Value.int IntKind.i64 x.k)]] ((0
    : Nat) + ((0 : Nat) + j))) (chain [AV.v (Value.int IntKind.i64 (0 : Int))] (0 : Nat) [[AV.v (Value.int IntKind.i64 x.b)], [AV.v (Value.int IntKind.i64 x.v)], [AV.v (Value.int IntKind.i64
    x.r)], [AV.v (Value.int IntKind.i64 (IntKind.wrap IntKind.i64 x.s))]] ((0 : Nat) + ((0 : Nat) + j - (1 : Nat))))) (chain [AV.v (Value.int IntKind.i64 (0 : Int))] (0 : Nat) [[AV.v
    (Value.int IntKind.i64 x.h)], [AV.v (Value.int IntKind.i64 x.a)], [AV.v (Value.int IntKind.i64 (IntKind.wrap IntKind.i64 x.c))]] ((0 : Nat) + (j - (5 : Nat)))))] [some (Blk.arr (1 : Nat)
    (5 : Nat) fun j => [AV.v (Value.int IntKind.i64 (gC x j))])])) (Tree.leaf (Ans.mk (AV.tup [AV.hs (0 : Nat) (0 : Nat) (ByteArray.size (catN (gC x) (5 : Nat))), AV.v (Value.int IntKind.i64
    (0 : Int))]) [some (Blk.arr (1 : Nat) (ByteArray.size (catN (gC x) (5 : Nat))) fun j => [AV.v (Value.int IntKind.u8 (sbyte (catN (gC x) (5 : Nat)) j))])])))) (Tree.chk (cl (LeL [AV.hs (0
    : Nat) (0 : Nat) (5 : Nat)] [AV.hs (0 : Nat) (0 : Nat) (5 : Nat)] ∧ LeH [some (Blk.arr (1 : Nat) (5 : Nat) fun j => mixL (decide (j < (1 : Nat))) (chain [AV.v (Value.int IntKind.i64 (0 :
    Int))] (0 : Nat) [[AV.v (Value.int IntKind.i64 x.k)]] ((0 : Nat) + j)) (chain [AV.v (Value.int IntKind.i64 (0 : Int))] (0 : Nat) [[AV.v (Value.int IntKind.i64 x.b)], [AV.v (Value.int
    IntKind.i64 x.v)], [AV.v (Value.int IntKind.i64 x.r)], [AV.v (Value.int IntKind.i64 (IntKind.wrap IntKind.i64 x.s))]] ((0 : Nat) + (j - (1 : Nat)))))] [some (Blk.arr (1 : Nat) (5 : Nat)
    fun j => [AV.v (Value.int IntKind.i64 (gC x j))])])) (Tree.leaf (Ans.mk (AV.tup [AV.hs (0 : Nat) (0 : Nat) (ByteArray.size (catN (gC x) (5 : Nat))), AV.v (Value.int IntKind.i64 (0 :
    Int))]) [some (Blk.arr (1 : Nat) (ByteArray.size (catN (gC x) (5 : Nat))) fun j => [AV.v (Value.int IntKind.u8 (sbyte (catN (gC x) (5 : Nat)) j))])]))))) (Tree.br (decide (x.k = (2 :
    Int))) (Tree.chk true (Tree.chk (cl (LeL [AV.hs (0 : Nat) (0 : Nat) (4 : Nat)] [AV.hs (0 : Nat) (0 : Nat) (5 : Nat)] ∧ LeH [some (Blk.arr (1 : Nat) (4 : Nat) fun j => mixL (decide (j <
    (1 : Nat))) (chain [AV.v (Value.int IntKind.i64 (0 : Int))] (0 : Nat) [[AV.v (Value.int IntKind.i64 x.k)]] ((0 : Nat) + j)) (chain [AV.v (Value.int IntKind.i64 (0 : Int))] (0 : Nat)
    [[AV.v (Value.int IntKind.i64 x.h)], [AV.v (Value.int IntKind.i64 x.a)], [AV.v (Value.int IntKind.i64 (IntKind.wrap IntKind.i64 x.c))]] ((0 : Nat) + (j - (1 : Nat)))))] [some (Blk.arr (1
    : Nat) (5 : Nat) fun j => [AV.v (Value.int IntKind.i64 (gC x j))])])) (Tree.leaf (Ans.mk (AV.tup [AV.hs (0 : Nat) (0 : Nat) (ByteArray.size (catN (gC x) (5 : Nat))), AV.v (Value.int
    IntKind.i64 (0 : Int))]) [some (Blk.arr (1 : Nat) (ByteArray.size (catN (gC x) (5 : Nat))) fun j => [AV.v (Value.int IntKind.u8 (sbyte (catN (gC x) (5 : Nat)) j))])])))) (Tree.chk (cl
    (LeL [AV.hs (0 : Nat) (0 : Nat) (1 : Nat)] [AV.hs (0 : Nat) (0 : Nat) (5 : Nat)] ∧ LeH [some (Blk.arr (1 : Nat) (1 : Nat) fun x_1 => [AV.v (Value.int IntKind.i64 (bif Nat.beq x_1 (0 :
    Nat) then x.k else (0 : Int)))])] [some (Blk.arr (1 : Nat) (5 : Nat) fun j => [AV.v (Value.int IntKind.i64 (gC x j))])])) (Tree.leaf (Ans.mk (AV.tup [AV.hs (0 : Nat) (0 : Nat)
    (ByteArray.size (catN (gC x) (5 : Nat))), AV.v (Value.int IntKind.i64 (0 : Int))]) [some (Blk.arr (1 : Nat) (ByteArray.size (catN (gC x) (5 : Nat))) fun j => [AV.v (Value.int IntKind.u8
    (sbyte (catN (gC x) (5 : Nat)) j))])])))))) := by kernel_rfl
theorem runB7 (x : Ct) (hl : (NA.hs (7 + 1) (gC x)).ok) : bodyE (P := Try.prog) (Γ := Γb) [Z.c93, CT.at 82 (ansNumsH 7 (gC x) hl)] Lno false 46 [.tmp 2, .tmp 3] (bodyOf Try.f41) [x.av] [] =
  Tree.chk true (Tree.br (!decide ((bif Ct.ok (Ct.mk x.k x.b x.v x.r x.h x.a x.s x.c) then (0 : Int) else (110 : Int)) = (0 : Int))) (Tree.leaf (Ans.mk (AV.tup [AV.v (Value.slice none (0 :
    Nat) (0 : Nat)), AV.v (Value.int IntKind.i64 (bif Ct.ok (Ct.mk x.k x.b x.v x.r x.h x.a x.s x.c) then (0 : Int) else (110 : Int)))]) [])) (Tree.br (!decide (x.k = (0 : Int))) (Tree.chk
    true (Tree.br (decide (x.k = (2 : Int))) (Tree.chk true (Tree.chk (cl (LeL [AV.hs (0 : Nat) (0 : Nat) (8 : Nat)] [AV.hs (0 : Nat) (0 : Nat) (8 : Nat)] ∧ LeH [some (Blk.arr (1 : Nat) (8 :
    Nat) fun j => mixL (decide (j < (5 : Nat))) (mixL (decide ((0 : Nat) + j < (1 : Nat))) (chain [AV.v (Value.int IntKind.i64 (0 : Int))] (0 : Nat) [[AV.v (Value.int IntKind.i64 x.k)]] ((0
    : Nat) + ((0 : Nat) + j))) (chain [AV.v (Value.int IntKind.i64 (0 : Int))] (0 : Nat) [[AV.v (Value.int IntKind.i64 x.b)], [AV.v (Value.int IntKind.i64 x.v)], [AV.v (Value.int IntKind.i64
    x.r)], [AV.v (Value.int IntKind.i64 (IntKind.wrap IntKind.i64 x.s))]] ((0 : Nat) + ((0 : Nat) + j - (1 : Nat))))) (chain [AV.v (Value.int IntKind.i64 (0 : Int))] (0 : Nat) [[AV.v
    (Value.int IntKind.i64 x.h)], [AV.v (Value.int IntKind.i64 x.a)], [AV.v (Value.int IntKind.i64 (IntKind.wrap IntKind.i64 x.c))]] ((0 : Nat) + (j - (5 : Nat)))))] [some (Blk.arr (1 : Nat)
    (8 : Nat) fun j => [AV.v (Value.int IntKind.i64 (gC x j))])])) (Tree.leaf (Ans.mk (AV.tup [AV.hs (0 : Nat) (0 : Nat) (ByteArray.size (catN (gC x) (8 : Nat))), AV.v (Value.int IntKind.i64
    (0 : Int))]) [some (Blk.arr (1 : Nat) (ByteArray.size (catN (gC x) (8 : Nat))) fun j => [AV.v (Value.int IntKind.u8 (sbyte (catN (gC x) (8 : Nat)) j))])])))) (Tree.chk (cl (LeL [AV.hs (0
    : Nat) (0 : Nat) (5 : Nat)] [AV.hs (0 : Nat) (0 : Nat) (8 : Nat)] ∧ LeH [some (Blk.arr (1 : Nat) (5 : Nat) fun j => mixL (decide (j < (1 : Nat))) (chain [AV.v (Value.int IntKind.i64 (0 :
    Int))] (0 : Nat) [[AV.v (Value.int IntKind.i64 x.k)]] ((0 : Nat) + j)) (chain [AV.v (Value.int IntKind.i64 (0 : Int))] (0 : Nat) [[AV.v (Value.int IntKind.i64 x.b)], [AV.v (Value.int
    IntKind.i64 x.v)], [AV.v (Value.int IntKind.i64 x.r)], [AV.v (Value.int IntKind.i64 (IntKind.wrap IntKind.i64 x.s))]] ((0 : Nat) + (j - (1 : Nat)))))] [some (Blk.arr (1 : Nat) (8 : Nat)
    fun j => [AV.v (Value.int IntKind.i64 (gC x j))])])) (Tree.leaf (Ans.mk (AV.tup [AV.hs (0 : Nat) (0 : Nat) (ByteArray.size (catN (gC x) (8 : Nat))), AV.v (Value.int IntKind.i64 (0 :
    Int))]) [some (Blk.arr (1 : Nat) (ByteArray.size (catN (gC x) (8 : Nat))) fun j => [AV.v (Value.int IntKind.u8 (sbyte (catN (gC x) (8 : Nat)) j))])]))))) (Tree.br (decide (x.k = (2 :
    Int))) (Tree.chk true (Tree.chk (cl (LeL [AV.hs (0 : Nat) (0 : Nat) (4 : Nat)] [AV.hs (0 : Nat) (0 : Nat) (8 : Nat)] ∧ LeH [some (Blk.arr (1 : Nat) (4 : Nat) fun j => mixL (decide (j <
    (1 : Nat))) (chain [AV.v (Value.int IntKind.i64 (0 : Int))] (0 : Nat) [[AV.v (Value.int IntKind.i64 x.k)]] ((0 : Nat) + j)) (chain [AV.v (Value.int IntKind.i64 (0 : Int))] (0 : Nat)
    [[AV.v (Value.int IntKind.i64 x.h)], [AV.v (Value.int IntKind.i64 x.a)], [AV.v (Value.int IntKind.i64 (IntKind.wrap IntKind.i64 x.c))]] ((0 : Nat) + (j - (1 : Nat)))))] [some (Blk.arr (1
    : Nat) (8 : Nat) fun j => [AV.v (Value.int IntKind.i64 (gC x j))])])) (Tree.leaf (Ans.mk (AV.tup [AV.hs (0 : Nat) (0 : Nat) (ByteArray.size (catN (gC x) (8 : Nat))), AV.v (Value.int
    IntKind.i64 (0 : Int))]) [some (Blk.arr (1 : Nat) (ByteArray.size (catN (gC x) (8 : Nat))) fun j => [AV.v (Value.int IntKind.u8 (sbyte (catN (gC x) (8 : Nat)) j))])])))) (Tree.chk (cl
    (LeL [AV.hs (0 : Nat) (0 : Nat) (1 : Nat)] [AV.hs (0 : Nat) (0 : Nat) (8 : Nat)] ∧ LeH [some (Blk.arr (1 : Nat) (1 : Nat) fun x_1 => [AV.v (Value.int IntKind.i64 (bif Nat.beq x_1 (0 :
    Nat) then x.k else (0 : Int)))])] [some (Blk.arr (1 : Nat) (8 : Nat) fun j => [AV.v (Value.int IntKind.i64 (gC x j))])])) (Tree.leaf (Ans.mk (AV.tup [AV.hs (0 : Nat) (0 : Nat)
    (ByteArray.size (catN (gC x) (8 : Nat))), AV.v (Value.int IntKind.i64 (0 : Int))]) [some (Blk.arr (1 : Nat) (ByteArray.size (catN (gC x) (8 : Nat))) fun j => [AV.v (Value.int IntKind.u8
    (sbyte (catN (gC x) (8 : Nat)) j))])])))))) := by kernel_rfl
theorem runBx (x : Ct) : bodyE (P := Try.prog) (Γ := Γb) [Z.c93] Lno false 46 [.tmp 2, .tmp 3] (bodyOf Try.f41) [x.av] [] =
  Tree.chk true (Tree.br (!decide ((bif Ct.ok (Ct.mk x.k x.b x.v x.r x.h x.a x.s x.c) then (0 : Int) else (110 : Int)) = (0 : Int))) (Tree.leaf (Ans.mk (AV.tup [AV.v (Value.slice none (0 :
    Nat) (0 : Nat)), AV.v (Value.int IntKind.i64 (bif Ct.ok (Ct.mk x.k x.b x.v x.r x.h x.a x.s x.c) then (0 : Int) else (110 : Int)))]) [])) (Tree.br (!decide (x.k = (0 : Int))) (Tree.chk
    true (Tree.br (decide (x.k = (2 : Int))) (Tree.chk true Tree.fail) Tree.fail)) (Tree.br (decide (x.k = (2 : Int))) (Tree.chk true Tree.fail) Tree.fail))) := by kernel_rfl
def Ct.wide (x : Ct) : Prop := 0 ≤ x.s ∧ x.s < 4294967296 ∧ 0 ≤ x.c ∧ x.c < 4294967296
theorem okN_le {n : Int} (h : 0 ≤ n) (h' : n ≤ 4611686018427387904) : okN n = true := by
  unfold okN; rw [decide_eq_true h, decide_eq_true h']; rfl
theorem ok_kinds {x : Ct} (h : x.ok = true) : x.k = 0 ∨ (x.k = 1 ∧ x.wf = true ∧ x.h = 0 ∧ x.a = 0 ∧ x.c = 0) ∨ (x.k = 2 ∧ x.wf = true ∧ 1 ≤ x.h ∧ x.h ≤ 3 ∧ 0 ≤ x.a ∧ x.a ≤ 9) := by
  unfold Ct.ok at h
  by_cases h0 : x.k = 0
  · exact .inl h0
  · rw [decide_eq_false h0] at h
    by_cases h1 : x.k = 1
    · rw [decide_eq_true h1] at h
      simp only [cond_true, cond_false, Bool.and_eq_true, decide_eq_true_eq] at h
      exact .inr (.inl ⟨h1, h.1.1.1, h.1.1.2, h.1.2, h.2⟩)
    · rw [decide_eq_false h1] at h
      by_cases h2 : x.k = 2
      · rw [decide_eq_true h2] at h
        simp only [cond_true, cond_false, Bool.and_eq_true, decide_eq_true_eq] at h
        exact .inr (.inr ⟨h2, h.1.1.1.1.1, h.1.1.1.1.2, h.1.1.1.2, h.1.1.2, h.1.2⟩)
      · rw [decide_eq_false h2] at h; simp at h
theorem wf_nums {x : Ct} (h : x.wf = true) : 1 ≤ x.b ∧ x.b ≤ 2147483647 ∧ 1 ≤ x.v ∧ x.v ≤ 1048576 ∧ 1 ≤ x.r ∧ x.r ≤ 1073741824 := by
  simp only [Ct.wf, Bool.and_eq_true, decide_eq_true_eq] at h
  exact ⟨h.1.1.1.1.1.1.1, h.1.1.1.1.1.1.2, h.1.1.1.1.1.2, h.1.1.1.1.2, h.1.1.1.2, h.1.1.2⟩
theorem na0 {x : Ct} (h : x.k = 0) : (NA.hs (0 + 1) (gC x)).ok := ⟨fun j hj => match j, hj with | 0, _ => okN_le (by show 0 ≤ x.k; omega) (by show x.k ≤ _; omega) | j + 1, h => absurd h (by show ¬ j + 1 < 0 + 1; omega), by show 0 + 1 ≤ 100000; omega, fun _ => by show 0 < 0 + 1; omega⟩
theorem na4 {x : Ct} (hx : x.wide) (h : x.k = 1) (hw : x.wf = true) : (NA.hs (4 + 1) (gC x)).ok := by
  obtain ⟨b1, b2, v1, v2, r1, r2⟩ := wf_nums hw
  obtain ⟨s1, s2, _, _⟩ := hx
  exact ⟨fun j hj => match j, hj with
    | 0, _ => okN_le (by show 0 ≤ x.k; omega) (by show x.k ≤ _; omega)
    | 1, _ => okN_le (by show 0 ≤ x.b; omega) (by show x.b ≤ _; omega)
    | 2, _ => okN_le (by show 0 ≤ x.v; omega) (by show x.v ≤ _; omega)
    | 3, _ => okN_le (by show 0 ≤ x.r; omega) (by show x.r ≤ _; omega)
    | 4, _ => okN_le (by show 0 ≤ x.s; omega) (by show x.s ≤ _; omega)
    | j + 5, h => absurd h (by show ¬ j + 5 < 4 + 1; omega), by show 4 + 1 ≤ 100000; omega, fun _ => by show 0 < 4 + 1; omega⟩
theorem na7 {x : Ct} (hx : x.wide) (h : x.k = 2) (hw : x.wf = true) (h1 : 1 ≤ x.h) (h2 : x.h ≤ 3) (h3 : 0 ≤ x.a) (h4 : x.a ≤ 9) : (NA.hs (7 + 1) (gC x)).ok := by
  obtain ⟨b1, b2, v1, v2, r1, r2⟩ := wf_nums hw
  obtain ⟨s1, s2, c1, c2⟩ := hx
  exact ⟨fun j hj => match j, hj with
    | 0, _ => okN_le (by show 0 ≤ x.k; omega) (by show x.k ≤ _; omega)
    | 1, _ => okN_le (by show 0 ≤ x.b; omega) (by show x.b ≤ _; omega)
    | 2, _ => okN_le (by show 0 ≤ x.v; omega) (by show x.v ≤ _; omega)
    | 3, _ => okN_le (by show 0 ≤ x.r; omega) (by show x.r ≤ _; omega)
    | 4, _ => okN_le (by show 0 ≤ x.s; omega) (by show x.s ≤ _; omega)
    | 5, _ => okN_le (by show 0 ≤ x.h; omega) (by show x.h ≤ _; omega)
    | 6, _ => okN_le (by show 0 ≤ x.a; omega) (by show x.a ≤ _; omega)
    | 7, _ => okN_le (by show 0 ≤ x.c; omega) (by show x.c ≤ _; omega)
    | j + 8, h => absurd h (by show ¬ j + 8 < 7 + 1; omega), by show 7 + 1 ≤ 100000; omega, fun _ => by show 0 < 7 + 1; omega⟩
theorem wrapS {n : Int} (h : 0 ≤ n) (h' : n < 4294967296) : IntKind.i64.wrap n = n := by rw [wrap64E]; omega
def AnsC (x : Ct) (m : Nat) : Prop := Answers Try.prog Γb 41 [x.av] [] (.tup [.hs 0 0 (catN (gC x) m).size, .v (.int .i64 0)]) [] [.arr 1 (catN (gC x) m).size (bsF (catN (gC x) m))]
theorem okCond {x : Ct} (h : x.ok = true) : (!decide ((bif (Ct.mk x.k x.b x.v x.r x.h x.a x.s x.c).ok then (0 : Int) else (110 : Int)) = (0 : Int))) = false := by
  rw [show (Ct.mk x.k x.b x.v x.r x.h x.a x.s x.c).ok = true from h]; rfl
theorem ansC0 {x : Ct} (hok : x.ok = true) (h : x.k = 0) : AnsC x 1 := answers (fn := Try.f41) (c := bodyOf Try.f41) (ntmps := 46) (results := [.tmp 2, .tmp 3]) [Z.c93, CT.at 82 (ansNumsH 0 (gC x) (na0 h))] Lno false Try.func41 (by kernel_rfl) (by kernel_rfl) (by kernel_rfl) (by kernel_rfl) (by simp) rfl (noLoops (by kernel_rfl)) (by
  refine Meets.of (runB0 x (na0 h)) ⟨rfl, ?_⟩
  rw [okCond hok, decide_eq_true h, decide_eq_false (show ¬ x.k = 2 by omega)]
  exact ⟨fun h => by simp at h, fun _ => ⟨fun h => by simp at h, fun _ => ⟨fun h => by simp at h, fun _ => ⟨cl_iff.2 ⟨LeL.refl _, .arr rfl (fun j hj => match j, hj with | 0, _ => rfl | j + 1, h => absurd h (by omega)) (fun _ => rfl), trivial⟩, .refl _, .refl _, trivial⟩⟩⟩⟩)
theorem ansC4 {x : Ct} (hx : x.wide) (hok : x.ok = true) (h : x.k = 1) (hw : x.wf = true) : AnsC x 5 := answers (fn := Try.f41) (c := bodyOf Try.f41) (ntmps := 46) (results := [.tmp 2, .tmp 3]) [Z.c93, CT.at 82 (ansNumsH 4 (gC x) (na4 hx h hw))] Lno false Try.func41 (by kernel_rfl) (by kernel_rfl) (by kernel_rfl) (by kernel_rfl) (by simp) rfl (noLoops (by kernel_rfl)) (by
  have w1 := wrapS hx.1 hx.2.1
  refine Meets.of (runB4 x (na4 hx h hw)) ⟨rfl, ?_⟩
  rw [okCond hok, decide_eq_false (show ¬ x.k = 0 by omega), decide_eq_false (show ¬ x.k = 2 by omega)]
  exact ⟨fun h => by simp at h, fun _ => ⟨fun _ => ⟨rfl, fun h => by simp at h, fun _ => ⟨cl_iff.2 ⟨LeL.refl _, .arr rfl (fun j hj => match j, hj with | 0, _ => rfl | 1, _ => rfl | 2, _ => rfl | 3, _ => rfl | 4, _ => by show [AV.v (Value.int IntKind.i64 (IntKind.i64.wrap x.s))] = [AV.v (Value.int IntKind.i64 x.s)]; rw [w1] | j + 5, h => absurd h (by omega)) (fun _ => rfl), trivial⟩, .refl _, .refl _, trivial⟩⟩, fun h => by simp at h⟩⟩)
theorem ansC7 {x : Ct} (hx : x.wide) (hok : x.ok = true) (h : x.k = 2) (hw : x.wf = true) (h1 : 1 ≤ x.h) (h2 : x.h ≤ 3) (h3 : 0 ≤ x.a) (h4 : x.a ≤ 9) : AnsC x 8 := answers (fn := Try.f41) (c := bodyOf Try.f41) (ntmps := 46) (results := [.tmp 2, .tmp 3]) [Z.c93, CT.at 82 (ansNumsH 7 (gC x) (na7 hx h hw h1 h2 h3 h4))] Lno false Try.func41 (by kernel_rfl) (by kernel_rfl) (by kernel_rfl) (by kernel_rfl) (by simp) rfl (noLoops (by kernel_rfl)) (by
  have w1 := wrapS hx.1 hx.2.1
  have w2 := wrapS hx.2.2.1 hx.2.2.2
  refine Meets.of (runB7 x (na7 hx h hw h1 h2 h3 h4)) ⟨rfl, ?_⟩
  rw [okCond hok, decide_eq_false (show ¬ x.k = 0 by omega), decide_eq_true h]
  exact ⟨fun h => by simp at h, fun _ => ⟨fun _ => ⟨rfl, fun _ => ⟨rfl, cl_iff.2 ⟨LeL.refl _, .arr rfl (fun j hj => match j, hj with | 0, _ => rfl | 1, _ => rfl | 2, _ => rfl | 3, _ => rfl | 4, _ => by show [AV.v (Value.int IntKind.i64 (IntKind.i64.wrap x.s))] = [AV.v (Value.int IntKind.i64 x.s)]; rw [w1] | 5, _ => rfl | 6, _ => rfl | 7, _ => by show [AV.v (Value.int IntKind.i64 (IntKind.i64.wrap x.c))] = [AV.v (Value.int IntKind.i64 x.c)]; rw [w2] | j + 8, h => absurd h (by omega)) (fun _ => rfl), trivial⟩, .refl _, .refl _, trivial⟩, fun h => by simp at h⟩, fun h => by simp at h⟩⟩)
theorem ansCx {x : Ct} (hok : x.ok = false) : Answers Try.prog Γb 41 [x.av] [] (.tup [.v (.slice none 0 0), .v (.int .i64 110)]) [] [] := answers (fn := Try.f41) (c := bodyOf Try.f41) (ntmps := 46) (results := [.tmp 2, .tmp 3]) [Z.c93] Lno false Try.func41 (by kernel_rfl) (by kernel_rfl) (by kernel_rfl) (by kernel_rfl) (by simp) rfl (noLoops (by kernel_rfl)) (by
  refine Meets.of (runBx x) ⟨rfl, ?_⟩
  rw [show (Ct.mk x.k x.b x.v x.r x.h x.a x.s x.c).ok = false from hok]
  exact ⟨fun _ => ⟨.refl _, trivial⟩, fun h => by simp at h⟩)
end Go.Eng.SB

namespace Go.Eng.SB.R
open Go Go.Eng Go.Eng.M Go.Eng.RD Go.Proofs
structure RX where
  off : Nat
  len : Nat
  e : Int
  N : Nat
  f : Nat → List AV
def RX.ok (t : ByteArray) (x : RX) : Prop := x.len = t.size - x.off ∧ x.N = t.size ∧ x.f = bsF t
def toX : List AV → List Blk → Option RX
  | [.ptr 0 0], [.row [.hs 1 off len, .v (.int .i64 e)], .arr 1 N f] => some ⟨off, len, e, N, f⟩
  | _, _ => none
def toXI : List AV → List Blk → Option (RX × Int)
  | [.ptr 0 0, .v (.int .i64 n)], [.row [.hs 1 off len, .v (.int .i64 e)], .arr 1 N f] => some (⟨off, len, e, N, f⟩, n)
  | _, _ => none
def rdu (t : ByteArray) (off : Nat) (e : Int) : List (Option (Option Blk)) := [some (some (.row [.hs 1 off (t.size - off), .v (.int .i64 e)])), none]
theorem toX_inv {args : List AV} {Hin : List Blk} {x : RX} {t : ByteArray} (h : toX args Hin = some x) (hp : x.ok t) : args = [.ptr 0 0] ∧ Hin = rdb t x.off x.e := by
  unfold toX at h
  split at h
  · cases h
    obtain ⟨h1, h2, h3⟩ := hp
    simp only at h1 h2 h3
    subst h1; subst h2; subst h3
    exact ⟨rfl, rfl⟩
  · cases h
theorem toXI_inv {args : List AV} {Hin : List Blk} {x : RX × Int} {t : ByteArray} (h : toXI args Hin = some x) (hp : x.1.ok t) : args = [.ptr 0 0, .v (.int .i64 x.2)] ∧ Hin = rdb t x.1.off x.1.e := by
  unfold toXI at h
  split at h
  · cases h
    obtain ⟨h1, h2, h3⟩ := hp
    simp only at h1 h2 h3
    subst h1; subst h2; subst h3
    exact ⟨rfl, rfl⟩
  · cases h
noncomputable def hRn (t : ByteArray) (hz : t.size ≤ 1000000000000) : CT Try.prog Γb := CT.ex 87 toX (RX.ok t) (fun x => .v (.int .i64 (qN t x.off x.e))) (fun x => rdu t (qO t x.off x.e) (qE t x.off x.e)) (fun _ => [])
  (callFunc_enters Try.func87 (by kernel_rfl) (by kernel_rfl)) (fun args Hin x hx hp => by
    obtain ⟨rfl, rfl⟩ := toX_inv hx hp
    exact (ansRn hz).cU rfl)
noncomputable def hFl (t : ByteArray) : CT Try.prog Γb := CT.ex 97 toXI (fun x => x.1.ok t) (fun _ => .tup []) (fun x => rdu t (fO t.size x.1.off x.1.e x.2) (fE x.1.e x.2)) (fun _ => [])
  (callFunc_enters Try.func97 (by kernel_rfl) (by kernel_rfl)) (fun args Hin x hx hp => by
    obtain ⟨rfl, rfl⟩ := toXI_inv hx hp
    exact ansFl.cU rfl)
noncomputable def hRs (t : ByteArray) : CT Try.prog Γb := CT.ex 44 toX (RX.ok t) (fun x => .v (.int .i64 ((t.size - x.off : Nat) : Int))) (fun _ => []) (fun _ => [])
  (callFunc_enters Try.func44 (by kernel_rfl) (by kernel_rfl)) (fun args Hin x hx hp => by
    obtain ⟨rfl, rfl⟩ := toX_inv hx hp
    exact ansRs.cU rfl)
noncomputable def hDn (t : ByteArray) : CT Try.prog Γb := CT.ex 88 toX (RX.ok t) (fun x => .v (.int .i64 (dE t x.off x.e))) (fun _ => []) (fun _ => [])
  (callFunc_enters Try.func88 (by kernel_rfl) (by kernel_rfl)) (fun args Hin x hx hp => by
    obtain ⟨rfl, rfl⟩ := toX_inv hx hp
    exact ansDn.cU rfl)
end Go.Eng.SB.R

namespace Go.Eng.SB.R
open Go Go.Eng Go.Eng.M Go.Eng.RD Go.Eng.SB Go.Proofs
structure NX where
  m : Int
  off : Nat
  len : Nat
  N : Nat
  f : Nat → List AV
def NX.ok (t : ByteArray) (x : NX) : Prop := x.len = t.size - x.off ∧ x.N = t.size ∧ x.f = bsF t ∧ qE t x.off 0 = 0 ∧ qN t x.off 0 ≤ x.m
def toN : List AV → List Blk → Option NX
  | [.v (.int .i64 m), .ptr 0 0], [.row [.ptr 1 0], .row [.hs 2 off len, .v (.int .i64 0)], .arr 1 N f] => some ⟨m, off, len, N, f⟩
  | _, _ => none
def ndb (t : ByteArray) (off : Nat) : List Blk := [.row [.ptr 1 0], .row [.hs 2 off (t.size - off), .v (.int .i64 0)], .arr 1 t.size (bsF t)]
theorem toN_inv {args : List AV} {Hin : List Blk} {x : NX} {t : ByteArray} (h : toN args Hin = some x) (hp : x.ok t) : args = [.v (.int .i64 x.m), .ptr 0 0] ∧ Hin = ndb t x.off := by
  unfold toN at h
  split at h
  · cases h
    obtain ⟨h1, h2, h3, _⟩ := hp
    simp only at h1 h2 h3
    subst h1; subst h2; subst h3
    exact ⟨rfl, rfl⟩
  · cases h
theorem runNx (t : ByteArray) (hz : t.size ≤ 1000000000000) (off : Nat) (m : Int) : bodyE (P := Try.prog) (Γ := Γb) [hRn t hz, hFl t] Lno false 13 [.tmp 3] (bodyOf Try.f96) [.v (.int .i64 m), .ptr 0 0] (ndb t off) =
  Tree.chk (cl (RX.ok t (RX.mk off (ByteArray.size t - off) (0 : Int) (ByteArray.size t) (bsF t)))) (Tree.br (decide (m < qN t off (0 : Int))) (Tree.chk (cl (RX.ok t (RX.mk (qO t off (0 :
    Int)) (ByteArray.size t - qO t off (0 : Int)) (qE t off (0 : Int)) (ByteArray.size t) (bsF t)))) (Tree.leaf (Ans.mk (AV.v (Value.int IntKind.i64 (qN t off (0 : Int)))) [some (Blk.row
    [AV.ptr (1 : Nat) (0 : Nat)]), some (Blk.row [AV.hs (2 : Nat) (fO (ByteArray.size t) (qO t off (0 : Int)) (qE t off (0 : Int)) (110 : Int)) (ByteArray.size t - fO (ByteArray.size t) (qO
    t off (0 : Int)) (qE t off (0 : Int)) (110 : Int)), AV.v (Value.int IntKind.i64 (fE (qE t off (0 : Int)) (110 : Int)))]), some (Blk.arr (1 : Nat) (ByteArray.size t) (bsF t))])))
    (Tree.leaf (Ans.mk (AV.v (Value.int IntKind.i64 (qN t off (0 : Int)))) [some (Blk.row [AV.ptr (1 : Nat) (0 : Nat)]), some (Blk.row [AV.hs (2 : Nat) (qO t off (0 : Int)) (ByteArray.size t
    - qO t off (0 : Int)), AV.v (Value.int IntKind.i64 (qE t off (0 : Int)))]), some (Blk.arr (1 : Nat) (ByteArray.size t) (bsF t))]))) := by kernel_rfl
theorem ansNx {t : ByteArray} (hz : t.size ≤ 1000000000000) {off : Nat} {m : Int} (he : qE t off 0 = 0) (hm : qN t off 0 ≤ m) : Answers Try.prog Γb 96 [.v (.int .i64 m), .ptr 0 0] (ndb t off) (.v (.int .i64 (qN t off 0))) ((ndb t (qO t off 0)).map some) [] := answers (fn := Try.f96) (c := bodyOf Try.f96) (ntmps := 13) (results := [.tmp 3]) [hRn t hz, hFl t] Lno false Try.func96 (by kernel_rfl) (by kernel_rfl) (by kernel_rfl) (by kernel_rfl) (by simp) rfl (noLoops (by kernel_rfl)) (by
  refine Meets.of (runNx t hz off m) ?_
  rw [he, decide_eq_false (show ¬ m < qN t off 0 by omega)]
  exact ⟨cl_iff.2 ⟨rfl, rfl, rfl⟩, fun h => by simp at h, fun _ => ⟨.refl _, .refl _, .refl _, .refl _, trivial⟩⟩)
noncomputable def hNx (t : ByteArray) (hz : t.size ≤ 1000000000000) : CT Try.prog Γb := CT.ex 96 toN (NX.ok t) (fun x => .v (.int .i64 (qN t x.off 0))) (fun x => [none, some (some (.row [.hs 2 (qO t x.off 0) (t.size - qO t x.off 0), .v (.int .i64 0)])), none]) (fun _ => [])
  (callFunc_enters Try.func96 (by kernel_rfl) (by kernel_rfl)) (fun args Hin x hx hp => by
    obtain ⟨rfl, rfl⟩ := toN_inv hx hp
    exact (ansNx hz hp.2.2.2.1 hp.2.2.2.2).cU rfl)
theorem runTk (t : ByteArray) (hz : t.size ≤ 1000000000000) (off : Nat) : bodyE (P := Try.prog) (Γ := Γb) [Z.c93, hNx t hz, hDn t] Lno false 53 [.cell 2 75] (bodyOf Try.f43) [.ptr 0 0] (rdb t off 0) =
  Tree.chk (cl (NX.ok t (NX.mk (2 : Int) off (ByteArray.size t - off) (ByteArray.size t) (bsF t)))) (Tree.br (!decide (qN t off (0 : Int) = (0 : Int))) (Tree.chk (cl (NX.ok t (NX.mk
    (2147483647 : Int) (qO t off (0 : Int)) (ByteArray.size t - qO t off (0 : Int)) (ByteArray.size t) (bsF t)))) (Tree.chk (cl (NX.ok t (NX.mk (1048576 : Int) (qO t (qO t off (0 : Int)) (0
    : Int)) (ByteArray.size t - qO t (qO t off (0 : Int)) (0 : Int)) (ByteArray.size t) (bsF t)))) (Tree.chk (cl (NX.ok t (NX.mk (1073741824 : Int) (qO t (qO t (qO t off (0 : Int)) (0 :
    Int)) (0 : Int)) (ByteArray.size t - qO t (qO t (qO t off (0 : Int)) (0 : Int)) (0 : Int)) (ByteArray.size t) (bsF t)))) (Tree.chk (cl (NX.ok t (NX.mk (1023 : Int) (qO t (qO t (qO t (qO
    t off (0 : Int)) (0 : Int)) (0 : Int)) (0 : Int)) (ByteArray.size t - qO t (qO t (qO t (qO t off (0 : Int)) (0 : Int)) (0 : Int)) (0 : Int)) (ByteArray.size t) (bsF t)))) (Tree.br
    (decide (qN t off (0 : Int) = (2 : Int))) (Tree.chk (cl (NX.ok t (NX.mk (3 : Int) (qO t (qO t (qO t (qO t (qO t off (0 : Int)) (0 : Int)) (0 : Int)) (0 : Int)) (0 : Int)) (ByteArray.size
    t - qO t (qO t (qO t (qO t (qO t off (0 : Int)) (0 : Int)) (0 : Int)) (0 : Int)) (0 : Int)) (ByteArray.size t) (bsF t)))) (Tree.chk (cl (NX.ok t (NX.mk (9 : Int) (qO t (qO t (qO t (qO t
    (qO t (qO t off (0 : Int)) (0 : Int)) (0 : Int)) (0 : Int)) (0 : Int)) (0 : Int)) (ByteArray.size t - qO t (qO t (qO t (qO t (qO t (qO t off (0 : Int)) (0 : Int)) (0 : Int)) (0 : Int))
    (0 : Int)) (0 : Int)) (ByteArray.size t) (bsF t)))) (Tree.chk (cl (NX.ok t (NX.mk (1023 : Int) (qO t (qO t (qO t (qO t (qO t (qO t (qO t off (0 : Int)) (0 : Int)) (0 : Int)) (0 : Int))
    (0 : Int)) (0 : Int)) (0 : Int)) (ByteArray.size t - qO t (qO t (qO t (qO t (qO t (qO t (qO t off (0 : Int)) (0 : Int)) (0 : Int)) (0 : Int)) (0 : Int)) (0 : Int)) (0 : Int))
    (ByteArray.size t) (bsF t)))) (Tree.chk true (Tree.br (!decide ((bif Ct.ok (Ct.mk (qN t off (0 : Int)) (qN t (qO t off (0 : Int)) (0 : Int)) (qN t (qO t (qO t off (0 : Int)) (0 : Int))
    (0 : Int)) (qN t (qO t (qO t (qO t off (0 : Int)) (0 : Int)) (0 : Int)) (0 : Int)) (qN t (qO t (qO t (qO t (qO t (qO t off (0 : Int)) (0 : Int)) (0 : Int)) (0 : Int)) (0 : Int)) (0 :
    Int)) (qN t (qO t (qO t (qO t (qO t (qO t (qO t off (0 : Int)) (0 : Int)) (0 : Int)) (0 : Int)) (0 : Int)) (0 : Int)) (0 : Int)) (IntKind.wrap IntKind.u32 (qN t (qO t (qO t (qO t (qO t
    off (0 : Int)) (0 : Int)) (0 : Int)) (0 : Int)) (0 : Int))) (IntKind.wrap IntKind.u32 (qN t (qO t (qO t (qO t (qO t (qO t (qO t (qO t off (0 : Int)) (0 : Int)) (0 : Int)) (0 : Int)) (0 :
    Int)) (0 : Int)) (0 : Int)) (0 : Int)))) then (0 : Int) else (110 : Int)) = (0 : Int))) Tree.fail (Tree.chk (cl (RX.ok t (RX.mk (qO t (qO t (qO t (qO t (qO t (qO t (qO t (qO t off (0 :
    Int)) (0 : Int)) (0 : Int)) (0 : Int)) (0 : Int)) (0 : Int)) (0 : Int)) (0 : Int)) (ByteArray.size t - qO t (qO t (qO t (qO t (qO t (qO t (qO t (qO t off (0 : Int)) (0 : Int)) (0 : Int))
    (0 : Int)) (0 : Int)) (0 : Int)) (0 : Int)) (0 : Int)) (0 : Int) (ByteArray.size t) (bsF t))) && bif !decide (dE t (qO t (qO t (qO t (qO t (qO t (qO t (qO t (qO t off (0 : Int)) (0 :
    Int)) (0 : Int)) (0 : Int)) (0 : Int)) (0 : Int)) (0 : Int)) (0 : Int)) (0 : Int) = (0 : Int)) then cl (RX.ok t (RX.mk (qO t (qO t (qO t (qO t (qO t (qO t (qO t (qO t off (0 : Int)) (0 :
    Int)) (0 : Int)) (0 : Int)) (0 : Int)) (0 : Int)) (0 : Int)) (0 : Int)) (ByteArray.size t - qO t (qO t (qO t (qO t (qO t (qO t (qO t (qO t off (0 : Int)) (0 : Int)) (0 : Int)) (0 : Int))
    (0 : Int)) (0 : Int)) (0 : Int)) (0 : Int)) (0 : Int) (ByteArray.size t) (bsF t))) else true) (Tree.br (bif !decide (dE t (qO t (qO t (qO t (qO t (qO t (qO t (qO t (qO t off (0 : Int))
    (0 : Int)) (0 : Int)) (0 : Int)) (0 : Int)) (0 : Int)) (0 : Int)) (0 : Int)) (0 : Int) = (0 : Int)) then !decide (dE t (qO t (qO t (qO t (qO t (qO t (qO t (qO t (qO t off (0 : Int)) (0 :
    Int)) (0 : Int)) (0 : Int)) (0 : Int)) (0 : Int)) (0 : Int)) (0 : Int)) (0 : Int) = (32 : Int)) else false) (Tree.leaf (Ans.mk (AV.agg [AV.v (Value.int IntKind.i64 (0 : Int)), AV.v
    (Value.int IntKind.i64 (0 : Int)), AV.v (Value.int IntKind.i64 (0 : Int)), AV.v (Value.int IntKind.i64 (0 : Int)), AV.v (Value.int IntKind.i64 (0 : Int)), AV.v (Value.int IntKind.i64 (0
    : Int)), AV.v (Value.int IntKind.u32 (0 : Int)), AV.v (Value.int IntKind.u32 (0 : Int))]) [some (Blk.row [AV.hs (1 : Nat) (qO t (qO t (qO t (qO t (qO t (qO t (qO t (qO t off (0 : Int))
    (0 : Int)) (0 : Int)) (0 : Int)) (0 : Int)) (0 : Int)) (0 : Int)) (0 : Int)) (ByteArray.size t - qO t (qO t (qO t (qO t (qO t (qO t (qO t (qO t off (0 : Int)) (0 : Int)) (0 : Int)) (0 :
    Int)) (0 : Int)) (0 : Int)) (0 : Int)) (0 : Int)), AV.v (Value.int IntKind.i64 (0 : Int))]), some (Blk.arr (1 : Nat) (ByteArray.size t) (bsF t))])) (Tree.leaf (Ans.mk (AV.agg [AV.v
    (Value.int IntKind.i64 (qN t off (0 : Int))), AV.v (Value.int IntKind.i64 (qN t (qO t off (0 : Int)) (0 : Int))), AV.v (Value.int IntKind.i64 (qN t (qO t (qO t off (0 : Int)) (0 : Int))
    (0 : Int))), AV.v (Value.int IntKind.i64 (qN t (qO t (qO t (qO t off (0 : Int)) (0 : Int)) (0 : Int)) (0 : Int))), AV.v (Value.int IntKind.i64 (qN t (qO t (qO t (qO t (qO t (qO t off (0
    : Int)) (0 : Int)) (0 : Int)) (0 : Int)) (0 : Int)) (0 : Int))), AV.v (Value.int IntKind.i64 (qN t (qO t (qO t (qO t (qO t (qO t (qO t off (0 : Int)) (0 : Int)) (0 : Int)) (0 : Int)) (0
    : Int)) (0 : Int)) (0 : Int))), AV.v (Value.int IntKind.u32 (IntKind.wrap IntKind.u32 (qN t (qO t (qO t (qO t (qO t off (0 : Int)) (0 : Int)) (0 : Int)) (0 : Int)) (0 : Int)))), AV.v
    (Value.int IntKind.u32 (IntKind.wrap IntKind.u32 (qN t (qO t (qO t (qO t (qO t (qO t (qO t (qO t off (0 : Int)) (0 : Int)) (0 : Int)) (0 : Int)) (0 : Int)) (0 : Int)) (0 : Int)) (0 :
    Int))))]) [some (Blk.row [AV.hs (1 : Nat) (qO t (qO t (qO t (qO t (qO t (qO t (qO t (qO t off (0 : Int)) (0 : Int)) (0 : Int)) (0 : Int)) (0 : Int)) (0 : Int)) (0 : Int)) (0 : Int))
    (ByteArray.size t - qO t (qO t (qO t (qO t (qO t (qO t (qO t (qO t off (0 : Int)) (0 : Int)) (0 : Int)) (0 : Int)) (0 : Int)) (0 : Int)) (0 : Int)) (0 : Int)), AV.v (Value.int
    IntKind.i64 (0 : Int))]), some (Blk.arr (1 : Nat) (ByteArray.size t) (bsF t))]))))))))) (Tree.chk true (Tree.br (!decide ((bif Ct.ok (Ct.mk (qN t off (0 : Int)) (qN t (qO t off (0 :
    Int)) (0 : Int)) (qN t (qO t (qO t off (0 : Int)) (0 : Int)) (0 : Int)) (qN t (qO t (qO t (qO t off (0 : Int)) (0 : Int)) (0 : Int)) (0 : Int)) (0 : Int) (0 : Int) (IntKind.wrap
    IntKind.u32 (qN t (qO t (qO t (qO t (qO t off (0 : Int)) (0 : Int)) (0 : Int)) (0 : Int)) (0 : Int))) (0 : Int)) then (0 : Int) else (110 : Int)) = (0 : Int))) Tree.fail (Tree.chk (cl
    (RX.ok t (RX.mk (qO t (qO t (qO t (qO t (qO t off (0 : Int)) (0 : Int)) (0 : Int)) (0 : Int)) (0 : Int)) (ByteArray.size t - qO t (qO t (qO t (qO t (qO t off (0 : Int)) (0 : Int)) (0 :
    Int)) (0 : Int)) (0 : Int)) (0 : Int) (ByteArray.size t) (bsF t))) && bif !decide (dE t (qO t (qO t (qO t (qO t (qO t off (0 : Int)) (0 : Int)) (0 : Int)) (0 : Int)) (0 : Int)) (0 : Int)
    = (0 : Int)) then cl (RX.ok t (RX.mk (qO t (qO t (qO t (qO t (qO t off (0 : Int)) (0 : Int)) (0 : Int)) (0 : Int)) (0 : Int)) (ByteArray.size t - qO t (qO t (qO t (qO t (qO t off (0 :
    Int)) (0 : Int)) (0 : Int)) (0 : Int)) (0 : Int)) (0 : Int) (ByteArray.size t) (bsF t))) else true) (Tree.br (bif !decide (dE t (qO t (qO t (qO t (qO t (qO t off (0 : Int)) (0 : Int)) (0
    : Int)) (0 : Int)) (0 : Int)) (0 : Int) = (0 : Int)) then !decide (dE t (qO t (qO t (qO t (qO t (qO t off (0 : Int)) (0 : Int)) (0 : Int)) (0 : Int)) (0 : Int)) (0 : Int) = (32 : Int))
    else false) (Tree.leaf (Ans.mk (AV.agg [AV.v (Value.int IntKind.i64 (0 : Int)), AV.v (Value.int IntKind.i64 (0 : Int)), AV.v (Value.int IntKind.i64 (0 : Int)), AV.v (Value.int
    IntKind.i64 (0 : Int)), AV.v (Value.int IntKind.i64 (0 : Int)), AV.v (Value.int IntKind.i64 (0 : Int)), AV.v (Value.int IntKind.u32 (0 : Int)), AV.v (Value.int IntKind.u32 (0 : Int))])
    [some (Blk.row [AV.hs (1 : Nat) (qO t (qO t (qO t (qO t (qO t off (0 : Int)) (0 : Int)) (0 : Int)) (0 : Int)) (0 : Int)) (ByteArray.size t - qO t (qO t (qO t (qO t (qO t off (0 : Int))
    (0 : Int)) (0 : Int)) (0 : Int)) (0 : Int)), AV.v (Value.int IntKind.i64 (0 : Int))]), some (Blk.arr (1 : Nat) (ByteArray.size t) (bsF t))])) (Tree.leaf (Ans.mk (AV.agg [AV.v (Value.int
    IntKind.i64 (qN t off (0 : Int))), AV.v (Value.int IntKind.i64 (qN t (qO t off (0 : Int)) (0 : Int))), AV.v (Value.int IntKind.i64 (qN t (qO t (qO t off (0 : Int)) (0 : Int)) (0 :
    Int))), AV.v (Value.int IntKind.i64 (qN t (qO t (qO t (qO t off (0 : Int)) (0 : Int)) (0 : Int)) (0 : Int))), AV.v (Value.int IntKind.i64 (0 : Int)), AV.v (Value.int IntKind.i64 (0 :
    Int)), AV.v (Value.int IntKind.u32 (IntKind.wrap IntKind.u32 (qN t (qO t (qO t (qO t (qO t off (0 : Int)) (0 : Int)) (0 : Int)) (0 : Int)) (0 : Int)))), AV.v (Value.int IntKind.u32 (0 :
    Int))]) [some (Blk.row [AV.hs (1 : Nat) (qO t (qO t (qO t (qO t (qO t off (0 : Int)) (0 : Int)) (0 : Int)) (0 : Int)) (0 : Int)) (ByteArray.size t - qO t (qO t (qO t (qO t (qO t off (0 :
    Int)) (0 : Int)) (0 : Int)) (0 : Int)) (0 : Int)), AV.v (Value.int IntKind.i64 (0 : Int))]), some (Blk.arr (1 : Nat) (ByteArray.size t) (bsF t))]))))))))))) (Tree.br (decide (qN t off (0
    : Int) = (2 : Int))) (Tree.chk (cl (NX.ok t (NX.mk (3 : Int) (qO t off (0 : Int)) (ByteArray.size t - qO t off (0 : Int)) (ByteArray.size t) (bsF t)))) (Tree.chk (cl (NX.ok t (NX.mk (9 :
    Int) (qO t (qO t off (0 : Int)) (0 : Int)) (ByteArray.size t - qO t (qO t off (0 : Int)) (0 : Int)) (ByteArray.size t) (bsF t)))) (Tree.chk (cl (NX.ok t (NX.mk (1023 : Int) (qO t (qO t
    (qO t off (0 : Int)) (0 : Int)) (0 : Int)) (ByteArray.size t - qO t (qO t (qO t off (0 : Int)) (0 : Int)) (0 : Int)) (ByteArray.size t) (bsF t)))) (Tree.chk true (Tree.br (!decide ((bif
    Ct.ok (Ct.mk (qN t off (0 : Int)) (0 : Int) (0 : Int) (0 : Int) (qN t (qO t off (0 : Int)) (0 : Int)) (qN t (qO t (qO t off (0 : Int)) (0 : Int)) (0 : Int)) (0 : Int) (IntKind.wrap
    IntKind.u32 (qN t (qO t (qO t (qO t off (0 : Int)) (0 : Int)) (0 : Int)) (0 : Int)))) then (0 : Int) else (110 : Int)) = (0 : Int))) Tree.fail (Tree.chk (cl (RX.ok t (RX.mk (qO t (qO t
    (qO t (qO t off (0 : Int)) (0 : Int)) (0 : Int)) (0 : Int)) (ByteArray.size t - qO t (qO t (qO t (qO t off (0 : Int)) (0 : Int)) (0 : Int)) (0 : Int)) (0 : Int) (ByteArray.size t) (bsF
    t))) && bif !decide (dE t (qO t (qO t (qO t (qO t off (0 : Int)) (0 : Int)) (0 : Int)) (0 : Int)) (0 : Int) = (0 : Int)) then cl (RX.ok t (RX.mk (qO t (qO t (qO t (qO t off (0 : Int)) (0
    : Int)) (0 : Int)) (0 : Int)) (ByteArray.size t - qO t (qO t (qO t (qO t off (0 : Int)) (0 : Int)) (0 : Int)) (0 : Int)) (0 : Int) (ByteArray.size t) (bsF t))) else true) (Tree.br (bif
    !decide (dE t (qO t (qO t (qO t (qO t off (0 : Int)) (0 : Int)) (0 : Int)) (0 : Int)) (0 : Int) = (0 : Int)) then !decide (dE t (qO t (qO t (qO t (qO t off (0 : Int)) (0 : Int)) (0 :
    Int)) (0 : Int)) (0 : Int) = (32 : Int)) else false) (Tree.leaf (Ans.mk (AV.agg [AV.v (Value.int IntKind.i64 (0 : Int)), AV.v (Value.int IntKind.i64 (0 : Int)), AV.v (Value.int
    IntKind.i64 (0 : Int)), AV.v (Value.int IntKind.i64 (0 : Int)), AV.v (Value.int IntKind.i64 (0 : Int)), AV.v (Value.int IntKind.i64 (0 : Int)), AV.v (Value.int IntKind.u32 (0 : Int)),
    AV.v (Value.int IntKind.u32 (0 : Int))]) [some (Blk.row [AV.hs (1 : Nat) (qO t (qO t (qO t (qO t off (0 : Int)) (0 : Int)) (0 : Int)) (0 : Int)) (ByteArray.size t - qO t (qO t (qO t (qO
    t off (0 : Int)) (0 : Int)) (0 : Int)) (0 : Int)), AV.v (Value.int IntKind.i64 (0 : Int))]), some (Blk.arr (1 : Nat) (ByteArray.size t) (bsF t))])) (Tree.leaf (Ans.mk (AV.agg [AV.v
    (Value.int IntKind.i64 (qN t off (0 : Int))), AV.v (Value.int IntKind.i64 (0 : Int)), AV.v (Value.int IntKind.i64 (0 : Int)), AV.v (Value.int IntKind.i64 (0 : Int)), AV.v (Value.int
    IntKind.i64 (qN t (qO t off (0 : Int)) (0 : Int))), AV.v (Value.int IntKind.i64 (qN t (qO t (qO t off (0 : Int)) (0 : Int)) (0 : Int))), AV.v (Value.int IntKind.u32 (0 : Int)), AV.v
    (Value.int IntKind.u32 (IntKind.wrap IntKind.u32 (qN t (qO t (qO t (qO t off (0 : Int)) (0 : Int)) (0 : Int)) (0 : Int))))]) [some (Blk.row [AV.hs (1 : Nat) (qO t (qO t (qO t (qO t off
    (0 : Int)) (0 : Int)) (0 : Int)) (0 : Int)) (ByteArray.size t - qO t (qO t (qO t (qO t off (0 : Int)) (0 : Int)) (0 : Int)) (0 : Int)), AV.v (Value.int IntKind.i64 (0 : Int))]), some
    (Blk.arr (1 : Nat) (ByteArray.size t) (bsF t))]))))))))) (Tree.chk true (Tree.br (!decide ((bif Ct.ok (Ct.mk (qN t off (0 : Int)) (0 : Int) (0 : Int) (0 : Int) (0 : Int) (0 : Int) (0 :
    Int) (0 : Int)) then (0 : Int) else (110 : Int)) = (0 : Int))) Tree.fail (Tree.chk (cl (RX.ok t (RX.mk (qO t off (0 : Int)) (ByteArray.size t - qO t off (0 : Int)) (0 : Int)
    (ByteArray.size t) (bsF t))) && bif !decide (dE t (qO t off (0 : Int)) (0 : Int) = (0 : Int)) then cl (RX.ok t (RX.mk (qO t off (0 : Int)) (ByteArray.size t - qO t off (0 : Int)) (0 :
    Int) (ByteArray.size t) (bsF t))) else true) (Tree.br (bif !decide (dE t (qO t off (0 : Int)) (0 : Int) = (0 : Int)) then !decide (dE t (qO t off (0 : Int)) (0 : Int) = (32 : Int)) else
    false) (Tree.leaf (Ans.mk (AV.agg [AV.v (Value.int IntKind.i64 (0 : Int)), AV.v (Value.int IntKind.i64 (0 : Int)), AV.v (Value.int IntKind.i64 (0 : Int)), AV.v (Value.int IntKind.i64 (0
    : Int)), AV.v (Value.int IntKind.i64 (0 : Int)), AV.v (Value.int IntKind.i64 (0 : Int)), AV.v (Value.int IntKind.u32 (0 : Int)), AV.v (Value.int IntKind.u32 (0 : Int))]) [some (Blk.row
    [AV.hs (1 : Nat) (qO t off (0 : Int)) (ByteArray.size t - qO t off (0 : Int)), AV.v (Value.int IntKind.i64 (0 : Int))]), some (Blk.arr (1 : Nat) (ByteArray.size t) (bsF t))])) (Tree.leaf
    (Ans.mk (AV.agg [AV.v (Value.int IntKind.i64 (qN t off (0 : Int))), AV.v (Value.int IntKind.i64 (0 : Int)), AV.v (Value.int IntKind.i64 (0 : Int)), AV.v (Value.int IntKind.i64 (0 :
    Int)), AV.v (Value.int IntKind.i64 (0 : Int)), AV.v (Value.int IntKind.i64 (0 : Int)), AV.v (Value.int IntKind.u32 (0 : Int)), AV.v (Value.int IntKind.u32 (0 : Int))]) [some (Blk.row
    [AV.hs (1 : Nat) (qO t off (0 : Int)) (ByteArray.size t - qO t off (0 : Int)), AV.v (Value.int IntKind.i64 (0 : Int))]), some (Blk.arr (1 : Nat) (ByteArray.size t) (bsF t))])))))))) := by kernel_rfl
end Go.Eng.SB.R

namespace Go.Eng.SB.R
open Go Go.Eng Go.Eng.M Go.Eng.RD Go.Eng.SB Go.Lib Go.Proofs
def At (t : ByteArray) (off : Nat) (w : ByteArray) : Prop := off + w.size ≤ t.size ∧ ∀ j, j < w.size → bN t (off + j) = bN w j
theorem bN_app (a b : ByteArray) (j : Nat) : bN (a ++ b) j = if j < a.size then bN a j else bN b (j - a.size) := by
  have := sbyte_append a b j
  have e : ∀ (s : ByteArray) (i : Nat), sbyte s i = ((bN s i : Nat) : Int) := fun _ _ => rfl
  simp only [e] at this
  by_cases h : j < a.size
  · rw [if_pos h] at this ⊢; omega
  · rw [if_neg h] at this ⊢; omega
theorem At.left {t a b : ByteArray} {off : Nat} (h : At t off (a ++ b)) : At t off a := by
  obtain ⟨h1, h2⟩ := h
  rw [ByteArray.size_append] at h1
  refine ⟨by omega, fun j hj => ?_⟩
  rw [h2 j (by rw [ByteArray.size_append]; omega), bN_app, if_pos hj]
theorem At.right {t a b : ByteArray} {off : Nat} (h : At t off (a ++ b)) : At t (off + a.size) b := by
  obtain ⟨h1, h2⟩ := h
  rw [ByteArray.size_append] at h1
  refine ⟨by omega, fun j hj => ?_⟩
  have := h2 (a.size + j) (by rw [ByteArray.size_append]; omega)
  rw [bN_app, if_neg (by omega), show a.size + j - a.size = j by omega] at this
  rw [← this]; congr 1; omega
theorem At.pre (b rest : ByteArray) : At (b ++ rest) 0 b := by
  refine ⟨by rw [ByteArray.size_append]; omega, fun j hj => ?_⟩
  rw [Nat.zero_add, bN_app, if_pos hj]
theorem At.ext {t w : ByteArray} {off : Nat} (h : At t off w) : t.extract off (off + w.size) = w := by
  obtain ⟨h1, h2⟩ := h
  refine bN_eq (by rw [ext_size _ _ _ h1]; omega) (fun j hj => ?_)
  rw [ext_size _ _ _ h1] at hj
  rw [bN_extract _ _ _ _ h1, if_pos (by omega), h2 j (by omega)]
theorem At.num {t : ByteArray} {off n : Nat} (h : At t off (numB n)) (hn : n ≤ 4611686018427387904) : qN t off 0 = (n : Int) ∧ qO t off 0 = off + (numB n).size ∧ qE t off 0 = 0 := by
  obtain ⟨h1, h2⟩ := h
  have hs := (numB_size hn).1
  obtain ⟨i, e1, g, e2⟩ := numB_good n t off fun j hj => by
    show ((bN t (off + j) : Nat) : Int) = ((bN (numB n) j : Nat) : Int)
    rw [h2 j hj]
  have hg : IsGood t off (t.size - off) i := ⟨by omega, by omega, g, by omega⟩
  obtain ⟨a1, a2, a3⟩ := q_good hg
  rw [a1, a2, a3, e2, e1]
  exact ⟨rfl, rfl, rfl⟩
theorem At.cat {t : ByteArray} {g : Nat → Int} {off : Nat} : ∀ {n : Nat}, At t off (catN g n) → ∀ i, i < n → At t (off + (catN g i).size) (numB (g i).toNat)
  | n + 1, h, i, hi => by
    have h' : At t off (catN g n ++ numB (g n).toNat) := h
    rcases Nat.lt_succ_iff_lt_or_eq.1 hi with hl | rfl
    · exact h'.left.cat i hl
    · exact h'.right
def Reads (t : ByteArray) (g : Nat → Int) (p : Nat → Nat) (n : Nat) : Prop := ∀ i, i < n → qN t (p i) 0 = g i ∧ qO t (p i) 0 = p (i + 1) ∧ qE t (p i) 0 = 0
theorem At.reads {t : ByteArray} {g : Nat → Int} {n : Nat} (h : At t 0 (catN g n)) (hg : ∀ i, i < n → 0 ≤ g i ∧ g i ≤ 4611686018427387904) : Reads t g (fun i => (catN g i).size) n := by
  intro i hi
  obtain ⟨h1, h2⟩ := hg i hi
  have := h.cat i hi
  rw [Nat.zero_add] at this
  obtain ⟨a1, a2, a3⟩ := this.num (by omega)
  refine ⟨by rw [a1]; omega, ?_, a3⟩
  rw [a2]
  show _ = (catN g i ++ numB (g i).toNat).size
  rw [ByteArray.size_append]
theorem dE_ok {t : ByteArray} {off : Nat} : dE t off 0 = 0 ∨ dE t off 0 = 32 := by
  unfold dE
  split
  · exact .inr rfl
  · exact .inl rfl
theorem wrapU {n : Int} (h : 0 ≤ n) (h' : n < 4294967296) : IntKind.u32.wrap n = n := by
  show n % 4294967296 = n
  omega
theorem nx_ok {t : ByteArray} {off : Nat} {m : Int} (he : qE t off 0 = 0) (hm : qN t off 0 ≤ m) : cl (NX.ok t ⟨m, off, t.size - off, t.size, bsF t⟩) = true := cl_iff.2 ⟨rfl, rfl, rfl, he, hm⟩
theorem rx_ok {t : ByteArray} {off : Nat} {e : Int} : cl (RX.ok t ⟨off, t.size - off, e, t.size, bsF t⟩) = true := cl_iff.2 ⟨rfl, rfl, rfl⟩
theorem ok_nil {x : Ct} (h : x.ok = true) (hk : x.k = 0) : x = ⟨0, 0, 0, 0, 0, 0, 0, 0⟩ := by
  obtain ⟨k, b, v, r, h', a, s, c⟩ := x
  simp only at hk
  subst hk
  simp only [Ct.ok, decide_true, cond_true, Bool.and_eq_true, decide_eq_true_eq] at h
  obtain ⟨⟨⟨⟨⟨⟨h1, h2⟩, h3⟩, h4⟩, h5⟩, h6⟩, h7⟩ := h
  subst h1; subst h2; subst h3; subst h4; subst h5; subst h6; subst h7
  rfl
def AnsT (t : ByteArray) (x : Ct) (o : Nat) : Prop := Answers Try.prog Γb 43 [.ptr 0 0] (rdb t 0 0) x.av ((rdb t o 0).map some) []
theorem setOk_range {n : Int} (h : setOk n = true) : True := trivial
theorem take0 {t : ByteArray} (hz : t.size ≤ 1000000000000) {x : Ct} (hok : x.ok = true) (hk : x.k = 0) {p : Nat → Nat} (hp : p 0 = 0) (hr : Reads t (gC x) p 1) : AnsT t x (p 1) := answers (fn := Try.f43) (c := bodyOf Try.f43) (ntmps := 53) (results := [.cell 2 75]) [Z.c93, hNx t hz, hDn t] Lno false Try.func43 (by kernel_rfl) (by kernel_rfl) (by kernel_rfl) (by kernel_rfl) (by simp) rfl (noLoops (by kernel_rfl)) (by
  refine Meets.of (runTk t hz 0) ?_
  obtain ⟨n0, o0, e0⟩ := hr 0 (by omega)
  rw [hp] at n0 o0 e0
  have g0 : gC x 0 = 0 := hk
  rw [g0] at n0
  have hx := ok_nil hok hk
  have c0 := nx_ok (m := 2) e0 (by rw [n0]; decide)
  subst hx
  simp only [o0, n0, rx_ok, hok, c0]
  generalize p 1 = o
  rcases dE_ok (t := t) (off := o) with hd | hd
  · repeat' (first | refine wC (by first | omega | (simp only [W1, cond_true, cond_false, hd]; first | done | omega)) ?_ | refine wT (by first | omega | (simp only [W1, cond_true, cond_false, hd]; first | done | omega)) ?_ | refine wF (by intro _h; first | omega | (simp only [W1, cond_true, cond_false, hd] at _h; first | done | omega)) ?_ | (refine wS ?_ ?_ <;> intro _h <;> simp only [W1, cond_true, cond_false, hd] at _h))
    all_goals simp only [or_true, true_or, false_or, or_false, and_false, false_and, cond_true, cond_false, Bool.not_true, Bool.not_false, Bool.false_eq_true, Bool.true_eq_false, not_true_eq_false, not_false_eq_true, false_implies, true_implies, implies_true, Nat.blt_eq, owesN, owesX, owesR, notT, sat_brT, sat_brF, sat_chkT, cl_iff, cl_false, AV.le_refl, AV.le_any, OLe_refl, OLe_none, sat_brN, Tree.sat_chk, Tree.sat_leaf, Tree.sat_fail, Nat.zero_add, Nat.sub_zero, Int.toNat_natCast, LeH_cons, LeH_nil, LeL_cons, LeL_nil, and_true, true_and, Bool.and_eq_true, Bool.or_eq_true, decide_eq_true_eq, decide_eq_false_iff_not, Bool.cond_true_left, Bool.cond_false_right, List.cons_append, List.nil_append, List.map_cons, List.map_nil, hd]
    repeat' (first | apply And.intro | intro _hc)
    all_goals first | exact AV.le_refl _ | exact AV.le_any _ | exact OLe.refl _ | exact OLe.none _ | exact LeH.refl _ | exact LeL.refl _ | exact AV.le.bs _ | exact AV.le.sb _ | omega | contradiction
  · repeat' (first | refine wC (by first | omega | (simp only [W1, cond_true, cond_false, hd]; first | done | omega)) ?_ | refine wT (by first | omega | (simp only [W1, cond_true, cond_false, hd]; first | done | omega)) ?_ | refine wF (by intro _h; first | omega | (simp only [W1, cond_true, cond_false, hd] at _h; first | done | omega)) ?_ | (refine wS ?_ ?_ <;> intro _h <;> simp only [W1, cond_true, cond_false, hd] at _h))
    all_goals simp only [or_true, true_or, false_or, or_false, and_false, false_and, cond_true, cond_false, Bool.not_true, Bool.not_false, Bool.false_eq_true, Bool.true_eq_false, not_true_eq_false, not_false_eq_true, false_implies, true_implies, implies_true, Nat.blt_eq, owesN, owesX, owesR, notT, sat_brT, sat_brF, sat_chkT, cl_iff, cl_false, AV.le_refl, AV.le_any, OLe_refl, OLe_none, sat_brN, Tree.sat_chk, Tree.sat_leaf, Tree.sat_fail, Nat.zero_add, Nat.sub_zero, Int.toNat_natCast, LeH_cons, LeH_nil, LeL_cons, LeL_nil, and_true, true_and, Bool.and_eq_true, Bool.or_eq_true, decide_eq_true_eq, decide_eq_false_iff_not, Bool.cond_true_left, Bool.cond_false_right, List.cons_append, List.nil_append, List.map_cons, List.map_nil, hd]
    repeat' (first | apply And.intro | intro _hc)
    all_goals first | exact AV.le_refl _ | exact AV.le_any _ | exact OLe.refl _ | exact OLe.none _ | exact LeH.refl _ | exact LeL.refl _ | exact AV.le.bs _ | exact AV.le.sb _ | omega | contradiction
  )
theorem ge_dec {a b : Int} (h : a = b) : decide (a = b) = true := decide_eq_true h
theorem take1 {t : ByteArray} (hz : t.size ≤ 1000000000000) {x : Ct} (hw : x.wide) (hok : x.ok = true) (hk : x.k = 1) (hf : x.wf = true) (hh : x.h = 0) (ha : x.a = 0) (hc : x.c = 0) (hs : x.s ≤ 1023) {p : Nat → Nat} (hp : p 0 = 0) (hr : Reads t (gC x) p 5) : AnsT t x (p 5) := answers (fn := Try.f43) (c := bodyOf Try.f43) (ntmps := 53) (results := [.cell 2 75]) [Z.c93, hNx t hz, hDn t] Lno false Try.func43 (by kernel_rfl) (by kernel_rfl) (by kernel_rfl) (by kernel_rfl) (by simp) rfl (noLoops (by kernel_rfl)) (by
  refine Meets.of (runTk t hz 0) ?_
  obtain ⟨b1, b2, v1, v2, r1, r2⟩ := wf_nums hf
  obtain ⟨s1, s2, _, _⟩ := hw
  obtain ⟨n0, o0, e0⟩ := hr 0 (by omega)
  obtain ⟨n1, o1, e1⟩ := hr 1 (by omega)
  obtain ⟨n2, o2, e2⟩ := hr 2 (by omega)
  obtain ⟨n3, o3, e3⟩ := hr 3 (by omega)
  obtain ⟨n4, o4, e4⟩ := hr 4 (by omega)
  rw [hp] at n0 o0 e0
  have g0 : gC x 0 = 1 := hk
  have g1 : gC x 1 = x.b := rfl
  have g2 : gC x 2 = x.v := rfl
  have g3 : gC x 3 = x.r := rfl
  have g4 : gC x 4 = x.s := rfl
  rw [g0] at n0; rw [g1] at n1; rw [g2] at n2; rw [g3] at n3; rw [g4] at n4
  have w4 := wrapU s1 s2
  have c0 := nx_ok (m := 2) e0 (by rw [n0]; decide)
  have c1 := nx_ok (m := 2147483647) e1 (by rw [n1]; exact b2)
  have c2 := nx_ok (m := 1048576) e2 (by rw [n2]; exact v2)
  have c3 := nx_ok (m := 1073741824) e3 (by rw [n3]; exact r2)
  have c4 := nx_ok (m := 1023) e4 (by rw [n4]; exact hs)
  obtain ⟨k, b, v, r, h, a, s, c⟩ := x
  simp only at hk hh ha hc n1 n2 n3 n4 w4
  subst hk; subst hh; subst ha; subst hc
  simp only [o0, n0, o1, n1, o2, n2, o3, n3, o4, n4, rx_ok, w4, hok, c0, c1, c2, c3, c4]
  generalize p (4 + 1) = o
  rcases dE_ok (t := t) (off := o) with hd | hd
  · repeat' (first | refine wC (by first | omega | (simp only [W1, cond_true, cond_false, hd]; first | done | omega)) ?_ | refine wT (by first | omega | (simp only [W1, cond_true, cond_false, hd]; first | done | omega)) ?_ | refine wF (by intro _h; first | omega | (simp only [W1, cond_true, cond_false, hd] at _h; first | done | omega)) ?_ | (refine wS ?_ ?_ <;> intro _h <;> simp only [W1, cond_true, cond_false, hd] at _h))
    all_goals simp only [or_true, true_or, false_or, or_false, and_false, false_and, cond_true, cond_false, Bool.not_true, Bool.not_false, Bool.false_eq_true, Bool.true_eq_false, not_true_eq_false, not_false_eq_true, false_implies, true_implies, implies_true, Nat.blt_eq, owesN, owesX, owesR, notT, sat_brT, sat_brF, sat_chkT, cl_iff, cl_false, AV.le_refl, AV.le_any, OLe_refl, OLe_none, sat_brN, Tree.sat_chk, Tree.sat_leaf, Tree.sat_fail, Nat.zero_add, Nat.sub_zero, Int.toNat_natCast, LeH_cons, LeH_nil, LeL_cons, LeL_nil, and_true, true_and, Bool.and_eq_true, Bool.or_eq_true, decide_eq_true_eq, decide_eq_false_iff_not, Bool.cond_true_left, Bool.cond_false_right, List.cons_append, List.nil_append, List.map_cons, List.map_nil, hd]
    repeat' (first | apply And.intro | intro _hc)
    all_goals first | exact AV.le_refl _ | exact AV.le_any _ | exact OLe.refl _ | exact OLe.none _ | exact LeH.refl _ | exact LeL.refl _ | exact AV.le.bs _ | exact AV.le.sb _ | omega | contradiction
  · repeat' (first | refine wC (by first | omega | (simp only [W1, cond_true, cond_false, hd]; first | done | omega)) ?_ | refine wT (by first | omega | (simp only [W1, cond_true, cond_false, hd]; first | done | omega)) ?_ | refine wF (by intro _h; first | omega | (simp only [W1, cond_true, cond_false, hd] at _h; first | done | omega)) ?_ | (refine wS ?_ ?_ <;> intro _h <;> simp only [W1, cond_true, cond_false, hd] at _h))
    all_goals simp only [or_true, true_or, false_or, or_false, and_false, false_and, cond_true, cond_false, Bool.not_true, Bool.not_false, Bool.false_eq_true, Bool.true_eq_false, not_true_eq_false, not_false_eq_true, false_implies, true_implies, implies_true, Nat.blt_eq, owesN, owesX, owesR, notT, sat_brT, sat_brF, sat_chkT, cl_iff, cl_false, AV.le_refl, AV.le_any, OLe_refl, OLe_none, sat_brN, Tree.sat_chk, Tree.sat_leaf, Tree.sat_fail, Nat.zero_add, Nat.sub_zero, Int.toNat_natCast, LeH_cons, LeH_nil, LeL_cons, LeL_nil, and_true, true_and, Bool.and_eq_true, Bool.or_eq_true, decide_eq_true_eq, decide_eq_false_iff_not, Bool.cond_true_left, Bool.cond_false_right, List.cons_append, List.nil_append, List.map_cons, List.map_nil, hd]
    repeat' (first | apply And.intro | intro _hc)
    all_goals first | exact AV.le_refl _ | exact AV.le_any _ | exact OLe.refl _ | exact OLe.none _ | exact LeH.refl _ | exact LeL.refl _ | exact AV.le.bs _ | exact AV.le.sb _ | omega | contradiction
  )
theorem take2 {t : ByteArray} (hz : t.size ≤ 1000000000000) {x : Ct} (hw : x.wide) (hok : x.ok = true) (hk : x.k = 2) (hf : x.wf = true) (h1 : 1 ≤ x.h) (h2 : x.h ≤ 3) (h3 : 0 ≤ x.a) (h4 : x.a ≤ 9) (hs : x.s ≤ 1023) (hc : x.c ≤ 1023) {p : Nat → Nat} (hp : p 0 = 0) (hr : Reads t (gC x) p 8) : AnsT t x (p 8) := answers (fn := Try.f43) (c := bodyOf Try.f43) (ntmps := 53) (results := [.cell 2 75]) [Z.c93, hNx t hz, hDn t] Lno false Try.func43 (by kernel_rfl) (by kernel_rfl) (by kernel_rfl) (by kernel_rfl) (by simp) rfl (noLoops (by kernel_rfl)) (by
  refine Meets.of (runTk t hz 0) ?_
  obtain ⟨b1, b2, v1, v2, r1, r2⟩ := wf_nums hf
  obtain ⟨s1, s2, y1, y2⟩ := hw
  obtain ⟨n0, o0, e0⟩ := hr 0 (by omega)
  obtain ⟨n1, o1, e1⟩ := hr 1 (by omega)
  obtain ⟨n2, o2, e2⟩ := hr 2 (by omega)
  obtain ⟨n3, o3, e3⟩ := hr 3 (by omega)
  obtain ⟨n4, o4, e4⟩ := hr 4 (by omega)
  obtain ⟨n5, o5, e5⟩ := hr 5 (by omega)
  obtain ⟨n6, o6, e6⟩ := hr 6 (by omega)
  obtain ⟨n7, o7, e7⟩ := hr 7 (by omega)
  rw [hp] at n0 o0 e0
  have g0 : gC x 0 = 2 := hk
  have g1 : gC x 1 = x.b := rfl
  have g2 : gC x 2 = x.v := rfl
  have g3 : gC x 3 = x.r := rfl
  have g4 : gC x 4 = x.s := rfl
  have g5 : gC x 5 = x.h := rfl
  have g6 : gC x 6 = x.a := rfl
  have g7 : gC x 7 = x.c := rfl
  rw [g0] at n0; rw [g1] at n1; rw [g2] at n2; rw [g3] at n3; rw [g4] at n4; rw [g5] at n5; rw [g6] at n6; rw [g7] at n7
  have w4 := wrapU s1 s2
  have w7 := wrapU y1 y2
  have c0 := nx_ok (m := 2) e0 (by rw [n0]; decide)
  have c1 := nx_ok (m := 2147483647) e1 (by rw [n1]; exact b2)
  have c2 := nx_ok (m := 1048576) e2 (by rw [n2]; exact v2)
  have c3 := nx_ok (m := 1073741824) e3 (by rw [n3]; exact r2)
  have c4 := nx_ok (m := 1023) e4 (by rw [n4]; exact hs)
  have c5 := nx_ok (m := 3) e5 (by rw [n5]; exact h2)
  have c6 := nx_ok (m := 9) e6 (by rw [n6]; exact h4)
  have c7 := nx_ok (m := 1023) e7 (by rw [n7]; exact hc)
  obtain ⟨k, b, v, r, h, a, s, c⟩ := x
  simp only at hk n1 n2 n3 n4 n5 n6 n7 w4 w7
  subst hk
  simp only [o0, n0, o1, n1, o2, n2, o3, n3, o4, n4, o5, n5, o6, n6, o7, n7, rx_ok, w4, w7, hok, c0, c1, c2, c3, c4, c5, c6, c7]
  generalize p (7 + 1) = o
  rcases dE_ok (t := t) (off := o) with hd | hd
  · repeat' (first | refine wC (by first | omega | (simp only [W1, cond_true, cond_false, hd]; first | done | omega)) ?_ | refine wT (by first | omega | (simp only [W1, cond_true, cond_false, hd]; first | done | omega)) ?_ | refine wF (by intro _h; first | omega | (simp only [W1, cond_true, cond_false, hd] at _h; first | done | omega)) ?_ | (refine wS ?_ ?_ <;> intro _h <;> simp only [W1, cond_true, cond_false, hd] at _h))
    all_goals simp only [or_true, true_or, false_or, or_false, and_false, false_and, cond_true, cond_false, Bool.not_true, Bool.not_false, Bool.false_eq_true, Bool.true_eq_false, not_true_eq_false, not_false_eq_true, false_implies, true_implies, implies_true, Nat.blt_eq, owesN, owesX, owesR, notT, sat_brT, sat_brF, sat_chkT, cl_iff, cl_false, AV.le_refl, AV.le_any, OLe_refl, OLe_none, sat_brN, Tree.sat_chk, Tree.sat_leaf, Tree.sat_fail, Nat.zero_add, Nat.sub_zero, Int.toNat_natCast, LeH_cons, LeH_nil, LeL_cons, LeL_nil, and_true, true_and, Bool.and_eq_true, Bool.or_eq_true, decide_eq_true_eq, decide_eq_false_iff_not, Bool.cond_true_left, Bool.cond_false_right, List.cons_append, List.nil_append, List.map_cons, List.map_nil, hd]
    repeat' (first | apply And.intro | intro _hc)
    all_goals first | exact AV.le_refl _ | exact AV.le_any _ | exact OLe.refl _ | exact OLe.none _ | exact LeH.refl _ | exact LeL.refl _ | exact AV.le.bs _ | exact AV.le.sb _ | omega | contradiction
  · repeat' (first | refine wC (by first | omega | (simp only [W1, cond_true, cond_false, hd]; first | done | omega)) ?_ | refine wT (by first | omega | (simp only [W1, cond_true, cond_false, hd]; first | done | omega)) ?_ | refine wF (by intro _h; first | omega | (simp only [W1, cond_true, cond_false, hd] at _h; first | done | omega)) ?_ | (refine wS ?_ ?_ <;> intro _h <;> simp only [W1, cond_true, cond_false, hd] at _h))
    all_goals simp only [or_true, true_or, false_or, or_false, and_false, false_and, cond_true, cond_false, Bool.not_true, Bool.not_false, Bool.false_eq_true, Bool.true_eq_false, not_true_eq_false, not_false_eq_true, false_implies, true_implies, implies_true, Nat.blt_eq, owesN, owesX, owesR, notT, sat_brT, sat_brF, sat_chkT, cl_iff, cl_false, AV.le_refl, AV.le_any, OLe_refl, OLe_none, sat_brN, Tree.sat_chk, Tree.sat_leaf, Tree.sat_fail, Nat.zero_add, Nat.sub_zero, Int.toNat_natCast, LeH_cons, LeH_nil, LeL_cons, LeL_nil, and_true, true_and, Bool.and_eq_true, Bool.or_eq_true, decide_eq_true_eq, decide_eq_false_iff_not, Bool.cond_true_left, Bool.cond_false_right, List.cons_append, List.nil_append, List.map_cons, List.map_nil, hd]
    repeat' (first | apply And.intro | intro _hc)
    all_goals first | exact AV.le_refl _ | exact AV.le_any _ | exact OLe.refl _ | exact OLe.none _ | exact LeH.refl _ | exact LeL.refl _ | exact AV.le.bs _ | exact AV.le.sb _ | omega | contradiction
  )
end Go.Eng.SB.R

namespace Go.Eng.SB.B
open Go Go.Eng Go.Eng.SB Go.Eng.SB.R Go.Eng.RD Go.Lib Go.Proofs
structure En where
  num : Int
  kind : Int
  bytes : ByteArray
instance : Inhabited En := ⟨⟨0, 0, ⟨#[]⟩⟩⟩
def En.c (x : En) : List AV := [.v (.int .i64 x.num), .v (.int .i64 x.kind), .v (.string x.bytes)]
def En.cells (x : En) : List Value := [.int .i64 x.num, .int .i64 x.kind, .string x.bytes]
theorem En.cod : Cod En.c 3 := ⟨fun _ => rfl, fun b x y => by cases b <;> rfl⟩
theorem En.dec (vs : List Value) (h0 : GoodVs [.int .i64, .int .i64, .str] vs) : ∃ a : En, vs = a.cells := by
  obtain ⟨_, _, rfl, ⟨a0, rfl, _⟩, h1⟩ := h0.cons
  obtain ⟨_, _, rfl, ⟨a1, rfl, _⟩, h2⟩ := h1.cons
  obtain ⟨_, _, rfl, ⟨a2, rfl, _⟩, h3⟩ := h2.cons
  obtain rfl := h3.nil
  exact ⟨⟨a0, a1, a2⟩, rfl⟩
abbrev En.ks : List Cel := [.int .i64, .int .i64, .str]
def En.av (x : En) : AV := .agg (En.c x)
theorem wN {α : Type} {Q : α → Prop} {c : Bool} {t e : Tree α} (h : c = false) (he : e.sat Q) : (Tree.br c t e).sat Q := ⟨fun q => by rw [h] at q; exact absurd q (by decide), fun _ => he⟩
def gL (x : En) : Nat → Int
  | 0 => x.num
  | 1 => x.kind
  | _ => 0
def En.w1 (x : En) : Prop := ¬ x.num < 1 ∧ ¬ 4611686018427387904 < x.num ∧ (x.kind = 1 ∨ x.kind = 2)
def En.w2 (x : En) : Prop := x.bytes.size ≤ 4194304
def inB (x : En) : ByteArray := catN (gL x) 2 ++ x.bytes
def lineB (x : En) : ByteArray := dressB (inB x) ++ ⟨#[0]⟩
structure LR where
  t : ByteArray
  e : Int
open Classical in
noncomputable def lnR (x : En) : LR := if x.w1 then if x.w2 then ⟨lineB x, 0⟩ else ⟨⟨#[]⟩, 2⟩ else ⟨⟨#[]⟩, 1⟩
def NumsOK (x : En) : Prop := Answers Try.prog Γb 82 [.hs 0 0 2] [.arr 1 2 (i64F (gL x))] (.tup [.hs 1 0 (catN (gL x) 2).size, .v (.int .i64 0)]) [some (.arr 1 2 (i64F (gL x)))] [.arr 1 (catN (gL x) 2).size (bsF (catN (gL x) 2))]
theorem runLn (x : En) (h : NumsOK x) : bodyE (P := Try.prog) (Γ := Γb) [CT.at 82 h, kDr] Lno false 44 [.tmp 2, .tmp 3] (bodyOf Try.f26) [x.av] [] =
  Tree.br (bif decide (x.num < (1 : Int)) then true else decide ((4611686018427387904 : Int) < x.num)) (Tree.br (bif decide (x.num < (1 : Int)) then true else decide ((4611686018427387904 :
    Int) < x.num)) (Tree.leaf (Ans.mk (AV.tup [AV.v (Value.string (ByteArray.mk #[])), AV.v (Value.int IntKind.i64 (1 : Int))]) [])) (Tree.br (decide ((4194304 : Int) < (↑(ByteArray.size
    x.bytes) : Int))) (Tree.leaf (Ans.mk (AV.tup [AV.v (Value.string (ByteArray.mk #[])), AV.v (Value.int IntKind.i64 (2 : Int))]) [])) (Tree.chk (cl (LeL [AV.hs (0 : Nat) (0 : Nat) (2 :
    Nat)] [AV.hs (0 : Nat) (0 : Nat) (2 : Nat)] ∧ LeH [some (Blk.arr (1 : Nat) (2 : Nat) fun x_1 => [AV.v (Value.int IntKind.i64 (bif Nat.beq x_1 (0 : Nat) then x.num else bif Nat.beq x_1 (1
    : Nat) then x.kind else (0 : Int)))])] [some (Blk.arr (1 : Nat) (2 : Nat) fun j => [AV.v (Value.int IntKind.i64 (gL x j))])])) (Tree.chk ((allBytes (ByteArray.size (catN (gL x) (2 :
    Nat))) fun j => [AV.v (Value.int IntKind.u8 (sbyte (catN (gL x) (2 : Nat)) ((0 : Nat) + j)))]) && (decide (ByteArray.size (textOf (ByteArray.size (catN (gL x) (2 : Nat))) fun j => [AV.v
    (Value.int IntKind.u8 (sbyte (catN (gL x) (2 : Nat)) ((0 : Nat) + j)))]) + ByteArray.size x.bytes ≤ (9223372036854775807 : Nat)) && (Nat.ble (ByteArray.size ((textOf (ByteArray.size
    (catN (gL x) (2 : Nat))) fun j => [AV.v (Value.int IntKind.u8 (sbyte (catN (gL x) (2 : Nat)) ((0 : Nat) + j)))]) ++ x.bytes)) (1000000000 : Nat) && decide (ByteArray.size (dressB
    ((textOf (ByteArray.size (catN (gL x) (2 : Nat))) fun j => [AV.v (Value.int IntKind.u8 (sbyte (catN (gL x) (2 : Nat)) ((0 : Nat) + j)))]) ++ x.bytes)) + (1 : Nat) ≤ (9223372036854775807
    : Nat))))) (Tree.leaf (Ans.mk (AV.tup [AV.v (Value.string (dressB ((textOf (ByteArray.size (catN (gL x) (2 : Nat))) fun j => [AV.v (Value.int IntKind.u8 (sbyte (catN (gL x) (2 : Nat))
    ((0 : Nat) + j)))]) ++ x.bytes) ++ ByteArray.mk #[(0 : UInt8)])), AV.v (Value.int IntKind.i64 (0 : Int))]) [])))))) (Tree.br (bif !decide (x.kind = (1 : Int)) then !decide (x.kind = (2 :
    Int)) else false) (Tree.leaf (Ans.mk (AV.tup [AV.v (Value.string (ByteArray.mk #[])), AV.v (Value.int IntKind.i64 (1 : Int))]) [])) (Tree.br (decide ((4194304 : Int) < (↑(ByteArray.size
    x.bytes) : Int))) (Tree.leaf (Ans.mk (AV.tup [AV.v (Value.string (ByteArray.mk #[])), AV.v (Value.int IntKind.i64 (2 : Int))]) [])) (Tree.chk (cl (LeL [AV.hs (0 : Nat) (0 : Nat) (2 :
    Nat)] [AV.hs (0 : Nat) (0 : Nat) (2 : Nat)] ∧ LeH [some (Blk.arr (1 : Nat) (2 : Nat) fun x_1 => [AV.v (Value.int IntKind.i64 (bif Nat.beq x_1 (0 : Nat) then x.num else bif Nat.beq x_1 (1
    : Nat) then x.kind else (0 : Int)))])] [some (Blk.arr (1 : Nat) (2 : Nat) fun j => [AV.v (Value.int IntKind.i64 (gL x j))])])) (Tree.chk ((allBytes (ByteArray.size (catN (gL x) (2 :
    Nat))) fun j => [AV.v (Value.int IntKind.u8 (sbyte (catN (gL x) (2 : Nat)) ((0 : Nat) + j)))]) && (decide (ByteArray.size (textOf (ByteArray.size (catN (gL x) (2 : Nat))) fun j => [AV.v
    (Value.int IntKind.u8 (sbyte (catN (gL x) (2 : Nat)) ((0 : Nat) + j)))]) + ByteArray.size x.bytes ≤ (9223372036854775807 : Nat)) && (Nat.ble (ByteArray.size ((textOf (ByteArray.size
    (catN (gL x) (2 : Nat))) fun j => [AV.v (Value.int IntKind.u8 (sbyte (catN (gL x) (2 : Nat)) ((0 : Nat) + j)))]) ++ x.bytes)) (1000000000 : Nat) && decide (ByteArray.size (dressB
    ((textOf (ByteArray.size (catN (gL x) (2 : Nat))) fun j => [AV.v (Value.int IntKind.u8 (sbyte (catN (gL x) (2 : Nat)) ((0 : Nat) + j)))]) ++ x.bytes)) + (1 : Nat) ≤ (9223372036854775807
    : Nat))))) (Tree.leaf (Ans.mk (AV.tup [AV.v (Value.string (dressB ((textOf (ByteArray.size (catN (gL x) (2 : Nat))) fun j => [AV.v (Value.int IntKind.u8 (sbyte (catN (gL x) (2 : Nat))
    ((0 : Nat) + j)))]) ++ x.bytes) ++ ByteArray.mk #[(0 : UInt8)])), AV.v (Value.int IntKind.i64 (0 : Int))]) [])))))) := by kernel_rfl
theorem runLn0 (x : En) : bodyE (P := Try.prog) (Γ := Γb) [] Lno false 44 [.tmp 2, .tmp 3] (bodyOf Try.f26) [x.av] [] =
  Tree.br (bif decide (x.num < (1 : Int)) then true else decide ((4611686018427387904 : Int) < x.num)) (Tree.br (bif decide (x.num < (1 : Int)) then true else decide ((4611686018427387904 :
    Int) < x.num)) (Tree.leaf (Ans.mk (AV.tup [AV.v (Value.string (ByteArray.mk #[])), AV.v (Value.int IntKind.i64 (1 : Int))]) [])) (Tree.br (decide ((4194304 : Int) < (↑(ByteArray.size
    x.bytes) : Int))) (Tree.leaf (Ans.mk (AV.tup [AV.v (Value.string (ByteArray.mk #[])), AV.v (Value.int IntKind.i64 (2 : Int))]) [])) Tree.fail)) (Tree.br (bif !decide (x.kind = (1 : Int))
    then !decide (x.kind = (2 : Int)) else false) (Tree.leaf (Ans.mk (AV.tup [AV.v (Value.string (ByteArray.mk #[])), AV.v (Value.int IntKind.i64 (1 : Int))]) [])) (Tree.br (decide ((4194304
    : Int) < (↑(ByteArray.size x.bytes) : Int))) (Tree.leaf (Ans.mk (AV.tup [AV.v (Value.string (ByteArray.mk #[])), AV.v (Value.int IntKind.i64 (2 : Int))]) [])) Tree.fail)) := by kernel_rfl
theorem text0 (t : ByteArray) : (textOf t.size fun j => [AV.v (Value.int IntKind.u8 (sbyte t ((0 : Nat) + j)))]) = t := by
  have : (fun j => [AV.v (Value.int IntKind.u8 (sbyte t ((0 : Nat) + j)))]) = bsF t := by funext j; rw [Nat.zero_add]; rfl
  rw [this, textOf_bsF]
theorem all0 (n : Nat) (t : ByteArray) : (allBytes n fun j => [AV.v (Value.int IntKind.u8 (sbyte t ((0 : Nat) + j)))]) = true := by
  have : (fun j => [AV.v (Value.int IntKind.u8 (sbyte t ((0 : Nat) + j)))]) = bsF t := by funext j; rw [Nat.zero_add]; rfl
  rw [this, allBytes_bsF]
theorem dressB_size (s : ByteArray) : (dressB s).size ≤ 2 * s.size := by
  have := dress_len s.data.toList
  show (dress s.data.toList).toArray.size ≤ _
  rw [List.size_toArray, Lib.size_eq]; exact this
theorem naL {x : En} (h : x.w1) : (NA.hs (1 + 1) (gL x)).ok := by
  obtain ⟨h1, h2, h3⟩ := h
  exact ⟨fun j hj => match j, hj with
    | 0, _ => okN_le (by show 0 ≤ x.num; omega) (by show x.num ≤ _; omega)
    | 1, _ => okN_le (by show 0 ≤ x.kind; omega) (by show x.kind ≤ _; omega)
    | j + 2, h => absurd h (by show ¬ j + 2 < 1 + 1; omega), by show 1 + 1 ≤ 100000; omega, fun _ => by show 0 < 1 + 1; omega⟩
theorem numsOK {x : En} (h : x.w1) : NumsOK x := ansNumsH 1 (gL x) (naL h)
theorem cat_small {x : En} (h : x.w1) : (catN (gL x) 2).size ≤ 18 := by
  have := (catN_small (g := gL x) (i := 2) (naL h).1).1
  omega
theorem okL (x : En) : OLe (some (.arr 1 2 fun j => [.v (.int .i64 (bif Nat.beq j 0 then x.num else bif Nat.beq j 1 then x.kind else 0))])) (some (.arr 1 2 (i64F (gL x)))) := by
  refine .some (.arr (fun e he => ?_) fun _ => rfl)
  match e, he with
  | 0, _ => exact LeL.refl _
  | 1, _ => exact LeL.refl _
  | e + 2, he => omega
theorem ansLn (x : En) : Answers Try.prog Γb 26 [x.av] [] (.tup [.v (.string (lnR x).t), .v (.int .i64 (lnR x).e)]) [] [] := by
  by_cases h1 : x.w1
  · have hn := numsOK h1
    have hz := cat_small h1
    refine answers (fn := Try.f26) (c := bodyOf Try.f26) (ntmps := 44) (results := [.tmp 2, .tmp 3]) [CT.at 82 hn, kDr] Lno false Try.func26 (by kernel_rfl) (by kernel_rfl) (by kernel_rfl) (by kernel_rfl) (by simp) rfl (failOK fun _ _ _ => rfl) (Meets.of (runLn x hn) ?_)
    obtain ⟨a1, a2, a3⟩ := h1
    have c1 : (bif decide (x.num < (1 : Int)) then true else decide ((4611686018427387904 : Int) < x.num)) = false := by rw [decide_eq_false a1, decide_eq_false a2]; rfl
    have c2 : (bif !decide (x.kind = (1 : Int)) then !decide (x.kind = (2 : Int)) else false) = false := by
      rcases a3 with h | h
      · rw [h]; rfl
      · rw [h]; rfl
    by_cases h2 : x.w2
    · have e : lnR x = ⟨lineB x, 0⟩ := by unfold lnR; rw [if_pos ⟨a1, a2, a3⟩, if_pos h2]
      have c3 : decide ((4194304 : Int) < (x.bytes.size : Int)) = false := decide_eq_false (by unfold En.w2 at h2; omega)
      have hs2 : x.bytes.size ≤ 4194304 := h2
      rw [e, c1, c2, c3]
      simp only [text0, all0]
      have hd := dressB_size (catN (gL x) 2 ++ x.bytes)
      rw [ByteArray.size_append] at hd
      have g1 : decide ((catN (gL x) 2).size + x.bytes.size ≤ 9223372036854775807) = true := decide_eq_true (by omega)
      have g2 : Nat.ble (catN (gL x) 2 ++ x.bytes).size 1000000000 = true := Nat.ble_eq_true_of_le (by rw [ByteArray.size_append]; omega)
      have g3 : decide ((dressB (catN (gL x) 2 ++ x.bytes)).size + 1 ≤ 9223372036854775807) = true := decide_eq_true (by omega)
      rw [g1, g2, g3]
      refine wN rfl (wN rfl (wN rfl (wC (cl_iff.2 ⟨LeL.refl _, ?_⟩) (wC rfl ⟨.refl _, trivial⟩))))
      exact ⟨okL x, trivial⟩
    · have e : lnR x = ⟨⟨#[]⟩, 2⟩ := by unfold lnR; rw [if_pos ⟨a1, a2, a3⟩, if_neg h2]
      have c3 : decide ((4194304 : Int) < (x.bytes.size : Int)) = true := decide_eq_true (by unfold En.w2 at h2; omega)
      rw [e, c1, c2, c3]
      exact wN rfl (wN rfl (wT rfl ⟨.refl _, trivial⟩))
  · have e : lnR x = ⟨⟨#[]⟩, 1⟩ := by unfold lnR; rw [if_neg h1]
    refine answers (fn := Try.f26) (c := bodyOf Try.f26) (ntmps := 44) (results := [.tmp 2, .tmp 3]) [] Lno false Try.func26 (by kernel_rfl) (by kernel_rfl) (by kernel_rfl) (by kernel_rfl) (by simp) rfl (failOK fun _ _ _ => rfl) (Meets.of (runLn0 x) ?_)
    rw [e]
    by_cases a : x.num < 1 ∨ 4611686018427387904 < x.num
    · have c1 : (bif decide (x.num < (1 : Int)) then true else decide ((4611686018427387904 : Int) < x.num)) = true := by rcases a with h | h <;> simp [h]
      rw [c1]
      exact wT rfl (wT rfl ⟨.refl _, trivial⟩)
    · have c1 : (bif decide (x.num < (1 : Int)) then true else decide ((4611686018427387904 : Int) < x.num)) = false := by rw [decide_eq_false (by omega), decide_eq_false (by omega)]; rfl
      have hk : ¬ (x.kind = 1 ∨ x.kind = 2) := fun h => h1 ⟨by omega, by omega, h⟩
      have c2 : (bif !decide (x.kind = (1 : Int)) then !decide (x.kind = (2 : Int)) else false) = true := by rw [decide_eq_false (fun h => hk (.inl h)), decide_eq_false (fun h => hk (.inr h))]; rfl
      rw [c1, c2]
      exact wN rfl (wT rfl ⟨.refl _, trivial⟩)
def toEn : List AV → List Blk → Option En
  | [.agg [.v (.int .i64 n), .v (.int .i64 k), .v (.string b)]], [] => some ⟨n, k, b⟩
  | _, _ => none
theorem toEn_inv {args : List AV} {Hin : List Blk} {x : En} (h : toEn args Hin = some x) : args = [x.av] ∧ Hin = [] := by
  unfold toEn at h
  split at h
  · cases h; exact ⟨rfl, rfl⟩
  · cases h
noncomputable def hLn : CT Try.prog Γb := CT.ex 26 toEn (fun _ => True) (fun x => .tup [.v (.string (lnR x).t), .v (.int .i64 (lnR x).e)]) (fun _ => []) (fun _ => [])
  (callFunc_enters Try.func26 (by kernel_rfl) (by kernel_rfl)) (fun args Hin x hx hp => by
    obtain ⟨rfl, rfl⟩ := toEn_inv hx
    exact (ansLn x).cU rfl)
end Go.Eng.SB.B

namespace Go.Eng.SB.B
open Go Go.Eng Go.Eng.SB Go.Eng.SB.R Go.Eng.RD Go.Lib Go.Proofs
noncomputable def k144 : CT Try.prog Γb := CT.auto false 100 2 [] 144 Try.f144 (bodyOf Try.f144) false 21 [.tmp 4] Try.func144 (by kernel_rfl) (by kernel_rfl) (by kernel_rfl) (by kernel_rfl)
noncomputable def k122 : CT Try.prog Γb := CT.auto false 100 2 [k144] 122 Try.f122 (bodyOf Try.f122) false 18 [.tmp 4, .tmp 5] Try.func122 (by kernel_rfl) (by kernel_rfl) (by kernel_rfl) (by kernel_rfl)
theorem runCut (s : ByteArray) : bodyE (P := Try.prog) (Γ := Γb) [k122] Lno false 11 [.tmp 4, .tmp 5] (bodyOf Try.f86) [.v (.string s), .v (.string ⟨#[0]⟩)] [] =
  Tree.chk ((bif decide ((↑(1 : Nat) : Int) ≤ (↑(ByteArray.size s) : Int)) then decide ((0 : Int) ≤ IntKind.wrap IntKind.i64 ((↑(ByteArray.size s) : Int) - (↑(1 : Nat) : Int))) && decide
    (IntKind.wrap IntKind.i64 ((↑(ByteArray.size s) : Int) - (↑(1 : Nat) : Int)) ≤ (↑(ByteArray.size s) : Int)) && decide ((↑(ByteArray.size s) : Int) ≤ (↑(ByteArray.size s) : Int)) else
    true) && bif !bif decide ((↑(1 : Nat) : Int) ≤ (↑(ByteArray.size s) : Int)) then decide (ByteArray.extract s (Int.toNat (IntKind.wrap IntKind.i64 ((↑(ByteArray.size s) : Int) - (↑(1 :
    Nat) : Int)))) (ByteArray.size s) = ByteArray.mk #[(0 : UInt8)]) else false then true else decide ((↑(0 : Nat) : Int) ≤ IntKind.wrap IntKind.i64 ((↑(ByteArray.size s) : Int) - (↑(1 :
    Nat) : Int))) && decide (IntKind.wrap IntKind.i64 ((↑(ByteArray.size s) : Int) - (↑(1 : Nat) : Int)) ≤ (↑(ByteArray.size s) : Int))) (Tree.leaf (Ans.mk (AV.tup [AV.v (Value.string (bif
    !bif decide ((↑(1 : Nat) : Int) ≤ (↑(ByteArray.size s) : Int)) then decide (ByteArray.extract s (Int.toNat (IntKind.wrap IntKind.i64 ((↑(ByteArray.size s) : Int) - (↑(1 : Nat) : Int))))
    (ByteArray.size s) = ByteArray.mk #[(0 : UInt8)]) else false then s else ByteArray.extract s (0 : Nat) (Int.toNat (IntKind.wrap IntKind.i64 ((↑(ByteArray.size s) : Int) - (↑(1 : Nat) :
    Int)))))), AV.sb (bif !bif decide ((↑(1 : Nat) : Int) ≤ (↑(ByteArray.size s) : Int)) then decide (ByteArray.extract s (Int.toNat (IntKind.wrap IntKind.i64 ((↑(ByteArray.size s) : Int) -
    (↑(1 : Nat) : Int)))) (ByteArray.size s) = ByteArray.mk #[(0 : UInt8)]) else false then false else true)]) [])) := by kernel_rfl
def CutOK (s u : ByteArray) (b : Bool) : Prop := Answers Try.prog Γb 86 [.v (.string s), .v (.string ⟨#[0]⟩)] [] (.tup [.v (.string u), .v (.bool b)]) [] []
def StripOK (u t : ByteArray) (e : Int) : Prop := Answers Try.prog Γb 24 [.v (.string u)] [] (.tup [.v (.string t), .v (.int .i64 e)]) [] []
def NewOK (t : ByteArray) : Prop := Answers Try.prog Γb 42 [.hs 0 0 t.size] [.arr 1 t.size (bsF t)] (.ptr 1 0) [some (.arr 1 t.size (bsF t))] [.row [.hs 2 0 t.size, .v (.int .i64 0)], .arr 1 t.size (bsF t)]
def New0 (g : Nat → List AV) : Prop := Answers Try.prog Γb 42 [.sl 1 0 g] [] (.ptr 0 0) [] (rdb ⟨#[]⟩ 0 0)
theorem runUnE (s u t : ByteArray) (e : Int) (h1 : CutOK s u false) (h2 : StripOK u t e) : bodyE (P := Try.prog) (Γ := Γb) [CT.at 86 h1, CT.at 24 h2] Lno false 65 [.cell 2 46, .tmp 3] (bodyOf Try.f28) [.v (.string s)] [] =
  Tree.chk (cl (LeL [AV.v (Value.string s), AV.v (Value.string (ByteArray.mk #[(0 : UInt8)]))] [AV.v (Value.string s), AV.v (Value.string (ByteArray.mk #[(0 : UInt8)]))] ∧ LeH [] []))
    (Tree.chk (cl (LeL [AV.v (Value.string u)] [AV.v (Value.string u)] ∧ LeH [] [])) (Tree.leaf (Ans.mk (AV.tup [AV.agg [AV.v (Value.int IntKind.i64 (0 : Int)), AV.v (Value.int IntKind.i64
    (0 : Int)), AV.v (Value.string (ByteArray.mk #[]))], AV.v (Value.int IntKind.i64 (180 : Int))]) []))) := by kernel_rfl
theorem runUnF (s u : ByteArray) (h1 : CutOK s u true) (h2 : StripOK u ⟨#[]⟩ 180) : bodyE (P := Try.prog) (Γ := Γb) [CT.at 86 h1, CT.at 24 h2] Lno false 65 [.cell 2 46, .tmp 3] (bodyOf Try.f28) [.v (.string s)] [] =
  Tree.chk (cl (LeL [AV.v (Value.string s), AV.v (Value.string (ByteArray.mk #[(0 : UInt8)]))] [AV.v (Value.string s), AV.v (Value.string (ByteArray.mk #[(0 : UInt8)]))] ∧ LeH [] []))
    (Tree.chk (cl (LeL [AV.v (Value.string u)] [AV.v (Value.string u)] ∧ LeH [] [])) (Tree.br true (Tree.leaf (Ans.mk (AV.tup [AV.agg [AV.v (Value.int IntKind.i64 (0 : Int)), AV.v (Value.int
    IntKind.i64 (0 : Int)), AV.v (Value.string (ByteArray.mk #[]))], AV.v (Value.int IntKind.i64 (180 : Int))]) [])) (Tree.br true Tree.fail Tree.fail))) := by kernel_rfl
theorem runUn (s u t : ByteArray) (hz : t.size ≤ 1000000000000) (h1 : CutOK s u true) (h2 : StripOK u t 0) (h3 : NewOK t) : bodyE (P := Try.prog) (Γ := Γb) [CT.at 86 h1, CT.at 24 h2, CT.at 42 h3, hRn t hz, hDn t, hRs t, hLn] Lno false 65 [.cell 2 46, .tmp 3] (bodyOf Try.f28) [.v (.string s)] [] =
  Tree.chk (cl (LeL [AV.v (Value.string s), AV.v (Value.string (ByteArray.mk #[(0 : UInt8)]))] [AV.v (Value.string s), AV.v (Value.string (ByteArray.mk #[(0 : UInt8)]))] ∧ LeH [] []))
    (Tree.chk (cl (LeL [AV.v (Value.string u)] [AV.v (Value.string u)] ∧ LeH [] [])) (Tree.br false (Tree.leaf (Ans.mk (AV.tup [AV.agg [AV.v (Value.int IntKind.i64 (0 : Int)), AV.v
    (Value.int IntKind.i64 (0 : Int)), AV.v (Value.string (ByteArray.mk #[]))], AV.v (Value.int IntKind.i64 (180 : Int))]) [])) (Tree.br (Nat.beq (ByteArray.size t) (0 : Nat)) (Tree.chk (cl
    (LeL [AV.sl (1 : Nat) (0 : Nat) fun j => [AV.v (Value.int IntKind.u8 (sbyte t j))]] [AV.hs (0 : Nat) (0 : Nat) (ByteArray.size t)] ∧ LeH [] [some (Blk.arr (1 : Nat) (ByteArray.size t)
    fun j => [AV.v (Value.int IntKind.u8 (sbyte t j))])])) Tree.fail) (Tree.chk (cl (LeL [AV.hs (0 : Nat) (0 : Nat) (ByteArray.size t)] [AV.hs (0 : Nat) (0 : Nat) (ByteArray.size t)] ∧ LeH
    [some (Blk.arr (1 : Nat) (ByteArray.size t) fun j => [AV.v (Value.int IntKind.u8 (sbyte t j))])] [some (Blk.arr (1 : Nat) (ByteArray.size t) fun j => [AV.v (Value.int IntKind.u8 (sbyte t
    j))])])) (Tree.chk (cl (RX.ok t (RX.mk (0 : Nat) (ByteArray.size t) (0 : Int) (ByteArray.size t) (bsF t)))) (Tree.chk (cl (RX.ok t (RX.mk (qO t (0 : Nat) (0 : Int)) (ByteArray.size t -
    qO t (0 : Nat) (0 : Int)) (qE t (0 : Nat) (0 : Int)) (ByteArray.size t) (bsF t)))) (Tree.chk (cl (RX.ok t (RX.mk (qO t (qO t (0 : Nat) (0 : Int)) (qE t (0 : Nat) (0 : Int)))
    (ByteArray.size t - qO t (qO t (0 : Nat) (0 : Int)) (qE t (0 : Nat) (0 : Int))) (qE t (qO t (0 : Nat) (0 : Int)) (qE t (0 : Nat) (0 : Int))) (ByteArray.size t) (bsF t)))) (Tree.br (bif
    !decide (dE t (qO t (qO t (0 : Nat) (0 : Int)) (qE t (0 : Nat) (0 : Int))) (qE t (qO t (0 : Nat) (0 : Int)) (qE t (0 : Nat) (0 : Int))) = (0 : Int)) then !decide (dE t (qO t (qO t (0 :
    Nat) (0 : Int)) (qE t (0 : Nat) (0 : Int))) (qE t (qO t (0 : Nat) (0 : Int)) (qE t (0 : Nat) (0 : Int))) = (32 : Int)) else false) (Tree.leaf (Ans.mk (AV.tup [AV.agg [AV.v (Value.int
    IntKind.i64 (0 : Int)), AV.v (Value.int IntKind.i64 (0 : Int)), AV.v (Value.string (ByteArray.mk #[]))], AV.v (Value.int IntKind.i64 (180 : Int))]) [])) (Tree.chk (cl (RX.ok t (RX.mk (qO
    t (qO t (0 : Nat) (0 : Int)) (qE t (0 : Nat) (0 : Int))) (ByteArray.size t - qO t (qO t (0 : Nat) (0 : Int)) (qE t (0 : Nat) (0 : Int))) (qE t (qO t (0 : Nat) (0 : Int)) (qE t (0 : Nat)
    (0 : Int))) (ByteArray.size t) (bsF t)))) (Tree.chk (decide ((0 : Int) ≤ IntKind.wrap IntKind.i64 ((↑(ByteArray.size t) : Int) - (↑(ByteArray.size t - qO t (qO t (0 : Nat) (0 : Int)) (qE
    t (0 : Nat) (0 : Int))) : Int))) && decide (IntKind.wrap IntKind.i64 ((↑(ByteArray.size t) : Int) - (↑(ByteArray.size t - qO t (qO t (0 : Nat) (0 : Int)) (qE t (0 : Nat) (0 : Int))) :
    Int)) ≤ (↑(ByteArray.size t) : Int)) && decide ((↑(ByteArray.size t) : Int) ≤ (↑(ByteArray.size t) : Int))) (Tree.chk (cl True) (Tree.br (!decide ((lnR (En.mk (qN t (0 : Nat) (0 : Int))
    (if (3 : Int) < qN t (qO t (0 : Nat) (0 : Int)) (qE t (0 : Nat) (0 : Int)) then (3 : Int) else qN t (qO t (0 : Nat) (0 : Int)) (qE t (0 : Nat) (0 : Int))) (ByteArray.extract t (Int.toNat
    (IntKind.wrap IntKind.i64 ((↑(ByteArray.size t) : Int) - (↑(ByteArray.size t - qO t (qO t (0 : Nat) (0 : Int)) (qE t (0 : Nat) (0 : Int))) : Int)))) (ByteArray.size t)))).e = (0 : Int)))
    (Tree.leaf (Ans.mk (AV.tup [AV.agg [AV.v (Value.int IntKind.i64 (0 : Int)), AV.v (Value.int IntKind.i64 (0 : Int)), AV.v (Value.string (ByteArray.mk #[]))], AV.v (Value.int IntKind.i64
    (180 : Int))]) [])) (Tree.leaf (Ans.mk (AV.tup [AV.agg [AV.v (Value.int IntKind.i64 (qN t (0 : Nat) (0 : Int))), AV.v (Value.int IntKind.i64 (if (3 : Int) < qN t (qO t (0 : Nat) (0 :
    Int)) (qE t (0 : Nat) (0 : Int)) then (3 : Int) else qN t (qO t (0 : Nat) (0 : Int)) (qE t (0 : Nat) (0 : Int)))), AV.v (Value.string (ByteArray.extract t (Int.toNat (IntKind.wrap
    IntKind.i64 ((↑(ByteArray.size t) : Int) - (↑(ByteArray.size t - qO t (qO t (0 : Nat) (0 : Int)) (qE t (0 : Nat) (0 : Int))) : Int)))) (ByteArray.size t)))], AV.v (Value.int IntKind.i64
    (0 : Int))]) [])))))))))))))) := by kernel_rfl
theorem runUn0 (s u t : ByteArray) (hz : (⟨#[]⟩ : ByteArray).size ≤ 1000000000000) (h1 : CutOK s u true) (h2 : StripOK u t 0) (h3 : New0 (bsF t)) : bodyE (P := Try.prog) (Γ := Γb) [CT.at 86 h1, CT.at 24 h2, CT.at 42 h3, hRn ⟨#[]⟩ hz, hDn ⟨#[]⟩, hRs ⟨#[]⟩, hLn] Lno false 65 [.cell 2 46, .tmp 3] (bodyOf Try.f28) [.v (.string s)] [] =
  Tree.chk (cl (LeL [AV.v (Value.string s), AV.v (Value.string (ByteArray.mk #[(0 : UInt8)]))] [AV.v (Value.string s), AV.v (Value.string (ByteArray.mk #[(0 : UInt8)]))] ∧ LeH [] []))
    (Tree.chk (cl (LeL [AV.v (Value.string u)] [AV.v (Value.string u)] ∧ LeH [] [])) (Tree.br false (Tree.leaf (Ans.mk (AV.tup [AV.agg [AV.v (Value.int IntKind.i64 (0 : Int)), AV.v
    (Value.int IntKind.i64 (0 : Int)), AV.v (Value.string (ByteArray.mk #[]))], AV.v (Value.int IntKind.i64 (180 : Int))]) [])) (Tree.br (Nat.beq (ByteArray.size t) (0 : Nat)) (Tree.chk (cl
    (LeL [AV.sl (1 : Nat) (0 : Nat) fun j => [AV.v (Value.int IntKind.u8 (sbyte t j))]] [AV.sl (1 : Nat) (0 : Nat) fun j => [AV.v (Value.int IntKind.u8 (sbyte t j))]] ∧ LeH [] [])) (Tree.chk
    (cl (RX.ok (ByteArray.mk #[]) (RX.mk (0 : Nat) (0 : Nat) (0 : Int) (0 : Nat) (bsF (ByteArray.mk #[]))))) (Tree.chk (cl (RX.ok (ByteArray.mk #[]) (RX.mk (qO (ByteArray.mk #[]) (0 : Nat)
    (0 : Int)) ((0 : Nat) - qO (ByteArray.mk #[]) (0 : Nat) (0 : Int)) (qE (ByteArray.mk #[]) (0 : Nat) (0 : Int)) (0 : Nat) (bsF (ByteArray.mk #[]))))) (Tree.chk (cl (RX.ok (ByteArray.mk
    #[]) (RX.mk (qO (ByteArray.mk #[]) (qO (ByteArray.mk #[]) (0 : Nat) (0 : Int)) (qE (ByteArray.mk #[]) (0 : Nat) (0 : Int))) ((0 : Nat) - qO (ByteArray.mk #[]) (qO (ByteArray.mk #[]) (0 :
    Nat) (0 : Int)) (qE (ByteArray.mk #[]) (0 : Nat) (0 : Int))) (qE (ByteArray.mk #[]) (qO (ByteArray.mk #[]) (0 : Nat) (0 : Int)) (qE (ByteArray.mk #[]) (0 : Nat) (0 : Int))) (0 : Nat)
    (bsF (ByteArray.mk #[]))))) (Tree.br (bif !decide (dE (ByteArray.mk #[]) (qO (ByteArray.mk #[]) (qO (ByteArray.mk #[]) (0 : Nat) (0 : Int)) (qE (ByteArray.mk #[]) (0 : Nat) (0 : Int)))
    (qE (ByteArray.mk #[]) (qO (ByteArray.mk #[]) (0 : Nat) (0 : Int)) (qE (ByteArray.mk #[]) (0 : Nat) (0 : Int))) = (0 : Int)) then !decide (dE (ByteArray.mk #[]) (qO (ByteArray.mk #[])
    (qO (ByteArray.mk #[]) (0 : Nat) (0 : Int)) (qE (ByteArray.mk #[]) (0 : Nat) (0 : Int))) (qE (ByteArray.mk #[]) (qO (ByteArray.mk #[]) (0 : Nat) (0 : Int)) (qE (ByteArray.mk #[]) (0 :
    Nat) (0 : Int))) = (32 : Int)) else false) (Tree.leaf (Ans.mk (AV.tup [AV.agg [AV.v (Value.int IntKind.i64 (0 : Int)), AV.v (Value.int IntKind.i64 (0 : Int)), AV.v (Value.string
    (ByteArray.mk #[]))], AV.v (Value.int IntKind.i64 (180 : Int))]) [])) (Tree.chk (cl (RX.ok (ByteArray.mk #[]) (RX.mk (qO (ByteArray.mk #[]) (qO (ByteArray.mk #[]) (0 : Nat) (0 : Int))
    (qE (ByteArray.mk #[]) (0 : Nat) (0 : Int))) ((0 : Nat) - qO (ByteArray.mk #[]) (qO (ByteArray.mk #[]) (0 : Nat) (0 : Int)) (qE (ByteArray.mk #[]) (0 : Nat) (0 : Int))) (qE (ByteArray.mk
    #[]) (qO (ByteArray.mk #[]) (0 : Nat) (0 : Int)) (qE (ByteArray.mk #[]) (0 : Nat) (0 : Int))) (0 : Nat) (bsF (ByteArray.mk #[]))))) (Tree.chk (decide ((0 : Int) ≤ IntKind.wrap
    IntKind.i64 ((↑(ByteArray.size t) : Int) - (↑((0 : Nat) - qO (ByteArray.mk #[]) (qO (ByteArray.mk #[]) (0 : Nat) (0 : Int)) (qE (ByteArray.mk #[]) (0 : Nat) (0 : Int))) : Int))) &&
    decide (IntKind.wrap IntKind.i64 ((↑(ByteArray.size t) : Int) - (↑((0 : Nat) - qO (ByteArray.mk #[]) (qO (ByteArray.mk #[]) (0 : Nat) (0 : Int)) (qE (ByteArray.mk #[]) (0 : Nat) (0 :
    Int))) : Int)) ≤ (↑(ByteArray.size t) : Int)) && decide ((↑(ByteArray.size t) : Int) ≤ (↑(ByteArray.size t) : Int))) (Tree.chk (cl True) (Tree.br (!decide ((lnR (En.mk (qN (ByteArray.mk
    #[]) (0 : Nat) (0 : Int)) (if (3 : Int) < qN (ByteArray.mk #[]) (qO (ByteArray.mk #[]) (0 : Nat) (0 : Int)) (qE (ByteArray.mk #[]) (0 : Nat) (0 : Int)) then (3 : Int) else qN
    (ByteArray.mk #[]) (qO (ByteArray.mk #[]) (0 : Nat) (0 : Int)) (qE (ByteArray.mk #[]) (0 : Nat) (0 : Int))) (ByteArray.extract t (Int.toNat (IntKind.wrap IntKind.i64 ((↑(ByteArray.size
    t) : Int) - (↑((0 : Nat) - qO (ByteArray.mk #[]) (qO (ByteArray.mk #[]) (0 : Nat) (0 : Int)) (qE (ByteArray.mk #[]) (0 : Nat) (0 : Int))) : Int)))) (ByteArray.size t)))).e = (0 : Int)))
    (Tree.leaf (Ans.mk (AV.tup [AV.agg [AV.v (Value.int IntKind.i64 (0 : Int)), AV.v (Value.int IntKind.i64 (0 : Int)), AV.v (Value.string (ByteArray.mk #[]))], AV.v (Value.int IntKind.i64
    (180 : Int))]) [])) (Tree.leaf (Ans.mk (AV.tup [AV.agg [AV.v (Value.int IntKind.i64 (qN (ByteArray.mk #[]) (0 : Nat) (0 : Int))), AV.v (Value.int IntKind.i64 (if (3 : Int) < qN
    (ByteArray.mk #[]) (qO (ByteArray.mk #[]) (0 : Nat) (0 : Int)) (qE (ByteArray.mk #[]) (0 : Nat) (0 : Int)) then (3 : Int) else qN (ByteArray.mk #[]) (qO (ByteArray.mk #[]) (0 : Nat) (0 :
    Int)) (qE (ByteArray.mk #[]) (0 : Nat) (0 : Int)))), AV.v (Value.string (ByteArray.extract t (Int.toNat (IntKind.wrap IntKind.i64 ((↑(ByteArray.size t) : Int) - (↑((0 : Nat) - qO
    (ByteArray.mk #[]) (qO (ByteArray.mk #[]) (0 : Nat) (0 : Int)) (qE (ByteArray.mk #[]) (0 : Nat) (0 : Int))) : Int)))) (ByteArray.size t)))], AV.v (Value.int IntKind.i64 (0 : Int))])
    []))))))))))) (Tree.chk (cl (LeL [AV.hs (0 : Nat) (0 : Nat) (ByteArray.size t)] [AV.sl (1 : Nat) (0 : Nat) fun j => [AV.v (Value.int IntKind.u8 (sbyte t j))]] ∧ LeH [some (Blk.arr (1 :
    Nat) (ByteArray.size t) fun j => [AV.v (Value.int IntKind.u8 (sbyte t j))])] [])) Tree.fail)))) := by kernel_rfl
end Go.Eng.SB.B

namespace Go.Eng.SB.B
open Go Go.Eng Go.Eng.SB Go.Eng.SB.R Go.Eng.RD Go.Lib Go.Proofs
theorem wrap64 {n : Int} (h : -9223372036854775808 ≤ n) (h' : n ≤ 9223372036854775807) : IntKind.i64.wrap n = n := by rw [wrap64E]; omega
theorem tup2 {a b c d : AV} (h1 : AV.le a c) (h2 : AV.le b d) : AV.le (.tup [a, b]) (.tup [c, d]) := .tup rfl fun j x y hx hy => by
  match j, hx, hy with
  | 0, hx, hy => cases hx; cases hy; exact h1
  | 1, hx, hy => cases hx; cases hy; exact h2
def endsZ (s : ByteArray) : Prop := 1 ≤ s.size ∧ s.extract (s.size - 1) s.size = ⟨#[0]⟩
noncomputable def o1 (t : ByteArray) : Nat := qO t 0 0
noncomputable def e1 (t : ByteArray) : Int := qE t 0 0
noncomputable def o2 (t : ByteArray) : Nat := qO t (o1 t) (e1 t)
noncomputable def e2 (t : ByteArray) : Int := qE t (o1 t) (e1 t)
noncomputable def k2 (t : ByteArray) : Int := qN t (o1 t) (e1 t)
noncomputable def unX (t : ByteArray) : En := ⟨qN t 0 0, if 3 < k2 t then 3 else k2 t, t.extract (o2 t) t.size⟩
def En.good (x : En) : Prop := x.w1 ∧ x.w2
open Classical in
noncomputable def unT (t : ByteArray) : Option En := if e2 t = 0 ∧ (unX t).good then some (unX t) else none
open Classical in
noncomputable def unl (s : ByteArray) : Option En := if endsZ s then (stripO (s.extract 0 (s.size - 1))).bind unT else none
def en0 : En := ⟨0, 0, ⟨#[]⟩⟩
def uA : Option En → AV
  | some x => .tup [x.av, .v (.int .i64 0)]
  | none => .tup [en0.av, .v (.int .i64 180)]
theorem cut_yes {s : ByteArray} (hs : s.size ≤ 1000000000) (h : endsZ s) : CutOK s (s.extract 0 (s.size - 1)) true := by
  refine answers (fn := Try.f86) (c := bodyOf Try.f86) (ntmps := 11) (results := [.tmp 4, .tmp 5]) [k122] Lno false Try.func86 (by kernel_rfl) (by kernel_rfl) (by kernel_rfl) (by kernel_rfl) (by simp) rfl (failOK fun _ _ _ => rfl) (Meets.of (runCut s) ?_)
  obtain ⟨h1, h2⟩ := h
  have w1 : IntKind.i64.wrap ((s.size : Int) - ((1 : Nat) : Int)) = (s.size : Int) - ((1 : Nat) : Int) := wrap64 (by omega) (by omega)
  have t1 : ((s.size : Int) - ((1 : Nat) : Int)).toNat = s.size - 1 := by omega
  have c1 : decide (((1 : Nat) : Int) ≤ (s.size : Int)) = true := decide_eq_true (by omega)
  have c2 : decide ((0 : Int) ≤ (s.size : Int) - ((1 : Nat) : Int)) = true := decide_eq_true (by omega)
  have c3 : decide ((s.size : Int) - ((1 : Nat) : Int) ≤ (s.size : Int)) = true := decide_eq_true (by omega)
  simp only [w1, t1, c1, c2, c3, h2, decide_true, Int.le_refl, cond_true, Bool.not_true, cond_false, Bool.and_self, Int.toNat_natCast]
  refine wC ?_ ⟨?_, trivial⟩
  · first | rfl | (simp; done) | (simp; omega)
  · first | exact .refl _ | exact tup2 (.refl _) (.bs _) | exact tup2 (.refl _) (.sb _)
theorem cut_no {s : ByteArray} (hs : s.size ≤ 1000000000) (h : ¬ endsZ s) : CutOK s s false := by
  refine answers (fn := Try.f86) (c := bodyOf Try.f86) (ntmps := 11) (results := [.tmp 4, .tmp 5]) [k122] Lno false Try.func86 (by kernel_rfl) (by kernel_rfl) (by kernel_rfl) (by kernel_rfl) (by simp) rfl (failOK fun _ _ _ => rfl) (Meets.of (runCut s) ?_)
  have w1 : IntKind.i64.wrap ((s.size : Int) - ((1 : Nat) : Int)) = (s.size : Int) - ((1 : Nat) : Int) := wrap64 (by omega) (by omega)
  have hf : (bif decide (((1 : Nat) : Int) ≤ (s.size : Int)) then decide (s.extract ((s.size : Int) - ((1 : Nat) : Int)).toNat s.size = ⟨#[0]⟩) else false) = false := by
    by_cases h1 : 1 ≤ s.size
    · have t1 : ((s.size : Int) - ((1 : Nat) : Int)).toNat = s.size - 1 := by omega
      rw [t1, decide_eq_true (show ((1 : Nat) : Int) ≤ (s.size : Int) by omega), cond_true]
      exact decide_eq_false fun q => h ⟨h1, q⟩
    · rw [decide_eq_false (show ¬ ((1 : Nat) : Int) ≤ (s.size : Int) by omega)]; rfl
  have hc : (bif decide (((1 : Nat) : Int) ≤ (s.size : Int)) then decide ((0 : Int) ≤ (s.size : Int) - ((1 : Nat) : Int)) && decide ((s.size : Int) - ((1 : Nat) : Int) ≤ (s.size : Int)) && decide ((s.size : Int) ≤ (s.size : Int)) else true) = true := by
    by_cases h1 : 1 ≤ s.size
    · rw [decide_eq_true (show ((1 : Nat) : Int) ≤ (s.size : Int) by omega), decide_eq_true (show (0 : Int) ≤ (s.size : Int) - ((1 : Nat) : Int) by omega), decide_eq_true (show (s.size : Int) - ((1 : Nat) : Int) ≤ (s.size : Int) by omega), decide_eq_true (Int.le_refl _)]; rfl
    · rw [decide_eq_false (show ¬ ((1 : Nat) : Int) ≤ (s.size : Int) by omega)]; rfl
  simp only [w1, Int.toNat_natCast]
  rw [hf, hc]
  exact wC rfl ⟨by first | exact .refl _ | exact tup2 (.refl _) (.bs _) | exact tup2 (.refl _) (.sb _), trivial⟩
end Go.Eng.SB.B

namespace Go.Eng.SB.B
open Go Go.Eng Go.Eng.SB Go.Eng.SB.R Go.Eng.RD Go.Lib Go.Proofs
theorem rx_ok (t : ByteArray) (o : Nat) (e : Int) : cl (RX.ok t ⟨o, t.size - o, e, t.size, bsF t⟩) = true := cl_iff.2 ⟨rfl, rfl, rfl⟩
theorem lnR_ok {x : En} : (decide ((lnR x).e = 0)) = true ↔ x.good := by
  unfold lnR En.good
  by_cases h1 : x.w1
  · rw [if_pos h1]
    by_cases h2 : x.w2
    · rw [if_pos h2]; exact ⟨fun _ => ⟨h1, h2⟩, fun _ => rfl⟩
    · rw [if_neg h2]; exact ⟨fun h => absurd h (by decide), fun h => absurd h.2 h2⟩
  · rw [if_neg h1]; exact ⟨fun h => absurd h (by decide), fun h => absurd h.1 h1⟩
theorem stripB_size {s t : ByteArray} (h : stripO s = some t) : t.size ≤ s.size := by
  have key : ∀ (l : List UInt8) (b : Bool) (r : List UInt8), sp b l = some r → r.length ≤ l.length := by
    intro l
    induction l with
    | nil => intro b r h; cases b <;> simp [sp] at h; rw [h]; exact Nat.le_refl _
    | cons c l ih =>
      intro b r h
      unfold sp at h
      split at h
      · obtain ⟨q, hq, rfl⟩ := Option.map_eq_some_iff.1 h
        have := ih _ _ hq
        simp; omega
      · split at h
        · cases h
        · split at h
          · have := ih _ _ h
            simp; omega
          · obtain ⟨q, hq, rfl⟩ := Option.map_eq_some_iff.1 h
            have := ih _ _ hq
            simp; omega
  unfold stripO at h
  obtain ⟨r, hr, rfl⟩ := Option.map_eq_some_iff.1 h
  have := key _ _ _ hr
  show r.toArray.size ≤ _
  rw [List.size_toArray, Lib.size_eq]; exact this
theorem o2_le (t : ByteArray) : o1 t ≤ o2 t ∧ o2 t ≤ t.size := by
  have h1 := qO_le (t := t) (off := 0) (e := 0) (Nat.zero_le _)
  have h2 := qO_le (t := t) (off := o1 t) (e := e1 t) h1.2
  exact h2
theorem ansUnT {s u t : ByteArray} (hs : s.size ≤ 1000000000) (ht : t.size ≤ 1000000000) (h1 : CutOK s u true) (h2 : StripOK u t 0) : Answers Try.prog Γb 28 [.v (.string s)] [] (uA (unT t)) [] [] := by
  have hz : t.size ≤ 1000000000000 := by omega
  have ho := o2_le t
  have fin : ∀ Q : Prop, Q → (e2 t = 0 ∧ (unX t).good → uA (unT t) = .tup [(unX t).av, .v (.int .i64 0)]) ∧ (¬ (e2 t = 0 ∧ (unX t).good) → uA (unT t) = .tup [en0.av, .v (.int .i64 180)]) := fun _ _ => ⟨fun h => by unfold unT; rw [if_pos h]; rfl, fun h => by unfold unT; rw [if_neg h]; rfl⟩
  obtain ⟨f1, f2⟩ := fin True trivial
  have w1 : IntKind.i64.wrap ((t.size : Int) - ((t.size - o2 t : Nat) : Int)) = (o2 t : Int) := by rw [wrap64 (by omega) (by omega)]; omega
  have dd : ∀ o : Nat, (bif !decide (dE t o (e2 t) = (0 : Int)) then !decide (dE t o (e2 t) = (32 : Int)) else false) = !decide (e2 t = 0) ∨ e2 t = 32 := fun o => by
    unfold dE
    by_cases he : e2 t = 0
    · left
      rw [he]
      by_cases hl : o < t.size
      · rw [if_pos ⟨rfl, hl⟩]; rfl
      · rw [if_neg (by intro h; exact hl h.2)]; rfl
    · by_cases h32 : e2 t = 32
      · exact .inr h32
      · left
        rw [if_neg (by intro h; exact he h.1), decide_eq_false he, decide_eq_false h32]; rfl
  have hne : ¬ e2 t = 32 := by
    have hq : ∀ (o : Nat) (e : Int), (e = 0 ∨ e = 30 ∨ e = 31) → (qE t o e = 0 ∨ qE t o e = 30 ∨ qE t o e = 31) := fun o e he => by
      unfold qE
      split
      · exact he
      · split
        · exact .inl rfl
        · split
          · exact .inr (.inl rfl)
          · exact .inr (.inr rfl)
    have := hq (o1 t) (e1 t) (hq 0 0 (.inl rfl))
    show ¬ qE t (o1 t) (e1 t) = 32
    omega
  have dd2 := fun o => (dd o).resolve_right hne
  by_cases he : t.size = 0
  · have htn : t = ⟨#[]⟩ := ByteArray.ext (Array.eq_empty_of_size_eq_zero he)
    have hz0 : (⟨#[]⟩ : ByteArray).size ≤ 1000000000000 := by show 0 ≤ _; omega
    have h3 : New0 (bsF t) := ansNwE
    subst htn
    refine answers (fn := Try.f28) (c := bodyOf Try.f28) (ntmps := 65) (results := [.cell 2 46, .tmp 3]) [CT.at 86 h1, CT.at 24 h2, CT.at 42 h3, hRn ⟨#[]⟩ hz0, hDn ⟨#[]⟩, hRs ⟨#[]⟩, hLn] Lno false Try.func28 (by kernel_rfl) (by kernel_rfl) (by kernel_rfl) (by kernel_rfl) (by simp) rfl (failOK fun _ _ _ => rfl) (Meets.of (runUn0 s u ⟨#[]⟩ hz0 h1 h2 h3) ?_)
    have hbeq : Nat.beq (⟨#[]⟩ : ByteArray).size 0 = true := rfl
    -- nothing stands there: the first number fails
    have hcut : IsCut ⟨#[]⟩ 0 ((⟨#[]⟩ : ByteArray).size - 0) := ⟨by show 0 ≤ 8; omega, fun j hj => absurd hj (Nat.not_lt_zero j)⟩
    obtain ⟨a1, a2, a3⟩ := q_cut hcut
    have b1 : qE (⟨#[]⟩ : ByteArray) (qO ⟨#[]⟩ 0 0) (qE ⟨#[]⟩ 0 0) = 30 := by rw [a3, qE_bad (by decide)]
    have hee : e2 ⟨#[]⟩ = 30 := b1
    rw [f2 (fun h => by rw [hee] at h; exact absurd h.1 (by decide))]
    have d1 := dd2 (qO ⟨#[]⟩ (qO ⟨#[]⟩ 0 0) (qE ⟨#[]⟩ 0 0))
    rw [show e2 (⟨#[]⟩ : ByteArray) = qE ⟨#[]⟩ (qO ⟨#[]⟩ 0 0) (qE ⟨#[]⟩ 0 0) from rfl] at d1
    rw [hbeq, d1, b1]
    refine wC (cl_iff.2 ⟨LeL.refl _, trivial⟩) (wC (cl_iff.2 ⟨LeL.refl _, trivial⟩) (wN rfl (wT rfl (wC (cl_iff.2 ⟨LeL.refl _, trivial⟩) (wC (rx_ok ⟨#[]⟩ 0 0) (wC (rx_ok ⟨#[]⟩ _ _) (wC (rx_ok ⟨#[]⟩ _ _) (wT rfl ⟨.refl _, trivial⟩))))))))
  · have h3 : NewOK t := ansNwH ⟨by unfold small; omega, by omega⟩
    refine answers (fn := Try.f28) (c := bodyOf Try.f28) (ntmps := 65) (results := [.cell 2 46, .tmp 3]) [CT.at 86 h1, CT.at 24 h2, CT.at 42 h3, hRn t hz, hDn t, hRs t, hLn] Lno false Try.func28 (by kernel_rfl) (by kernel_rfl) (by kernel_rfl) (by kernel_rfl) (by simp) rfl (failOK fun _ _ _ => rfl) (Meets.of (runUn s u t hz h1 h2 h3) ?_)
    have hbeq : Nat.beq t.size 0 = false := by
      cases hb : Nat.beq t.size 0 with
      | false => rfl
      | true => exact absurd (Nat.eq_of_beq_eq_true hb) he
    have d1 := dd2 (o2 t)
    change (bif !decide (dE t (qO t (qO t 0 0) (qE t 0 0)) (qE t (qO t 0 0) (qE t 0 0)) = (0 : Int)) then !decide (dE t (qO t (qO t 0 0) (qE t 0 0)) (qE t (qO t 0 0) (qE t 0 0)) = (32 : Int)) else false) = !decide (qE t (qO t 0 0) (qE t 0 0) = 0) at d1
    change IntKind.i64.wrap ((t.size : Int) - ((t.size - qO t (qO t 0 0) (qE t 0 0) : Nat) : Int)) = (qO t (qO t 0 0) (qE t 0 0) : Int) at w1
    rw [hbeq, d1, w1, Int.toNat_natCast]
    have hX : En.mk (qN t 0 0) (if (3 : Int) < qN t (qO t 0 0) (qE t 0 0) then (3 : Int) else qN t (qO t 0 0) (qE t 0 0)) (t.extract (qO t (qO t 0 0) (qE t 0 0)) t.size) = unX t := rfl
    refine wC (cl_iff.2 ⟨LeL.refl _, trivial⟩) (wC (cl_iff.2 ⟨LeL.refl _, trivial⟩) (wN rfl (wN rfl (wC (cl_iff.2 ⟨LeL.refl _, .refl _, trivial⟩) (wC (rx_ok t 0 0) (wC (rx_ok t _ _) (wC (rx_ok t _ _) ?_)))))))
    by_cases hee : qE t (qO t 0 0) (qE t 0 0) = 0
    · refine wN (by rw [decide_eq_true hee]; rfl) (wC (rx_ok t _ _) (wC ?_ (wC (cl_iff.2 trivial) ?_)))
      · have : qO t (qO t 0 0) (qE t 0 0) ≤ t.size := ho.2
        rw [decide_eq_true (show (0 : Int) ≤ (qO t (qO t 0 0) (qE t 0 0) : Int) by omega), decide_eq_true (show (qO t (qO t 0 0) (qE t 0 0) : Int) ≤ (t.size : Int) by omega), decide_eq_true (Int.le_refl _)]; rfl
      · rw [hX]
        by_cases hg : (unX t).good
        · rw [f1 ⟨hee, hg⟩]
          exact wN (by rw [lnR_ok.2 hg]; rfl) ⟨.refl _, trivial⟩
        · rw [f2 (fun h => hg h.2)]
          have : decide ((lnR (unX t)).e = 0) = false := by
            cases hd : decide ((lnR (unX t)).e = 0) with
            | false => rfl
            | true => exact absurd (lnR_ok.1 hd) hg
          exact wT (by rw [this]; rfl) ⟨.refl _, trivial⟩
    · rw [f2 (fun h => hee h.1)]
      exact wT (by rw [decide_eq_false hee]; rfl) ⟨.refl _, trivial⟩
theorem ansUn {s : ByteArray} (hs : s.size ≤ 1000000000) : Answers Try.prog Γb 28 [.v (.string s)] [] (uA (unl s)) [] [] := by
  by_cases hz : endsZ s
  · have h1 := cut_yes hs hz
    have hu : (s.extract 0 (s.size - 1)).size ≤ s.size := by rw [ByteArray.size_extract]; omega
    have h2 := ansSp (s := s.extract 0 (s.size - 1)) (by omega)
    unfold stripA at h2
    have e : unl s = (stripO (s.extract 0 (s.size - 1))).bind unT := by unfold unl; rw [if_pos hz]
    cases ho : stripO (s.extract 0 (s.size - 1)) with
    | some t =>
      rw [ho] at h2 e
      have := stripB_size ho
      rw [e]
      exact ansUnT hs (by omega) h1 h2
    | none =>
      rw [ho] at h2 e
      rw [e]
      refine answers (fn := Try.f28) (c := bodyOf Try.f28) (ntmps := 65) (results := [.cell 2 46, .tmp 3]) [CT.at 86 h1, CT.at 24 h2] Lno false Try.func28 (by kernel_rfl) (by kernel_rfl) (by kernel_rfl) (by kernel_rfl) (by simp) rfl (failOK fun _ _ _ => rfl) (Meets.of (runUnF s _ h1 h2) ?_)
      exact wC (cl_iff.2 ⟨LeL.refl _, trivial⟩) (wC (cl_iff.2 ⟨LeL.refl _, trivial⟩) (wT rfl ⟨.refl _, trivial⟩))
  · have h1 := cut_no hs hz
    have e : unl s = none := by unfold unl; rw [if_neg hz]
    rw [e]
    have h2 := ansSp (s := s) hs
    have key : ∀ (t : ByteArray) (c : Int), StripOK s t c → Answers Try.prog Γb 28 [.v (.string s)] [] (uA none) [] [] := fun t c h2 =>
      answers (fn := Try.f28) (c := bodyOf Try.f28) (ntmps := 65) (results := [.cell 2 46, .tmp 3]) [CT.at 86 h1, CT.at 24 h2] Lno false Try.func28 (by kernel_rfl) (by kernel_rfl) (by kernel_rfl) (by kernel_rfl) (by simp) rfl (failOK fun _ _ _ => rfl) (Meets.of (runUnE s s t c h1 h2) (wC (cl_iff.2 ⟨LeL.refl _, trivial⟩) (wC (cl_iff.2 ⟨LeL.refl _, trivial⟩) ⟨.refl _, trivial⟩)))
    unfold stripA at h2
    cases ho : stripO s with
    | some t => rw [ho] at h2; exact key _ _ h2
    | none => rw [ho] at h2; exact key _ _ h2
end Go.Eng.SB.B

namespace Go.Eng.SB.B
open Go Go.Eng Go.Eng.SB Go.Eng.SB.R Go.Eng.RD Go.Lib Go.Proofs
theorem sp_dress : ∀ l : List UInt8, sp false (dress l) = some l := by
  intro l
  induction l with
  | nil => rfl
  | cons c l ih =>
    have e : dress (c :: l) = dr c ++ dress l := List.flatMap_cons
    rw [e]
    by_cases h : c.toNat ≤ 1
    · have e1 : dr c = [1, c + 1] := by unfold dr; rw [if_pos h]
      have ht : (c + 1).toNat = c.toNat + 1 := by
        rw [UInt8.toNat_add]
        show (c.toNat + 1) % 256 = _
        omega
      have e2 : c + 1 - 1 = c := by
        apply UInt8.toNat_inj.1
        have : c + 1 - 1 = c := by
          have : c.toNat = 0 ∨ c.toNat = 1 := by omega
          rcases this with h | h
          · rw [u8_of (by decide) h]; rfl
          · rw [u8_of (by decide) h]; rfl
        rw [this]
      rw [e1]
      show sp false (1 :: (c + 1) :: dress l) = _
      rw [sp, if_neg (by rintro ⟨h, _⟩; cases h), if_neg (by rintro (h | h); cases h; exact absurd h (by decide)), if_pos (by decide), sp, if_pos ⟨rfl, by omega⟩, ih, e2]; rfl
    · have e1 : dr c = [c] := by unfold dr; rw [if_neg h]
      rw [e1]
      show sp false (c :: dress l) = _
      rw [sp, if_neg (by rintro ⟨h, _⟩; cases h), if_neg (by rintro (h | h); cases h; omega), if_neg (by omega), ih]; rfl
theorem strip_dress (s : ByteArray) : stripO (dressB s) = some s := by
  unfold stripO dressB
  show (sp false (dress s.data.toList)).map _ = _
  rw [sp_dress]; rfl
theorem dress_nz : ∀ (l : List UInt8) (b : UInt8), b ∈ dress l → b.toNat ≠ 0 := by
  intro l b hb
  unfold dress at hb
  obtain ⟨c, hc, hb⟩ := List.mem_flatMap.1 hb
  unfold dr at hb
  split at hb
  · rename_i h
    rcases List.mem_cons.1 hb with rfl | hb
    · decide
    · rcases List.mem_cons.1 hb with rfl | hb
      · have : c.toNat = 0 ∨ c.toNat = 1 := by omega
        rcases this with h | h
        · rw [u8_of (by decide) h]; decide
        · rw [u8_of (by decide) h]; decide
      · cases hb
  · rename_i h
    rcases List.mem_cons.1 hb with rfl | hb
    · omega
    · cases hb
def NZ (d : ByteArray) : Prop := ∀ i, i < d.size → ¬ sbyte d i = 0
theorem nz_dress (s : ByteArray) : NZ (dressB s) := by
  intro i hi h
  have hi' : i < (dress s.data.toList).length := by
    have : (dressB s).size = (dress s.data.toList).length := by show (dress s.data.toList).toArray.size = _; rw [List.size_toArray]
    omega
  have hm : (dress s.data.toList)[i] ∈ dress s.data.toList := List.getElem_mem _
  have := dress_nz _ _ hm
  apply this
  have h2 : (((dressB s).data[i]?.getD 0).toNat : Int) = 0 := h
  have h3 : (dressB s).data[i]? = some ((dress s.data.toList)[i]) := by
    show (dress s.data.toList).toArray[i]? = _
    rw [List.getElem?_toArray, List.getElem?_eq_getElem hi']
  rw [h3, Option.getD_some] at h2
  omega
noncomputable abbrev lpB : Code := loopOf (bodyOf Try.f5) 0
abbrev lvB : List Nat := [0, 3, 5, 6]
noncomputable def SBk (s : ByteArray) (x : En) (d : ByteArray) (i : Nat) : List AV × Heap := ([.v (.string s), .ptr 0 0, .v (.string d), .v (.int .i64 (i : Int))], [some (.row (En.c x))])
noncomputable def OBk (s : ByteArray) (x : En) (d : ByteArray) : Out := ⟨.exit 0, [.v (.string s), .ptr 0 0, .v (.string d), .any], [some (.row (En.c x))]⟩
theorem rB (s : ByteArray) (x : En) (d : ByteArray) (i : Nat) : roundE (P := Try.prog) (Γ := Γb) [] Lno false 0 0 lpB lvB [] 84 (SBk s x d i).1 (SBk s x d i).2 =
  Tree.br (decide ((↑i : Int) < (↑(ByteArray.size d) : Int))) (Tree.chk (decide ((0 : Int) ≤ (↑i : Int)) && decide ((↑i : Int) < (↑(ByteArray.size d) : Int))) (Tree.br (decide (sbyte d i = (0
    : Int))) (Tree.leaf (Out.mk AEx.ret [AV.v (Value.string s), AV.ptr (0 : Nat) (0 : Nat), AV.v (Value.string d), AV.v (Value.int IntKind.i64 (↑i : Int))] [some (Blk.row [AV.v (Value.int
    IntKind.i64 x.num), AV.v (Value.int IntKind.i64 x.kind), AV.v (Value.string x.bytes)])])) (Tree.leaf (Out.mk AEx.normal [AV.v (Value.string s), AV.ptr (0 : Nat) (0 : Nat), AV.v
    (Value.string d), AV.v (Value.int IntKind.i64 (IntKind.wrap IntKind.i64 ((↑i : Int) + (1 : Int))))] [some (Blk.row [AV.v (Value.int IntKind.i64 x.num), AV.v (Value.int IntKind.i64
    x.kind), AV.v (Value.string x.bytes)])])))) (Tree.leaf (Out.mk (AEx.exit (0 : Nat)) [AV.v (Value.string s), AV.ptr (0 : Nat) (0 : Nat), AV.v (Value.string d), AV.v (Value.int IntKind.i64
    (↑i : Int))] [some (Blk.row [AV.v (Value.int IntKind.i64 x.num), AV.v (Value.int IntKind.i64 x.kind), AV.v (Value.string x.bytes)])])) := by kernel_rfl
theorem loopB {s : ByteArray} {x : En} {d : ByteArray} (hd : d.size ≤ 1000000000) (hz : NZ d) : ∀ i : Nat, i ≤ d.size → LoopOK Try.prog Γb 0 84 lpB (LSpec.at lvB [] (SBk s x d i) (OBk s x d)) := by
  refine loop_at (S := SBk s x d) (pre := fun i => i ≤ d.size) (O := fun _ => OBk s x d) (k := 0) (fun i => d.size - i) fun i hi => .of (noLoops (by kernel_rfl)) (rB s x d i) ?_
  rcases Nat.lt_or_ge i d.size with h | h
  · have e1 : IntKind.i64.wrap ((i : Int) + 1) = ((i + 1 : Nat) : Int) := wrapUpN (by omega)
    have h0 := decide_eq_false (hz i h)
    simp only [Int.toNat_natCast, e1, h0]
    repeat' (first | refine wC (by first | omega | (simp only [W1, cond_true, cond_false]; first | done | omega)) ?_ | refine wT (by first | omega | (simp only [W1, cond_true, cond_false]; first | done | omega)) ?_ | refine wF (by intro _h; first | omega | (simp only [W1, cond_true, cond_false] at _h; first | done | omega)) ?_ | (refine wS ?_ ?_ <;> intro _h <;> simp only [W1, cond_true, cond_false] at _h))
    all_goals simp only [or_true, true_or, false_or, or_false, and_false, false_and, cond_true, cond_false, Bool.not_true, Bool.not_false, Bool.false_eq_true, Bool.true_eq_false, not_true_eq_false, not_false_eq_true, false_implies, true_implies, implies_true, Nat.blt_eq, owesN, owesX, owesR, notT, sat_brT, sat_brF, sat_chkT, cl_iff, cl_false, AV.le_refl, AV.le_any, OLe_refl, OLe_none, sat_brN, Tree.sat_chk, Tree.sat_leaf, Tree.sat_fail, Nat.zero_add, Nat.sub_zero, Int.toNat_natCast, LeH_cons, LeH_nil, LeL_cons, LeL_nil, and_true, true_and, Bool.and_eq_true, Bool.or_eq_true, decide_eq_true_eq, decide_eq_false_iff_not, Bool.cond_true_left, Bool.cond_false_right, List.cons_append, List.nil_append, List.map_cons, List.map_nil]
    repeat' (first | apply And.intro | intro _hc)
    all_goals first | exact ⟨i + 1, LeL.refl _, LeH.refl _, h, by omega⟩ | exact AV.le_refl _ | exact AV.le_any _ | exact OLe.refl _ | exact OLe.none _ | exact LeH.refl _ | exact LeL.refl _ | exact AV.le.bs _ | exact AV.le.sb _ | omega | contradiction
  · unfold OBk
    repeat' (first | refine wC (by first | omega | (simp only [W1, cond_true, cond_false]; first | done | omega)) ?_ | refine wT (by first | omega | (simp only [W1, cond_true, cond_false]; first | done | omega)) ?_ | refine wF (by intro _h; first | omega | (simp only [W1, cond_true, cond_false] at _h; first | done | omega)) ?_ | (refine wS ?_ ?_ <;> intro _h <;> simp only [W1, cond_true, cond_false] at _h))
    all_goals simp only [or_true, true_or, false_or, or_false, and_false, false_and, cond_true, cond_false, Bool.not_true, Bool.not_false, Bool.false_eq_true, Bool.true_eq_false, not_true_eq_false, not_false_eq_true, false_implies, true_implies, implies_true, Nat.blt_eq, owesN, owesX, owesR, notT, sat_brT, sat_brF, sat_chkT, cl_iff, cl_false, AV.le_refl, AV.le_any, OLe_refl, OLe_none, sat_brN, Tree.sat_chk, Tree.sat_leaf, Tree.sat_fail, Nat.zero_add, Nat.sub_zero, Int.toNat_natCast, LeH_cons, LeH_nil, LeL_cons, LeL_nil, and_true, true_and, Bool.and_eq_true, Bool.or_eq_true, decide_eq_true_eq, decide_eq_false_iff_not, Bool.cond_true_left, Bool.cond_false_right, List.cons_append, List.nil_append, List.map_cons, List.map_nil]
    repeat' (first | apply And.intro | intro _hc)
    all_goals first | exact rfl | exact ⟨.refl _, .refl _, .refl _, .any _, trivial⟩ | exact AV.le_refl _ | exact AV.le_any _ | exact OLe.refl _ | exact OLe.none _ | exact LeH.refl _ | exact LeL.refl _ | exact AV.le.bs _ | exact AV.le.sb _ | omega | contradiction
end Go.Eng.SB.B

namespace Go.Eng.SB.B
open Go Go.Eng Go.Eng.SB Go.Eng.SB.R Go.Eng.RD Go.Lib Go.Proofs
noncomputable def uX (s : ByteArray) : En := (unl s).getD en0
noncomputable def uE (s : ByteArray) : Int := match unl s with | some _ => 0 | none => 180
noncomputable def uV (s : ByteArray) : AV := .tup [.agg [.v (.int .i64 (uX s).num), .v (.int .i64 (uX s).kind), .v (.string (uX s).bytes)], .v (.int .i64 (uE s))]
theorem uV_eq (s : ByteArray) : uA (unl s) = uV s := by
  unfold uV uX uE
  cases unl s <;> rfl
def toT : List AV → List Blk → Option ByteArray
  | [.v (.string s)], [] => some s
  | _, _ => none
theorem toT_inv {args : List AV} {Hin : List Blk} {x : ByteArray} (h : toT args Hin = some x) : args = [.v (.string x)] ∧ Hin = [] := by
  unfold toT at h
  split at h
  · cases h; exact ⟨rfl, rfl⟩
  · cases h
noncomputable def hUn : CT Try.prog Γb := CT.ex 28 toT (fun s => s.size ≤ 1000000000) uV (fun _ => []) (fun _ => [])
  (callFunc_enters Try.func28 (by kernel_rfl) (by kernel_rfl)) (fun args Hin x hx hp => by
    obtain ⟨rfl, rfl⟩ := toT_inv hx
    have := ansUn hp
    rw [uV_eq] at this
    exact this.cU rfl)
def StOK (s : ByteArray) : Prop := Answers Try.prog Γb 24 [.v (.string (dressB s))] [] (.tup [.v (.string s), .v (.int .i64 0)]) [] []
theorem stOK {s : ByteArray} (h : s.size ≤ 5000) : StOK s := by
  have hd := dressB_size s
  have := ansSp (s := dressB s) (by omega)
  unfold stripA at this
  rw [strip_dress] at this
  exact this
theorem lawRB (s : ByteArray) (x : En) (hS : StOK s) : bodyE (P := Try.prog) (Γ := Γb) [z21', kDr, CT.at 24 hS, hLn, hUn] (fun _ => LSpec.at lvB [] (SBk s x (dressB s) 0) (OBk s x (dressB s))) false 84 [.tmp 4] (bodyOf Try.f5) [.v (.string s), x.av] [] =
  Tree.br (bif decide ((5000 : Int) < (↑(ByteArray.size s) : Int)) then true else decide ((5000 : Int) < (↑(ByteArray.size x.bytes) : Int))) (Tree.leaf (Ans.mk (AV.v (Value.bool true)) []))
    (Tree.chk (Nat.ble (ByteArray.size s) (1000000000 : Nat)) (Tree.chk (cl (LeL [AV.v (Value.string s), AV.ptr (0 : Nat) (0 : Nat), AV.v (Value.string (dressB s)), AV.v (Value.int
    IntKind.i64 (0 : Int))] [AV.v (Value.string s), AV.ptr (0 : Nat) (0 : Nat), AV.v (Value.string (dressB s)), AV.v (Value.int IntKind.i64 (↑(0 : Nat) : Int))] ∧ LeH [some (Blk.row [AV.v
    (Value.int IntKind.i64 x.num), AV.v (Value.int IntKind.i64 x.kind), AV.v (Value.string x.bytes)])] [some (Blk.row [AV.v (Value.int IntKind.i64 x.num), AV.v (Value.int IntKind.i64
    x.kind), AV.v (Value.string x.bytes)])])) (Tree.chk (cl (LeL [AV.v (Value.string (dressB s))] [AV.v (Value.string (dressB s))] ∧ LeH [] [])) (Tree.br (!decide (s = s)) (Tree.leaf (Ans.mk
    (AV.v (Value.bool false)) [])) (Tree.chk (cl True) (Tree.br (!decide ((lnR (En.mk x.num x.kind x.bytes)).e = (0 : Int))) (Tree.leaf (Ans.mk (AV.sb (decide ((lnR (En.mk x.num x.kind
    x.bytes)).t = ByteArray.mk #[]))) [])) (Tree.chk (cl (ByteArray.size (lnR (En.mk x.num x.kind x.bytes)).t ≤ (1000000000 : Nat))) (Tree.chk (decide ((↑(0 : Nat) : Int) ≤ IntKind.wrap
    IntKind.i64 ((↑(ByteArray.size (lnR (En.mk x.num x.kind x.bytes)).t) : Int) - (1 : Int))) && decide (IntKind.wrap IntKind.i64 ((↑(ByteArray.size (lnR (En.mk x.num x.kind x.bytes)).t) :
    Int) - (1 : Int)) ≤ (↑(ByteArray.size (lnR (En.mk x.num x.kind x.bytes)).t) : Int))) (Tree.chk (cl (ByteArray.size (ByteArray.extract (lnR (En.mk x.num x.kind x.bytes)).t (0 : Nat)
    (Int.toNat (IntKind.wrap IntKind.i64 ((↑(ByteArray.size (lnR (En.mk x.num x.kind x.bytes)).t) : Int) - (1 : Int))))) ≤ (1000000000 : Nat))) (Tree.leaf (Ans.mk (AV.sb (bif decide (uE (lnR
    (En.mk x.num x.kind x.bytes)).t = (0 : Int)) then bif decide ((uX (lnR (En.mk x.num x.kind x.bytes)).t).num = x.num) && (decide ((uX (lnR (En.mk x.num x.kind x.bytes)).t).kind = x.kind)
    && decide ((uX (lnR (En.mk x.num x.kind x.bytes)).t).bytes = x.bytes)) then !decide (uE (ByteArray.extract (lnR (En.mk x.num x.kind x.bytes)).t (0 : Nat) (Int.toNat (IntKind.wrap
    IntKind.i64 ((↑(ByteArray.size (lnR (En.mk x.num x.kind x.bytes)).t) : Int) - (1 : Int))))) = (0 : Int)) else false else false)) []))))))))))) := by kernel_rfl
theorem lawRB0 (s : ByteArray) (x : En) : bodyE (P := Try.prog) (Γ := Γb) [z21'] Lno false 84 [.tmp 4] (bodyOf Try.f5) [.v (.string s), x.av] [] =
  Tree.br (bif decide ((5000 : Int) < (↑(ByteArray.size s) : Int)) then true else decide ((5000 : Int) < (↑(ByteArray.size x.bytes) : Int))) (Tree.leaf (Ans.mk (AV.v (Value.bool true)) []))
    Tree.fail := by kernel_rfl
end Go.Eng.SB.B

namespace Go.Eng.SB.B
open Go Go.Eng Go.Eng.SB Go.Eng.SB.R Go.Eng.RD Go.Lib Go.Proofs
theorem leT {a : Bool} (h : a = true) : AV.le (.sb a) (.v (.bool true)) := by rw [h]; exact .sb true
theorem one0 (j : Nat) : bN ⟨#[0]⟩ j = 0 := by
  show (((#[0] : Array UInt8)[j]?).getD 0).toNat = 0
  match j with
  | 0 => rfl
  | j + 1 => rfl
theorem cutZ (d : ByteArray) : (d ++ ⟨#[0]⟩ : ByteArray).size = d.size + 1 ∧ (d ++ ⟨#[0]⟩ : ByteArray).extract d.size (d.size + 1) = ⟨#[0]⟩ ∧ (d ++ ⟨#[0]⟩ : ByteArray).extract 0 d.size = d := by
  have hs : (d ++ ⟨#[0]⟩ : ByteArray).size = d.size + 1 := by rw [ByteArray.size_append]; rfl
  refine ⟨hs, ?_, ?_⟩
  · have h1 : At (d ++ ⟨#[0]⟩ : ByteArray) 0 (d ++ ⟨#[0]⟩) := by
      have := At.pre (d ++ ⟨#[0]⟩) ⟨#[]⟩
      rwa [append_empty] at this
    have := h1.right.ext
    rw [Nat.zero_add] at this
    exact this
  · have := (At.pre d ⟨#[0]⟩).ext
    rwa [Nat.zero_add] at this
theorem endsZ_line (d : ByteArray) : endsZ (d ++ ⟨#[0]⟩) := by
  obtain ⟨h1, h2, _⟩ := cutZ d
  refine ⟨by omega, ?_⟩
  rw [h1]; exact h2
theorem nz_ends {d : ByteArray} (h : NZ d) : ¬ endsZ d := by
  rintro ⟨h1, h2⟩
  have := congrArg (fun b => bN b 0) h2
  rw [bN_extract _ _ _ _ (Nat.le_refl _), if_pos (by omega), one0, Nat.add_zero] at this
  exact h (d.size - 1) (by omega) (by show ((bN d (d.size - 1) : Nat) : Int) = 0; omega)
theorem unT_in {x : En} (hg : x.good) : unT (inB x) = some x := by
  obtain ⟨hw, hw2⟩ := id hg
  obtain ⟨h1, h2, h3⟩ := id hw
  have ha : At (inB x) 0 (catN (gL x) 2) := At.pre _ _
  have hb : At (inB x) (catN (gL x) 2).size x.bytes := by
    have h : At (inB x) 0 (catN (gL x) 2 ++ x.bytes) := by
      have := At.pre (catN (gL x) 2 ++ x.bytes) ⟨#[]⟩
      rwa [append_empty] at this
    have := h.right
    rwa [Nat.zero_add] at this
  have hr := ha.reads fun i hi => by
    match i, hi with
    | 0, _ => exact ⟨by show 0 ≤ x.num; omega, by show x.num ≤ _; omega⟩
    | 1, _ => exact ⟨by show 0 ≤ x.kind; omega, by show x.kind ≤ _; omega⟩
  obtain ⟨a1, a2, a3⟩ := hr 0 (by omega)
  obtain ⟨b1, b2, b3⟩ := hr 1 (by omega)
  change qN (inB x) 0 0 = x.num at a1
  change qO (inB x) 0 0 = (catN (gL x) 1).size at a2
  change qE (inB x) 0 0 = 0 at a3
  change qN (inB x) (catN (gL x) 1).size 0 = x.kind at b1
  change qO (inB x) (catN (gL x) 1).size 0 = (catN (gL x) 2).size at b2
  change qE (inB x) (catN (gL x) 1).size 0 = 0 at b3
  have eo1 : o1 (inB x) = (catN (gL x) 1).size := a2
  have ee1 : e1 (inB x) = 0 := a3
  have eo2 : o2 (inB x) = (catN (gL x) 2).size := by unfold o2; rw [eo1, ee1]; exact b2
  have ee2 : e2 (inB x) = 0 := by unfold e2; rw [eo1, ee1]; exact b3
  have ek2 : k2 (inB x) = x.kind := by unfold k2; rw [eo1, ee1]; exact b1
  have hx : unX (inB x) = x := by
    unfold unX
    rw [a1, ek2, eo2, if_neg (by omega)]
    have := hb.ext
    rw [show (catN (gL x) 2).size + x.bytes.size = (inB x).size by unfold inB; rw [ByteArray.size_append]] at this
    rw [this]
  unfold unT
  rw [hx, if_pos ⟨ee2, hg⟩]
theorem unl_line {x : En} (hg : x.good) : unl (lineB x) = some x := by
  have h := cutZ (dressB (inB x))
  unfold unl lineB
  rw [if_pos (endsZ_line _)]
  rw [h.1, Nat.add_sub_cancel, h.2.2, strip_dress]
  exact unT_in hg
theorem unl_cut {x : En} : unl ((lineB x).extract 0 ((lineB x).size - 1)) = none := by
  have h := cutZ (dressB (inB x))
  unfold unl lineB
  rw [h.1, Nat.add_sub_cancel, h.2.2, if_neg (nz_ends (nz_dress _))]
theorem lawRB_ok (s : ByteArray) (x : En) : LawOK Try.prog Γb 84 [.tmp 4] (bodyOf Try.f5) [.v (.string s), x.av] := by
  by_cases hb : 5000 < s.size ∨ 5000 < x.bytes.size
  · refine .mk' (T := [z21']) (ip := false) (L := Lno) (failOK fun _ _ _ => rfl) (Right.of (lawRB0 s x) ?_)
    have : (bif decide ((5000 : Int) < (s.size : Int)) then true else decide ((5000 : Int) < (x.bytes.size : Int))) = true := by
      rcases hb with h | h
      · rw [decide_eq_true (show (5000 : Int) < (s.size : Int) by omega)]; rfl
      · rw [decide_eq_true (show (5000 : Int) < (x.bytes.size : Int) by omega)]; cases decide ((5000 : Int) < (s.size : Int)) <;> rfl
    exact wT this ⟨.refl _, trivial⟩
  · have hs : s.size ≤ 5000 := by omega
    have hx : x.bytes.size ≤ 5000 := by omega
    have hd := dressB_size s
    refine .mk' (T := [z21', kDr, CT.at 24 (stOK hs), hLn, hUn]) (ip := false) (L := fun _ => LSpec.at lvB [] (SBk s x (dressB s) 0) (OBk s x (dressB s))) (oneLoop (b := lpB) (by kernel_rfl) (loopB (by omega) (nz_dress s) 0 (Nat.zero_le _))) (Right.of (lawRB s x (stOK hs)) ?_)
    have : (bif decide ((5000 : Int) < (s.size : Int)) then true else decide ((5000 : Int) < (x.bytes.size : Int))) = false := by
      rw [decide_eq_false (by omega), decide_eq_false (by omega)]; rfl
    refine wN this (wC (Nat.ble_eq_true_of_le (by omega)) (wC (cl_iff.2 ⟨LeL.refl _, LeH.refl _⟩) (wC (cl_iff.2 ⟨LeL.refl _, LeH.refl _⟩) (wN (by simp) (wC (cl_iff.2 trivial) ?_)))))
    have hxx : En.mk x.num x.kind x.bytes = x := rfl
    rw [hxx]
    by_cases hg : x.good
    · have he : lnR x = ⟨lineB x, 0⟩ := by unfold lnR; rw [if_pos hg.1, if_pos hg.2]
      have h1 := dressB_size (inB x)
      have h2 : (inB x).size ≤ 18 + x.bytes.size := by
        unfold inB
        rw [ByteArray.size_append]
        have := cat_small hg.1
        omega
      have h3 := (cutZ (dressB (inB x))).1
      have hy : (lineB x).size ≤ 20000 ∧ 1 ≤ (lineB x).size := by
        unfold lineB
        omega
      rw [he]
      have w1 : IntKind.i64.wrap (((lineB x).size : Int) - (1 : Int)) = ((lineB x).size : Int) - 1 := wrap64 (by omega) (by omega)
      have t1 : (((lineB x).size : Int) - 1).toNat = (lineB x).size - 1 := by omega
      have hu := unl_line hg
      have hc := unl_cut (x := x)
      have u1 : uE (lineB x) = 0 := by unfold uE; rw [hu]
      have u2 : uX (lineB x) = x := by unfold uX; rw [hu]; rfl
      have u3 : uE ((lineB x).extract 0 ((lineB x).size - 1)) = 180 := by unfold uE; rw [hc]
      simp only [w1, t1, u1, u2, u3]
      refine wN rfl (wC (cl_iff.2 (by omega)) (wC ?_ (wC (cl_iff.2 (by rw [ByteArray.size_extract]; omega)) ⟨by simp only [decide_true]; exact leT rfl, trivial⟩)))
      rw [decide_eq_true (show ((0 : Nat) : Int) ≤ ((lineB x).size : Int) - 1 by omega)]
      simp only [Bool.true_and, Bool.and_eq_true, decide_eq_true_eq]
      omega
    · have hne : ¬ (lnR x).e = 0 := fun h => hg (lnR_ok.1 (decide_eq_true h))
      have hem : (lnR x).t = ⟨#[]⟩ := by
        unfold lnR
        split
        · split
          · rename_i a b; exact absurd ⟨a, b⟩ hg
          · rfl
        · rfl
      exact wT (by rw [decide_eq_false hne]; rfl) ⟨leT (by rw [hem]; simp), trivial⟩
structure BI where
  s : ByteArray
  x : En
def A5 (y : BI) : List AV := [.v (.string y.s), y.x.av]
noncomputable def c5L : CT Try.prog Γb := CT.lawE A5 (fun _ => True) 5 Try.f5 (bodyOf Try.f5) 84 [.tmp 4] Try.func5 (by kernel_rfl) (by kernel_rfl) (by kernel_rfl) (by kernel_rfl) (fun _ _ => by simp [A5]) (fun y _ => lawRB_ok y.s y.x)
end Go.Eng.SB.B

namespace Go.Eng.SB.B
open Go Go.Eng Go.Eng.SB Go.Eng.SB.R Go.Eng.RD Go.Lib Go.Proofs
def rdV (S : ByteArray) (e : Int) : AV := .agg [.v (.string S), .v (.int .i64 e)]
def fS (S : ByteArray) (e x : Int) : ByteArray := if e = 0 ∧ ¬ x = 0 then ⟨#[]⟩ else S
theorem runFr (S : ByteArray) (e x : Int) : bodyE (P := Try.prog) (Γ := Γb) [] Lno false 15 [.cell 4 148] (bodyOf Try.f123) [rdV S e, .v (.int .i64 x)] [] =
  Tree.br (bif !decide (e = (0 : Int)) then true else decide (x = (0 : Int))) (Tree.leaf (Ans.mk (AV.agg [AV.v (Value.string S), AV.v (Value.int IntKind.i64 e)]) [])) (Tree.leaf (Ans.mk
    (AV.agg [AV.v (Value.string (ByteArray.mk #[])), AV.v (Value.int IntKind.i64 x)]) [])) := by kernel_rfl
theorem ansFr {S : ByteArray} {e x : Int} : Answers Try.prog Γb 123 [rdV S e, .v (.int .i64 x)] [] (rdV (fS S e x) (fE e x)) [] [] := by
  refine answers (fn := Try.f123) (c := bodyOf Try.f123) (ntmps := 15) (results := [.cell 4 148]) [] (Lno) false Try.func123 (by kernel_rfl) (by kernel_rfl) (by kernel_rfl) (by kernel_rfl) (by simp) rfl (failOK fun _ _ _ => rfl) <| Meets.of (runFr S e x) <| ?_
  by_cases h : e = 0 ∧ ¬ x = 0
  · have e1 : fS S e x = ⟨#[]⟩ := if_pos h
    have e2 : fE e x = x := if_pos h
    rw [e1, e2]
    repeat' (first | refine wC (by first | omega | (simp only [W1, cond_true, cond_false]; first | done | omega)) ?_ | refine wT (by first | omega | (simp only [W1, cond_true, cond_false]; first | done | omega)) ?_ | refine wF (by intro _h; first | omega | (simp only [W1, cond_true, cond_false] at _h; first | done | omega)) ?_ | (refine wS ?_ ?_ <;> intro _h <;> simp only [W1, cond_true, cond_false] at _h))
    all_goals simp only [W1, W2, owesN, owesX, owesR, cond_true, cond_false]
    repeat' (first | apply And.intro | intro _hc)
    all_goals first | exact AV.le_refl _ | exact AV.le_any _ | exact OLe.refl _ | exact OLe.none _ | exact LeH.refl _ | exact LeL.refl _ | exact AV.le.bs _ | exact AV.le.sb _ | omega | contradiction
  · have e1 : fS S e x = S := if_neg h
    have e2 : fE e x = e := if_neg h
    rw [e1, e2]
    repeat' (first | refine wC (by first | omega | (simp only [W1, cond_true, cond_false]; first | done | omega)) ?_ | refine wT (by first | omega | (simp only [W1, cond_true, cond_false]; first | done | omega)) ?_ | refine wF (by intro _h; first | omega | (simp only [W1, cond_true, cond_false] at _h; first | done | omega)) ?_ | (refine wS ?_ ?_ <;> intro _h <;> simp only [W1, cond_true, cond_false] at _h))
    all_goals simp only [W1, W2, owesN, owesX, owesR, cond_true, cond_false]
    repeat' (first | apply And.intro | intro _hc)
    all_goals first | exact AV.le_refl _ | exact AV.le_any _ | exact OLe.refl _ | exact OLe.none _ | exact LeH.refl _ | exact LeL.refl _ | exact AV.le.bs _ | exact AV.le.sb _ | omega | contradiction
def ofV : List AV → List Blk → Option (ByteArray × Int)
  | [.agg [.v (.string S), .v (.int _ e)]], [] => some (S, e)
  | _, _ => none
def ofVI : List AV → List Blk → Option (ByteArray × Int × Int)
  | [.agg [.v (.string S), .v (.int _ e)], .v (.int _ x)], [] => some (S, e, x)
  | _, _ => none
noncomputable def kFr : CT Try.prog Γb := CT.par 123 ofVI (fun _ => True) (fun | (S, e, x) => [rdV S e, .v (.int .i64 x)]) (fun _ => []) (fun | (S, e, x) => rdV (fS S e x) (fE e x)) (fun _ => []) (fun _ => [])
  (callFunc_enters Try.func123 (by kernel_rfl) (by kernel_rfl)) (fun | (S, e, x), _ => ansFr)
noncomputable def loopQ : Code := loopOf (bodyOf Try.f89) 0
def rws (S S' : ByteArray) (e : Int) : Heap := [some (.row [.v (.string S), .v (.int .i64 0)]), some (.row [.v (.string S'), .v (.int .i64 e)])]
def SQ (S : ByteArray) (i : Nat) : List AV × Heap := ([.ptr 0 0, .ptr 1 0, .v (.int .i64 (vAt S 0 i : Int)), .v (.int .i64 ((128 ^ i : Nat) : Int)), .v (.int .i64 (i : Int)), .v (.int .i64 0)], rws S ⟨#[]⟩ 0)
def OQ (S : ByteArray) (n : Int) (S' : ByteArray) (e : Int) : Out := ⟨.ret, [.any, .ptr 1 0, .any, .any, .any, .v (.int .i64 n)], rws S S' e⟩
theorem roundQ (S : ByteArray) (n w i : Int) : roundE (P := Try.prog) (Γ := Γb) [kFr] Lno false 0 0 loopQ [1, 3, 4, 5, 6, 2] [] 81 [.ptr 0 0, .ptr 1 0, .v (.int .i64 n), .v (.int .i64 w), .v (.int .i64 i), .v (.int .i64 0)] (rws S ⟨#[]⟩ 0) =
  Tree.br (decide (i < (9 : Int))) (Tree.br (decide (i = (↑(ByteArray.size S) : Int))) (Tree.chk (cl (True ∧ LeL [AV.agg [AV.v (Value.string S), AV.v (Value.int IntKind.i64 (0 : Int))], AV.v
    (Value.int IntKind.i64 (30 : Int))] [AV.agg [AV.v (Value.string S), AV.v (Value.int IntKind.i64 (0 : Int))], AV.v (Value.int IntKind.i64 (30 : Int))] ∧ LeH [] [])) (Tree.leaf (Out.mk
    AEx.ret [AV.ptr (0 : Nat) (0 : Nat), AV.ptr (1 : Nat) (0 : Nat), AV.v (Value.int IntKind.i64 n), AV.v (Value.int IntKind.i64 w), AV.v (Value.int IntKind.i64 i), AV.v (Value.int
    IntKind.i64 (0 : Int))] [some (Blk.row [AV.v (Value.string S), AV.v (Value.int IntKind.i64 (0 : Int))]), some (Blk.row [AV.v (Value.string (fS S (0 : Int) (30 : Int))), AV.v (Value.int
    IntKind.i64 (fE (0 : Int) (30 : Int)))])]))) (Tree.chk (decide ((0 : Int) ≤ i) && decide (i < (↑(ByteArray.size S) : Int)) && true) (Tree.chk (bif decide (i = (8 : Int)) then bif decide
    ((64 : Int) < Int.tmod (IntKind.wrap IntKind.i64 (sbyte S (Int.toNat i))) (128 : Int)) then true else bif decide (Int.tmod (IntKind.wrap IntKind.i64 (sbyte S (Int.toNat i))) (128 : Int)
    = (64 : Int)) then bif decide ((0 : Int) < n) then true else decide ((0 : Int) ≤ i) && decide (i < (↑(ByteArray.size S) : Int)) else decide ((0 : Int) ≤ i) && decide (i <
    (↑(ByteArray.size S) : Int)) else true) (Tree.br (bif decide (i = (8 : Int)) then bif decide ((64 : Int) < Int.tmod (IntKind.wrap IntKind.i64 (sbyte S (Int.toNat i))) (128 : Int)) then
    true else bif decide (Int.tmod (IntKind.wrap IntKind.i64 (sbyte S (Int.toNat i))) (128 : Int) = (64 : Int)) then bif decide ((0 : Int) < n) then true else decide ((128 : Int) ≤ sbyte S
    (Int.toNat i)) else decide ((128 : Int) ≤ sbyte S (Int.toNat i)) else false) (Tree.chk (cl (True ∧ LeL [AV.agg [AV.v (Value.string S), AV.v (Value.int IntKind.i64 (0 : Int))], AV.v
    (Value.int IntKind.i64 (31 : Int))] [AV.agg [AV.v (Value.string S), AV.v (Value.int IntKind.i64 (0 : Int))], AV.v (Value.int IntKind.i64 (31 : Int))] ∧ LeH [] [])) (Tree.leaf (Out.mk
    AEx.ret [AV.ptr (0 : Nat) (0 : Nat), AV.ptr (1 : Nat) (0 : Nat), AV.v (Value.int IntKind.i64 n), AV.v (Value.int IntKind.i64 w), AV.v (Value.int IntKind.i64 i), AV.v (Value.int
    IntKind.i64 (0 : Int))] [some (Blk.row [AV.v (Value.string S), AV.v (Value.int IntKind.i64 (0 : Int))]), some (Blk.row [AV.v (Value.string (fS S (0 : Int) (31 : Int))), AV.v (Value.int
    IntKind.i64 (fE (0 : Int) (31 : Int)))])]))) (Tree.chk (decide ((0 : Int) ≤ i) && decide (i < (↑(ByteArray.size S) : Int))) (Tree.br (decide (sbyte S (Int.toNat i) < (128 : Int)))
    (Tree.br (bif decide (Int.tmod (IntKind.wrap IntKind.i64 (sbyte S (Int.toNat i))) (128 : Int) = (0 : Int)) then decide ((0 : Int) < i) else false) (Tree.chk (cl (True ∧ LeL [AV.agg [AV.v
    (Value.string S), AV.v (Value.int IntKind.i64 (0 : Int))], AV.v (Value.int IntKind.i64 (31 : Int))] [AV.agg [AV.v (Value.string S), AV.v (Value.int IntKind.i64 (0 : Int))], AV.v
    (Value.int IntKind.i64 (31 : Int))] ∧ LeH [] [])) (Tree.leaf (Out.mk AEx.ret [AV.ptr (0 : Nat) (0 : Nat), AV.ptr (1 : Nat) (0 : Nat), AV.v (Value.int IntKind.i64 (IntKind.wrap
    IntKind.i64 (n + IntKind.wrap IntKind.i64 (Int.tmod (IntKind.wrap IntKind.i64 (sbyte S (Int.toNat i))) (128 : Int) * w)))), AV.v (Value.int IntKind.i64 w), AV.v (Value.int IntKind.i64
    i), AV.v (Value.int IntKind.i64 (0 : Int))] [some (Blk.row [AV.v (Value.string S), AV.v (Value.int IntKind.i64 (0 : Int))]), some (Blk.row [AV.v (Value.string (fS S (0 : Int) (31 :
    Int))), AV.v (Value.int IntKind.i64 (fE (0 : Int) (31 : Int)))])]))) (Tree.chk (decide ((0 : Int) ≤ IntKind.wrap IntKind.i64 (i + (1 : Int))) && decide (IntKind.wrap IntKind.i64 (i + (1
    : Int)) ≤ (↑(ByteArray.size S) : Int)) && decide ((↑(ByteArray.size S) : Int) ≤ (↑(ByteArray.size S) : Int))) (Tree.leaf (Out.mk AEx.ret [AV.ptr (0 : Nat) (0 : Nat), AV.ptr (1 : Nat) (0
    : Nat), AV.v (Value.int IntKind.i64 (IntKind.wrap IntKind.i64 (n + IntKind.wrap IntKind.i64 (Int.tmod (IntKind.wrap IntKind.i64 (sbyte S (Int.toNat i))) (128 : Int) * w)))), AV.v
    (Value.int IntKind.i64 w), AV.v (Value.int IntKind.i64 i), AV.v (Value.int IntKind.i64 (IntKind.wrap IntKind.i64 (n + IntKind.wrap IntKind.i64 (Int.tmod (IntKind.wrap IntKind.i64 (sbyte
    S (Int.toNat i))) (128 : Int) * w))))] [some (Blk.row [AV.v (Value.string S), AV.v (Value.int IntKind.i64 (0 : Int))]), some (Blk.row [AV.v (Value.string (ByteArray.extract S (Int.toNat
    (IntKind.wrap IntKind.i64 (i + (1 : Int)))) (ByteArray.size S))), AV.v (Value.int IntKind.i64 (0 : Int))])])))) (Tree.leaf (Out.mk AEx.normal [AV.ptr (0 : Nat) (0 : Nat), AV.ptr (1 :
    Nat) (0 : Nat), AV.v (Value.int IntKind.i64 (IntKind.wrap IntKind.i64 (n + IntKind.wrap IntKind.i64 (Int.tmod (IntKind.wrap IntKind.i64 (sbyte S (Int.toNat i))) (128 : Int) * w)))), AV.v
    (Value.int IntKind.i64 (IntKind.wrap IntKind.i64 (w * (128 : Int)))), AV.v (Value.int IntKind.i64 (IntKind.wrap IntKind.i64 (i + (1 : Int)))), AV.v (Value.int IntKind.i64 (0 : Int))]
    [some (Blk.row [AV.v (Value.string S), AV.v (Value.int IntKind.i64 (0 : Int))]), some (Blk.row [AV.v (Value.string (ByteArray.mk #[])), AV.v (Value.int IntKind.i64 (0 : Int))])]))))))))
    (Tree.leaf (Out.mk (AEx.exit (0 : Nat)) [AV.ptr (0 : Nat) (0 : Nat), AV.ptr (1 : Nat) (0 : Nat), AV.v (Value.int IntKind.i64 n), AV.v (Value.int IntKind.i64 w), AV.v (Value.int
    IntKind.i64 i), AV.v (Value.int IntKind.i64 (0 : Int))] [some (Blk.row [AV.v (Value.string S), AV.v (Value.int IntKind.i64 (0 : Int))]), some (Blk.row [AV.v (Value.string (ByteArray.mk
    #[])), AV.v (Value.int IntKind.i64 (0 : Int))])])) := by kernel_rfl
theorem stepQ {S : ByteArray} {i : Nat} {Q : Out → Prop} (hi : i ≤ 8) (hlt : i < S.size) (hz : S.size ≤ 1000000000000)
    (h1 : BadC S 0 i → ∀ n', Q ⟨.ret, [.ptr 0 0, .ptr 1 0, .v (.int .i64 n'), .v (.int .i64 ((128 ^ i : Nat) : Int)), .v (.int .i64 (i : Int)), .v (.int .i64 0)], rws S ⟨#[]⟩ 31⟩)
    (h2 : byt S i < 128 → ¬ BadC S 0 i → Q ⟨.ret, [.ptr 0 0, .ptr 1 0, .v (.int .i64 (vAt S 0 (i + 1) : Int)), .v (.int .i64 ((128 ^ i : Nat) : Int)), .v (.int .i64 (i : Int)), .v (.int .i64 (vAt S 0 (i + 1) : Int))], rws S (S.extract (i + 1) S.size) 0⟩)
    (h3 : 128 ≤ byt S i → i < 8 → Q ⟨.normal, (SQ S (i + 1)).1, (SQ S (i + 1)).2⟩) :
    (roundE (P := Try.prog) (Γ := Γb) [kFr] Lno false 0 0 loopQ [1, 3, 4, 5, 6, 2] [] 81 (SQ S i).1 (SQ S i).2).sat Q := by
  have hb : sbyte S i = (byt S i : Int) := sbyte_byt S _
  have hbt := byt_lt S i
  have hbad : BadC S 0 i ↔ ((byt S i < 128 ∧ byt S i = 0 ∧ 0 < i) ∨ (i = 8 ∧ (128 ≤ byt S i ∨ 4611686018427387904 < vAt S 0 (i + 1)))) := by
    unfold BadC; rw [Nat.zero_add]
  have hv : vAt S 0 (i + 1) = vAt S 0 i + byt S i % 128 * 128 ^ i := by rw [vAt, Nat.zero_add]
  have hvl := vAt_lt S 0 i
  have hp := pow128_le hi
  have hm : byt S i % 128 * 128 ^ i ≤ 127 * 128 ^ i := Nat.mul_le_mul_right _ (by omega)
  have h88 : i = 8 → 128 ^ i = 72057594037927936 := fun h => by subst h; decide
  have hp1 : 128 ^ (i + 1) = 128 ^ i * 128 := Nat.pow_succ _ _
  have e0 : IntKind.i64.wrap ((byt S i : Nat) : Int) = ((byt S i : Nat) : Int) := by rw [wrap64E]; omega
  have e1 : Int.tmod ((byt S i : Nat) : Int) 128 = ((byt S i % 128 : Nat) : Int) := by
    rw [Int.tmod_eq_emod_of_nonneg (by omega)]; omega
  have e2 : IntKind.i64.wrap (((byt S i % 128 : Nat) : Int) * ((128 ^ i : Nat) : Int)) = ((byt S i % 128 * 128 ^ i : Nat) : Int) := by
    rw [← Int.natCast_mul, wrap64E]; omega
  have e3 : IntKind.i64.wrap (((vAt S 0 i : Nat) : Int) + ((byt S i % 128 * 128 ^ i : Nat) : Int)) = ((vAt S 0 (i + 1) : Nat) : Int) := by
    rw [wrap64E, hv]; omega
  have h87 : i < 8 → 128 ^ i ≤ 562949953421312 := fun h => by
    have : (128 : Nat) ^ i ≤ 128 ^ 7 := Nat.pow_le_pow_right (by decide) (by omega)
    exact Nat.le_trans this (by decide)
  have e4 : i < 8 → IntKind.i64.wrap (((128 ^ i : Nat) : Int) * 128) = ((128 ^ (i + 1) : Nat) : Int) := fun h => by
    have := h87 h
    rw [wrap64E, hp1]; omega
  have e5 : IntKind.i64.wrap ((i : Int) + 1) = ((i + 1 : Nat) : Int) := by rw [wrap64E]; omega
  have f1 : fS S 0 31 = ⟨#[]⟩ := rfl
  have f2 : fE 0 31 = 31 := rfl
  show (roundE (P := Try.prog) (Γ := Γb) [kFr] Lno false 0 0 loopQ [1, 3, 4, 5, 6, 2] [] 81 [.ptr 0 0, .ptr 1 0, .v (.int .i64 (vAt S 0 i : Int)), .v (.int .i64 ((128 ^ i : Nat) : Int)), .v (.int .i64 (i : Int)), .v (.int .i64 0)] (rws S ⟨#[]⟩ 0)).sat Q
  rw [roundQ]
  simp only [Int.toNat_natCast, hb, e0, e1, e2, e3, e5, f1, f2]
  have hn0 : i = 8 → (4611686018427387904 < vAt S 0 (i + 1) ↔ 64 < byt S i % 128 ∨ (byt S i % 128 = 64 ∧ 0 < vAt S 0 i)) := fun h => by
    have := h88 h
    rw [hv, this]
    omega
  by_cases hB : BadC S 0 i
  · have k1 := h1 hB
    rw [hbad] at hB
    clear h1 h2 h3 hbad hv hm h88 e0 e1 e2 e3 e4 e5 hp1 h87
    generalize hw : vAt S 0 (i + 1) = v1 at *
    generalize vAt S 0 i = v0 at *
    generalize byt S i = c at *
    generalize 128 ^ i = w at *
    by_cases hi8 : i = 8
    · have hn0 := hn0 hi8
      subst hi8
      repeat' (first | refine wC (by first | omega | (simp only [W1, cond_true, cond_false]; first | done | omega)) ?_ | refine wT (by first | omega | (simp only [W1, cond_true, cond_false]; first | done | omega)) ?_ | refine wF (by intro _h; first | omega | (simp only [W1, cond_true, cond_false] at _h; first | done | omega)) ?_ | (refine wS ?_ ?_ <;> intro _h <;> simp only [W1, cond_true, cond_false] at _h))
      all_goals simp only [W1, W2, owesN, owesX, owesR, cond_true, cond_false]
      repeat' (first | apply And.intro | intro _hc)
      all_goals first | exact k1 _ | exact AV.le_refl _ | exact AV.le_any _ | exact OLe.refl _ | exact OLe.none _ | exact LeH.refl _ | exact LeL.refl _ | exact AV.le.bs _ | exact AV.le.sb _ | omega | contradiction
    · have hB : c < 128 ∧ c = 0 ∧ 0 < i := by omega
      repeat' (first | refine wC (by first | omega | (simp only [W1, cond_true, cond_false]; first | done | omega)) ?_ | refine wT (by first | omega | (simp only [W1, cond_true, cond_false]; first | done | omega)) ?_ | refine wF (by intro _h; first | omega | (simp only [W1, cond_true, cond_false] at _h; first | done | omega)) ?_ | (refine wS ?_ ?_ <;> intro _h <;> simp only [W1, cond_true, cond_false] at _h))
      all_goals simp only [W1, W2, owesN, owesX, owesR, cond_true, cond_false]
      repeat' (first | apply And.intro | intro _hc)
      all_goals first | exact k1 _ | exact AV.le_refl _ | exact AV.le_any _ | exact OLe.refl _ | exact OLe.none _ | exact LeH.refl _ | exact LeL.refl _ | exact AV.le.bs _ | exact AV.le.sb _ | omega | contradiction
  · by_cases hc : byt S i < 128
    · have k2 := h2 hc hB
      rw [hbad] at hB
      clear h1 h2 h3 hbad hv hm h88 e0 e1 e2 e3 e4 e5 hp1 h87
      generalize hw : vAt S 0 (i + 1) = v1 at *
      generalize vAt S 0 i = v0 at *
      generalize byt S i = c at *
      generalize 128 ^ i = w at *
      by_cases hi8 : i = 8
      · have hn0 := hn0 hi8
        subst hi8
        repeat' (first | refine wC (by first | omega | (simp only [W1, cond_true, cond_false]; first | done | omega)) ?_ | refine wT (by first | omega | (simp only [W1, cond_true, cond_false]; first | done | omega)) ?_ | refine wF (by intro _h; first | omega | (simp only [W1, cond_true, cond_false] at _h; first | done | omega)) ?_ | (refine wS ?_ ?_ <;> intro _h <;> simp only [W1, cond_true, cond_false] at _h))
        all_goals simp only [W1, W2, owesN, owesX, owesR, cond_true, cond_false]
        repeat' (first | apply And.intro | intro _hc)
        all_goals first | exact k2 | exact AV.le_refl _ | exact AV.le_any _ | exact OLe.refl _ | exact OLe.none _ | exact LeH.refl _ | exact LeL.refl _ | exact AV.le.bs _ | exact AV.le.sb _ | omega | contradiction
      · repeat' (first | refine wC (by first | omega | (simp only [W1, cond_true, cond_false]; first | done | omega)) ?_ | refine wT (by first | omega | (simp only [W1, cond_true, cond_false]; first | done | omega)) ?_ | refine wF (by intro _h; first | omega | (simp only [W1, cond_true, cond_false] at _h; first | done | omega)) ?_ | (refine wS ?_ ?_ <;> intro _h <;> simp only [W1, cond_true, cond_false] at _h))
        all_goals simp only [W1, W2, owesN, owesX, owesR, cond_true, cond_false]
        repeat' (first | apply And.intro | intro _hc)
        all_goals first | exact k2 | exact AV.le_refl _ | exact AV.le_any _ | exact OLe.refl _ | exact OLe.none _ | exact LeH.refl _ | exact LeL.refl _ | exact AV.le.bs _ | exact AV.le.sb _ | omega | contradiction
    · have hi8 : i < 8 := by rw [hbad] at hB; omega
      have k3 := h3 (by omega) hi8
      rw [hbad] at hB
      simp only [e4 hi8]
      clear h1 h2 h3 hbad hv hm h88 e0 e1 e2 e3 e4 e5 hp1 h87
      simp only [SQ] at k3
      generalize hw : vAt S 0 (i + 1) = v1 at *
      generalize vAt S 0 i = v0 at *
      generalize byt S i = c at *
      repeat' (first | refine wC (by first | omega | (simp only [W1, cond_true, cond_false]; first | done | omega)) ?_ | refine wT (by first | omega | (simp only [W1, cond_true, cond_false]; first | done | omega)) ?_ | refine wF (by intro _h; first | omega | (simp only [W1, cond_true, cond_false] at _h; first | done | omega)) ?_ | (refine wS ?_ ?_ <;> intro _h <;> simp only [W1, cond_true, cond_false] at _h))
      all_goals simp only [W1, W2, owesN, owesX, owesR, cond_true, cond_false]
      repeat' (first | apply And.intro | intro _hc)
      all_goals first | exact k3 | exact AV.le_refl _ | exact AV.le_any _ | exact OLe.refl _ | exact OLe.none _ | exact LeH.refl _ | exact LeL.refl _ | exact AV.le.bs _ | exact AV.le.sb _ | omega | contradiction
end Go.Eng.SB.B

namespace Go.Eng.SB.B
open Go Go.Eng Go.Eng.SB Go.Eng.SB.R Go.Eng.RD Go.Lib Go.Proofs
noncomputable def oQ (S : ByteArray) : Out := OQ S (qN S 0 0) (S.extract (qO S 0 0) S.size) (qE S 0 0)
theorem oQ_good {S : ByteArray} {k : Nat} (h : IsGood S 0 S.size k) : oQ S = OQ S (vAt S 0 (k + 1) : Int) (S.extract (k + 1) S.size) 0 := by
  obtain ⟨h1, h2, h3⟩ := q_good (t := S) (off := 0) (k := k) (by rw [Nat.sub_zero]; exact h)
  unfold oQ
  rw [h1, h2, h3, Nat.zero_add]
theorem oQ_cut {S : ByteArray} (h : IsCut S 0 S.size) : oQ S = OQ S 0 ⟨#[]⟩ 30 := by
  obtain ⟨h1, h2, h3⟩ := q_cut (t := S) (off := 0) (by rw [Nat.sub_zero]; exact h)
  unfold oQ
  rw [h1, h2, h3, ext_none]
theorem oQ_bad {S : ByteArray} {k : Nat} (h : IsBad S 0 S.size k) : oQ S = OQ S 0 ⟨#[]⟩ 31 := by
  obtain ⟨h1, h2, h3⟩ := q_no (t := S) (off := 0) (k := k) (by rw [Nat.sub_zero]; exact h)
  unfold oQ
  rw [h1, h2, h3, ext_none]
theorem vAt_small {S : ByteArray} {i : Nat} (h : i < 8) : vAt S 0 (i + 1) ≤ 4611686018427387904 := by
  have h1 := vAt_lt S 0 (i + 1)
  have h2 : (128 : Nat) ^ (i + 1) ≤ 128 ^ 8 := Nat.pow_le_pow_right (by decide) (by omega)
  have h3 : (128 : Nat) ^ 8 = 72057594037927936 := by decide
  omega
theorem loopQ_ok {S : ByteArray} (hz : S.size ≤ 1000000000000) : ∀ i, (i ≤ 8 ∧ i ≤ S.size ∧ ∀ j, j < i → 128 ≤ byt S (0 + j)) → LoopOK Try.prog Γb 0 81 loopQ (LSpec.at [1, 3, 4, 5, 6, 2] [] (SQ S i) (oQ S)) := by
  refine loop_at (S := SQ S) (pre := fun i => i ≤ 8 ∧ i ≤ S.size ∧ ∀ j, j < i → 128 ≤ byt S (0 + j)) (O := fun _ => oQ S) (k := 0) (fun i => 9 - i) fun i hi => ⟨[kFr], Lno, false, noLoops (by kernel_rfl), ?_⟩
  obtain ⟨hi1, hi2, hi3⟩ := hi
  by_cases hs : i = S.size
  · have hc : IsCut S 0 S.size := ⟨by omega, fun j hj => hi3 j (by omega)⟩
    show (roundE (P := Try.prog) (Γ := Γb) [kFr] Lno false 0 0 loopQ [1, 3, 4, 5, 6, 2] [] 81 [.ptr 0 0, .ptr 1 0, .v (.int .i64 (vAt S 0 i : Int)), .v (.int .i64 ((128 ^ i : Nat) : Int)), .v (.int .i64 (i : Int)), .v (.int .i64 0)] (rws S ⟨#[]⟩ 0)).sat (OwesA (SQ S) _ _ _ _ (oQ S))
    rw [roundQ, oQ_cut hc]
    have f1 : fS S 0 30 = ⟨#[]⟩ := rfl
    have f2 : fE 0 30 = 30 := rfl
    simp only [f1, f2]
    refine wT (decide_eq_true (by omega)) (wT (decide_eq_true (by omega)) (wC (cl_iff.2 ⟨trivial, LeL.refl _, trivial⟩) ?_))
    exact ⟨rfl, ⟨.any _, .refl _, .any _, .any _, .any _, .refl _, trivial⟩, LeH.refl _⟩
  · have hlt : i < S.size := by omega
    refine stepQ hi1 hlt hz (fun hb n' => ?_) (fun hc hb => ?_) (fun hc h8 => ?_)
    · have h : IsBad S 0 S.size i := ⟨hlt, hi1, hi3, hb⟩
      rw [oQ_bad h]
      exact ⟨rfl, ⟨.any _, .refl _, .any _, .any _, .any _, .refl _, trivial⟩, LeH.refl _⟩
    · have h : IsGood S 0 S.size i := ⟨hlt, hi1, ⟨hi3, by rw [Nat.zero_add]; exact hc, fun hp h0 => hb (.inl ⟨by rw [Nat.zero_add]; exact hc, h0, hp⟩)⟩, by
        rcases Nat.lt_or_ge i 8 with h8 | h8
        · exact vAt_small h8
        · exact Nat.le_of_not_lt fun h => hb (.inr ⟨by omega, .inr h⟩)⟩
      rw [oQ_good h]
      exact ⟨rfl, ⟨.any _, .refl _, .any _, .any _, .any _, .refl _, trivial⟩, LeH.refl _⟩
    · refine ⟨i + 1, LeL.refl _, LeH.refl _, ⟨by omega, by omega, fun j hj => ?_⟩, rfl, by show 9 - (i + 1) < 9 - i; omega⟩
      rcases Nat.lt_or_ge j i with h | h
      · exact hi3 j h
      · obtain rfl : j = i := by omega
        rw [Nat.zero_add]; exact hc
theorem runQn0 (S : ByteArray) : bodyE (P := Try.prog) (Γ := Γb) [kFr] (fun _ => LSpec.at [1, 3, 4, 5, 6, 2] [] (SQ S 0) (oQ S)) false 81 [.tmp 2, .cell 3 148] (bodyOf Try.f89) [rdV S 0] [] =
  Tree.br false (Tree.leaf (Ans.mk (AV.tup [AV.v (Value.int IntKind.i64 (0 : Int)), AV.agg [AV.v (Value.string S), AV.v (Value.int IntKind.i64 (0 : Int))]]) [])) (Tree.chk (cl (LeL [AV.ptr (0
    : Nat) (0 : Nat), AV.ptr (1 : Nat) (0 : Nat), AV.v (Value.int IntKind.i64 (0 : Int)), AV.v (Value.int IntKind.i64 (1 : Int)), AV.v (Value.int IntKind.i64 (0 : Int)), AV.v (Value.int
    IntKind.i64 (0 : Int))] [AV.ptr (0 : Nat) (0 : Nat), AV.ptr (1 : Nat) (0 : Nat), AV.v (Value.int IntKind.i64 (↑(0 : Nat) : Int)), AV.v (Value.int IntKind.i64 (↑(1 : Nat) : Int)), AV.v
    (Value.int IntKind.i64 (↑(0 : Nat) : Int)), AV.v (Value.int IntKind.i64 (0 : Int))] ∧ LeH [some (Blk.row [AV.v (Value.string S), AV.v (Value.int IntKind.i64 (0 : Int))]), some (Blk.row
    [AV.v (Value.string (ByteArray.mk #[])), AV.v (Value.int IntKind.i64 (0 : Int))])] [some (Blk.row [AV.v (Value.string S), AV.v (Value.int IntKind.i64 (0 : Int))]), some (Blk.row [AV.v
    (Value.string (ByteArray.mk #[])), AV.v (Value.int IntKind.i64 (0 : Int))])])) (Tree.leaf (Ans.mk (AV.tup [AV.v (Value.int IntKind.i64 (qN S (0 : Nat) (0 : Int))), AV.agg [AV.v
    (Value.string (ByteArray.extract S (qO S (0 : Nat) (0 : Int)) (ByteArray.size S))), AV.v (Value.int IntKind.i64 (qE S (0 : Nat) (0 : Int)))]]) []))) := by kernel_rfl
theorem runQne (S : ByteArray) (e : Int) : bodyE (P := Try.prog) (Γ := Γb) [kFr] Lno false 81 [.tmp 2, .cell 3 148] (bodyOf Try.f89) [rdV S e] [] =
  Tree.br (!decide (e = (0 : Int))) (Tree.leaf (Ans.mk (AV.tup [AV.v (Value.int IntKind.i64 (0 : Int)), AV.agg [AV.v (Value.string S), AV.v (Value.int IntKind.i64 e)]]) [])) Tree.fail := by kernel_rfl
theorem ansQn {S : ByteArray} {e : Int} (hz : S.size ≤ 1000000000000) : Answers Try.prog Γb 89 [rdV S e] [] (.tup [.v (.int .i64 (qN S 0 e)), rdV (S.extract (qO S 0 e) S.size) (qE S 0 e)]) [] [] := by
  by_cases he : e = 0
  · subst he
    refine answers (fn := Try.f89) (c := bodyOf Try.f89) (ntmps := 81) (results := [.tmp 2, .cell 3 148]) [kFr] (fun _ => LSpec.at [1, 3, 4, 5, 6, 2] [] (SQ S 0) (oQ S)) false Try.func89 (by kernel_rfl) (by kernel_rfl) (by kernel_rfl) (by kernel_rfl) (by simp) rfl (oneLoop (b := loopQ) (by kernel_rfl) (loopQ_ok hz 0 ⟨by omega, Nat.zero_le _, fun j hj => absurd hj (Nat.not_lt_zero j)⟩)) <| Meets.of (runQn0 S) <| ?_
    repeat' (first | refine wC (by first | omega | (simp only [W1, cond_true, cond_false]; first | done | omega)) ?_ | refine wT (by first | omega | (simp only [W1, cond_true, cond_false]; first | done | omega)) ?_ | refine wF (by intro _h; first | omega | (simp only [W1, cond_true, cond_false] at _h; first | done | omega)) ?_ | (refine wS ?_ ?_ <;> intro _h <;> simp only [W1, cond_true, cond_false] at _h))
    all_goals simp only [W1, W2, owesN, owesX, owesR, cond_true, cond_false]
    repeat' (first | apply And.intro | intro _hc)
    all_goals first | exact AV.le_refl _ | exact AV.le_any _ | exact OLe.refl _ | exact OLe.none _ | exact LeH.refl _ | exact LeL.refl _ | exact AV.le.bs _ | exact AV.le.sb _ | omega | contradiction
  · rw [qN_bad he, qO_bad he, qE_bad he, ext_all]
    refine answers (fn := Try.f89) (c := bodyOf Try.f89) (ntmps := 81) (results := [.tmp 2, .cell 3 148]) [kFr] (Lno) false Try.func89 (by kernel_rfl) (by kernel_rfl) (by kernel_rfl) (by kernel_rfl) (by simp) rfl (fun _ _ _ => fail_ok) <| Meets.of (runQne S e) <| ?_
    repeat' (first | refine wC (by first | omega | (simp only [W1, cond_true, cond_false]; first | done | omega)) ?_ | refine wT (by first | omega | (simp only [W1, cond_true, cond_false]; first | done | omega)) ?_ | refine wF (by intro _h; first | omega | (simp only [W1, cond_true, cond_false] at _h; first | done | omega)) ?_ | (refine wS ?_ ?_ <;> intro _h <;> simp only [W1, cond_true, cond_false] at _h))
    all_goals simp only [W1, W2, owesN, owesX, owesR, cond_true, cond_false]
    repeat' (first | apply And.intro | intro _hc)
    all_goals first | exact AV.le_refl _ | exact AV.le_any _ | exact OLe.refl _ | exact OLe.none _ | exact LeH.refl _ | exact LeL.refl _ | exact AV.le.bs _ | exact AV.le.sb _ | omega | contradiction
end Go.Eng.SB.B

namespace Go.Eng.SB.B
open Go Go.Eng Go.Eng.SB Go.Eng.SB.R Go.Eng.RD Go.Lib Go.Proofs
noncomputable abbrev lpD : Code := loopOf (bodyOf Try.f23) 0
abbrev lvD : List Nat := [0, 3, 4]
abbrev nlD : List (Nat × TypeId) := [(1, 5)]
noncomputable def SD (s b : ByteArray) (i : Nat) : List AV × Heap := ([.v (.string s), .hs 0 0 b.size, .v (.int .i64 (i : Int))], [some (.arr 1 b.size (bsF b))])
noncomputable def OD (s b : ByteArray) : Out := ⟨.exit 0, [.any, .hs 0 0 b.size, .any], [some (.arr 1 b.size (bsF b))]⟩
theorem rD (s b : ByteArray) (i : Nat) : roundE (P := Try.prog) (Γ := Γb) [] Lno false 0 0 lpD lvD nlD 32 (SD s b i).1 (SD s b i).2 =
  Tree.br (decide ((↑i : Int) < (↑(ByteArray.size s) : Int))) (Tree.chk (decide ((0 : Int) ≤ (↑i : Int)) && decide ((↑i : Int) < (↑(ByteArray.size s) : Int))) (Tree.br (decide (sbyte s i = (0
    : Int))) (Tree.chk (roomOk (1 : Nat) (ByteArray.size b + (2 : Nat))) (Tree.leaf (Out.mk AEx.normal [AV.v (Value.string s), AV.hs (0 : Nat) (0 : Nat) (ByteArray.size b + (2 : Nat)), AV.v
    (Value.int IntKind.i64 (IntKind.wrap IntKind.i64 ((↑i : Int) + (1 : Int))))] [some (Blk.arr (1 : Nat) (ByteArray.size b + (2 : Nat)) fun j => mixL (decide (j < ByteArray.size b)) [AV.v
    (Value.int IntKind.u8 (sbyte b ((0 : Nat) + j)))] (chain [AV.v (Value.int IntKind.u8 (0 : Int))] (0 : Nat) [[AV.v (Value.int IntKind.u8 (1 : Int))], [AV.v (Value.int IntKind.u8 (1 :
    Int))]] ((0 : Nat) + (j - ByteArray.size b))))]))) (Tree.br (decide (sbyte s i = (1 : Int))) (Tree.chk (roomOk (1 : Nat) (ByteArray.size b + (2 : Nat))) (Tree.leaf (Out.mk AEx.normal
    [AV.v (Value.string s), AV.hs (0 : Nat) (0 : Nat) (ByteArray.size b + (2 : Nat)), AV.v (Value.int IntKind.i64 (IntKind.wrap IntKind.i64 ((↑i : Int) + (1 : Int))))] [some (Blk.arr (1 :
    Nat) (ByteArray.size b + (2 : Nat)) fun j => mixL (decide (j < ByteArray.size b)) [AV.v (Value.int IntKind.u8 (sbyte b ((0 : Nat) + j)))] (chain [AV.v (Value.int IntKind.u8 (0 : Int))]
    (0 : Nat) [[AV.v (Value.int IntKind.u8 (1 : Int))], [AV.v (Value.int IntKind.u8 (2 : Int))]] ((0 : Nat) + (j - ByteArray.size b))))]))) (Tree.chk (decide ((0 : Int) ≤ (↑i : Int)) &&
    decide ((↑i : Int) < (↑(ByteArray.size s) : Int))) (Tree.chk (roomOk (1 : Nat) (ByteArray.size b + (1 : Nat))) (Tree.leaf (Out.mk AEx.normal [AV.v (Value.string s), AV.hs (0 : Nat) (0 :
    Nat) (ByteArray.size b + (1 : Nat)), AV.v (Value.int IntKind.i64 (IntKind.wrap IntKind.i64 ((↑i : Int) + (1 : Int))))] [some (Blk.arr (1 : Nat) (ByteArray.size b + (1 : Nat)) fun j =>
    mixL (decide (j < ByteArray.size b)) [AV.v (Value.int IntKind.u8 (sbyte b ((0 : Nat) + j)))] (chain [AV.v (Value.int IntKind.u8 (0 : Int))] (0 : Nat) [[AV.v (Value.int IntKind.u8 (sbyte
    s i))]] ((0 : Nat) + (j - ByteArray.size b))))]))))))) (Tree.leaf (Out.mk (AEx.exit (0 : Nat)) [AV.v (Value.string s), AV.hs (0 : Nat) (0 : Nat) (ByteArray.size b), AV.v (Value.int
    IntKind.i64 (↑i : Int))] [some (Blk.arr (1 : Nat) (ByteArray.size b) fun j => [AV.v (Value.int IntKind.u8 (sbyte b j))])])) := by kernel_rfl
theorem runD (s b : ByteArray) : bodyE (P := Try.prog) (Γ := Γb) [] (fun _ => LSpec.at lvD nlD (SD s ⟨#[]⟩ 0) (OD s b)) false 32 [.tmp 2] (bodyOf Try.f23) [.v (.string s)] [] =
  Tree.chk (cl (LeL [AV.v (Value.string s), AV.hs (0 : Nat) (0 : Nat) (0 : Nat), AV.v (Value.int IntKind.i64 (0 : Int))] [AV.v (Value.string s), AV.hs (0 : Nat) (0 : Nat) (0 : Nat), AV.v
    (Value.int IntKind.i64 (↑(0 : Nat) : Int))] ∧ LeH [some (Blk.arr (1 : Nat) (0 : Nat) fun x => [AV.v (Value.int IntKind.u8 (0 : Int))])] [some (Blk.arr (1 : Nat) (0 : Nat) fun j => [AV.v
    (Value.int IntKind.u8 (sbyte (ByteArray.mk #[]) j))])])) (Tree.chk (allBytes (ByteArray.size b) fun j => [AV.v (Value.int IntKind.u8 (sbyte b ((0 : Nat) + j)))]) (Tree.leaf (Ans.mk (AV.v
    (Value.string (textOf (ByteArray.size b) fun j => [AV.v (Value.int IntKind.u8 (sbyte b ((0 : Nat) + j)))]))) []))) := by kernel_rfl
noncomputable abbrev lpT : Code := loopOf (bodyOf Try.f25) 0
abbrev lvT : List Nat := [0, 4, 5, 2, 3]
noncomputable def ST (s b : ByteArray) (i : Nat) : List AV × Heap := ([.v (.string s), .hs 0 0 b.size, .v (.int .i64 (i : Int)), .v (.string ⟨#[]⟩), .v (.bool false)], [some (.arr 1 b.size (bsF b))])
noncomputable def OT : Option ByteArray → Out
  | some b => ⟨.exit 0, [.any, .hs 0 0 b.size, .any, .any, .any], [some (.arr 1 b.size (bsF b))]⟩
  | none => ⟨.ret, [.any, .any, .any, .v (.string ⟨#[]⟩), .v (.bool false)], [none]⟩
theorem rT (s b : ByteArray) (i : Nat) : roundE (P := Try.prog) (Γ := Γb) [] Lno false 0 0 lpT lvT nlD 57 (ST s b i).1 (ST s b i).2 =
  Tree.br (decide ((↑i : Int) < (↑(ByteArray.size s) : Int))) (Tree.chk (decide ((0 : Int) ≤ (↑i : Int)) && decide ((↑i : Int) < (↑(ByteArray.size s) : Int))) (Tree.br (decide (sbyte s i = (0
    : Int))) (Tree.leaf (Out.mk AEx.ret [AV.v (Value.string s), AV.hs (0 : Nat) (0 : Nat) (ByteArray.size b), AV.v (Value.int IntKind.i64 (↑i : Int)), AV.v (Value.string (ByteArray.mk #[])),
    AV.v (Value.bool false)] [some (Blk.arr (1 : Nat) (ByteArray.size b) fun j => [AV.v (Value.int IntKind.u8 (sbyte b j))])])) (Tree.chk (decide ((0 : Int) ≤ (↑i : Int)) && decide ((↑i :
    Int) < (↑(ByteArray.size s) : Int))) (Tree.br (!decide (sbyte s i = (1 : Int))) (Tree.chk (decide ((0 : Int) ≤ (↑i : Int)) && decide ((↑i : Int) < (↑(ByteArray.size s) : Int))) (Tree.chk
    (roomOk (1 : Nat) (ByteArray.size b + (1 : Nat))) (Tree.leaf (Out.mk AEx.normal [AV.v (Value.string s), AV.hs (0 : Nat) (0 : Nat) (ByteArray.size b + (1 : Nat)), AV.v (Value.int
    IntKind.i64 (IntKind.wrap IntKind.i64 ((↑i : Int) + (1 : Int)))), AV.v (Value.string (ByteArray.mk #[])), AV.v (Value.bool false)] [some (Blk.arr (1 : Nat) (ByteArray.size b + (1 : Nat))
    fun j => mixL (decide (j < ByteArray.size b)) [AV.v (Value.int IntKind.u8 (sbyte b ((0 : Nat) + j)))] (chain [AV.v (Value.int IntKind.u8 (0 : Int))] (0 : Nat) [[AV.v (Value.int
    IntKind.u8 (sbyte s i))]] ((0 : Nat) + (j - ByteArray.size b))))])))) (Tree.chk (bif decide (IntKind.wrap IntKind.i64 ((↑i : Int) + (1 : Int)) = (↑(ByteArray.size s) : Int)) then true
    else decide ((0 : Int) ≤ IntKind.wrap IntKind.i64 ((↑i : Int) + (1 : Int))) && decide (IntKind.wrap IntKind.i64 ((↑i : Int) + (1 : Int)) < (↑(ByteArray.size s) : Int)) && bif decide
    (sbyte s (Int.toNat (IntKind.wrap IntKind.i64 ((↑i : Int) + (1 : Int)))) < (1 : Int)) then true else decide ((0 : Int) ≤ IntKind.wrap IntKind.i64 ((↑i : Int) + (1 : Int))) && decide
    (IntKind.wrap IntKind.i64 ((↑i : Int) + (1 : Int)) < (↑(ByteArray.size s) : Int))) (Tree.br (bif decide (IntKind.wrap IntKind.i64 ((↑i : Int) + (1 : Int)) = (↑(ByteArray.size s) : Int))
    then true else bif decide (sbyte s (Int.toNat (IntKind.wrap IntKind.i64 ((↑i : Int) + (1 : Int)))) < (1 : Int)) then true else decide ((2 : Int) < sbyte s (Int.toNat (IntKind.wrap
    IntKind.i64 ((↑i : Int) + (1 : Int)))))) (Tree.leaf (Out.mk AEx.ret [AV.v (Value.string s), AV.hs (0 : Nat) (0 : Nat) (ByteArray.size b), AV.v (Value.int IntKind.i64 (↑i : Int)), AV.v
    (Value.string (ByteArray.mk #[])), AV.v (Value.bool false)] [some (Blk.arr (1 : Nat) (ByteArray.size b) fun j => [AV.v (Value.int IntKind.u8 (sbyte b j))])])) (Tree.chk (decide ((0 :
    Int) ≤ IntKind.wrap IntKind.i64 ((↑i : Int) + (1 : Int))) && decide (IntKind.wrap IntKind.i64 ((↑i : Int) + (1 : Int)) < (↑(ByteArray.size s) : Int))) (Tree.chk (roomOk (1 : Nat)
    (ByteArray.size b + (1 : Nat))) (Tree.leaf (Out.mk AEx.normal [AV.v (Value.string s), AV.hs (0 : Nat) (0 : Nat) (ByteArray.size b + (1 : Nat)), AV.v (Value.int IntKind.i64 (IntKind.wrap
    IntKind.i64 (IntKind.wrap IntKind.i64 ((↑i : Int) + (1 : Int)) + (1 : Int)))), AV.v (Value.string (ByteArray.mk #[])), AV.v (Value.bool false)] [some (Blk.arr (1 : Nat) (ByteArray.size b
    + (1 : Nat)) fun j => mixL (decide (j < ByteArray.size b)) [AV.v (Value.int IntKind.u8 (sbyte b ((0 : Nat) + j)))] (chain [AV.v (Value.int IntKind.u8 (0 : Int))] (0 : Nat) [[AV.v
    (Value.int IntKind.u8 (IntKind.wrap IntKind.u8 (sbyte s (Int.toNat (IntKind.wrap IntKind.i64 ((↑i : Int) + (1 : Int)))) - (1 : Int))))]] ((0 : Nat) + (j - ByteArray.size b))))]))))))))))
    (Tree.leaf (Out.mk (AEx.exit (0 : Nat)) [AV.v (Value.string s), AV.hs (0 : Nat) (0 : Nat) (ByteArray.size b), AV.v (Value.int IntKind.i64 (↑i : Int)), AV.v (Value.string (ByteArray.mk
    #[])), AV.v (Value.bool false)] [some (Blk.arr (1 : Nat) (ByteArray.size b) fun j => [AV.v (Value.int IntKind.u8 (sbyte b j))])])) := by kernel_rfl
theorem runT (s b : ByteArray) : bodyE (P := Try.prog) (Γ := Γb) [] (fun _ => LSpec.at lvT nlD (ST s ⟨#[]⟩ 0) (OT (some b))) false 57 [.tmp 2, .tmp 3] (bodyOf Try.f25) [.v (.string s)] [] =
  Tree.chk (cl (LeL [AV.v (Value.string s), AV.hs (0 : Nat) (0 : Nat) (0 : Nat), AV.v (Value.int IntKind.i64 (0 : Int)), AV.v (Value.string (ByteArray.mk #[])), AV.v (Value.bool false)] [AV.v
    (Value.string s), AV.hs (0 : Nat) (0 : Nat) (0 : Nat), AV.v (Value.int IntKind.i64 (↑(0 : Nat) : Int)), AV.v (Value.string (ByteArray.mk #[])), AV.v (Value.bool false)] ∧ LeH [some
    (Blk.arr (1 : Nat) (0 : Nat) fun x => [AV.v (Value.int IntKind.u8 (0 : Int))])] [some (Blk.arr (1 : Nat) (0 : Nat) fun j => [AV.v (Value.int IntKind.u8 (sbyte (ByteArray.mk #[]) j))])]))
    (Tree.chk (allBytes (ByteArray.size b) fun j => [AV.v (Value.int IntKind.u8 (sbyte b ((0 : Nat) + j)))]) (Tree.leaf (Ans.mk (AV.tup [AV.v (Value.string (textOf (ByteArray.size b) fun j
    => [AV.v (Value.int IntKind.u8 (sbyte b ((0 : Nat) + j)))])), AV.v (Value.bool true)]) []))) := by kernel_rfl
theorem runTn (s : ByteArray) : bodyE (P := Try.prog) (Γ := Γb) [] (fun _ => LSpec.at lvT nlD (ST s ⟨#[]⟩ 0) (OT none)) false 57 [.tmp 2, .tmp 3] (bodyOf Try.f25) [.v (.string s)] [] =
  Tree.chk (cl (LeL [AV.v (Value.string s), AV.hs (0 : Nat) (0 : Nat) (0 : Nat), AV.v (Value.int IntKind.i64 (0 : Int)), AV.v (Value.string (ByteArray.mk #[])), AV.v (Value.bool false)] [AV.v
    (Value.string s), AV.hs (0 : Nat) (0 : Nat) (0 : Nat), AV.v (Value.int IntKind.i64 (↑(0 : Nat) : Int)), AV.v (Value.string (ByteArray.mk #[])), AV.v (Value.bool false)] ∧ LeH [some
    (Blk.arr (1 : Nat) (0 : Nat) fun x => [AV.v (Value.int IntKind.u8 (0 : Int))])] [some (Blk.arr (1 : Nat) (0 : Nat) fun j => [AV.v (Value.int IntKind.u8 (sbyte (ByteArray.mk #[]) j))])]))
    (Tree.leaf (Ans.mk (AV.tup [AV.v (Value.string (ByteArray.mk #[])), AV.v (Value.bool false)]) [])) := by kernel_rfl
end Go.Eng.SB.B

namespace Go.Eng.SB.B
open Go Go.Eng Go.Eng.SB Go.Eng.SB.R Go.Eng.RD Go.Lib Go.Proofs
def bA (l : List UInt8) : ByteArray := ⟨l.toArray⟩
theorem bA_app (a b : List UInt8) : bA (a ++ b) = bA a ++ bA b := by
  apply ByteArray.ext
  rw [ByteArray.data_append]
  show (a ++ b).toArray = a.toArray ++ b.toArray
  simp
theorem bA_size (l : List UInt8) : (bA l).size = l.length := by show l.toArray.size = _; simp
theorem sbyte_of {s : ByteArray} {i : Nat} {c : UInt8} (h : s.data.toList[i]? = some c) : sbyte s i = (c.toNat : Int) := by
  show ((s.data[i]?.getD 0).toNat : Int) = _
  rw [← Array.getElem?_toList, h]; rfl
theorem at_of {s : ByteArray} {i : Nat} (h : i < s.size) : ∃ c : UInt8, s.data.toList[i]? = some c := by
  rw [Array.getElem?_toList]
  exact ⟨_, Array.getElem?_eq_getElem h⟩
theorem ap1 {b : ByteArray} {c : UInt8} {k : Int} (hk : k = (c.toNat : Int)) {j : Nat} (hj : j < b.size + 1) : mixL (decide (j < b.size)) [.v (.int .u8 (sbyte b (0 + j)))] (chain [.v (.int .u8 (0 : Int))] 0 [[.v (.int .u8 k)]] (0 + (j - b.size))) = bsF (b ++ bA [c]) j := by
  subst hk
  show mixL _ _ (mixL _ _ [AV.v (Value.int IntKind.u8 0)]) = _
  rw [mixU, mixU]
  show [AV.v (.int .u8 _)] = [AV.v (.int .u8 (sbyte (b ++ bA [c]) j))]
  rw [sbyte_append, Nat.zero_add]
  by_cases h : j < b.size
  · rw [decide_eq_true h, if_pos h]; rfl
  · rw [decide_eq_false h, if_neg h, show j - b.size = 0 by omega]; rfl
theorem ap2 {b : ByteArray} {c d : UInt8} {k m : Int} (hk : k = (c.toNat : Int)) (hm : m = (d.toNat : Int)) {j : Nat} (hj : j < b.size + 2) : mixL (decide (j < b.size)) [.v (.int .u8 (sbyte b (0 + j)))] (chain [.v (.int .u8 (0 : Int))] 0 [[.v (.int .u8 k)], [.v (.int .u8 m)]] (0 + (j - b.size))) = bsF (b ++ bA [c, d]) j := by
  subst hk hm
  show mixL _ _ (mixL _ _ (mixL _ _ [AV.v (Value.int IntKind.u8 0)])) = _
  rw [mixU, mixU, mixU]
  show [AV.v (.int .u8 _)] = [AV.v (.int .u8 (sbyte (b ++ bA [c, d]) j))]
  rw [sbyte_append, Nat.zero_add]
  by_cases h : j < b.size
  · rw [decide_eq_true h, if_pos h]; rfl
  · rw [decide_eq_false h, if_neg h]
    have : j - b.size = 0 ∨ j - b.size = 1 := by omega
    rcases this with h | h <;> rw [h] <;> rfl
noncomputable def dP (s : ByteArray) (i : Nat) : ByteArray := bA (dress (s.data.toList.take i))
theorem dP_next {s : ByteArray} {i : Nat} {c : UInt8} (h : s.data.toList[i]? = some c) : dP s (i + 1) = dP s i ++ bA (dr c) := by
  unfold dP
  rw [dress_next h, bA_app]
theorem dP_size (s : ByteArray) (i : Nat) : (dP s i).size ≤ 2 * i := by
  unfold dP
  rw [bA_size]
  have := dress_len (s.data.toList.take i)
  have : (s.data.toList.take i).length ≤ i := by rw [List.length_take]; omega
  omega
theorem dP_all (s : ByteArray) : dP s s.size = dressB s := by
  unfold dP dressB
  rw [show s.size = s.data.toList.length by rw [← Lib.size_eq], List.take_length]; rfl
theorem roomD {n : Nat} (h : n ≤ 3000000000) : roomOk 1 n = true := by
  unfold roomOk
  exact decide_eq_true (by omega)
theorem inS {i n : Nat} (h : i < n) : (decide ((0 : Int) ≤ (i : Int)) && decide ((i : Int) < (n : Int))) = true := by
  rw [decide_eq_true (by omega), decide_eq_true (by omega)]; rfl
theorem loopDr {s : ByteArray} (hs : s.size ≤ 1000000000) : ∀ i : Nat, i ≤ s.size → LoopOK Try.prog Γb 0 32 lpD (LSpec.at lvD nlD (SD s (dP s i) i) (OD s (dressB s))) := by
  refine loop_at (S := fun i => SD s (dP s i) i) (pre := fun i => i ≤ s.size) (O := fun _ => OD s (dressB s)) (k := 0) (fun i => s.size - i) fun i hi => .of (noLoops (by kernel_rfl)) (rD s (dP s i) i) ?_
  have hz := dP_size s i
  rcases Nat.lt_or_ge i s.size with h | h
  · have e1 : IntKind.i64.wrap ((i : Int) + (1 : Int)) = ((i + 1 : Nat) : Int) := wrapUpN (by omega)
    obtain ⟨c, hc⟩ := at_of h
    have hb := sbyte_of hc
    have hn := dP_next hc
    have hlt : c.toNat < 256 := c.toNat_lt
    simp only [Int.toNat_natCast, e1, hb]
    refine wT (decide_eq_true (by omega)) (wC (inS h) ?_)
    by_cases h0 : c.toNat = 0
    · have hd : dr c = [1, 1] := by unfold dr; rw [if_pos (by omega), u8_of (by decide) h0]; rfl
      rw [hd] at hn
      refine wT (decide_eq_true (by omega)) (wC (roomD (by omega)) ⟨i + 1, ?_, ?_, h, rfl, by show s.size - (i + 1) < s.size - i; omega⟩)
      · show LeL _ [_, .hs 0 0 (dP s (i + 1)).size, _]
        rw [hn, ByteArray.size_append]
        exact LeL.refl _
      · show LeH _ [some (.arr 1 (dP s (i + 1)).size (bsF (dP s (i + 1))))]
        rw [hn]
        exact ⟨.arr (by rw [ByteArray.size_append]; rfl) (fun j hj => ap2 (c := 1) (d := 1) rfl rfl hj) (fun _ => rfl), trivial⟩
    · refine wN (decide_eq_false (by omega)) ?_
      by_cases h1 : c.toNat = 1
      · have hd : dr c = [1, 2] := by unfold dr; rw [if_pos (by omega), u8_of (by decide) h1]; rfl
        rw [hd] at hn
        refine wT (decide_eq_true (by omega)) (wC (roomD (by omega)) ⟨i + 1, ?_, ?_, h, rfl, by show s.size - (i + 1) < s.size - i; omega⟩)
        · show LeL _ [_, .hs 0 0 (dP s (i + 1)).size, _]
          rw [hn, ByteArray.size_append]
          exact LeL.refl _
        · show LeH _ [some (.arr 1 (dP s (i + 1)).size (bsF (dP s (i + 1))))]
          rw [hn]
          exact ⟨.arr (by rw [ByteArray.size_append]; rfl) (fun j hj => ap2 (c := 1) (d := 2) rfl rfl hj) (fun _ => rfl), trivial⟩
      · have hd : dr c = [c] := by unfold dr; rw [if_neg (by omega)]
        rw [hd] at hn
        refine wN (decide_eq_false (by omega)) (wC (inS h) (wC (roomD (by omega)) ⟨i + 1, ?_, ?_, h, rfl, by show s.size - (i + 1) < s.size - i; omega⟩))
        · show LeL _ [_, .hs 0 0 (dP s (i + 1)).size, _]
          rw [hn, ByteArray.size_append]
          exact LeL.refl _
        · show LeH _ [some (.arr 1 (dP s (i + 1)).size (bsF (dP s (i + 1))))]
          rw [hn]
          exact ⟨.arr (by rw [ByteArray.size_append]; rfl) (fun j hj => ap1 (c := c) rfl hj) (fun _ => rfl), trivial⟩
  · obtain rfl : i = s.size := Nat.le_antisymm hi h
    refine wN (decide_eq_false (by omega)) ?_
    rw [dP_all]
    exact ⟨rfl, ⟨.any _, .refl _, .any _, trivial⟩, LeH.refl _⟩
theorem emptyH (f g : Nat → List AV) (h : ∀ j, 0 ≤ j → f j = f 0) : LeH [some (.arr 1 0 f)] [some (.arr 1 0 f)] := LeH.refl _
theorem dP0 (s : ByteArray) : dP s 0 = ⟨#[]⟩ := by unfold dP; rw [List.take_zero]; rfl
theorem zeroH : LeH [some (Blk.arr 1 0 fun _ => [AV.v (.int .u8 (0 : Int))])] [some (.arr 1 0 (bsF ⟨#[]⟩))] := ⟨.arr rfl (fun j hj => absurd hj (Nat.not_lt_zero j)) (fun _ => rfl), trivial⟩
theorem ansDrR {s : ByteArray} (hs : s.size ≤ 1000000000) : Answers Try.prog Γb 23 [.v (.string s)] [] (.v (.string (dressB s))) [] [] := by
  refine answers (fn := Try.f23) (c := bodyOf Try.f23) (ntmps := 32) (results := [.tmp 2]) [] (fun _ => LSpec.at lvD nlD (SD s ⟨#[]⟩ 0) (OD s (dressB s))) false Try.func23 (by kernel_rfl) (by kernel_rfl) (by kernel_rfl) (by kernel_rfl) (by simp) rfl (oneLoop (b := lpD) (by kernel_rfl) (by have := loopDr hs 0 (Nat.zero_le _); rwa [dP0] at this)) (Meets.of (runD s (dressB s)) ?_)
  simp only [text0, all0]
  exact wC (cl_iff.2 ⟨LeL.refl _, zeroH⟩) (wC rfl ⟨.refl _, trivial⟩)
end Go.Eng.SB.B

namespace Go.Eng.SB.B
open Go Go.Eng Go.Eng.SB Go.Eng.SB.R Go.Eng.RD Go.Lib Go.Proofs
theorem drop_at {s : ByteArray} {i : Nat} {c : UInt8} (h : s.data.toList[i]? = some c) : s.data.toList.drop i = c :: s.data.toList.drop (i + 1) := by
  obtain ⟨hk, rfl⟩ := List.getElem?_eq_some_iff.1 h
  exact List.drop_eq_getElem_cons hk
theorem drop_end {s : ByteArray} {i : Nat} (h : s.size ≤ i) : s.data.toList.drop i = [] := List.drop_eq_nil_of_le (by rw [← Lib.size_eq]; exact h)
def preT (s : ByteArray) (R : Option (List UInt8)) (x : Nat × List UInt8) : Prop := x.1 ≤ s.size ∧ x.2.length ≤ x.1 ∧ (sp false (s.data.toList.drop x.1)).map (fun r => x.2 ++ r) = R
theorem okL1 {s b : ByteArray} {i : Int} : LeL [AV.v (.string s), .hs 0 0 b.size, .v (.int .i64 i), .v (.string ⟨#[]⟩), .v (.bool false)] (OT none).fr := ⟨.any _, .any _, .any _, .refl _, .refl _, trivial⟩
theorem okH1 {b : Option Blk} : LeH [b] (OT none).H := ⟨.none _, trivial⟩
theorem loopSt {s : ByteArray} (hs : s.size ≤ 1000000000) {R : Option (List UInt8)} : ∀ x : Nat × List UInt8, preT s R x → LoopOK Try.prog Γb 0 57 lpT (LSpec.at lvT nlD (ST s (bA x.2) x.1) (OT (R.map bA))) := by
  refine loop_at (S := fun x => ST s (bA x.2) x.1) (pre := preT s R) (O := fun _ => OT (R.map bA)) (k := 0) (fun x => s.size - x.1) fun x hx => .of (noLoops (by kernel_rfl)) (rT s (bA x.2) x.1) ?_
  obtain ⟨i, acc⟩ := x
  obtain ⟨hi, hl, hR⟩ := hx
  simp only at hi hl hR ⊢
  have hz := bA_size acc
  have e1 : IntKind.i64.wrap ((i : Int) + (1 : Int)) = ((i + 1 : Nat) : Int) := wrapUpN (by omega)
  rcases Nat.lt_or_ge i s.size with h | h
  · obtain ⟨c, hc⟩ := at_of h
    have hb := sbyte_of hc
    have hd := drop_at hc
    have hlt : c.toNat < 256 := c.toNat_lt
    rw [hd] at hR
    simp only [Int.toNat_natCast, e1, hb]
    refine wT (decide_eq_true (by omega)) (wC (inS h) ?_)
    by_cases h0 : c.toNat = 0
    · rw [sp_bad (.inl h0)] at hR
      subst hR
      exact wT (decide_eq_true (by omega)) ⟨rfl, okL1, okH1⟩
    · refine wN (decide_eq_false (by omega)) (wC (inS h) ?_)
      by_cases h1 : c.toNat = 1
      · rw [sp_start h1] at hR
        refine wN (by rw [decide_eq_true (show (c.toNat : Int) = 1 by omega)]; rfl) ?_
        by_cases hn : i + 1 = s.size
        · rw [drop_end (by omega)] at hR
          have hR : none = R := hR
          subst hR
          have hq : decide (((i + 1 : Nat) : Int) = (s.size : Int)) = true := decide_eq_true (by omega)
          rw [hq]
          exact wC rfl (wT rfl ⟨rfl, okL1, okH1⟩)
        · obtain ⟨d, hdd⟩ := at_of (s := s) (i := i + 1) (by omega)
          have hb2 := sbyte_of hdd
          have hd2 := drop_at hdd
          have hlt2 : d.toNat < 256 := d.toNat_lt
          have hq : decide (((i + 1 : Nat) : Int) = (s.size : Int)) = false := decide_eq_false (by omega)
          have hin := inS (show i + 1 < s.size by omega)
          have e2 : IntKind.i64.wrap (((i + 1 : Nat) : Int) + (1 : Int)) = ((i + 2 : Nat) : Int) := wrapUpN (by omega)
          rw [hd2] at hR
          simp only [hb2, hq, hin, e2, cond_false]
          by_cases ht : d.toNat = 1 ∨ d.toNat = 2
          · rw [sp_turn ht] at hR
            have hsub : IntKind.u8.wrap ((d.toNat : Int) - (1 : Int)) = ((d - 1).toNat : Int) := by
              rcases ht with h | h
              · rw [u8_of (by decide) h]; rfl
              · rw [u8_of (by decide) h]; rfl
            have q1 : decide ((d.toNat : Int) < 1) = false := decide_eq_false (by omega)
            have q2 : decide ((2 : Int) < (d.toNat : Int)) = false := decide_eq_false (by omega)
            simp only [q1, q2, cond_false, Bool.and_self, hsub]
            refine wC rfl (wN rfl (wC rfl (wC (roomD (by omega)) ⟨(i + 2, acc ++ [d - 1]), ?_, ?_, ⟨by show i + 2 ≤ _; omega, by simp; omega, hR⟩, rfl, by show s.size - (i + 2) < s.size - i; omega⟩)))
            · show LeL _ [_, .hs 0 0 (bA (acc ++ [d - 1])).size, _, _, _]
              rw [bA_app, ByteArray.size_append]
              exact LeL.refl _
            · show LeH _ [some (.arr 1 (bA (acc ++ [d - 1])).size (bsF (bA (acc ++ [d - 1]))))]
              rw [bA_app]
              exact ⟨.arr (by rw [ByteArray.size_append]; rfl) (fun j hj => ap1 (c := d - 1) rfl hj) (fun _ => rfl), trivial⟩
          · rw [sp_bad (.inr ⟨rfl, by omega, by omega⟩)] at hR
            have hR : none = R := hR
            subst hR
            have q : (bif decide ((d.toNat : Int) < 1) then true else decide ((2 : Int) < (d.toNat : Int))) = true := by
              by_cases h : d.toNat = 0
              · rw [decide_eq_true (show (d.toNat : Int) < 1 by omega)]; rfl
              · rw [decide_eq_false (show ¬ (d.toNat : Int) < 1 by omega), decide_eq_true (show (2 : Int) < (d.toNat : Int) by omega)]; rfl
            refine wC ?_ (wT q ⟨rfl, okL1, okH1⟩)
            simp
      · rw [sp_plain h0 h1] at hR
        refine wT (by rw [decide_eq_false (show ¬ (c.toNat : Int) = 1 by omega)]; rfl) (wC (inS h) (wC (roomD (by omega)) ⟨(i + 1, acc ++ [c]), ?_, ?_, ⟨h, by simp; omega, hR⟩, rfl, by show s.size - (i + 1) < s.size - i; omega⟩))
        · show LeL _ [_, .hs 0 0 (bA (acc ++ [c])).size, _, _, _]
          rw [bA_app, ByteArray.size_append]
          exact LeL.refl _
        · show LeH _ [some (.arr 1 (bA (acc ++ [c])).size (bsF (bA (acc ++ [c]))))]
          rw [bA_app]
          exact ⟨.arr (by rw [ByteArray.size_append]; rfl) (fun j hj => ap1 (c := c) rfl hj) (fun _ => rfl), trivial⟩
  · rw [drop_end h] at hR
    have hR : some (acc ++ []) = R := hR
    rw [List.append_nil] at hR
    subst hR
    refine wN (decide_eq_false (by omega)) ?_
    exact ⟨rfl, ⟨.any _, .refl _, .any _, .any _, .any _, trivial⟩, LeH.refl _⟩
def stripR (s : ByteArray) : AV := match stripO s with
  | some t => .tup [.v (.string t), .v (.bool true)]
  | none => .tup [.v (.string ⟨#[]⟩), .v (.bool false)]
theorem ansStR {s : ByteArray} (hs : s.size ≤ 1000000000) {v : AV} (hle : AV.le (stripR s) v) : Answers Try.prog Γb 25 [.v (.string s)] [] v [] [] := by
  have h0 : preT s (sp false s.data.toList) (0, []) := ⟨Nat.zero_le _, Nat.le_refl _, by show (sp false s.data.toList).map (fun r => [] ++ r) = _; rw [← sp_id]⟩
  have hl := loopSt hs (0, []) h0
  have e : stripO s = (sp false s.data.toList).map bA := rfl
  unfold stripR at hle
  rw [e] at hle
  cases hv : (sp false s.data.toList).map bA with
  | none =>
    rw [hv] at hl hle
    refine answers (fn := Try.f25) (c := bodyOf Try.f25) (ntmps := 57) (results := [.tmp 2, .tmp 3]) [] (fun _ => LSpec.at lvT nlD (ST s ⟨#[]⟩ 0) (OT none)) false Try.func25 (by kernel_rfl) (by kernel_rfl) (by kernel_rfl) (by kernel_rfl) (by simp) rfl (oneLoop (b := lpT) (by kernel_rfl) hl) (Meets.of (runTn s) ?_)
    exact wC (cl_iff.2 ⟨LeL.refl _, zeroH⟩) ⟨hle, trivial⟩
  | some b =>
    rw [hv] at hl hle
    refine answers (fn := Try.f25) (c := bodyOf Try.f25) (ntmps := 57) (results := [.tmp 2, .tmp 3]) [] (fun _ => LSpec.at lvT nlD (ST s ⟨#[]⟩ 0) (OT (some b))) false Try.func25 (by kernel_rfl) (by kernel_rfl) (by kernel_rfl) (by kernel_rfl) (by simp) rfl (oneLoop (b := lpT) (by kernel_rfl) hl) (Meets.of (runT s b) ?_)
    simp only [text0, all0]
    exact wC (cl_iff.2 ⟨LeL.refl _, zeroH⟩) (wC rfl ⟨hle, trivial⟩)
end Go.Eng.SB.B

namespace Go.Eng.SB.B
open Go Go.Eng Go.Eng.SB Go.Eng.SB.R Go.Eng.RD Go.Lib Go.Proofs
theorem emp_size {s : ByteArray} : (s = ⟨#[]⟩) ↔ s.size = 0 := ⟨fun h => by rw [h]; rfl, fun h => bN_eq (by rw [h]; rfl) (fun j hj => by omega)⟩
theorem byt_ext {t : ByteArray} {off j : Nat} : byt (t.extract off t.size) (0 + j) = byt t (off + j) := by
  have e : ∀ (s : ByteArray) (i : Nat), byt s i = bN s i := fun s i => rfl
  rw [e, e, Nat.zero_add, bN_extract _ _ _ _ (Nat.le_refl _)]
  by_cases h : off + j < t.size
  · rw [if_pos h]
  · rw [if_neg h]
    unfold bN
    rw [Array.getElem?_eq_none (by show t.size ≤ off + j; omega)]
    rfl
theorem vAt_ext {t : ByteArray} {off : Nat} (i : Nat) : vAt (t.extract off t.size) 0 i = vAt t off i := by
  induction i with
  | zero => simp only [vAt]
  | succ i ih => simp only [vAt, ih, byt_ext]
theorem good_ext {t : ByteArray} {off len k : Nat} : IsGood (t.extract off t.size) 0 len k ↔ IsGood t off len k := by
  unfold IsGood
  rw [vAt_ext]
  constructor
  · rintro ⟨h1, h2, h3, h4⟩
    exact ⟨h1, h2, ⟨fun j hj => by have := h3.hi j hj; rwa [byt_ext] at this, by have := h3.lo; rwa [byt_ext] at this, fun hp => by have := h3.nz hp; rwa [byt_ext] at this⟩, h4⟩
  · rintro ⟨h1, h2, h3, h4⟩
    exact ⟨h1, h2, ⟨fun j hj => by rw [byt_ext]; exact h3.hi j hj, by rw [byt_ext]; exact h3.lo, fun hp => by rw [byt_ext]; exact h3.nz hp⟩, h4⟩
theorem cut_ext {t : ByteArray} {off len : Nat} : IsCut (t.extract off t.size) 0 len ↔ IsCut t off len := by
  unfold IsCut
  simp only [byt_ext]
theorem bad_ext {t : ByteArray} {off len k : Nat} : IsBad (t.extract off t.size) 0 len k ↔ IsBad t off len k := by
  unfold IsBad BadC
  simp only [byt_ext, vAt_ext]
theorem size_ext {t : ByteArray} {off : Nat} : (t.extract off t.size).size = t.size - off := ext_size _ _ _ (Nat.le_refl _)
theorem q_ext {t : ByteArray} {off : Nat} {e : Int} (h : off ≤ t.size) : qN (t.extract off t.size) 0 e = qN t off e ∧ off + qO (t.extract off t.size) 0 e = qO t off e ∧ qE (t.extract off t.size) 0 e = qE t off e := by
  by_cases he : e = 0
  · subst he
    have hz : (t.extract off t.size).size - 0 = t.size - off := by rw [size_ext, Nat.sub_zero]
    rcases classify t off (t.size - off) with ⟨k, hk⟩ | hc | ⟨k, hk⟩
    · obtain ⟨a1, a2, a3⟩ := q_good hk
      obtain ⟨b1, b2, b3⟩ := q_good (t := t.extract off t.size) (off := 0) (k := k) (by rw [hz]; exact good_ext.2 hk)
      rw [a1, a2, a3, b1, b2, b3, vAt_ext]
      exact ⟨rfl, by omega, rfl⟩
    · obtain ⟨a1, a2, a3⟩ := q_cut hc
      obtain ⟨b1, b2, b3⟩ := q_cut (t := t.extract off t.size) (off := 0) (by rw [hz]; exact cut_ext.2 hc)
      rw [a1, a2, a3, b1, b2, b3, size_ext]
      exact ⟨rfl, by omega, rfl⟩
    · obtain ⟨a1, a2, a3⟩ := q_no hk
      obtain ⟨b1, b2, b3⟩ := q_no (t := t.extract off t.size) (off := 0) (k := k) (by rw [hz]; exact bad_ext.2 hk)
      rw [a1, a2, a3, b1, b2, b3, size_ext]
      exact ⟨rfl, by omega, rfl⟩
  · rw [qN_bad he, qO_bad he, qE_bad he, qN_bad he, qO_bad he, qE_bad he]
    exact ⟨rfl, by omega, rfl⟩
theorem ext_sub {t : ByteArray} {off a b : Nat} (hb : off + b ≤ t.size) : (t.extract off t.size).extract a b = t.extract (off + a) (off + b) := by
  have hs := size_ext (t := t) (off := off)
  refine bN_eq (by rw [ext_size _ _ _ (by omega), ext_size _ _ _ (by omega)]; omega) (fun j hj => ?_)
  rw [bN_extract _ _ _ _ (by omega), bN_extract _ _ _ _ hb, bN_extract _ _ _ _ (Nat.le_refl _)]
  by_cases h1 : a + j < b
  · rw [if_pos h1, if_pos (by omega), if_pos (by omega)]
    congr 1
    omega
  · rw [if_neg h1, if_neg (by omega)]
theorem ext_back {t : ByteArray} {off a : Nat} (h : off ≤ t.size) : (t.extract off t.size).extract a (t.extract off t.size).size = t.extract (off + a) t.size := by
  rw [ext_sub (by rw [size_ext]; omega), size_ext]
  congr 1
  omega


end Go.Eng.SB.B
