/- Texts that RS13r needs: YB3 and what follows it. -/
import Derived.Test.YtljejgnclkmpcaaPart4
set_option linter.unnecessarySimpa false
set_option linter.unusedSectionVars false
set_option linter.unusedSimpArgs false
set_option linter.unusedVariables false
namespace Go.Eng.SB
open Go Go.Eng Go.Proofs
inductive NA where
  | nil
  | sl (m : Nat) (g : Nat → Int)
  | hs (m : Nat) (g : Nat → Int)
def NA.m : NA → Nat
  | .nil => 0
  | .sl m _ => m
  | .hs m _ => m
def NA.g : NA → Nat → Int
  | .nil => fun _ => 0
  | .sl _ g => g
  | .hs _ g => g
def i64F (g : Nat → Int) : Nat → List AV := fun j => [.v (.int .i64 (g j))]
def NA.av : NA → AV
  | .nil => .v (.slice none 0 0)
  | .sl m g => .sl 1 m (i64F g)
  | .hs m _ => .hs 0 0 m
def NA.bl : NA → List Blk
  | .hs m g => [.arr 1 m (i64F g)]
  | _ => []
def NA.k : NA → Nat
  | .hs _ _ => 1
  | _ => 0
def catN (g : Nat → Int) : Nat → ByteArray
  | 0 => ⟨#[]⟩
  | i + 1 => catN g i ++ numB (g i).toNat
def outV (k : Nat) (g : Nat → Int) : Nat → AV
  | 0 => .v (.slice none 0 0)
  | i + 1 => .hs k 0 (catN g (i + 1)).size
def outB (g : Nat → Int) : Nat → Heap
  | 0 => []
  | i + 1 => [some (.arr 1 (catN g (i + 1)).size (bsF (catN g (i + 1))))]
noncomputable def loopM : Code := loopOf (bodyOf Try.f82) 0
def SM (a : NA) (i : Nat) : List AV × Heap := ([.any, .any, outV a.k a.g i, a.av, .v (.int .i64 (a.m : Int)), .v (.int .i64 (i : Int))], a.bl.map some ++ outB a.g i)
def OMg (a : NA) : Out := ⟨.exit 0, [.any, .any, outV a.k a.g a.m, .any, .any, .any], a.bl.map some ++ outB a.g a.m⟩
def OMb (a : NA) : Out := ⟨.ret, [.v (.slice none 0 0), .v (.int .i64 10), .any, .any, .any, .any], a.bl.map some⟩
theorem catN_small {g : Nat → Int} : ∀ {i : Nat}, (∀ j, j < i → okN (g j) = true) → (catN g i).size ≤ 9 * i ∧ (0 < i → 0 < (catN g i).size)
  | 0, _ => ⟨Nat.zero_le _, fun h => by omega⟩
  | i + 1, h => by
    obtain ⟨h1, _⟩ := catN_small (g := g) (i := i) fun j hj => h j (by omega)
    obtain ⟨k, hk, hk2⟩ := okN_nat (h i (by omega))
    have := numB_size hk2
    simp only [catN, ByteArray.size_append, hk, Int.toNat_natCast]
    omega
theorem small_cat {g : Nat → Int} {i : Nat} (h : ∀ j, j < i → okN (g j) = true) (hi : i ≤ 100000) : small (catN g i) := by
  have := (catN_small h).1
  unfold small; omega
theorem roundMn  : roundE (P := Try.prog) (Γ := Γb) [] Lno false 0 0 loopM [2, 3, 4, 8, 9, 10] [] 25 [.any, .any, .v (.slice none 0 0), .v (.slice none 0 0), .v (.int .i64 (0 : Nat)), .v (.int .i64 (0 : Nat))] [] =
  Tree.br false Tree.fail (Tree.leaf (Out.mk (AEx.exit (0 : Nat)) [AV.any, AV.any, AV.v (Value.slice none (0 : Nat) (0 : Nat)), AV.v (Value.slice none (0 : Nat) (0 : Nat)), AV.v (Value.int
    IntKind.i64 (↑(0 : Nat) : Int)), AV.v (Value.int IntKind.i64 (↑(0 : Nat) : Int))] [])) := by kernel_rfl
theorem roundMs0 (m : Nat) (g : Nat → Int) (n : Nat) (h : n ≤ 4611686018427387904) : roundE (P := Try.prog) (Γ := Γb) [CT.at 121 (ansNum .nil n trivial h)] Lno false 0 0 loopM [2, 3, 4, 8, 9, 10] [] 25 [.any, .any, .v (.slice none 0 0), .sl 1 m (i64F g), .v (.int .i64 (m : Int)), .v (.int .i64 (0 : Nat))] [] =
  Tree.br (decide ((↑(0 : Nat) : Int) < (↑m : Int))) (Tree.chk (decide ((↑(0 : Nat) : Int) < (↑m : Int))) (Tree.chk (cl (LeL [AV.v (Value.slice none (0 : Nat) (0 : Nat)), AV.v (Value.int
    IntKind.i64 (g (Int.toNat (↑(0 : Nat) : Int))))] [AV.v (Value.slice none (0 : Nat) (0 : Nat)), AV.v (Value.int IntKind.i64 (↑n : Int))] ∧ LeH [] [])) (Tree.br false (Tree.leaf (Out.mk
    AEx.ret [AV.v (Value.slice none (0 : Nat) (0 : Nat)), AV.v (Value.int IntKind.i64 (0 : Int)), AV.hs (0 : Nat) (0 : Nat) (ByteArray.size (BA.t BA.nil ++ numB n)), AV.sl (1 : Nat) m fun j
    => [AV.v (Value.int IntKind.i64 (g j))], AV.v (Value.int IntKind.i64 (↑m : Int)), AV.v (Value.int IntKind.i64 (↑(0 : Nat) : Int))] [some (Blk.arr (1 : Nat) (ByteArray.size (BA.t BA.nil
    ++ numB n)) fun j => [AV.v (Value.int IntKind.u8 (sbyte (BA.t BA.nil ++ numB n) j))])])) (Tree.leaf (Out.mk AEx.normal [AV.any, AV.any, AV.hs (0 : Nat) (0 : Nat) (ByteArray.size (BA.t
    BA.nil ++ numB n)), AV.sl (1 : Nat) m fun j => [AV.v (Value.int IntKind.i64 (g j))], AV.v (Value.int IntKind.i64 (↑m : Int)), AV.v (Value.int IntKind.i64 (IntKind.wrap IntKind.i64 ((↑(0
    : Nat) : Int) + (1 : Int))))] [some (Blk.arr (1 : Nat) (ByteArray.size (BA.t BA.nil ++ numB n)) fun j => [AV.v (Value.int IntKind.u8 (sbyte (BA.t BA.nil ++ numB n) j))])]))))) (Tree.leaf
    (Out.mk (AEx.exit (0 : Nat)) [AV.any, AV.any, AV.v (Value.slice none (0 : Nat) (0 : Nat)), AV.sl (1 : Nat) m fun j => [AV.v (Value.int IntKind.i64 (g j))], AV.v (Value.int IntKind.i64
    (↑m : Int)), AV.v (Value.int IntKind.i64 (↑(0 : Nat) : Int))] [])) := by kernel_rfl
theorem roundMs1 (m : Nat) (g : Nat → Int) (n i : Nat) (t : ByteArray) (ht : (BA.hs t).ok) (h : n ≤ 4611686018427387904) : roundE (P := Try.prog) (Γ := Γb) [CT.at 121 (ansNum (.hs t) n ht h)] Lno false 0 0 loopM [2, 3, 4, 8, 9, 10] [] 25 [.any, .any, .hs 0 0 t.size, .sl 1 m (i64F g), .v (.int .i64 (m : Int)), .v (.int .i64 (i : Int))] [some (.arr 1 t.size (bsF t))] =
  Tree.br (decide ((↑i : Int) < (↑m : Int))) (Tree.chk (decide ((0 : Int) ≤ (↑i : Int)) && decide ((↑i : Int) < (↑m : Int))) (Tree.chk (cl (LeL [AV.hs (0 : Nat) (0 : Nat) (ByteArray.size t),
    AV.v (Value.int IntKind.i64 (g (Int.toNat (↑i : Int))))] [AV.hs (0 : Nat) (0 : Nat) (ByteArray.size t), AV.v (Value.int IntKind.i64 (↑n : Int))] ∧ LeH [some (Blk.arr (1 : Nat)
    (ByteArray.size t) fun j => [AV.v (Value.int IntKind.u8 (sbyte t j))])] [some (Blk.arr (1 : Nat) (ByteArray.size t) fun j => [AV.v (Value.int IntKind.u8 (sbyte t j))])])) (Tree.br false
    (Tree.leaf (Out.mk AEx.ret [AV.v (Value.slice none (0 : Nat) (0 : Nat)), AV.v (Value.int IntKind.i64 (0 : Int)), AV.hs (0 : Nat) (0 : Nat) (ByteArray.size (BA.t (BA.hs t) ++ numB n)),
    AV.sl (1 : Nat) m fun j => [AV.v (Value.int IntKind.i64 (g j))], AV.v (Value.int IntKind.i64 (↑m : Int)), AV.v (Value.int IntKind.i64 (↑i : Int))] [some (Blk.arr (1 : Nat)
    (ByteArray.size (BA.t (BA.hs t) ++ numB n)) fun j => [AV.v (Value.int IntKind.u8 (sbyte (BA.t (BA.hs t) ++ numB n) j))])])) (Tree.leaf (Out.mk AEx.normal [AV.any, AV.any, AV.hs (0 : Nat)
    (0 : Nat) (ByteArray.size (BA.t (BA.hs t) ++ numB n)), AV.sl (1 : Nat) m fun j => [AV.v (Value.int IntKind.i64 (g j))], AV.v (Value.int IntKind.i64 (↑m : Int)), AV.v (Value.int
    IntKind.i64 (IntKind.wrap IntKind.i64 ((↑i : Int) + (1 : Int))))] [some (Blk.arr (1 : Nat) (ByteArray.size (BA.t (BA.hs t) ++ numB n)) fun j => [AV.v (Value.int IntKind.u8 (sbyte (BA.t
    (BA.hs t) ++ numB n) j))])]))))) (Tree.leaf (Out.mk (AEx.exit (0 : Nat)) [AV.any, AV.any, AV.hs (0 : Nat) (0 : Nat) (ByteArray.size t), AV.sl (1 : Nat) m fun j => [AV.v (Value.int
    IntKind.i64 (g j))], AV.v (Value.int IntKind.i64 (↑m : Int)), AV.v (Value.int IntKind.i64 (↑i : Int))] [some (Blk.arr (1 : Nat) (ByteArray.size t) fun j => [AV.v (Value.int IntKind.u8
    (sbyte t j))])])) := by kernel_rfl
theorem roundMh0 (m : Nat) (g : Nat → Int) (n : Nat) (h : n ≤ 4611686018427387904) : roundE (P := Try.prog) (Γ := Γb) [CT.at 121 (ansNum .nil n trivial h)] Lno false 1 0 loopM [2, 3, 4, 8, 9, 10] [] 25 [.any, .any, .v (.slice none 0 0), .hs 0 0 m, .v (.int .i64 (m : Int)), .v (.int .i64 (0 : Nat))] [some (.arr 1 m (i64F g))] =
  Tree.br (decide ((↑(0 : Nat) : Int) < (↑m : Int))) (Tree.chk (decide ((↑(0 : Nat) : Int) < (↑m : Int))) (Tree.chk (cl (LeL [AV.v (Value.slice none (0 : Nat) (0 : Nat)), AV.v (Value.int
    IntKind.i64 (g ((0 : Nat) + Int.toNat (↑(0 : Nat) : Int))))] [AV.v (Value.slice none (0 : Nat) (0 : Nat)), AV.v (Value.int IntKind.i64 (↑n : Int))] ∧ LeH [] [])) (Tree.br false
    (Tree.leaf (Out.mk AEx.ret [AV.v (Value.slice none (0 : Nat) (0 : Nat)), AV.v (Value.int IntKind.i64 (0 : Int)), AV.hs (1 : Nat) (0 : Nat) (ByteArray.size (BA.t BA.nil ++ numB n)), AV.hs
    (0 : Nat) (0 : Nat) m, AV.v (Value.int IntKind.i64 (↑m : Int)), AV.v (Value.int IntKind.i64 (↑(0 : Nat) : Int))] [some (Blk.arr (1 : Nat) m fun j => [AV.v (Value.int IntKind.i64 (g
    j))]), some (Blk.arr (1 : Nat) (ByteArray.size (BA.t BA.nil ++ numB n)) fun j => [AV.v (Value.int IntKind.u8 (sbyte (BA.t BA.nil ++ numB n) j))])])) (Tree.leaf (Out.mk AEx.normal
    [AV.any, AV.any, AV.hs (1 : Nat) (0 : Nat) (ByteArray.size (BA.t BA.nil ++ numB n)), AV.hs (0 : Nat) (0 : Nat) m, AV.v (Value.int IntKind.i64 (↑m : Int)), AV.v (Value.int IntKind.i64
    (IntKind.wrap IntKind.i64 ((↑(0 : Nat) : Int) + (1 : Int))))] [some (Blk.arr (1 : Nat) m fun j => [AV.v (Value.int IntKind.i64 (g j))]), some (Blk.arr (1 : Nat) (ByteArray.size (BA.t
    BA.nil ++ numB n)) fun j => [AV.v (Value.int IntKind.u8 (sbyte (BA.t BA.nil ++ numB n) j))])]))))) (Tree.leaf (Out.mk (AEx.exit (0 : Nat)) [AV.any, AV.any, AV.v (Value.slice none (0 :
    Nat) (0 : Nat)), AV.hs (0 : Nat) (0 : Nat) m, AV.v (Value.int IntKind.i64 (↑m : Int)), AV.v (Value.int IntKind.i64 (↑(0 : Nat) : Int))] [some (Blk.arr (1 : Nat) m fun j => [AV.v
    (Value.int IntKind.i64 (g j))])])) := by kernel_rfl
theorem roundMh1 (m : Nat) (g : Nat → Int) (n i : Nat) (t : ByteArray) (ht : (BA.hs t).ok) (h : n ≤ 4611686018427387904) : roundE (P := Try.prog) (Γ := Γb) [CT.at 121 (ansNum (.hs t) n ht h)] Lno false 1 0 loopM [2, 3, 4, 8, 9, 10] [] 25 [.any, .any, .hs 1 0 t.size, .hs 0 0 m, .v (.int .i64 (m : Int)), .v (.int .i64 (i : Int))] [some (.arr 1 m (i64F g)), some (.arr 1 t.size (bsF t))] =
  Tree.br (decide ((↑i : Int) < (↑m : Int))) (Tree.chk (decide ((0 : Int) ≤ (↑i : Int)) && decide ((↑i : Int) < (↑m : Int))) (Tree.chk (cl (LeL [AV.hs (0 : Nat) (0 : Nat) (ByteArray.size t),
    AV.v (Value.int IntKind.i64 (g ((0 : Nat) + Int.toNat (↑i : Int))))] [AV.hs (0 : Nat) (0 : Nat) (ByteArray.size t), AV.v (Value.int IntKind.i64 (↑n : Int))] ∧ LeH [some (Blk.arr (1 :
    Nat) (ByteArray.size t) fun j => [AV.v (Value.int IntKind.u8 (sbyte t j))])] [some (Blk.arr (1 : Nat) (ByteArray.size t) fun j => [AV.v (Value.int IntKind.u8 (sbyte t j))])])) (Tree.br
    false (Tree.leaf (Out.mk AEx.ret [AV.v (Value.slice none (0 : Nat) (0 : Nat)), AV.v (Value.int IntKind.i64 (0 : Int)), AV.hs (1 : Nat) (0 : Nat) (ByteArray.size (BA.t (BA.hs t) ++ numB
    n)), AV.hs (0 : Nat) (0 : Nat) m, AV.v (Value.int IntKind.i64 (↑m : Int)), AV.v (Value.int IntKind.i64 (↑i : Int))] [some (Blk.arr (1 : Nat) m fun j => [AV.v (Value.int IntKind.i64 (g
    j))]), some (Blk.arr (1 : Nat) (ByteArray.size (BA.t (BA.hs t) ++ numB n)) fun j => [AV.v (Value.int IntKind.u8 (sbyte (BA.t (BA.hs t) ++ numB n) j))])])) (Tree.leaf (Out.mk AEx.normal
    [AV.any, AV.any, AV.hs (1 : Nat) (0 : Nat) (ByteArray.size (BA.t (BA.hs t) ++ numB n)), AV.hs (0 : Nat) (0 : Nat) m, AV.v (Value.int IntKind.i64 (↑m : Int)), AV.v (Value.int IntKind.i64
    (IntKind.wrap IntKind.i64 ((↑i : Int) + (1 : Int))))] [some (Blk.arr (1 : Nat) m fun j => [AV.v (Value.int IntKind.i64 (g j))]), some (Blk.arr (1 : Nat) (ByteArray.size (BA.t (BA.hs t)
    ++ numB n)) fun j => [AV.v (Value.int IntKind.u8 (sbyte (BA.t (BA.hs t) ++ numB n) j))])]))))) (Tree.leaf (Out.mk (AEx.exit (0 : Nat)) [AV.any, AV.any, AV.hs (1 : Nat) (0 : Nat)
    (ByteArray.size t), AV.hs (0 : Nat) (0 : Nat) m, AV.v (Value.int IntKind.i64 (↑m : Int)), AV.v (Value.int IntKind.i64 (↑i : Int))] [some (Blk.arr (1 : Nat) m fun j => [AV.v (Value.int
    IntKind.i64 (g j))]), some (Blk.arr (1 : Nat) (ByteArray.size t) fun j => [AV.v (Value.int IntKind.u8 (sbyte t j))])])) := by kernel_rfl
theorem roundMb0 (m : Nat) (g : Nat → Int) (n : Int) (h : n < 0 ∨ 4611686018427387904 < n) : roundE (P := Try.prog) (Γ := Γb) [CT.at 121 (ansBad .nil n trivial h)] Lno false 0 0 loopM [2, 3, 4, 8, 9, 10] [] 25 [.any, .any, .v (.slice none 0 0), .sl 1 m (i64F g), .v (.int .i64 (m : Int)), .v (.int .i64 (0 : Nat))] [] =
  Tree.br (decide ((↑(0 : Nat) : Int) < (↑m : Int))) (Tree.chk (decide ((↑(0 : Nat) : Int) < (↑m : Int))) (Tree.chk (cl (LeL [AV.v (Value.slice none (0 : Nat) (0 : Nat)), AV.v (Value.int
    IntKind.i64 (g (Int.toNat (↑(0 : Nat) : Int))))] [AV.v (Value.slice none (0 : Nat) (0 : Nat)), AV.v (Value.int IntKind.i64 n)] ∧ LeH [] [])) (Tree.br true (Tree.leaf (Out.mk AEx.ret
    [AV.v (Value.slice none (0 : Nat) (0 : Nat)), AV.v (Value.int IntKind.i64 (10 : Int)), AV.v (Value.slice none (0 : Nat) (0 : Nat)), AV.sl (1 : Nat) m fun j => [AV.v (Value.int
    IntKind.i64 (g j))], AV.v (Value.int IntKind.i64 (↑m : Int)), AV.v (Value.int IntKind.i64 (↑(0 : Nat) : Int))] [])) (Tree.leaf (Out.mk AEx.normal [AV.any, AV.any, AV.v (Value.slice none
    (0 : Nat) (0 : Nat)), AV.sl (1 : Nat) m fun j => [AV.v (Value.int IntKind.i64 (g j))], AV.v (Value.int IntKind.i64 (↑m : Int)), AV.v (Value.int IntKind.i64 (IntKind.wrap IntKind.i64
    ((↑(0 : Nat) : Int) + (1 : Int))))] []))))) (Tree.leaf (Out.mk (AEx.exit (0 : Nat)) [AV.any, AV.any, AV.v (Value.slice none (0 : Nat) (0 : Nat)), AV.sl (1 : Nat) m fun j => [AV.v
    (Value.int IntKind.i64 (g j))], AV.v (Value.int IntKind.i64 (↑m : Int)), AV.v (Value.int IntKind.i64 (↑(0 : Nat) : Int))] [])) := by kernel_rfl
theorem roundMb1 (m : Nat) (g : Nat → Int) (n : Int) (i : Nat) (t : ByteArray) (ht : (BA.hs t).ok) (h : n < 0 ∨ 4611686018427387904 < n) : roundE (P := Try.prog) (Γ := Γb) [CT.at 121 (ansBad (.hs t) n ht h)] Lno false 0 0 loopM [2, 3, 4, 8, 9, 10] [] 25 [.any, .any, .hs 0 0 t.size, .sl 1 m (i64F g), .v (.int .i64 (m : Int)), .v (.int .i64 (i : Int))] [some (.arr 1 t.size (bsF t))] =
  Tree.br (decide ((↑i : Int) < (↑m : Int))) (Tree.chk (decide ((0 : Int) ≤ (↑i : Int)) && decide ((↑i : Int) < (↑m : Int))) (Tree.chk (cl (LeL [AV.hs (0 : Nat) (0 : Nat) (ByteArray.size t),
    AV.v (Value.int IntKind.i64 (g (Int.toNat (↑i : Int))))] [AV.hs (0 : Nat) (0 : Nat) (ByteArray.size t), AV.v (Value.int IntKind.i64 n)] ∧ LeH [some (Blk.arr (1 : Nat) (ByteArray.size t)
    fun j => [AV.v (Value.int IntKind.u8 (sbyte t j))])] [some (Blk.arr (1 : Nat) (ByteArray.size t) fun j => [AV.v (Value.int IntKind.u8 (sbyte t j))])])) (Tree.br true (Tree.leaf (Out.mk
    AEx.ret [AV.v (Value.slice none (0 : Nat) (0 : Nat)), AV.v (Value.int IntKind.i64 (10 : Int)), AV.v (Value.slice none (0 : Nat) (0 : Nat)), AV.sl (1 : Nat) m fun j => [AV.v (Value.int
    IntKind.i64 (g j))], AV.v (Value.int IntKind.i64 (↑m : Int)), AV.v (Value.int IntKind.i64 (↑i : Int))] [])) (Tree.leaf (Out.mk AEx.normal [AV.any, AV.any, AV.v (Value.slice none (0 :
    Nat) (0 : Nat)), AV.sl (1 : Nat) m fun j => [AV.v (Value.int IntKind.i64 (g j))], AV.v (Value.int IntKind.i64 (↑m : Int)), AV.v (Value.int IntKind.i64 (IntKind.wrap IntKind.i64 ((↑i :
    Int) + (1 : Int))))] []))))) (Tree.leaf (Out.mk (AEx.exit (0 : Nat)) [AV.any, AV.any, AV.hs (0 : Nat) (0 : Nat) (ByteArray.size t), AV.sl (1 : Nat) m fun j => [AV.v (Value.int
    IntKind.i64 (g j))], AV.v (Value.int IntKind.i64 (↑m : Int)), AV.v (Value.int IntKind.i64 (↑i : Int))] [some (Blk.arr (1 : Nat) (ByteArray.size t) fun j => [AV.v (Value.int IntKind.u8
    (sbyte t j))])])) := by kernel_rfl
theorem pick {g : Nat → Int} {m i : Nat} (hok : ∀ j, j < m → okN (g j) = true) : ∃ k : Nat, k ≤ 4611686018427387904 ∧ (i < m → g i = k) := by
  by_cases h : i < m
  · obtain ⟨k, h1, h2⟩ := okN_nat (hok i h)
    exact ⟨k, h2, fun _ => h1⟩
  · exact ⟨0, by decide, fun h' => absurd h' h⟩
theorem hs_ok {g : Nat → Int} {i : Nat} (h : ∀ j, j < i + 1 → okN (g j) = true) (hi : i + 1 ≤ 100000) : (BA.hs (catN g (i + 1))).ok := ⟨small_cat h hi, (catN_small h).2 (by omega)⟩
theorem loopMg_ok (a : NA) (hok : ∀ j, j < a.m → okN (a.g j) = true) (hm : a.m ≤ 100000) : ∀ i, i ≤ a.m → LoopOK Try.prog Γb a.bl.length 25 loopM (LSpec.at [2, 3, 4, 8, 9, 10] [] (SM a i) (OMg a)) := by
  refine loop_at (S := SM a) (pre := fun i => i ≤ a.m) (O := fun _ => OMg a) (k := 0) (fun i => a.m - i) fun i hi => ?_
  cases a with
  | nil =>
    obtain rfl : i = 0 := Nat.le_zero.1 hi
    refine ⟨[], Lno, false, noLoops (by kernel_rfl), ?_⟩
    show (roundE (P := Try.prog) (Γ := Γb) [] Lno false 0 0 loopM [2, 3, 4, 8, 9, 10] [] 25 [.any, .any, .v (.slice none 0 0), .v (.slice none 0 0), .v (.int .i64 (0 : Nat)), .v (.int .i64 (0 : Nat))] []).sat _
    rw [roundMn]
    exact ⟨fun h => by simp at h, fun _ => ⟨rfl, ⟨.any _, .any _, .refl _, .any _, .any _, .any _, trivial⟩, trivial⟩⟩
  | sl m g =>
    have hok : ∀ j, j < m → okN (g j) = true := hok
    have hm : m ≤ 100000 := hm
    obtain ⟨n, hn, hg⟩ := pick (i := i) hok
    cases i with
    | zero =>
      refine ⟨[CT.at 121 (ansNum .nil n trivial hn)], Lno, false, noLoops (by kernel_rfl), ?_⟩
      show (roundE (P := Try.prog) (Γ := Γb) [CT.at 121 (ansNum .nil n trivial hn)] Lno false 0 0 loopM [2, 3, 4, 8, 9, 10] [] 25 [.any, .any, .v (.slice none 0 0), .sl 1 m (i64F g), .v (.int .i64 (m : Int)), .v (.int .i64 (0 : Nat))] []).sat _
      rw [roundMs0 m g n hn]
      refine ⟨fun hc => ?_, fun hc => ?_⟩
      · have hlt : 0 < m := by have := of_decide_eq_true hc; omega
        have h := hg hlt
        have e : BA.nil.t ++ numB n = catN g (0 + 1) := by
          show catN g (0) ++ numB n = catN g (0) ++ numB (g (0)).toNat
          rw [h, Int.toNat_natCast]
        have e3 : IntKind.i64.wrap (((0 : Nat) : Int) + (1 : Int)) = ((0 + 1 : Nat) : Int) := by rw [wrap64E]; omega
        rw [e, e3]
        refine ⟨by first | exact hc | (rw [Bool.true_and]; exact hc), cl_iff.2 ⟨⟨.refl _, .of_eq (by simp only [Int.toNat_natCast]; rw [h]), trivial⟩, trivial⟩, fun h => by simp at h, fun _ => ⟨0 + 1, LeL.refl _, LeH.refl _, hlt, rfl, ?_⟩⟩
        show m - (0 + 1) < m - (0); omega
      · have h := of_decide_eq_false hc
        obtain rfl : m = 0 := by have h2 : 0 ≤ m := hi; omega
        exact ⟨rfl, ⟨.any _, .any _, .refl _, .any _, .any _, .any _, trivial⟩, LeH.refl _⟩
    | succ i =>
      have hb : (BA.hs (catN g (i + 1))).ok := hs_ok (fun j hj => hok j (Nat.lt_of_lt_of_le hj hi)) (Nat.le_trans hi hm)
      refine ⟨[CT.at 121 (ansNum (.hs (catN g (i + 1))) n hb hn)], Lno, false, noLoops (by kernel_rfl), ?_⟩
      show (roundE (P := Try.prog) (Γ := Γb) [CT.at 121 (ansNum (.hs (catN g (i + 1))) n hb hn)] Lno false 0 0 loopM [2, 3, 4, 8, 9, 10] [] 25 [.any, .any, .hs 0 0 (catN g (i + 1)).size, .sl 1 m (i64F g), .v (.int .i64 (m : Int)), .v (.int .i64 ((i + 1 : Nat) : Int))] [some (.arr 1 (catN g (i + 1)).size (bsF (catN g (i + 1))))]).sat _
      rw [roundMs1 m g n (i + 1) (catN g (i + 1)) hb hn]
      refine ⟨fun hc => ?_, fun hc => ?_⟩
      · have hlt : i + 1 < m := by have := of_decide_eq_true hc; omega
        have h := hg hlt
        have e : (BA.hs (catN g (i + 1))).t ++ numB n = catN g (i + 1 + 1) := by
          show catN g (i + 1) ++ numB n = catN g (i + 1) ++ numB (g (i + 1)).toNat
          rw [h, Int.toNat_natCast]
        have e3 : IntKind.i64.wrap (((i + 1 : Nat) : Int) + (1 : Int)) = ((i + 1 + 1 : Nat) : Int) := by rw [wrap64E]; omega
        rw [e, e3]
        refine ⟨by rw [hc]; simp; omega, cl_iff.2 ⟨⟨.refl _, .of_eq (by simp only [Int.toNat_natCast]; rw [h]), trivial⟩, LeH.refl _⟩, fun h => by simp at h, fun _ => ⟨i + 1 + 1, LeL.refl _, LeH.refl _, hlt, rfl, ?_⟩⟩
        show m - (i + 1 + 1) < m - (i + 1); omega
      · have h := of_decide_eq_false hc
        obtain rfl : m = i + 1 := by have h2 : i + 1 ≤ m := hi; omega
        exact ⟨rfl, ⟨.any _, .any _, .refl _, .any _, .any _, .any _, trivial⟩, LeH.refl _⟩
  | hs m g =>
    have hok : ∀ j, j < m → okN (g j) = true := hok
    have hm : m ≤ 100000 := hm
    obtain ⟨n, hn, hg⟩ := pick (i := i) hok
    cases i with
    | zero =>
      refine ⟨[CT.at 121 (ansNum .nil n trivial hn)], Lno, false, noLoops (by kernel_rfl), ?_⟩
      show (roundE (P := Try.prog) (Γ := Γb) [CT.at 121 (ansNum .nil n trivial hn)] Lno false 1 0 loopM [2, 3, 4, 8, 9, 10] [] 25 [.any, .any, .v (.slice none 0 0), .hs 0 0 m, .v (.int .i64 (m : Int)), .v (.int .i64 (0 : Nat))] [some (.arr 1 m (i64F g))]).sat _
      rw [roundMh0 m g n hn]
      refine ⟨fun hc => ?_, fun hc => ?_⟩
      · have hlt : 0 < m := by have := of_decide_eq_true hc; omega
        have h := hg hlt
        have e : BA.nil.t ++ numB n = catN g (0 + 1) := by
          show catN g (0) ++ numB n = catN g (0) ++ numB (g (0)).toNat
          rw [h, Int.toNat_natCast]
        have e3 : IntKind.i64.wrap (((0 : Nat) : Int) + (1 : Int)) = ((0 + 1 : Nat) : Int) := by rw [wrap64E]; omega
        rw [e, e3]
        refine ⟨by first | exact hc | (rw [Bool.true_and]; exact hc), cl_iff.2 ⟨⟨.refl _, .of_eq (by simp only [Int.toNat_natCast, Nat.zero_add]; rw [h]), trivial⟩, trivial⟩, fun h => by simp at h, fun _ => ⟨0 + 1, LeL.refl _, LeH.refl _, hlt, rfl, ?_⟩⟩
        show m - (0 + 1) < m - (0); omega
      · have h := of_decide_eq_false hc
        obtain rfl : m = 0 := by have h2 : 0 ≤ m := hi; omega
        exact ⟨rfl, ⟨.any _, .any _, .refl _, .any _, .any _, .any _, trivial⟩, LeH.refl _⟩
    | succ i =>
      have hb : (BA.hs (catN g (i + 1))).ok := hs_ok (fun j hj => hok j (Nat.lt_of_lt_of_le hj hi)) (Nat.le_trans hi hm)
      refine ⟨[CT.at 121 (ansNum (.hs (catN g (i + 1))) n hb hn)], Lno, false, noLoops (by kernel_rfl), ?_⟩
      show (roundE (P := Try.prog) (Γ := Γb) [CT.at 121 (ansNum (.hs (catN g (i + 1))) n hb hn)] Lno false 1 0 loopM [2, 3, 4, 8, 9, 10] [] 25 [.any, .any, .hs 1 0 (catN g (i + 1)).size, .hs 0 0 m, .v (.int .i64 (m : Int)), .v (.int .i64 ((i + 1 : Nat) : Int))] [some (.arr 1 m (i64F g)), some (.arr 1 (catN g (i + 1)).size (bsF (catN g (i + 1))))]).sat _
      rw [roundMh1 m g n (i + 1) (catN g (i + 1)) hb hn]
      refine ⟨fun hc => ?_, fun hc => ?_⟩
      · have hlt : i + 1 < m := by have := of_decide_eq_true hc; omega
        have h := hg hlt
        have e : (BA.hs (catN g (i + 1))).t ++ numB n = catN g (i + 1 + 1) := by
          show catN g (i + 1) ++ numB n = catN g (i + 1) ++ numB (g (i + 1)).toNat
          rw [h, Int.toNat_natCast]
        have e3 : IntKind.i64.wrap (((i + 1 : Nat) : Int) + (1 : Int)) = ((i + 1 + 1 : Nat) : Int) := by rw [wrap64E]; omega
        rw [e, e3]
        refine ⟨by rw [hc]; simp; omega, cl_iff.2 ⟨⟨.refl _, .of_eq (by simp only [Int.toNat_natCast, Nat.zero_add]; rw [h]), trivial⟩, LeH.refl _⟩, fun h => by simp at h, fun _ => ⟨i + 1 + 1, LeL.refl _, LeH.refl _, hlt, rfl, ?_⟩⟩
        show m - (i + 1 + 1) < m - (i + 1); omega
      · have h := of_decide_eq_false hc
        obtain rfl : m = i + 1 := by have h2 : i + 1 ≤ m := hi; omega
        exact ⟨rfl, ⟨.any _, .any _, .refl _, .any _, .any _, .any _, trivial⟩, LeH.refl _⟩
theorem okN_bad {n : Int} (h : okN n = false) : n < 0 ∨ 4611686018427387904 < n := by
  unfold okN at h
  by_cases h1 : n < 0
  · exact .inl h1
  · rw [decide_eq_true (show 0 ≤ n by omega), Bool.true_and, decide_eq_false_iff_not] at h
    exact .inr (by omega)
theorem loopMb_ok (m : Nat) (g : Nat → Int) (b : Nat) (hb : b < m) (hok : ∀ j, j < b → okN (g j) = true) (hbad : okN (g b) = false) (hm : m ≤ 100000) : ∀ i, i ≤ b → LoopOK Try.prog Γb 0 25 loopM (LSpec.at [2, 3, 4, 8, 9, 10] [] (SM (.sl m g) i) (OMb (.sl m g))) := by
  refine loop_at (S := SM (.sl m g)) (pre := fun i => i ≤ b) (O := fun _ => OMb (.sl m g)) (k := 0) (fun i => b - i) fun i hi => ?_
  rcases Nat.lt_or_ge i b with hib | hib
  · obtain ⟨n, hg, hn⟩ := okN_nat (hok i hib)
    cases i with
    | zero =>
      refine ⟨[CT.at 121 (ansNum .nil n trivial hn)], Lno, false, noLoops (by kernel_rfl), ?_⟩
      show (roundE (P := Try.prog) (Γ := Γb) [CT.at 121 (ansNum .nil n trivial hn)] Lno false 0 0 loopM [2, 3, 4, 8, 9, 10] [] 25 [.any, .any, .v (.slice none 0 0), .sl 1 m (i64F g), .v (.int .i64 (m : Int)), .v (.int .i64 (0 : Nat))] []).sat _
      rw [roundMs0 m g n hn]
      refine ⟨fun hc => ?_, fun hc => ?_⟩
      · have hlt : 0 < m := by have := of_decide_eq_true hc; omega
        have h := hg
        have e : BA.nil.t ++ numB n = catN g (0 + 1) := by
          show catN g (0) ++ numB n = catN g (0) ++ numB (g (0)).toNat
          rw [h, Int.toNat_natCast]
        have e3 : IntKind.i64.wrap (((0 : Nat) : Int) + (1 : Int)) = ((0 + 1 : Nat) : Int) := by rw [wrap64E]; omega
        rw [e, e3]
        refine ⟨by first | exact hc | (rw [Bool.true_and]; exact hc), cl_iff.2 ⟨⟨.refl _, .of_eq (by simp only [Int.toNat_natCast]; rw [h]), trivial⟩, trivial⟩, fun h => by simp at h, fun _ => ⟨0 + 1, LeL.refl _, LeH.refl _, Nat.succ_le_of_lt hib, rfl, ?_⟩⟩
        show b - (0 + 1) < b - (0); omega
      · have h := of_decide_eq_false hc
        omega
    | succ i =>
      have hb' : (BA.hs (catN g (i + 1))).ok := hs_ok (fun j hj => hok j (Nat.lt_of_lt_of_le hj hi)) (by omega)
      refine ⟨[CT.at 121 (ansNum (.hs (catN g (i + 1))) n hb' hn)], Lno, false, noLoops (by kernel_rfl), ?_⟩
      show (roundE (P := Try.prog) (Γ := Γb) [CT.at 121 (ansNum (.hs (catN g (i + 1))) n hb' hn)] Lno false 0 0 loopM [2, 3, 4, 8, 9, 10] [] 25 [.any, .any, .hs 0 0 (catN g (i + 1)).size, .sl 1 m (i64F g), .v (.int .i64 (m : Int)), .v (.int .i64 ((i + 1 : Nat) : Int))] [some (.arr 1 (catN g (i + 1)).size (bsF (catN g (i + 1))))]).sat _
      rw [roundMs1 m g n (i + 1) (catN g (i + 1)) hb' hn]
      refine ⟨fun hc => ?_, fun hc => ?_⟩
      · have hlt : i + 1 < m := by have := of_decide_eq_true hc; omega
        have h := hg
        have e : (BA.hs (catN g (i + 1))).t ++ numB n = catN g (i + 1 + 1) := by
          show catN g (i + 1) ++ numB n = catN g (i + 1) ++ numB (g (i + 1)).toNat
          rw [h, Int.toNat_natCast]
        have e3 : IntKind.i64.wrap (((i + 1 : Nat) : Int) + (1 : Int)) = ((i + 1 + 1 : Nat) : Int) := by rw [wrap64E]; omega
        rw [e, e3]
        refine ⟨by rw [hc]; simp; omega, cl_iff.2 ⟨⟨.refl _, .of_eq (by simp only [Int.toNat_natCast]; rw [h]), trivial⟩, LeH.refl _⟩, fun h => by simp at h, fun _ => ⟨i + 1 + 1, LeL.refl _, LeH.refl _, Nat.succ_le_of_lt hib, rfl, ?_⟩⟩
        show b - (i + 1 + 1) < b - (i + 1); omega
      · have h := of_decide_eq_false hc
        omega
  · obtain rfl : i = b := Nat.le_antisymm hi hib
    have hn := okN_bad hbad
    cases i with
    | zero =>
      refine ⟨[CT.at 121 (ansBad .nil (g 0) trivial hn)], Lno, false, noLoops (by kernel_rfl), ?_⟩
      show (roundE (P := Try.prog) (Γ := Γb) [CT.at 121 (ansBad .nil (g 0) trivial hn)] Lno false 0 0 loopM [2, 3, 4, 8, 9, 10] [] 25 [.any, .any, .v (.slice none 0 0), .sl 1 m (i64F g), .v (.int .i64 (m : Int)), .v (.int .i64 (0 : Nat))] []).sat _
      rw [roundMb0 m g (g 0) hn]
      have hc : decide (((0 : Nat) : Int) < (m : Int)) = true := decide_eq_true (by omega)
      rw [hc]
      exact ⟨fun _ => ⟨rfl, cl_iff.2 ⟨LeL.refl _, trivial⟩, fun _ => ⟨rfl, ⟨.refl _, .refl _, .any _, .any _, .any _, .any _, trivial⟩, trivial⟩, fun h => by simp at h⟩, fun h => by simp at h⟩
    | succ i =>
      have hb' : (BA.hs (catN g (i + 1))).ok := hs_ok (fun j hj => hok j hj) (by omega)
      refine ⟨[CT.at 121 (ansBad (.hs (catN g (i + 1))) (g (i + 1)) hb' hn)], Lno, false, noLoops (by kernel_rfl), ?_⟩
      show (roundE (P := Try.prog) (Γ := Γb) [CT.at 121 (ansBad (.hs (catN g (i + 1))) (g (i + 1)) hb' hn)] Lno false 0 0 loopM [2, 3, 4, 8, 9, 10] [] 25 [.any, .any, .hs 0 0 (catN g (i + 1)).size, .sl 1 m (i64F g), .v (.int .i64 (m : Int)), .v (.int .i64 ((i + 1 : Nat) : Int))] [some (.arr 1 (catN g (i + 1)).size (bsF (catN g (i + 1))))]).sat _
      rw [roundMb1 m g (g (i + 1)) (i + 1) (catN g (i + 1)) hb' hn]
      have hc : decide (((i + 1 : Nat) : Int) < (m : Int)) = true := decide_eq_true (by omega)
      rw [hc]
      exact ⟨fun _ => ⟨by rw [decide_eq_true (show (0 : Int) ≤ ((i + 1 : Nat) : Int) by omega)]; rfl, cl_iff.2 ⟨LeL.refl _, LeH.refl _⟩, fun _ => ⟨rfl, ⟨.refl _, .refl _, .any _, .any _, .any _, .any _, trivial⟩, trivial⟩, fun h => by simp at h⟩, fun h => by simp at h⟩
theorem runMg (a : NA) (m : Nat) (g : Nat → Int) : bodyE (P := Try.prog) (Γ := Γb) [] (fun _ => LSpec.at [2, 3, 4, 8, 9, 10] [] (SM (.sl (m + 1) g) 0) (OMg (.sl (m + 1) g))) false 25 [.tmp 2, .tmp 3] (bodyOf Try.f82) [.sl 1 (m + 1) (i64F g)] [] =
  Tree.chk (cl (LeL [AV.v (Value.slice none (0 : Nat) (0 : Nat)), AV.v (Value.int IntKind.i64 (0 : Int)), AV.v (Value.slice none (0 : Nat) (0 : Nat)), AV.sl (1 : Nat) (m + (1 : Nat)) fun j =>
    [AV.v (Value.int IntKind.i64 (g j))], AV.v (Value.int IntKind.i64 (↑(m + (1 : Nat)) : Int)), AV.v (Value.int IntKind.i64 (0 : Int))] [AV.any, AV.any, AV.v (Value.slice none (0 : Nat) (0
    : Nat)), AV.sl (1 : Nat) (m + (1 : Nat)) fun j => [AV.v (Value.int IntKind.i64 (g j))], AV.v (Value.int IntKind.i64 (↑(NA.m (NA.sl (m + (1 : Nat)) g)) : Int)), AV.v (Value.int
    IntKind.i64 (↑(0 : Nat) : Int))] ∧ LeH [] [])) (Tree.leaf (Ans.mk (AV.tup [AV.hs (0 : Nat) (0 : Nat) (ByteArray.size (catN (NA.g (NA.sl (m + (1 : Nat)) g)) (Nat.add._f Nat.zero
    PUnit.unit m + (1 : Nat)))), AV.v (Value.int IntKind.i64 (0 : Int))]) [some (Blk.arr (1 : Nat) (ByteArray.size (catN (NA.g (NA.sl (m + (1 : Nat)) g)) (Nat.add._f Nat.zero PUnit.unit m +
    (1 : Nat)))) fun j => [AV.v (Value.int IntKind.u8 (sbyte (catN (NA.g (NA.sl (m + (1 : Nat)) g)) (Nat.add._f Nat.zero PUnit.unit m + (1 : Nat))) j))])])) := by kernel_rfl
theorem runM0 (g : Nat → Int) : bodyE (P := Try.prog) (Γ := Γb) [] (fun _ => LSpec.at [2, 3, 4, 8, 9, 10] [] (SM (.sl 0 g) 0) (OMg (.sl 0 g))) false 25 [.tmp 2, .tmp 3] (bodyOf Try.f82) [.sl 1 0 (i64F g)] [] =
  Tree.chk (cl (LeL [AV.v (Value.slice none (0 : Nat) (0 : Nat)), AV.v (Value.int IntKind.i64 (0 : Int)), AV.v (Value.slice none (0 : Nat) (0 : Nat)), AV.sl (1 : Nat) (0 : Nat) fun j => [AV.v
    (Value.int IntKind.i64 (g j))], AV.v (Value.int IntKind.i64 (↑(0 : Nat) : Int)), AV.v (Value.int IntKind.i64 (0 : Int))] [AV.any, AV.any, AV.v (Value.slice none (0 : Nat) (0 : Nat)),
    AV.sl (1 : Nat) (0 : Nat) fun j => [AV.v (Value.int IntKind.i64 (g j))], AV.v (Value.int IntKind.i64 (↑(0 : Nat) : Int)), AV.v (Value.int IntKind.i64 (↑(0 : Nat) : Int))] ∧ LeH [] []))
    (Tree.leaf (Ans.mk (AV.tup [AV.v (Value.slice none (0 : Nat) (0 : Nat)), AV.v (Value.int IntKind.i64 (0 : Int))]) [])) := by kernel_rfl
theorem runMn  : bodyE (P := Try.prog) (Γ := Γb) [] (fun _ => LSpec.at [2, 3, 4, 8, 9, 10] [] (SM .nil 0) (OMg .nil)) false 25 [.tmp 2, .tmp 3] (bodyOf Try.f82) [.v (.slice none 0 0)] [] =
  Tree.chk (cl (LeL [AV.v (Value.slice none (0 : Nat) (0 : Nat)), AV.v (Value.int IntKind.i64 (0 : Int)), AV.v (Value.slice none (0 : Nat) (0 : Nat)), AV.v (Value.slice none (0 : Nat) (0 :
    Nat)), AV.v (Value.int IntKind.i64 (0 : Int)), AV.v (Value.int IntKind.i64 (0 : Int))] [AV.any, AV.any, AV.v (Value.slice none (0 : Nat) (0 : Nat)), AV.v (Value.slice none (0 : Nat) (0 :
    Nat)), AV.v (Value.int IntKind.i64 (↑(0 : Nat) : Int)), AV.v (Value.int IntKind.i64 (↑(0 : Nat) : Int))] ∧ LeH [] [])) (Tree.leaf (Ans.mk (AV.tup [AV.v (Value.slice none (0 : Nat) (0 :
    Nat)), AV.v (Value.int IntKind.i64 (0 : Int))]) [])) := by kernel_rfl
theorem runMh (m : Nat) (g : Nat → Int) : bodyE (P := Try.prog) (Γ := Γb) [] (fun _ => LSpec.at [2, 3, 4, 8, 9, 10] [] (SM (.hs (m + 1) g) 0) (OMg (.hs (m + 1) g))) false 25 [.tmp 2, .tmp 3] (bodyOf Try.f82) [.hs 0 0 (m + 1)] [.arr 1 (m + 1) (i64F g)] =
  Tree.chk (cl (LeL [AV.v (Value.slice none (0 : Nat) (0 : Nat)), AV.v (Value.int IntKind.i64 (0 : Int)), AV.v (Value.slice none (0 : Nat) (0 : Nat)), AV.hs (0 : Nat) (0 : Nat) (m + (1 :
    Nat)), AV.v (Value.int IntKind.i64 (↑(m + (1 : Nat)) : Int)), AV.v (Value.int IntKind.i64 (0 : Int))] [AV.any, AV.any, AV.v (Value.slice none (0 : Nat) (0 : Nat)), AV.hs (0 : Nat) (0 :
    Nat) (m + (1 : Nat)), AV.v (Value.int IntKind.i64 (↑(NA.m (NA.hs (m + (1 : Nat)) g)) : Int)), AV.v (Value.int IntKind.i64 (↑(0 : Nat) : Int))] ∧ LeH [some (Blk.arr (1 : Nat) (m + (1 :
    Nat)) fun j => [AV.v (Value.int IntKind.i64 (g j))])] [some (Blk.arr (1 : Nat) (m + (1 : Nat)) fun j => [AV.v (Value.int IntKind.i64 (g j))])])) (Tree.leaf (Ans.mk (AV.tup [AV.hs (1 :
    Nat) (0 : Nat) (ByteArray.size (catN (NA.g (NA.hs (m + (1 : Nat)) g)) (Nat.add._f Nat.zero PUnit.unit m + (1 : Nat)))), AV.v (Value.int IntKind.i64 (0 : Int))]) [some (Blk.arr (1 : Nat)
    (m + (1 : Nat)) fun j => [AV.v (Value.int IntKind.i64 (g j))]), some (Blk.arr (1 : Nat) (ByteArray.size (catN (NA.g (NA.hs (m + (1 : Nat)) g)) (Nat.add._f Nat.zero PUnit.unit m + (1 :
    Nat)))) fun j => [AV.v (Value.int IntKind.u8 (sbyte (catN (NA.g (NA.hs (m + (1 : Nat)) g)) (Nat.add._f Nat.zero PUnit.unit m + (1 : Nat))) j))])])) := by kernel_rfl
theorem runMb (m : Nat) (g : Nat → Int) : bodyE (P := Try.prog) (Γ := Γb) [] (fun _ => LSpec.at [2, 3, 4, 8, 9, 10] [] (SM (.sl m g) 0) (OMb (.sl m g))) false 25 [.tmp 2, .tmp 3] (bodyOf Try.f82) [.sl 1 m (i64F g)] [] =
  Tree.chk (cl (LeL [AV.v (Value.slice none (0 : Nat) (0 : Nat)), AV.v (Value.int IntKind.i64 (0 : Int)), AV.v (Value.slice none (0 : Nat) (0 : Nat)), AV.sl (1 : Nat) m fun j => [AV.v
    (Value.int IntKind.i64 (g j))], AV.v (Value.int IntKind.i64 (↑m : Int)), AV.v (Value.int IntKind.i64 (0 : Int))] [AV.any, AV.any, AV.v (Value.slice none (0 : Nat) (0 : Nat)), AV.sl (1 :
    Nat) m fun j => [AV.v (Value.int IntKind.i64 (g j))], AV.v (Value.int IntKind.i64 (↑(NA.m (NA.sl m g)) : Int)), AV.v (Value.int IntKind.i64 (↑(0 : Nat) : Int))] ∧ LeH [] [])) (Tree.leaf
    (Ans.mk (AV.tup [AV.v (Value.slice none (0 : Nat) (0 : Nat)), AV.v (Value.int IntKind.i64 (10 : Int))]) [])) := by kernel_rfl
def outBl (g : Nat → Int) : Nat → List Blk
  | 0 => []
  | i + 1 => [.arr 1 (catN g (i + 1)).size (bsF (catN g (i + 1)))]
def NA.ok (a : NA) : Prop := (∀ j, j < a.m → okN (a.g j) = true) ∧ a.m ≤ 100000 ∧ (a.k = 1 → 0 < a.m)
theorem ansNums : ∀ (a : NA), a.ok → Answers Try.prog Γb 82 [a.av] a.bl (.tup [outV a.k a.g a.m, .v (.int .i64 0)]) (a.bl.map some) (outBl a.g a.m)
  | .nil, h => answers (fn := Try.f82) (c := bodyOf Try.f82) (ntmps := 25) (results := [.tmp 2, .tmp 3]) [] (fun _ => LSpec.at [2, 3, 4, 8, 9, 10] [] (SM .nil 0) (OMg .nil)) false Try.func82 (by kernel_rfl) (by kernel_rfl) (by kernel_rfl) (by kernel_rfl) (by simp) rfl
    (oneLoop (b := loopM) (by kernel_rfl) (loopMg_ok .nil h.1 h.2.1 0 (Nat.zero_le _))) (Meets.of runMn ⟨cl_iff.2 ⟨⟨.any _, .any _, .refl _, .refl _, .refl _, .refl _, trivial⟩, trivial⟩, .refl _, trivial⟩)
  | .sl 0 g, h => answers (fn := Try.f82) (c := bodyOf Try.f82) (ntmps := 25) (results := [.tmp 2, .tmp 3]) [] (fun _ => LSpec.at [2, 3, 4, 8, 9, 10] [] (SM (.sl 0 g) 0) (OMg (.sl 0 g))) false Try.func82 (by kernel_rfl) (by kernel_rfl) (by kernel_rfl) (by kernel_rfl) (by simp) rfl
    (oneLoop (b := loopM) (by kernel_rfl) (loopMg_ok (.sl 0 g) h.1 h.2.1 0 (Nat.zero_le _))) (Meets.of (runM0 g) ⟨cl_iff.2 ⟨⟨.any _, .any _, .refl _, .refl _, .refl _, .refl _, trivial⟩, trivial⟩, .refl _, trivial⟩)
  | .sl (m + 1) g, h => answers (fn := Try.f82) (c := bodyOf Try.f82) (ntmps := 25) (results := [.tmp 2, .tmp 3]) [] (fun _ => LSpec.at [2, 3, 4, 8, 9, 10] [] (SM (.sl (m + 1) g) 0) (OMg (.sl (m + 1) g))) false Try.func82 (by kernel_rfl) (by kernel_rfl) (by kernel_rfl) (by kernel_rfl) (by simp) rfl
    (oneLoop (b := loopM) (by kernel_rfl) (loopMg_ok (.sl (m + 1) g) h.1 h.2.1 0 (Nat.zero_le _))) (Meets.of (runMg .nil m g) ⟨cl_iff.2 ⟨⟨.any _, .any _, .refl _, .refl _, .refl _, .refl _, trivial⟩, trivial⟩, .refl _, .refl _, trivial⟩)
  | .hs (m + 1) g, h => answers (fn := Try.f82) (c := bodyOf Try.f82) (ntmps := 25) (results := [.tmp 2, .tmp 3]) [] (fun _ => LSpec.at [2, 3, 4, 8, 9, 10] [] (SM (.hs (m + 1) g) 0) (OMg (.hs (m + 1) g))) false Try.func82 (by kernel_rfl) (by kernel_rfl) (by kernel_rfl) (by kernel_rfl) (by simp) rfl
    (oneLoop (b := loopM) (by kernel_rfl) (loopMg_ok (.hs (m + 1) g) h.1 h.2.1 0 (Nat.zero_le _))) (Meets.of (runMh m g) ⟨cl_iff.2 ⟨⟨.any _, .any _, .refl _, .refl _, .refl _, .refl _, trivial⟩, LeH.refl _⟩, .refl _, .refl _, .refl _, trivial⟩)
  | .hs 0 g, h => absurd (h.2.2 rfl) (Nat.lt_irrefl _)
theorem ansNumsBad (m : Nat) (g : Nat → Int) (b : Nat) (hb : b < m) (hok : ∀ j, j < b → okN (g j) = true) (hbad : okN (g b) = false) (hm : m ≤ 100000) : Answers Try.prog Γb 82 [.sl 1 m (i64F g)] [] (.tup [.v (.slice none 0 0), .v (.int .i64 10)]) [] [] :=
  answers (fn := Try.f82) (c := bodyOf Try.f82) (ntmps := 25) (results := [.tmp 2, .tmp 3]) [] (fun _ => LSpec.at [2, 3, 4, 8, 9, 10] [] (SM (.sl m g) 0) (OMb (.sl m g))) false Try.func82 (by kernel_rfl) (by kernel_rfl) (by kernel_rfl) (by kernel_rfl) (by simp) rfl
    (oneLoop (b := loopM) (by kernel_rfl) (loopMb_ok m g b hb hok hbad hm 0 (Nat.zero_le _))) (Meets.of (runMb m g) ⟨cl_iff.2 ⟨⟨.any _, .any _, .refl _, .refl _, .refl _, .refl _, trivial⟩, trivial⟩, .refl _, trivial⟩)
theorem ansNumsS (m : Nat) (g : Nat → Int) (h : (NA.sl (m + 1) g).ok) : Answers Try.prog Γb 82 [.sl 1 (m + 1) (i64F g)] [] (.tup [.hs 0 0 (catN g (m + 1)).size, .v (.int .i64 0)]) [] [.arr 1 (catN g (m + 1)).size (bsF (catN g (m + 1)))] := ansNums (.sl (m + 1) g) h
theorem ansNums0 (g : Nat → Int) (h : (NA.sl 0 g).ok) : Answers Try.prog Γb 82 [.sl 1 0 (i64F g)] [] (.tup [.v (.slice none 0 0), .v (.int .i64 0)]) [] [] := ansNums (.sl 0 g) h
theorem ansNumsN (h : NA.nil.ok) : Answers Try.prog Γb 82 [.v (.slice none 0 0)] [] (.tup [.v (.slice none 0 0), .v (.int .i64 0)]) [] [] := ansNums .nil h
theorem allBytes0 (n : Nat) (t : ByteArray) : (allBytes n fun j => [AV.v (Value.int IntKind.u8 (sbyte t ((0 : Nat) + j)))]) = true := by
  simp only [Nat.zero_add]; exact allBytes_bsF n t
theorem textOf0 (t : ByteArray) : (textOf t.size fun j => [AV.v (Value.int IntKind.u8 (sbyte t ((0 : Nat) + j)))]) = t := by
  simp only [Nat.zero_add]; exact textOf_bsF t
theorem okN_of {n : Nat} (h : n ≤ 4611686018427387904) : okN (n : Int) = true := by
  unfold okN
  rw [decide_eq_true (show (0 : Int) ≤ (n : Int) by omega), decide_eq_true (show (n : Int) ≤ 4611686018427387904 by omega)]; rfl
theorem okN_not {n : Int} (h : n < 0 ∨ 4611686018427387904 < n) : okN n = false := by
  cases hh : okN n with
  | false => rfl
  | true => obtain ⟨k, rfl, hk⟩ := okN_nat hh; omega
theorem guard3 {a b c : Bool} (h : (bif a then true else bif b then true else c) = false) : a = false ∧ b = false ∧ c = false := by
  cases a <;> cases b <;> cases c <;> simp at h ⊢
theorem LeL_self (xs : List AV) : LeL xs xs = True := eq_true (LeL.refl xs)
theorem LeH_self (xs : Heap) : LeH xs xs = True := eq_true (LeH.refl xs)
theorem cl_true : cl True = true := cl_iff.2 trivial
theorem allBytesF (n : Nat) (t : ByteArray) : (allBytes n fun j => [AV.v (Value.int IntKind.u8 (sbyte t j))]) = true := allBytes_bsF n t
theorem textOfF (t : ByteArray) : (textOf t.size fun j => [AV.v (Value.int IntKind.u8 (sbyte t j))]) = t := textOf_bsF t
theorem textOfF2 (a b : ByteArray) : (textOf (a.size + b.size) fun j => [AV.v (Value.int IntKind.u8 (sbyte (a ++ b) j))]) = a ++ b := by
  have := textOfF (a ++ b)
  rwa [ByteArray.size_append] at this
theorem textOfF3 (a b c : ByteArray) : (textOf (a.size + (b.size + c.size)) fun j => [AV.v (Value.int IntKind.u8 (sbyte (a ++ (b ++ c)) j))]) = a ++ (b ++ c) := by
  have := textOfF (a ++ (b ++ c))
  rwa [ByteArray.size_append, ByteArray.size_append] at this
end Go.Eng.SB

namespace Go.Eng.SB
open Go Go.Eng Go.Proofs
namespace S
noncomputable def c125 : CT Try.prog Γb := CT.auto false 100 3 [] 125 Try.f125 (bodyOf Try.f125) false 15 [.tmp 6] Try.func125 (by kernel_rfl) (by kernel_rfl) (by kernel_rfl) (by kernel_rfl)
noncomputable def c128 : CT Try.prog Γb := CT.auto false 100 3 [] 128 Try.f128 (bodyOf Try.f128) false 15 [.tmp 4] Try.func128 (by kernel_rfl) (by kernel_rfl) (by kernel_rfl) (by kernel_rfl)
noncomputable def c100 : CT Try.prog Γb := CT.auto false 100 3 [c128] 100 Try.f100 (bodyOf Try.f100) false 5 [.tmp 2] Try.func100 (by kernel_rfl) (by kernel_rfl) (by kernel_rfl) (by kernel_rfl)
noncomputable def c154 : CT Try.prog Γb := CT.auto false 100 3 [c100] 154 Try.f154 (bodyOf Try.f154) false 7 [.tmp 2] Try.func154 (by kernel_rfl) (by kernel_rfl) (by kernel_rfl) (by kernel_rfl)
noncomputable def c146 : CT Try.prog Γb := CT.auto false 100 3 [c100, c154] 146 Try.f146 (bodyOf Try.f146) false 15 [.tmp 4] Try.func146 (by kernel_rfl) (by kernel_rfl) (by kernel_rfl) (by kernel_rfl)
noncomputable def c147 : CT Try.prog Γb := CT.auto false 100 3 [] 147 Try.f147 (bodyOf Try.f147) false 6 [.tmp 2] Try.func147 (by kernel_rfl) (by kernel_rfl) (by kernel_rfl) (by kernel_rfl)
end S
def i6u2 : List Cel := [.int .i64, .int .i64, .int .i64, .int .i64, .int .i64, .int .i64, .int .u32, .int .u32]
def setOk (s : Int) : Bool := decide (bitI .andNot .u32 s 1023 = 0)
def g21 : List KC → AV
  | [.i s] => .sb (setOk s)
  | _ => .any
theorem run21 (s : Int) : bodyE (P := Try.prog) (Γ := Γb) [S.c146] Lno false 6 [.tmp 2] (bodyOf Try.f126) [.v (.int .u32 s)] [] =
  Tree.chk true
  (Tree.leaf
    {
      val :=
        AV.sb
          (bif false then false
          else
            bif
                !decide
                    (bitI BinOp.andNot IntKind.u32 s
                        (IntKind.u32.wrap
                          (IntKind.u32.wrap
                              ((1 : Int) *
                                (2 : Int) ^
                                  min
                                    (bif false then (0 : Int)
                                      else
                                        IntKind.i64.wrap (IntKind.i64.wrap ((3 : Int) * (3 : Int)) + (1 : Int))).toNat
                                    (32 : Nat)) -
                            (1 : Int))) =
                      (0 : Int)) then
              false
            else true),
      H := [] }) := by kernel_rfl
theorem gives21 (s : Int) : Gives (bodyE (P := Try.prog) (Γ := Γb) [S.c146] Lno false 6 [.tmp 2] (bodyOf Try.f126) [.v (.int .u32 s)] []) (.sb (setOk s)) := by
  refine Gives.of (run21 s) ?_
  simp only [Tree.sat_chk, Tree.sat_leaf, LeH_nil, and_true, le_sbsb]
  refine ⟨trivial, ?_⟩
  have e : (IntKind.u32.wrap (IntKind.u32.wrap ((1 : Int) * (2 : Int) ^ min (bif false then (0 : Int) else IntKind.i64.wrap (IntKind.i64.wrap ((3 : Int) * (3 : Int)) + (1 : Int))).toNat (32 : Nat)) - (1 : Int))) = 1023 := by kernel_rfl
  rw [e]
  unfold setOk
  cases decide (bitI BinOp.andNot IntKind.u32 s 1023 = 0) <;> rfl
theorem fit1 {c : Cel} {l : List KC} (h : kFit [c] l = true) : ∃ x, l = [x] ∧ kcFit c x = true := by
  match l, h with
  | [x], h => simp only [kFit, Bool.and_true] at h; exact ⟨x, rfl, h⟩
  | [], h => simp [kFit] at h
  | _ :: _ :: _, h => simp [kFit] at h
noncomputable def Z.c126 : CT Try.prog Γb := CT.fun 126 Try.f126 (bodyOf Try.f126) [S.c146] Lno false 6 [.tmp 2] [.c (.int .u32)] (fun _ => true) g21 Try.func126 (by kernel_rfl) (by kernel_rfl) (by kernel_rfl) (by kernel_rfl) (by decide) (noLoops (by kernel_rfl))
  (fun l h _ => by
    obtain ⟨x, rfl, hx⟩ := fit1 h
    cases x <;> simp [kcFit] at hx
    exact gives21 _)
theorem run7 (k b v r h a s c : Int) : bodyE (P := Try.prog) (Γ := Γb) [S.c125, Z.c126] Lno false 72 [.tmp 2] (bodyOf Try.f93) [.agg [.v (.int .i64 k), .v (.int .i64 b), .v (.int .i64 v), .v (.int .i64 r), .v (.int .i64 h), .v (.int .i64 a), .v (.int .u32 s), .v (.int .u32 c)]] [] =
  Tree.chk
  (bif bif decide ((1 : Int) ≤ b) then decide (b ≤ (2147483647 : Int)) else false then
    bif bif decide ((1 : Int) ≤ v) then decide (v ≤ (1048576 : Int)) else false then
      bif bif decide ((1 : Int) ≤ r) then decide (r ≤ (1073741824 : Int)) else false then
        bif !decide (s = (0 : Int)) then true else true
      else true
    else true
  else true)
  (Tree.br (decide (k = (0 : Int)))
    (Tree.br
      (!(decide (k = (0 : Int)) &&
          (decide (b = (0 : Int)) &&
            (decide (v = (0 : Int)) &&
              (decide (r = (0 : Int)) &&
                (decide (h = (0 : Int)) &&
                  (decide (a = (0 : Int)) && (decide (s = (0 : Int)) && decide (c = (0 : Int))))))))))
      (Tree.leaf { val := AV.v (Value.int IntKind.i64 (110 : Int)), H := [] })
      (Tree.leaf { val := AV.v (Value.int IntKind.i64 (0 : Int)), H := [] }))
    (Tree.br (decide (k = (1 : Int)))
      (Tree.br
        (!bif
              bif bif decide ((1 : Int) ≤ b) then decide (b ≤ (2147483647 : Int)) else false then
                bif bif decide ((1 : Int) ≤ v) then decide (v ≤ (1048576 : Int)) else false then
                  bif bif decide ((1 : Int) ≤ r) then decide (r ≤ (1073741824 : Int)) else false then
                    bif !decide (s = (0 : Int)) then setOk s else false
                  else false
                else false
              else false then
            bif decide (h = (0 : Int)) then bif decide (a = (0 : Int)) then decide (c = (0 : Int)) else false else false
          else false)
        (Tree.leaf { val := AV.v (Value.int IntKind.i64 (110 : Int)), H := [] })
        (Tree.leaf { val := AV.v (Value.int IntKind.i64 (0 : Int)), H := [] }))
      (Tree.br (decide (k = (2 : Int)))
        (Tree.chk
          (bif
              bif bif decide ((1 : Int) ≤ b) then decide (b ≤ (2147483647 : Int)) else false then
                bif bif decide ((1 : Int) ≤ v) then decide (v ≤ (1048576 : Int)) else false then
                  bif bif decide ((1 : Int) ≤ r) then decide (r ≤ (1073741824 : Int)) else false then
                    bif !decide (s = (0 : Int)) then setOk s else false
                  else false
                else false
              else false then
            bif bif decide ((1 : Int) ≤ h) then decide (h ≤ (3 : Int)) else false then
              bif bif decide ((0 : Int) ≤ a) then decide (a ≤ (9 : Int)) else false then true else true
            else true
          else true)
          (Tree.br
            (!bif
                  bif bif decide ((1 : Int) ≤ b) then decide (b ≤ (2147483647 : Int)) else false then
                    bif bif decide ((1 : Int) ≤ v) then decide (v ≤ (1048576 : Int)) else false then
                      bif bif decide ((1 : Int) ≤ r) then decide (r ≤ (1073741824 : Int)) else false then
                        bif !decide (s = (0 : Int)) then setOk s else false
                      else false
                    else false
                  else false then
                bif bif decide ((1 : Int) ≤ h) then decide (h ≤ (3 : Int)) else false then
                  bif bif decide ((0 : Int) ≤ a) then decide (a ≤ (9 : Int)) else false then setOk c else false
                else false
              else false)
            (Tree.leaf { val := AV.v (Value.int IntKind.i64 (110 : Int)), H := [] })
            (Tree.leaf { val := AV.v (Value.int IntKind.i64 (0 : Int)), H := [] })))
        (Tree.leaf { val := AV.v (Value.int IntKind.i64 (110 : Int)), H := [] })))) := by kernel_rfl
theorem run22 (k b v r h a s c : Int) : bodyE (P := Try.prog) (Γ := Γb) [] Lno false 13 [.cell 2 165] (bodyOf Try.f98) [.agg [.v (.int .i64 k), .v (.int .i64 b), .v (.int .i64 v), .v (.int .i64 r), .v (.int .i64 h), .v (.int .i64 a), .v (.int .u32 s), .v (.int .u32 c)]] [] =
  Tree.br (decide (k = (2 : Int)))
  (Tree.leaf
    {
      val :=
        AV.agg
          [AV.v (Value.int IntKind.i64 (bif true then v else bif false then (1 : Int) else bif false then r else v)),
            AV.v (Value.int IntKind.i64 (bif false then v else bif true then (1 : Int) else bif false then r else v)),
            AV.v (Value.int IntKind.i64 (bif false then v else bif false then (1 : Int) else bif true then r else v))],
      H := [] })
  (Tree.leaf
    {
      val :=
        AV.agg
          [AV.v (Value.int IntKind.i64 (bif true then v else bif false then (0 : Int) else bif false then r else v)),
            AV.v (Value.int IntKind.i64 (bif false then v else bif true then (0 : Int) else bif false then r else v)),
            AV.v (Value.int IntKind.i64 (bif false then v else bif false then (0 : Int) else bif true then r else v))],
      H := [] }) := by kernel_rfl

def cmpI (a b : Int) : Int := if a < b then -1 else if b < a then 1 else 0
theorem run33 (a b : Int) : bodyE (P := Try.prog) (Γ := Γb) [S.c147] Lno false 20 [.tmp 4] (bodyOf Try.f127) [.v (.int .i64 a), .v (.int .i64 b)] [] =
  Tree.br (!decide (a = a))
  (Tree.br (!decide (b = b)) (Tree.leaf { val := AV.v (Value.int IntKind.i64 (0 : Int)), H := [] })
    (Tree.leaf { val := AV.v (Value.int IntKind.i64 (-1 : Int)), H := [] }))
  (Tree.br (!decide (b = b)) (Tree.leaf { val := AV.v (Value.int IntKind.i64 (1 : Int)), H := [] })
    (Tree.br (decide (a < b)) (Tree.leaf { val := AV.v (Value.int IntKind.i64 (-1 : Int)), H := [] })
      (Tree.br (decide (b < a)) (Tree.leaf { val := AV.v (Value.int IntKind.i64 (1 : Int)), H := [] })
        (Tree.leaf { val := AV.v (Value.int IntKind.i64 (0 : Int)), H := [] })))) := by kernel_rfl
theorem gives33 (a b : Int) : Gives (bodyE (P := Try.prog) (Γ := Γb) [S.c147] Lno false 20 [.tmp 4] (bodyOf Try.f127) [.v (.int .i64 a), .v (.int .i64 b)] []) (.v (.int .i64 (cmpI a b))) := by
  refine Gives.of (run33 a b) ?_
  unfold cmpI
  by_cases h1 : a < b
  · simp [Tree.sat, h1, le_int]
  · by_cases h2 : b < a <;> simp [Tree.sat, h1, h2, le_int]
noncomputable def Z.c127 : CT Try.prog Γb := CT.val2 127 Try.f127 (bodyOf Try.f127) [S.c147] Lno false 20 [.tmp 4] .i64 .i64 (fun _ _ => true) (fun a b => .v (.int .i64 (cmpI a b))) Try.func127 (by kernel_rfl) (by kernel_rfl) (by kernel_rfl) (by kernel_rfl) (by decide) (noLoops (by kernel_rfl)) (fun a b _ => gives33 a b)
noncomputable def Z.c99 : CT Try.prog Γb := CT.auto false 4 1 [Z.c127] 99 Try.f99 (bodyOf Try.f99) false 36 [.tmp 4] Try.func99 (by kernel_rfl) (by kernel_rfl) (by kernel_rfl) (by kernel_rfl)
structure Ct where
  k : Int
  b : Int
  v : Int
  r : Int
  h : Int
  a : Int
  s : Int
  c : Int
def Ct.av (x : Ct) : AV := .agg [.v (.int .i64 x.k), .v (.int .i64 x.b), .v (.int .i64 x.v), .v (.int .i64 x.r), .v (.int .i64 x.h), .v (.int .i64 x.a), .v (.int .u32 x.s), .v (.int .u32 x.c)]
theorem fitCt {l : List KC} (h : kFit i6u2 l = true) : ∃ x : Ct, l = [.i x.k, .i x.b, .i x.v, .i x.r, .i x.h, .i x.a, .i x.s, .i x.c] := by
  unfold i6u2 at h
  match l, h with
  | [.i k, .i b, .i v, .i r, .i h, .i a, .i s, .i c], _ => exact ⟨⟨k, b, v, r, h, a, s, c⟩, rfl⟩
theorem fitCt2 {l : List KC} (h : kFit (i6u2 ++ i6u2) l = true) : ∃ x y : Ct, l = [.i x.k, .i x.b, .i x.v, .i x.r, .i x.h, .i x.a, .i x.s, .i x.c, .i y.k, .i y.b, .i y.v, .i y.r, .i y.h, .i y.a, .i y.s, .i y.c] := by
  unfold i6u2 at h
  match l, h with
  | [.i k, .i b, .i v, .i r, .i h, .i a, .i s, .i c, .i k', .i b', .i v', .i r', .i h', .i a', .i s', .i c'], _ => exact ⟨⟨k, b, v, r, h, a, s, c⟩, ⟨k', b', v', r', h', a', s', c'⟩, rfl⟩
def g22 : List KC → AV
  | [.i k, .i _, .i v, .i r, .i _, .i _, .i _, .i _] => .agg [.v (.int .i64 v), .v (.int .i64 (bif decide (k = 2) then 1 else 0)), .v (.int .i64 r)]
  | _ => .any
theorem gives22 (x : Ct) : Gives (bodyE (P := Try.prog) (Γ := Γb) [] Lno false 13 [.cell 2 165] (bodyOf Try.f98) [x.av] []) (.agg [.v (.int .i64 x.v), .v (.int .i64 (bif decide (x.k = 2) then 1 else 0)), .v (.int .i64 x.r)]) := by
  refine Gives.of (run22 x.k x.b x.v x.r x.h x.a x.s x.c) ?_
  by_cases h : x.k = 2
  · rw [decide_eq_true h]; exact ⟨fun _ => ⟨.refl _, trivial⟩, fun h => by simp at h⟩
  · rw [decide_eq_false h]; exact ⟨fun h => by simp at h, fun _ => ⟨.refl _, trivial⟩⟩
noncomputable def Z.c98 : CT Try.prog Γb := CT.fun 98 Try.f98 (bodyOf Try.f98) [] Lno false 13 [.cell 2 165] [.a i6u2] (fun _ => true) g22 Try.func98 (by kernel_rfl) (by kernel_rfl) (by kernel_rfl) (by kernel_rfl) (by decide) (noLoops (by kernel_rfl))
  (fun l h _ => by
    obtain ⟨x, rfl⟩ := fitCt h
    exact gives22 x)
def Ct.wf (x : Ct) : Bool := decide (1 ≤ x.b) && decide (x.b ≤ 2147483647) && decide (1 ≤ x.v) && decide (x.v ≤ 1048576) && decide (1 ≤ x.r) && decide (x.r ≤ 1073741824) && !decide (x.s = 0) && setOk x.s
def Ct.ok (x : Ct) : Bool := bif decide (x.k = 0) then decide (x.b = 0) && decide (x.v = 0) && decide (x.r = 0) && decide (x.h = 0) && decide (x.a = 0) && decide (x.s = 0) && decide (x.c = 0)
  else bif decide (x.k = 1) then x.wf && decide (x.h = 0) && decide (x.a = 0) && decide (x.c = 0)
  else bif decide (x.k = 2) then x.wf && decide (1 ≤ x.h) && decide (x.h ≤ 3) && decide (0 ≤ x.a) && decide (x.a ≤ 9) && setOk x.c else false
def g7 : List KC → AV
  | [.i k, .i b, .i v, .i r, .i h, .i a, .i s, .i c] => .v (.int .i64 (bif Ct.ok ⟨k, b, v, r, h, a, s, c⟩ then 0 else 110))
  | _ => .any
theorem gives7 (x : Ct) : Gives (bodyE (P := Try.prog) (Γ := Γb) [S.c125, Z.c126] Lno false 72 [.tmp 2] (bodyOf Try.f93) [x.av] []) (.v (.int .i64 (bif x.ok then 0 else 110))) := by
  refine Gives.of (run7 x.k x.b x.v x.r x.h x.a x.s x.c) ?_
  obtain ⟨k, b, v, r, h, a, s, c⟩ := x
  simp only [Ct.ok, Ct.wf]
  generalize setOk s = S
  generalize setOk c = C
  by_cases k0 : k = 0
  · subst k0
    simp only [decide_true, Tree.sat_chk, Tree.sat_br, Tree.sat_leaf, le_int, LeH_nil, and_true, true_and, cond_true]
    refine ⟨by grind, ?_⟩
    grind
  · by_cases k1 : k = 1
    · subst k1
      simp only [decide_true, Tree.sat_chk, Tree.sat_br, Tree.sat_leaf, le_int, LeH_nil, and_true, true_and, cond_true]
      grind
    · by_cases k2 : k = 2
      · subst k2
        simp only [decide_true, Tree.sat_chk, Tree.sat_br, Tree.sat_leaf, le_int, LeH_nil, and_true, true_and, cond_true]
        grind
      · rw [decide_eq_false k0, decide_eq_false k1, decide_eq_false k2]
        simp only [Tree.sat_chk, Tree.sat_br, Tree.sat_leaf, le_int, LeH_nil, and_true, true_and, cond_true, cond_false]
        grind
noncomputable def Z.c93 : CT Try.prog Γb := CT.fun 93 Try.f93 (bodyOf Try.f93) [S.c125, Z.c126] Lno false 72 [.tmp 2] [.a i6u2] (fun _ => true) g7 Try.func93 (by kernel_rfl) (by kernel_rfl) (by kernel_rfl) (by kernel_rfl) (by decide) (noLoops (by kernel_rfl))
  (fun l h _ => by
    obtain ⟨x, rfl⟩ := fitCt h
    exact gives7 x)
end Go.Eng.SB

namespace Go.Eng.SB
open Go Go.Eng Go.Proofs
def Ct.cls (x : Ct) : Int := bif decide (x.k = 2) then 1 else 0
def Ct.cmp (x y : Ct) : Int := bif decide (cmpI x.v y.v = 0) then (bif decide (cmpI x.cls y.cls = 0) then cmpI x.r y.r else cmpI x.cls y.cls) else cmpI x.v y.v
def g10 : List KC → AV
  | [.i k, .i b, .i v, .i r, .i h, .i a, .i s, .i c, .i k', .i b', .i v', .i r', .i h', .i a', .i s', .i c'] => .v (.int .i64 (Ct.cmp ⟨k, b, v, r, h, a, s, c⟩ ⟨k', b', v', r', h', a', s', c'⟩))
  | _ => .any
theorem run10 (x y : Ct) : bodyE (P := Try.prog) (Γ := Γb) [Z.c98, Z.c99] Lno false 14 [.tmp 4] (bodyOf Try.f45) [x.av, y.av] [] =
  Tree.chk true (Tree.chk true (Tree.chk true (Tree.chk true (Tree.br true (Tree.chk true (Tree.br false (Tree.leaf (Ans.mk (AV.v (Value.int IntKind.i64 (1 : Int))) [])) (Tree.chk true
    (Tree.chk true (Tree.br (!decide (cmpI x.v y.v = (0 : Int))) (Tree.leaf (Ans.mk (AV.v (Value.int IntKind.i64 (cmpI x.v y.v))) [])) (Tree.br true (Tree.chk true (Tree.br false (Tree.leaf
    (Ans.mk (AV.v (Value.int IntKind.i64 (1 : Int))) [])) (Tree.chk true (Tree.chk true (Tree.br (!decide (cmpI (bif decide (x.k = (2 : Int)) then (1 : Int) else (0 : Int)) (bif decide (y.k
    = (2 : Int)) then (1 : Int) else (0 : Int)) = (0 : Int))) (Tree.leaf (Ans.mk (AV.v (Value.int IntKind.i64 (cmpI (bif decide (x.k = (2 : Int)) then (1 : Int) else (0 : Int)) (bif decide
    (y.k = (2 : Int)) then (1 : Int) else (0 : Int))))) [])) (Tree.br true (Tree.chk true (Tree.br false (Tree.leaf (Ans.mk (AV.v (Value.int IntKind.i64 (1 : Int))) [])) (Tree.chk true
    (Tree.chk true (Tree.br (!decide (cmpI x.r y.r = (0 : Int))) (Tree.leaf (Ans.mk (AV.v (Value.int IntKind.i64 (cmpI x.r y.r))) [])) (Tree.br false (Tree.chk false (Tree.br true (Tree.leaf
    (Ans.mk (AV.v (Value.int IntKind.i64 (1 : Int))) [])) (Tree.chk false (Tree.chk true (Tree.br (!decide (cmpI x.v y.v = (0 : Int))) (Tree.leaf (Ans.mk (AV.v (Value.int IntKind.i64 (cmpI
    x.v y.v))) [])) Tree.fail))))) (Tree.br false (Tree.leaf (Ans.mk (AV.v (Value.int IntKind.i64 (-1 : Int))) [])) (Tree.leaf (Ans.mk (AV.v (Value.int IntKind.i64 (0 : Int))) [])))))))))
    (Tree.br false (Tree.leaf (Ans.mk (AV.v (Value.int IntKind.i64 (-1 : Int))) [])) (Tree.leaf (Ans.mk (AV.v (Value.int IntKind.i64 (0 : Int))) []))))))))) (Tree.br false (Tree.leaf (Ans.mk
    (AV.v (Value.int IntKind.i64 (-1 : Int))) [])) (Tree.leaf (Ans.mk (AV.v (Value.int IntKind.i64 (0 : Int))) []))))))))) (Tree.br false (Tree.leaf (Ans.mk (AV.v (Value.int IntKind.i64 (-1
    : Int))) [])) (Tree.leaf (Ans.mk (AV.v (Value.int IntKind.i64 (0 : Int))) []))))))) := by kernel_rfl
theorem gives10 (x y : Ct) : Gives (bodyE (P := Try.prog) (Γ := Γb) [Z.c98, Z.c99] Lno false 14 [.tmp 4] (bodyOf Try.f45) [x.av, y.av] []) (.v (.int .i64 (x.cmp y))) := by
  refine Gives.of (run10 x y) ?_
  simp only [Ct.cmp, Ct.cls, cond_true, cond_false, Tree.sat_chk, Tree.sat_br, Tree.sat_leaf, le_int, LeH_nil, and_true, true_and]
  grind
noncomputable def Z.c45 : CT Try.prog Γb := CT.fun 45 Try.f45 (bodyOf Try.f45) [Z.c98, Z.c99] Lno false 14 [.tmp 4] [.a i6u2, .a i6u2] (fun _ => true) g10 Try.func45 (by kernel_rfl) (by kernel_rfl) (by kernel_rfl) (by kernel_rfl) (by decide) (noLoops (by kernel_rfl))
  (fun l h _ => by
    obtain ⟨x, y, rfl⟩ := fitCt2 h
    exact gives10 x y)
end Go.Eng.SB

namespace Go.Eng.SB
open Go Go.Eng Go.Proofs
def gC (x : Ct) : Nat → Int
  | 0 => x.k
  | 1 => x.b
  | 2 => x.v
  | 3 => x.r
  | 4 => x.s
  | 5 => x.h
  | 6 => x.a
  | _ => x.c
theorem ansNumsH (m : Nat) (g : Nat → Int) (h : (NA.hs (m + 1) g).ok) : Answers Try.prog Γb 82 [.hs 0 0 (m + 1)] [.arr 1 (m + 1) (i64F g)] (.tup [.hs 1 0 (catN g (m + 1)).size, .v (.int .i64 0)]) [some (.arr 1 (m + 1) (i64F g))] [.arr 1 (catN g (m + 1)).size (bsF (catN g (m + 1)))] := ansNums (.hs (m + 1) g) h
theorem runB0 (x : Ct) (hl : (NA.hs (0 + 1) (gC x)).ok) : bodyE (P := Try.prog) (Γ := Γb) [Z.c93, CT.at 82 (ansNumsH 0 (gC x) hl)] Lno false 46 [.tmp 2, .tmp 3] (bodyOf Try.f41) [x.av] [] =
  Tree.chk true (Tree.br (!decide ((bif Ct.ok (Ct.mk x.k x.b x.v x.r x.h x.a x.s x.c) then (0 : Int) else (110 : Int)) = (0 : Int))) (Tree.leaf (Ans.mk (AV.tup [AV.v (Value.slice none (0 :
    Nat) (0 : Nat)), AV.v (Value.int IntKind.i64 (bif Ct.ok (Ct.mk x.k x.b x.v x.r x.h x.a x.s x.c) then (0 : Int) else (110 : Int)))]) [])) (Tree.br (!decide (x.k = (0 : Int))) (Tree.chk
    true (Tree.br (decide (x.k = (2 : Int))) (Tree.chk true (Tree.chk (cl (LeL [AV.hs (0 : Nat) (0 : Nat) (8 : Nat)] [AV.hs (0 : Nat) (0 : Nat) (1 : Nat)] ∧ LeH [some (Blk.arr (1 : Nat) (8 :
    Nat) fun j => mixL (decide (j < (5 : Nat))) (mixL (decide ((0 : Nat) + j < (1 : Nat))) (chain [AV.v (Value.int IntKind.i64 (0 : Int))] (0 : Nat) [[AV.v (Value.int IntKind.i64 x.k)]] ((0
    : Nat) + ((0 : Nat) + j))) (chain [AV.v (Value.int IntKind.i64 (0 : Int))] (0 : Nat) [[AV.v (Value.int IntKind.i64 x.b)], [AV.v (Value.int IntKind.i64 x.v)], [AV.v (Value.int IntKind.i64
    x.r)], [AV.v (Value.int IntKind.i64 (IntKind.wrap IntKind.i64 x.s))]] ((0 : Nat) + ((0 : Nat) + j - (1 : Nat))))) (chain [AV.v (Value.int IntKind.i64 (0 : Int))] (0 : Nat) [[AV.v
    (Value.int IntKind.i64 x.h)], [AV.v (Value.int IntKind.i64 x.a)], [AV.v (Value.int IntKind.i64 (IntKind.wrap IntKind.i64 x.c))]] ((0 : Nat) + (j - (5 : Nat)))))] [some (Blk.arr (1 : Nat)
    (1 : Nat) fun j => [AV.v (Value.int IntKind.i64 (gC x j))])])) (Tree.leaf (Ans.mk (AV.tup [AV.hs (0 : Nat) (0 : Nat) (ByteArray.size (catN (gC x) (1 : Nat))), AV.v (Value.int IntKind.i64
    (0 : Int))]) [some (Blk.arr (1 : Nat) (ByteArray.size (catN (gC x) (1 : Nat))) fun j => [AV.v (Value.int IntKind.u8 (sbyte (catN (gC x) (1 : Nat)) j))])])))) (Tree.chk (cl (LeL [AV.hs (0
    : Nat) (0 : Nat) (5 : Nat)] [AV.hs (0 : Nat) (0 : Nat) (1 : Nat)] ∧ LeH [some (Blk.arr (1 : Nat) (5 : Nat) fun j => mixL (decide (j < (1 : Nat))) (chain [AV.v (Value.int IntKind.i64 (0 :
    Int))] (0 : Nat) [[AV.v (Value.int IntKind.i64 x.k)]] ((0 : Nat) + j)) (chain [AV.v (Value.int IntKind.i64 (0 : Int))] (0 : Nat) [[AV.v (Value.int IntKind.i64 x.b)], [AV.v (Value.int
    IntKind.i64 x.v)], [AV.v (Value.int IntKind.i64 x.r)], [AV.v (Value.int IntKind.i64 (IntKind.wrap IntKind.i64 x.s))]] ((0 : Nat) + (j - (1 : Nat)))))] [some (Blk.arr (1 : Nat) (1 : Nat)
    fun j => [AV.v (Value.int IntKind.i64 (gC x j))])])) (Tree.leaf (Ans.mk (AV.tup [AV.hs (0 : Nat) (0 : Nat) (ByteArray.size (catN (gC x) (1 : Nat))), AV.v (Value.int IntKind.i64 (0 :
    Int))]) [some (Blk.arr (1 : Nat) (ByteArray.size (catN (gC x) (1 : Nat))) fun j => [AV.v (Value.int IntKind.u8 (sbyte (catN (gC x) (1 : Nat)) j))])]))))) (Tree.br (decide (x.k = (2 :
    Int))) (Tree.chk true (Tree.chk (cl (LeL [AV.hs (0 : Nat) (0 : Nat) (4 : Nat)] [AV.hs (0 : Nat) (0 : Nat) (1 : Nat)] ∧ LeH [some (Blk.arr (1 : Nat) (4 : Nat) fun j => mixL (decide (j <
    (1 : Nat))) (chain [AV.v (Value.int IntKind.i64 (0 : Int))] (0 : Nat) [[AV.v (Value.int IntKind.i64 x.k)]] ((0 : Nat) + j)) (chain [AV.v (Value.int IntKind.i64 (0 : Int))] (0 : Nat)
    [[AV.v (Value.int IntKind.i64 x.h)], [AV.v (Value.int IntKind.i64 x.a)], [AV.v (Value.int IntKind.i64 (IntKind.wrap IntKind.i64 x.c))]] ((0 : Nat) + (j - (1 : Nat)))))] [some (Blk.arr (1
    : Nat) (1 : Nat) fun j => [AV.v (Value.int IntKind.i64 (gC x j))])])) (Tree.leaf (Ans.mk (AV.tup [AV.hs (0 : Nat) (0 : Nat) (ByteArray.size (catN (gC x) (1 : Nat))), AV.v (Value.int
    IntKind.i64 (0 : Int))]) [some (Blk.arr (1 : Nat) (ByteArray.size (catN (gC x) (1 : Nat))) fun j => [AV.v (Value.int IntKind.u8 (sbyte (catN (gC x) (1 : Nat)) j))])])))) (Tree.chk (cl
    (LeL [AV.hs (0 : Nat) (0 : Nat) (1 : Nat)] [AV.hs (0 : Nat) (0 : Nat) (1 : Nat)] ∧ LeH [some (Blk.arr (1 : Nat) (1 : Nat) fun x_1 => [AV.v (Value.int IntKind.i64 (bif Nat.beq x_1 (0 :
    Nat) then x.k else (0 : Int)))])] [some (Blk.arr (1 : Nat) (1 : Nat) fun j => [AV.v (Value.int IntKind.i64 (gC x j))])])) (Tree.leaf (Ans.mk (AV.tup [AV.hs (0 : Nat) (0 : Nat)
    (ByteArray.size (catN (gC x) (1 : Nat))), AV.v (Value.int IntKind.i64 (0 : Int))]) [some (Blk.arr (1 : Nat) (ByteArray.size (catN (gC x) (1 : Nat))) fun j => [AV.v (Value.int IntKind.u8
    (sbyte (catN (gC x) (1 : Nat)) j))])])))))) := by kernel_rfl
theorem runB4 (x : Ct) (hl : (NA.hs (4 + 1) (gC x)).ok) : bodyE (P := Try.prog) (Γ := Γb) [Z.c93, CT.at 82 (ansNumsH 4 (gC x) hl)] Lno false 46 [.tmp 2, .tmp 3] (bodyOf Try.f41) [x.av] [] =
  Tree.chk true (Tree.br (!decide ((bif Ct.ok (Ct.mk x.k x.b x.v x.r x.h x.a x.s x.c) then (0 : Int) else (110 : Int)) = (0 : Int))) (Tree.leaf (Ans.mk (AV.tup [AV.v (Value.slice none (0 :
    Nat) (0 : Nat)), AV.v (Value.int IntKind.i64 (bif Ct.ok (Ct.mk x.k x.b x.v x.r x.h x.a x.s x.c) then (0 : Int) else (110 : Int)))]) [])) (Tree.br (!decide (x.k = (0 : Int))) (Tree.chk
    true (Tree.br (decide (x.k = (2 : Int))) (Tree.chk true (Tree.chk (cl (LeL [AV.hs (0 : Nat) (0 : Nat) (8 : Nat)] [AV.hs (0 : Nat) (0 : Nat) (5 : Nat)] ∧ LeH [some (Blk.arr (1 : Nat) (8 :
    Nat) fun j => mixL (decide (j < (5 : Nat))) (mixL (decide ((0 : Nat) + j < (1 : Nat))) (chain [AV.v (Value.int IntKind.i64 (0 : Int))] (0 : Nat) [[AV.v (Value.int IntKind.i64 x.k)]] ((0
    : Nat) + ((0 : Nat) + j))) (chain [AV.v (Value.int IntKind.i64 (0 : Int))] (0 : Nat) [[AV.v (Value.int IntKind.i64 x.b)], [AV.v (Value.int IntKind.i64 x.v)], [AV.v (Value.int IntKind.i64
    x.r)], [AV.v (Value.int IntKind.i64 (IntKind.wrap IntKind.i64 x.s))]] ((0 : Nat) + ((0 : Nat) + j - (1 : Nat))))) (chain [AV.v (Value.int IntKind.i64 (0 : Int))] (0 : Nat) [[AV.v
    (Value.int IntKind.i64 x.h)], [AV.v (Value.int IntKind.i64 x.a)], [AV.v (Value.int IntKind.i64 (IntKind.wrap IntKind.i64 x.c))]] ((0 : Nat) + (j - (5 : Nat)))))] [some (Blk.arr (1 : Nat)
    (5 : Nat) fun j => [AV.v (Value.int IntKind.i64 (gC x j))])])) (Tree.leaf (Ans.mk (AV.tup [AV.hs (0 : Nat) (0 : Nat) (ByteArray.size (catN (gC x) (5 : Nat))), AV.v (Value.int IntKind.i64
    (0 : Int))]) [some (Blk.arr (1 : Nat) (ByteArray.size (catN (gC x) (5 : Nat))) fun j => [AV.v (Value.int IntKind.u8 (sbyte (catN (gC x) (5 : Nat)) j))])])))) (Tree.chk (cl (LeL [AV.hs (0
    : Nat) (0 : Nat) (5 : Nat)] [AV.hs (0 : Nat) (0 : Nat) (5 : Nat)] ∧ LeH [some (Blk.arr (1 : Nat) (5 : Nat) fun j => mixL (decide (j < (1 : Nat))) (chain [AV.v (Value.int IntKind.i64 (0 :
    Int))] (0 : Nat) [[AV.v (Value.int IntKind.i64 x.k)]] ((0 : Nat) + j)) (chain [AV.v (Value.int IntKind.i64 (0 : Int))] (0 : Nat) [[AV.v (Value.int IntKind.i64 x.b)], [AV.v (Value.int
    IntKind.i64 x.v)], [AV.v (Value.int IntKind.i64 x.r)], [AV.v (Value.int IntKind.i64 (IntKind.wrap IntKind.i64 x.s))]] ((0 : Nat) + (j - (1 : Nat)))))] [some (Blk.arr (1 : Nat) (5 : Nat)
    fun j => [AV.v (Value.int IntKind.i64 (gC x j))])])) (Tree.leaf (Ans.mk (AV.tup [AV.hs (0 : Nat) (0 : Nat) (ByteArray.size (catN (gC x) (5 : Nat))), AV.v (Value.int IntKind.i64 (0 :
    Int))]) [some (Blk.arr (1 : Nat) (ByteArray.size (catN (gC x) (5 : Nat))) fun j => [AV.v (Value.int IntKind.u8 (sbyte (catN (gC x) (5 : Nat)) j))])]))))) (Tree.br (decide (x.k = (2 :
    Int))) (Tree.chk true (Tree.chk (cl (LeL [AV.hs (0 : Nat) (0 : Nat) (4 : Nat)] [AV.hs (0 : Nat) (0 : Nat) (5 : Nat)] ∧ LeH [some (Blk.arr (1 : Nat) (4 : Nat) fun j => mixL (decide (j <
    (1 : Nat))) (chain [AV.v (Value.int IntKind.i64 (0 : Int))] (0 : Nat) [[AV.v (Value.int IntKind.i64 x.k)]] ((0 : Nat) + j)) (chain [AV.v (Value.int IntKind.i64 (0 : Int))] (0 : Nat)
    [[AV.v (Value.int IntKind.i64 x.h)], [AV.v (Value.int IntKind.i64 x.a)], [AV.v (Value.int IntKind.i64 (IntKind.wrap IntKind.i64 x.c))]] ((0 : Nat) + (j - (1 : Nat)))))] [some (Blk.arr (1
    : Nat) (5 : Nat) fun j => [AV.v (Value.int IntKind.i64 (gC x j))])])) (Tree.leaf (Ans.mk (AV.tup [AV.hs (0 : Nat) (0 : Nat) (ByteArray.size (catN (gC x) (5 : Nat))), AV.v (Value.int
    IntKind.i64 (0 : Int))]) [some (Blk.arr (1 : Nat) (ByteArray.size (catN (gC x) (5 : Nat))) fun j => [AV.v (Value.int IntKind.u8 (sbyte (catN (gC x) (5 : Nat)) j))])])))) (Tree.chk (cl
    (LeL [AV.hs (0 : Nat) (0 : Nat) (1 : Nat)] [AV.hs (0 : Nat) (0 : Nat) (5 : Nat)] ∧ LeH [some (Blk.arr (1 : Nat) (1 : Nat) fun x_1 => [AV.v (Value.int IntKind.i64 (bif Nat.beq x_1 (0 :
    Nat) then x.k else (0 : Int)))])] [some (Blk.arr (1 : Nat) (5 : Nat) fun j => [AV.v (Value.int IntKind.i64 (gC x j))])])) (Tree.leaf (Ans.mk (AV.tup [AV.hs (0 : Nat) (0 : Nat)
    (ByteArray.size (catN (gC x) (5 : Nat))), AV.v (Value.int IntKind.i64 (0 : Int))]) [some (Blk.arr (1 : Nat) (ByteArray.size (catN (gC x) (5 : Nat))) fun j => [AV.v (Value.int IntKind.u8
    (sbyte (catN (gC x) (5 : Nat)) j))])])))))) := by kernel_rfl
theorem runB7 (x : Ct) (hl : (NA.hs (7 + 1) (gC x)).ok) : bodyE (P := Try.prog) (Γ := Γb) [Z.c93, CT.at 82 (ansNumsH 7 (gC x) hl)] Lno false 46 [.tmp 2, .tmp 3] (bodyOf Try.f41) [x.av] [] =
  Tree.chk true (Tree.br (!decide ((bif Ct.ok (Ct.mk x.k x.b x.v x.r x.h x.a x.s x.c) then (0 : Int) else (110 : Int)) = (0 : Int))) (Tree.leaf (Ans.mk (AV.tup [AV.v (Value.slice none (0 :
    Nat) (0 : Nat)), AV.v (Value.int IntKind.i64 (bif Ct.ok (Ct.mk x.k x.b x.v x.r x.h x.a x.s x.c) then (0 : Int) else (110 : Int)))]) [])) (Tree.br (!decide (x.k = (0 : Int))) (Tree.chk
    true (Tree.br (decide (x.k = (2 : Int))) (Tree.chk true (Tree.chk (cl (LeL [AV.hs (0 : Nat) (0 : Nat) (8 : Nat)] [AV.hs (0 : Nat) (0 : Nat) (8 : Nat)] ∧ LeH [some (Blk.arr (1 : Nat) (8 :
    Nat) fun j => mixL (decide (j < (5 : Nat))) (mixL (decide ((0 : Nat) + j < (1 : Nat))) (chain [AV.v (Value.int IntKind.i64 (0 : Int))] (0 : Nat) [[AV.v (Value.int IntKind.i64 x.k)]] ((0
    : Nat) + ((0 : Nat) + j))) (chain [AV.v (Value.int IntKind.i64 (0 : Int))] (0 : Nat) [[AV.v (Value.int IntKind.i64 x.b)], [AV.v (Value.int IntKind.i64 x.v)], [AV.v (Value.int IntKind.i64
    x.r)], [AV.v (Value.int IntKind.i64 (IntKind.wrap IntKind.i64 x.s))]] ((0 : Nat) + ((0 : Nat) + j - (1 : Nat))))) (chain [AV.v (Value.int IntKind.i64 (0 : Int))] (0 : Nat) [[AV.v
    (Value.int IntKind.i64 x.h)], [AV.v (Value.int IntKind.i64 x.a)], [AV.v (Value.int IntKind.i64 (IntKind.wrap IntKind.i64 x.c))]] ((0 : Nat) + (j - (5 : Nat)))))] [some (Blk.arr (1 : Nat)
    (8 : Nat) fun j => [AV.v (Value.int IntKind.i64 (gC x j))])])) (Tree.leaf (Ans.mk (AV.tup [AV.hs (0 : Nat) (0 : Nat) (ByteArray.size (catN (gC x) (8 : Nat))), AV.v (Value.int IntKind.i64
    (0 : Int))]) [some (Blk.arr (1 : Nat) (ByteArray.size (catN (gC x) (8 : Nat))) fun j => [AV.v (Value.int IntKind.u8 (sbyte (catN (gC x) (8 : Nat)) j))])])))) (Tree.chk (cl (LeL [AV.hs (0
    : Nat) (0 : Nat) (5 : Nat)] [AV.hs (0 : Nat) (0 : Nat) (8 : Nat)] ∧ LeH [some (Blk.arr (1 : Nat) (5 : Nat) fun j => mixL (decide (j < (1 : Nat))) (chain [AV.v (Value.int IntKind.i64 (0 :
    Int))] (0 : Nat) [[AV.v (Value.int IntKind.i64 x.k)]] ((0 : Nat) + j)) (chain [AV.v (Value.int IntKind.i64 (0 : Int))] (0 : Nat) [[AV.v (Value.int IntKind.i64 x.b)], [AV.v (Value.int
    IntKind.i64 x.v)], [AV.v (Value.int IntKind.i64 x.r)], [AV.v (Value.int IntKind.i64 (IntKind.wrap IntKind.i64 x.s))]] ((0 : Nat) + (j - (1 : Nat)))))] [some (Blk.arr (1 : Nat) (8 : Nat)
    fun j => [AV.v (Value.int IntKind.i64 (gC x j))])])) (Tree.leaf (Ans.mk (AV.tup [AV.hs (0 : Nat) (0 : Nat) (ByteArray.size (catN (gC x) (8 : Nat))), AV.v (Value.int IntKind.i64 (0 :
    Int))]) [some (Blk.arr (1 : Nat) (ByteArray.size (catN (gC x) (8 : Nat))) fun j => [AV.v (Value.int IntKind.u8 (sbyte (catN (gC x) (8 : Nat)) j))])]))))) (Tree.br (decide (x.k = (2 :
    Int))) (Tree.chk true (Tree.chk (cl (LeL [AV.hs (0 : Nat) (0 : Nat) (4 : Nat)] [AV.hs (0 : Nat) (0 : Nat) (8 : Nat)] ∧ LeH [some (Blk.arr (1 : Nat) (4 : Nat) fun j => mixL (decide (j <
    (1 : Nat))) (chain [AV.v (Value.int IntKind.i64 (0 : Int))] (0 : Nat) [[AV.v (Value.int IntKind.i64 x.k)]] ((0 : Nat) + j)) (chain [AV.v (Value.int IntKind.i64 (0 : Int))] (0 : Nat)
    [[AV.v (Value.int IntKind.i64 x.h)], [AV.v (Value.int IntKind.i64 x.a)], [AV.v (Value.int IntKind.i64 (IntKind.wrap IntKind.i64 x.c))]] ((0 : Nat) + (j - (1 : Nat)))))] [some (Blk.arr (1
    : Nat) (8 : Nat) fun j => [AV.v (Value.int IntKind.i64 (gC x j))])])) (Tree.leaf (Ans.mk (AV.tup [AV.hs (0 : Nat) (0 : Nat) (ByteArray.size (catN (gC x) (8 : Nat))), AV.v (Value.int
    IntKind.i64 (0 : Int))]) [some (Blk.arr (1 : Nat) (ByteArray.size (catN (gC x) (8 : Nat))) fun j => [AV.v (Value.int IntKind.u8 (sbyte (catN (gC x) (8 : Nat)) j))])])))) (Tree.chk (cl
    (LeL [AV.hs (0 : Nat) (0 : Nat) (1 : Nat)] [AV.hs (0 : Nat) (0 : Nat) (8 : Nat)] ∧ LeH [some (Blk.arr (1 : Nat) (1 : Nat) fun x_1 => [AV.v (Value.int IntKind.i64 (bif Nat.beq x_1 (0 :
    Nat) then x.k else (0 : Int)))])] [some (Blk.arr (1 : Nat) (8 : Nat) fun j => [AV.v (Value.int IntKind.i64 (gC x j))])])) (Tree.leaf (Ans.mk (AV.tup [AV.hs (0 : Nat) (0 : Nat)
    (ByteArray.size (catN (gC x) (8 : Nat))), AV.v (Value.int IntKind.i64 (0 : Int))]) [some (Blk.arr (1 : Nat) (ByteArray.size (catN (gC x) (8 : Nat))) fun j => [AV.v (Value.int IntKind.u8
    (sbyte (catN (gC x) (8 : Nat)) j))])])))))) := by kernel_rfl
theorem runBx (x : Ct) : bodyE (P := Try.prog) (Γ := Γb) [Z.c93] Lno false 46 [.tmp 2, .tmp 3] (bodyOf Try.f41) [x.av] [] =
  Tree.chk true (Tree.br (!decide ((bif Ct.ok (Ct.mk x.k x.b x.v x.r x.h x.a x.s x.c) then (0 : Int) else (110 : Int)) = (0 : Int))) (Tree.leaf (Ans.mk (AV.tup [AV.v (Value.slice none (0 :
    Nat) (0 : Nat)), AV.v (Value.int IntKind.i64 (bif Ct.ok (Ct.mk x.k x.b x.v x.r x.h x.a x.s x.c) then (0 : Int) else (110 : Int)))]) [])) (Tree.br (!decide (x.k = (0 : Int))) (Tree.chk
    true (Tree.br (decide (x.k = (2 : Int))) (Tree.chk true Tree.fail) Tree.fail)) (Tree.br (decide (x.k = (2 : Int))) (Tree.chk true Tree.fail) Tree.fail))) := by kernel_rfl
def Ct.wide (x : Ct) : Prop := 0 ≤ x.s ∧ x.s < 4294967296 ∧ 0 ≤ x.c ∧ x.c < 4294967296
theorem okN_le {n : Int} (h : 0 ≤ n) (h' : n ≤ 4611686018427387904) : okN n = true := by
  unfold okN; rw [decide_eq_true h, decide_eq_true h']; rfl
theorem ok_kinds {x : Ct} (h : x.ok = true) : x.k = 0 ∨ (x.k = 1 ∧ x.wf = true ∧ x.h = 0 ∧ x.a = 0 ∧ x.c = 0) ∨ (x.k = 2 ∧ x.wf = true ∧ 1 ≤ x.h ∧ x.h ≤ 3 ∧ 0 ≤ x.a ∧ x.a ≤ 9) := by
  unfold Ct.ok at h
  by_cases h0 : x.k = 0
  · exact .inl h0
  · rw [decide_eq_false h0] at h
    by_cases h1 : x.k = 1
    · rw [decide_eq_true h1] at h
      simp only [cond_true, cond_false, Bool.and_eq_true, decide_eq_true_eq] at h
      exact .inr (.inl ⟨h1, h.1.1.1, h.1.1.2, h.1.2, h.2⟩)
    · rw [decide_eq_false h1] at h
      by_cases h2 : x.k = 2
      · rw [decide_eq_true h2] at h
        simp only [cond_true, cond_false, Bool.and_eq_true, decide_eq_true_eq] at h
        exact .inr (.inr ⟨h2, h.1.1.1.1.1, h.1.1.1.1.2, h.1.1.1.2, h.1.1.2, h.1.2⟩)
      · rw [decide_eq_false h2] at h; simp at h
theorem wf_nums {x : Ct} (h : x.wf = true) : 1 ≤ x.b ∧ x.b ≤ 2147483647 ∧ 1 ≤ x.v ∧ x.v ≤ 1048576 ∧ 1 ≤ x.r ∧ x.r ≤ 1073741824 := by
  simp only [Ct.wf, Bool.and_eq_true, decide_eq_true_eq] at h
  exact ⟨h.1.1.1.1.1.1.1, h.1.1.1.1.1.1.2, h.1.1.1.1.1.2, h.1.1.1.1.2, h.1.1.1.2, h.1.1.2⟩
theorem na0 {x : Ct} (h : x.k = 0) : (NA.hs (0 + 1) (gC x)).ok := ⟨fun j hj => match j, hj with | 0, _ => okN_le (by show 0 ≤ x.k; omega) (by show x.k ≤ _; omega) | j + 1, h => absurd h (by show ¬ j + 1 < 0 + 1; omega), by show 0 + 1 ≤ 100000; omega, fun _ => by show 0 < 0 + 1; omega⟩
theorem na4 {x : Ct} (hx : x.wide) (h : x.k = 1) (hw : x.wf = true) : (NA.hs (4 + 1) (gC x)).ok := by
  obtain ⟨b1, b2, v1, v2, r1, r2⟩ := wf_nums hw
  obtain ⟨s1, s2, _, _⟩ := hx
  exact ⟨fun j hj => match j, hj with
    | 0, _ => okN_le (by show 0 ≤ x.k; omega) (by show x.k ≤ _; omega)
    | 1, _ => okN_le (by show 0 ≤ x.b; omega) (by show x.b ≤ _; omega)
    | 2, _ => okN_le (by show 0 ≤ x.v; omega) (by show x.v ≤ _; omega)
    | 3, _ => okN_le (by show 0 ≤ x.r; omega) (by show x.r ≤ _; omega)
    | 4, _ => okN_le (by show 0 ≤ x.s; omega) (by show x.s ≤ _; omega)
    | j + 5, h => absurd h (by show ¬ j + 5 < 4 + 1; omega), by show 4 + 1 ≤ 100000; omega, fun _ => by show 0 < 4 + 1; omega⟩
theorem na7 {x : Ct} (hx : x.wide) (h : x.k = 2) (hw : x.wf = true) (h1 : 1 ≤ x.h) (h2 : x.h ≤ 3) (h3 : 0 ≤ x.a) (h4 : x.a ≤ 9) : (NA.hs (7 + 1) (gC x)).ok := by
  obtain ⟨b1, b2, v1, v2, r1, r2⟩ := wf_nums hw
  obtain ⟨s1, s2, c1, c2⟩ := hx
  exact ⟨fun j hj => match j, hj with
    | 0, _ => okN_le (by show 0 ≤ x.k; omega) (by show x.k ≤ _; omega)
    | 1, _ => okN_le (by show 0 ≤ x.b; omega) (by show x.b ≤ _; omega)
    | 2, _ => okN_le (by show 0 ≤ x.v; omega) (by show x.v ≤ _; omega)
    | 3, _ => okN_le (by show 0 ≤ x.r; omega) (by show x.r ≤ _; omega)
    | 4, _ => okN_le (by show 0 ≤ x.s; omega) (by show x.s ≤ _; omega)
    | 5, _ => okN_le (by show 0 ≤ x.h; omega) (by show x.h ≤ _; omega)
    | 6, _ => okN_le (by show 0 ≤ x.a; omega) (by show x.a ≤ _; omega)
    | 7, _ => okN_le (by show 0 ≤ x.c; omega) (by show x.c ≤ _; omega)
    | j + 8, h => absurd h (by show ¬ j + 8 < 7 + 1; omega), by show 7 + 1 ≤ 100000; omega, fun _ => by show 0 < 7 + 1; omega⟩
theorem wrapS {n : Int} (h : 0 ≤ n) (h' : n < 4294967296) : IntKind.i64.wrap n = n := by rw [wrap64E]; omega
def AnsC (x : Ct) (m : Nat) : Prop := Answers Try.prog Γb 41 [x.av] [] (.tup [.hs 0 0 (catN (gC x) m).size, .v (.int .i64 0)]) [] [.arr 1 (catN (gC x) m).size (bsF (catN (gC x) m))]
theorem okCond {x : Ct} (h : x.ok = true) : (!decide ((bif (Ct.mk x.k x.b x.v x.r x.h x.a x.s x.c).ok then (0 : Int) else (110 : Int)) = (0 : Int))) = false := by
  rw [show (Ct.mk x.k x.b x.v x.r x.h x.a x.s x.c).ok = true from h]; rfl
theorem ansC0 {x : Ct} (hok : x.ok = true) (h : x.k = 0) : AnsC x 1 := answers (fn := Try.f41) (c := bodyOf Try.f41) (ntmps := 46) (results := [.tmp 2, .tmp 3]) [Z.c93, CT.at 82 (ansNumsH 0 (gC x) (na0 h))] Lno false Try.func41 (by kernel_rfl) (by kernel_rfl) (by kernel_rfl) (by kernel_rfl) (by simp) rfl (noLoops (by kernel_rfl)) (by
  refine Meets.of (runB0 x (na0 h)) ⟨rfl, ?_⟩
  rw [okCond hok, decide_eq_true h, decide_eq_false (show ¬ x.k = 2 by omega)]
  exact ⟨fun h => by simp at h, fun _ => ⟨fun h => by simp at h, fun _ => ⟨fun h => by simp at h, fun _ => ⟨cl_iff.2 ⟨LeL.refl _, .arr rfl (fun j hj => match j, hj with | 0, _ => rfl | j + 1, h => absurd h (by omega)) (fun _ => rfl), trivial⟩, .refl _, .refl _, trivial⟩⟩⟩⟩)
theorem ansC4 {x : Ct} (hx : x.wide) (hok : x.ok = true) (h : x.k = 1) (hw : x.wf = true) : AnsC x 5 := answers (fn := Try.f41) (c := bodyOf Try.f41) (ntmps := 46) (results := [.tmp 2, .tmp 3]) [Z.c93, CT.at 82 (ansNumsH 4 (gC x) (na4 hx h hw))] Lno false Try.func41 (by kernel_rfl) (by kernel_rfl) (by kernel_rfl) (by kernel_rfl) (by simp) rfl (noLoops (by kernel_rfl)) (by
  have w1 := wrapS hx.1 hx.2.1
  refine Meets.of (runB4 x (na4 hx h hw)) ⟨rfl, ?_⟩
  rw [okCond hok, decide_eq_false (show ¬ x.k = 0 by omega), decide_eq_false (show ¬ x.k = 2 by omega)]
  exact ⟨fun h => by simp at h, fun _ => ⟨fun _ => ⟨rfl, fun h => by simp at h, fun _ => ⟨cl_iff.2 ⟨LeL.refl _, .arr rfl (fun j hj => match j, hj with | 0, _ => rfl | 1, _ => rfl | 2, _ => rfl | 3, _ => rfl | 4, _ => by show [AV.v (Value.int IntKind.i64 (IntKind.i64.wrap x.s))] = [AV.v (Value.int IntKind.i64 x.s)]; rw [w1] | j + 5, h => absurd h (by omega)) (fun _ => rfl), trivial⟩, .refl _, .refl _, trivial⟩⟩, fun h => by simp at h⟩⟩)
theorem ansC7 {x : Ct} (hx : x.wide) (hok : x.ok = true) (h : x.k = 2) (hw : x.wf = true) (h1 : 1 ≤ x.h) (h2 : x.h ≤ 3) (h3 : 0 ≤ x.a) (h4 : x.a ≤ 9) : AnsC x 8 := answers (fn := Try.f41) (c := bodyOf Try.f41) (ntmps := 46) (results := [.tmp 2, .tmp 3]) [Z.c93, CT.at 82 (ansNumsH 7 (gC x) (na7 hx h hw h1 h2 h3 h4))] Lno false Try.func41 (by kernel_rfl) (by kernel_rfl) (by kernel_rfl) (by kernel_rfl) (by simp) rfl (noLoops (by kernel_rfl)) (by
  have w1 := wrapS hx.1 hx.2.1
  have w2 := wrapS hx.2.2.1 hx.2.2.2
  refine Meets.of (runB7 x (na7 hx h hw h1 h2 h3 h4)) ⟨rfl, ?_⟩
  rw [okCond hok, decide_eq_false (show ¬ x.k = 0 by omega), decide_eq_true h]
  exact ⟨fun h => by simp at h, fun _ => ⟨fun _ => ⟨rfl, fun _ => ⟨rfl, cl_iff.2 ⟨LeL.refl _, .arr rfl (fun j hj => match j, hj with | 0, _ => rfl | 1, _ => rfl | 2, _ => rfl | 3, _ => rfl | 4, _ => by show [AV.v (Value.int IntKind.i64 (IntKind.i64.wrap x.s))] = [AV.v (Value.int IntKind.i64 x.s)]; rw [w1] | 5, _ => rfl | 6, _ => rfl | 7, _ => by show [AV.v (Value.int IntKind.i64 (IntKind.i64.wrap x.c))] = [AV.v (Value.int IntKind.i64 x.c)]; rw [w2] | j + 8, h => absurd h (by omega)) (fun _ => rfl), trivial⟩, .refl _, .refl _, trivial⟩, fun h => by simp at h⟩, fun h => by simp at h⟩⟩)
theorem ansCx {x : Ct} (hok : x.ok = false) : Answers Try.prog Γb 41 [x.av] [] (.tup [.v (.slice none 0 0), .v (.int .i64 110)]) [] [] := answers (fn := Try.f41) (c := bodyOf Try.f41) (ntmps := 46) (results := [.tmp 2, .tmp 3]) [Z.c93] Lno false Try.func41 (by kernel_rfl) (by kernel_rfl) (by kernel_rfl) (by kernel_rfl) (by simp) rfl (noLoops (by kernel_rfl)) (by
  refine Meets.of (runBx x) ⟨rfl, ?_⟩
  rw [show (Ct.mk x.k x.b x.v x.r x.h x.a x.s x.c).ok = false from hok]
  exact ⟨fun _ => ⟨.refl _, trivial⟩, fun h => by simp at h⟩)
end Go.Eng.SB

namespace Go.Eng.SB.R
open Go Go.Eng Go.Eng.M Go.Eng.RD Go.Proofs
structure RX where
  off : Nat
  len : Nat
  e : Int
  N : Nat
  f : Nat → List AV
def RX.ok (t : ByteArray) (x : RX) : Prop := x.len = t.size - x.off ∧ x.N = t.size ∧ x.f = bsF t
def toX : List AV → List Blk → Option RX
  | [.ptr 0 0], [.row [.hs 1 off len, .v (.int .i64 e)], .arr 1 N f] => some ⟨off, len, e, N, f⟩
  | _, _ => none
def toXI : List AV → List Blk → Option (RX × Int)
  | [.ptr 0 0, .v (.int .i64 n)], [.row [.hs 1 off len, .v (.int .i64 e)], .arr 1 N f] => some (⟨off, len, e, N, f⟩, n)
  | _, _ => none
def rdu (t : ByteArray) (off : Nat) (e : Int) : List (Option (Option Blk)) := [some (some (.row [.hs 1 off (t.size - off), .v (.int .i64 e)])), none]
theorem toX_inv {args : List AV} {Hin : List Blk} {x : RX} {t : ByteArray} (h : toX args Hin = some x) (hp : x.ok t) : args = [.ptr 0 0] ∧ Hin = rdb t x.off x.e := by
  unfold toX at h
  split at h
  · cases h
    obtain ⟨h1, h2, h3⟩ := hp
    simp only at h1 h2 h3
    subst h1; subst h2; subst h3
    exact ⟨rfl, rfl⟩
  · cases h
theorem toXI_inv {args : List AV} {Hin : List Blk} {x : RX × Int} {t : ByteArray} (h : toXI args Hin = some x) (hp : x.1.ok t) : args = [.ptr 0 0, .v (.int .i64 x.2)] ∧ Hin = rdb t x.1.off x.1.e := by
  unfold toXI at h
  split at h
  · cases h
    obtain ⟨h1, h2, h3⟩ := hp
    simp only at h1 h2 h3
    subst h1; subst h2; subst h3
    exact ⟨rfl, rfl⟩
  · cases h
noncomputable def hRn (t : ByteArray) (hz : t.size ≤ 1000000000000) : CT Try.prog Γb := CT.ex 87 toX (RX.ok t) (fun x => .v (.int .i64 (qN t x.off x.e))) (fun x => rdu t (qO t x.off x.e) (qE t x.off x.e)) (fun _ => [])
  (callFunc_enters Try.func87 (by kernel_rfl) (by kernel_rfl)) (fun args Hin x hx hp => by
    obtain ⟨rfl, rfl⟩ := toX_inv hx hp
    exact (ansRn hz).cU rfl)
noncomputable def hFl (t : ByteArray) : CT Try.prog Γb := CT.ex 97 toXI (fun x => x.1.ok t) (fun _ => .tup []) (fun x => rdu t (fO t.size x.1.off x.1.e x.2) (fE x.1.e x.2)) (fun _ => [])
  (callFunc_enters Try.func97 (by kernel_rfl) (by kernel_rfl)) (fun args Hin x hx hp => by
    obtain ⟨rfl, rfl⟩ := toXI_inv hx hp
    exact ansFl.cU rfl)
noncomputable def hRs (t : ByteArray) : CT Try.prog Γb := CT.ex 44 toX (RX.ok t) (fun x => .v (.int .i64 ((t.size - x.off : Nat) : Int))) (fun _ => []) (fun _ => [])
  (callFunc_enters Try.func44 (by kernel_rfl) (by kernel_rfl)) (fun args Hin x hx hp => by
    obtain ⟨rfl, rfl⟩ := toX_inv hx hp
    exact ansRs.cU rfl)
noncomputable def hDn (t : ByteArray) : CT Try.prog Γb := CT.ex 88 toX (RX.ok t) (fun x => .v (.int .i64 (dE t x.off x.e))) (fun _ => []) (fun _ => [])
  (callFunc_enters Try.func88 (by kernel_rfl) (by kernel_rfl)) (fun args Hin x hx hp => by
    obtain ⟨rfl, rfl⟩ := toX_inv hx hp
    exact ansDn.cU rfl)
end Go.Eng.SB.R

namespace Go.Eng.SB.R
open Go Go.Eng Go.Eng.M Go.Eng.RD Go.Eng.SB Go.Proofs
structure NX where
  m : Int
  off : Nat
  len : Nat
  N : Nat
  f : Nat → List AV
def NX.ok (t : ByteArray) (x : NX) : Prop := x.len = t.size - x.off ∧ x.N = t.size ∧ x.f = bsF t ∧ qE t x.off 0 = 0 ∧ qN t x.off 0 ≤ x.m
def toN : List AV → List Blk → Option NX
  | [.v (.int .i64 m), .ptr 0 0], [.row [.ptr 1 0], .row [.hs 2 off len, .v (.int .i64 0)], .arr 1 N f] => some ⟨m, off, len, N, f⟩
  | _, _ => none
def ndb (t : ByteArray) (off : Nat) : List Blk := [.row [.ptr 1 0], .row [.hs 2 off (t.size - off), .v (.int .i64 0)], .arr 1 t.size (bsF t)]
theorem toN_inv {args : List AV} {Hin : List Blk} {x : NX} {t : ByteArray} (h : toN args Hin = some x) (hp : x.ok t) : args = [.v (.int .i64 x.m), .ptr 0 0] ∧ Hin = ndb t x.off := by
  unfold toN at h
  split at h
  · cases h
    obtain ⟨h1, h2, h3, _⟩ := hp
    simp only at h1 h2 h3
    subst h1; subst h2; subst h3
    exact ⟨rfl, rfl⟩
  · cases h
theorem runNx (t : ByteArray) (hz : t.size ≤ 1000000000000) (off : Nat) (m : Int) : bodyE (P := Try.prog) (Γ := Γb) [hRn t hz, hFl t] Lno false 13 [.tmp 3] (bodyOf Try.f96) [.v (.int .i64 m), .ptr 0 0] (ndb t off) =
  Tree.chk (cl (RX.ok t (RX.mk off (ByteArray.size t - off) (0 : Int) (ByteArray.size t) (bsF t)))) (Tree.br (decide (m < qN t off (0 : Int))) (Tree.chk (cl (RX.ok t (RX.mk (qO t off (0 :
    Int)) (ByteArray.size t - qO t off (0 : Int)) (qE t off (0 : Int)) (ByteArray.size t) (bsF t)))) (Tree.leaf (Ans.mk (AV.v (Value.int IntKind.i64 (qN t off (0 : Int)))) [some (Blk.row
    [AV.ptr (1 : Nat) (0 : Nat)]), some (Blk.row [AV.hs (2 : Nat) (fO (ByteArray.size t) (qO t off (0 : Int)) (qE t off (0 : Int)) (110 : Int)) (ByteArray.size t - fO (ByteArray.size t) (qO
    t off (0 : Int)) (qE t off (0 : Int)) (110 : Int)), AV.v (Value.int IntKind.i64 (fE (qE t off (0 : Int)) (110 : Int)))]), some (Blk.arr (1 : Nat) (ByteArray.size t) (bsF t))])))
    (Tree.leaf (Ans.mk (AV.v (Value.int IntKind.i64 (qN t off (0 : Int)))) [some (Blk.row [AV.ptr (1 : Nat) (0 : Nat)]), some (Blk.row [AV.hs (2 : Nat) (qO t off (0 : Int)) (ByteArray.size t
    - qO t off (0 : Int)), AV.v (Value.int IntKind.i64 (qE t off (0 : Int)))]), some (Blk.arr (1 : Nat) (ByteArray.size t) (bsF t))]))) := by kernel_rfl
theorem ansNx {t : ByteArray} (hz : t.size ≤ 1000000000000) {off : Nat} {m : Int} (he : qE t off 0 = 0) (hm : qN t off 0 ≤ m) : Answers Try.prog Γb 96 [.v (.int .i64 m), .ptr 0 0] (ndb t off) (.v (.int .i64 (qN t off 0))) ((ndb t (qO t off 0)).map some) [] := answers (fn := Try.f96) (c := bodyOf Try.f96) (ntmps := 13) (results := [.tmp 3]) [hRn t hz, hFl t] Lno false Try.func96 (by kernel_rfl) (by kernel_rfl) (by kernel_rfl) (by kernel_rfl) (by simp) rfl (noLoops (by kernel_rfl)) (by
  refine Meets.of (runNx t hz off m) ?_
  rw [he, decide_eq_false (show ¬ m < qN t off 0 by omega)]
  exact ⟨cl_iff.2 ⟨rfl, rfl, rfl⟩, fun h => by simp at h, fun _ => ⟨.refl _, .refl _, .refl _, .refl _, trivial⟩⟩)
noncomputable def hNx (t : ByteArray) (hz : t.size ≤ 1000000000000) : CT Try.prog Γb := CT.ex 96 toN (NX.ok t) (fun x => .v (.int .i64 (qN t x.off 0))) (fun x => [none, some (some (.row [.hs 2 (qO t x.off 0) (t.size - qO t x.off 0), .v (.int .i64 0)])), none]) (fun _ => [])
  (callFunc_enters Try.func96 (by kernel_rfl) (by kernel_rfl)) (fun args Hin x hx hp => by
    obtain ⟨rfl, rfl⟩ := toN_inv hx hp
    exact (ansNx hz hp.2.2.2.1 hp.2.2.2.2).cU rfl)
theorem runTk (t : ByteArray) (hz : t.size ≤ 1000000000000) (off : Nat) : bodyE (P := Try.prog) (Γ := Γb) [Z.c93, hNx t hz, hDn t] Lno false 53 [.cell 2 75] (bodyOf Try.f43) [.ptr 0 0] (rdb t off 0) =
  Tree.chk (cl (NX.ok t (NX.mk (2 : Int) off (ByteArray.size t - off) (ByteArray.size t) (bsF t)))) (Tree.br (!decide (qN t off (0 : Int) = (0 : Int))) (Tree.chk (cl (NX.ok t (NX.mk
    (2147483647 : Int) (qO t off (0 : Int)) (ByteArray.size t - qO t off (0 : Int)) (ByteArray.size t) (bsF t)))) (Tree.chk (cl (NX.ok t (NX.mk (1048576 : Int) (qO t (qO t off (0 : Int)) (0
    : Int)) (ByteArray.size t - qO t (qO t off (0 : Int)) (0 : Int)) (ByteArray.size t) (bsF t)))) (Tree.chk (cl (NX.ok t (NX.mk (1073741824 : Int) (qO t (qO t (qO t off (0 : Int)) (0 :
    Int)) (0 : Int)) (ByteArray.size t - qO t (qO t (qO t off (0 : Int)) (0 : Int)) (0 : Int)) (ByteArray.size t) (bsF t)))) (Tree.chk (cl (NX.ok t (NX.mk (1023 : Int) (qO t (qO t (qO t (qO
    t off (0 : Int)) (0 : Int)) (0 : Int)) (0 : Int)) (ByteArray.size t - qO t (qO t (qO t (qO t off (0 : Int)) (0 : Int)) (0 : Int)) (0 : Int)) (ByteArray.size t) (bsF t)))) (Tree.br
    (decide (qN t off (0 : Int) = (2 : Int))) (Tree.chk (cl (NX.ok t (NX.mk (3 : Int) (qO t (qO t (qO t (qO t (qO t off (0 : Int)) (0 : Int)) (0 : Int)) (0 : Int)) (0 : Int)) (ByteArray.size
    t - qO t (qO t (qO t (qO t (qO t off (0 : Int)) (0 : Int)) (0 : Int)) (0 : Int)) (0 : Int)) (ByteArray.size t) (bsF t)))) (Tree.chk (cl (NX.ok t (NX.mk (9 : Int) (qO t (qO t (qO t (qO t
    (qO t (qO t off (0 : Int)) (0 : Int)) (0 : Int)) (0 : Int)) (0 : Int)) (0 : Int)) (ByteArray.size t - qO t (qO t (qO t (qO t (qO t (qO t off (0 : Int)) (0 : Int)) (0 : Int)) (0 : Int))
    (0 : Int)) (0 : Int)) (ByteArray.size t) (bsF t)))) (Tree.chk (cl (NX.ok t (NX.mk (1023 : Int) (qO t (qO t (qO t (qO t (qO t (qO t (qO t off (0 : Int)) (0 : Int)) (0 : Int)) (0 : Int))
    (0 : Int)) (0 : Int)) (0 : Int)) (ByteArray.size t - qO t (qO t (qO t (qO t (qO t (qO t (qO t off (0 : Int)) (0 : Int)) (0 : Int)) (0 : Int)) (0 : Int)) (0 : Int)) (0 : Int))
    (ByteArray.size t) (bsF t)))) (Tree.chk true (Tree.br (!decide ((bif Ct.ok (Ct.mk (qN t off (0 : Int)) (qN t (qO t off (0 : Int)) (0 : Int)) (qN t (qO t (qO t off (0 : Int)) (0 : Int))
    (0 : Int)) (qN t (qO t (qO t (qO t off (0 : Int)) (0 : Int)) (0 : Int)) (0 : Int)) (qN t (qO t (qO t (qO t (qO t (qO t off (0 : Int)) (0 : Int)) (0 : Int)) (0 : Int)) (0 : Int)) (0 :
    Int)) (qN t (qO t (qO t (qO t (qO t (qO t (qO t off (0 : Int)) (0 : Int)) (0 : Int)) (0 : Int)) (0 : Int)) (0 : Int)) (0 : Int)) (IntKind.wrap IntKind.u32 (qN t (qO t (qO t (qO t (qO t
    off (0 : Int)) (0 : Int)) (0 : Int)) (0 : Int)) (0 : Int))) (IntKind.wrap IntKind.u32 (qN t (qO t (qO t (qO t (qO t (qO t (qO t (qO t off (0 : Int)) (0 : Int)) (0 : Int)) (0 : Int)) (0 :
    Int)) (0 : Int)) (0 : Int)) (0 : Int)))) then (0 : Int) else (110 : Int)) = (0 : Int))) Tree.fail (Tree.chk (cl (RX.ok t (RX.mk (qO t (qO t (qO t (qO t (qO t (qO t (qO t (qO t off (0 :
    Int)) (0 : Int)) (0 : Int)) (0 : Int)) (0 : Int)) (0 : Int)) (0 : Int)) (0 : Int)) (ByteArray.size t - qO t (qO t (qO t (qO t (qO t (qO t (qO t (qO t off (0 : Int)) (0 : Int)) (0 : Int))
    (0 : Int)) (0 : Int)) (0 : Int)) (0 : Int)) (0 : Int)) (0 : Int) (ByteArray.size t) (bsF t))) && bif !decide (dE t (qO t (qO t (qO t (qO t (qO t (qO t (qO t (qO t off (0 : Int)) (0 :
    Int)) (0 : Int)) (0 : Int)) (0 : Int)) (0 : Int)) (0 : Int)) (0 : Int)) (0 : Int) = (0 : Int)) then cl (RX.ok t (RX.mk (qO t (qO t (qO t (qO t (qO t (qO t (qO t (qO t off (0 : Int)) (0 :
    Int)) (0 : Int)) (0 : Int)) (0 : Int)) (0 : Int)) (0 : Int)) (0 : Int)) (ByteArray.size t - qO t (qO t (qO t (qO t (qO t (qO t (qO t (qO t off (0 : Int)) (0 : Int)) (0 : Int)) (0 : Int))
    (0 : Int)) (0 : Int)) (0 : Int)) (0 : Int)) (0 : Int) (ByteArray.size t) (bsF t))) else true) (Tree.br (bif !decide (dE t (qO t (qO t (qO t (qO t (qO t (qO t (qO t (qO t off (0 : Int))
    (0 : Int)) (0 : Int)) (0 : Int)) (0 : Int)) (0 : Int)) (0 : Int)) (0 : Int)) (0 : Int) = (0 : Int)) then !decide (dE t (qO t (qO t (qO t (qO t (qO t (qO t (qO t (qO t off (0 : Int)) (0 :
    Int)) (0 : Int)) (0 : Int)) (0 : Int)) (0 : Int)) (0 : Int)) (0 : Int)) (0 : Int) = (32 : Int)) else false) (Tree.leaf (Ans.mk (AV.agg [AV.v (Value.int IntKind.i64 (0 : Int)), AV.v
    (Value.int IntKind.i64 (0 : Int)), AV.v (Value.int IntKind.i64 (0 : Int)), AV.v (Value.int IntKind.i64 (0 : Int)), AV.v (Value.int IntKind.i64 (0 : Int)), AV.v (Value.int IntKind.i64 (0
    : Int)), AV.v (Value.int IntKind.u32 (0 : Int)), AV.v (Value.int IntKind.u32 (0 : Int))]) [some (Blk.row [AV.hs (1 : Nat) (qO t (qO t (qO t (qO t (qO t (qO t (qO t (qO t off (0 : Int))
    (0 : Int)) (0 : Int)) (0 : Int)) (0 : Int)) (0 : Int)) (0 : Int)) (0 : Int)) (ByteArray.size t - qO t (qO t (qO t (qO t (qO t (qO t (qO t (qO t off (0 : Int)) (0 : Int)) (0 : Int)) (0 :
    Int)) (0 : Int)) (0 : Int)) (0 : Int)) (0 : Int)), AV.v (Value.int IntKind.i64 (0 : Int))]), some (Blk.arr (1 : Nat) (ByteArray.size t) (bsF t))])) (Tree.leaf (Ans.mk (AV.agg [AV.v
    (Value.int IntKind.i64 (qN t off (0 : Int))), AV.v (Value.int IntKind.i64 (qN t (qO t off (0 : Int)) (0 : Int))), AV.v (Value.int IntKind.i64 (qN t (qO t (qO t off (0 : Int)) (0 : Int))
    (0 : Int))), AV.v (Value.int IntKind.i64 (qN t (qO t (qO t (qO t off (0 : Int)) (0 : Int)) (0 : Int)) (0 : Int))), AV.v (Value.int IntKind.i64 (qN t (qO t (qO t (qO t (qO t (qO t off (0
    : Int)) (0 : Int)) (0 : Int)) (0 : Int)) (0 : Int)) (0 : Int))), AV.v (Value.int IntKind.i64 (qN t (qO t (qO t (qO t (qO t (qO t (qO t off (0 : Int)) (0 : Int)) (0 : Int)) (0 : Int)) (0
    : Int)) (0 : Int)) (0 : Int))), AV.v (Value.int IntKind.u32 (IntKind.wrap IntKind.u32 (qN t (qO t (qO t (qO t (qO t off (0 : Int)) (0 : Int)) (0 : Int)) (0 : Int)) (0 : Int)))), AV.v
    (Value.int IntKind.u32 (IntKind.wrap IntKind.u32 (qN t (qO t (qO t (qO t (qO t (qO t (qO t (qO t off (0 : Int)) (0 : Int)) (0 : Int)) (0 : Int)) (0 : Int)) (0 : Int)) (0 : Int)) (0 :
    Int))))]) [some (Blk.row [AV.hs (1 : Nat) (qO t (qO t (qO t (qO t (qO t (qO t (qO t (qO t off (0 : Int)) (0 : Int)) (0 : Int)) (0 : Int)) (0 : Int)) (0 : Int)) (0 : Int)) (0 : Int))
    (ByteArray.size t - qO t (qO t (qO t (qO t (qO t (qO t (qO t (qO t off (0 : Int)) (0 : Int)) (0 : Int)) (0 : Int)) (0 : Int)) (0 : Int)) (0 : Int)) (0 : Int)), AV.v (Value.int
    IntKind.i64 (0 : Int))]), some (Blk.arr (1 : Nat) (ByteArray.size t) (bsF t))]))))))))) (Tree.chk true (Tree.br (!decide ((bif Ct.ok (Ct.mk (qN t off (0 : Int)) (qN t (qO t off (0 :
    Int)) (0 : Int)) (qN t (qO t (qO t off (0 : Int)) (0 : Int)) (0 : Int)) (qN t (qO t (qO t (qO t off (0 : Int)) (0 : Int)) (0 : Int)) (0 : Int)) (0 : Int) (0 : Int) (IntKind.wrap
    IntKind.u32 (qN t (qO t (qO t (qO t (qO t off (0 : Int)) (0 : Int)) (0 : Int)) (0 : Int)) (0 : Int))) (0 : Int)) then (0 : Int) else (110 : Int)) = (0 : Int))) Tree.fail (Tree.chk (cl
    (RX.ok t (RX.mk (qO t (qO t (qO t (qO t (qO t off (0 : Int)) (0 : Int)) (0 : Int)) (0 : Int)) (0 : Int)) (ByteArray.size t - qO t (qO t (qO t (qO t (qO t off (0 : Int)) (0 : Int)) (0 :
    Int)) (0 : Int)) (0 : Int)) (0 : Int) (ByteArray.size t) (bsF t))) && bif !decide (dE t (qO t (qO t (qO t (qO t (qO t off (0 : Int)) (0 : Int)) (0 : Int)) (0 : Int)) (0 : Int)) (0 : Int)
    = (0 : Int)) then cl (RX.ok t (RX.mk (qO t (qO t (qO t (qO t (qO t off (0 : Int)) (0 : Int)) (0 : Int)) (0 : Int)) (0 : Int)) (ByteArray.size t - qO t (qO t (qO t (qO t (qO t off (0 :
    Int)) (0 : Int)) (0 : Int)) (0 : Int)) (0 : Int)) (0 : Int) (ByteArray.size t) (bsF t))) else true) (Tree.br (bif !decide (dE t (qO t (qO t (qO t (qO t (qO t off (0 : Int)) (0 : Int)) (0
    : Int)) (0 : Int)) (0 : Int)) (0 : Int) = (0 : Int)) then !decide (dE t (qO t (qO t (qO t (qO t (qO t off (0 : Int)) (0 : Int)) (0 : Int)) (0 : Int)) (0 : Int)) (0 : Int) = (32 : Int))
    else false) (Tree.leaf (Ans.mk (AV.agg [AV.v (Value.int IntKind.i64 (0 : Int)), AV.v (Value.int IntKind.i64 (0 : Int)), AV.v (Value.int IntKind.i64 (0 : Int)), AV.v (Value.int
    IntKind.i64 (0 : Int)), AV.v (Value.int IntKind.i64 (0 : Int)), AV.v (Value.int IntKind.i64 (0 : Int)), AV.v (Value.int IntKind.u32 (0 : Int)), AV.v (Value.int IntKind.u32 (0 : Int))])
    [some (Blk.row [AV.hs (1 : Nat) (qO t (qO t (qO t (qO t (qO t off (0 : Int)) (0 : Int)) (0 : Int)) (0 : Int)) (0 : Int)) (ByteArray.size t - qO t (qO t (qO t (qO t (qO t off (0 : Int))
    (0 : Int)) (0 : Int)) (0 : Int)) (0 : Int)), AV.v (Value.int IntKind.i64 (0 : Int))]), some (Blk.arr (1 : Nat) (ByteArray.size t) (bsF t))])) (Tree.leaf (Ans.mk (AV.agg [AV.v (Value.int
    IntKind.i64 (qN t off (0 : Int))), AV.v (Value.int IntKind.i64 (qN t (qO t off (0 : Int)) (0 : Int))), AV.v (Value.int IntKind.i64 (qN t (qO t (qO t off (0 : Int)) (0 : Int)) (0 :
    Int))), AV.v (Value.int IntKind.i64 (qN t (qO t (qO t (qO t off (0 : Int)) (0 : Int)) (0 : Int)) (0 : Int))), AV.v (Value.int IntKind.i64 (0 : Int)), AV.v (Value.int IntKind.i64 (0 :
    Int)), AV.v (Value.int IntKind.u32 (IntKind.wrap IntKind.u32 (qN t (qO t (qO t (qO t (qO t off (0 : Int)) (0 : Int)) (0 : Int)) (0 : Int)) (0 : Int)))), AV.v (Value.int IntKind.u32 (0 :
    Int))]) [some (Blk.row [AV.hs (1 : Nat) (qO t (qO t (qO t (qO t (qO t off (0 : Int)) (0 : Int)) (0 : Int)) (0 : Int)) (0 : Int)) (ByteArray.size t - qO t (qO t (qO t (qO t (qO t off (0 :
    Int)) (0 : Int)) (0 : Int)) (0 : Int)) (0 : Int)), AV.v (Value.int IntKind.i64 (0 : Int))]), some (Blk.arr (1 : Nat) (ByteArray.size t) (bsF t))]))))))))))) (Tree.br (decide (qN t off (0
    : Int) = (2 : Int))) (Tree.chk (cl (NX.ok t (NX.mk (3 : Int) (qO t off (0 : Int)) (ByteArray.size t - qO t off (0 : Int)) (ByteArray.size t) (bsF t)))) (Tree.chk (cl (NX.ok t (NX.mk (9 :
    Int) (qO t (qO t off (0 : Int)) (0 : Int)) (ByteArray.size t - qO t (qO t off (0 : Int)) (0 : Int)) (ByteArray.size t) (bsF t)))) (Tree.chk (cl (NX.ok t (NX.mk (1023 : Int) (qO t (qO t
    (qO t off (0 : Int)) (0 : Int)) (0 : Int)) (ByteArray.size t - qO t (qO t (qO t off (0 : Int)) (0 : Int)) (0 : Int)) (ByteArray.size t) (bsF t)))) (Tree.chk true (Tree.br (!decide ((bif
    Ct.ok (Ct.mk (qN t off (0 : Int)) (0 : Int) (0 : Int) (0 : Int) (qN t (qO t off (0 : Int)) (0 : Int)) (qN t (qO t (qO t off (0 : Int)) (0 : Int)) (0 : Int)) (0 : Int) (IntKind.wrap
    IntKind.u32 (qN t (qO t (qO t (qO t off (0 : Int)) (0 : Int)) (0 : Int)) (0 : Int)))) then (0 : Int) else (110 : Int)) = (0 : Int))) Tree.fail (Tree.chk (cl (RX.ok t (RX.mk (qO t (qO t
    (qO t (qO t off (0 : Int)) (0 : Int)) (0 : Int)) (0 : Int)) (ByteArray.size t - qO t (qO t (qO t (qO t off (0 : Int)) (0 : Int)) (0 : Int)) (0 : Int)) (0 : Int) (ByteArray.size t) (bsF
    t))) && bif !decide (dE t (qO t (qO t (qO t (qO t off (0 : Int)) (0 : Int)) (0 : Int)) (0 : Int)) (0 : Int) = (0 : Int)) then cl (RX.ok t (RX.mk (qO t (qO t (qO t (qO t off (0 : Int)) (0
    : Int)) (0 : Int)) (0 : Int)) (ByteArray.size t - qO t (qO t (qO t (qO t off (0 : Int)) (0 : Int)) (0 : Int)) (0 : Int)) (0 : Int) (ByteArray.size t) (bsF t))) else true) (Tree.br (bif
    !decide (dE t (qO t (qO t (qO t (qO t off (0 : Int)) (0 : Int)) (0 : Int)) (0 : Int)) (0 : Int) = (0 : Int)) then !decide (dE t (qO t (qO t (qO t (qO t off (0 : Int)) (0 : Int)) (0 :
    Int)) (0 : Int)) (0 : Int) = (32 : Int)) else false) (Tree.leaf (Ans.mk (AV.agg [AV.v (Value.int IntKind.i64 (0 : Int)), AV.v (Value.int IntKind.i64 (0 : Int)), AV.v (Value.int
    IntKind.i64 (0 : Int)), AV.v (Value.int IntKind.i64 (0 : Int)), AV.v (Value.int IntKind.i64 (0 : Int)), AV.v (Value.int IntKind.i64 (0 : Int)), AV.v (Value.int IntKind.u32 (0 : Int)),
    AV.v (Value.int IntKind.u32 (0 : Int))]) [some (Blk.row [AV.hs (1 : Nat) (qO t (qO t (qO t (qO t off (0 : Int)) (0 : Int)) (0 : Int)) (0 : Int)) (ByteArray.size t - qO t (qO t (qO t (qO
    t off (0 : Int)) (0 : Int)) (0 : Int)) (0 : Int)), AV.v (Value.int IntKind.i64 (0 : Int))]), some (Blk.arr (1 : Nat) (ByteArray.size t) (bsF t))])) (Tree.leaf (Ans.mk (AV.agg [AV.v
    (Value.int IntKind.i64 (qN t off (0 : Int))), AV.v (Value.int IntKind.i64 (0 : Int)), AV.v (Value.int IntKind.i64 (0 : Int)), AV.v (Value.int IntKind.i64 (0 : Int)), AV.v (Value.int
    IntKind.i64 (qN t (qO t off (0 : Int)) (0 : Int))), AV.v (Value.int IntKind.i64 (qN t (qO t (qO t off (0 : Int)) (0 : Int)) (0 : Int))), AV.v (Value.int IntKind.u32 (0 : Int)), AV.v
    (Value.int IntKind.u32 (IntKind.wrap IntKind.u32 (qN t (qO t (qO t (qO t off (0 : Int)) (0 : Int)) (0 : Int)) (0 : Int))))]) [some (Blk.row [AV.hs (1 : Nat) (qO t (qO t (qO t (qO t off
    (0 : Int)) (0 : Int)) (0 : Int)) (0 : Int)) (ByteArray.size t - qO t (qO t (qO t (qO t off (0 : Int)) (0 : Int)) (0 : Int)) (0 : Int)), AV.v (Value.int IntKind.i64 (0 : Int))]), some
    (Blk.arr (1 : Nat) (ByteArray.size t) (bsF t))]))))))))) (Tree.chk true (Tree.br (!decide ((bif Ct.ok (Ct.mk (qN t off (0 : Int)) (0 : Int) (0 : Int) (0 : Int) (0 : Int) (0 : Int) (0 :
    Int) (0 : Int)) then (0 : Int) else (110 : Int)) = (0 : Int))) Tree.fail (Tree.chk (cl (RX.ok t (RX.mk (qO t off (0 : Int)) (ByteArray.size t - qO t off (0 : Int)) (0 : Int)
    (ByteArray.size t) (bsF t))) && bif !decide (dE t (qO t off (0 : Int)) (0 : Int) = (0 : Int)) then cl (RX.ok t (RX.mk (qO t off (0 : Int)) (ByteArray.size t - qO t off (0 : Int)) (0 :
    Int) (ByteArray.size t) (bsF t))) else true) (Tree.br (bif !decide (dE t (qO t off (0 : Int)) (0 : Int) = (0 : Int)) then !decide (dE t (qO t off (0 : Int)) (0 : Int) = (32 : Int)) else
    false) (Tree.leaf (Ans.mk (AV.agg [AV.v (Value.int IntKind.i64 (0 : Int)), AV.v (Value.int IntKind.i64 (0 : Int)), AV.v (Value.int IntKind.i64 (0 : Int)), AV.v (Value.int IntKind.i64 (0
    : Int)), AV.v (Value.int IntKind.i64 (0 : Int)), AV.v (Value.int IntKind.i64 (0 : Int)), AV.v (Value.int IntKind.u32 (0 : Int)), AV.v (Value.int IntKind.u32 (0 : Int))]) [some (Blk.row
    [AV.hs (1 : Nat) (qO t off (0 : Int)) (ByteArray.size t - qO t off (0 : Int)), AV.v (Value.int IntKind.i64 (0 : Int))]), some (Blk.arr (1 : Nat) (ByteArray.size t) (bsF t))])) (Tree.leaf
    (Ans.mk (AV.agg [AV.v (Value.int IntKind.i64 (qN t off (0 : Int))), AV.v (Value.int IntKind.i64 (0 : Int)), AV.v (Value.int IntKind.i64 (0 : Int)), AV.v (Value.int IntKind.i64 (0 :
    Int)), AV.v (Value.int IntKind.i64 (0 : Int)), AV.v (Value.int IntKind.i64 (0 : Int)), AV.v (Value.int IntKind.u32 (0 : Int)), AV.v (Value.int IntKind.u32 (0 : Int))]) [some (Blk.row
    [AV.hs (1 : Nat) (qO t off (0 : Int)) (ByteArray.size t - qO t off (0 : Int)), AV.v (Value.int IntKind.i64 (0 : Int))]), some (Blk.arr (1 : Nat) (ByteArray.size t) (bsF t))])))))))) := by kernel_rfl
end Go.Eng.SB.R

namespace Go.Eng.SB.R
open Go Go.Eng Go.Eng.M Go.Eng.RD Go.Eng.SB Go.Lib Go.Proofs
def At (t : ByteArray) (off : Nat) (w : ByteArray) : Prop := off + w.size ≤ t.size ∧ ∀ j, j < w.size → bN t (off + j) = bN w j
theorem bN_app (a b : ByteArray) (j : Nat) : bN (a ++ b) j = if j < a.size then bN a j else bN b (j - a.size) := by
  have := sbyte_append a b j
  have e : ∀ (s : ByteArray) (i : Nat), sbyte s i = ((bN s i : Nat) : Int) := fun _ _ => rfl
  simp only [e] at this
  by_cases h : j < a.size
  · rw [if_pos h] at this ⊢; omega
  · rw [if_neg h] at this ⊢; omega
theorem At.left {t a b : ByteArray} {off : Nat} (h : At t off (a ++ b)) : At t off a := by
  obtain ⟨h1, h2⟩ := h
  rw [ByteArray.size_append] at h1
  refine ⟨by omega, fun j hj => ?_⟩
  rw [h2 j (by rw [ByteArray.size_append]; omega), bN_app, if_pos hj]
theorem At.right {t a b : ByteArray} {off : Nat} (h : At t off (a ++ b)) : At t (off + a.size) b := by
  obtain ⟨h1, h2⟩ := h
  rw [ByteArray.size_append] at h1
  refine ⟨by omega, fun j hj => ?_⟩
  have := h2 (a.size + j) (by rw [ByteArray.size_append]; omega)
  rw [bN_app, if_neg (by omega), show a.size + j - a.size = j by omega] at this
  rw [← this]; congr 1; omega
theorem At.pre (b rest : ByteArray) : At (b ++ rest) 0 b := by
  refine ⟨by rw [ByteArray.size_append]; omega, fun j hj => ?_⟩
  rw [Nat.zero_add, bN_app, if_pos hj]
theorem At.ext {t w : ByteArray} {off : Nat} (h : At t off w) : t.extract off (off + w.size) = w := by
  obtain ⟨h1, h2⟩ := h
  refine bN_eq (by rw [ext_size _ _ _ h1]; omega) (fun j hj => ?_)
  rw [ext_size _ _ _ h1] at hj
  rw [bN_extract _ _ _ _ h1, if_pos (by omega), h2 j (by omega)]
theorem At.num {t : ByteArray} {off n : Nat} (h : At t off (numB n)) (hn : n ≤ 4611686018427387904) : qN t off 0 = (n : Int) ∧ qO t off 0 = off + (numB n).size ∧ qE t off 0 = 0 := by
  obtain ⟨h1, h2⟩ := h
  have hs := (numB_size hn).1
  obtain ⟨i, e1, g, e2⟩ := numB_good n t off fun j hj => by
    show ((bN t (off + j) : Nat) : Int) = ((bN (numB n) j : Nat) : Int)
    rw [h2 j hj]
  have hg : IsGood t off (t.size - off) i := ⟨by omega, by omega, g, by omega⟩
  obtain ⟨a1, a2, a3⟩ := q_good hg
  rw [a1, a2, a3, e2, e1]
  exact ⟨rfl, rfl, rfl⟩
theorem At.cat {t : ByteArray} {g : Nat → Int} {off : Nat} : ∀ {n : Nat}, At t off (catN g n) → ∀ i, i < n → At t (off + (catN g i).size) (numB (g i).toNat)
  | n + 1, h, i, hi => by
    have h' : At t off (catN g n ++ numB (g n).toNat) := h
    rcases Nat.lt_succ_iff_lt_or_eq.1 hi with hl | rfl
    · exact h'.left.cat i hl
    · exact h'.right
def Reads (t : ByteArray) (g : Nat → Int) (p : Nat → Nat) (n : Nat) : Prop := ∀ i, i < n → qN t (p i) 0 = g i ∧ qO t (p i) 0 = p (i + 1) ∧ qE t (p i) 0 = 0
theorem At.reads {t : ByteArray} {g : Nat → Int} {n : Nat} (h : At t 0 (catN g n)) (hg : ∀ i, i < n → 0 ≤ g i ∧ g i ≤ 4611686018427387904) : Reads t g (fun i => (catN g i).size) n := by
  intro i hi
  obtain ⟨h1, h2⟩ := hg i hi
  have := h.cat i hi
  rw [Nat.zero_add] at this
  obtain ⟨a1, a2, a3⟩ := this.num (by omega)
  refine ⟨by rw [a1]; omega, ?_, a3⟩
  rw [a2]
  show _ = (catN g i ++ numB (g i).toNat).size
  rw [ByteArray.size_append]
theorem dE_ok {t : ByteArray} {off : Nat} : dE t off 0 = 0 ∨ dE t off 0 = 32 := by
  unfold dE
  split
  · exact .inr rfl
  · exact .inl rfl
theorem wrapU {n : Int} (h : 0 ≤ n) (h' : n < 4294967296) : IntKind.u32.wrap n = n := by
  show n % 4294967296 = n
  omega
theorem nx_ok {t : ByteArray} {off : Nat} {m : Int} (he : qE t off 0 = 0) (hm : qN t off 0 ≤ m) : cl (NX.ok t ⟨m, off, t.size - off, t.size, bsF t⟩) = true := cl_iff.2 ⟨rfl, rfl, rfl, he, hm⟩
theorem rx_ok {t : ByteArray} {off : Nat} {e : Int} : cl (RX.ok t ⟨off, t.size - off, e, t.size, bsF t⟩) = true := cl_iff.2 ⟨rfl, rfl, rfl⟩
theorem ok_nil {x : Ct} (h : x.ok = true) (hk : x.k = 0) : x = ⟨0, 0, 0, 0, 0, 0, 0, 0⟩ := by
  obtain ⟨k, b, v, r, h', a, s, c⟩ := x
  simp only at hk
  subst hk
  simp only [Ct.ok, decide_true, cond_true, Bool.and_eq_true, decide_eq_true_eq] at h
  obtain ⟨⟨⟨⟨⟨⟨h1, h2⟩, h3⟩, h4⟩, h5⟩, h6⟩, h7⟩ := h
  subst h1; subst h2; subst h3; subst h4; subst h5; subst h6; subst h7
  rfl
def AnsT (t : ByteArray) (x : Ct) (o : Nat) : Prop := Answers Try.prog Γb 43 [.ptr 0 0] (rdb t 0 0) x.av ((rdb t o 0).map some) []
theorem setOk_range {n : Int} (h : setOk n = true) : True := trivial
theorem take0 {t : ByteArray} (hz : t.size ≤ 1000000000000) {x : Ct} (hok : x.ok = true) (hk : x.k = 0) {p : Nat → Nat} (hp : p 0 = 0) (hr : Reads t (gC x) p 1) : AnsT t x (p 1) := answers (fn := Try.f43) (c := bodyOf Try.f43) (ntmps := 53) (results := [.cell 2 75]) [Z.c93, hNx t hz, hDn t] Lno false Try.func43 (by kernel_rfl) (by kernel_rfl) (by kernel_rfl) (by kernel_rfl) (by simp) rfl (noLoops (by kernel_rfl)) (by
  refine Meets.of (runTk t hz 0) ?_
  obtain ⟨n0, o0, e0⟩ := hr 0 (by omega)
  rw [hp] at n0 o0 e0
  have g0 : gC x 0 = 0 := hk
  rw [g0] at n0
  have hx := ok_nil hok hk
  have c0 := nx_ok (m := 2) e0 (by rw [n0]; decide)
  subst hx
  simp only [o0, n0, rx_ok, hok, c0]
  generalize p 1 = o
  rcases dE_ok (t := t) (off := o) with hd | hd
  · repeat' (first | refine wC (by first | omega | (simp only [W1, cond_true, cond_false, hd]; first | done | omega)) ?_ | refine wT (by first | omega | (simp only [W1, cond_true, cond_false, hd]; first | done | omega)) ?_ | refine wF (by intro _h; first | omega | (simp only [W1, cond_true, cond_false, hd] at _h; first | done | omega)) ?_ | (refine wS ?_ ?_ <;> intro _h <;> simp only [W1, cond_true, cond_false, hd] at _h))
    all_goals simp only [or_true, true_or, false_or, or_false, and_false, false_and, cond_true, cond_false, Bool.not_true, Bool.not_false, Bool.false_eq_true, Bool.true_eq_false, not_true_eq_false, not_false_eq_true, false_implies, true_implies, implies_true, Nat.blt_eq, owesN, owesX, owesR, notT, sat_brT, sat_brF, sat_chkT, cl_iff, cl_false, AV.le_refl, AV.le_any, OLe_refl, OLe_none, sat_brN, Tree.sat_chk, Tree.sat_leaf, Tree.sat_fail, Nat.zero_add, Nat.sub_zero, Int.toNat_natCast, LeH_cons, LeH_nil, LeL_cons, LeL_nil, and_true, true_and, Bool.and_eq_true, Bool.or_eq_true, decide_eq_true_eq, decide_eq_false_iff_not, Bool.cond_true_left, Bool.cond_false_right, List.cons_append, List.nil_append, List.map_cons, List.map_nil, hd]
    repeat' (first | apply And.intro | intro _hc)
    all_goals first | exact AV.le_refl _ | exact AV.le_any _ | exact OLe.refl _ | exact OLe.none _ | exact LeH.refl _ | exact LeL.refl _ | exact AV.le.bs _ | exact AV.le.sb _ | omega | contradiction
  · repeat' (first | refine wC (by first | omega | (simp only [W1, cond_true, cond_false, hd]; first | done | omega)) ?_ | refine wT (by first | omega | (simp only [W1, cond_true, cond_false, hd]; first | done | omega)) ?_ | refine wF (by intro _h; first | omega | (simp only [W1, cond_true, cond_false, hd] at _h; first | done | omega)) ?_ | (refine wS ?_ ?_ <;> intro _h <;> simp only [W1, cond_true, cond_false, hd] at _h))
    all_goals simp only [or_true, true_or, false_or, or_false, and_false, false_and, cond_true, cond_false, Bool.not_true, Bool.not_false, Bool.false_eq_true, Bool.true_eq_false, not_true_eq_false, not_false_eq_true, false_implies, true_implies, implies_true, Nat.blt_eq, owesN, owesX, owesR, notT, sat_brT, sat_brF, sat_chkT, cl_iff, cl_false, AV.le_refl, AV.le_any, OLe_refl, OLe_none, sat_brN, Tree.sat_chk, Tree.sat_leaf, Tree.sat_fail, Nat.zero_add, Nat.sub_zero, Int.toNat_natCast, LeH_cons, LeH_nil, LeL_cons, LeL_nil, and_true, true_and, Bool.and_eq_true, Bool.or_eq_true, decide_eq_true_eq, decide_eq_false_iff_not, Bool.cond_true_left, Bool.cond_false_right, List.cons_append, List.nil_append, List.map_cons, List.map_nil, hd]
    repeat' (first | apply And.intro | intro _hc)
    all_goals first | exact AV.le_refl _ | exact AV.le_any _ | exact OLe.refl _ | exact OLe.none _ | exact LeH.refl _ | exact LeL.refl _ | exact AV.le.bs _ | exact AV.le.sb _ | omega | contradiction
  )
theorem ge_dec {a b : Int} (h : a = b) : decide (a = b) = true := decide_eq_true h
theorem take1 {t : ByteArray} (hz : t.size ≤ 1000000000000) {x : Ct} (hw : x.wide) (hok : x.ok = true) (hk : x.k = 1) (hf : x.wf = true) (hh : x.h = 0) (ha : x.a = 0) (hc : x.c = 0) (hs : x.s ≤ 1023) {p : Nat → Nat} (hp : p 0 = 0) (hr : Reads t (gC x) p 5) : AnsT t x (p 5) := answers (fn := Try.f43) (c := bodyOf Try.f43) (ntmps := 53) (results := [.cell 2 75]) [Z.c93, hNx t hz, hDn t] Lno false Try.func43 (by kernel_rfl) (by kernel_rfl) (by kernel_rfl) (by kernel_rfl) (by simp) rfl (noLoops (by kernel_rfl)) (by
  refine Meets.of (runTk t hz 0) ?_
  obtain ⟨b1, b2, v1, v2, r1, r2⟩ := wf_nums hf
  obtain ⟨s1, s2, _, _⟩ := hw
  obtain ⟨n0, o0, e0⟩ := hr 0 (by omega)
  obtain ⟨n1, o1, e1⟩ := hr 1 (by omega)
  obtain ⟨n2, o2, e2⟩ := hr 2 (by omega)
  obtain ⟨n3, o3, e3⟩ := hr 3 (by omega)
  obtain ⟨n4, o4, e4⟩ := hr 4 (by omega)
  rw [hp] at n0 o0 e0
  have g0 : gC x 0 = 1 := hk
  have g1 : gC x 1 = x.b := rfl
  have g2 : gC x 2 = x.v := rfl
  have g3 : gC x 3 = x.r := rfl
  have g4 : gC x 4 = x.s := rfl
  rw [g0] at n0; rw [g1] at n1; rw [g2] at n2; rw [g3] at n3; rw [g4] at n4
  have w4 := wrapU s1 s2
  have c0 := nx_ok (m := 2) e0 (by rw [n0]; decide)
  have c1 := nx_ok (m := 2147483647) e1 (by rw [n1]; exact b2)
  have c2 := nx_ok (m := 1048576) e2 (by rw [n2]; exact v2)
  have c3 := nx_ok (m := 1073741824) e3 (by rw [n3]; exact r2)
  have c4 := nx_ok (m := 1023) e4 (by rw [n4]; exact hs)
  obtain ⟨k, b, v, r, h, a, s, c⟩ := x
  simp only at hk hh ha hc n1 n2 n3 n4 w4
  subst hk; subst hh; subst ha; subst hc
  simp only [o0, n0, o1, n1, o2, n2, o3, n3, o4, n4, rx_ok, w4, hok, c0, c1, c2, c3, c4]
  generalize p (4 + 1) = o
  rcases dE_ok (t := t) (off := o) with hd | hd
  · repeat' (first | refine wC (by first | omega | (simp only [W1, cond_true, cond_false, hd]; first | done | omega)) ?_ | refine wT (by first | omega | (simp only [W1, cond_true, cond_false, hd]; first | done | omega)) ?_ | refine wF (by intro _h; first | omega | (simp only [W1, cond_true, cond_false, hd] at _h; first | done | omega)) ?_ | (refine wS ?_ ?_ <;> intro _h <;> simp only [W1, cond_true, cond_false, hd] at _h))
    all_goals simp only [or_true, true_or, false_or, or_false, and_false, false_and, cond_true, cond_false, Bool.not_true, Bool.not_false, Bool.false_eq_true, Bool.true_eq_false, not_true_eq_false, not_false_eq_true, false_implies, true_implies, implies_true, Nat.blt_eq, owesN, owesX, owesR, notT, sat_brT, sat_brF, sat_chkT, cl_iff, cl_false, AV.le_refl, AV.le_any, OLe_refl, OLe_none, sat_brN, Tree.sat_chk, Tree.sat_leaf, Tree.sat_fail, Nat.zero_add, Nat.sub_zero, Int.toNat_natCast, LeH_cons, LeH_nil, LeL_cons, LeL_nil, and_true, true_and, Bool.and_eq_true, Bool.or_eq_true, decide_eq_true_eq, decide_eq_false_iff_not, Bool.cond_true_left, Bool.cond_false_right, List.cons_append, List.nil_append, List.map_cons, List.map_nil, hd]
    repeat' (first | apply And.intro | intro _hc)
    all_goals first | exact AV.le_refl _ | exact AV.le_any _ | exact OLe.refl _ | exact OLe.none _ | exact LeH.refl _ | exact LeL.refl _ | exact AV.le.bs _ | exact AV.le.sb _ | omega | contradiction
  · repeat' (first | refine wC (by first | omega | (simp only [W1, cond_true, cond_false, hd]; first | done | omega)) ?_ | refine wT (by first | omega | (simp only [W1, cond_true, cond_false, hd]; first | done | omega)) ?_ | refine wF (by intro _h; first | omega | (simp only [W1, cond_true, cond_false, hd] at _h; first | done | omega)) ?_ | (refine wS ?_ ?_ <;> intro _h <;> simp only [W1, cond_true, cond_false, hd] at _h))
    all_goals simp only [or_true, true_or, false_or, or_false, and_false, false_and, cond_true, cond_false, Bool.not_true, Bool.not_false, Bool.false_eq_true, Bool.true_eq_false, not_true_eq_false, not_false_eq_true, false_implies, true_implies, implies_true, Nat.blt_eq, owesN, owesX, owesR, notT, sat_brT, sat_brF, sat_chkT, cl_iff, cl_false, AV.le_refl, AV.le_any, OLe_refl, OLe_none, sat_brN, Tree.sat_chk, Tree.sat_leaf, Tree.sat_fail, Nat.zero_add, Nat.sub_zero, Int.toNat_natCast, LeH_cons, LeH_nil, LeL_cons, LeL_nil, and_true, true_and, Bool.and_eq_true, Bool.or_eq_true, decide_eq_true_eq, decide_eq_false_iff_not, Bool.cond_true_left, Bool.cond_false_right, List.cons_append, List.nil_append, List.map_cons, List.map_nil, hd]
    repeat' (first | apply And.intro | intro _hc)
    all_goals first | exact AV.le_refl _ | exact AV.le_any _ | exact OLe.refl _ | exact OLe.none _ | exact LeH.refl _ | exact LeL.refl _ | exact AV.le.bs _ | exact AV.le.sb _ | omega | contradiction
  )
theorem take2 {t : ByteArray} (hz : t.size ≤ 1000000000000) {x : Ct} (hw : x.wide) (hok : x.ok = true) (hk : x.k = 2) (hf : x.wf = true) (h1 : 1 ≤ x.h) (h2 : x.h ≤ 3) (h3 : 0 ≤ x.a) (h4 : x.a ≤ 9) (hs : x.s ≤ 1023) (hc : x.c ≤ 1023) {p : Nat → Nat} (hp : p 0 = 0) (hr : Reads t (gC x) p 8) : AnsT t x (p 8) := answers (fn := Try.f43) (c := bodyOf Try.f43) (ntmps := 53) (results := [.cell 2 75]) [Z.c93, hNx t hz, hDn t] Lno false Try.func43 (by kernel_rfl) (by kernel_rfl) (by kernel_rfl) (by kernel_rfl) (by simp) rfl (noLoops (by kernel_rfl)) (by
  refine Meets.of (runTk t hz 0) ?_
  obtain ⟨b1, b2, v1, v2, r1, r2⟩ := wf_nums hf
  obtain ⟨s1, s2, y1, y2⟩ := hw
  obtain ⟨n0, o0, e0⟩ := hr 0 (by omega)
  obtain ⟨n1, o1, e1⟩ := hr 1 (by omega)
  obtain ⟨n2, o2, e2⟩ := hr 2 (by omega)
  obtain ⟨n3, o3, e3⟩ := hr 3 (by omega)
  obtain ⟨n4, o4, e4⟩ := hr 4 (by omega)
  obtain ⟨n5, o5, e5⟩ := hr 5 (by omega)
  obtain ⟨n6, o6, e6⟩ := hr 6 (by omega)
  obtain ⟨n7, o7, e7⟩ := hr 7 (by omega)
  rw [hp] at n0 o0 e0
  have g0 : gC x 0 = 2 := hk
  have g1 : gC x 1 = x.b := rfl
  have g2 : gC x 2 = x.v := rfl
  have g3 : gC x 3 = x.r := rfl
  have g4 : gC x 4 = x.s := rfl
  have g5 : gC x 5 = x.h := rfl
  have g6 : gC x 6 = x.a := rfl
  have g7 : gC x 7 = x.c := rfl
  rw [g0] at n0; rw [g1] at n1; rw [g2] at n2; rw [g3] at n3; rw [g4] at n4; rw [g5] at n5; rw [g6] at n6; rw [g7] at n7
  have w4 := wrapU s1 s2
  have w7 := wrapU y1 y2
  have c0 := nx_ok (m := 2) e0 (by rw [n0]; decide)
  have c1 := nx_ok (m := 2147483647) e1 (by rw [n1]; exact b2)
  have c2 := nx_ok (m := 1048576) e2 (by rw [n2]; exact v2)
  have c3 := nx_ok (m := 1073741824) e3 (by rw [n3]; exact r2)
  have c4 := nx_ok (m := 1023) e4 (by rw [n4]; exact hs)
  have c5 := nx_ok (m := 3) e5 (by rw [n5]; exact h2)
  have c6 := nx_ok (m := 9) e6 (by rw [n6]; exact h4)
  have c7 := nx_ok (m := 1023) e7 (by rw [n7]; exact hc)
  obtain ⟨k, b, v, r, h, a, s, c⟩ := x
  simp only at hk n1 n2 n3 n4 n5 n6 n7 w4 w7
  subst hk
  simp only [o0, n0, o1, n1, o2, n2, o3, n3, o4, n4, o5, n5, o6, n6, o7, n7, rx_ok, w4, w7, hok, c0, c1, c2, c3, c4, c5, c6, c7]
  generalize p (7 + 1) = o
  rcases dE_ok (t := t) (off := o) with hd | hd
  · repeat' (first | refine wC (by first | omega | (simp only [W1, cond_true, cond_false, hd]; first | done | omega)) ?_ | refine wT (by first | omega | (simp only [W1, cond_true, cond_false, hd]; first | done | omega)) ?_ | refine wF (by intro _h; first | omega | (simp only [W1, cond_true, cond_false, hd] at _h; first | done | omega)) ?_ | (refine wS ?_ ?_ <;> intro _h <;> simp only [W1, cond_true, cond_false, hd] at _h))
    all_goals simp only [or_true, true_or, false_or, or_false, and_false, false_and, cond_true, cond_false, Bool.not_true, Bool.not_false, Bool.false_eq_true, Bool.true_eq_false, not_true_eq_false, not_false_eq_true, false_implies, true_implies, implies_true, Nat.blt_eq, owesN, owesX, owesR, notT, sat_brT, sat_brF, sat_chkT, cl_iff, cl_false, AV.le_refl, AV.le_any, OLe_refl, OLe_none, sat_brN, Tree.sat_chk, Tree.sat_leaf, Tree.sat_fail, Nat.zero_add, Nat.sub_zero, Int.toNat_natCast, LeH_cons, LeH_nil, LeL_cons, LeL_nil, and_true, true_and, Bool.and_eq_true, Bool.or_eq_true, decide_eq_true_eq, decide_eq_false_iff_not, Bool.cond_true_left, Bool.cond_false_right, List.cons_append, List.nil_append, List.map_cons, List.map_nil, hd]
    repeat' (first | apply And.intro | intro _hc)
    all_goals first | exact AV.le_refl _ | exact AV.le_any _ | exact OLe.refl _ | exact OLe.none _ | exact LeH.refl _ | exact LeL.refl _ | exact AV.le.bs _ | exact AV.le.sb _ | omega | contradiction
  · repeat' (first | refine wC (by first | omega | (simp only [W1, cond_true, cond_false, hd]; first | done | omega)) ?_ | refine wT (by first | omega | (simp only [W1, cond_true, cond_false, hd]; first | done | omega)) ?_ | refine wF (by intro _h; first | omega | (simp only [W1, cond_true, cond_false, hd] at _h; first | done | omega)) ?_ | (refine wS ?_ ?_ <;> intro _h <;> simp only [W1, cond_true, cond_false, hd] at _h))
    all_goals simp only [or_true, true_or, false_or, or_false, and_false, false_and, cond_true, cond_false, Bool.not_true, Bool.not_false, Bool.false_eq_true, Bool.true_eq_false, not_true_eq_false, not_false_eq_true, false_implies, true_implies, implies_true, Nat.blt_eq, owesN, owesX, owesR, notT, sat_brT, sat_brF, sat_chkT, cl_iff, cl_false, AV.le_refl, AV.le_any, OLe_refl, OLe_none, sat_brN, Tree.sat_chk, Tree.sat_leaf, Tree.sat_fail, Nat.zero_add, Nat.sub_zero, Int.toNat_natCast, LeH_cons, LeH_nil, LeL_cons, LeL_nil, and_true, true_and, Bool.and_eq_true, Bool.or_eq_true, decide_eq_true_eq, decide_eq_false_iff_not, Bool.cond_true_left, Bool.cond_false_right, List.cons_append, List.nil_append, List.map_cons, List.map_nil, hd]
    repeat' (first | apply And.intro | intro _hc)
    all_goals first | exact AV.le_refl _ | exact AV.le_any _ | exact OLe.refl _ | exact OLe.none _ | exact LeH.refl _ | exact LeL.refl _ | exact AV.le.bs _ | exact AV.le.sb _ | omega | contradiction
  )
end Go.Eng.SB.R

namespace Go.Eng.SB.B
open Go Go.Eng Go.Eng.SB Go.Eng.SB.R Go.Eng.RD Go.Lib Go.Proofs
structure En where
  num : Int
  kind : Int
  bytes : ByteArray
instance : Inhabited En := ⟨⟨0, 0, ⟨#[]⟩⟩⟩
def En.c (x : En) : List AV := [.v (.int .i64 x.num), .v (.int .i64 x.kind), .v (.string x.bytes)]
def En.cells (x : En) : List Value := [.int .i64 x.num, .int .i64 x.kind, .string x.bytes]
theorem En.cod : Cod En.c 3 := ⟨fun _ => rfl, fun b x y => by cases b <;> rfl⟩
theorem En.dec (vs : List Value) (h0 : GoodVs [.int .i64, .int .i64, .str] vs) : ∃ a : En, vs = a.cells := by
  obtain ⟨_, _, rfl, ⟨a0, rfl, _⟩, h1⟩ := h0.cons
  obtain ⟨_, _, rfl, ⟨a1, rfl, _⟩, h2⟩ := h1.cons
  obtain ⟨_, _, rfl, ⟨a2, rfl, _⟩, h3⟩ := h2.cons
  obtain rfl := h3.nil
  exact ⟨⟨a0, a1, a2⟩, rfl⟩
abbrev En.ks : List Cel := [.int .i64, .int .i64, .str]
def En.av (x : En) : AV := .agg (En.c x)
theorem wN {α : Type} {Q : α → Prop} {c : Bool} {t e : Tree α} (h : c = false) (he : e.sat Q) : (Tree.br c t e).sat Q := ⟨fun q => by rw [h] at q; exact absurd q (by decide), fun _ => he⟩
def gL (x : En) : Nat → Int
  | 0 => x.num
  | 1 => x.kind
  | _ => 0
def En.w1 (x : En) : Prop := ¬ x.num < 1 ∧ ¬ 4611686018427387904 < x.num ∧ (x.kind = 1 ∨ x.kind = 2)
def En.w2 (x : En) : Prop := x.bytes.size ≤ 4194304
def inB (x : En) : ByteArray := catN (gL x) 2 ++ x.bytes
def lineB (x : En) : ByteArray := dressB (inB x) ++ ⟨#[0]⟩
structure LR where
  t : ByteArray
  e : Int
open Classical in
noncomputable def lnR (x : En) : LR := if x.w1 then if x.w2 then ⟨lineB x, 0⟩ else ⟨⟨#[]⟩, 2⟩ else ⟨⟨#[]⟩, 1⟩
def NumsOK (x : En) : Prop := Answers Try.prog Γb 82 [.hs 0 0 2] [.arr 1 2 (i64F (gL x))] (.tup [.hs 1 0 (catN (gL x) 2).size, .v (.int .i64 0)]) [some (.arr 1 2 (i64F (gL x)))] [.arr 1 (catN (gL x) 2).size (bsF (catN (gL x) 2))]
theorem runLn (x : En) (h : NumsOK x) : bodyE (P := Try.prog) (Γ := Γb) [CT.at 82 h, kDr] Lno false 44 [.tmp 2, .tmp 3] (bodyOf Try.f26) [x.av] [] =
  Tree.br (bif decide (x.num < (1 : Int)) then true else decide ((4611686018427387904 : Int) < x.num)) (Tree.br (bif decide (x.num < (1 : Int)) then true else decide ((4611686018427387904 :
    Int) < x.num)) (Tree.leaf (Ans.mk (AV.tup [AV.v (Value.string (ByteArray.mk #[])), AV.v (Value.int IntKind.i64 (1 : Int))]) [])) (Tree.br (decide ((4194304 : Int) < (↑(ByteArray.size
    x.bytes) : Int))) (Tree.leaf (Ans.mk (AV.tup [AV.v (Value.string (ByteArray.mk #[])), AV.v (Value.int IntKind.i64 (2 : Int))]) [])) (Tree.chk (cl (LeL [AV.hs (0 : Nat) (0 : Nat) (2 :
    Nat)] [AV.hs (0 : Nat) (0 : Nat) (2 : Nat)] ∧ LeH [some (Blk.arr (1 : Nat) (2 : Nat) fun x_1 => [AV.v (Value.int IntKind.i64 (bif Nat.beq x_1 (0 : Nat) then x.num else bif Nat.beq x_1 (1
    : Nat) then x.kind else (0 : Int)))])] [some (Blk.arr (1 : Nat) (2 : Nat) fun j => [AV.v (Value.int IntKind.i64 (gL x j))])])) (Tree.chk ((allBytes (ByteArray.size (catN (gL x) (2 :
    Nat))) fun j => [AV.v (Value.int IntKind.u8 (sbyte (catN (gL x) (2 : Nat)) ((0 : Nat) + j)))]) && (decide (ByteArray.size (textOf (ByteArray.size (catN (gL x) (2 : Nat))) fun j => [AV.v
    (Value.int IntKind.u8 (sbyte (catN (gL x) (2 : Nat)) ((0 : Nat) + j)))]) + ByteArray.size x.bytes ≤ (9223372036854775807 : Nat)) && (Nat.ble (ByteArray.size ((textOf (ByteArray.size
    (catN (gL x) (2 : Nat))) fun j => [AV.v (Value.int IntKind.u8 (sbyte (catN (gL x) (2 : Nat)) ((0 : Nat) + j)))]) ++ x.bytes)) (1000000000 : Nat) && decide (ByteArray.size (dressB
    ((textOf (ByteArray.size (catN (gL x) (2 : Nat))) fun j => [AV.v (Value.int IntKind.u8 (sbyte (catN (gL x) (2 : Nat)) ((0 : Nat) + j)))]) ++ x.bytes)) + (1 : Nat) ≤ (9223372036854775807
    : Nat))))) (Tree.leaf (Ans.mk (AV.tup [AV.v (Value.string (dressB ((textOf (ByteArray.size (catN (gL x) (2 : Nat))) fun j => [AV.v (Value.int IntKind.u8 (sbyte (catN (gL x) (2 : Nat))
    ((0 : Nat) + j)))]) ++ x.bytes) ++ ByteArray.mk #[(0 : UInt8)])), AV.v (Value.int IntKind.i64 (0 : Int))]) [])))))) (Tree.br (bif !decide (x.kind = (1 : Int)) then !decide (x.kind = (2 :
    Int)) else false) (Tree.leaf (Ans.mk (AV.tup [AV.v (Value.string (ByteArray.mk #[])), AV.v (Value.int IntKind.i64 (1 : Int))]) [])) (Tree.br (decide ((4194304 : Int) < (↑(ByteArray.size
    x.bytes) : Int))) (Tree.leaf (Ans.mk (AV.tup [AV.v (Value.string (ByteArray.mk #[])), AV.v (Value.int IntKind.i64 (2 : Int))]) [])) (Tree.chk (cl (LeL [AV.hs (0 : Nat) (0 : Nat) (2 :
    Nat)] [AV.hs (0 : Nat) (0 : Nat) (2 : Nat)] ∧ LeH [some (Blk.arr (1 : Nat) (2 : Nat) fun x_1 => [AV.v (Value.int IntKind.i64 (bif Nat.beq x_1 (0 : Nat) then x.num else bif Nat.beq x_1 (1
    : Nat) then x.kind else (0 : Int)))])] [some (Blk.arr (1 : Nat) (2 : Nat) fun j => [AV.v (Value.int IntKind.i64 (gL x j))])])) (Tree.chk ((allBytes (ByteArray.size (catN (gL x) (2 :
    Nat))) fun j => [AV.v (Value.int IntKind.u8 (sbyte (catN (gL x) (2 : Nat)) ((0 : Nat) + j)))]) && (decide (ByteArray.size (textOf (ByteArray.size (catN (gL x) (2 : Nat))) fun j => [AV.v
    (Value.int IntKind.u8 (sbyte (catN (gL x) (2 : Nat)) ((0 : Nat) + j)))]) + ByteArray.size x.bytes ≤ (9223372036854775807 : Nat)) && (Nat.ble (ByteArray.size ((textOf (ByteArray.size
    (catN (gL x) (2 : Nat))) fun j => [AV.v (Value.int IntKind.u8 (sbyte (catN (gL x) (2 : Nat)) ((0 : Nat) + j)))]) ++ x.bytes)) (1000000000 : Nat) && decide (ByteArray.size (dressB
    ((textOf (ByteArray.size (catN (gL x) (2 : Nat))) fun j => [AV.v (Value.int IntKind.u8 (sbyte (catN (gL x) (2 : Nat)) ((0 : Nat) + j)))]) ++ x.bytes)) + (1 : Nat) ≤ (9223372036854775807
    : Nat))))) (Tree.leaf (Ans.mk (AV.tup [AV.v (Value.string (dressB ((textOf (ByteArray.size (catN (gL x) (2 : Nat))) fun j => [AV.v (Value.int IntKind.u8 (sbyte (catN (gL x) (2 : Nat))
    ((0 : Nat) + j)))]) ++ x.bytes) ++ ByteArray.mk #[(0 : UInt8)])), AV.v (Value.int IntKind.i64 (0 : Int))]) [])))))) := by kernel_rfl
theorem runLn0 (x : En) : bodyE (P := Try.prog) (Γ := Γb) [] Lno false 44 [.tmp 2, .tmp 3] (bodyOf Try.f26) [x.av] [] =
  Tree.br (bif decide (x.num < (1 : Int)) then true else decide ((4611686018427387904 : Int) < x.num)) (Tree.br (bif decide (x.num < (1 : Int)) then true else decide ((4611686018427387904 :
    Int) < x.num)) (Tree.leaf (Ans.mk (AV.tup [AV.v (Value.string (ByteArray.mk #[])), AV.v (Value.int IntKind.i64 (1 : Int))]) [])) (Tree.br (decide ((4194304 : Int) < (↑(ByteArray.size
    x.bytes) : Int))) (Tree.leaf (Ans.mk (AV.tup [AV.v (Value.string (ByteArray.mk #[])), AV.v (Value.int IntKind.i64 (2 : Int))]) [])) Tree.fail)) (Tree.br (bif !decide (x.kind = (1 : Int))
    then !decide (x.kind = (2 : Int)) else false) (Tree.leaf (Ans.mk (AV.tup [AV.v (Value.string (ByteArray.mk #[])), AV.v (Value.int IntKind.i64 (1 : Int))]) [])) (Tree.br (decide ((4194304
    : Int) < (↑(ByteArray.size x.bytes) : Int))) (Tree.leaf (Ans.mk (AV.tup [AV.v (Value.string (ByteArray.mk #[])), AV.v (Value.int IntKind.i64 (2 : Int))]) [])) Tree.fail)) := by kernel_rfl
theorem text0 (t : ByteArray) : (textOf t.size fun j => [AV.v (Value.int IntKind.u8 (sbyte t ((0 : Nat) + j)))]) = t := by
  have : (fun j => [AV.v (Value.int IntKind.u8 (sbyte t ((0 : Nat) + j)))]) = bsF t := by funext j; rw [Nat.zero_add]; rfl
  rw [this, textOf_bsF]
theorem all0 (n : Nat) (t : ByteArray) : (allBytes n fun j => [AV.v (Value.int IntKind.u8 (sbyte t ((0 : Nat) + j)))]) = true := by
  have : (fun j => [AV.v (Value.int IntKind.u8 (sbyte t ((0 : Nat) + j)))]) = bsF t := by funext j; rw [Nat.zero_add]; rfl
  rw [this, allBytes_bsF]
theorem dressB_size (s : ByteArray) : (dressB s).size ≤ 2 * s.size := by
  have := dress_len s.data.toList
  show (dress s.data.toList).toArray.size ≤ _
  rw [List.size_toArray, Lib.size_eq]; exact this
theorem naL {x : En} (h : x.w1) : (NA.hs (1 + 1) (gL x)).ok := by
  obtain ⟨h1, h2, h3⟩ := h
  exact ⟨fun j hj => match j, hj with
    | 0, _ => okN_le (by show 0 ≤ x.num; omega) (by show x.num ≤ _; omega)
    | 1, _ => okN_le (by show 0 ≤ x.kind; omega) (by show x.kind ≤ _; omega)
    | j + 2, h => absurd h (by show ¬ j + 2 < 1 + 1; omega), by show 1 + 1 ≤ 100000; omega, fun _ => by show 0 < 1 + 1; omega⟩
theorem numsOK {x : En} (h : x.w1) : NumsOK x := ansNumsH 1 (gL x) (naL h)
theorem cat_small {x : En} (h : x.w1) : (catN (gL x) 2).size ≤ 18 := by
  have := (catN_small (g := gL x) (i := 2) (naL h).1).1
  omega
theorem okL (x : En) : OLe (some (.arr 1 2 fun j => [.v (.int .i64 (bif Nat.beq j 0 then x.num else bif Nat.beq j 1 then x.kind else 0))])) (some (.arr 1 2 (i64F (gL x)))) := by
  refine .some (.arr (fun e he => ?_) fun _ => rfl)
  match e, he with
  | 0, _ => exact LeL.refl _
  | 1, _ => exact LeL.refl _
  | e + 2, he => omega
theorem ansLn (x : En) : Answers Try.prog Γb 26 [x.av] [] (.tup [.v (.string (lnR x).t), .v (.int .i64 (lnR x).e)]) [] [] := by
  by_cases h1 : x.w1
  · have hn := numsOK h1
    have hz := cat_small h1
    refine answers (fn := Try.f26) (c := bodyOf Try.f26) (ntmps := 44) (results := [.tmp 2, .tmp 3]) [CT.at 82 hn, kDr] Lno false Try.func26 (by kernel_rfl) (by kernel_rfl) (by kernel_rfl) (by kernel_rfl) (by simp) rfl (failOK fun _ _ _ => rfl) (Meets.of (runLn x hn) ?_)
    obtain ⟨a1, a2, a3⟩ := h1
    have c1 : (bif decide (x.num < (1 : Int)) then true else decide ((4611686018427387904 : Int) < x.num)) = false := by rw [decide_eq_false a1, decide_eq_false a2]; rfl
    have c2 : (bif !decide (x.kind = (1 : Int)) then !decide (x.kind = (2 : Int)) else false) = false := by
      rcases a3 with h | h
      · rw [h]; rfl
      · rw [h]; rfl
    by_cases h2 : x.w2
    · have e : lnR x = ⟨lineB x, 0⟩ := by unfold lnR; rw [if_pos ⟨a1, a2, a3⟩, if_pos h2]
      have c3 : decide ((4194304 : Int) < (x.bytes.size : Int)) = false := decide_eq_false (by unfold En.w2 at h2; omega)
      have hs2 : x.bytes.size ≤ 4194304 := h2
      rw [e, c1, c2, c3]
      simp only [text0, all0]
      have hd := dressB_size (catN (gL x) 2 ++ x.bytes)
      rw [ByteArray.size_append] at hd
      have g1 : decide ((catN (gL x) 2).size + x.bytes.size ≤ 9223372036854775807) = true := decide_eq_true (by omega)
      have g2 : Nat.ble (catN (gL x) 2 ++ x.bytes).size 1000000000 = true := Nat.ble_eq_true_of_le (by rw [ByteArray.size_append]; omega)
      have g3 : decide ((dressB (catN (gL x) 2 ++ x.bytes)).size + 1 ≤ 9223372036854775807) = true := decide_eq_true (by omega)
      rw [g1, g2, g3]
      refine wN rfl (wN rfl (wN rfl (wC (cl_iff.2 ⟨LeL.refl _, ?_⟩) (wC rfl ⟨.refl _, trivial⟩))))
      exact ⟨okL x, trivial⟩
    · have e : lnR x = ⟨⟨#[]⟩, 2⟩ := by unfold lnR; rw [if_pos ⟨a1, a2, a3⟩, if_neg h2]
      have c3 : decide ((4194304 : Int) < (x.bytes.size : Int)) = true := decide_eq_true (by unfold En.w2 at h2; omega)
      rw [e, c1, c2, c3]
      exact wN rfl (wN rfl (wT rfl ⟨.refl _, trivial⟩))
  · have e : lnR x = ⟨⟨#[]⟩, 1⟩ := by unfold lnR; rw [if_neg h1]
    refine answers (fn := Try.f26) (c := bodyOf Try.f26) (ntmps := 44) (results := [.tmp 2, .tmp 3]) [] Lno false Try.func26 (by kernel_rfl) (by kernel_rfl) (by kernel_rfl) (by kernel_rfl) (by simp) rfl (failOK fun _ _ _ => rfl) (Meets.of (runLn0 x) ?_)
    rw [e]
    by_cases a : x.num < 1 ∨ 4611686018427387904 < x.num
    · have c1 : (bif decide (x.num < (1 : Int)) then true else decide ((4611686018427387904 : Int) < x.num)) = true := by rcases a with h | h <;> simp [h]
      rw [c1]
      exact wT rfl (wT rfl ⟨.refl _, trivial⟩)
    · have c1 : (bif decide (x.num < (1 : Int)) then true else decide ((4611686018427387904 : Int) < x.num)) = false := by rw [decide_eq_false (by omega), decide_eq_false (by omega)]; rfl
      have hk : ¬ (x.kind = 1 ∨ x.kind = 2) := fun h => h1 ⟨by omega, by omega, h⟩
      have c2 : (bif !decide (x.kind = (1 : Int)) then !decide (x.kind = (2 : Int)) else false) = true := by rw [decide_eq_false (fun h => hk (.inl h)), decide_eq_false (fun h => hk (.inr h))]; rfl
      rw [c1, c2]
      exact wN rfl (wT rfl ⟨.refl _, trivial⟩)
def toEn : List AV → List Blk → Option En
  | [.agg [.v (.int .i64 n), .v (.int .i64 k), .v (.string b)]], [] => some ⟨n, k, b⟩
  | _, _ => none
theorem toEn_inv {args : List AV} {Hin : List Blk} {x : En} (h : toEn args Hin = some x) : args = [x.av] ∧ Hin = [] := by
  unfold toEn at h
  split at h
  · cases h; exact ⟨rfl, rfl⟩
  · cases h
noncomputable def hLn : CT Try.prog Γb := CT.ex 26 toEn (fun _ => True) (fun x => .tup [.v (.string (lnR x).t), .v (.int .i64 (lnR x).e)]) (fun _ => []) (fun _ => [])
  (callFunc_enters Try.func26 (by kernel_rfl) (by kernel_rfl)) (fun args Hin x hx hp => by
    obtain ⟨rfl, rfl⟩ := toEn_inv hx
    exact (ansLn x).cU rfl)
end Go.Eng.SB.B

namespace Go.Eng.SB.T
open Go Go.Eng Go.Eng.SB Go.Lib Go.Proofs
def bF (g : Nat → Int) : Nat → List AV := fun j => [.v (.int .u8 (g j))]
structure Tp where
  fi : Int
  fa : Int
  o : Nat
  n : Nat
  N : Nat
  g : Nat → Int
  left : Int
@[reducible] def Tp.bl (x : Tp) (off : Bool) : List Blk := [.row [.v (.int .i64 1048576), .v (.int .i64 x.fi), .v (.int .i64 x.fa), .hs 1 x.o x.n, .v (.int .i64 x.left), .v (.bool off)], .arr 1 x.N (bF x.g)]
noncomputable def k78 : CT Try.prog Γb := CT.auto false 100 3 [] 78 Try.f78 (bodyOf Try.f78) false 11 [.tmp 2] Try.func78 (by kernel_rfl) (by kernel_rfl) (by kernel_rfl) (by kernel_rfl)
noncomputable def k118 : CT Try.prog Γb := CT.auto false 100 3 [] 118 Try.f118 (bodyOf Try.f118) false 23 [.tmp 2] Try.func118 (by kernel_rfl) (by kernel_rfl) (by kernel_rfl) (by kernel_rfl)
structure EX where
  rm : Int
  fi : Int
  fa : Int
  o : Nat
  n : Nat
  le : Int
  off : Bool
  N : Nat
  f : Nat → List AV
@[reducible] def EX.bl (x : EX) : List Blk := [.row [.v (.int .i64 x.rm), .v (.int .i64 x.fi), .v (.int .i64 x.fa), .hs 1 x.o x.n, .v (.int .i64 x.le), .v (.bool x.off)], .arr 1 x.N x.f]
def toE : List AV → List Blk → Option EX
  | [.ptr 0 0], [.row [.v (.int .i64 rm), .v (.int .i64 fi), .v (.int .i64 fa), .hs 1 o n, .v (.int .i64 le), .v (.bool off)], .arr 1 N f] => some ⟨rm, fi, fa, o, n, le, off, N, f⟩
  | _, _ => none
theorem toE_inv {args : List AV} {Hin : List Blk} {x : EX} (h : toE args Hin = some x) : args = [.ptr 0 0] ∧ Hin = x.bl := by
  unfold toE at h
  split at h
  · cases h
    exact ⟨rfl, rfl⟩
  · cases h
theorem runEnd (x : EX) : bodyE (P := Try.prog) (Γ := Γb) [] Lno false 13 [.tmp 2] (bodyOf Try.f77) [.ptr 0 0] x.bl =
  Tree.leaf (Ans.mk (AV.v (Value.int IntKind.i64 (IntKind.wrap IntKind.i64 (x.fi + (↑x.n : Int))))) [some (Blk.row [AV.v (Value.int IntKind.i64 x.rm), AV.v (Value.int IntKind.i64 x.fi), AV.v
    (Value.int IntKind.i64 x.fa), AV.hs (1 : Nat) x.o x.n, AV.v (Value.int IntKind.i64 x.le), AV.v (Value.bool x.off)]), some (Blk.arr (1 : Nat) x.N fun a => x.9 a)]) := by kernel_rfl
theorem ansEnd (x : EX) : Answers Try.prog Γb 77 [.ptr 0 0] x.bl (.v (.int .i64 (IntKind.i64.wrap (x.fi + (x.n : Int))))) (x.bl.map some) [] := answers (fn := Try.f77) (c := bodyOf Try.f77) (ntmps := 13) (results := [.tmp 2]) [] Lno false Try.func77 (by kernel_rfl) (by kernel_rfl) (by kernel_rfl) (by kernel_rfl) (by simp) rfl (noLoops (by kernel_rfl)) (by
  refine Meets.of (runEnd x) ?_
  exact ⟨.refl _, .refl _, .refl _, trivial⟩)
noncomputable def k77 : CT Try.prog Γb := CT.ex 77 toE (fun _ => True) (fun x => .v (.int .i64 (IntKind.i64.wrap (x.fi + (x.n : Int))))) (fun _ => []) (fun _ => [])
  (callFunc_enters Try.func77 (by kernel_rfl) (by kernel_rfl)) (fun args Hin x hx hp => by
    obtain ⟨rfl, rfl⟩ := toE_inv hx
    exact (ansEnd x).cU rfl)
noncomputable def k119 : CT Try.prog Γb := CT.auto false 100 3 [k118] 119 Try.f119 (bodyOf Try.f119) false 19 [.tmp 8] Try.func119 (by kernel_rfl) (by kernel_rfl) (by kernel_rfl) (by kernel_rfl)
theorem runHold (x : Tp) : bodyE (P := Try.prog) (Γ := Γb) [k78, k118, k77] Lno false 18 [.tmp 2] (bodyOf Try.f74) [.ptr 0 0] (x.bl false) =
  Tree.br true (Tree.br (decide (x.left = (0 : Int))) (Tree.br false (Tree.chk (cl True) (Tree.leaf (Ans.mk (AV.v (Value.int IntKind.i64 (170 : Int))) [some (Blk.row [AV.v (Value.int
    IntKind.i64 (1048576 : Int)), AV.v (Value.int IntKind.i64 x.fi), AV.v (Value.int IntKind.i64 (IntKind.wrap IntKind.i64 (x.fi + (↑x.n : Int)))), AV.hs (1 : Nat) x.o x.n, AV.v (Value.int
    IntKind.i64 x.left), AV.v (Value.bool true)]), some (Blk.arr (1 : Nat) x.N fun j => [AV.v (Value.int IntKind.u8 (x.g j))])]))) (Tree.leaf (Ans.mk (AV.v (Value.int IntKind.i64 (170 :
    Int))) [some (Blk.row [AV.v (Value.int IntKind.i64 (1048576 : Int)), AV.v (Value.int IntKind.i64 x.fi), AV.v (Value.int IntKind.i64 x.fa), AV.hs (1 : Nat) x.o x.n, AV.v (Value.int
    IntKind.i64 x.left), AV.v (Value.bool true)]), some (Blk.arr (1 : Nat) x.N fun j => [AV.v (Value.int IntKind.u8 (x.g j))])]))) (Tree.br (decide ((0 : Int) < x.left)) (Tree.br true
    (Tree.chk (cl True) (Tree.leaf (Ans.mk (AV.v (Value.int IntKind.i64 (0 : Int))) [some (Blk.row [AV.v (Value.int IntKind.i64 (1048576 : Int)), AV.v (Value.int IntKind.i64 x.fi), AV.v
    (Value.int IntKind.i64 (IntKind.wrap IntKind.i64 (x.fi + (↑x.n : Int)))), AV.hs (1 : Nat) x.o x.n, AV.v (Value.int IntKind.i64 (IntKind.wrap IntKind.i64 (x.left - (1 : Int)))), AV.v
    (Value.bool false)]), some (Blk.arr (1 : Nat) x.N fun j => [AV.v (Value.int IntKind.u8 (x.g j))])]))) (Tree.leaf (Ans.mk (AV.v (Value.int IntKind.i64 (0 : Int))) [some (Blk.row [AV.v
    (Value.int IntKind.i64 (1048576 : Int)), AV.v (Value.int IntKind.i64 x.fi), AV.v (Value.int IntKind.i64 x.fa), AV.hs (1 : Nat) x.o x.n, AV.v (Value.int IntKind.i64 (IntKind.wrap
    IntKind.i64 (x.left - (1 : Int)))), AV.v (Value.bool false)]), some (Blk.arr (1 : Nat) x.N fun j => [AV.v (Value.int IntKind.u8 (x.g j))])]))) (Tree.br true (Tree.chk (cl True)
    (Tree.leaf (Ans.mk (AV.v (Value.int IntKind.i64 (0 : Int))) [some (Blk.row [AV.v (Value.int IntKind.i64 (1048576 : Int)), AV.v (Value.int IntKind.i64 x.fi), AV.v (Value.int IntKind.i64
    (IntKind.wrap IntKind.i64 (x.fi + (↑x.n : Int)))), AV.hs (1 : Nat) x.o x.n, AV.v (Value.int IntKind.i64 x.left), AV.v (Value.bool false)]), some (Blk.arr (1 : Nat) x.N fun j => [AV.v
    (Value.int IntKind.u8 (x.g j))])]))) (Tree.leaf (Ans.mk (AV.v (Value.int IntKind.i64 (0 : Int))) [some (Blk.row [AV.v (Value.int IntKind.i64 (1048576 : Int)), AV.v (Value.int IntKind.i64
    x.fi), AV.v (Value.int IntKind.i64 x.fa), AV.hs (1 : Nat) x.o x.n, AV.v (Value.int IntKind.i64 x.left), AV.v (Value.bool false)]), some (Blk.arr (1 : Nat) x.N fun j => [AV.v (Value.int
    IntKind.u8 (x.g j))])]))))) (Tree.br true (Tree.chk (cl True) (Tree.leaf (Ans.mk (AV.v (Value.int IntKind.i64 (0 : Int))) [some (Blk.row [AV.v (Value.int IntKind.i64 (1048576 : Int)),
    AV.v (Value.int IntKind.i64 x.fi), AV.v (Value.int IntKind.i64 (IntKind.wrap IntKind.i64 (x.fi + (↑x.n : Int)))), AV.hs (1 : Nat) x.o x.n, AV.v (Value.int IntKind.i64 x.left), AV.v
    (Value.bool false)]), some (Blk.arr (1 : Nat) x.N fun j => [AV.v (Value.int IntKind.u8 (x.g j))])]))) (Tree.leaf (Ans.mk (AV.v (Value.int IntKind.i64 (0 : Int))) [some (Blk.row [AV.v
    (Value.int IntKind.i64 (1048576 : Int)), AV.v (Value.int IntKind.i64 x.fi), AV.v (Value.int IntKind.i64 x.fa), AV.hs (1 : Nat) x.o x.n, AV.v (Value.int IntKind.i64 x.left), AV.v
    (Value.bool false)]), some (Blk.arr (1 : Nat) x.N fun j => [AV.v (Value.int IntKind.u8 (x.g j))])]))) := by kernel_rfl
theorem runHold1 (x : Tp) : bodyE (P := Try.prog) (Γ := Γb) [k78, k118, k77] Lno false 18 [.tmp 2] (bodyOf Try.f74) [.ptr 0 0] (x.bl true) =
  Tree.br false (Tree.br (decide (x.left = (0 : Int))) (Tree.br false (Tree.chk (cl True) (Tree.leaf (Ans.mk (AV.v (Value.int IntKind.i64 (170 : Int))) [some (Blk.row [AV.v (Value.int
    IntKind.i64 (1048576 : Int)), AV.v (Value.int IntKind.i64 x.fi), AV.v (Value.int IntKind.i64 (IntKind.wrap IntKind.i64 (x.fi + (↑x.n : Int)))), AV.hs (1 : Nat) x.o x.n, AV.v (Value.int
    IntKind.i64 x.left), AV.v (Value.bool true)]), some (Blk.arr (1 : Nat) x.N fun j => [AV.v (Value.int IntKind.u8 (x.g j))])]))) (Tree.leaf (Ans.mk (AV.v (Value.int IntKind.i64 (170 :
    Int))) [some (Blk.row [AV.v (Value.int IntKind.i64 (1048576 : Int)), AV.v (Value.int IntKind.i64 x.fi), AV.v (Value.int IntKind.i64 x.fa), AV.hs (1 : Nat) x.o x.n, AV.v (Value.int
    IntKind.i64 x.left), AV.v (Value.bool true)]), some (Blk.arr (1 : Nat) x.N fun j => [AV.v (Value.int IntKind.u8 (x.g j))])]))) (Tree.br (decide ((0 : Int) < x.left)) (Tree.br true
    (Tree.chk (cl True) (Tree.leaf (Ans.mk (AV.v (Value.int IntKind.i64 (0 : Int))) [some (Blk.row [AV.v (Value.int IntKind.i64 (1048576 : Int)), AV.v (Value.int IntKind.i64 x.fi), AV.v
    (Value.int IntKind.i64 (IntKind.wrap IntKind.i64 (x.fi + (↑x.n : Int)))), AV.hs (1 : Nat) x.o x.n, AV.v (Value.int IntKind.i64 (IntKind.wrap IntKind.i64 (x.left - (1 : Int)))), AV.v
    (Value.bool true)]), some (Blk.arr (1 : Nat) x.N fun j => [AV.v (Value.int IntKind.u8 (x.g j))])]))) (Tree.leaf (Ans.mk (AV.v (Value.int IntKind.i64 (0 : Int))) [some (Blk.row [AV.v
    (Value.int IntKind.i64 (1048576 : Int)), AV.v (Value.int IntKind.i64 x.fi), AV.v (Value.int IntKind.i64 x.fa), AV.hs (1 : Nat) x.o x.n, AV.v (Value.int IntKind.i64 (IntKind.wrap
    IntKind.i64 (x.left - (1 : Int)))), AV.v (Value.bool true)]), some (Blk.arr (1 : Nat) x.N fun j => [AV.v (Value.int IntKind.u8 (x.g j))])]))) (Tree.br true (Tree.chk (cl True) (Tree.leaf
    (Ans.mk (AV.v (Value.int IntKind.i64 (0 : Int))) [some (Blk.row [AV.v (Value.int IntKind.i64 (1048576 : Int)), AV.v (Value.int IntKind.i64 x.fi), AV.v (Value.int IntKind.i64
    (IntKind.wrap IntKind.i64 (x.fi + (↑x.n : Int)))), AV.hs (1 : Nat) x.o x.n, AV.v (Value.int IntKind.i64 x.left), AV.v (Value.bool true)]), some (Blk.arr (1 : Nat) x.N fun j => [AV.v
    (Value.int IntKind.u8 (x.g j))])]))) (Tree.leaf (Ans.mk (AV.v (Value.int IntKind.i64 (0 : Int))) [some (Blk.row [AV.v (Value.int IntKind.i64 (1048576 : Int)), AV.v (Value.int IntKind.i64
    x.fi), AV.v (Value.int IntKind.i64 x.fa), AV.hs (1 : Nat) x.o x.n, AV.v (Value.int IntKind.i64 x.left), AV.v (Value.bool true)]), some (Blk.arr (1 : Nat) x.N fun j => [AV.v (Value.int
    IntKind.u8 (x.g j))])]))))) (Tree.br false (Tree.chk (cl True) (Tree.leaf (Ans.mk (AV.v (Value.int IntKind.i64 (170 : Int))) [some (Blk.row [AV.v (Value.int IntKind.i64 (1048576 : Int)),
    AV.v (Value.int IntKind.i64 x.fi), AV.v (Value.int IntKind.i64 (IntKind.wrap IntKind.i64 (x.fi + (↑x.n : Int)))), AV.hs (1 : Nat) x.o x.n, AV.v (Value.int IntKind.i64 x.left), AV.v
    (Value.bool true)]), some (Blk.arr (1 : Nat) x.N fun j => [AV.v (Value.int IntKind.u8 (x.g j))])]))) (Tree.leaf (Ans.mk (AV.v (Value.int IntKind.i64 (170 : Int))) [some (Blk.row [AV.v
    (Value.int IntKind.i64 (1048576 : Int)), AV.v (Value.int IntKind.i64 x.fi), AV.v (Value.int IntKind.i64 x.fa), AV.hs (1 : Nat) x.o x.n, AV.v (Value.int IntKind.i64 x.left), AV.v
    (Value.bool true)]), some (Blk.arr (1 : Nat) x.N fun j => [AV.v (Value.int IntKind.u8 (x.g j))])]))) := by kernel_rfl
theorem runShed (x : Tp) (p : Int) : bodyE (P := Try.prog) (Γ := Γb) [k78, k119] Lno false 44 [.tmp 4] (bodyOf Try.f75) [.ptr 0 0, .v (.int .i64 p)] (x.bl false) =
  Tree.br false (Tree.leaf (Ans.mk (AV.v (Value.int IntKind.i64 (0 : Int))) [some (Blk.row [AV.v (Value.int IntKind.i64 (1048576 : Int)), AV.v (Value.int IntKind.i64 x.fi), AV.v (Value.int
    IntKind.i64 x.fa), AV.hs (1 : Nat) x.o x.n, AV.v (Value.int IntKind.i64 x.left), AV.v (Value.bool false)]), some (Blk.arr (1 : Nat) x.N fun j => [AV.v (Value.int IntKind.u8 (x.g j))])]))
    (Tree.br (bif decide (p < x.fi) then true else decide (x.fa < p)) (Tree.br false (Tree.chk (decide ((0 : Int) ≤ IntKind.wrap IntKind.i64 (p - x.fi)) && decide (IntKind.wrap IntKind.i64
    (p - x.fi) ≤ (↑x.n : Int)) && decide ((↑x.n : Int) ≤ (↑x.n : Int))) (Tree.leaf (Ans.mk (AV.v (Value.int IntKind.i64 (240 : Int))) [some (Blk.row [AV.v (Value.int IntKind.i64 (1048576 :
    Int)), AV.v (Value.int IntKind.i64 p), AV.v (Value.int IntKind.i64 x.fa), AV.hs (1 : Nat) (x.o + Int.toNat (IntKind.wrap IntKind.i64 (p - x.fi))) (x.n - Int.toNat (IntKind.wrap
    IntKind.i64 (p - x.fi))), AV.v (Value.int IntKind.i64 x.left), AV.v (Value.bool false)]), some (Blk.arr (1 : Nat) x.N fun j => [AV.v (Value.int IntKind.u8 (x.g j))])]))) (Tree.leaf
    (Ans.mk (AV.v (Value.int IntKind.i64 (240 : Int))) [some (Blk.row [AV.v (Value.int IntKind.i64 (1048576 : Int)), AV.v (Value.int IntKind.i64 x.fi), AV.v (Value.int IntKind.i64 x.fa),
    AV.hs (1 : Nat) x.o x.n, AV.v (Value.int IntKind.i64 x.left), AV.v (Value.bool false)]), some (Blk.arr (1 : Nat) x.N fun j => [AV.v (Value.int IntKind.u8 (x.g j))])]))) (Tree.br (decide
    (x.left = (0 : Int))) (Tree.br false (Tree.chk (decide ((0 : Int) ≤ IntKind.wrap IntKind.i64 (p - x.fi)) && decide (IntKind.wrap IntKind.i64 (p - x.fi) ≤ (↑x.n : Int)) && decide ((↑x.n :
    Int) ≤ (↑x.n : Int))) (Tree.leaf (Ans.mk (AV.v (Value.int IntKind.i64 (170 : Int))) [some (Blk.row [AV.v (Value.int IntKind.i64 (1048576 : Int)), AV.v (Value.int IntKind.i64 p), AV.v
    (Value.int IntKind.i64 x.fa), AV.hs (1 : Nat) (x.o + Int.toNat (IntKind.wrap IntKind.i64 (p - x.fi))) (x.n - Int.toNat (IntKind.wrap IntKind.i64 (p - x.fi))), AV.v (Value.int IntKind.i64
    x.left), AV.v (Value.bool true)]), some (Blk.arr (1 : Nat) x.N fun j => [AV.v (Value.int IntKind.u8 (x.g j))])]))) (Tree.leaf (Ans.mk (AV.v (Value.int IntKind.i64 (170 : Int))) [some
    (Blk.row [AV.v (Value.int IntKind.i64 (1048576 : Int)), AV.v (Value.int IntKind.i64 x.fi), AV.v (Value.int IntKind.i64 x.fa), AV.hs (1 : Nat) x.o x.n, AV.v (Value.int IntKind.i64
    x.left), AV.v (Value.bool true)]), some (Blk.arr (1 : Nat) x.N fun j => [AV.v (Value.int IntKind.u8 (x.g j))])]))) (Tree.br (decide ((0 : Int) < x.left)) (Tree.br true (Tree.chk (decide
    ((0 : Int) ≤ IntKind.wrap IntKind.i64 (p - x.fi)) && decide (IntKind.wrap IntKind.i64 (p - x.fi) ≤ (↑x.n : Int)) && decide ((↑x.n : Int) ≤ (↑x.n : Int))) (Tree.leaf (Ans.mk (AV.v
    (Value.int IntKind.i64 (0 : Int))) [some (Blk.row [AV.v (Value.int IntKind.i64 (1048576 : Int)), AV.v (Value.int IntKind.i64 p), AV.v (Value.int IntKind.i64 x.fa), AV.hs (1 : Nat) (x.o +
    Int.toNat (IntKind.wrap IntKind.i64 (p - x.fi))) (x.n - Int.toNat (IntKind.wrap IntKind.i64 (p - x.fi))), AV.v (Value.int IntKind.i64 (IntKind.wrap IntKind.i64 (x.left - (1 : Int)))),
    AV.v (Value.bool false)]), some (Blk.arr (1 : Nat) x.N fun j => [AV.v (Value.int IntKind.u8 (x.g j))])]))) (Tree.leaf (Ans.mk (AV.v (Value.int IntKind.i64 (0 : Int))) [some (Blk.row
    [AV.v (Value.int IntKind.i64 (1048576 : Int)), AV.v (Value.int IntKind.i64 x.fi), AV.v (Value.int IntKind.i64 x.fa), AV.hs (1 : Nat) x.o x.n, AV.v (Value.int IntKind.i64 (IntKind.wrap
    IntKind.i64 (x.left - (1 : Int)))), AV.v (Value.bool false)]), some (Blk.arr (1 : Nat) x.N fun j => [AV.v (Value.int IntKind.u8 (x.g j))])]))) (Tree.br true (Tree.chk (decide ((0 : Int)
    ≤ IntKind.wrap IntKind.i64 (p - x.fi)) && decide (IntKind.wrap IntKind.i64 (p - x.fi) ≤ (↑x.n : Int)) && decide ((↑x.n : Int) ≤ (↑x.n : Int))) (Tree.leaf (Ans.mk (AV.v (Value.int
    IntKind.i64 (0 : Int))) [some (Blk.row [AV.v (Value.int IntKind.i64 (1048576 : Int)), AV.v (Value.int IntKind.i64 p), AV.v (Value.int IntKind.i64 x.fa), AV.hs (1 : Nat) (x.o + Int.toNat
    (IntKind.wrap IntKind.i64 (p - x.fi))) (x.n - Int.toNat (IntKind.wrap IntKind.i64 (p - x.fi))), AV.v (Value.int IntKind.i64 x.left), AV.v (Value.bool false)]), some (Blk.arr (1 : Nat)
    x.N fun j => [AV.v (Value.int IntKind.u8 (x.g j))])]))) (Tree.leaf (Ans.mk (AV.v (Value.int IntKind.i64 (0 : Int))) [some (Blk.row [AV.v (Value.int IntKind.i64 (1048576 : Int)), AV.v
    (Value.int IntKind.i64 x.fi), AV.v (Value.int IntKind.i64 x.fa), AV.hs (1 : Nat) x.o x.n, AV.v (Value.int IntKind.i64 x.left), AV.v (Value.bool false)]), some (Blk.arr (1 : Nat) x.N fun
    j => [AV.v (Value.int IntKind.u8 (x.g j))])])))))) := by kernel_rfl
theorem runShed1 (x : Tp) (p : Int) : bodyE (P := Try.prog) (Γ := Γb) [k78, k119] Lno false 44 [.tmp 4] (bodyOf Try.f75) [.ptr 0 0, .v (.int .i64 p)] (x.bl true) =
  Tree.br true (Tree.leaf (Ans.mk (AV.v (Value.int IntKind.i64 (170 : Int))) [some (Blk.row [AV.v (Value.int IntKind.i64 (1048576 : Int)), AV.v (Value.int IntKind.i64 x.fi), AV.v (Value.int
    IntKind.i64 x.fa), AV.hs (1 : Nat) x.o x.n, AV.v (Value.int IntKind.i64 x.left), AV.v (Value.bool true)]), some (Blk.arr (1 : Nat) x.N fun j => [AV.v (Value.int IntKind.u8 (x.g j))])]))
    (Tree.br (bif decide (p < x.fi) then true else decide (x.fa < p)) (Tree.br false (Tree.chk (decide ((0 : Int) ≤ IntKind.wrap IntKind.i64 (p - x.fi)) && decide (IntKind.wrap IntKind.i64
    (p - x.fi) ≤ (↑x.n : Int)) && decide ((↑x.n : Int) ≤ (↑x.n : Int))) (Tree.leaf (Ans.mk (AV.v (Value.int IntKind.i64 (240 : Int))) [some (Blk.row [AV.v (Value.int IntKind.i64 (1048576 :
    Int)), AV.v (Value.int IntKind.i64 p), AV.v (Value.int IntKind.i64 x.fa), AV.hs (1 : Nat) (x.o + Int.toNat (IntKind.wrap IntKind.i64 (p - x.fi))) (x.n - Int.toNat (IntKind.wrap
    IntKind.i64 (p - x.fi))), AV.v (Value.int IntKind.i64 x.left), AV.v (Value.bool true)]), some (Blk.arr (1 : Nat) x.N fun j => [AV.v (Value.int IntKind.u8 (x.g j))])]))) (Tree.leaf
    (Ans.mk (AV.v (Value.int IntKind.i64 (240 : Int))) [some (Blk.row [AV.v (Value.int IntKind.i64 (1048576 : Int)), AV.v (Value.int IntKind.i64 x.fi), AV.v (Value.int IntKind.i64 x.fa),
    AV.hs (1 : Nat) x.o x.n, AV.v (Value.int IntKind.i64 x.left), AV.v (Value.bool true)]), some (Blk.arr (1 : Nat) x.N fun j => [AV.v (Value.int IntKind.u8 (x.g j))])]))) (Tree.br (decide
    (x.left = (0 : Int))) (Tree.br false (Tree.chk (decide ((0 : Int) ≤ IntKind.wrap IntKind.i64 (p - x.fi)) && decide (IntKind.wrap IntKind.i64 (p - x.fi) ≤ (↑x.n : Int)) && decide ((↑x.n :
    Int) ≤ (↑x.n : Int))) (Tree.leaf (Ans.mk (AV.v (Value.int IntKind.i64 (170 : Int))) [some (Blk.row [AV.v (Value.int IntKind.i64 (1048576 : Int)), AV.v (Value.int IntKind.i64 p), AV.v
    (Value.int IntKind.i64 x.fa), AV.hs (1 : Nat) (x.o + Int.toNat (IntKind.wrap IntKind.i64 (p - x.fi))) (x.n - Int.toNat (IntKind.wrap IntKind.i64 (p - x.fi))), AV.v (Value.int IntKind.i64
    x.left), AV.v (Value.bool true)]), some (Blk.arr (1 : Nat) x.N fun j => [AV.v (Value.int IntKind.u8 (x.g j))])]))) (Tree.leaf (Ans.mk (AV.v (Value.int IntKind.i64 (170 : Int))) [some
    (Blk.row [AV.v (Value.int IntKind.i64 (1048576 : Int)), AV.v (Value.int IntKind.i64 x.fi), AV.v (Value.int IntKind.i64 x.fa), AV.hs (1 : Nat) x.o x.n, AV.v (Value.int IntKind.i64
    x.left), AV.v (Value.bool true)]), some (Blk.arr (1 : Nat) x.N fun j => [AV.v (Value.int IntKind.u8 (x.g j))])]))) (Tree.br (decide ((0 : Int) < x.left)) (Tree.br true (Tree.chk (decide
    ((0 : Int) ≤ IntKind.wrap IntKind.i64 (p - x.fi)) && decide (IntKind.wrap IntKind.i64 (p - x.fi) ≤ (↑x.n : Int)) && decide ((↑x.n : Int) ≤ (↑x.n : Int))) (Tree.leaf (Ans.mk (AV.v
    (Value.int IntKind.i64 (0 : Int))) [some (Blk.row [AV.v (Value.int IntKind.i64 (1048576 : Int)), AV.v (Value.int IntKind.i64 p), AV.v (Value.int IntKind.i64 x.fa), AV.hs (1 : Nat) (x.o +
    Int.toNat (IntKind.wrap IntKind.i64 (p - x.fi))) (x.n - Int.toNat (IntKind.wrap IntKind.i64 (p - x.fi))), AV.v (Value.int IntKind.i64 (IntKind.wrap IntKind.i64 (x.left - (1 : Int)))),
    AV.v (Value.bool true)]), some (Blk.arr (1 : Nat) x.N fun j => [AV.v (Value.int IntKind.u8 (x.g j))])]))) (Tree.leaf (Ans.mk (AV.v (Value.int IntKind.i64 (0 : Int))) [some (Blk.row [AV.v
    (Value.int IntKind.i64 (1048576 : Int)), AV.v (Value.int IntKind.i64 x.fi), AV.v (Value.int IntKind.i64 x.fa), AV.hs (1 : Nat) x.o x.n, AV.v (Value.int IntKind.i64 (IntKind.wrap
    IntKind.i64 (x.left - (1 : Int)))), AV.v (Value.bool true)]), some (Blk.arr (1 : Nat) x.N fun j => [AV.v (Value.int IntKind.u8 (x.g j))])]))) (Tree.br true (Tree.chk (decide ((0 : Int) ≤
    IntKind.wrap IntKind.i64 (p - x.fi)) && decide (IntKind.wrap IntKind.i64 (p - x.fi) ≤ (↑x.n : Int)) && decide ((↑x.n : Int) ≤ (↑x.n : Int))) (Tree.leaf (Ans.mk (AV.v (Value.int
    IntKind.i64 (0 : Int))) [some (Blk.row [AV.v (Value.int IntKind.i64 (1048576 : Int)), AV.v (Value.int IntKind.i64 p), AV.v (Value.int IntKind.i64 x.fa), AV.hs (1 : Nat) (x.o + Int.toNat
    (IntKind.wrap IntKind.i64 (p - x.fi))) (x.n - Int.toNat (IntKind.wrap IntKind.i64 (p - x.fi))), AV.v (Value.int IntKind.i64 x.left), AV.v (Value.bool true)]), some (Blk.arr (1 : Nat) x.N
    fun j => [AV.v (Value.int IntKind.u8 (x.g j))])]))) (Tree.leaf (Ans.mk (AV.v (Value.int IntKind.i64 (0 : Int))) [some (Blk.row [AV.v (Value.int IntKind.i64 (1048576 : Int)), AV.v
    (Value.int IntKind.i64 x.fi), AV.v (Value.int IntKind.i64 x.fa), AV.hs (1 : Nat) x.o x.n, AV.v (Value.int IntKind.i64 x.left), AV.v (Value.bool true)]), some (Blk.arr (1 : Nat) x.N fun j
    => [AV.v (Value.int IntKind.u8 (x.g j))])])))))) := by kernel_rfl
theorem runBack (x : Tp) (p : Int) : bodyE (P := Try.prog) (Γ := Γb) [k78, k77, k119] Lno false 47 [.tmp 4] (bodyOf Try.f76) [.ptr 0 0, .v (.int .i64 p)] (x.bl false) =
  Tree.br false (Tree.leaf (Ans.mk (AV.v (Value.int IntKind.i64 (0 : Int))) [some (Blk.row [AV.v (Value.int IntKind.i64 (1048576 : Int)), AV.v (Value.int IntKind.i64 x.fi), AV.v (Value.int
    IntKind.i64 x.fa), AV.hs (1 : Nat) x.o x.n, AV.v (Value.int IntKind.i64 x.left), AV.v (Value.bool false)]), some (Blk.arr (1 : Nat) x.N fun j => [AV.v (Value.int IntKind.u8 (x.g j))])]))
    (Tree.chk (cl True) (Tree.br (bif decide (p < x.fi) then true else decide (IntKind.wrap IntKind.i64 (x.fi + (↑x.n : Int)) < p)) (Tree.br false (Tree.chk (decide ((↑(0 : Nat) : Int) ≤
    IntKind.wrap IntKind.i64 (p - x.fi)) && decide (IntKind.wrap IntKind.i64 (p - x.fi) ≤ (↑x.n : Int))) (Tree.leaf (Ans.mk (AV.v (Value.int IntKind.i64 (240 : Int))) [some (Blk.row [AV.v
    (Value.int IntKind.i64 (1048576 : Int)), AV.v (Value.int IntKind.i64 x.fi), AV.v (Value.int IntKind.i64 (if p < x.fa then p else x.fa)), AV.hs (1 : Nat) (x.o + (0 : Nat)) (Int.toNat
    (IntKind.wrap IntKind.i64 (p - x.fi))), AV.v (Value.int IntKind.i64 x.left), AV.v (Value.bool false)]), some (Blk.arr (1 : Nat) x.N fun j => [AV.v (Value.int IntKind.u8 (x.g j))])])))
    (Tree.leaf (Ans.mk (AV.v (Value.int IntKind.i64 (240 : Int))) [some (Blk.row [AV.v (Value.int IntKind.i64 (1048576 : Int)), AV.v (Value.int IntKind.i64 x.fi), AV.v (Value.int IntKind.i64
    x.fa), AV.hs (1 : Nat) x.o x.n, AV.v (Value.int IntKind.i64 x.left), AV.v (Value.bool false)]), some (Blk.arr (1 : Nat) x.N fun j => [AV.v (Value.int IntKind.u8 (x.g j))])]))) (Tree.br
    (decide (x.left = (0 : Int))) (Tree.br false (Tree.chk (decide ((↑(0 : Nat) : Int) ≤ IntKind.wrap IntKind.i64 (p - x.fi)) && decide (IntKind.wrap IntKind.i64 (p - x.fi) ≤ (↑x.n : Int)))
    (Tree.leaf (Ans.mk (AV.v (Value.int IntKind.i64 (170 : Int))) [some (Blk.row [AV.v (Value.int IntKind.i64 (1048576 : Int)), AV.v (Value.int IntKind.i64 x.fi), AV.v (Value.int IntKind.i64
    (if p < x.fa then p else x.fa)), AV.hs (1 : Nat) (x.o + (0 : Nat)) (Int.toNat (IntKind.wrap IntKind.i64 (p - x.fi))), AV.v (Value.int IntKind.i64 x.left), AV.v (Value.bool true)]), some
    (Blk.arr (1 : Nat) x.N fun j => [AV.v (Value.int IntKind.u8 (x.g j))])]))) (Tree.leaf (Ans.mk (AV.v (Value.int IntKind.i64 (170 : Int))) [some (Blk.row [AV.v (Value.int IntKind.i64
    (1048576 : Int)), AV.v (Value.int IntKind.i64 x.fi), AV.v (Value.int IntKind.i64 x.fa), AV.hs (1 : Nat) x.o x.n, AV.v (Value.int IntKind.i64 x.left), AV.v (Value.bool true)]), some
    (Blk.arr (1 : Nat) x.N fun j => [AV.v (Value.int IntKind.u8 (x.g j))])]))) (Tree.br (decide ((0 : Int) < x.left)) (Tree.br true (Tree.chk (decide ((↑(0 : Nat) : Int) ≤ IntKind.wrap
    IntKind.i64 (p - x.fi)) && decide (IntKind.wrap IntKind.i64 (p - x.fi) ≤ (↑x.n : Int))) (Tree.leaf (Ans.mk (AV.v (Value.int IntKind.i64 (0 : Int))) [some (Blk.row [AV.v (Value.int
    IntKind.i64 (1048576 : Int)), AV.v (Value.int IntKind.i64 x.fi), AV.v (Value.int IntKind.i64 (if p < x.fa then p else x.fa)), AV.hs (1 : Nat) (x.o + (0 : Nat)) (Int.toNat (IntKind.wrap
    IntKind.i64 (p - x.fi))), AV.v (Value.int IntKind.i64 (IntKind.wrap IntKind.i64 (x.left - (1 : Int)))), AV.v (Value.bool false)]), some (Blk.arr (1 : Nat) x.N fun j => [AV.v (Value.int
    IntKind.u8 (x.g j))])]))) (Tree.leaf (Ans.mk (AV.v (Value.int IntKind.i64 (0 : Int))) [some (Blk.row [AV.v (Value.int IntKind.i64 (1048576 : Int)), AV.v (Value.int IntKind.i64 x.fi),
    AV.v (Value.int IntKind.i64 x.fa), AV.hs (1 : Nat) x.o x.n, AV.v (Value.int IntKind.i64 (IntKind.wrap IntKind.i64 (x.left - (1 : Int)))), AV.v (Value.bool false)]), some (Blk.arr (1 :
    Nat) x.N fun j => [AV.v (Value.int IntKind.u8 (x.g j))])]))) (Tree.br true (Tree.chk (decide ((↑(0 : Nat) : Int) ≤ IntKind.wrap IntKind.i64 (p - x.fi)) && decide (IntKind.wrap
    IntKind.i64 (p - x.fi) ≤ (↑x.n : Int))) (Tree.leaf (Ans.mk (AV.v (Value.int IntKind.i64 (0 : Int))) [some (Blk.row [AV.v (Value.int IntKind.i64 (1048576 : Int)), AV.v (Value.int
    IntKind.i64 x.fi), AV.v (Value.int IntKind.i64 (if p < x.fa then p else x.fa)), AV.hs (1 : Nat) (x.o + (0 : Nat)) (Int.toNat (IntKind.wrap IntKind.i64 (p - x.fi))), AV.v (Value.int
    IntKind.i64 x.left), AV.v (Value.bool false)]), some (Blk.arr (1 : Nat) x.N fun j => [AV.v (Value.int IntKind.u8 (x.g j))])]))) (Tree.leaf (Ans.mk (AV.v (Value.int IntKind.i64 (0 :
    Int))) [some (Blk.row [AV.v (Value.int IntKind.i64 (1048576 : Int)), AV.v (Value.int IntKind.i64 x.fi), AV.v (Value.int IntKind.i64 x.fa), AV.hs (1 : Nat) x.o x.n, AV.v (Value.int
    IntKind.i64 x.left), AV.v (Value.bool false)]), some (Blk.arr (1 : Nat) x.N fun j => [AV.v (Value.int IntKind.u8 (x.g j))])]))))))) := by kernel_rfl
theorem runBack1 (x : Tp) (p : Int) : bodyE (P := Try.prog) (Γ := Γb) [k78, k77, k119] Lno false 47 [.tmp 4] (bodyOf Try.f76) [.ptr 0 0, .v (.int .i64 p)] (x.bl true) =
  Tree.br true (Tree.leaf (Ans.mk (AV.v (Value.int IntKind.i64 (170 : Int))) [some (Blk.row [AV.v (Value.int IntKind.i64 (1048576 : Int)), AV.v (Value.int IntKind.i64 x.fi), AV.v (Value.int
    IntKind.i64 x.fa), AV.hs (1 : Nat) x.o x.n, AV.v (Value.int IntKind.i64 x.left), AV.v (Value.bool true)]), some (Blk.arr (1 : Nat) x.N fun j => [AV.v (Value.int IntKind.u8 (x.g j))])]))
    (Tree.chk (cl True) (Tree.br (bif decide (p < x.fi) then true else decide (IntKind.wrap IntKind.i64 (x.fi + (↑x.n : Int)) < p)) (Tree.br false (Tree.chk (decide ((↑(0 : Nat) : Int) ≤
    IntKind.wrap IntKind.i64 (p - x.fi)) && decide (IntKind.wrap IntKind.i64 (p - x.fi) ≤ (↑x.n : Int))) (Tree.leaf (Ans.mk (AV.v (Value.int IntKind.i64 (240 : Int))) [some (Blk.row [AV.v
    (Value.int IntKind.i64 (1048576 : Int)), AV.v (Value.int IntKind.i64 x.fi), AV.v (Value.int IntKind.i64 (if p < x.fa then p else x.fa)), AV.hs (1 : Nat) (x.o + (0 : Nat)) (Int.toNat
    (IntKind.wrap IntKind.i64 (p - x.fi))), AV.v (Value.int IntKind.i64 x.left), AV.v (Value.bool true)]), some (Blk.arr (1 : Nat) x.N fun j => [AV.v (Value.int IntKind.u8 (x.g j))])])))
    (Tree.leaf (Ans.mk (AV.v (Value.int IntKind.i64 (240 : Int))) [some (Blk.row [AV.v (Value.int IntKind.i64 (1048576 : Int)), AV.v (Value.int IntKind.i64 x.fi), AV.v (Value.int IntKind.i64
    x.fa), AV.hs (1 : Nat) x.o x.n, AV.v (Value.int IntKind.i64 x.left), AV.v (Value.bool true)]), some (Blk.arr (1 : Nat) x.N fun j => [AV.v (Value.int IntKind.u8 (x.g j))])]))) (Tree.br
    (decide (x.left = (0 : Int))) (Tree.br false (Tree.chk (decide ((↑(0 : Nat) : Int) ≤ IntKind.wrap IntKind.i64 (p - x.fi)) && decide (IntKind.wrap IntKind.i64 (p - x.fi) ≤ (↑x.n : Int)))
    (Tree.leaf (Ans.mk (AV.v (Value.int IntKind.i64 (170 : Int))) [some (Blk.row [AV.v (Value.int IntKind.i64 (1048576 : Int)), AV.v (Value.int IntKind.i64 x.fi), AV.v (Value.int IntKind.i64
    (if p < x.fa then p else x.fa)), AV.hs (1 : Nat) (x.o + (0 : Nat)) (Int.toNat (IntKind.wrap IntKind.i64 (p - x.fi))), AV.v (Value.int IntKind.i64 x.left), AV.v (Value.bool true)]), some
    (Blk.arr (1 : Nat) x.N fun j => [AV.v (Value.int IntKind.u8 (x.g j))])]))) (Tree.leaf (Ans.mk (AV.v (Value.int IntKind.i64 (170 : Int))) [some (Blk.row [AV.v (Value.int IntKind.i64
    (1048576 : Int)), AV.v (Value.int IntKind.i64 x.fi), AV.v (Value.int IntKind.i64 x.fa), AV.hs (1 : Nat) x.o x.n, AV.v (Value.int IntKind.i64 x.left), AV.v (Value.bool true)]), some
    (Blk.arr (1 : Nat) x.N fun j => [AV.v (Value.int IntKind.u8 (x.g j))])]))) (Tree.br (decide ((0 : Int) < x.left)) (Tree.br true (Tree.chk (decide ((↑(0 : Nat) : Int) ≤ IntKind.wrap
    IntKind.i64 (p - x.fi)) && decide (IntKind.wrap IntKind.i64 (p - x.fi) ≤ (↑x.n : Int))) (Tree.leaf (Ans.mk (AV.v (Value.int IntKind.i64 (0 : Int))) [some (Blk.row [AV.v (Value.int
    IntKind.i64 (1048576 : Int)), AV.v (Value.int IntKind.i64 x.fi), AV.v (Value.int IntKind.i64 (if p < x.fa then p else x.fa)), AV.hs (1 : Nat) (x.o + (0 : Nat)) (Int.toNat (IntKind.wrap
    IntKind.i64 (p - x.fi))), AV.v (Value.int IntKind.i64 (IntKind.wrap IntKind.i64 (x.left - (1 : Int)))), AV.v (Value.bool true)]), some (Blk.arr (1 : Nat) x.N fun j => [AV.v (Value.int
    IntKind.u8 (x.g j))])]))) (Tree.leaf (Ans.mk (AV.v (Value.int IntKind.i64 (0 : Int))) [some (Blk.row [AV.v (Value.int IntKind.i64 (1048576 : Int)), AV.v (Value.int IntKind.i64 x.fi),
    AV.v (Value.int IntKind.i64 x.fa), AV.hs (1 : Nat) x.o x.n, AV.v (Value.int IntKind.i64 (IntKind.wrap IntKind.i64 (x.left - (1 : Int)))), AV.v (Value.bool true)]), some (Blk.arr (1 :
    Nat) x.N fun j => [AV.v (Value.int IntKind.u8 (x.g j))])]))) (Tree.br true (Tree.chk (decide ((↑(0 : Nat) : Int) ≤ IntKind.wrap IntKind.i64 (p - x.fi)) && decide (IntKind.wrap
    IntKind.i64 (p - x.fi) ≤ (↑x.n : Int))) (Tree.leaf (Ans.mk (AV.v (Value.int IntKind.i64 (0 : Int))) [some (Blk.row [AV.v (Value.int IntKind.i64 (1048576 : Int)), AV.v (Value.int
    IntKind.i64 x.fi), AV.v (Value.int IntKind.i64 (if p < x.fa then p else x.fa)), AV.hs (1 : Nat) (x.o + (0 : Nat)) (Int.toNat (IntKind.wrap IntKind.i64 (p - x.fi))), AV.v (Value.int
    IntKind.i64 x.left), AV.v (Value.bool true)]), some (Blk.arr (1 : Nat) x.N fun j => [AV.v (Value.int IntKind.u8 (x.g j))])]))) (Tree.leaf (Ans.mk (AV.v (Value.int IntKind.i64 (0 : Int)))
    [some (Blk.row [AV.v (Value.int IntKind.i64 (1048576 : Int)), AV.v (Value.int IntKind.i64 x.fi), AV.v (Value.int IntKind.i64 x.fa), AV.hs (1 : Nat) x.o x.n, AV.v (Value.int IntKind.i64
    x.left), AV.v (Value.bool true)]), some (Blk.arr (1 : Nat) x.N fun j => [AV.v (Value.int IntKind.u8 (x.g j))])]))))))) := by kernel_rfl
theorem runFuse (x : Tp) (p : Int) : bodyE (P := Try.prog) (Γ := Γb) [] Lno false 15 [.tmp 4] (bodyOf Try.f38) [.ptr 0 0, .v (.int .i64 p)] (x.bl false) =
  Tree.br (decide (p < (0 : Int))) (Tree.leaf (Ans.mk (AV.v (Value.int IntKind.i64 (1 : Int))) [some (Blk.row [AV.v (Value.int IntKind.i64 (1048576 : Int)), AV.v (Value.int IntKind.i64 x.fi),
    AV.v (Value.int IntKind.i64 x.fa), AV.hs (1 : Nat) x.o x.n, AV.v (Value.int IntKind.i64 x.left), AV.v (Value.bool false)]), some (Blk.arr (1 : Nat) x.N fun j => [AV.v (Value.int
    IntKind.u8 (x.g j))])])) (Tree.leaf (Ans.mk (AV.v (Value.int IntKind.i64 (0 : Int))) [some (Blk.row [AV.v (Value.int IntKind.i64 (1048576 : Int)), AV.v (Value.int IntKind.i64 x.fi), AV.v
    (Value.int IntKind.i64 x.fa), AV.hs (1 : Nat) x.o x.n, AV.v (Value.int IntKind.i64 p), AV.v (Value.bool false)]), some (Blk.arr (1 : Nat) x.N fun j => [AV.v (Value.int IntKind.u8 (x.g
    j))])])) := by kernel_rfl
theorem runFuse1 (x : Tp) (p : Int) : bodyE (P := Try.prog) (Γ := Γb) [] Lno false 15 [.tmp 4] (bodyOf Try.f38) [.ptr 0 0, .v (.int .i64 p)] (x.bl true) =
  Tree.br (decide (p < (0 : Int))) (Tree.leaf (Ans.mk (AV.v (Value.int IntKind.i64 (1 : Int))) [some (Blk.row [AV.v (Value.int IntKind.i64 (1048576 : Int)), AV.v (Value.int IntKind.i64 x.fi),
    AV.v (Value.int IntKind.i64 x.fa), AV.hs (1 : Nat) x.o x.n, AV.v (Value.int IntKind.i64 x.left), AV.v (Value.bool true)]), some (Blk.arr (1 : Nat) x.N fun j => [AV.v (Value.int
    IntKind.u8 (x.g j))])])) (Tree.leaf (Ans.mk (AV.v (Value.int IntKind.i64 (0 : Int))) [some (Blk.row [AV.v (Value.int IntKind.i64 (1048576 : Int)), AV.v (Value.int IntKind.i64 x.fi), AV.v
    (Value.int IntKind.i64 x.fa), AV.hs (1 : Nat) x.o x.n, AV.v (Value.int IntKind.i64 p), AV.v (Value.bool true)]), some (Blk.arr (1 : Nat) x.N fun j => [AV.v (Value.int IntKind.u8 (x.g
    j))])])) := by kernel_rfl
theorem runCrash (x : Tp) (p : Int) : bodyE (P := Try.prog) (Γ := Γb) [k77] Lno false 49 [.tmp 4] (bodyOf Try.f18) [.ptr 0 0, .v (.int .i64 p)] (x.bl false) =
  Tree.chk (cl True) (Tree.chk (!decide (IntKind.wrap IntKind.u64 (IntKind.wrap IntKind.i64 (IntKind.wrap IntKind.i64 (IntKind.wrap IntKind.i64 (x.fi + (↑x.n : Int)) - x.fa) + (1 : Int))) = (0
    : Int))) (Tree.chk (decide ((↑(0 : Nat) : Int) ≤ IntKind.wrap IntKind.i64 (IntKind.wrap IntKind.i64 ((↑x.n : Int) - IntKind.wrap IntKind.i64 (IntKind.wrap IntKind.i64 (x.fi + (↑x.n :
    Int)) - x.fa)) + IntKind.wrap IntKind.i64 (Int.tmod (IntKind.wrap IntKind.u64 p) (IntKind.wrap IntKind.u64 (IntKind.wrap IntKind.i64 (IntKind.wrap IntKind.i64 (IntKind.wrap IntKind.i64
    (x.fi + (↑x.n : Int)) - x.fa) + (1 : Int))))))) && decide (IntKind.wrap IntKind.i64 (IntKind.wrap IntKind.i64 ((↑x.n : Int) - IntKind.wrap IntKind.i64 (IntKind.wrap IntKind.i64 (x.fi +
    (↑x.n : Int)) - x.fa)) + IntKind.wrap IntKind.i64 (Int.tmod (IntKind.wrap IntKind.u64 p) (IntKind.wrap IntKind.u64 (IntKind.wrap IntKind.i64 (IntKind.wrap IntKind.i64 (IntKind.wrap
    IntKind.i64 (x.fi + (↑x.n : Int)) - x.fa) + (1 : Int)))))) ≤ (↑x.n : Int))) (Tree.chk (cl True) (Tree.leaf (Ans.mk (AV.v (Value.int IntKind.i64 (0 : Int))) [some (Blk.row [AV.v
    (Value.int IntKind.i64 (1048576 : Int)), AV.v (Value.int IntKind.i64 x.fi), AV.v (Value.int IntKind.i64 (IntKind.wrap IntKind.i64 (x.fi + (↑(Int.toNat (IntKind.wrap IntKind.i64
    (IntKind.wrap IntKind.i64 ((↑x.n : Int) - IntKind.wrap IntKind.i64 (IntKind.wrap IntKind.i64 (x.fi + (↑x.n : Int)) - x.fa)) + IntKind.wrap IntKind.i64 (Int.tmod (IntKind.wrap IntKind.u64
    p) (IntKind.wrap IntKind.u64 (IntKind.wrap IntKind.i64 (IntKind.wrap IntKind.i64 (IntKind.wrap IntKind.i64 (x.fi + (↑x.n : Int)) - x.fa) + (1 : Int)))))))) : Int)))), AV.hs (1 : Nat)
    (x.o + (0 : Nat)) (Int.toNat (IntKind.wrap IntKind.i64 (IntKind.wrap IntKind.i64 ((↑x.n : Int) - IntKind.wrap IntKind.i64 (IntKind.wrap IntKind.i64 (x.fi + (↑x.n : Int)) - x.fa)) +
    IntKind.wrap IntKind.i64 (Int.tmod (IntKind.wrap IntKind.u64 p) (IntKind.wrap IntKind.u64 (IntKind.wrap IntKind.i64 (IntKind.wrap IntKind.i64 (IntKind.wrap IntKind.i64 (x.fi + (↑x.n :
    Int)) - x.fa) + (1 : Int)))))))), AV.v (Value.int IntKind.i64 (-1 : Int)), AV.v (Value.bool false)]), some (Blk.arr (1 : Nat) x.N fun j => [AV.v (Value.int IntKind.u8 (x.g j))])]))))) := by kernel_rfl
theorem runCrash1 (x : Tp) (p : Int) : bodyE (P := Try.prog) (Γ := Γb) [k77] Lno false 49 [.tmp 4] (bodyOf Try.f18) [.ptr 0 0, .v (.int .i64 p)] (x.bl true) =
  Tree.chk (cl True) (Tree.chk (!decide (IntKind.wrap IntKind.u64 (IntKind.wrap IntKind.i64 (IntKind.wrap IntKind.i64 (IntKind.wrap IntKind.i64 (x.fi + (↑x.n : Int)) - x.fa) + (1 : Int))) = (0
    : Int))) (Tree.chk (decide ((↑(0 : Nat) : Int) ≤ IntKind.wrap IntKind.i64 (IntKind.wrap IntKind.i64 ((↑x.n : Int) - IntKind.wrap IntKind.i64 (IntKind.wrap IntKind.i64 (x.fi + (↑x.n :
    Int)) - x.fa)) + IntKind.wrap IntKind.i64 (Int.tmod (IntKind.wrap IntKind.u64 p) (IntKind.wrap IntKind.u64 (IntKind.wrap IntKind.i64 (IntKind.wrap IntKind.i64 (IntKind.wrap IntKind.i64
    (x.fi + (↑x.n : Int)) - x.fa) + (1 : Int))))))) && decide (IntKind.wrap IntKind.i64 (IntKind.wrap IntKind.i64 ((↑x.n : Int) - IntKind.wrap IntKind.i64 (IntKind.wrap IntKind.i64 (x.fi +
    (↑x.n : Int)) - x.fa)) + IntKind.wrap IntKind.i64 (Int.tmod (IntKind.wrap IntKind.u64 p) (IntKind.wrap IntKind.u64 (IntKind.wrap IntKind.i64 (IntKind.wrap IntKind.i64 (IntKind.wrap
    IntKind.i64 (x.fi + (↑x.n : Int)) - x.fa) + (1 : Int)))))) ≤ (↑x.n : Int))) (Tree.chk (cl True) (Tree.leaf (Ans.mk (AV.v (Value.int IntKind.i64 (0 : Int))) [some (Blk.row [AV.v
    (Value.int IntKind.i64 (1048576 : Int)), AV.v (Value.int IntKind.i64 x.fi), AV.v (Value.int IntKind.i64 (IntKind.wrap IntKind.i64 (x.fi + (↑(Int.toNat (IntKind.wrap IntKind.i64
    (IntKind.wrap IntKind.i64 ((↑x.n : Int) - IntKind.wrap IntKind.i64 (IntKind.wrap IntKind.i64 (x.fi + (↑x.n : Int)) - x.fa)) + IntKind.wrap IntKind.i64 (Int.tmod (IntKind.wrap IntKind.u64
    p) (IntKind.wrap IntKind.u64 (IntKind.wrap IntKind.i64 (IntKind.wrap IntKind.i64 (IntKind.wrap IntKind.i64 (x.fi + (↑x.n : Int)) - x.fa) + (1 : Int)))))))) : Int)))), AV.hs (1 : Nat)
    (x.o + (0 : Nat)) (Int.toNat (IntKind.wrap IntKind.i64 (IntKind.wrap IntKind.i64 ((↑x.n : Int) - IntKind.wrap IntKind.i64 (IntKind.wrap IntKind.i64 (x.fi + (↑x.n : Int)) - x.fa)) +
    IntKind.wrap IntKind.i64 (Int.tmod (IntKind.wrap IntKind.u64 p) (IntKind.wrap IntKind.u64 (IntKind.wrap IntKind.i64 (IntKind.wrap IntKind.i64 (IntKind.wrap IntKind.i64 (x.fi + (↑x.n :
    Int)) - x.fa) + (1 : Int)))))))), AV.v (Value.int IntKind.i64 (-1 : Int)), AV.v (Value.bool false)]), some (Blk.arr (1 : Nat) x.N fun j => [AV.v (Value.int IntKind.u8 (x.g j))])]))))) := by kernel_rfl
theorem runOn (x : Tp) : bodyE (P := Try.prog) (Γ := Γb) [] Lno false 12 [.tmp 2] (bodyOf Try.f17) [.ptr 0 0] (x.bl false) =
  Tree.leaf (Ans.mk (AV.v (Value.bool true)) [some (Blk.row [AV.v (Value.int IntKind.i64 (1048576 : Int)), AV.v (Value.int IntKind.i64 x.fi), AV.v (Value.int IntKind.i64 x.fa), AV.hs (1 : Nat)
    x.o x.n, AV.v (Value.int IntKind.i64 x.left), AV.v (Value.bool false)]), some (Blk.arr (1 : Nat) x.N fun j => [AV.v (Value.int IntKind.u8 (x.g j))])]) := by kernel_rfl
theorem runOn1 (x : Tp) : bodyE (P := Try.prog) (Γ := Γb) [] Lno false 12 [.tmp 2] (bodyOf Try.f17) [.ptr 0 0] (x.bl true) =
  Tree.leaf (Ans.mk (AV.v (Value.bool false)) [some (Blk.row [AV.v (Value.int IntKind.i64 (1048576 : Int)), AV.v (Value.int IntKind.i64 x.fi), AV.v (Value.int IntKind.i64 x.fa), AV.hs (1 :
    Nat) x.o x.n, AV.v (Value.int IntKind.i64 x.left), AV.v (Value.bool true)]), some (Blk.arr (1 : Nat) x.N fun j => [AV.v (Value.int IntKind.u8 (x.g j))])]) := by kernel_rfl
theorem runPl (x : Tp) : bodyE (P := Try.prog) (Γ := Γb) [k77] Lno false 17 [.tmp 2, .tmp 3, .tmp 4] (bodyOf Try.f20) [.ptr 0 0] (x.bl false) =
  Tree.chk (cl True) (Tree.leaf (Ans.mk (AV.tup [AV.v (Value.int IntKind.i64 x.fi), AV.v (Value.int IntKind.i64 x.fa), AV.v (Value.int IntKind.i64 (IntKind.wrap IntKind.i64 (x.fi + (↑x.n :
    Int))))]) [some (Blk.row [AV.v (Value.int IntKind.i64 (1048576 : Int)), AV.v (Value.int IntKind.i64 x.fi), AV.v (Value.int IntKind.i64 x.fa), AV.hs (1 : Nat) x.o x.n, AV.v (Value.int
    IntKind.i64 x.left), AV.v (Value.bool false)]), some (Blk.arr (1 : Nat) x.N fun j => [AV.v (Value.int IntKind.u8 (x.g j))])])) := by kernel_rfl
theorem runPl1 (x : Tp) : bodyE (P := Try.prog) (Γ := Γb) [k77] Lno false 17 [.tmp 2, .tmp 3, .tmp 4] (bodyOf Try.f20) [.ptr 0 0] (x.bl true) =
  Tree.chk (cl True) (Tree.leaf (Ans.mk (AV.tup [AV.v (Value.int IntKind.i64 x.fi), AV.v (Value.int IntKind.i64 x.fa), AV.v (Value.int IntKind.i64 (IntKind.wrap IntKind.i64 (x.fi + (↑x.n :
    Int))))]) [some (Blk.row [AV.v (Value.int IntKind.i64 (1048576 : Int)), AV.v (Value.int IntKind.i64 x.fi), AV.v (Value.int IntKind.i64 x.fa), AV.hs (1 : Nat) x.o x.n, AV.v (Value.int
    IntKind.i64 x.left), AV.v (Value.bool true)]), some (Blk.arr (1 : Nat) x.N fun j => [AV.v (Value.int IntKind.u8 (x.g j))])])) := by kernel_rfl
end Go.Eng.SB.T

namespace Go.Eng.SB.T
open Go Go.Eng Go.Eng.SB Go.Lib Go.Proofs
structure Ta where
  x : Tp
  off : Bool
@[reducible] def Ta.bl (a : Ta) : List Blk := a.x.bl a.off
structure Ta.Inv (a : Ta) (m : Nat) : Prop where
  l0 : 0 ≤ a.x.fi
  l1 : a.x.fi ≤ a.x.fa
  l2 : a.x.fa ≤ a.x.fi + (a.x.n : Int)
  l3 : a.x.fi + (a.x.n : Int) ≤ (m : Int)
  l4 : a.x.o + a.x.n ≤ a.x.N
  l5 : -1 ≤ a.x.left
  l6 : a.x.left ≤ 9223372036854775807
  l7 : ∀ j, 0 ≤ a.x.g j ∧ a.x.g j < 256
  l8 : a.x.n ≤ 1048576
def dec (l : Int) : Int := if 0 < l then l - 1 else l
def Ta.hold (a : Ta) : Ta := if a.off = true then a else if a.x.left = 0 then { a with off := true } else { a with x := { a.x with left := dec a.x.left, fa := a.x.fi + (a.x.n : Int) } }
def Ta.shed (a : Ta) (p : Int) : Ta := if a.off = true then a else if p < a.x.fi ∨ a.x.fa < p then a else if a.x.left = 0 then { a with off := true } else { a with x := { a.x with left := dec a.x.left, fi := p, o := a.x.o + (p - a.x.fi).toNat, n := a.x.n - (p - a.x.fi).toNat } }
def Ta.back (a : Ta) (p : Int) : Ta := if a.off = true then a else if p < a.x.fi ∨ a.x.fi + (a.x.n : Int) < p then a else if a.x.left = 0 then { a with off := true } else { a with x := { a.x with left := dec a.x.left, n := (p - a.x.fi).toNat, fa := if p < a.x.fa then p else a.x.fa } }
def Ta.fuse (a : Ta) (p : Int) : Ta := if p < 0 then a else { a with x := { a.x with left := p } }
theorem wrapM {n : Int} (h : 0 ≤ n) (h' : n ≤ 9223372036854775807) : IntKind.i64.wrap n = n := by rw [wrap64E]; omega
theorem dec_pos {l : Int} (h : 0 < l) : dec l = l - 1 := if_pos h
theorem dec_neg {l : Int} (h : ¬ 0 < l) : dec l = l := if_neg h
theorem ansHold {a : Ta} {m : Nat} (hi : a.Inv m) (hm : m ≤ 1000000) : Answers Try.prog Γb 74 [.ptr 0 0] a.bl .any (a.hold.bl.map some) [] := answers (fn := Try.f74) (c := bodyOf Try.f74) (ntmps := 18) (results := [.tmp 2]) [k78, k118, k77] Lno false Try.func74 (by kernel_rfl) (by kernel_rfl) (by kernel_rfl) (by kernel_rfl) (by simp) rfl (noLoops (by kernel_rfl)) (by
  obtain ⟨l0, l1, l2, l3, l4, l5, l6, l7, l8⟩ := hi
  obtain ⟨⟨fi, fa, o, n, N, g, left⟩, off⟩ := a
  simp only at l0 l1 l2 l3 l4 l5 l6 l7 l8
  have w1 : IntKind.i64.wrap (fi + (n : Int)) = fi + (n : Int) := wrapM (by omega) (by omega)
  cases off with
  | true =>
    refine Meets.of (runHold1 _) ?_
    simp only [Ta.hold, if_true]
    repeat' (first | refine wC (by first | omega | (simp only [W1, cond_true, cond_false]; first | done | omega)) ?_ | refine wT (by first | omega | (simp only [W1, cond_true, cond_false]; first | done | omega)) ?_ | refine wF (by intro _h; first | omega | (simp only [W1, cond_true, cond_false] at _h; first | done | omega)) ?_ | (refine wS ?_ ?_ <;> intro _h <;> simp only [W1, cond_true, cond_false] at _h))
    all_goals simp only [or_true, true_or, false_or, or_false, and_false, false_and, cond_true, cond_false, Bool.not_true, Bool.not_false, Bool.false_eq_true, Bool.true_eq_false, not_true_eq_false, not_false_eq_true, false_implies, true_implies, implies_true, Nat.blt_eq, owesN, owesX, owesR, notT, sat_brT, sat_brF, sat_chkT, cl_iff, cl_false, AV.le_refl, AV.le_any, OLe_refl, OLe_none, sat_brN, Tree.sat_chk, Tree.sat_leaf, Tree.sat_fail, Nat.zero_add, Nat.sub_zero, Int.toNat_natCast, LeH_cons, LeH_nil, LeL_cons, LeL_nil, and_true, true_and, Bool.and_eq_true, Bool.or_eq_true, decide_eq_true_eq, decide_eq_false_iff_not, Bool.cond_true_left, Bool.cond_false_right, List.cons_append, List.nil_append, List.map_cons, List.map_nil]
    repeat' (first | apply And.intro | intro _hc)
    all_goals first | exact AV.le_refl _ | exact AV.le_any _ | exact OLe.refl _ | exact OLe.none _ | exact LeH.refl _ | exact LeL.refl _ | exact AV.le.bs _ | exact AV.le.sb _ | omega | contradiction
  | false =>
    refine Meets.of (runHold _) ?_
    simp only [Ta.hold, Bool.false_eq_true, if_false]
    by_cases h0 : left = 0
    · rw [if_pos h0]
      repeat' (first | refine wC (by first | omega | (simp only [W1, cond_true, cond_false]; first | done | omega)) ?_ | refine wT (by first | omega | (simp only [W1, cond_true, cond_false]; first | done | omega)) ?_ | refine wF (by intro _h; first | omega | (simp only [W1, cond_true, cond_false] at _h; first | done | omega)) ?_ | (refine wS ?_ ?_ <;> intro _h <;> simp only [W1, cond_true, cond_false] at _h))
      all_goals simp only [or_true, true_or, false_or, or_false, and_false, false_and, cond_true, cond_false, Bool.not_true, Bool.not_false, Bool.false_eq_true, Bool.true_eq_false, not_true_eq_false, not_false_eq_true, false_implies, true_implies, implies_true, Nat.blt_eq, owesN, owesX, owesR, notT, sat_brT, sat_brF, sat_chkT, cl_iff, cl_false, AV.le_refl, AV.le_any, OLe_refl, OLe_none, sat_brN, Tree.sat_chk, Tree.sat_leaf, Tree.sat_fail, Nat.zero_add, Nat.sub_zero, Int.toNat_natCast, LeH_cons, LeH_nil, LeL_cons, LeL_nil, and_true, true_and, Bool.and_eq_true, Bool.or_eq_true, decide_eq_true_eq, decide_eq_false_iff_not, Bool.cond_true_left, Bool.cond_false_right, List.cons_append, List.nil_append, List.map_cons, List.map_nil]
      repeat' (first | apply And.intro | intro _hc)
      all_goals first | exact AV.le_refl _ | exact AV.le_any _ | exact OLe.refl _ | exact OLe.none _ | exact LeH.refl _ | exact LeL.refl _ | exact AV.le.bs _ | exact AV.le.sb _ | omega | contradiction
    · rw [if_neg h0]
      by_cases h1 : 0 < left
      · have w2 : IntKind.i64.wrap (left - 1) = left - 1 := wrapM (by omega) (by omega)
        have d := dec_pos h1
        repeat' (first | refine wC (by first | omega | (simp only [W1, cond_true, cond_false, w1, w2, d]; first | done | omega)) ?_ | refine wT (by first | omega | (simp only [W1, cond_true, cond_false, w1, w2, d]; first | done | omega)) ?_ | refine wF (by intro _h; first | omega | (simp only [W1, cond_true, cond_false, w1, w2, d] at _h; first | done | omega)) ?_ | (refine wS ?_ ?_ <;> intro _h <;> simp only [W1, cond_true, cond_false, w1, w2, d] at _h))
        all_goals simp only [or_true, true_or, false_or, or_false, and_false, false_and, cond_true, cond_false, Bool.not_true, Bool.not_false, Bool.false_eq_true, Bool.true_eq_false, not_true_eq_false, not_false_eq_true, false_implies, true_implies, implies_true, Nat.blt_eq, owesN, owesX, owesR, notT, sat_brT, sat_brF, sat_chkT, cl_iff, cl_false, AV.le_refl, AV.le_any, OLe_refl, OLe_none, sat_brN, Tree.sat_chk, Tree.sat_leaf, Tree.sat_fail, Nat.zero_add, Nat.sub_zero, Int.toNat_natCast, LeH_cons, LeH_nil, LeL_cons, LeL_nil, and_true, true_and, Bool.and_eq_true, Bool.or_eq_true, decide_eq_true_eq, decide_eq_false_iff_not, Bool.cond_true_left, Bool.cond_false_right, List.cons_append, List.nil_append, List.map_cons, List.map_nil, w1, w2, d]
        repeat' (first | apply And.intro | intro _hc)
        all_goals first | exact AV.le_refl _ | exact AV.le_any _ | exact OLe.refl _ | exact OLe.none _ | exact LeH.refl _ | exact LeL.refl _ | exact AV.le.bs _ | exact AV.le.sb _ | omega | contradiction
      · have d := dec_neg h1
        repeat' (first | refine wC (by first | omega | (simp only [W1, cond_true, cond_false, w1, d]; first | done | omega)) ?_ | refine wT (by first | omega | (simp only [W1, cond_true, cond_false, w1, d]; first | done | omega)) ?_ | refine wF (by intro _h; first | omega | (simp only [W1, cond_true, cond_false, w1, d] at _h; first | done | omega)) ?_ | (refine wS ?_ ?_ <;> intro _h <;> simp only [W1, cond_true, cond_false, w1, d] at _h))
        all_goals simp only [or_true, true_or, false_or, or_false, and_false, false_and, cond_true, cond_false, Bool.not_true, Bool.not_false, Bool.false_eq_true, Bool.true_eq_false, not_true_eq_false, not_false_eq_true, false_implies, true_implies, implies_true, Nat.blt_eq, owesN, owesX, owesR, notT, sat_brT, sat_brF, sat_chkT, cl_iff, cl_false, AV.le_refl, AV.le_any, OLe_refl, OLe_none, sat_brN, Tree.sat_chk, Tree.sat_leaf, Tree.sat_fail, Nat.zero_add, Nat.sub_zero, Int.toNat_natCast, LeH_cons, LeH_nil, LeL_cons, LeL_nil, and_true, true_and, Bool.and_eq_true, Bool.or_eq_true, decide_eq_true_eq, decide_eq_false_iff_not, Bool.cond_true_left, Bool.cond_false_right, List.cons_append, List.nil_append, List.map_cons, List.map_nil, w1, d]
        repeat' (first | apply And.intro | intro _hc)
        all_goals first | exact AV.le_refl _ | exact AV.le_any _ | exact OLe.refl _ | exact OLe.none _ | exact LeH.refl _ | exact LeL.refl _ | exact AV.le.bs _ | exact AV.le.sb _ | omega | contradiction
  )
theorem ansShed {a : Ta} {m : Nat} (hi : a.Inv m) (hm : m ≤ 1000000) (p : Int) (hp : -9223372036854775808 ≤ p ∧ p ≤ 9223372036854775807) : Answers Try.prog Γb 75 [.ptr 0 0, .v (.int .i64 p)] a.bl .any ((a.shed p).bl.map some) [] := answers (fn := Try.f75) (c := bodyOf Try.f75) (ntmps := 44) (results := [.tmp 4]) [k78, k119] Lno false Try.func75 (by kernel_rfl) (by kernel_rfl) (by kernel_rfl) (by kernel_rfl) (by simp) rfl (noLoops (by kernel_rfl)) (by
  obtain ⟨l0, l1, l2, l3, l4, l5, l6, l7, l8⟩ := hi
  obtain ⟨⟨fi, fa, o, n, N, g, left⟩, off⟩ := a
  simp only at l0 l1 l2 l3 l4 l5 l6 l7 l8
  have w1 : IntKind.i64.wrap (fi + (n : Int)) = fi + (n : Int) := wrapM (by omega) (by omega)
  cases off with
  | true =>
    refine Meets.of (runShed1 _ p) ?_
    simp only [Ta.shed, if_true]
    repeat' (first | refine wC (by first | omega | (simp only [W1, cond_true, cond_false]; first | done | omega)) ?_ | refine wT (by first | omega | (simp only [W1, cond_true, cond_false]; first | done | omega)) ?_ | refine wF (by intro _h; first | omega | (simp only [W1, cond_true, cond_false] at _h; first | done | omega)) ?_ | (refine wS ?_ ?_ <;> intro _h <;> simp only [W1, cond_true, cond_false] at _h))
    all_goals simp only [or_true, true_or, false_or, or_false, and_false, false_and, cond_true, cond_false, Bool.not_true, Bool.not_false, Bool.false_eq_true, Bool.true_eq_false, not_true_eq_false, not_false_eq_true, false_implies, true_implies, implies_true, Nat.blt_eq, owesN, owesX, owesR, notT, sat_brT, sat_brF, sat_chkT, cl_iff, cl_false, AV.le_refl, AV.le_any, OLe_refl, OLe_none, sat_brN, Tree.sat_chk, Tree.sat_leaf, Tree.sat_fail, Nat.zero_add, Nat.sub_zero, Int.toNat_natCast, LeH_cons, LeH_nil, LeL_cons, LeL_nil, and_true, true_and, Bool.and_eq_true, Bool.or_eq_true, decide_eq_true_eq, decide_eq_false_iff_not, Bool.cond_true_left, Bool.cond_false_right, List.cons_append, List.nil_append, List.map_cons, List.map_nil]
    repeat' (first | apply And.intro | intro _hc)
    all_goals first | exact AV.le_refl _ | exact AV.le_any _ | exact OLe.refl _ | exact OLe.none _ | exact LeH.refl _ | exact LeL.refl _ | exact AV.le.bs _ | exact AV.le.sb _ | omega | contradiction
  | false =>
    refine Meets.of (runShed _ p) ?_
    simp only [Ta.shed, Bool.false_eq_true, if_false]
    by_cases hg : p < fi ∨ fa < p
    · rw [if_pos hg]
      have hgd : (bif decide (p < fi) then true else decide (fa < p)) = true := by rcases hg with h | h <;> simp [h]
      repeat' (first | refine wC (by first | omega | (simp only [W1, cond_true, cond_false, hgd, w1]; first | done | omega)) ?_ | refine wT (by first | omega | (simp only [W1, cond_true, cond_false, hgd, w1]; first | done | omega)) ?_ | refine wF (by intro _h; first | omega | (simp only [W1, cond_true, cond_false, hgd, w1] at _h; first | done | omega)) ?_ | (refine wS ?_ ?_ <;> intro _h <;> simp only [W1, cond_true, cond_false, hgd, w1] at _h))
      all_goals simp only [or_true, true_or, false_or, or_false, and_false, false_and, cond_true, cond_false, Bool.not_true, Bool.not_false, Bool.false_eq_true, Bool.true_eq_false, not_true_eq_false, not_false_eq_true, false_implies, true_implies, implies_true, Nat.blt_eq, owesN, owesX, owesR, notT, sat_brT, sat_brF, sat_chkT, cl_iff, cl_false, AV.le_refl, AV.le_any, OLe_refl, OLe_none, sat_brN, Tree.sat_chk, Tree.sat_leaf, Tree.sat_fail, Nat.zero_add, Nat.sub_zero, Int.toNat_natCast, LeH_cons, LeH_nil, LeL_cons, LeL_nil, and_true, true_and, Bool.and_eq_true, Bool.or_eq_true, decide_eq_true_eq, decide_eq_false_iff_not, Bool.cond_true_left, Bool.cond_false_right, List.cons_append, List.nil_append, List.map_cons, List.map_nil, hgd, w1]
      repeat' (first | apply And.intro | intro _hc)
      all_goals first | exact AV.le_refl _ | exact AV.le_any _ | exact OLe.refl _ | exact OLe.none _ | exact LeH.refl _ | exact LeL.refl _ | exact AV.le.bs _ | exact AV.le.sb _ | omega | contradiction
    · rw [if_neg hg]
      have hgd : (bif decide (p < fi) then true else decide (fa < p)) = false := by simp only [cond_eq_ite]; rw [decide_eq_false (fun h => hg (.inl h)), decide_eq_false (fun h => hg (.inr h))]; rfl
      have w3 : IntKind.i64.wrap (p - fi) = p - fi := wrapM (by omega) (by omega)
      by_cases h0 : left = 0
      · rw [if_pos h0]
        repeat' (first | refine wC (by first | omega | (simp only [W1, cond_true, cond_false, hgd, w1]; first | done | omega)) ?_ | refine wT (by first | omega | (simp only [W1, cond_true, cond_false, hgd, w1]; first | done | omega)) ?_ | refine wF (by intro _h; first | omega | (simp only [W1, cond_true, cond_false, hgd, w1] at _h; first | done | omega)) ?_ | (refine wS ?_ ?_ <;> intro _h <;> simp only [W1, cond_true, cond_false, hgd, w1] at _h))
        all_goals simp only [or_true, true_or, false_or, or_false, and_false, false_and, cond_true, cond_false, Bool.not_true, Bool.not_false, Bool.false_eq_true, Bool.true_eq_false, not_true_eq_false, not_false_eq_true, false_implies, true_implies, implies_true, Nat.blt_eq, owesN, owesX, owesR, notT, sat_brT, sat_brF, sat_chkT, cl_iff, cl_false, AV.le_refl, AV.le_any, OLe_refl, OLe_none, sat_brN, Tree.sat_chk, Tree.sat_leaf, Tree.sat_fail, Nat.zero_add, Nat.sub_zero, Int.toNat_natCast, LeH_cons, LeH_nil, LeL_cons, LeL_nil, and_true, true_and, Bool.and_eq_true, Bool.or_eq_true, decide_eq_true_eq, decide_eq_false_iff_not, Bool.cond_true_left, Bool.cond_false_right, List.cons_append, List.nil_append, List.map_cons, List.map_nil, hgd, w1]
        repeat' (first | apply And.intro | intro _hc)
        all_goals first | exact AV.le_refl _ | exact AV.le_any _ | exact OLe.refl _ | exact OLe.none _ | exact LeH.refl _ | exact LeL.refl _ | exact AV.le.bs _ | exact AV.le.sb _ | omega | contradiction
      · rw [if_neg h0]
        by_cases h1 : 0 < left
        · have w2 : IntKind.i64.wrap (left - 1) = left - 1 := wrapM (by omega) (by omega)
          have d := dec_pos h1
          repeat' (first | refine wC (by first | omega | (simp only [W1, cond_true, cond_false, hgd, w3, w1, w2, d]; first | done | omega)) ?_ | refine wT (by first | omega | (simp only [W1, cond_true, cond_false, hgd, w3, w1, w2, d]; first | done | omega)) ?_ | refine wF (by intro _h; first | omega | (simp only [W1, cond_true, cond_false, hgd, w3, w1, w2, d] at _h; first | done | omega)) ?_ | (refine wS ?_ ?_ <;> intro _h <;> simp only [W1, cond_true, cond_false, hgd, w3, w1, w2, d] at _h))
          all_goals simp only [or_true, true_or, false_or, or_false, and_false, false_and, cond_true, cond_false, Bool.not_true, Bool.not_false, Bool.false_eq_true, Bool.true_eq_false, not_true_eq_false, not_false_eq_true, false_implies, true_implies, implies_true, Nat.blt_eq, owesN, owesX, owesR, notT, sat_brT, sat_brF, sat_chkT, cl_iff, cl_false, AV.le_refl, AV.le_any, OLe_refl, OLe_none, sat_brN, Tree.sat_chk, Tree.sat_leaf, Tree.sat_fail, Nat.zero_add, Nat.sub_zero, Int.toNat_natCast, LeH_cons, LeH_nil, LeL_cons, LeL_nil, and_true, true_and, Bool.and_eq_true, Bool.or_eq_true, decide_eq_true_eq, decide_eq_false_iff_not, Bool.cond_true_left, Bool.cond_false_right, List.cons_append, List.nil_append, List.map_cons, List.map_nil, hgd, w3, w1, w2, d]
          repeat' (first | apply And.intro | intro _hc)
          all_goals first | exact AV.le_refl _ | exact AV.le_any _ | exact OLe.refl _ | exact OLe.none _ | exact LeH.refl _ | exact LeL.refl _ | exact AV.le.bs _ | exact AV.le.sb _ | omega | contradiction
        · have d := dec_neg h1
          repeat' (first | refine wC (by first | omega | (simp only [W1, cond_true, cond_false, hgd, w3, w1, d]; first | done | omega)) ?_ | refine wT (by first | omega | (simp only [W1, cond_true, cond_false, hgd, w3, w1, d]; first | done | omega)) ?_ | refine wF (by intro _h; first | omega | (simp only [W1, cond_true, cond_false, hgd, w3, w1, d] at _h; first | done | omega)) ?_ | (refine wS ?_ ?_ <;> intro _h <;> simp only [W1, cond_true, cond_false, hgd, w3, w1, d] at _h))
          all_goals simp only [or_true, true_or, false_or, or_false, and_false, false_and, cond_true, cond_false, Bool.not_true, Bool.not_false, Bool.false_eq_true, Bool.true_eq_false, not_true_eq_false, not_false_eq_true, false_implies, true_implies, implies_true, Nat.blt_eq, owesN, owesX, owesR, notT, sat_brT, sat_brF, sat_chkT, cl_iff, cl_false, AV.le_refl, AV.le_any, OLe_refl, OLe_none, sat_brN, Tree.sat_chk, Tree.sat_leaf, Tree.sat_fail, Nat.zero_add, Nat.sub_zero, Int.toNat_natCast, LeH_cons, LeH_nil, LeL_cons, LeL_nil, and_true, true_and, Bool.and_eq_true, Bool.or_eq_true, decide_eq_true_eq, decide_eq_false_iff_not, Bool.cond_true_left, Bool.cond_false_right, List.cons_append, List.nil_append, List.map_cons, List.map_nil, hgd, w3, w1, d]
          repeat' (first | apply And.intro | intro _hc)
          all_goals first | exact AV.le_refl _ | exact AV.le_any _ | exact OLe.refl _ | exact OLe.none _ | exact LeH.refl _ | exact LeL.refl _ | exact AV.le.bs _ | exact AV.le.sb _ | omega | contradiction
  )
theorem ansBack {a : Ta} {m : Nat} (hi : a.Inv m) (hm : m ≤ 1000000) (p : Int) (hp : -9223372036854775808 ≤ p ∧ p ≤ 9223372036854775807) : Answers Try.prog Γb 76 [.ptr 0 0, .v (.int .i64 p)] a.bl .any ((a.back p).bl.map some) [] := answers (fn := Try.f76) (c := bodyOf Try.f76) (ntmps := 47) (results := [.tmp 4]) [k78, k77, k119] Lno false Try.func76 (by kernel_rfl) (by kernel_rfl) (by kernel_rfl) (by kernel_rfl) (by simp) rfl (noLoops (by kernel_rfl)) (by
  obtain ⟨l0, l1, l2, l3, l4, l5, l6, l7, l8⟩ := hi
  obtain ⟨⟨fi, fa, o, n, N, g, left⟩, off⟩ := a
  simp only at l0 l1 l2 l3 l4 l5 l6 l7 l8
  have w1 : IntKind.i64.wrap (fi + (n : Int)) = fi + (n : Int) := wrapM (by omega) (by omega)
  cases off with
  | true =>
    refine Meets.of (runBack1 _ p) ?_
    simp only [Ta.back, if_true]
    repeat' (first | refine wC (by first | omega | (simp only [W1, cond_true, cond_false]; first | done | omega)) ?_ | refine wT (by first | omega | (simp only [W1, cond_true, cond_false]; first | done | omega)) ?_ | refine wF (by intro _h; first | omega | (simp only [W1, cond_true, cond_false] at _h; first | done | omega)) ?_ | (refine wS ?_ ?_ <;> intro _h <;> simp only [W1, cond_true, cond_false] at _h))
    all_goals simp only [or_true, true_or, false_or, or_false, and_false, false_and, cond_true, cond_false, Bool.not_true, Bool.not_false, Bool.false_eq_true, Bool.true_eq_false, not_true_eq_false, not_false_eq_true, false_implies, true_implies, implies_true, Nat.blt_eq, owesN, owesX, owesR, notT, sat_brT, sat_brF, sat_chkT, cl_iff, cl_false, AV.le_refl, AV.le_any, OLe_refl, OLe_none, sat_brN, Tree.sat_chk, Tree.sat_leaf, Tree.sat_fail, Nat.zero_add, Nat.sub_zero, Int.toNat_natCast, LeH_cons, LeH_nil, LeL_cons, LeL_nil, and_true, true_and, Bool.and_eq_true, Bool.or_eq_true, decide_eq_true_eq, decide_eq_false_iff_not, Bool.cond_true_left, Bool.cond_false_right, List.cons_append, List.nil_append, List.map_cons, List.map_nil]
    repeat' (first | apply And.intro | intro _hc)
    all_goals first | exact AV.le_refl _ | exact AV.le_any _ | exact OLe.refl _ | exact OLe.none _ | exact LeH.refl _ | exact LeL.refl _ | exact AV.le.bs _ | exact AV.le.sb _ | omega | contradiction
  | false =>
    refine Meets.of (runBack _ p) ?_
    simp only [Ta.back, Bool.false_eq_true, if_false]
    by_cases hg : p < fi ∨ fi + (n : Int) < p
    · rw [if_pos hg]
      have hgd : (bif decide (p < fi) then true else decide (fi + (n : Int) < p)) = true := by rcases hg with h | h <;> simp [h]
      repeat' (first | refine wC (by first | omega | (simp only [W1, cond_true, cond_false, hgd, w1]; first | done | omega)) ?_ | refine wT (by first | omega | (simp only [W1, cond_true, cond_false, hgd, w1]; first | done | omega)) ?_ | refine wF (by intro _h; first | omega | (simp only [W1, cond_true, cond_false, hgd, w1] at _h; first | done | omega)) ?_ | (refine wS ?_ ?_ <;> intro _h <;> simp only [W1, cond_true, cond_false, hgd, w1] at _h))
      all_goals simp only [or_true, true_or, false_or, or_false, and_false, false_and, cond_true, cond_false, Bool.not_true, Bool.not_false, Bool.false_eq_true, Bool.true_eq_false, not_true_eq_false, not_false_eq_true, false_implies, true_implies, implies_true, Nat.blt_eq, owesN, owesX, owesR, notT, sat_brT, sat_brF, sat_chkT, cl_iff, cl_false, AV.le_refl, AV.le_any, OLe_refl, OLe_none, sat_brN, Tree.sat_chk, Tree.sat_leaf, Tree.sat_fail, Nat.zero_add, Nat.sub_zero, Int.toNat_natCast, LeH_cons, LeH_nil, LeL_cons, LeL_nil, and_true, true_and, Bool.and_eq_true, Bool.or_eq_true, decide_eq_true_eq, decide_eq_false_iff_not, Bool.cond_true_left, Bool.cond_false_right, List.cons_append, List.nil_append, List.map_cons, List.map_nil, hgd, w1]
      repeat' (first | apply And.intro | intro _hc)
      all_goals first | exact AV.le_refl _ | exact AV.le_any _ | exact OLe.refl _ | exact OLe.none _ | exact LeH.refl _ | exact LeL.refl _ | exact AV.le.bs _ | exact AV.le.sb _ | omega | contradiction
    · rw [if_neg hg]
      have hgd : (bif decide (p < fi) then true else decide (fi + (n : Int) < p)) = false := by simp only [cond_eq_ite]; rw [decide_eq_false (fun h => hg (.inl h)), decide_eq_false (fun h => hg (.inr h))]; rfl
      have w3 : IntKind.i64.wrap (p - fi) = p - fi := wrapM (by omega) (by omega)
      by_cases h0 : left = 0
      · rw [if_pos h0]
        repeat' (first | refine wC (by first | omega | (simp only [W1, cond_true, cond_false, hgd, w1]; first | done | omega)) ?_ | refine wT (by first | omega | (simp only [W1, cond_true, cond_false, hgd, w1]; first | done | omega)) ?_ | refine wF (by intro _h; first | omega | (simp only [W1, cond_true, cond_false, hgd, w1] at _h; first | done | omega)) ?_ | (refine wS ?_ ?_ <;> intro _h <;> simp only [W1, cond_true, cond_false, hgd, w1] at _h))
        all_goals simp only [or_true, true_or, false_or, or_false, and_false, false_and, cond_true, cond_false, Bool.not_true, Bool.not_false, Bool.false_eq_true, Bool.true_eq_false, not_true_eq_false, not_false_eq_true, false_implies, true_implies, implies_true, Nat.blt_eq, owesN, owesX, owesR, notT, sat_brT, sat_brF, sat_chkT, cl_iff, cl_false, AV.le_refl, AV.le_any, OLe_refl, OLe_none, sat_brN, Tree.sat_chk, Tree.sat_leaf, Tree.sat_fail, Nat.zero_add, Nat.sub_zero, Int.toNat_natCast, LeH_cons, LeH_nil, LeL_cons, LeL_nil, and_true, true_and, Bool.and_eq_true, Bool.or_eq_true, decide_eq_true_eq, decide_eq_false_iff_not, Bool.cond_true_left, Bool.cond_false_right, List.cons_append, List.nil_append, List.map_cons, List.map_nil, hgd, w1]
        repeat' (first | apply And.intro | intro _hc)
        all_goals first | exact AV.le_refl _ | exact AV.le_any _ | exact OLe.refl _ | exact OLe.none _ | exact LeH.refl _ | exact LeL.refl _ | exact AV.le.bs _ | exact AV.le.sb _ | omega | contradiction
      · rw [if_neg h0]
        by_cases h1 : 0 < left
        · have w2 : IntKind.i64.wrap (left - 1) = left - 1 := wrapM (by omega) (by omega)
          have d := dec_pos h1
          repeat' (first | refine wC (by first | omega | (simp only [W1, cond_true, cond_false, hgd, w3, w1, w2, d]; first | done | omega)) ?_ | refine wT (by first | omega | (simp only [W1, cond_true, cond_false, hgd, w3, w1, w2, d]; first | done | omega)) ?_ | refine wF (by intro _h; first | omega | (simp only [W1, cond_true, cond_false, hgd, w3, w1, w2, d] at _h; first | done | omega)) ?_ | (refine wS ?_ ?_ <;> intro _h <;> simp only [W1, cond_true, cond_false, hgd, w3, w1, w2, d] at _h))
          all_goals simp only [or_true, true_or, false_or, or_false, and_false, false_and, cond_true, cond_false, Bool.not_true, Bool.not_false, Bool.false_eq_true, Bool.true_eq_false, not_true_eq_false, not_false_eq_true, false_implies, true_implies, implies_true, Nat.blt_eq, owesN, owesX, owesR, notT, sat_brT, sat_brF, sat_chkT, cl_iff, cl_false, AV.le_refl, AV.le_any, OLe_refl, OLe_none, sat_brN, Tree.sat_chk, Tree.sat_leaf, Tree.sat_fail, Nat.zero_add, Nat.sub_zero, Int.toNat_natCast, LeH_cons, LeH_nil, LeL_cons, LeL_nil, and_true, true_and, Bool.and_eq_true, Bool.or_eq_true, decide_eq_true_eq, decide_eq_false_iff_not, Bool.cond_true_left, Bool.cond_false_right, List.cons_append, List.nil_append, List.map_cons, List.map_nil, hgd, w3, w1, w2, d]
          repeat' (first | apply And.intro | intro _hc)
          all_goals first | exact AV.le_refl _ | exact AV.le_any _ | exact OLe.refl _ | exact OLe.none _ | exact LeH.refl _ | exact LeL.refl _ | exact AV.le.bs _ | exact AV.le.sb _ | omega | contradiction
        · have d := dec_neg h1
          repeat' (first | refine wC (by first | omega | (simp only [W1, cond_true, cond_false, hgd, w3, w1, d]; first | done | omega)) ?_ | refine wT (by first | omega | (simp only [W1, cond_true, cond_false, hgd, w3, w1, d]; first | done | omega)) ?_ | refine wF (by intro _h; first | omega | (simp only [W1, cond_true, cond_false, hgd, w3, w1, d] at _h; first | done | omega)) ?_ | (refine wS ?_ ?_ <;> intro _h <;> simp only [W1, cond_true, cond_false, hgd, w3, w1, d] at _h))
          all_goals simp only [or_true, true_or, false_or, or_false, and_false, false_and, cond_true, cond_false, Bool.not_true, Bool.not_false, Bool.false_eq_true, Bool.true_eq_false, not_true_eq_false, not_false_eq_true, false_implies, true_implies, implies_true, Nat.blt_eq, owesN, owesX, owesR, notT, sat_brT, sat_brF, sat_chkT, cl_iff, cl_false, AV.le_refl, AV.le_any, OLe_refl, OLe_none, sat_brN, Tree.sat_chk, Tree.sat_leaf, Tree.sat_fail, Nat.zero_add, Nat.sub_zero, Int.toNat_natCast, LeH_cons, LeH_nil, LeL_cons, LeL_nil, and_true, true_and, Bool.and_eq_true, Bool.or_eq_true, decide_eq_true_eq, decide_eq_false_iff_not, Bool.cond_true_left, Bool.cond_false_right, List.cons_append, List.nil_append, List.map_cons, List.map_nil, hgd, w3, w1, d]
          repeat' (first | apply And.intro | intro _hc)
          all_goals first | exact AV.le_refl _ | exact AV.le_any _ | exact OLe.refl _ | exact OLe.none _ | exact LeH.refl _ | exact LeL.refl _ | exact AV.le.bs _ | exact AV.le.sb _ | omega | contradiction
  )
theorem ansFuse {a : Ta} {m : Nat} (hi : a.Inv m) (p : Int) : Answers Try.prog Γb 38 [.ptr 0 0, .v (.int .i64 p)] a.bl .any ((a.fuse p).bl.map some) [] := answers (fn := Try.f38) (c := bodyOf Try.f38) (ntmps := 15) (results := [.tmp 4]) [] Lno false Try.func38 (by kernel_rfl) (by kernel_rfl) (by kernel_rfl) (by kernel_rfl) (by simp) rfl (noLoops (by kernel_rfl)) (by
  obtain ⟨⟨fi, fa, o, n, N, g, left⟩, off⟩ := a
  cases off with
  | true =>
    refine Meets.of (runFuse1 _ p) ?_
    by_cases h0 : p < 0
    · simp only [Ta.fuse, h0, if_true]
      repeat' (first | refine wC (by first | omega | (simp only [W1, cond_true, cond_false]; first | done | omega)) ?_ | refine wT (by first | omega | (simp only [W1, cond_true, cond_false]; first | done | omega)) ?_ | refine wF (by intro _h; first | omega | (simp only [W1, cond_true, cond_false] at _h; first | done | omega)) ?_ | (refine wS ?_ ?_ <;> intro _h <;> simp only [W1, cond_true, cond_false] at _h))
      all_goals simp only [or_true, true_or, false_or, or_false, and_false, false_and, cond_true, cond_false, Bool.not_true, Bool.not_false, Bool.false_eq_true, Bool.true_eq_false, not_true_eq_false, not_false_eq_true, false_implies, true_implies, implies_true, Nat.blt_eq, owesN, owesX, owesR, notT, sat_brT, sat_brF, sat_chkT, cl_iff, cl_false, AV.le_refl, AV.le_any, OLe_refl, OLe_none, sat_brN, Tree.sat_chk, Tree.sat_leaf, Tree.sat_fail, Nat.zero_add, Nat.sub_zero, Int.toNat_natCast, LeH_cons, LeH_nil, LeL_cons, LeL_nil, and_true, true_and, Bool.and_eq_true, Bool.or_eq_true, decide_eq_true_eq, decide_eq_false_iff_not, Bool.cond_true_left, Bool.cond_false_right, List.cons_append, List.nil_append, List.map_cons, List.map_nil]
      repeat' (first | apply And.intro | intro _hc)
      all_goals first | exact AV.le_refl _ | exact AV.le_any _ | exact OLe.refl _ | exact OLe.none _ | exact LeH.refl _ | exact LeL.refl _ | exact AV.le.bs _ | exact AV.le.sb _ | omega | contradiction
    · simp only [Ta.fuse, h0, if_false]
      repeat' (first | refine wC (by first | omega | (simp only [W1, cond_true, cond_false]; first | done | omega)) ?_ | refine wT (by first | omega | (simp only [W1, cond_true, cond_false]; first | done | omega)) ?_ | refine wF (by intro _h; first | omega | (simp only [W1, cond_true, cond_false] at _h; first | done | omega)) ?_ | (refine wS ?_ ?_ <;> intro _h <;> simp only [W1, cond_true, cond_false] at _h))
      all_goals simp only [or_true, true_or, false_or, or_false, and_false, false_and, cond_true, cond_false, Bool.not_true, Bool.not_false, Bool.false_eq_true, Bool.true_eq_false, not_true_eq_false, not_false_eq_true, false_implies, true_implies, implies_true, Nat.blt_eq, owesN, owesX, owesR, notT, sat_brT, sat_brF, sat_chkT, cl_iff, cl_false, AV.le_refl, AV.le_any, OLe_refl, OLe_none, sat_brN, Tree.sat_chk, Tree.sat_leaf, Tree.sat_fail, Nat.zero_add, Nat.sub_zero, Int.toNat_natCast, LeH_cons, LeH_nil, LeL_cons, LeL_nil, and_true, true_and, Bool.and_eq_true, Bool.or_eq_true, decide_eq_true_eq, decide_eq_false_iff_not, Bool.cond_true_left, Bool.cond_false_right, List.cons_append, List.nil_append, List.map_cons, List.map_nil]
      repeat' (first | apply And.intro | intro _hc)
      all_goals first | exact AV.le_refl _ | exact AV.le_any _ | exact OLe.refl _ | exact OLe.none _ | exact LeH.refl _ | exact LeL.refl _ | exact AV.le.bs _ | exact AV.le.sb _ | omega | contradiction
  | false =>
    refine Meets.of (runFuse _ p) ?_
    by_cases h0 : p < 0
    · simp only [Ta.fuse, h0, if_true]
      repeat' (first | refine wC (by first | omega | (simp only [W1, cond_true, cond_false]; first | done | omega)) ?_ | refine wT (by first | omega | (simp only [W1, cond_true, cond_false]; first | done | omega)) ?_ | refine wF (by intro _h; first | omega | (simp only [W1, cond_true, cond_false] at _h; first | done | omega)) ?_ | (refine wS ?_ ?_ <;> intro _h <;> simp only [W1, cond_true, cond_false] at _h))
      all_goals simp only [or_true, true_or, false_or, or_false, and_false, false_and, cond_true, cond_false, Bool.not_true, Bool.not_false, Bool.false_eq_true, Bool.true_eq_false, not_true_eq_false, not_false_eq_true, false_implies, true_implies, implies_true, Nat.blt_eq, owesN, owesX, owesR, notT, sat_brT, sat_brF, sat_chkT, cl_iff, cl_false, AV.le_refl, AV.le_any, OLe_refl, OLe_none, sat_brN, Tree.sat_chk, Tree.sat_leaf, Tree.sat_fail, Nat.zero_add, Nat.sub_zero, Int.toNat_natCast, LeH_cons, LeH_nil, LeL_cons, LeL_nil, and_true, true_and, Bool.and_eq_true, Bool.or_eq_true, decide_eq_true_eq, decide_eq_false_iff_not, Bool.cond_true_left, Bool.cond_false_right, List.cons_append, List.nil_append, List.map_cons, List.map_nil]
      repeat' (first | apply And.intro | intro _hc)
      all_goals first | exact AV.le_refl _ | exact AV.le_any _ | exact OLe.refl _ | exact OLe.none _ | exact LeH.refl _ | exact LeL.refl _ | exact AV.le.bs _ | exact AV.le.sb _ | omega | contradiction
    · simp only [Ta.fuse, h0, if_false]
      repeat' (first | refine wC (by first | omega | (simp only [W1, cond_true, cond_false]; first | done | omega)) ?_ | refine wT (by first | omega | (simp only [W1, cond_true, cond_false]; first | done | omega)) ?_ | refine wF (by intro _h; first | omega | (simp only [W1, cond_true, cond_false] at _h; first | done | omega)) ?_ | (refine wS ?_ ?_ <;> intro _h <;> simp only [W1, cond_true, cond_false] at _h))
      all_goals simp only [or_true, true_or, false_or, or_false, and_false, false_and, cond_true, cond_false, Bool.not_true, Bool.not_false, Bool.false_eq_true, Bool.true_eq_false, not_true_eq_false, not_false_eq_true, false_implies, true_implies, implies_true, Nat.blt_eq, owesN, owesX, owesR, notT, sat_brT, sat_brF, sat_chkT, cl_iff, cl_false, AV.le_refl, AV.le_any, OLe_refl, OLe_none, sat_brN, Tree.sat_chk, Tree.sat_leaf, Tree.sat_fail, Nat.zero_add, Nat.sub_zero, Int.toNat_natCast, LeH_cons, LeH_nil, LeL_cons, LeL_nil, and_true, true_and, Bool.and_eq_true, Bool.or_eq_true, decide_eq_true_eq, decide_eq_false_iff_not, Bool.cond_true_left, Bool.cond_false_right, List.cons_append, List.nil_append, List.map_cons, List.map_nil]
      repeat' (first | apply And.intro | intro _hc)
      all_goals first | exact AV.le_refl _ | exact AV.le_any _ | exact OLe.refl _ | exact OLe.none _ | exact LeH.refl _ | exact LeL.refl _ | exact AV.le.bs _ | exact AV.le.sb _ | omega | contradiction
  )
theorem ansOn (a : Ta) : Answers Try.prog Γb 17 [.ptr 0 0] a.bl (.v (.bool (!a.off))) (a.bl.map some) [] := answers (fn := Try.f17) (c := bodyOf Try.f17) (ntmps := 12) (results := [.tmp 2]) [] Lno false Try.func17 (by kernel_rfl) (by kernel_rfl) (by kernel_rfl) (by kernel_rfl) (by simp) rfl (noLoops (by kernel_rfl)) (by
  obtain ⟨⟨fi, fa, o, n, N, g, left⟩, off⟩ := a
  cases off with
  | true =>
    refine Meets.of (runOn1 _) ?_
    repeat' (first | refine wC (by first | omega | (simp only [W1, cond_true, cond_false]; first | done | omega)) ?_ | refine wT (by first | omega | (simp only [W1, cond_true, cond_false]; first | done | omega)) ?_ | refine wF (by intro _h; first | omega | (simp only [W1, cond_true, cond_false] at _h; first | done | omega)) ?_ | (refine wS ?_ ?_ <;> intro _h <;> simp only [W1, cond_true, cond_false] at _h))
    all_goals simp only [or_true, true_or, false_or, or_false, and_false, false_and, cond_true, cond_false, Bool.not_true, Bool.not_false, Bool.false_eq_true, Bool.true_eq_false, not_true_eq_false, not_false_eq_true, false_implies, true_implies, implies_true, Nat.blt_eq, owesN, owesX, owesR, notT, sat_brT, sat_brF, sat_chkT, cl_iff, cl_false, AV.le_refl, AV.le_any, OLe_refl, OLe_none, sat_brN, Tree.sat_chk, Tree.sat_leaf, Tree.sat_fail, Nat.zero_add, Nat.sub_zero, Int.toNat_natCast, LeH_cons, LeH_nil, LeL_cons, LeL_nil, and_true, true_and, Bool.and_eq_true, Bool.or_eq_true, decide_eq_true_eq, decide_eq_false_iff_not, Bool.cond_true_left, Bool.cond_false_right, List.cons_append, List.nil_append, List.map_cons, List.map_nil]
    repeat' (first | apply And.intro | intro _hc)
    all_goals first | exact AV.le_refl _ | exact AV.le_any _ | exact OLe.refl _ | exact OLe.none _ | exact LeH.refl _ | exact LeL.refl _ | exact AV.le.bs _ | exact AV.le.sb _ | omega | contradiction
  | false =>
    refine Meets.of (runOn _) ?_
    repeat' (first | refine wC (by first | omega | (simp only [W1, cond_true, cond_false]; first | done | omega)) ?_ | refine wT (by first | omega | (simp only [W1, cond_true, cond_false]; first | done | omega)) ?_ | refine wF (by intro _h; first | omega | (simp only [W1, cond_true, cond_false] at _h; first | done | omega)) ?_ | (refine wS ?_ ?_ <;> intro _h <;> simp only [W1, cond_true, cond_false] at _h))
    all_goals simp only [or_true, true_or, false_or, or_false, and_false, false_and, cond_true, cond_false, Bool.not_true, Bool.not_false, Bool.false_eq_true, Bool.true_eq_false, not_true_eq_false, not_false_eq_true, false_implies, true_implies, implies_true, Nat.blt_eq, owesN, owesX, owesR, notT, sat_brT, sat_brF, sat_chkT, cl_iff, cl_false, AV.le_refl, AV.le_any, OLe_refl, OLe_none, sat_brN, Tree.sat_chk, Tree.sat_leaf, Tree.sat_fail, Nat.zero_add, Nat.sub_zero, Int.toNat_natCast, LeH_cons, LeH_nil, LeL_cons, LeL_nil, and_true, true_and, Bool.and_eq_true, Bool.or_eq_true, decide_eq_true_eq, decide_eq_false_iff_not, Bool.cond_true_left, Bool.cond_false_right, List.cons_append, List.nil_append, List.map_cons, List.map_nil]
    repeat' (first | apply And.intro | intro _hc)
    all_goals first | exact AV.le_refl _ | exact AV.le_any _ | exact OLe.refl _ | exact OLe.none _ | exact LeH.refl _ | exact LeL.refl _ | exact AV.le.bs _ | exact AV.le.sb _ | omega | contradiction
  )
theorem ansPl {a : Ta} {m : Nat} (hi : a.Inv m) (hm : m ≤ 1000000) : Answers Try.prog Γb 20 [.ptr 0 0] a.bl (.tup [.v (.int .i64 a.x.fi), .v (.int .i64 a.x.fa), .v (.int .i64 (a.x.fi + (a.x.n : Int)))]) (a.bl.map some) [] := answers (fn := Try.f20) (c := bodyOf Try.f20) (ntmps := 17) (results := [.tmp 2, .tmp 3, .tmp 4]) [k77] Lno false Try.func20 (by kernel_rfl) (by kernel_rfl) (by kernel_rfl) (by kernel_rfl) (by simp) rfl (noLoops (by kernel_rfl)) (by
  obtain ⟨l0, l1, l2, l3, l4, l5, l6, l7, l8⟩ := hi
  obtain ⟨⟨fi, fa, o, n, N, g, left⟩, off⟩ := a
  simp only at l0 l1 l2 l3 l4 l5 l6 l7 l8
  have w1 : IntKind.i64.wrap (fi + (n : Int)) = fi + (n : Int) := wrapM (by omega) (by omega)
  cases off with
  | true =>
    refine Meets.of (runPl1 _) ?_
    repeat' (first | refine wC (by first | omega | (simp only [W1, cond_true, cond_false, w1]; first | done | omega)) ?_ | refine wT (by first | omega | (simp only [W1, cond_true, cond_false, w1]; first | done | omega)) ?_ | refine wF (by intro _h; first | omega | (simp only [W1, cond_true, cond_false, w1] at _h; first | done | omega)) ?_ | (refine wS ?_ ?_ <;> intro _h <;> simp only [W1, cond_true, cond_false, w1] at _h))
    all_goals simp only [or_true, true_or, false_or, or_false, and_false, false_and, cond_true, cond_false, Bool.not_true, Bool.not_false, Bool.false_eq_true, Bool.true_eq_false, not_true_eq_false, not_false_eq_true, false_implies, true_implies, implies_true, Nat.blt_eq, owesN, owesX, owesR, notT, sat_brT, sat_brF, sat_chkT, cl_iff, cl_false, AV.le_refl, AV.le_any, OLe_refl, OLe_none, sat_brN, Tree.sat_chk, Tree.sat_leaf, Tree.sat_fail, Nat.zero_add, Nat.sub_zero, Int.toNat_natCast, LeH_cons, LeH_nil, LeL_cons, LeL_nil, and_true, true_and, Bool.and_eq_true, Bool.or_eq_true, decide_eq_true_eq, decide_eq_false_iff_not, Bool.cond_true_left, Bool.cond_false_right, List.cons_append, List.nil_append, List.map_cons, List.map_nil, w1]
    repeat' (first | apply And.intro | intro _hc)
    all_goals first | exact cl_iff.2 trivial | exact AV.le_refl _ | exact AV.le_any _ | exact OLe.refl _ | exact OLe.none _ | exact LeH.refl _ | exact LeL.refl _ | exact AV.le.bs _ | exact AV.le.sb _ | omega | contradiction
  | false =>
    refine Meets.of (runPl _) ?_
    repeat' (first | refine wC (by first | omega | (simp only [W1, cond_true, cond_false, w1]; first | done | omega)) ?_ | refine wT (by first | omega | (simp only [W1, cond_true, cond_false, w1]; first | done | omega)) ?_ | refine wF (by intro _h; first | omega | (simp only [W1, cond_true, cond_false, w1] at _h; first | done | omega)) ?_ | (refine wS ?_ ?_ <;> intro _h <;> simp only [W1, cond_true, cond_false, w1] at _h))
    all_goals simp only [or_true, true_or, false_or, or_false, and_false, false_and, cond_true, cond_false, Bool.not_true, Bool.not_false, Bool.false_eq_true, Bool.true_eq_false, not_true_eq_false, not_false_eq_true, false_implies, true_implies, implies_true, Nat.blt_eq, owesN, owesX, owesR, notT, sat_brT, sat_brF, sat_chkT, cl_iff, cl_false, AV.le_refl, AV.le_any, OLe_refl, OLe_none, sat_brN, Tree.sat_chk, Tree.sat_leaf, Tree.sat_fail, Nat.zero_add, Nat.sub_zero, Int.toNat_natCast, LeH_cons, LeH_nil, LeL_cons, LeL_nil, and_true, true_and, Bool.and_eq_true, Bool.or_eq_true, decide_eq_true_eq, decide_eq_false_iff_not, Bool.cond_true_left, Bool.cond_false_right, List.cons_append, List.nil_append, List.map_cons, List.map_nil, w1]
    repeat' (first | apply And.intro | intro _hc)
    all_goals first | exact cl_iff.2 trivial | exact AV.le_refl _ | exact AV.le_any _ | exact OLe.refl _ | exact OLe.none _ | exact LeH.refl _ | exact LeL.refl _ | exact AV.le.bs _ | exact AV.le.sb _ | omega | contradiction
  )
def Ta.loose (a : Ta) : Int := a.x.fi + (a.x.n : Int) - a.x.fa
def Ta.kept (a : Ta) (p : Int) : Int := (p % 18446744073709551616) % (a.loose + 1)
def Ta.crash (a : Ta) (p : Int) : Ta := ⟨{ a.x with n := ((a.x.n : Int) - a.loose + a.kept p).toNat, fa := a.x.fi + (((a.x.n : Int) - a.loose + a.kept p).toNat : Int), left := -1 }, false⟩
theorem ansCrash {a : Ta} {m : Nat} (hi : a.Inv m) (hm : m ≤ 1000000) (p : Int) : Answers Try.prog Γb 18 [.ptr 0 0, .v (.int .i64 p)] a.bl (.v (.int .i64 0)) ((a.crash p).bl.map some) [] := answers (fn := Try.f18) (c := bodyOf Try.f18) (ntmps := 49) (results := [.tmp 4]) [k77] Lno false Try.func18 (by kernel_rfl) (by kernel_rfl) (by kernel_rfl) (by kernel_rfl) (by simp) rfl (noLoops (by kernel_rfl)) (by
  obtain ⟨l0, l1, l2, l3, l4, l5, l6, l7, l8⟩ := hi
  obtain ⟨⟨fi, fa, o, n, N, g, left⟩, off⟩ := a
  simp only at l0 l1 l2 l3 l4 l5 l6 l7 l8
  have w1 : IntKind.i64.wrap (fi + (n : Int)) = fi + (n : Int) := wrapM (by omega) (by omega)
  have w2 : IntKind.i64.wrap (fi + (n : Int) - fa) = fi + (n : Int) - fa := wrapM (by omega) (by omega)
  have e1 : Ta.loose ⟨⟨fi, fa, o, n, N, g, left⟩, off⟩ = fi + (n : Int) - fa := rfl
  have e2 : Ta.kept ⟨⟨fi, fa, o, n, N, g, left⟩, off⟩ p = (p % 18446744073709551616) % (fi + (n : Int) - fa + 1) := rfl
  have q0 : 0 ≤ p % 18446744073709551616 := Int.emod_nonneg _ (by decide)
  have q1 : 0 ≤ (p % 18446744073709551616) % (fi + (n : Int) - fa + 1) := Int.emod_nonneg _ (by omega)
  have q2 : (p % 18446744073709551616) % (fi + (n : Int) - fa + 1) < fi + (n : Int) - fa + 1 := Int.emod_lt_of_pos _ (by omega)
  have w3 : IntKind.i64.wrap (fi + (n : Int) - fa + 1) = fi + (n : Int) - fa + 1 := wrapM (by omega) (by omega)
  have w4 : IntKind.u64.wrap (fi + (n : Int) - fa + 1) = fi + (n : Int) - fa + 1 := by
    show (fi + (n : Int) - fa + 1) % 18446744073709551616 = _
    omega
  have w5 : IntKind.u64.wrap p = p % 18446744073709551616 := rfl
  have w6 : Int.tmod (p % 18446744073709551616) (fi + (n : Int) - fa + 1) = (p % 18446744073709551616) % (fi + (n : Int) - fa + 1) := Int.tmod_eq_emod_of_nonneg q0
  simp only [Ta.crash, e1, e2]
  generalize hl : fi + (n : Int) - fa = l at *
  generalize hq : (p % 18446744073709551616) % (l + 1) = q at *
  have w7 : IntKind.i64.wrap q = q := wrapM (by omega) (by omega)
  have w8 : IntKind.i64.wrap ((n : Int) - l) = (n : Int) - l := wrapM (by omega) (by omega)
  have w9 : IntKind.i64.wrap ((n : Int) - l + q) = (n : Int) - l + q := wrapM (by omega) (by omega)
  have w10 : IntKind.i64.wrap (fi + (((n : Int) - l + q).toNat : Int)) = fi + (((n : Int) - l + q).toNat : Int) := wrapM (by omega) (by omega)
  have w11 : decide (l + 1 = 0) = false := decide_eq_false (by omega)
  have w12 : decide (0 ≤ (n : Int) - l + q) = true := decide_eq_true (by omega)
  have w13 : decide ((n : Int) - l + q ≤ (n : Int)) = true := decide_eq_true (by omega)
  cases off with
  | true =>
    refine Meets.of (runCrash1 _ p) ?_
    simp only [w1, hl, w2, w3, w4, w5, w6, hq, w7, w8, w9, w10, w11]
    repeat' (first | refine wC (by first | omega | (simp only [W1, cond_true, cond_false, w12, w13]; first | done | omega)) ?_ | refine wT (by first | omega | (simp only [W1, cond_true, cond_false, w12, w13]; first | done | omega)) ?_ | refine wF (by intro _h; first | omega | (simp only [W1, cond_true, cond_false, w12, w13] at _h; first | done | omega)) ?_ | (refine wS ?_ ?_ <;> intro _h <;> simp only [W1, cond_true, cond_false, w12, w13] at _h))
    all_goals simp only [or_true, true_or, false_or, or_false, and_false, false_and, cond_true, cond_false, Bool.not_true, Bool.not_false, Bool.false_eq_true, Bool.true_eq_false, not_true_eq_false, not_false_eq_true, false_implies, true_implies, implies_true, Nat.blt_eq, owesN, owesX, owesR, notT, sat_brT, sat_brF, sat_chkT, cl_iff, cl_false, AV.le_refl, AV.le_any, OLe_refl, OLe_none, sat_brN, Tree.sat_chk, Tree.sat_leaf, Tree.sat_fail, Nat.zero_add, Nat.sub_zero, Int.toNat_natCast, LeH_cons, LeH_nil, LeL_cons, LeL_nil, and_true, true_and, Bool.and_eq_true, Bool.or_eq_true, decide_eq_true_eq, decide_eq_false_iff_not, Bool.cond_true_left, Bool.cond_false_right, List.cons_append, List.nil_append, List.map_cons, List.map_nil, w12, w13]
    repeat' (first | apply And.intro | intro _hc)
    all_goals first | exact cl_iff.2 trivial | exact AV.le_refl _ | exact AV.le_any _ | exact OLe.refl _ | exact OLe.none _ | exact LeH.refl _ | exact LeL.refl _ | exact AV.le.bs _ | exact AV.le.sb _ | omega | contradiction
  | false =>
    refine Meets.of (runCrash _ p) ?_
    simp only [w1, hl, w2, w3, w4, w5, w6, hq, w7, w8, w9, w10, w11]
    repeat' (first | refine wC (by first | omega | (simp only [W1, cond_true, cond_false, w12, w13]; first | done | omega)) ?_ | refine wT (by first | omega | (simp only [W1, cond_true, cond_false, w12, w13]; first | done | omega)) ?_ | refine wF (by intro _h; first | omega | (simp only [W1, cond_true, cond_false, w12, w13] at _h; first | done | omega)) ?_ | (refine wS ?_ ?_ <;> intro _h <;> simp only [W1, cond_true, cond_false, w12, w13] at _h))
    all_goals simp only [or_true, true_or, false_or, or_false, and_false, false_and, cond_true, cond_false, Bool.not_true, Bool.not_false, Bool.false_eq_true, Bool.true_eq_false, not_true_eq_false, not_false_eq_true, false_implies, true_implies, implies_true, Nat.blt_eq, owesN, owesX, owesR, notT, sat_brT, sat_brF, sat_chkT, cl_iff, cl_false, AV.le_refl, AV.le_any, OLe_refl, OLe_none, sat_brN, Tree.sat_chk, Tree.sat_leaf, Tree.sat_fail, Nat.zero_add, Nat.sub_zero, Int.toNat_natCast, LeH_cons, LeH_nil, LeL_cons, LeL_nil, and_true, true_and, Bool.and_eq_true, Bool.or_eq_true, decide_eq_true_eq, decide_eq_false_iff_not, Bool.cond_true_left, Bool.cond_false_right, List.cons_append, List.nil_append, List.map_cons, List.map_nil, w12, w13]
    repeat' (first | apply And.intro | intro _hc)
    all_goals first | exact cl_iff.2 trivial | exact AV.le_refl _ | exact AV.le_any _ | exact OLe.refl _ | exact OLe.none _ | exact LeH.refl _ | exact LeL.refl _ | exact AV.le.bs _ | exact AV.le.sb _ | omega | contradiction
  )
end Go.Eng.SB.T

namespace Go.Eng
open Go
section
variable {P : Program} {Γ : Nat → AV}
theorem Contract.nilOrE {f : FuncId} {b : Blk} {e0 : Nat} {sz : Nat} {z : List AV} (hz : z.length = sz) {M : List AV} (hM : M.length = sz) (h1 : Contract P Γ f [.v (.slice none 0 0)] [b] { val := .v (.slice none 0 0), upd := [some (some b)] })
    (h2 : Contract P Γ f [.sl sz 0 fun _ => M] [b] { val := .hs 1 0 0, upd := [some (some b)], new := [.arr sz 0 fun _ => z] }) :
    Contract P Γ f [.hs 0 e0 0] [b] { val := .hs 1 0 0, upd := [some (some b)], new := [.arr sz 0 fun _ => z] } := by
  intro σ φ w vals hG hV hn hR
  obtain ⟨y, hy, hv⟩ := hV.one_inv
  have hsl : ∀ (A : Option Addr) (cap : Nat), A ≠ none → y = .slice A 0 cap → VL σ φ [.sl sz 0 fun _ => M] vals.toList := fun A cap hA e => by
    rw [hy, e]
    exact .one (.base (.slnil sz 0 _ A cap (fun _ => hM) rfl (fun h => absurd h hA))) .none
  cases hv with
  | base h => cases h
  | hs h hr _ he hx hc => exact h2 σ φ w vals hG (hsl _ _ (by simp) rfl) hn hR
  | hsnil A h he _ =>
    by_cases hA : A = none
    · subst hA
      refine (h1 σ φ w vals hG (by rw [hy]; exact .one (V_v _) .none) hn hR).mono fun e w' ⟨σ', φ', v, e1, e2, e3, e4, e5⟩ => ?_
      have hnb : φ' 1 = none := e5 1 (Nat.le_refl 1)
      have hv := e2.v_eq
      subst hv
      have hg : getH (Res.heap [b] { val := .hs 1 0 0, upd := [some (some b)], new := [.arr sz 0 fun _ => z] }) = updG (getH (Res.heap [b] { val := .v (.slice none 0 0), upd := [some (some b)] })) 1 (some (.arr sz 0 fun _ => z)) := by
        funext k
        have := getH_append (H := [some b]) (bs := [Blk.arr sz 0 fun _ => z]) (k := k)
        exact this
      refine ⟨σ', fresh φ' 1 ⟨0, 0, sz, 0, 0, true⟩, _, e1, .hsnil none fresh_at (Nat.le_refl 0) rfl, ?_, fun k hk => ?_, fun k hk => ?_⟩
      · rw [hg]
        exact e3.virtual (L := ⟨0, 0, sz, 0, 0, true⟩) hnb rfl (some (.arr sz 0 fun _ => z)) (fun b' hb' => by simp at hb'; subst hb'; exact fun _ => hz) (fun _ _ _ h' => by cases h'; rfl)
      · have hk' : k < 1 := hk
        have : k ≠ 1 := by omega
        simp only [fresh, this, if_false]
        exact e4 k hk
      · have hk' : 2 ≤ k := hk
        have : k ≠ 1 := by omega
        simp only [fresh, this, if_false]
        exact e5 k (by show 1 ≤ k; omega)
    · exact h2 σ φ w vals hG (hsl _ _ hA rfl) hn hR
theorem Answers.nilOrE {f : FuncId} {b : Blk} {e0 : Nat} {sz : Nat} {z : List AV} (hz : z.length = sz) {M : List AV} (hM : M.length = sz) (h1 : Answers P Γ f [.v (.slice none 0 0)] [b] (.v (.slice none 0 0)) [some b] [])
    (h2 : Answers P Γ f [.sl sz 0 fun _ => M] [b] (.hs 1 0 0) [some b] [.arr sz 0 fun _ => z]) : Answers P Γ f [.hs 0 e0 0] [b] (.hs 1 0 0) [some b] [.arr sz 0 fun _ => z] where
  len := rfl
  enters := h1.enters
  ok := h1.ok.nilOrE hz hM h2.ok
end
end Go.Eng
namespace Go.Eng.SB.T
open Go Go.Eng Go.Eng.SB Go.Lib Go.Proofs
theorem runClP (N o n : Nat) (g : Nat → Int) (h : 0 < n) : bodyE (P := Try.prog) (Γ := Γb) [] Lno false 8 [.tmp 2] (bodyOf Try.f79) [.hs 0 o n] [.arr 1 N (bF g)] =
  Tree.chk (Nat.blt (0 : Nat) n || Nat.blt o N) (Tree.chk (roomOk (1 : Nat) ((0 : Nat) + n)) (Tree.leaf (Ans.mk (AV.hs (1 : Nat) (0 : Nat) ((0 : Nat) + n)) [some (Blk.arr (1 : Nat) N fun j =>
    [AV.v (Value.int IntKind.u8 (g j))]), some (Blk.arr (1 : Nat) ((0 : Nat) + n) fun j => mixL (decide (j < (0 : Nat))) (chain [AV.v (Value.int IntKind.u8 (0 : Int))] (0 : Nat) [] ((0 :
    Nat) + j)) [AV.v (Value.int IntKind.u8 (g (o + (j - (0 : Nat)))))])]))) := by kernel_rfl
theorem runClM (N : Nat) (g : Nat → Int) : bodyE (P := Try.prog) (Γ := Γb) [] Lno false 8 [.tmp 2] (bodyOf Try.f79) [.sl 1 0 fun _ => [.v (.tuple #[])]] [.arr 1 N (bF g)] =
  Tree.chk true (Tree.chk true (Tree.leaf (Ans.mk (AV.hs (1 : Nat) (0 : Nat) (0 : Nat)) [some (Blk.arr (1 : Nat) N fun j => [AV.v (Value.int IntKind.u8 (g j))]), some (Blk.arr (1 : Nat) (0 :
    Nat) fun j => mixL (decide (j < (0 : Nat))) (chain [AV.v (Value.int IntKind.u8 (0 : Int))] (0 : Nat) [] ((0 : Nat) + j)) [AV.v (Value.tuple #[])])]))) := by kernel_rfl
theorem runClN (N : Nat) (g : Nat → Int) : bodyE (P := Try.prog) (Γ := Γb) [] Lno false 8 [.tmp 2] (bodyOf Try.f79) [.v (.slice none 0 0)] [.arr 1 N (bF g)] =
  Tree.leaf (Ans.mk (AV.v (Value.slice none (0 : Nat) (0 : Nat))) [some (Blk.arr (1 : Nat) N fun j => [AV.v (Value.int IntKind.u8 (g j))])]) := by kernel_rfl
theorem cl_fun (g : Nat → Int) (o j : Nat) : mixL (decide (j < 0)) (chain [AV.v (Value.int IntKind.u8 0)] 0 [] (0 + j)) [AV.v (Value.int IntKind.u8 (g (o + (j - 0))))] = bF (fun j => g (o + j)) j := by
  show mixL _ [AV.v (Value.int IntKind.u8 0)] [AV.v (Value.int IntKind.u8 (g (o + j)))] = [AV.v (Value.int IntKind.u8 (g (o + j)))]
  rw [mixU, decide_eq_false (show ¬ j < 0 by omega), cond_false]
theorem ansClP {N o n : Nat} {g : Nat → Int} (h : 0 < n) (hn : n ≤ 2000000) : Answers Try.prog Γb 79 [.hs 0 o n] [.arr 1 N (bF g)] (.hs 1 0 n) [some (.arr 1 N (bF g))] [.arr 1 n (bF fun j => g (o + j))] := answers (fn := Try.f79) (c := bodyOf Try.f79) (ntmps := 8) (results := [.tmp 2]) [] Lno false Try.func79 (by kernel_rfl) (by kernel_rfl) (by kernel_rfl) (by kernel_rfl) (by simp) rfl (noLoops (by kernel_rfl)) (by
  refine Meets.of (runClP N o n g h) ?_
  have hf : (fun j => mixL (decide (j < 0)) (chain [AV.v (Value.int IntKind.u8 0)] 0 [] (0 + j)) [AV.v (Value.int IntKind.u8 (g (o + (j - 0))))]) = bF (fun j => g (o + j)) := funext (cl_fun g o)
  have hb : Nat.blt 0 n = true := by rw [Nat.blt_eq]; exact h
  simp only [hf, hb, Bool.true_or, Nat.zero_add]
  exact ⟨rfl, room' (by omega), .refl _, .refl _, .refl _, trivial⟩)
theorem ansClZ {N o : Nat} {g : Nat → Int} : Answers Try.prog Γb 79 [.hs 0 o 0] [.arr 1 N (bF g)] (.hs 1 0 0) [some (.arr 1 N (bF g))] [.arr 1 0 fun _ => [.v (.int .u8 0)]] := by
  refine Answers.nilOrE (sz := 1) (z := [.v (.int .u8 0)]) rfl (M := [.v (.tuple #[])]) rfl ?_ ?_
  · refine answers (fn := Try.f79) (c := bodyOf Try.f79) (ntmps := 8) (results := [.tmp 2]) [] Lno false Try.func79 (by kernel_rfl) (by kernel_rfl) (by kernel_rfl) (by kernel_rfl) (by simp) rfl (noLoops (by kernel_rfl)) (Meets.of (runClN N g) ?_)
    exact ⟨.refl _, .refl _, trivial⟩
  · refine answers (fn := Try.f79) (c := bodyOf Try.f79) (ntmps := 8) (results := [.tmp 2]) [] Lno false Try.func79 (by kernel_rfl) (by kernel_rfl) (by kernel_rfl) (by kernel_rfl) (by simp) rfl (noLoops (by kernel_rfl)) (Meets.of (runClM N g) ?_)
    refine ⟨rfl, rfl, .refl _, .refl _, OLe.arr rfl (fun e he => absurd he (Nat.not_lt_zero e)) (fun _ => rfl), trivial⟩
theorem runRd1 (x : Tp) : bodyE (P := Try.prog) (Γ := Γb) [k78] Lno false 20 [.tmp 2, .tmp 3, .tmp 4] (bodyOf Try.f19) [.ptr 0 0] (x.bl true) =
  Tree.br true (Tree.leaf (Ans.mk (AV.tup [AV.v (Value.int IntKind.i64 (0 : Int)), AV.v (Value.slice none (0 : Nat) (0 : Nat)), AV.v (Value.int IntKind.i64 (170 : Int))]) [some (Blk.row [AV.v
    (Value.int IntKind.i64 (1048576 : Int)), AV.v (Value.int IntKind.i64 x.fi), AV.v (Value.int IntKind.i64 x.fa), AV.hs (1 : Nat) x.o x.n, AV.v (Value.int IntKind.i64 x.left), AV.v
    (Value.bool true)]), some (Blk.arr (1 : Nat) x.N fun j => [AV.v (Value.int IntKind.u8 (x.g j))])])) Tree.fail := by kernel_rfl
theorem runRdP (x : Tp) (h : Answers Try.prog Γb 79 [.hs 0 x.o x.n] [.arr 1 x.N (bF x.g)] (.hs 1 0 x.n) [some (.arr 1 x.N (bF x.g))] [.arr 1 x.n (bF fun j => x.g (x.o + j))]) : bodyE (P := Try.prog) (Γ := Γb) [k78, CT.at 79 h] Lno false 20 [.tmp 2, .tmp 3, .tmp 4] (bodyOf Try.f19) [.ptr 0 0] (x.bl false) =
  Tree.br false (Tree.leaf (Ans.mk (AV.tup [AV.v (Value.int IntKind.i64 (0 : Int)), AV.v (Value.slice none (0 : Nat) (0 : Nat)), AV.v (Value.int IntKind.i64 (0 : Int))]) [some (Blk.row [AV.v
    (Value.int IntKind.i64 (1048576 : Int)), AV.v (Value.int IntKind.i64 x.fi), AV.v (Value.int IntKind.i64 x.fa), AV.hs (1 : Nat) x.o x.n, AV.v (Value.int IntKind.i64 x.left), AV.v
    (Value.bool false)]), some (Blk.arr (1 : Nat) x.N fun j => [AV.v (Value.int IntKind.u8 (x.g j))])])) (Tree.chk (cl (LeL [AV.hs (0 : Nat) x.o x.n] [AV.hs (0 : Nat) x.o x.n] ∧ LeH [some
    (Blk.arr (1 : Nat) x.N fun j => [AV.v (Value.int IntKind.u8 (x.g j))])] [some (Blk.arr (1 : Nat) x.N fun j => [AV.v (Value.int IntKind.u8 (x.g j))])])) (Tree.leaf (Ans.mk (AV.tup [AV.v
    (Value.int IntKind.i64 x.fi), AV.hs (2 : Nat) (0 : Nat) x.n, AV.v (Value.int IntKind.i64 (0 : Int))]) [some (Blk.row [AV.v (Value.int IntKind.i64 (1048576 : Int)), AV.v (Value.int
    IntKind.i64 x.fi), AV.v (Value.int IntKind.i64 x.fa), AV.hs (1 : Nat) x.o x.n, AV.v (Value.int IntKind.i64 x.left), AV.v (Value.bool false)]), some (Blk.arr (1 : Nat) x.N fun j => [AV.v
    (Value.int IntKind.u8 (x.g j))]), some (Blk.arr (1 : Nat) x.n fun j => [AV.v (Value.int IntKind.u8 (x.g (x.o + j)))])]))) := by kernel_rfl
theorem runRdZ (x : Tp) (h : Answers Try.prog Γb 79 [.hs 0 x.o 0] [.arr 1 x.N (bF x.g)] (.hs 1 0 0) [some (.arr 1 x.N (bF x.g))] [.arr 1 0 fun _ => [.v (.int .u8 0)]]) : bodyE (P := Try.prog) (Γ := Γb) [k78, CT.at 79 h] Lno false 20 [.tmp 2, .tmp 3, .tmp 4] (bodyOf Try.f19) [.ptr 0 0] ({ x with n := 0 }.bl false) =
  Tree.br false (Tree.leaf (Ans.mk (AV.tup [AV.v (Value.int IntKind.i64 (0 : Int)), AV.v (Value.slice none (0 : Nat) (0 : Nat)), AV.v (Value.int IntKind.i64 (0 : Int))]) [some (Blk.row [AV.v
    (Value.int IntKind.i64 (1048576 : Int)), AV.v (Value.int IntKind.i64 x.fi), AV.v (Value.int IntKind.i64 x.fa), AV.hs (1 : Nat) x.o (0 : Nat), AV.v (Value.int IntKind.i64 x.left), AV.v
    (Value.bool false)]), some (Blk.arr (1 : Nat) x.N fun j => [AV.v (Value.int IntKind.u8 ((Tp.mk x.fi x.fa x.o (0 : Nat) x.N x.g x.left).g j))])])) (Tree.chk (cl (LeL [AV.hs (0 : Nat) x.o
    (0 : Nat)] [AV.hs (0 : Nat) x.o (0 : Nat)] ∧ LeH [some (Blk.arr (1 : Nat) x.N fun j => [AV.v (Value.int IntKind.u8 ((Tp.mk x.fi x.fa x.o (0 : Nat) x.N x.g x.left).g j))])] [some (Blk.arr
    (1 : Nat) x.N fun j => [AV.v (Value.int IntKind.u8 (x.g j))])])) (Tree.leaf (Ans.mk (AV.tup [AV.v (Value.int IntKind.i64 x.fi), AV.hs (2 : Nat) (0 : Nat) (0 : Nat), AV.v (Value.int
    IntKind.i64 (0 : Int))]) [some (Blk.row [AV.v (Value.int IntKind.i64 (1048576 : Int)), AV.v (Value.int IntKind.i64 x.fi), AV.v (Value.int IntKind.i64 x.fa), AV.hs (1 : Nat) x.o (0 :
    Nat), AV.v (Value.int IntKind.i64 x.left), AV.v (Value.bool false)]), some (Blk.arr (1 : Nat) x.N fun j => [AV.v (Value.int IntKind.u8 (x.g j))]), some (Blk.arr (1 : Nat) (0 : Nat) fun x
    => [AV.v (Value.int IntKind.u8 (0 : Int))])]))) := by kernel_rfl
theorem ansRd0 {a : Ta} (ho : a.off = true) : Answers Try.prog Γb 19 [.ptr 0 0] a.bl (.tup [.v (.int .i64 0), .v (.slice none 0 0), .v (.int .i64 170)]) (a.bl.map some) [] := answers (fn := Try.f19) (c := bodyOf Try.f19) (ntmps := 20) (results := [.tmp 2, .tmp 3, .tmp 4]) [k78] Lno false Try.func19 (by kernel_rfl) (by kernel_rfl) (by kernel_rfl) (by kernel_rfl) (by simp) rfl (noLoops (by kernel_rfl)) (by
  obtain ⟨x, off⟩ := a
  simp only at ho
  subst ho
  refine Meets.of (runRd1 x) ?_
  exact ⟨fun _ => ⟨.refl _, .refl _, .refl _, trivial⟩, fun h => by simp at h⟩)
theorem ansRd {a : Ta} {m : Nat} (hi : a.Inv m) (ho : a.off = false) : Answers Try.prog Γb 19 [.ptr 0 0] a.bl (.tup [.v (.int .i64 a.x.fi), .hs 2 0 a.x.n, .v (.int .i64 0)]) (a.bl.map some) [.arr 1 a.x.n (bF fun j => a.x.g (a.x.o + j))] := by
  have l8 := hi.l8
  obtain ⟨x, off⟩ := a
  simp only at ho l8
  subst ho
  by_cases hn : 0 < x.n
  · have h := ansClP (N := x.N) (o := x.o) (g := x.g) hn (by omega)
    refine answers (fn := Try.f19) (c := bodyOf Try.f19) (ntmps := 20) (results := [.tmp 2, .tmp 3, .tmp 4]) [k78, CT.at 79 h] Lno false Try.func19 (by kernel_rfl) (by kernel_rfl) (by kernel_rfl) (by kernel_rfl) (by simp) rfl (noLoops (by kernel_rfl)) (Meets.of (runRdP x h) ?_)
    exact ⟨fun h => by simp at h, fun _ => ⟨cl_iff.2 ⟨LeL.refl _, LeH.refl _⟩, .refl _, .refl _, .refl _, .refl _, trivial⟩⟩
  · obtain ⟨fi, fa, o, n, N, g, left⟩ := x
    simp only at hn l8
    obtain rfl : n = 0 := by omega
    have h := ansClZ (N := N) (o := o) (g := g)
    refine answers (fn := Try.f19) (c := bodyOf Try.f19) (ntmps := 20) (results := [.tmp 2, .tmp 3, .tmp 4]) [k78, CT.at 79 h] Lno false Try.func19 (by kernel_rfl) (by kernel_rfl) (by kernel_rfl) (by kernel_rfl) (by simp) rfl (noLoops (by kernel_rfl)) (Meets.of (runRdZ ⟨fi, fa, o, 0, N, g, left⟩ h) ?_)
    exact ⟨fun h => by simp at h, fun _ => ⟨cl_iff.2 ⟨LeL.refl _, LeH.refl _⟩, .refl _, .refl _, .refl _, OLe.arr rfl (fun e he => absurd he (Nat.not_lt_zero e)) (fun _ => rfl), trivial⟩⟩
end Go.Eng.SB.T
