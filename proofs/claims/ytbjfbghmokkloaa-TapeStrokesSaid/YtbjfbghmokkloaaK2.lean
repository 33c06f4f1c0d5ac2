/- tape: writing under a fuse: the loop. -/
import Derived.Test.YtbjfbghmokkloaaK1
import Derived.Test.YtbjfbghmokkloaaEngAE
namespace Go.Eng.T
open Go Go.Eng Go.Proofs
set_option linter.unusedSimpArgs false
set_option linter.unusedVariables false
theorem round0 (r l : Int) (n : Nat) (f : Nat → Int) : roundE (P := Try.prog) (Γ := Γt) [S.c22] Lno false 2 0 loop15 [0, 4, 6, 30, 31, 32] [] 52 [.ptr 0 0, .v (.int .i64 0), .fn 22 [.ptr 0 0] [], .hs 1 0 n, .v (.int .i64 (n : Int)), .v (.int .i64 0)] [some (tp r (.v (.slice none 0 0)) l false), some (.arr 1 n fun j => [.v (.int .u8 (f j))])] =
  Tree.br (decide ((0 : Int) < (↑n : Int)))
  (Tree.chk (true && decide ((0 : Int) < (↑n : Int)))
    (Tree.br (decide (l = (0 : Int)))
      (Tree.br true
        (Tree.leaf
          { ex := AEx.ret,
            fr :=
              [AV.ptr (0 : Nat) (0 : Nat), AV.v (Value.int IntKind.i64 (170 : Int)),
                AV.fn (22 : FuncId) [AV.ptr (0 : Nat) (0 : Nat)] [], AV.hs (1 : Nat) (0 : Nat) n,
                AV.v (Value.int IntKind.i64 (↑n : Int)), AV.v (Value.int IntKind.i64 (0 : Int))],
            H :=
              [some
                  (Blk.row
                    [AV.v (Value.int IntKind.i64 r), AV.v (Value.int IntKind.i64 (0 : Int)),
                      AV.v (Value.int IntKind.i64 (0 : Int)), AV.v (Value.slice none (0 : Nat) (0 : Nat)),
                      AV.v (Value.int IntKind.i64 l), AV.v (Value.bool true)]),
                some (Blk.arr (1 : Nat) n fun j => [AV.v (Value.int IntKind.u8 (f j))])] })
        (Tree.chk true
          (Tree.leaf
            { ex := AEx.normal,
              fr :=
                [AV.ptr (0 : Nat) (0 : Nat), AV.v (Value.int IntKind.i64 (0 : Int)),
                  AV.fn (22 : FuncId) [AV.ptr (0 : Nat) (0 : Nat)] [], AV.hs (1 : Nat) (0 : Nat) n,
                  AV.v (Value.int IntKind.i64 (↑n : Int)),
                  AV.v (Value.int IntKind.i64 (IntKind.i64.wrap ((0 : Int) + (1 : Int))))],
              H :=
                [some
                    (Blk.row
                      [AV.v (Value.int IntKind.i64 r), AV.v (Value.int IntKind.i64 (0 : Int)),
                        AV.v (Value.int IntKind.i64 (0 : Int)), AV.hs (2 : Nat) (0 : Nat) (1 : Nat),
                        AV.v (Value.int IntKind.i64 l), AV.v (Value.bool true)]),
                  some (Blk.arr (1 : Nat) n fun j => [AV.v (Value.int IntKind.u8 (f j))]),
                  some
                    (Blk.arr (1 : Nat) (1 : Nat) fun j =>
                      [AV.v
                          (Value.int IntKind.u8
                            (bif ((0 : Nat) + j).beq (0 : Nat) then f ((0 : Nat) + Int.toNat (0 : Int))
                            else (0 : Int)))])] })))
      (Tree.br (decide ((0 : Int) < l))
        (Tree.br false
          (Tree.leaf
            { ex := AEx.ret,
              fr :=
                [AV.ptr (0 : Nat) (0 : Nat), AV.v (Value.int IntKind.i64 (0 : Int)),
                  AV.fn (22 : FuncId) [AV.ptr (0 : Nat) (0 : Nat)] [], AV.hs (1 : Nat) (0 : Nat) n,
                  AV.v (Value.int IntKind.i64 (↑n : Int)), AV.v (Value.int IntKind.i64 (0 : Int))],
              H :=
                [some
                    (Blk.row
                      [AV.v (Value.int IntKind.i64 r), AV.v (Value.int IntKind.i64 (0 : Int)),
                        AV.v (Value.int IntKind.i64 (0 : Int)), AV.v (Value.slice none (0 : Nat) (0 : Nat)),
                        AV.v (Value.int IntKind.i64 (IntKind.i64.wrap (l - (1 : Int)))), AV.v (Value.bool false)]),
                  some (Blk.arr (1 : Nat) n fun j => [AV.v (Value.int IntKind.u8 (f j))])] })
          (Tree.chk true
            (Tree.leaf
              { ex := AEx.normal,
                fr :=
                  [AV.ptr (0 : Nat) (0 : Nat), AV.v (Value.int IntKind.i64 (0 : Int)),
                    AV.fn (22 : FuncId) [AV.ptr (0 : Nat) (0 : Nat)] [], AV.hs (1 : Nat) (0 : Nat) n,
                    AV.v (Value.int IntKind.i64 (↑n : Int)),
                    AV.v (Value.int IntKind.i64 (IntKind.i64.wrap ((0 : Int) + (1 : Int))))],
                H :=
                  [some
                      (Blk.row
                        [AV.v (Value.int IntKind.i64 r), AV.v (Value.int IntKind.i64 (0 : Int)),
                          AV.v (Value.int IntKind.i64 (0 : Int)), AV.hs (2 : Nat) (0 : Nat) (1 : Nat),
                          AV.v (Value.int IntKind.i64 (IntKind.i64.wrap (l - (1 : Int)))), AV.v (Value.bool false)]),
                    some (Blk.arr (1 : Nat) n fun j => [AV.v (Value.int IntKind.u8 (f j))]),
                    some
                      (Blk.arr (1 : Nat) (1 : Nat) fun j =>
                        [AV.v
                            (Value.int IntKind.u8
                              (bif ((0 : Nat) + j).beq (0 : Nat) then f ((0 : Nat) + Int.toNat (0 : Int))
                              else (0 : Int)))])] })))
        (Tree.br false
          (Tree.leaf
            { ex := AEx.ret,
              fr :=
                [AV.ptr (0 : Nat) (0 : Nat), AV.v (Value.int IntKind.i64 (0 : Int)),
                  AV.fn (22 : FuncId) [AV.ptr (0 : Nat) (0 : Nat)] [], AV.hs (1 : Nat) (0 : Nat) n,
                  AV.v (Value.int IntKind.i64 (↑n : Int)), AV.v (Value.int IntKind.i64 (0 : Int))],
              H :=
                [some
                    (Blk.row
                      [AV.v (Value.int IntKind.i64 r), AV.v (Value.int IntKind.i64 (0 : Int)),
                        AV.v (Value.int IntKind.i64 (0 : Int)), AV.v (Value.slice none (0 : Nat) (0 : Nat)),
                        AV.v (Value.int IntKind.i64 l), AV.v (Value.bool false)]),
                  some (Blk.arr (1 : Nat) n fun j => [AV.v (Value.int IntKind.u8 (f j))])] })
          (Tree.chk true
            (Tree.leaf
              { ex := AEx.normal,
                fr :=
                  [AV.ptr (0 : Nat) (0 : Nat), AV.v (Value.int IntKind.i64 (0 : Int)),
                    AV.fn (22 : FuncId) [AV.ptr (0 : Nat) (0 : Nat)] [], AV.hs (1 : Nat) (0 : Nat) n,
                    AV.v (Value.int IntKind.i64 (↑n : Int)),
                    AV.v (Value.int IntKind.i64 (IntKind.i64.wrap ((0 : Int) + (1 : Int))))],
                H :=
                  [some
                      (Blk.row
                        [AV.v (Value.int IntKind.i64 r), AV.v (Value.int IntKind.i64 (0 : Int)),
                          AV.v (Value.int IntKind.i64 (0 : Int)), AV.hs (2 : Nat) (0 : Nat) (1 : Nat),
                          AV.v (Value.int IntKind.i64 l), AV.v (Value.bool false)]),
                    some (Blk.arr (1 : Nat) n fun j => [AV.v (Value.int IntKind.u8 (f j))]),
                    some
                      (Blk.arr (1 : Nat) (1 : Nat) fun j =>
                        [AV.v
                            (Value.int IntKind.u8
                              (bif ((0 : Nat) + j).beq (0 : Nat) then f ((0 : Nat) + Int.toNat (0 : Int))
                              else (0 : Int)))])] }))))))
  (Tree.leaf
    { ex := AEx.exit (0 : Nat),
      fr :=
        [AV.ptr (0 : Nat) (0 : Nat), AV.v (Value.int IntKind.i64 (0 : Int)),
          AV.fn (22 : FuncId) [AV.ptr (0 : Nat) (0 : Nat)] [], AV.hs (1 : Nat) (0 : Nat) n,
          AV.v (Value.int IntKind.i64 (↑n : Int)), AV.v (Value.int IntKind.i64 (0 : Int))],
      H :=
        [some
            (Blk.row
              [AV.v (Value.int IntKind.i64 r), AV.v (Value.int IntKind.i64 (0 : Int)),
                AV.v (Value.int IntKind.i64 (0 : Int)), AV.v (Value.slice none (0 : Nat) (0 : Nat)),
                AV.v (Value.int IntKind.i64 l), AV.v (Value.bool false)]),
          some (Blk.arr (1 : Nat) n fun j => [AV.v (Value.int IntKind.u8 (f j))])] }) := by kernel_rfl
theorem round1 (r l i : Int) (n k : Nat) (f : Nat → Int) : roundE (P := Try.prog) (Γ := Γt) [S.c22] Lno false 2 0 loop15 [0, 4, 6, 30, 31, 32] [] 52 [.ptr 0 0, .v (.int .i64 0), .fn 22 [.ptr 0 0] [], .hs 1 0 n, .v (.int .i64 (n : Int)), .v (.int .i64 i)] [some (tp r (.hs 2 0 k) l false), some (.arr 1 n fun j => [.v (.int .u8 (f j))]), some (.arr 1 k anyF)] =
  Tree.br (decide (i < (↑n : Int)))
  (Tree.chk (decide ((0 : Int) ≤ i) && decide (i < (↑n : Int)))
    (Tree.br (decide (l = (0 : Int)))
      (Tree.br true
        (Tree.leaf
          { ex := AEx.ret,
            fr :=
              [AV.ptr (0 : Nat) (0 : Nat), AV.v (Value.int IntKind.i64 (170 : Int)),
                AV.fn (22 : FuncId) [AV.ptr (0 : Nat) (0 : Nat)] [], AV.hs (1 : Nat) (0 : Nat) n,
                AV.v (Value.int IntKind.i64 (↑n : Int)), AV.v (Value.int IntKind.i64 i)],
            H :=
              [some
                  (Blk.row
                    [AV.v (Value.int IntKind.i64 r), AV.v (Value.int IntKind.i64 (0 : Int)),
                      AV.v (Value.int IntKind.i64 (0 : Int)), AV.hs (2 : Nat) (0 : Nat) k,
                      AV.v (Value.int IntKind.i64 l), AV.v (Value.bool true)]),
                some (Blk.arr (1 : Nat) n fun j => [AV.v (Value.int IntKind.u8 (f j))]),
                some (Blk.arr (1 : Nat) k fun x => [AV.any])] })
        (Tree.chk (roomOk (1 : Nat) (k + (1 : Nat)))
          (Tree.leaf
            { ex := AEx.normal,
              fr :=
                [AV.ptr (0 : Nat) (0 : Nat), AV.v (Value.int IntKind.i64 (0 : Int)),
                  AV.fn (22 : FuncId) [AV.ptr (0 : Nat) (0 : Nat)] [], AV.hs (1 : Nat) (0 : Nat) n,
                  AV.v (Value.int IntKind.i64 (↑n : Int)),
                  AV.v (Value.int IntKind.i64 (IntKind.i64.wrap (i + (1 : Int))))],
              H :=
                [some
                    (Blk.row
                      [AV.v (Value.int IntKind.i64 r), AV.v (Value.int IntKind.i64 (0 : Int)),
                        AV.v (Value.int IntKind.i64 (0 : Int)), AV.hs (2 : Nat) (0 : Nat) (k + (1 : Nat)),
                        AV.v (Value.int IntKind.i64 l), AV.v (Value.bool true)]),
                  some (Blk.arr (1 : Nat) n fun j => [AV.v (Value.int IntKind.u8 (f j))]),
                  some (Blk.arr (1 : Nat) (k + (1 : Nat)) fun j => [AV.any])] })))
      (Tree.br (decide ((0 : Int) < l))
        (Tree.br false
          (Tree.leaf
            { ex := AEx.ret,
              fr :=
                [AV.ptr (0 : Nat) (0 : Nat), AV.v (Value.int IntKind.i64 (0 : Int)),
                  AV.fn (22 : FuncId) [AV.ptr (0 : Nat) (0 : Nat)] [], AV.hs (1 : Nat) (0 : Nat) n,
                  AV.v (Value.int IntKind.i64 (↑n : Int)), AV.v (Value.int IntKind.i64 i)],
              H :=
                [some
                    (Blk.row
                      [AV.v (Value.int IntKind.i64 r), AV.v (Value.int IntKind.i64 (0 : Int)),
                        AV.v (Value.int IntKind.i64 (0 : Int)), AV.hs (2 : Nat) (0 : Nat) k,
                        AV.v (Value.int IntKind.i64 (IntKind.i64.wrap (l - (1 : Int)))), AV.v (Value.bool false)]),
                  some (Blk.arr (1 : Nat) n fun j => [AV.v (Value.int IntKind.u8 (f j))]),
                  some (Blk.arr (1 : Nat) k fun x => [AV.any])] })
          (Tree.chk (roomOk (1 : Nat) (k + (1 : Nat)))
            (Tree.leaf
              { ex := AEx.normal,
                fr :=
                  [AV.ptr (0 : Nat) (0 : Nat), AV.v (Value.int IntKind.i64 (0 : Int)),
                    AV.fn (22 : FuncId) [AV.ptr (0 : Nat) (0 : Nat)] [], AV.hs (1 : Nat) (0 : Nat) n,
                    AV.v (Value.int IntKind.i64 (↑n : Int)),
                    AV.v (Value.int IntKind.i64 (IntKind.i64.wrap (i + (1 : Int))))],
                H :=
                  [some
                      (Blk.row
                        [AV.v (Value.int IntKind.i64 r), AV.v (Value.int IntKind.i64 (0 : Int)),
                          AV.v (Value.int IntKind.i64 (0 : Int)), AV.hs (2 : Nat) (0 : Nat) (k + (1 : Nat)),
                          AV.v (Value.int IntKind.i64 (IntKind.i64.wrap (l - (1 : Int)))), AV.v (Value.bool false)]),
                    some (Blk.arr (1 : Nat) n fun j => [AV.v (Value.int IntKind.u8 (f j))]),
                    some (Blk.arr (1 : Nat) (k + (1 : Nat)) fun j => [AV.any])] })))
        (Tree.br false
          (Tree.leaf
            { ex := AEx.ret,
              fr :=
                [AV.ptr (0 : Nat) (0 : Nat), AV.v (Value.int IntKind.i64 (0 : Int)),
                  AV.fn (22 : FuncId) [AV.ptr (0 : Nat) (0 : Nat)] [], AV.hs (1 : Nat) (0 : Nat) n,
                  AV.v (Value.int IntKind.i64 (↑n : Int)), AV.v (Value.int IntKind.i64 i)],
              H :=
                [some
                    (Blk.row
                      [AV.v (Value.int IntKind.i64 r), AV.v (Value.int IntKind.i64 (0 : Int)),
                        AV.v (Value.int IntKind.i64 (0 : Int)), AV.hs (2 : Nat) (0 : Nat) k,
                        AV.v (Value.int IntKind.i64 l), AV.v (Value.bool false)]),
                  some (Blk.arr (1 : Nat) n fun j => [AV.v (Value.int IntKind.u8 (f j))]),
                  some (Blk.arr (1 : Nat) k fun x => [AV.any])] })
          (Tree.chk (roomOk (1 : Nat) (k + (1 : Nat)))
            (Tree.leaf
              { ex := AEx.normal,
                fr :=
                  [AV.ptr (0 : Nat) (0 : Nat), AV.v (Value.int IntKind.i64 (0 : Int)),
                    AV.fn (22 : FuncId) [AV.ptr (0 : Nat) (0 : Nat)] [], AV.hs (1 : Nat) (0 : Nat) n,
                    AV.v (Value.int IntKind.i64 (↑n : Int)),
                    AV.v (Value.int IntKind.i64 (IntKind.i64.wrap (i + (1 : Int))))],
                H :=
                  [some
                      (Blk.row
                        [AV.v (Value.int IntKind.i64 r), AV.v (Value.int IntKind.i64 (0 : Int)),
                          AV.v (Value.int IntKind.i64 (0 : Int)), AV.hs (2 : Nat) (0 : Nat) (k + (1 : Nat)),
                          AV.v (Value.int IntKind.i64 l), AV.v (Value.bool false)]),
                    some (Blk.arr (1 : Nat) n fun j => [AV.v (Value.int IntKind.u8 (f j))]),
                    some (Blk.arr (1 : Nat) (k + (1 : Nat)) fun j => [AV.any])] }))))))
  (Tree.leaf
    { ex := AEx.exit (0 : Nat),
      fr :=
        [AV.ptr (0 : Nat) (0 : Nat), AV.v (Value.int IntKind.i64 (0 : Int)),
          AV.fn (22 : FuncId) [AV.ptr (0 : Nat) (0 : Nat)] [], AV.hs (1 : Nat) (0 : Nat) n,
          AV.v (Value.int IntKind.i64 (↑n : Int)), AV.v (Value.int IntKind.i64 i)],
      H :=
        [some
            (Blk.row
              [AV.v (Value.int IntKind.i64 r), AV.v (Value.int IntKind.i64 (0 : Int)),
                AV.v (Value.int IntKind.i64 (0 : Int)), AV.hs (2 : Nat) (0 : Nat) k, AV.v (Value.int IntKind.i64 l),
                AV.v (Value.bool false)]),
          some (Blk.arr (1 : Nat) n fun j => [AV.v (Value.int IntKind.u8 (f j))]),
          some (Blk.arr (1 : Nat) k fun x => [AV.any])] }) := by kernel_rfl

def bytesF (f : Nat → Int) : Nat → List AV := fun j => [.v (.int .u8 (f j))]
/-- the blocks of a tape that holds i bytes -/
def HA (r : Int) (l : Int) (o : Bool) (n : Nat) (f : Nat → Int) : Nat → Heap
  | 0 => [some (tp r (.v (.slice none 0 0)) l o), some (.arr 1 n (bytesF f))]
  | k + 1 => [some (tp r (.hs 2 0 (k + 1)) l o), some (.arr 1 n (bytesF f)), some (.arr 1 (k + 1) anyF)]
/-- the end of a write: all of it, or so much as there are strokes -/
def fin (r : Int) (l n i : Nat) (f : Nat → Int) : Out := bif Nat.ble (n - i) l then ⟨.exit 0, [.ptr 0 0, .v (.int .i64 0), .any, .any, .any, .any], HA r ((l - (n - i) : Nat) : Int) false n f n⟩
  else ⟨.ret, [.ptr 0 0, .v (.int .i64 170), .any, .any, .any, .any], HA r 0 true n f (i + l)⟩
def vals15 (n i : Nat) : List AV := [.ptr 0 0, .v (.int .i64 0), .fn 22 [.ptr 0 0] [], .hs 1 0 n, .v (.int .i64 (n : Int)), .v (.int .i64 (i : Int))]
def Sp15 (vals : List AV) (H : Heap) (o : Out) : Prop := ∃ (r : Int) (l n i : Nat) (f : Nat → Int), i ≤ n ∧ n ≤ 3000 ∧ l ≤ 9223372036854775807 ∧ vals = vals15 n i ∧ H = HA r (l : Int) false n f i ∧ o = fin r l n i f
def mu15 (vals : List AV) (_ : Heap) : Nat := match vals with
  | [_, _, _, _, .v (.int _ n), .v (.int _ i)] => (n - i).toNat
  | _ => 0
theorem wrapE {x : Int} : IntKind.i64.wrap x = (x + 9223372036854775808) % 18446744073709551616 - 9223372036854775808 := by
  simp only [IntKind.wrap, IntKind.signed, IntKind.bits]; simp; omega
theorem room1 {n : Nat} (h : n ≤ 3000) : roomOk 1 n = true := by unfold roomOk; exact decide_eq_true (by omega)
theorem fin_go (r : Int) (l n i : Nat) (f : Nat → Int) (h : i < n) (hl : 0 < l) : fin r l n i f = fin r (l - 1) n (i + 1) f := by
  unfold fin
  have e1 : Nat.ble (n - i) l = Nat.ble (n - (i + 1)) (l - 1) := by
    cases hb : Nat.ble (n - i) l with
    | true => exact (Nat.ble_eq_true_of_le (by have := Nat.le_of_ble_eq_true hb; omega)).symm
    | false =>
      cases hb2 : Nat.ble (n - (i + 1)) (l - 1) with
      | false => rfl
      | true =>
        have := Nat.le_of_ble_eq_true hb2
        rw [Nat.ble_eq_true_of_le (by omega)] at hb
        exact absurd hb (by decide)
  rw [e1, show l - 1 - (n - (i + 1)) = l - (n - i) by omega, show i + 1 + (l - 1) = i + l by omega]
theorem fin_no (r : Int) (n i : Nat) (f : Nat → Int) (h : i < n) : fin r 0 n i f = ⟨.ret, [.ptr 0 0, .v (.int .i64 170), .any, .any, .any, .any], HA r 0 true n f i⟩ := by
  unfold fin
  have : Nat.ble (n - i) 0 = false := by
    cases hb : Nat.ble (n - i) 0 with
    | false => rfl
    | true => have := Nat.le_of_ble_eq_true hb; omega
  rw [this]; rfl
theorem fin_end (r : Int) (l n : Nat) (f : Nat → Int) : fin r l n n f = ⟨.exit 0, [.ptr 0 0, .v (.int .i64 0), .any, .any, .any, .any], HA r (l : Int) false n f n⟩ := by
  unfold fin
  rw [Nat.sub_self, Nat.ble_eq_true_of_le (Nat.zero_le _)]; rfl
theorem w1 {n i : Nat} (h : i < n) (hn : n ≤ 3000) : IntKind.i64.wrap ((i : Int) + 1) = ((i + 1 : Nat) : Int) := by rw [wrapE]; omega
theorem wl {l : Nat} (h : 0 < l) (hl : l ≤ 9223372036854775807) : IntKind.i64.wrap ((l : Int) - 1) = ((l - 1 : Nat) : Int) := by rw [wrapE]; omega
theorem grown {r l : Int} {o : Bool} {n k : Nat} {f : Nat → Int} {g : Nat → List AV} (hg : ∀ e, ∃ x, g e = [x]) : LeH [some (tp r (.hs 2 0 (k + 1)) l o), some (.arr 1 n (bytesF f)), some (.arr 1 (k + 1) g)] (HA r l o n f (k + 1)) := by
  refine ⟨.some (.refl _), .some (.refl _), OLe.arrLe rfl (fun e _ => ?_) (fun _ => rfl), trivial⟩
  obtain ⟨x, hx⟩ := hg e
  rw [hx]
  exact ⟨.any x, trivial⟩
theorem loop15_round (vals : List AV) (H : Heap) (o : Out) (h : Sp15 vals H o) : (roundE (P := Try.prog) (Γ := Γt) [S.c22] Lno false 2 0 loop15 [0, 4, 6, 30, 31, 32] [] 52 vals H).sat (OwesR Sp15 mu15 (mu15 vals H) o) := by
  obtain ⟨r, l, n, i, f, hi, hn, hl, rfl, rfl, rfl⟩ := h
  have hlz : ¬ ((l : Int) < 0) := by omega
  cases i with
  | zero =>
    show (roundE (P := Try.prog) (Γ := Γt) [S.c22] Lno false 2 0 loop15 [0, 4, 6, 30, 31, 32] [] 52 [.ptr 0 0, .v (.int .i64 0), .fn 22 [.ptr 0 0] [], .hs 1 0 n, .v (.int .i64 (n : Int)), .v (.int .i64 0)] [some (tp r (.v (.slice none 0 0)) l false), some (.arr 1 n fun j => [.v (.int .u8 (f j))])]).sat _
    rw [round0]
    by_cases hn0 : n = 0
    · subst hn0
      simp only [Tree.sat_br, Tree.sat_chk, Tree.sat_leaf]
      refine ⟨fun hc => absurd hc (by simp), fun _ => ?_⟩
      rw [fin_end]
      exact ⟨rfl, by simp, LeH.refl _⟩
    · have c1 : decide ((0 : Int) < (n : Int)) = true := decide_eq_true (by omega)
      by_cases hl0 : l = 0
      · subst hl0
        have c2 : decide (((0 : Nat) : Int) = 0) = true := rfl
        simp only [Tree.sat_br, Tree.sat_chk, Tree.sat_leaf, c1, c2, Bool.true_and]
        refine ⟨fun _ => ⟨trivial, fun _ => ⟨fun _ => ?_, fun hc => absurd hc (by decide)⟩, fun hc => absurd hc (by decide)⟩, fun hc => absurd hc (by decide)⟩
        rw [fin_no r n 0 f (by omega)]
        exact ⟨rfl, by simp, LeH.refl _⟩
      · have c2 : decide ((l : Int) = 0) = false := decide_eq_false (by omega)
        have c3 : decide ((0 : Int) < (l : Int)) = true := decide_eq_true (by omega)
        simp only [Tree.sat_br, Tree.sat_chk, Tree.sat_leaf, c1, c2, c3, Bool.true_and]
        refine ⟨fun _ => ⟨trivial, fun hc => absurd hc (by decide), fun _ => ⟨fun _ => ⟨fun hc => absurd hc (by decide), fun _ => ⟨trivial, ?_⟩⟩, fun hc => absurd hc (by decide)⟩⟩, fun hc => absurd hc (by decide)⟩
        rw [fin_go r l n 0 f (by omega) (by omega)]
        refine ⟨vals15 n 1, HA r ((l - 1 : Nat) : Int) false n f 1, LeL.refl _, ?_, ⟨r, l - 1, n, 1, f, by omega, hn, by omega, rfl, rfl, rfl⟩, ?_⟩
        · rw [wl (by omega) hl]
          exact grown (fun e => ⟨_, rfl⟩)
        · show ((n : Int) - ((1 : Nat) : Int)).toNat < ((n : Int) - ((0 : Nat) : Int)).toNat
          omega
  | succ k =>
    show (roundE (P := Try.prog) (Γ := Γt) [S.c22] Lno false 2 0 loop15 [0, 4, 6, 30, 31, 32] [] 52 [.ptr 0 0, .v (.int .i64 0), .fn 22 [.ptr 0 0] [], .hs 1 0 n, .v (.int .i64 (n : Int)), .v (.int .i64 ((k + 1 : Nat) : Int))] [some (tp r (.hs 2 0 (k + 1)) l false), some (.arr 1 n fun j => [.v (.int .u8 (f j))]), some (.arr 1 (k + 1) anyF)]).sat _
    rw [round1]
    by_cases hn0 : n = k + 1
    · subst hn0
      simp only [Tree.sat_br, Tree.sat_chk, Tree.sat_leaf]
      refine ⟨fun hc => absurd (of_decide_eq_true hc) (by omega), fun _ => ?_⟩
      rw [fin_end]
      exact ⟨rfl, by simp, LeH.refl _⟩
    · have c1 : decide (((k + 1 : Nat) : Int) < (n : Int)) = true := decide_eq_true (by omega)
      have c0 : decide ((0 : Int) ≤ ((k + 1 : Nat) : Int)) = true := decide_eq_true (by omega)
      by_cases hl0 : l = 0
      · subst hl0
        have c2 : decide (((0 : Nat) : Int) = 0) = true := rfl
        simp only [Tree.sat_br, Tree.sat_chk, Tree.sat_leaf, c0, c1, c2, Bool.true_and]
        refine ⟨fun _ => ⟨trivial, fun _ => ⟨fun _ => ?_, fun hc => absurd hc (by decide)⟩, fun hc => absurd hc (by decide)⟩, fun hc => absurd hc (by decide)⟩
        rw [fin_no r n (k + 1) f (by omega)]
        exact ⟨rfl, by simp, LeH.refl _⟩
      · have c2 : decide ((l : Int) = 0) = false := decide_eq_false (by omega)
        have c3 : decide ((0 : Int) < (l : Int)) = true := decide_eq_true (by omega)
        simp only [Tree.sat_br, Tree.sat_chk, Tree.sat_leaf, c0, c1, c2, c3, Bool.true_and]
        refine ⟨fun _ => ⟨trivial, fun hc => absurd hc (by decide), fun _ => ⟨fun _ => ⟨fun hc => absurd hc (by decide), fun _ => ⟨room1 (by omega), ?_⟩⟩, fun hc => absurd hc (by decide)⟩⟩, fun hc => absurd hc (by decide)⟩
        rw [fin_go r l n (k + 1) f (by omega) (by omega)]
        refine ⟨vals15 n (k + 2), HA r ((l - 1 : Nat) : Int) false n f (k + 2), ?_, ?_, ⟨r, l - 1, n, k + 2, f, by omega, hn, by omega, rfl, rfl, rfl⟩, ?_⟩
        · rw [w1 (by omega) hn]; exact LeL.refl _
        · rw [wl (by omega) hl]
          exact grown (fun e => ⟨_, rfl⟩)
        · show ((n : Int) - ((k + 2 : Nat) : Int)).toNat < ((n : Int) - ((k + 1 : Nat) : Int)).toNat
          omega
end Go.Eng.T
