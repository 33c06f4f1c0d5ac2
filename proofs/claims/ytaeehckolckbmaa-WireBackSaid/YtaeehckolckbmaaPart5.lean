/- WireBack holds at every input: no condition beyond the row own cells. -/
import Derived.Test.YtaeehckolckbmaaPart4
import Derived.Test.YtaeehckolckbmaaRows
import Derived.ProofKit
import Derived.LaidMore
import Derived.OpenShut
import Derived.Stop.Joined
/- wire: what is written is read: the ways through the law. -/
namespace Go.Eng.W
open Go Go.Eng Go.Proofs
set_option linter.unusedSimpArgs false
set_option linter.unusedVariables false
theorem runBG (n : Int) (s b : ByteArray) : Tree.prune [true] (bodyE (P := Try.prog) (Γ := Γw) [c6] Lno false 113 [.tmp 6] (bodyOf Try.f5) [.v (.int .i64 n), .v (.string s), .v (.string b)] []) =
  Tree.chk (bif decide ((70000 : Int) < (↑s.size : Int)) then true else decide ((2000 : Int) < (↑b.size : Int)))
  (Tree.leaf (Ans.mk (AV.v (Value.bool true)) [])) := by kernel_rfl
theorem runBAE (n : Int) (s b : ByteArray) : Tree.prune [false, false, false, true, false, true, false, true, true] (bodyE (P := Try.prog) (Γ := Γw) [c6, Z.c7, Z.c18, Z.c13, S.c16, S.c17] Lno false 113 [.tmp 6] (bodyOf Try.f5) [.v (.int .i64 n), .v (.string s), .v (.string b)] []) =
  Tree.chk (!bif decide ((70000 : Int) < (↑s.size : Int)) then true else decide ((2000 : Int) < (↑b.size : Int)))
  (Tree.chk (!okN n)
    (Tree.chk true
      (Tree.chk (b.size.beq (0 : Nat))
        (Tree.chk (cl ((fun j => [AV.v (Value.int IntKind.u8 (sbyte b j))]) = bsF (ByteArray.mk #[])))
          (Tree.chk
            (cl
              ((fun j => [AV.v (Value.int IntKind.u8 (sbyte b j))]) =
                  bsF (textOf (0 : Nat) fun j => [AV.v (Value.int IntKind.u8 (sbyte b j))]) ∧
                (0 : Nat) ≤ (1000000000000 : Nat)))
            (Tree.chk
              (!cl
                  (∃ k,
                    IsGood (textOf (0 : Nat) fun j => [AV.v (Value.int IntKind.u8 (sbyte b j))]) (0 : Nat) (0 : Nat) k))
              (Tree.chk
                (cl (IsCut (textOf (0 : Nat) fun j => [AV.v (Value.int IntKind.u8 (sbyte b j))]) (0 : Nat) (0 : Nat)))
                (Tree.chk true (Tree.chk true (Tree.chk true (Tree.leaf (Ans.mk (AV.sb true) [])))))))))))) := by kernel_rfl
theorem runBAC (n : Int) (s b : ByteArray) : Tree.prune [false, false, false, false, false, true, false, true, true] (bodyE (P := Try.prog) (Γ := Γw) [c6, Z.c7, Z.c18, Z.c13, S.c16, S.c17] Lno false 113 [.tmp 6] (bodyOf Try.f5) [.v (.int .i64 n), .v (.string s), .v (.string b)] []) =
  Tree.chk (!bif decide ((70000 : Int) < (↑s.size : Int)) then true else decide ((2000 : Int) < (↑b.size : Int)))
  (Tree.chk (!okN n)
    (Tree.chk true
      (Tree.chk (!b.size.beq (0 : Nat))
        (Tree.chk
          (cl
            (b.size = b.size ∧
              (fun j => [AV.v (Value.int IntKind.u8 (sbyte b j))]) =
                  bsF (textOf b.size fun j => [AV.v (Value.int IntKind.u8 (sbyte b j))]) ∧
                (0 : Nat) < b.size ∧ b.size ≤ (1000000000 : Nat)))
          (Tree.chk
            (cl
              ((fun j => [AV.v (Value.int IntKind.u8 (sbyte b j))]) =
                  bsF (textOf b.size fun j => [AV.v (Value.int IntKind.u8 (sbyte b j))]) ∧
                b.size ≤ (1000000000000 : Nat)))
            (Tree.chk
              (!cl (∃ k, IsGood (textOf b.size fun j => [AV.v (Value.int IntKind.u8 (sbyte b j))]) (0 : Nat) b.size k))
              (Tree.chk (cl (IsCut (textOf b.size fun j => [AV.v (Value.int IntKind.u8 (sbyte b j))]) (0 : Nat) b.size))
                (Tree.chk true (Tree.chk true (Tree.chk true (Tree.leaf (Ans.mk (AV.sb true) [])))))))))))) := by kernel_rfl
theorem runBAB (n : Int) (s b : ByteArray) : Tree.prune [false, false, false, false, false, false, false, true, true] (bodyE (P := Try.prog) (Γ := Γw) [c6, Z.c7, Z.c18, Z.c13, S.c16, S.c17] Lno false 113 [.tmp 6] (bodyOf Try.f5) [.v (.int .i64 n), .v (.string s), .v (.string b)] []) =
  Tree.chk (!bif decide ((70000 : Int) < (↑s.size : Int)) then true else decide ((2000 : Int) < (↑b.size : Int)))
  (Tree.chk (!okN n)
    (Tree.chk true
      (Tree.chk (!b.size.beq (0 : Nat))
        (Tree.chk
          (cl
            (b.size = b.size ∧
              (fun j => [AV.v (Value.int IntKind.u8 (sbyte b j))]) =
                  bsF (textOf b.size fun j => [AV.v (Value.int IntKind.u8 (sbyte b j))]) ∧
                (0 : Nat) < b.size ∧ b.size ≤ (1000000000 : Nat)))
          (Tree.chk
            (cl
              ((fun j => [AV.v (Value.int IntKind.u8 (sbyte b j))]) =
                  bsF (textOf b.size fun j => [AV.v (Value.int IntKind.u8 (sbyte b j))]) ∧
                b.size ≤ (1000000000000 : Nat)))
            (Tree.chk
              (!cl (∃ k, IsGood (textOf b.size fun j => [AV.v (Value.int IntKind.u8 (sbyte b j))]) (0 : Nat) b.size k))
              (Tree.chk
                (!cl (IsCut (textOf b.size fun j => [AV.v (Value.int IntKind.u8 (sbyte b j))]) (0 : Nat) b.size))
                (Tree.chk true (Tree.chk true (Tree.chk true (Tree.leaf (Ans.mk (AV.sb true) [])))))))))))) := by kernel_rfl
theorem runBAT (n : Int) (s b : ByteArray) : Tree.prune [false, false, false, false, true, true, true, false, true, true, true, true] (bodyE (P := Try.prog) (Γ := Γw) [c6, Z.c7, Z.c18, Z.c13, S.c16, S.c17] Lno false 113 [.tmp 6] (bodyOf Try.f5) [.v (.int .i64 n), .v (.string s), .v (.string b)] []) =
  Tree.chk (!bif decide ((70000 : Int) < (↑s.size : Int)) then true else decide ((2000 : Int) < (↑b.size : Int)))
  (Tree.chk (!okN n)
    (Tree.chk true
      (Tree.chk (!b.size.beq (0 : Nat))
        (Tree.chk
          (cl
            (b.size = b.size ∧
              (fun j => [AV.v (Value.int IntKind.u8 (sbyte b j))]) =
                  bsF (textOf b.size fun j => [AV.v (Value.int IntKind.u8 (sbyte b j))]) ∧
                (0 : Nat) < b.size ∧ b.size ≤ (1000000000 : Nat)))
          (Tree.chk
            (cl
              ((fun j => [AV.v (Value.int IntKind.u8 (sbyte b j))]) =
                  bsF (textOf b.size fun j => [AV.v (Value.int IntKind.u8 (sbyte b j))]) ∧
                b.size ≤ (1000000000000 : Nat)))
            (Tree.chk
              (cl (∃ k, IsGood (textOf b.size fun j => [AV.v (Value.int IntKind.u8 (sbyte b j))]) (0 : Nat) b.size k))
              (Tree.chk
                (bif true then
                  decide
                    ((0 : Int) <
                      (↑(b.size -
                            (kG (textOf b.size fun j => [AV.v (Value.int IntKind.u8 (sbyte b j))]) (0 : Nat) b.size +
                              (1 : Nat))) :
                        Int))
                else false)
                (Tree.chk true
                  (Tree.chk
                    (!decide
                        ((↑(b.size -
                                (kG (textOf b.size fun j => [AV.v (Value.int IntKind.u8 (sbyte b j))]) (0 : Nat)
                                    b.size +
                                  (1 : Nat))) :
                            Int) =
                          (0 : Int)))
                    (Tree.chk
                      (okN
                        (↑(vAt (textOf b.size fun j => [AV.v (Value.int IntKind.u8 (sbyte b j))]) (0 : Nat)
                              (kG (textOf b.size fun j => [AV.v (Value.int IntKind.u8 (sbyte b j))]) (0 : Nat) b.size +
                                (1 : Nat))) :
                          Int))
                      (Tree.chk true
                        (Tree.chk
                          (decide
                            ((↑(numB
                                      (↑(vAt (textOf b.size fun j => [AV.v (Value.int IntKind.u8 (sbyte b j))])
                                              (0 : Nat)
                                              (kG (textOf b.size fun j => [AV.v (Value.int IntKind.u8 (sbyte b j))])
                                                  (0 : Nat) b.size +
                                                (1 : Nat))) :
                                          Int).toNat).size :
                                Int) ≤
                              (↑b.size : Int)))
                          (Tree.chk
                            (allBytes
                              (numB
                                  (↑(vAt (textOf b.size fun j => [AV.v (Value.int IntKind.u8 (sbyte b j))]) (0 : Nat)
                                          (kG (textOf b.size fun j => [AV.v (Value.int IntKind.u8 (sbyte b j))])
                                              (0 : Nat) b.size +
                                            (1 : Nat))) :
                                      Int).toNat).size
                              fun j =>
                              [AV.v
                                  (Value.int IntKind.u8
                                    (sbyte
                                      (numB
                                        (↑(vAt (textOf b.size fun j => [AV.v (Value.int IntKind.u8 (sbyte b j))])
                                                (0 : Nat)
                                                (kG (textOf b.size fun j => [AV.v (Value.int IntKind.u8 (sbyte b j))])
                                                    (0 : Nat) b.size +
                                                  (1 : Nat))) :
                                            Int).toNat)
                                      ((0 : Nat) + j)))])
                            (Tree.chk
                              (true &&
                                  decide
                                    ((↑(0 : Nat) : Int) ≤
                                      (↑(numB
                                              (↑(vAt (textOf b.size fun j => [AV.v (Value.int IntKind.u8 (sbyte b j))])
                                                      (0 : Nat)
                                                      (kG
                                                          (textOf b.size fun j =>
                                                            [AV.v (Value.int IntKind.u8 (sbyte b j))])
                                                          (0 : Nat) b.size +
                                                        (1 : Nat))) :
                                                  Int).toNat).size :
                                        Int)) &&
                                decide
                                  ((↑(numB
                                            (↑(vAt (textOf b.size fun j => [AV.v (Value.int IntKind.u8 (sbyte b j))])
                                                    (0 : Nat)
                                                    (kG
                                                        (textOf b.size fun j =>
                                                          [AV.v (Value.int IntKind.u8 (sbyte b j))])
                                                        (0 : Nat) b.size +
                                                      (1 : Nat))) :
                                                Int).toNat).size :
                                      Int) ≤
                                    (↑b.size : Int)))
                              (Tree.chk
                                (decide
                                  ((textOf
                                      (numB
                                          (↑(vAt (textOf b.size fun j => [AV.v (Value.int IntKind.u8 (sbyte b j))])
                                                  (0 : Nat)
                                                  (kG (textOf b.size fun j => [AV.v (Value.int IntKind.u8 (sbyte b j))])
                                                      (0 : Nat) b.size +
                                                    (1 : Nat))) :
                                              Int).toNat).size
                                      fun j =>
                                      [AV.v
                                          (Value.int IntKind.u8
                                            (sbyte
                                              (numB
                                                (↑(vAt
                                                        (textOf b.size fun j =>
                                                          [AV.v (Value.int IntKind.u8 (sbyte b j))])
                                                        (0 : Nat)
                                                        (kG
                                                            (textOf b.size fun j =>
                                                              [AV.v (Value.int IntKind.u8 (sbyte b j))])
                                                            (0 : Nat) b.size +
                                                          (1 : Nat))) :
                                                    Int).toNat)
                                              ((0 : Nat) + j)))]) =
                                    b.extract (↑(0 : Nat) : Int).toNat
                                      (↑(numB
                                                (↑(vAt
                                                        (textOf b.size fun j =>
                                                          [AV.v (Value.int IntKind.u8 (sbyte b j))])
                                                        (0 : Nat)
                                                        (kG
                                                            (textOf b.size fun j =>
                                                              [AV.v (Value.int IntKind.u8 (sbyte b j))])
                                                            (0 : Nat) b.size +
                                                          (1 : Nat))) :
                                                    Int).toNat).size :
                                          Int).toNat))
                                (Tree.leaf
                                  (Ans.mk
                                    (AV.sb
                                      (decide
                                        ((↑(b.size -
                                                (kG (textOf b.size fun j => [AV.v (Value.int IntKind.u8 (sbyte b j))])
                                                    (0 : Nat) b.size +
                                                  (1 : Nat))) :
                                            Int) =
                                          IntKind.i64.wrap
                                            ((↑b.size : Int) -
                                              (↑(numB
                                                      (↑(vAt
                                                              (textOf b.size fun j =>
                                                                [AV.v (Value.int IntKind.u8 (sbyte b j))])
                                                              (0 : Nat)
                                                              (kG
                                                                  (textOf b.size fun j =>
                                                                    [AV.v (Value.int IntKind.u8 (sbyte b j))])
                                                                  (0 : Nat) b.size +
                                                                (1 : Nat))) :
                                                          Int).toNat).size :
                                                Int)))))
                                    []))))))))))))))))) := by kernel_rfl
theorem runBAF (n : Int) (s b : ByteArray) : Tree.prune [false, false, false, false, true, false, false, true, true, true, true] (bodyE (P := Try.prog) (Γ := Γw) [c6, Z.c7, Z.c18, Z.c13, S.c16, S.c17] Lno false 113 [.tmp 6] (bodyOf Try.f5) [.v (.int .i64 n), .v (.string s), .v (.string b)] []) =
  Tree.chk (!bif decide ((70000 : Int) < (↑s.size : Int)) then true else decide ((2000 : Int) < (↑b.size : Int)))
  (Tree.chk (!okN n)
    (Tree.chk true
      (Tree.chk (!b.size.beq (0 : Nat))
        (Tree.chk
          (cl
            (b.size = b.size ∧
              (fun j => [AV.v (Value.int IntKind.u8 (sbyte b j))]) =
                  bsF (textOf b.size fun j => [AV.v (Value.int IntKind.u8 (sbyte b j))]) ∧
                (0 : Nat) < b.size ∧ b.size ≤ (1000000000 : Nat)))
          (Tree.chk
            (cl
              ((fun j => [AV.v (Value.int IntKind.u8 (sbyte b j))]) =
                  bsF (textOf b.size fun j => [AV.v (Value.int IntKind.u8 (sbyte b j))]) ∧
                b.size ≤ (1000000000000 : Nat)))
            (Tree.chk
              (cl (∃ k, IsGood (textOf b.size fun j => [AV.v (Value.int IntKind.u8 (sbyte b j))]) (0 : Nat) b.size k))
              (Tree.chk
                (!bif true then
                    decide
                      ((0 : Int) <
                        (↑(b.size -
                              (kG (textOf b.size fun j => [AV.v (Value.int IntKind.u8 (sbyte b j))]) (0 : Nat) b.size +
                                (1 : Nat))) :
                          Int))
                  else false)
                (Tree.chk true
                  (Tree.chk
                    (okN
                      (↑(vAt (textOf b.size fun j => [AV.v (Value.int IntKind.u8 (sbyte b j))]) (0 : Nat)
                            (kG (textOf b.size fun j => [AV.v (Value.int IntKind.u8 (sbyte b j))]) (0 : Nat) b.size +
                              (1 : Nat))) :
                        Int))
                    (Tree.chk true
                      (Tree.chk
                        (decide
                          ((↑(numB
                                    (↑(vAt (textOf b.size fun j => [AV.v (Value.int IntKind.u8 (sbyte b j))]) (0 : Nat)
                                            (kG (textOf b.size fun j => [AV.v (Value.int IntKind.u8 (sbyte b j))])
                                                (0 : Nat) b.size +
                                              (1 : Nat))) :
                                        Int).toNat).size :
                              Int) ≤
                            (↑b.size : Int)))
                        (Tree.chk
                          (allBytes
                            (numB
                                (↑(vAt (textOf b.size fun j => [AV.v (Value.int IntKind.u8 (sbyte b j))]) (0 : Nat)
                                        (kG (textOf b.size fun j => [AV.v (Value.int IntKind.u8 (sbyte b j))]) (0 : Nat)
                                            b.size +
                                          (1 : Nat))) :
                                    Int).toNat).size
                            fun j =>
                            [AV.v
                                (Value.int IntKind.u8
                                  (sbyte
                                    (numB
                                      (↑(vAt (textOf b.size fun j => [AV.v (Value.int IntKind.u8 (sbyte b j))])
                                              (0 : Nat)
                                              (kG (textOf b.size fun j => [AV.v (Value.int IntKind.u8 (sbyte b j))])
                                                  (0 : Nat) b.size +
                                                (1 : Nat))) :
                                          Int).toNat)
                                    ((0 : Nat) + j)))])
                          (Tree.chk
                            (true &&
                                decide
                                  ((↑(0 : Nat) : Int) ≤
                                    (↑(numB
                                            (↑(vAt (textOf b.size fun j => [AV.v (Value.int IntKind.u8 (sbyte b j))])
                                                    (0 : Nat)
                                                    (kG
                                                        (textOf b.size fun j =>
                                                          [AV.v (Value.int IntKind.u8 (sbyte b j))])
                                                        (0 : Nat) b.size +
                                                      (1 : Nat))) :
                                                Int).toNat).size :
                                      Int)) &&
                              decide
                                ((↑(numB
                                          (↑(vAt (textOf b.size fun j => [AV.v (Value.int IntKind.u8 (sbyte b j))])
                                                  (0 : Nat)
                                                  (kG (textOf b.size fun j => [AV.v (Value.int IntKind.u8 (sbyte b j))])
                                                      (0 : Nat) b.size +
                                                    (1 : Nat))) :
                                              Int).toNat).size :
                                    Int) ≤
                                  (↑b.size : Int)))
                            (Tree.chk
                              (decide
                                ((textOf
                                    (numB
                                        (↑(vAt (textOf b.size fun j => [AV.v (Value.int IntKind.u8 (sbyte b j))])
                                                (0 : Nat)
                                                (kG (textOf b.size fun j => [AV.v (Value.int IntKind.u8 (sbyte b j))])
                                                    (0 : Nat) b.size +
                                                  (1 : Nat))) :
                                            Int).toNat).size
                                    fun j =>
                                    [AV.v
                                        (Value.int IntKind.u8
                                          (sbyte
                                            (numB
                                              (↑(vAt (textOf b.size fun j => [AV.v (Value.int IntKind.u8 (sbyte b j))])
                                                      (0 : Nat)
                                                      (kG
                                                          (textOf b.size fun j =>
                                                            [AV.v (Value.int IntKind.u8 (sbyte b j))])
                                                          (0 : Nat) b.size +
                                                        (1 : Nat))) :
                                                  Int).toNat)
                                            ((0 : Nat) + j)))]) =
                                  b.extract (↑(0 : Nat) : Int).toNat
                                    (↑(numB
                                              (↑(vAt (textOf b.size fun j => [AV.v (Value.int IntKind.u8 (sbyte b j))])
                                                      (0 : Nat)
                                                      (kG
                                                          (textOf b.size fun j =>
                                                            [AV.v (Value.int IntKind.u8 (sbyte b j))])
                                                          (0 : Nat) b.size +
                                                        (1 : Nat))) :
                                                  Int).toNat).size :
                                        Int).toNat))
                              (Tree.leaf
                                (Ans.mk
                                  (AV.sb
                                    (decide
                                      ((↑(b.size -
                                              (kG (textOf b.size fun j => [AV.v (Value.int IntKind.u8 (sbyte b j))])
                                                  (0 : Nat) b.size +
                                                (1 : Nat))) :
                                          Int) =
                                        IntKind.i64.wrap
                                          ((↑b.size : Int) -
                                            (↑(numB
                                                    (↑(vAt
                                                            (textOf b.size fun j =>
                                                              [AV.v (Value.int IntKind.u8 (sbyte b j))])
                                                            (0 : Nat)
                                                            (kG
                                                                (textOf b.size fun j =>
                                                                  [AV.v (Value.int IntKind.u8 (sbyte b j))])
                                                                (0 : Nat) b.size +
                                                              (1 : Nat))) :
                                                        Int).toNat).size :
                                              Int)))))
                                  [])))))))))))))))) := by kernel_rfl
theorem runBBE (n : Int) (s b : ByteArray) (ht : (BA.hs (numB n.toNat)).ok) (hs : 65536 < s.size) (h : s.size ≤ 4611686018427387904) : Tree.prune [false, true, true, false, true, false, true, false, true, true] (bodyE (P := Try.prog) (Γ := Γw) [c6, Z.c7, CT.at 9 (ansTextHBad (numB n.toNat) s ht hs h), Z.c18, Z.c13, S.c16, S.c17] Lno false 113 [.tmp 6] (bodyOf Try.f5) [.v (.int .i64 n), .v (.string s), .v (.string b)] []) =
  Tree.chk (!bif decide ((70000 : Int) < (↑s.size : Int)) then true else decide ((2000 : Int) < (↑b.size : Int)))
  (Tree.chk (okN n)
    (Tree.chk true
      (Tree.chk
        (cl
          (LeL [AV.hs (0 : Nat) (0 : Nat) (numB n.toNat).size, AV.v (Value.string s)]
              [AV.hs (0 : Nat) (0 : Nat) (numB n.toNat).size, AV.v (Value.string s)] ∧
            LeH
              [some
                  (Blk.arr (1 : Nat) (numB n.toNat).size fun j =>
                    [AV.v (Value.int IntKind.u8 (sbyte (numB n.toNat) j))])]
              [some
                  (Blk.arr (1 : Nat) (numB n.toNat).size fun j =>
                    [AV.v (Value.int IntKind.u8 (sbyte (numB n.toNat) j))])]))
        (Tree.chk true
          (Tree.chk (b.size.beq (0 : Nat))
            (Tree.chk (cl ((fun j => [AV.v (Value.int IntKind.u8 (sbyte b j))]) = bsF (ByteArray.mk #[])))
              (Tree.chk
                (cl
                  ((fun j => [AV.v (Value.int IntKind.u8 (sbyte b j))]) =
                      bsF (textOf (0 : Nat) fun j => [AV.v (Value.int IntKind.u8 (sbyte b j))]) ∧
                    (0 : Nat) ≤ (1000000000000 : Nat)))
                (Tree.chk
                  (!cl
                      (∃ k,
                        IsGood (textOf (0 : Nat) fun j => [AV.v (Value.int IntKind.u8 (sbyte b j))]) (0 : Nat) (0 : Nat)
                          k))
                  (Tree.chk
                    (cl
                      (IsCut (textOf (0 : Nat) fun j => [AV.v (Value.int IntKind.u8 (sbyte b j))]) (0 : Nat) (0 : Nat)))
                    (Tree.chk true (Tree.chk true (Tree.chk true (Tree.leaf (Ans.mk (AV.sb true) [])))))))))))))) := by kernel_rfl
theorem runBBC (n : Int) (s b : ByteArray) (ht : (BA.hs (numB n.toNat)).ok) (hs : 65536 < s.size) (h : s.size ≤ 4611686018427387904) : Tree.prune [false, true, true, false, false, false, true, false, true, true] (bodyE (P := Try.prog) (Γ := Γw) [c6, Z.c7, CT.at 9 (ansTextHBad (numB n.toNat) s ht hs h), Z.c18, Z.c13, S.c16, S.c17] Lno false 113 [.tmp 6] (bodyOf Try.f5) [.v (.int .i64 n), .v (.string s), .v (.string b)] []) =
  Tree.chk (!bif decide ((70000 : Int) < (↑s.size : Int)) then true else decide ((2000 : Int) < (↑b.size : Int)))
  (Tree.chk (okN n)
    (Tree.chk true
      (Tree.chk
        (cl
          (LeL [AV.hs (0 : Nat) (0 : Nat) (numB n.toNat).size, AV.v (Value.string s)]
              [AV.hs (0 : Nat) (0 : Nat) (numB n.toNat).size, AV.v (Value.string s)] ∧
            LeH
              [some
                  (Blk.arr (1 : Nat) (numB n.toNat).size fun j =>
                    [AV.v (Value.int IntKind.u8 (sbyte (numB n.toNat) j))])]
              [some
                  (Blk.arr (1 : Nat) (numB n.toNat).size fun j =>
                    [AV.v (Value.int IntKind.u8 (sbyte (numB n.toNat) j))])]))
        (Tree.chk true
          (Tree.chk (!b.size.beq (0 : Nat))
            (Tree.chk
              (cl
                (b.size = b.size ∧
                  (fun j => [AV.v (Value.int IntKind.u8 (sbyte b j))]) =
                      bsF (textOf b.size fun j => [AV.v (Value.int IntKind.u8 (sbyte b j))]) ∧
                    (0 : Nat) < b.size ∧ b.size ≤ (1000000000 : Nat)))
              (Tree.chk
                (cl
                  ((fun j => [AV.v (Value.int IntKind.u8 (sbyte b j))]) =
                      bsF (textOf b.size fun j => [AV.v (Value.int IntKind.u8 (sbyte b j))]) ∧
                    b.size ≤ (1000000000000 : Nat)))
                (Tree.chk
                  (!cl
                      (∃ k,
                        IsGood (textOf b.size fun j => [AV.v (Value.int IntKind.u8 (sbyte b j))]) (0 : Nat) b.size k))
                  (Tree.chk
                    (cl (IsCut (textOf b.size fun j => [AV.v (Value.int IntKind.u8 (sbyte b j))]) (0 : Nat) b.size))
                    (Tree.chk true (Tree.chk true (Tree.chk true (Tree.leaf (Ans.mk (AV.sb true) [])))))))))))))) := by kernel_rfl
theorem runBBB (n : Int) (s b : ByteArray) (ht : (BA.hs (numB n.toNat)).ok) (hs : 65536 < s.size) (h : s.size ≤ 4611686018427387904) : Tree.prune [false, true, true, false, false, false, false, false, true, true] (bodyE (P := Try.prog) (Γ := Γw) [c6, Z.c7, CT.at 9 (ansTextHBad (numB n.toNat) s ht hs h), Z.c18, Z.c13, S.c16, S.c17] Lno false 113 [.tmp 6] (bodyOf Try.f5) [.v (.int .i64 n), .v (.string s), .v (.string b)] []) =
  Tree.chk (!bif decide ((70000 : Int) < (↑s.size : Int)) then true else decide ((2000 : Int) < (↑b.size : Int)))
  (Tree.chk (okN n)
    (Tree.chk true
      (Tree.chk
        (cl
          (LeL [AV.hs (0 : Nat) (0 : Nat) (numB n.toNat).size, AV.v (Value.string s)]
              [AV.hs (0 : Nat) (0 : Nat) (numB n.toNat).size, AV.v (Value.string s)] ∧
            LeH
              [some
                  (Blk.arr (1 : Nat) (numB n.toNat).size fun j =>
                    [AV.v (Value.int IntKind.u8 (sbyte (numB n.toNat) j))])]
              [some
                  (Blk.arr (1 : Nat) (numB n.toNat).size fun j =>
                    [AV.v (Value.int IntKind.u8 (sbyte (numB n.toNat) j))])]))
        (Tree.chk true
          (Tree.chk (!b.size.beq (0 : Nat))
            (Tree.chk
              (cl
                (b.size = b.size ∧
                  (fun j => [AV.v (Value.int IntKind.u8 (sbyte b j))]) =
                      bsF (textOf b.size fun j => [AV.v (Value.int IntKind.u8 (sbyte b j))]) ∧
                    (0 : Nat) < b.size ∧ b.size ≤ (1000000000 : Nat)))
              (Tree.chk
                (cl
                  ((fun j => [AV.v (Value.int IntKind.u8 (sbyte b j))]) =
                      bsF (textOf b.size fun j => [AV.v (Value.int IntKind.u8 (sbyte b j))]) ∧
                    b.size ≤ (1000000000000 : Nat)))
                (Tree.chk
                  (!cl
                      (∃ k,
                        IsGood (textOf b.size fun j => [AV.v (Value.int IntKind.u8 (sbyte b j))]) (0 : Nat) b.size k))
                  (Tree.chk
                    (!cl (IsCut (textOf b.size fun j => [AV.v (Value.int IntKind.u8 (sbyte b j))]) (0 : Nat) b.size))
                    (Tree.chk true (Tree.chk true (Tree.chk true (Tree.leaf (Ans.mk (AV.sb true) [])))))))))))))) := by kernel_rfl
theorem runBBT (n : Int) (s b : ByteArray) (ht : (BA.hs (numB n.toNat)).ok) (hs : 65536 < s.size) (h : s.size ≤ 4611686018427387904) : Tree.prune [false, true, true, false, false, true, true, true, false, true, true, true, true] (bodyE (P := Try.prog) (Γ := Γw) [c6, Z.c7, CT.at 9 (ansTextHBad (numB n.toNat) s ht hs h), Z.c18, Z.c13, S.c16, S.c17] Lno false 113 [.tmp 6] (bodyOf Try.f5) [.v (.int .i64 n), .v (.string s), .v (.string b)] []) =
  Tree.chk (!bif decide ((70000 : Int) < (↑s.size : Int)) then true else decide ((2000 : Int) < (↑b.size : Int)))
  (Tree.chk (okN n)
    (Tree.chk true
      (Tree.chk
        (cl
          (LeL [AV.hs (0 : Nat) (0 : Nat) (numB n.toNat).size, AV.v (Value.string s)]
              [AV.hs (0 : Nat) (0 : Nat) (numB n.toNat).size, AV.v (Value.string s)] ∧
            LeH
              [some
                  (Blk.arr (1 : Nat) (numB n.toNat).size fun j =>
                    [AV.v (Value.int IntKind.u8 (sbyte (numB n.toNat) j))])]
              [some
                  (Blk.arr (1 : Nat) (numB n.toNat).size fun j =>
                    [AV.v (Value.int IntKind.u8 (sbyte (numB n.toNat) j))])]))
        (Tree.chk true
          (Tree.chk (!b.size.beq (0 : Nat))
            (Tree.chk
              (cl
                (b.size = b.size ∧
                  (fun j => [AV.v (Value.int IntKind.u8 (sbyte b j))]) =
                      bsF (textOf b.size fun j => [AV.v (Value.int IntKind.u8 (sbyte b j))]) ∧
                    (0 : Nat) < b.size ∧ b.size ≤ (1000000000 : Nat)))
              (Tree.chk
                (cl
                  ((fun j => [AV.v (Value.int IntKind.u8 (sbyte b j))]) =
                      bsF (textOf b.size fun j => [AV.v (Value.int IntKind.u8 (sbyte b j))]) ∧
                    b.size ≤ (1000000000000 : Nat)))
                (Tree.chk
                  (cl
                    (∃ k, IsGood (textOf b.size fun j => [AV.v (Value.int IntKind.u8 (sbyte b j))]) (0 : Nat) b.size k))
                  (Tree.chk
                    (bif true then
                      decide
                        ((0 : Int) <
                          (↑(b.size -
                                (kG (textOf b.size fun j => [AV.v (Value.int IntKind.u8 (sbyte b j))]) (0 : Nat)
                                    b.size +
                                  (1 : Nat))) :
                            Int))
                    else false)
                    (Tree.chk true
                      (Tree.chk
                        (!decide
                            ((↑(b.size -
                                    (kG (textOf b.size fun j => [AV.v (Value.int IntKind.u8 (sbyte b j))]) (0 : Nat)
                                        b.size +
                                      (1 : Nat))) :
                                Int) =
                              (0 : Int)))
                        (Tree.chk
                          (okN
                            (↑(vAt (textOf b.size fun j => [AV.v (Value.int IntKind.u8 (sbyte b j))]) (0 : Nat)
                                  (kG (textOf b.size fun j => [AV.v (Value.int IntKind.u8 (sbyte b j))]) (0 : Nat)
                                      b.size +
                                    (1 : Nat))) :
                              Int))
                          (Tree.chk true
                            (Tree.chk
                              (decide
                                ((↑(numB
                                          (↑(vAt (textOf b.size fun j => [AV.v (Value.int IntKind.u8 (sbyte b j))])
                                                  (0 : Nat)
                                                  (kG (textOf b.size fun j => [AV.v (Value.int IntKind.u8 (sbyte b j))])
                                                      (0 : Nat) b.size +
                                                    (1 : Nat))) :
                                              Int).toNat).size :
                                    Int) ≤
                                  (↑b.size : Int)))
                              (Tree.chk
                                (allBytes
                                  (numB
                                      (↑(vAt (textOf b.size fun j => [AV.v (Value.int IntKind.u8 (sbyte b j))])
                                              (0 : Nat)
                                              (kG (textOf b.size fun j => [AV.v (Value.int IntKind.u8 (sbyte b j))])
                                                  (0 : Nat) b.size +
                                                (1 : Nat))) :
                                          Int).toNat).size
                                  fun j =>
                                  [AV.v
                                      (Value.int IntKind.u8
                                        (sbyte
                                          (numB
                                            (↑(vAt (textOf b.size fun j => [AV.v (Value.int IntKind.u8 (sbyte b j))])
                                                    (0 : Nat)
                                                    (kG
                                                        (textOf b.size fun j =>
                                                          [AV.v (Value.int IntKind.u8 (sbyte b j))])
                                                        (0 : Nat) b.size +
                                                      (1 : Nat))) :
                                                Int).toNat)
                                          ((0 : Nat) + j)))])
                                (Tree.chk
                                  (true &&
                                      decide
                                        ((↑(0 : Nat) : Int) ≤
                                          (↑(numB
                                                  (↑(vAt
                                                          (textOf b.size fun j =>
                                                            [AV.v (Value.int IntKind.u8 (sbyte b j))])
                                                          (0 : Nat)
                                                          (kG
                                                              (textOf b.size fun j =>
                                                                [AV.v (Value.int IntKind.u8 (sbyte b j))])
                                                              (0 : Nat) b.size +
                                                            (1 : Nat))) :
                                                      Int).toNat).size :
                                            Int)) &&
                                    decide
                                      ((↑(numB
                                                (↑(vAt
                                                        (textOf b.size fun j =>
                                                          [AV.v (Value.int IntKind.u8 (sbyte b j))])
                                                        (0 : Nat)
                                                        (kG
                                                            (textOf b.size fun j =>
                                                              [AV.v (Value.int IntKind.u8 (sbyte b j))])
                                                            (0 : Nat) b.size +
                                                          (1 : Nat))) :
                                                    Int).toNat).size :
                                          Int) ≤
                                        (↑b.size : Int)))
                                  (Tree.chk
                                    (decide
                                      ((textOf
                                          (numB
                                              (↑(vAt (textOf b.size fun j => [AV.v (Value.int IntKind.u8 (sbyte b j))])
                                                      (0 : Nat)
                                                      (kG
                                                          (textOf b.size fun j =>
                                                            [AV.v (Value.int IntKind.u8 (sbyte b j))])
                                                          (0 : Nat) b.size +
                                                        (1 : Nat))) :
                                                  Int).toNat).size
                                          fun j =>
                                          [AV.v
                                              (Value.int IntKind.u8
                                                (sbyte
                                                  (numB
                                                    (↑(vAt
                                                            (textOf b.size fun j =>
                                                              [AV.v (Value.int IntKind.u8 (sbyte b j))])
                                                            (0 : Nat)
                                                            (kG
                                                                (textOf b.size fun j =>
                                                                  [AV.v (Value.int IntKind.u8 (sbyte b j))])
                                                                (0 : Nat) b.size +
                                                              (1 : Nat))) :
                                                        Int).toNat)
                                                  ((0 : Nat) + j)))]) =
                                        b.extract (↑(0 : Nat) : Int).toNat
                                          (↑(numB
                                                    (↑(vAt
                                                            (textOf b.size fun j =>
                                                              [AV.v (Value.int IntKind.u8 (sbyte b j))])
                                                            (0 : Nat)
                                                            (kG
                                                                (textOf b.size fun j =>
                                                                  [AV.v (Value.int IntKind.u8 (sbyte b j))])
                                                                (0 : Nat) b.size +
                                                              (1 : Nat))) :
                                                        Int).toNat).size :
                                              Int).toNat))
                                    (Tree.leaf
                                      (Ans.mk
                                        (AV.sb
                                          (decide
                                            ((↑(b.size -
                                                    (kG
                                                        (textOf b.size fun j =>
                                                          [AV.v (Value.int IntKind.u8 (sbyte b j))])
                                                        (0 : Nat) b.size +
                                                      (1 : Nat))) :
                                                Int) =
                                              IntKind.i64.wrap
                                                ((↑b.size : Int) -
                                                  (↑(numB
                                                          (↑(vAt
                                                                  (textOf b.size fun j =>
                                                                    [AV.v (Value.int IntKind.u8 (sbyte b j))])
                                                                  (0 : Nat)
                                                                  (kG
                                                                      (textOf b.size fun j =>
                                                                        [AV.v (Value.int IntKind.u8 (sbyte b j))])
                                                                      (0 : Nat) b.size +
                                                                    (1 : Nat))) :
                                                              Int).toNat).size :
                                                    Int)))))
                                        []))))))))))))))))))) := by kernel_rfl
theorem runBBF (n : Int) (s b : ByteArray) (ht : (BA.hs (numB n.toNat)).ok) (hs : 65536 < s.size) (h : s.size ≤ 4611686018427387904) : Tree.prune [false, true, true, false, false, true, false, false, true, true, true, true] (bodyE (P := Try.prog) (Γ := Γw) [c6, Z.c7, CT.at 9 (ansTextHBad (numB n.toNat) s ht hs h), Z.c18, Z.c13, S.c16, S.c17] Lno false 113 [.tmp 6] (bodyOf Try.f5) [.v (.int .i64 n), .v (.string s), .v (.string b)] []) =
  Tree.chk (!bif decide ((70000 : Int) < (↑s.size : Int)) then true else decide ((2000 : Int) < (↑b.size : Int)))
  (Tree.chk (okN n)
    (Tree.chk true
      (Tree.chk
        (cl
          (LeL [AV.hs (0 : Nat) (0 : Nat) (numB n.toNat).size, AV.v (Value.string s)]
              [AV.hs (0 : Nat) (0 : Nat) (numB n.toNat).size, AV.v (Value.string s)] ∧
            LeH
              [some
                  (Blk.arr (1 : Nat) (numB n.toNat).size fun j =>
                    [AV.v (Value.int IntKind.u8 (sbyte (numB n.toNat) j))])]
              [some
                  (Blk.arr (1 : Nat) (numB n.toNat).size fun j =>
                    [AV.v (Value.int IntKind.u8 (sbyte (numB n.toNat) j))])]))
        (Tree.chk true
          (Tree.chk (!b.size.beq (0 : Nat))
            (Tree.chk
              (cl
                (b.size = b.size ∧
                  (fun j => [AV.v (Value.int IntKind.u8 (sbyte b j))]) =
                      bsF (textOf b.size fun j => [AV.v (Value.int IntKind.u8 (sbyte b j))]) ∧
                    (0 : Nat) < b.size ∧ b.size ≤ (1000000000 : Nat)))
              (Tree.chk
                (cl
                  ((fun j => [AV.v (Value.int IntKind.u8 (sbyte b j))]) =
                      bsF (textOf b.size fun j => [AV.v (Value.int IntKind.u8 (sbyte b j))]) ∧
                    b.size ≤ (1000000000000 : Nat)))
                (Tree.chk
                  (cl
                    (∃ k, IsGood (textOf b.size fun j => [AV.v (Value.int IntKind.u8 (sbyte b j))]) (0 : Nat) b.size k))
                  (Tree.chk
                    (!bif true then
                        decide
                          ((0 : Int) <
                            (↑(b.size -
                                  (kG (textOf b.size fun j => [AV.v (Value.int IntKind.u8 (sbyte b j))]) (0 : Nat)
                                      b.size +
                                    (1 : Nat))) :
                              Int))
                      else false)
                    (Tree.chk true
                      (Tree.chk
                        (okN
                          (↑(vAt (textOf b.size fun j => [AV.v (Value.int IntKind.u8 (sbyte b j))]) (0 : Nat)
                                (kG (textOf b.size fun j => [AV.v (Value.int IntKind.u8 (sbyte b j))]) (0 : Nat)
                                    b.size +
                                  (1 : Nat))) :
                            Int))
                        (Tree.chk true
                          (Tree.chk
                            (decide
                              ((↑(numB
                                        (↑(vAt (textOf b.size fun j => [AV.v (Value.int IntKind.u8 (sbyte b j))])
                                                (0 : Nat)
                                                (kG (textOf b.size fun j => [AV.v (Value.int IntKind.u8 (sbyte b j))])
                                                    (0 : Nat) b.size +
                                                  (1 : Nat))) :
                                            Int).toNat).size :
                                  Int) ≤
                                (↑b.size : Int)))
                            (Tree.chk
                              (allBytes
                                (numB
                                    (↑(vAt (textOf b.size fun j => [AV.v (Value.int IntKind.u8 (sbyte b j))]) (0 : Nat)
                                            (kG (textOf b.size fun j => [AV.v (Value.int IntKind.u8 (sbyte b j))])
                                                (0 : Nat) b.size +
                                              (1 : Nat))) :
                                        Int).toNat).size
                                fun j =>
                                [AV.v
                                    (Value.int IntKind.u8
                                      (sbyte
                                        (numB
                                          (↑(vAt (textOf b.size fun j => [AV.v (Value.int IntKind.u8 (sbyte b j))])
                                                  (0 : Nat)
                                                  (kG (textOf b.size fun j => [AV.v (Value.int IntKind.u8 (sbyte b j))])
                                                      (0 : Nat) b.size +
                                                    (1 : Nat))) :
                                              Int).toNat)
                                        ((0 : Nat) + j)))])
                              (Tree.chk
                                (true &&
                                    decide
                                      ((↑(0 : Nat) : Int) ≤
                                        (↑(numB
                                                (↑(vAt
                                                        (textOf b.size fun j =>
                                                          [AV.v (Value.int IntKind.u8 (sbyte b j))])
                                                        (0 : Nat)
                                                        (kG
                                                            (textOf b.size fun j =>
                                                              [AV.v (Value.int IntKind.u8 (sbyte b j))])
                                                            (0 : Nat) b.size +
                                                          (1 : Nat))) :
                                                    Int).toNat).size :
                                          Int)) &&
                                  decide
                                    ((↑(numB
                                              (↑(vAt (textOf b.size fun j => [AV.v (Value.int IntKind.u8 (sbyte b j))])
                                                      (0 : Nat)
                                                      (kG
                                                          (textOf b.size fun j =>
                                                            [AV.v (Value.int IntKind.u8 (sbyte b j))])
                                                          (0 : Nat) b.size +
                                                        (1 : Nat))) :
                                                  Int).toNat).size :
                                        Int) ≤
                                      (↑b.size : Int)))
                                (Tree.chk
                                  (decide
                                    ((textOf
                                        (numB
                                            (↑(vAt (textOf b.size fun j => [AV.v (Value.int IntKind.u8 (sbyte b j))])
                                                    (0 : Nat)
                                                    (kG
                                                        (textOf b.size fun j =>
                                                          [AV.v (Value.int IntKind.u8 (sbyte b j))])
                                                        (0 : Nat) b.size +
                                                      (1 : Nat))) :
                                                Int).toNat).size
                                        fun j =>
                                        [AV.v
                                            (Value.int IntKind.u8
                                              (sbyte
                                                (numB
                                                  (↑(vAt
                                                          (textOf b.size fun j =>
                                                            [AV.v (Value.int IntKind.u8 (sbyte b j))])
                                                          (0 : Nat)
                                                          (kG
                                                              (textOf b.size fun j =>
                                                                [AV.v (Value.int IntKind.u8 (sbyte b j))])
                                                              (0 : Nat) b.size +
                                                            (1 : Nat))) :
                                                      Int).toNat)
                                                ((0 : Nat) + j)))]) =
                                      b.extract (↑(0 : Nat) : Int).toNat
                                        (↑(numB
                                                  (↑(vAt
                                                          (textOf b.size fun j =>
                                                            [AV.v (Value.int IntKind.u8 (sbyte b j))])
                                                          (0 : Nat)
                                                          (kG
                                                              (textOf b.size fun j =>
                                                                [AV.v (Value.int IntKind.u8 (sbyte b j))])
                                                              (0 : Nat) b.size +
                                                            (1 : Nat))) :
                                                      Int).toNat).size :
                                            Int).toNat))
                                  (Tree.leaf
                                    (Ans.mk
                                      (AV.sb
                                        (decide
                                          ((↑(b.size -
                                                  (kG (textOf b.size fun j => [AV.v (Value.int IntKind.u8 (sbyte b j))])
                                                      (0 : Nat) b.size +
                                                    (1 : Nat))) :
                                              Int) =
                                            IntKind.i64.wrap
                                              ((↑b.size : Int) -
                                                (↑(numB
                                                        (↑(vAt
                                                                (textOf b.size fun j =>
                                                                  [AV.v (Value.int IntKind.u8 (sbyte b j))])
                                                                (0 : Nat)
                                                                (kG
                                                                    (textOf b.size fun j =>
                                                                      [AV.v (Value.int IntKind.u8 (sbyte b j))])
                                                                    (0 : Nat) b.size +
                                                                  (1 : Nat))) :
                                                            Int).toNat).size :
                                                  Int)))))
                                      [])))))))))))))))))) := by kernel_rfl
theorem runBCE (n : Int) (s b : ByteArray) (ht : (BA.hs (numB n.toNat)).ok) (hs : s.size ≤ 65536) (off len N k : Nat) (t : ByteArray) (hg : IsGood t off len k) (hl : len ≤ 1000000000000) (hv : vAt t off (k + 1) = s.size) (hr : s.size ≤ len - (k + 1)) (hb : ∀ j, j < s.size → sbyte t (off + (k + 1) + j) = sbyte s j) : Tree.prune [false, true, true, true, true, false, false, false, false, false, true, false, true, false, true, true] (bodyE (P := Try.prog) (Γ := Γw) [c6, Z.c7, CT.at 9 (ansTextH (numB n.toNat) s ht hs), Z.c18, Z.c13, CT.at 15 (ansTextR (N := N) hg hl hs hv hr hb), S.c16, S.c17] Lno false 113 [.tmp 6] (bodyOf Try.f5) [.v (.int .i64 n), .v (.string s), .v (.string b)] []) =
  Tree.chk (!bif decide ((70000 : Int) < (↑s.size : Int)) then true else decide ((2000 : Int) < (↑b.size : Int)))
  (Tree.chk (okN n)
    (Tree.chk true
      (Tree.chk
        (cl
          (LeL [AV.hs (0 : Nat) (0 : Nat) (numB n.toNat).size, AV.v (Value.string s)]
              [AV.hs (0 : Nat) (0 : Nat) (numB n.toNat).size, AV.v (Value.string s)] ∧
            LeH
              [some
                  (Blk.arr (1 : Nat) (numB n.toNat).size fun j =>
                    [AV.v (Value.int IntKind.u8 (sbyte (numB n.toNat) j))])]
              [some
                  (Blk.arr (1 : Nat) (numB n.toNat).size fun j =>
                    [AV.v (Value.int IntKind.u8 (sbyte (numB n.toNat) j))])]))
        (Tree.chk
          (cl
            ((textB (numB n.toNat) s).size = (textB (numB n.toNat) s).size ∧
              bsF (textB (numB n.toNat) s) = bsF (textOf (textB (numB n.toNat) s).size (bsF (textB (numB n.toNat) s))) ∧
                (0 : Nat) < (textB (numB n.toNat) s).size ∧ (textB (numB n.toNat) s).size ≤ (1000000000 : Nat)))
          (Tree.chk true
            (Tree.chk
              (cl
                (bsF (textB (numB n.toNat) s) =
                    bsF (textOf (textB (numB n.toNat) s).size (bsF (textB (numB n.toNat) s))) ∧
                  (textB (numB n.toNat) s).size ≤ (1000000000000 : Nat)))
              (Tree.chk
                (cl
                  (∃ k,
                    IsGood (textOf (textB (numB n.toNat) s).size (bsF (textB (numB n.toNat) s))) (0 : Nat)
                      (textB (numB n.toNat) s).size k))
                (Tree.chk
                  (!!decide
                        ((↑(vAt (textOf (textB (numB n.toNat) s).size (bsF (textB (numB n.toNat) s))) (0 : Nat)
                                (kG (textOf (textB (numB n.toNat) s).size (bsF (textB (numB n.toNat) s))) (0 : Nat)
                                    (textB (numB n.toNat) s).size +
                                  (1 : Nat))) :
                            Int) =
                          n))
                  (Tree.chk
                    (cl
                      (LeL [AV.ptr (0 : Nat) (0 : Nat)] [AV.ptr (0 : Nat) (0 : Nat)] ∧
                        LeH
                          [some
                              (Blk.row
                                [AV.hs (1 : Nat)
                                    ((0 : Nat) +
                                      (kG (textOf (textB (numB n.toNat) s).size (bsF (textB (numB n.toNat) s)))
                                          (0 : Nat) (textB (numB n.toNat) s).size +
                                        (1 : Nat)))
                                    ((textB (numB n.toNat) s).size -
                                      (kG (textOf (textB (numB n.toNat) s).size (bsF (textB (numB n.toNat) s)))
                                          (0 : Nat) (textB (numB n.toNat) s).size +
                                        (1 : Nat))),
                                  AV.v (Value.int IntKind.i64 (0 : Int))]),
                            some
                              (Blk.arr (1 : Nat) (textB (numB n.toNat) s).size fun j =>
                                [AV.v (Value.int IntKind.u8 (sbyte (textB (numB n.toNat) s) j))])]
                          [some (Blk.row [AV.hs (1 : Nat) off len, AV.v (Value.int IntKind.i64 (0 : Int))]),
                            some (Blk.arr (1 : Nat) N fun j => [AV.v (Value.int IntKind.u8 (sbyte t j))])]))
                    (Tree.chk (!!decide (s = s))
                      (Tree.chk (!!decide ((↑(len - (k + (1 : Nat)) - s.size) : Int) = (0 : Int)))
                        (Tree.chk
                          (!bif true then decide ((0 : Int) < (↑(len - (k + (1 : Nat)) - s.size) : Int)) else false)
                          (Tree.chk true
                            (Tree.chk (b.size.beq (0 : Nat))
                              (Tree.chk
                                (cl ((fun j => [AV.v (Value.int IntKind.u8 (sbyte b j))]) = bsF (ByteArray.mk #[])))
                                (Tree.chk
                                  (cl
                                    ((fun j => [AV.v (Value.int IntKind.u8 (sbyte b j))]) =
                                        bsF (textOf (0 : Nat) fun j => [AV.v (Value.int IntKind.u8 (sbyte b j))]) ∧
                                      (0 : Nat) ≤ (1000000000000 : Nat)))
                                  (Tree.chk
                                    (!cl
                                        (∃ k,
                                          IsGood (textOf (0 : Nat) fun j => [AV.v (Value.int IntKind.u8 (sbyte b j))])
                                            (0 : Nat) (0 : Nat) k))
                                    (Tree.chk
                                      (cl
                                        (IsCut (textOf (0 : Nat) fun j => [AV.v (Value.int IntKind.u8 (sbyte b j))])
                                          (0 : Nat) (0 : Nat)))
                                      (Tree.chk true
                                        (Tree.chk true
                                          (Tree.chk true (Tree.leaf (Ans.mk (AV.sb true) []))))))))))))))))))))))) := by kernel_rfl
theorem runBCC (n : Int) (s b : ByteArray) (ht : (BA.hs (numB n.toNat)).ok) (hs : s.size ≤ 65536) (off len N k : Nat) (t : ByteArray) (hg : IsGood t off len k) (hl : len ≤ 1000000000000) (hv : vAt t off (k + 1) = s.size) (hr : s.size ≤ len - (k + 1)) (hb : ∀ j, j < s.size → sbyte t (off + (k + 1) + j) = sbyte s j) : Tree.prune [false, true, true, true, true, false, false, false, false, false, false, false, true, false, true, true] (bodyE (P := Try.prog) (Γ := Γw) [c6, Z.c7, CT.at 9 (ansTextH (numB n.toNat) s ht hs), Z.c18, Z.c13, CT.at 15 (ansTextR (N := N) hg hl hs hv hr hb), S.c16, S.c17] Lno false 113 [.tmp 6] (bodyOf Try.f5) [.v (.int .i64 n), .v (.string s), .v (.string b)] []) =
  Tree.chk (!bif decide ((70000 : Int) < (↑s.size : Int)) then true else decide ((2000 : Int) < (↑b.size : Int)))
  (Tree.chk (okN n)
    (Tree.chk true
      (Tree.chk
        (cl
          (LeL [AV.hs (0 : Nat) (0 : Nat) (numB n.toNat).size, AV.v (Value.string s)]
              [AV.hs (0 : Nat) (0 : Nat) (numB n.toNat).size, AV.v (Value.string s)] ∧
            LeH
              [some
                  (Blk.arr (1 : Nat) (numB n.toNat).size fun j =>
                    [AV.v (Value.int IntKind.u8 (sbyte (numB n.toNat) j))])]
              [some
                  (Blk.arr (1 : Nat) (numB n.toNat).size fun j =>
                    [AV.v (Value.int IntKind.u8 (sbyte (numB n.toNat) j))])]))
        (Tree.chk
          (cl
            ((textB (numB n.toNat) s).size = (textB (numB n.toNat) s).size ∧
              bsF (textB (numB n.toNat) s) = bsF (textOf (textB (numB n.toNat) s).size (bsF (textB (numB n.toNat) s))) ∧
                (0 : Nat) < (textB (numB n.toNat) s).size ∧ (textB (numB n.toNat) s).size ≤ (1000000000 : Nat)))
          (Tree.chk true
            (Tree.chk
              (cl
                (bsF (textB (numB n.toNat) s) =
                    bsF (textOf (textB (numB n.toNat) s).size (bsF (textB (numB n.toNat) s))) ∧
                  (textB (numB n.toNat) s).size ≤ (1000000000000 : Nat)))
              (Tree.chk
                (cl
                  (∃ k,
                    IsGood (textOf (textB (numB n.toNat) s).size (bsF (textB (numB n.toNat) s))) (0 : Nat)
                      (textB (numB n.toNat) s).size k))
                (Tree.chk
                  (!!decide
                        ((↑(vAt (textOf (textB (numB n.toNat) s).size (bsF (textB (numB n.toNat) s))) (0 : Nat)
                                (kG (textOf (textB (numB n.toNat) s).size (bsF (textB (numB n.toNat) s))) (0 : Nat)
                                    (textB (numB n.toNat) s).size +
                                  (1 : Nat))) :
                            Int) =
                          n))
                  (Tree.chk
                    (cl
                      (LeL [AV.ptr (0 : Nat) (0 : Nat)] [AV.ptr (0 : Nat) (0 : Nat)] ∧
                        LeH
                          [some
                              (Blk.row
                                [AV.hs (1 : Nat)
                                    ((0 : Nat) +
                                      (kG (textOf (textB (numB n.toNat) s).size (bsF (textB (numB n.toNat) s)))
                                          (0 : Nat) (textB (numB n.toNat) s).size +
                                        (1 : Nat)))
                                    ((textB (numB n.toNat) s).size -
                                      (kG (textOf (textB (numB n.toNat) s).size (bsF (textB (numB n.toNat) s)))
                                          (0 : Nat) (textB (numB n.toNat) s).size +
                                        (1 : Nat))),
                                  AV.v (Value.int IntKind.i64 (0 : Int))]),
                            some
                              (Blk.arr (1 : Nat) (textB (numB n.toNat) s).size fun j =>
                                [AV.v (Value.int IntKind.u8 (sbyte (textB (numB n.toNat) s) j))])]
                          [some (Blk.row [AV.hs (1 : Nat) off len, AV.v (Value.int IntKind.i64 (0 : Int))]),
                            some (Blk.arr (1 : Nat) N fun j => [AV.v (Value.int IntKind.u8 (sbyte t j))])]))
                    (Tree.chk (!!decide (s = s))
                      (Tree.chk (!!decide ((↑(len - (k + (1 : Nat)) - s.size) : Int) = (0 : Int)))
                        (Tree.chk
                          (!bif true then decide ((0 : Int) < (↑(len - (k + (1 : Nat)) - s.size) : Int)) else false)
                          (Tree.chk true
                            (Tree.chk (!b.size.beq (0 : Nat))
                              (Tree.chk
                                (cl
                                  (b.size = b.size ∧
                                    (fun j => [AV.v (Value.int IntKind.u8 (sbyte b j))]) =
                                        bsF (textOf b.size fun j => [AV.v (Value.int IntKind.u8 (sbyte b j))]) ∧
                                      (0 : Nat) < b.size ∧ b.size ≤ (1000000000 : Nat)))
                                (Tree.chk
                                  (cl
                                    ((fun j => [AV.v (Value.int IntKind.u8 (sbyte b j))]) =
                                        bsF (textOf b.size fun j => [AV.v (Value.int IntKind.u8 (sbyte b j))]) ∧
                                      b.size ≤ (1000000000000 : Nat)))
                                  (Tree.chk
                                    (!cl
                                        (∃ k,
                                          IsGood (textOf b.size fun j => [AV.v (Value.int IntKind.u8 (sbyte b j))])
                                            (0 : Nat) b.size k))
                                    (Tree.chk
                                      (cl
                                        (IsCut (textOf b.size fun j => [AV.v (Value.int IntKind.u8 (sbyte b j))])
                                          (0 : Nat) b.size))
                                      (Tree.chk true
                                        (Tree.chk true
                                          (Tree.chk true (Tree.leaf (Ans.mk (AV.sb true) []))))))))))))))))))))))) := by kernel_rfl
theorem runBCB (n : Int) (s b : ByteArray) (ht : (BA.hs (numB n.toNat)).ok) (hs : s.size ≤ 65536) (off len N k : Nat) (t : ByteArray) (hg : IsGood t off len k) (hl : len ≤ 1000000000000) (hv : vAt t off (k + 1) = s.size) (hr : s.size ≤ len - (k + 1)) (hb : ∀ j, j < s.size → sbyte t (off + (k + 1) + j) = sbyte s j) : Tree.prune [false, true, true, true, true, false, false, false, false, false, false, false, false, false, true, true] (bodyE (P := Try.prog) (Γ := Γw) [c6, Z.c7, CT.at 9 (ansTextH (numB n.toNat) s ht hs), Z.c18, Z.c13, CT.at 15 (ansTextR (N := N) hg hl hs hv hr hb), S.c16, S.c17] Lno false 113 [.tmp 6] (bodyOf Try.f5) [.v (.int .i64 n), .v (.string s), .v (.string b)] []) =
  Tree.chk (!bif decide ((70000 : Int) < (↑s.size : Int)) then true else decide ((2000 : Int) < (↑b.size : Int)))
  (Tree.chk (okN n)
    (Tree.chk true
      (Tree.chk
        (cl
          (LeL [AV.hs (0 : Nat) (0 : Nat) (numB n.toNat).size, AV.v (Value.string s)]
              [AV.hs (0 : Nat) (0 : Nat) (numB n.toNat).size, AV.v (Value.string s)] ∧
            LeH
              [some
                  (Blk.arr (1 : Nat) (numB n.toNat).size fun j =>
                    [AV.v (Value.int IntKind.u8 (sbyte (numB n.toNat) j))])]
              [some
                  (Blk.arr (1 : Nat) (numB n.toNat).size fun j =>
                    [AV.v (Value.int IntKind.u8 (sbyte (numB n.toNat) j))])]))
        (Tree.chk
          (cl
            ((textB (numB n.toNat) s).size = (textB (numB n.toNat) s).size ∧
              bsF (textB (numB n.toNat) s) = bsF (textOf (textB (numB n.toNat) s).size (bsF (textB (numB n.toNat) s))) ∧
                (0 : Nat) < (textB (numB n.toNat) s).size ∧ (textB (numB n.toNat) s).size ≤ (1000000000 : Nat)))
          (Tree.chk true
            (Tree.chk
              (cl
                (bsF (textB (numB n.toNat) s) =
                    bsF (textOf (textB (numB n.toNat) s).size (bsF (textB (numB n.toNat) s))) ∧
                  (textB (numB n.toNat) s).size ≤ (1000000000000 : Nat)))
              (Tree.chk
                (cl
                  (∃ k,
                    IsGood (textOf (textB (numB n.toNat) s).size (bsF (textB (numB n.toNat) s))) (0 : Nat)
                      (textB (numB n.toNat) s).size k))
                (Tree.chk
                  (!!decide
                        ((↑(vAt (textOf (textB (numB n.toNat) s).size (bsF (textB (numB n.toNat) s))) (0 : Nat)
                                (kG (textOf (textB (numB n.toNat) s).size (bsF (textB (numB n.toNat) s))) (0 : Nat)
                                    (textB (numB n.toNat) s).size +
                                  (1 : Nat))) :
                            Int) =
                          n))
                  (Tree.chk
                    (cl
                      (LeL [AV.ptr (0 : Nat) (0 : Nat)] [AV.ptr (0 : Nat) (0 : Nat)] ∧
                        LeH
                          [some
                              (Blk.row
                                [AV.hs (1 : Nat)
                                    ((0 : Nat) +
                                      (kG (textOf (textB (numB n.toNat) s).size (bsF (textB (numB n.toNat) s)))
                                          (0 : Nat) (textB (numB n.toNat) s).size +
                                        (1 : Nat)))
                                    ((textB (numB n.toNat) s).size -
                                      (kG (textOf (textB (numB n.toNat) s).size (bsF (textB (numB n.toNat) s)))
                                          (0 : Nat) (textB (numB n.toNat) s).size +
                                        (1 : Nat))),
                                  AV.v (Value.int IntKind.i64 (0 : Int))]),
                            some
                              (Blk.arr (1 : Nat) (textB (numB n.toNat) s).size fun j =>
                                [AV.v (Value.int IntKind.u8 (sbyte (textB (numB n.toNat) s) j))])]
                          [some (Blk.row [AV.hs (1 : Nat) off len, AV.v (Value.int IntKind.i64 (0 : Int))]),
                            some (Blk.arr (1 : Nat) N fun j => [AV.v (Value.int IntKind.u8 (sbyte t j))])]))
                    (Tree.chk (!!decide (s = s))
                      (Tree.chk (!!decide ((↑(len - (k + (1 : Nat)) - s.size) : Int) = (0 : Int)))
                        (Tree.chk
                          (!bif true then decide ((0 : Int) < (↑(len - (k + (1 : Nat)) - s.size) : Int)) else false)
                          (Tree.chk true
                            (Tree.chk (!b.size.beq (0 : Nat))
                              (Tree.chk
                                (cl
                                  (b.size = b.size ∧
                                    (fun j => [AV.v (Value.int IntKind.u8 (sbyte b j))]) =
                                        bsF (textOf b.size fun j => [AV.v (Value.int IntKind.u8 (sbyte b j))]) ∧
                                      (0 : Nat) < b.size ∧ b.size ≤ (1000000000 : Nat)))
                                (Tree.chk
                                  (cl
                                    ((fun j => [AV.v (Value.int IntKind.u8 (sbyte b j))]) =
                                        bsF (textOf b.size fun j => [AV.v (Value.int IntKind.u8 (sbyte b j))]) ∧
                                      b.size ≤ (1000000000000 : Nat)))
                                  (Tree.chk
                                    (!cl
                                        (∃ k,
                                          IsGood (textOf b.size fun j => [AV.v (Value.int IntKind.u8 (sbyte b j))])
                                            (0 : Nat) b.size k))
                                    (Tree.chk
                                      (!cl
                                          (IsCut (textOf b.size fun j => [AV.v (Value.int IntKind.u8 (sbyte b j))])
                                            (0 : Nat) b.size))
                                      (Tree.chk true
                                        (Tree.chk true
                                          (Tree.chk true (Tree.leaf (Ans.mk (AV.sb true) []))))))))))))))))))))))) := by kernel_rfl
theorem runBCT (n : Int) (s b : ByteArray) (ht : (BA.hs (numB n.toNat)).ok) (hs : s.size ≤ 65536) (off len N k : Nat) (t : ByteArray) (hg : IsGood t off len k) (hl : len ≤ 1000000000000) (hv : vAt t off (k + 1) = s.size) (hr : s.size ≤ len - (k + 1)) (hb : ∀ j, j < s.size → sbyte t (off + (k + 1) + j) = sbyte s j) : Tree.prune [false, true, true, true, true, false, false, false, false, false, false, true, true, true, false, true, true, true, true] (bodyE (P := Try.prog) (Γ := Γw) [c6, Z.c7, CT.at 9 (ansTextH (numB n.toNat) s ht hs), Z.c18, Z.c13, CT.at 15 (ansTextR (N := N) hg hl hs hv hr hb), S.c16, S.c17] Lno false 113 [.tmp 6] (bodyOf Try.f5) [.v (.int .i64 n), .v (.string s), .v (.string b)] []) =
  Tree.chk (!bif decide ((70000 : Int) < (↑s.size : Int)) then true else decide ((2000 : Int) < (↑b.size : Int)))
  (Tree.chk (okN n)
    (Tree.chk true
      (Tree.chk
        (cl
          (LeL [AV.hs (0 : Nat) (0 : Nat) (numB n.toNat).size, AV.v (Value.string s)]
              [AV.hs (0 : Nat) (0 : Nat) (numB n.toNat).size, AV.v (Value.string s)] ∧
            LeH
              [some
                  (Blk.arr (1 : Nat) (numB n.toNat).size fun j =>
                    [AV.v (Value.int IntKind.u8 (sbyte (numB n.toNat) j))])]
              [some
                  (Blk.arr (1 : Nat) (numB n.toNat).size fun j =>
                    [AV.v (Value.int IntKind.u8 (sbyte (numB n.toNat) j))])]))
        (Tree.chk
          (cl
            ((textB (numB n.toNat) s).size = (textB (numB n.toNat) s).size ∧
              bsF (textB (numB n.toNat) s) = bsF (textOf (textB (numB n.toNat) s).size (bsF (textB (numB n.toNat) s))) ∧
                (0 : Nat) < (textB (numB n.toNat) s).size ∧ (textB (numB n.toNat) s).size ≤ (1000000000 : Nat)))
          (Tree.chk true
            (Tree.chk
              (cl
                (bsF (textB (numB n.toNat) s) =
                    bsF (textOf (textB (numB n.toNat) s).size (bsF (textB (numB n.toNat) s))) ∧
                  (textB (numB n.toNat) s).size ≤ (1000000000000 : Nat)))
              (Tree.chk
                (cl
                  (∃ k,
                    IsGood (textOf (textB (numB n.toNat) s).size (bsF (textB (numB n.toNat) s))) (0 : Nat)
                      (textB (numB n.toNat) s).size k))
                (Tree.chk
                  (!!decide
                        ((↑(vAt (textOf (textB (numB n.toNat) s).size (bsF (textB (numB n.toNat) s))) (0 : Nat)
                                (kG (textOf (textB (numB n.toNat) s).size (bsF (textB (numB n.toNat) s))) (0 : Nat)
                                    (textB (numB n.toNat) s).size +
                                  (1 : Nat))) :
                            Int) =
                          n))
                  (Tree.chk
                    (cl
                      (LeL [AV.ptr (0 : Nat) (0 : Nat)] [AV.ptr (0 : Nat) (0 : Nat)] ∧
                        LeH
                          [some
                              (Blk.row
                                [AV.hs (1 : Nat)
                                    ((0 : Nat) +
                                      (kG (textOf (textB (numB n.toNat) s).size (bsF (textB (numB n.toNat) s)))
                                          (0 : Nat) (textB (numB n.toNat) s).size +
                                        (1 : Nat)))
                                    ((textB (numB n.toNat) s).size -
                                      (kG (textOf (textB (numB n.toNat) s).size (bsF (textB (numB n.toNat) s)))
                                          (0 : Nat) (textB (numB n.toNat) s).size +
                                        (1 : Nat))),
                                  AV.v (Value.int IntKind.i64 (0 : Int))]),
                            some
                              (Blk.arr (1 : Nat) (textB (numB n.toNat) s).size fun j =>
                                [AV.v (Value.int IntKind.u8 (sbyte (textB (numB n.toNat) s) j))])]
                          [some (Blk.row [AV.hs (1 : Nat) off len, AV.v (Value.int IntKind.i64 (0 : Int))]),
                            some (Blk.arr (1 : Nat) N fun j => [AV.v (Value.int IntKind.u8 (sbyte t j))])]))
                    (Tree.chk (!!decide (s = s))
                      (Tree.chk (!!decide ((↑(len - (k + (1 : Nat)) - s.size) : Int) = (0 : Int)))
                        (Tree.chk
                          (!bif true then decide ((0 : Int) < (↑(len - (k + (1 : Nat)) - s.size) : Int)) else false)
                          (Tree.chk true
                            (Tree.chk (!b.size.beq (0 : Nat))
                              (Tree.chk
                                (cl
                                  (b.size = b.size ∧
                                    (fun j => [AV.v (Value.int IntKind.u8 (sbyte b j))]) =
                                        bsF (textOf b.size fun j => [AV.v (Value.int IntKind.u8 (sbyte b j))]) ∧
                                      (0 : Nat) < b.size ∧ b.size ≤ (1000000000 : Nat)))
                                (Tree.chk
                                  (cl
                                    ((fun j => [AV.v (Value.int IntKind.u8 (sbyte b j))]) =
                                        bsF (textOf b.size fun j => [AV.v (Value.int IntKind.u8 (sbyte b j))]) ∧
                                      b.size ≤ (1000000000000 : Nat)))
                                  (Tree.chk
                                    (cl
                                      (∃ k,
                                        IsGood (textOf b.size fun j => [AV.v (Value.int IntKind.u8 (sbyte b j))])
                                          (0 : Nat) b.size k))
                                    (Tree.chk
                                      (bif true then
                                        decide
                                          ((0 : Int) <
                                            (↑(b.size -
                                                  (kG (textOf b.size fun j => [AV.v (Value.int IntKind.u8 (sbyte b j))])
                                                      (0 : Nat) b.size +
                                                    (1 : Nat))) :
                                              Int))
                                      else false)
                                      (Tree.chk true
                                        (Tree.chk
                                          (!decide
                                              ((↑(b.size -
                                                      (kG
                                                          (textOf b.size fun j =>
                                                            [AV.v (Value.int IntKind.u8 (sbyte b j))])
                                                          (0 : Nat) b.size +
                                                        (1 : Nat))) :
                                                  Int) =
                                                (0 : Int)))
                                          (Tree.chk
                                            (okN
                                              (↑(vAt (textOf b.size fun j => [AV.v (Value.int IntKind.u8 (sbyte b j))])
                                                    (0 : Nat)
                                                    (kG
                                                        (textOf b.size fun j =>
                                                          [AV.v (Value.int IntKind.u8 (sbyte b j))])
                                                        (0 : Nat) b.size +
                                                      (1 : Nat))) :
                                                Int))
                                            (Tree.chk true
                                              (Tree.chk
                                                (decide
                                                  ((↑(numB
                                                            (↑(vAt
                                                                    (textOf b.size fun j =>
                                                                      [AV.v (Value.int IntKind.u8 (sbyte b j))])
                                                                    (0 : Nat)
                                                                    (kG
                                                                        (textOf b.size fun j =>
                                                                          [AV.v (Value.int IntKind.u8 (sbyte b j))])
                                                                        (0 : Nat) b.size +
                                                                      (1 : Nat))) :
                                                                Int).toNat).size :
                                                      Int) ≤
                                                    (↑b.size : Int)))
                                                (Tree.chk
                                                  (allBytes
                                                    (numB
                                                        (↑(vAt
                                                                (textOf b.size fun j =>
                                                                  [AV.v (Value.int IntKind.u8 (sbyte b j))])
                                                                (0 : Nat)
                                                                (kG
                                                                    (textOf b.size fun j =>
                                                                      [AV.v (Value.int IntKind.u8 (sbyte b j))])
                                                                    (0 : Nat) b.size +
                                                                  (1 : Nat))) :
                                                            Int).toNat).size
                                                    fun j =>
                                                    [AV.v
                                                        (Value.int IntKind.u8
                                                          (sbyte
                                                            (numB
                                                              (↑(vAt
                                                                      (textOf b.size fun j =>
                                                                        [AV.v (Value.int IntKind.u8 (sbyte b j))])
                                                                      (0 : Nat)
                                                                      (kG
                                                                          (textOf b.size fun j =>
                                                                            [AV.v (Value.int IntKind.u8 (sbyte b j))])
                                                                          (0 : Nat) b.size +
                                                                        (1 : Nat))) :
                                                                  Int).toNat)
                                                            ((0 : Nat) + j)))])
                                                  (Tree.chk
                                                    (true &&
                                                        decide
                                                          ((↑(0 : Nat) : Int) ≤
                                                            (↑(numB
                                                                    (↑(vAt
                                                                            (textOf b.size fun j =>
                                                                              [AV.v (Value.int IntKind.u8 (sbyte b j))])
                                                                            (0 : Nat)
                                                                            (kG
                                                                                (textOf b.size fun j =>
                                                                                  [AV.v
                                                                                      (Value.int IntKind.u8
                                                                                        (sbyte b j))])
                                                                                (0 : Nat) b.size +
                                                                              (1 : Nat))) :
                                                                        Int).toNat).size :
                                                              Int)) &&
                                                      decide
                                                        ((↑(numB
                                                                  (↑(vAt
                                                                          (textOf b.size fun j =>
                                                                            [AV.v (Value.int IntKind.u8 (sbyte b j))])
                                                                          (0 : Nat)
                                                                          (kG
                                                                              (textOf b.size fun j =>
                                                                                [AV.v
                                                                                    (Value.int IntKind.u8 (sbyte b j))])
                                                                              (0 : Nat) b.size +
                                                                            (1 : Nat))) :
                                                                      Int).toNat).size :
                                                            Int) ≤
                                                          (↑b.size : Int)))
                                                    (Tree.chk
                                                      (decide
                                                        ((textOf
                                                            (numB
                                                                (↑(vAt
                                                                        (textOf b.size fun j =>
                                                                          [AV.v (Value.int IntKind.u8 (sbyte b j))])
                                                                        (0 : Nat)
                                                                        (kG
                                                                            (textOf b.size fun j =>
                                                                              [AV.v (Value.int IntKind.u8 (sbyte b j))])
                                                                            (0 : Nat) b.size +
                                                                          (1 : Nat))) :
                                                                    Int).toNat).size
                                                            fun j =>
                                                            [AV.v
                                                                (Value.int IntKind.u8
                                                                  (sbyte
                                                                    (numB
                                                                      (↑(vAt
                                                                              (textOf b.size fun j =>
                                                                                [AV.v
                                                                                    (Value.int IntKind.u8 (sbyte b j))])
                                                                              (0 : Nat)
                                                                              (kG
                                                                                  (textOf b.size fun j =>
                                                                                    [AV.v
                                                                                        (Value.int IntKind.u8
                                                                                          (sbyte b j))])
                                                                                  (0 : Nat) b.size +
                                                                                (1 : Nat))) :
                                                                          Int).toNat)
                                                                    ((0 : Nat) + j)))]) =
                                                          b.extract (↑(0 : Nat) : Int).toNat
                                                            (↑(numB
                                                                      (↑(vAt
                                                                              (textOf b.size fun j =>
                                                                                [AV.v
                                                                                    (Value.int IntKind.u8 (sbyte b j))])
                                                                              (0 : Nat)
                                                                              (kG
                                                                                  (textOf b.size fun j =>
                                                                                    [AV.v
                                                                                        (Value.int IntKind.u8
                                                                                          (sbyte b j))])
                                                                                  (0 : Nat) b.size +
                                                                                (1 : Nat))) :
                                                                          Int).toNat).size :
                                                                Int).toNat))
                                                      (Tree.leaf
                                                        (Ans.mk
                                                          (AV.sb
                                                            (decide
                                                              ((↑(b.size -
                                                                      (kG
                                                                          (textOf b.size fun j =>
                                                                            [AV.v (Value.int IntKind.u8 (sbyte b j))])
                                                                          (0 : Nat) b.size +
                                                                        (1 : Nat))) :
                                                                  Int) =
                                                                IntKind.i64.wrap
                                                                  ((↑b.size : Int) -
                                                                    (↑(numB
                                                                            (↑(vAt
                                                                                    (textOf b.size fun j =>
                                                                                      [AV.v
                                                                                          (Value.int IntKind.u8
                                                                                            (sbyte b j))])
                                                                                    (0 : Nat)
                                                                                    (kG
                                                                                        (textOf b.size fun j =>
                                                                                          [AV.v
                                                                                              (Value.int IntKind.u8
                                                                                                (sbyte b j))])
                                                                                        (0 : Nat) b.size +
                                                                                      (1 : Nat))) :
                                                                                Int).toNat).size :
                                                                      Int)))))
                                                          [])))))))))))))))))))))))))))) := by kernel_rfl
theorem runBCF (n : Int) (s b : ByteArray) (ht : (BA.hs (numB n.toNat)).ok) (hs : s.size ≤ 65536) (off len N k : Nat) (t : ByteArray) (hg : IsGood t off len k) (hl : len ≤ 1000000000000) (hv : vAt t off (k + 1) = s.size) (hr : s.size ≤ len - (k + 1)) (hb : ∀ j, j < s.size → sbyte t (off + (k + 1) + j) = sbyte s j) : Tree.prune [false, true, true, true, true, false, false, false, false, false, false, true, false, false, true, true, true, true] (bodyE (P := Try.prog) (Γ := Γw) [c6, Z.c7, CT.at 9 (ansTextH (numB n.toNat) s ht hs), Z.c18, Z.c13, CT.at 15 (ansTextR (N := N) hg hl hs hv hr hb), S.c16, S.c17] Lno false 113 [.tmp 6] (bodyOf Try.f5) [.v (.int .i64 n), .v (.string s), .v (.string b)] []) =
  Tree.chk (!bif decide ((70000 : Int) < (↑s.size : Int)) then true else decide ((2000 : Int) < (↑b.size : Int)))
  (Tree.chk (okN n)
    (Tree.chk true
      (Tree.chk
        (cl
          (LeL [AV.hs (0 : Nat) (0 : Nat) (numB n.toNat).size, AV.v (Value.string s)]
              [AV.hs (0 : Nat) (0 : Nat) (numB n.toNat).size, AV.v (Value.string s)] ∧
            LeH
              [some
                  (Blk.arr (1 : Nat) (numB n.toNat).size fun j =>
                    [AV.v (Value.int IntKind.u8 (sbyte (numB n.toNat) j))])]
              [some
                  (Blk.arr (1 : Nat) (numB n.toNat).size fun j =>
                    [AV.v (Value.int IntKind.u8 (sbyte (numB n.toNat) j))])]))
        (Tree.chk
          (cl
            ((textB (numB n.toNat) s).size = (textB (numB n.toNat) s).size ∧
              bsF (textB (numB n.toNat) s) = bsF (textOf (textB (numB n.toNat) s).size (bsF (textB (numB n.toNat) s))) ∧
                (0 : Nat) < (textB (numB n.toNat) s).size ∧ (textB (numB n.toNat) s).size ≤ (1000000000 : Nat)))
          (Tree.chk true
            (Tree.chk
              (cl
                (bsF (textB (numB n.toNat) s) =
                    bsF (textOf (textB (numB n.toNat) s).size (bsF (textB (numB n.toNat) s))) ∧
                  (textB (numB n.toNat) s).size ≤ (1000000000000 : Nat)))
              (Tree.chk
                (cl
                  (∃ k,
                    IsGood (textOf (textB (numB n.toNat) s).size (bsF (textB (numB n.toNat) s))) (0 : Nat)
                      (textB (numB n.toNat) s).size k))
                (Tree.chk
                  (!!decide
                        ((↑(vAt (textOf (textB (numB n.toNat) s).size (bsF (textB (numB n.toNat) s))) (0 : Nat)
                                (kG (textOf (textB (numB n.toNat) s).size (bsF (textB (numB n.toNat) s))) (0 : Nat)
                                    (textB (numB n.toNat) s).size +
                                  (1 : Nat))) :
                            Int) =
                          n))
                  (Tree.chk
                    (cl
                      (LeL [AV.ptr (0 : Nat) (0 : Nat)] [AV.ptr (0 : Nat) (0 : Nat)] ∧
                        LeH
                          [some
                              (Blk.row
                                [AV.hs (1 : Nat)
                                    ((0 : Nat) +
                                      (kG (textOf (textB (numB n.toNat) s).size (bsF (textB (numB n.toNat) s)))
                                          (0 : Nat) (textB (numB n.toNat) s).size +
                                        (1 : Nat)))
                                    ((textB (numB n.toNat) s).size -
                                      (kG (textOf (textB (numB n.toNat) s).size (bsF (textB (numB n.toNat) s)))
                                          (0 : Nat) (textB (numB n.toNat) s).size +
                                        (1 : Nat))),
                                  AV.v (Value.int IntKind.i64 (0 : Int))]),
                            some
                              (Blk.arr (1 : Nat) (textB (numB n.toNat) s).size fun j =>
                                [AV.v (Value.int IntKind.u8 (sbyte (textB (numB n.toNat) s) j))])]
                          [some (Blk.row [AV.hs (1 : Nat) off len, AV.v (Value.int IntKind.i64 (0 : Int))]),
                            some (Blk.arr (1 : Nat) N fun j => [AV.v (Value.int IntKind.u8 (sbyte t j))])]))
                    (Tree.chk (!!decide (s = s))
                      (Tree.chk (!!decide ((↑(len - (k + (1 : Nat)) - s.size) : Int) = (0 : Int)))
                        (Tree.chk
                          (!bif true then decide ((0 : Int) < (↑(len - (k + (1 : Nat)) - s.size) : Int)) else false)
                          (Tree.chk true
                            (Tree.chk (!b.size.beq (0 : Nat))
                              (Tree.chk
                                (cl
                                  (b.size = b.size ∧
                                    (fun j => [AV.v (Value.int IntKind.u8 (sbyte b j))]) =
                                        bsF (textOf b.size fun j => [AV.v (Value.int IntKind.u8 (sbyte b j))]) ∧
                                      (0 : Nat) < b.size ∧ b.size ≤ (1000000000 : Nat)))
                                (Tree.chk
                                  (cl
                                    ((fun j => [AV.v (Value.int IntKind.u8 (sbyte b j))]) =
                                        bsF (textOf b.size fun j => [AV.v (Value.int IntKind.u8 (sbyte b j))]) ∧
                                      b.size ≤ (1000000000000 : Nat)))
                                  (Tree.chk
                                    (cl
                                      (∃ k,
                                        IsGood (textOf b.size fun j => [AV.v (Value.int IntKind.u8 (sbyte b j))])
                                          (0 : Nat) b.size k))
                                    (Tree.chk
                                      (!bif true then
                                          decide
                                            ((0 : Int) <
                                              (↑(b.size -
                                                    (kG
                                                        (textOf b.size fun j =>
                                                          [AV.v (Value.int IntKind.u8 (sbyte b j))])
                                                        (0 : Nat) b.size +
                                                      (1 : Nat))) :
                                                Int))
                                        else false)
                                      (Tree.chk true
                                        (Tree.chk
                                          (okN
                                            (↑(vAt (textOf b.size fun j => [AV.v (Value.int IntKind.u8 (sbyte b j))])
                                                  (0 : Nat)
                                                  (kG (textOf b.size fun j => [AV.v (Value.int IntKind.u8 (sbyte b j))])
                                                      (0 : Nat) b.size +
                                                    (1 : Nat))) :
                                              Int))
                                          (Tree.chk true
                                            (Tree.chk
                                              (decide
                                                ((↑(numB
                                                          (↑(vAt
                                                                  (textOf b.size fun j =>
                                                                    [AV.v (Value.int IntKind.u8 (sbyte b j))])
                                                                  (0 : Nat)
                                                                  (kG
                                                                      (textOf b.size fun j =>
                                                                        [AV.v (Value.int IntKind.u8 (sbyte b j))])
                                                                      (0 : Nat) b.size +
                                                                    (1 : Nat))) :
                                                              Int).toNat).size :
                                                    Int) ≤
                                                  (↑b.size : Int)))
                                              (Tree.chk
                                                (allBytes
                                                  (numB
                                                      (↑(vAt
                                                              (textOf b.size fun j =>
                                                                [AV.v (Value.int IntKind.u8 (sbyte b j))])
                                                              (0 : Nat)
                                                              (kG
                                                                  (textOf b.size fun j =>
                                                                    [AV.v (Value.int IntKind.u8 (sbyte b j))])
                                                                  (0 : Nat) b.size +
                                                                (1 : Nat))) :
                                                          Int).toNat).size
                                                  fun j =>
                                                  [AV.v
                                                      (Value.int IntKind.u8
                                                        (sbyte
                                                          (numB
                                                            (↑(vAt
                                                                    (textOf b.size fun j =>
                                                                      [AV.v (Value.int IntKind.u8 (sbyte b j))])
                                                                    (0 : Nat)
                                                                    (kG
                                                                        (textOf b.size fun j =>
                                                                          [AV.v (Value.int IntKind.u8 (sbyte b j))])
                                                                        (0 : Nat) b.size +
                                                                      (1 : Nat))) :
                                                                Int).toNat)
                                                          ((0 : Nat) + j)))])
                                                (Tree.chk
                                                  (true &&
                                                      decide
                                                        ((↑(0 : Nat) : Int) ≤
                                                          (↑(numB
                                                                  (↑(vAt
                                                                          (textOf b.size fun j =>
                                                                            [AV.v (Value.int IntKind.u8 (sbyte b j))])
                                                                          (0 : Nat)
                                                                          (kG
                                                                              (textOf b.size fun j =>
                                                                                [AV.v
                                                                                    (Value.int IntKind.u8 (sbyte b j))])
                                                                              (0 : Nat) b.size +
                                                                            (1 : Nat))) :
                                                                      Int).toNat).size :
                                                            Int)) &&
                                                    decide
                                                      ((↑(numB
                                                                (↑(vAt
                                                                        (textOf b.size fun j =>
                                                                          [AV.v (Value.int IntKind.u8 (sbyte b j))])
                                                                        (0 : Nat)
                                                                        (kG
                                                                            (textOf b.size fun j =>
                                                                              [AV.v (Value.int IntKind.u8 (sbyte b j))])
                                                                            (0 : Nat) b.size +
                                                                          (1 : Nat))) :
                                                                    Int).toNat).size :
                                                          Int) ≤
                                                        (↑b.size : Int)))
                                                  (Tree.chk
                                                    (decide
                                                      ((textOf
                                                          (numB
                                                              (↑(vAt
                                                                      (textOf b.size fun j =>
                                                                        [AV.v (Value.int IntKind.u8 (sbyte b j))])
                                                                      (0 : Nat)
                                                                      (kG
                                                                          (textOf b.size fun j =>
                                                                            [AV.v (Value.int IntKind.u8 (sbyte b j))])
                                                                          (0 : Nat) b.size +
                                                                        (1 : Nat))) :
                                                                  Int).toNat).size
                                                          fun j =>
                                                          [AV.v
                                                              (Value.int IntKind.u8
                                                                (sbyte
                                                                  (numB
                                                                    (↑(vAt
                                                                            (textOf b.size fun j =>
                                                                              [AV.v (Value.int IntKind.u8 (sbyte b j))])
                                                                            (0 : Nat)
                                                                            (kG
                                                                                (textOf b.size fun j =>
                                                                                  [AV.v
                                                                                      (Value.int IntKind.u8
                                                                                        (sbyte b j))])
                                                                                (0 : Nat) b.size +
                                                                              (1 : Nat))) :
                                                                        Int).toNat)
                                                                  ((0 : Nat) + j)))]) =
                                                        b.extract (↑(0 : Nat) : Int).toNat
                                                          (↑(numB
                                                                    (↑(vAt
                                                                            (textOf b.size fun j =>
                                                                              [AV.v (Value.int IntKind.u8 (sbyte b j))])
                                                                            (0 : Nat)
                                                                            (kG
                                                                                (textOf b.size fun j =>
                                                                                  [AV.v
                                                                                      (Value.int IntKind.u8
                                                                                        (sbyte b j))])
                                                                                (0 : Nat) b.size +
                                                                              (1 : Nat))) :
                                                                        Int).toNat).size :
                                                              Int).toNat))
                                                    (Tree.leaf
                                                      (Ans.mk
                                                        (AV.sb
                                                          (decide
                                                            ((↑(b.size -
                                                                    (kG
                                                                        (textOf b.size fun j =>
                                                                          [AV.v (Value.int IntKind.u8 (sbyte b j))])
                                                                        (0 : Nat) b.size +
                                                                      (1 : Nat))) :
                                                                Int) =
                                                              IntKind.i64.wrap
                                                                ((↑b.size : Int) -
                                                                  (↑(numB
                                                                          (↑(vAt
                                                                                  (textOf b.size fun j =>
                                                                                    [AV.v
                                                                                        (Value.int IntKind.u8
                                                                                          (sbyte b j))])
                                                                                  (0 : Nat)
                                                                                  (kG
                                                                                      (textOf b.size fun j =>
                                                                                        [AV.v
                                                                                            (Value.int IntKind.u8
                                                                                              (sbyte b j))])
                                                                                      (0 : Nat) b.size +
                                                                                    (1 : Nat))) :
                                                                              Int).toNat).size :
                                                                    Int)))))
                                                        []))))))))))))))))))))))))))) := by kernel_rfl
end Go.Eng.W

/- wire: what is written is read: each way. -/
namespace Go.Eng.W
open Go Go.Eng Go.Proofs
set_option linter.unusedSimpArgs false
set_option linter.unusedVariables false
theorem right_prune {t t' : Tree Ans} {cs : List Bool} (e : Tree.prune cs t = t') (h : t'.sat fun s => AV.le s.val (.v (.bool true)) ∧ LeH s.H []) : Right t := by
  obtain ⟨r, h1, h2⟩ := Tree.sat_iff.1 h
  exact ⟨Tree.sat_iff.2 ⟨r, prune_get (e ▸ h1), h2⟩⟩
theorem ext_sbyte {a b : ByteArray} (h : a.size = b.size) (h2 : ∀ j, j < b.size → sbyte a j = sbyte b j) : a = b := by
  rw [← textOf_bsF a, ← textOf_bsF b, h]
  exact textOf_congr fun j hj => by unfold bsF; rw [h2 j hj]
theorem sbyte_extract {b : ByteArray} {m j : Nat} (hj : j < m) (hm : m ≤ b.size) : sbyte (b.extract 0 m) j = sbyte b j := by
  unfold sbyte
  rw [ByteArray.data_extract, Array.getElem?_extract, if_pos (by show j < min m b.size - 0; omega), Nat.zero_add]
theorem good_front {b : ByteArray} {k : Nat} (h : IsGood b 0 b.size k) : b.extract 0 (k + 1) = numB (vAt b 0 (k + 1)) := by
  have h1 := h.1
  obtain ⟨h2, h3⟩ := h.2.2.1.bytes
  refine ext_sbyte (by rw [h2, ByteArray.size_extract]; omega) fun j hj => ?_
  rw [h2] at hj
  rw [sbyte_extract hj (by omega), h3 j (by omega), Nat.zero_add]
theorem gd {s b : ByteArray} (h1 : s.size ≤ 70000) (h2 : b.size ≤ 2000) : (bif decide ((70000 : Int) < (↑s.size : Int)) then true else decide ((2000 : Int) < (↑b.size : Int))) = false := by
  rw [decide_eq_false (by omega), decide_eq_false (by omega)]; rfl
theorem cl_neg {p : Prop} (h : ¬ p) : cl p = false := by
  cases hc : cl p with
  | false => rfl
  | true => exact absurd (cl_iff.1 hc) h
theorem bsF_eq (b : ByteArray) : ((fun j => [AV.v (Value.int IntKind.u8 (sbyte b j))]) = bsF b) = True := eq_true rfl
theorem e00 : (textOf 0 fun j => [AV.v (Value.int IntKind.u8 (sbyte ⟨#[]⟩ j))]) = ⟨#[]⟩ := rfl
theorem cE : cl (IsCut ⟨#[]⟩ 0 0) = true := cl_iff.2 ⟨by decide, fun j hj => absurd hj (Nat.not_lt_zero _)⟩
theorem gE : cl (∃ k, IsGood ⟨#[]⟩ 0 0 k) = false := cl_neg fun ⟨k, hk⟩ => absurd hk.1 (Nat.not_lt_zero _)
theorem bE : (⟨#[]⟩ : ByteArray).size.beq 0 = true := rfl
theorem beq0 {n : Nat} (h : n ≠ 0) : n.beq 0 = false := by cases n with | zero => exact absurd rfl h | succ n => rfl
theorem lawA5 {n : Int} {s b : ByteArray} (h1 : s.size ≤ 70000) (h2 : b.size ≤ 2000) (hn : okN n = false) : Right (bodyE (P := Try.prog) (Γ := Γw) [c6, Z.c7, Z.c18, Z.c13, S.c16, S.c17] Lno false 113 [.tmp 6] (bodyOf Try.f5) [.v (.int .i64 n), .v (.string s), .v (.string b)] []) := by
  have g1 := gd h1 h2
  by_cases h0 : b.size = 0
  · obtain rfl := empty_of_size h0
    refine right_prune (runBAE n s ⟨#[]⟩) ?_
    simp [e00, g1, hn, cE, gE, bE, Tree.sat, cl_iff, le_sbv, bsF_eq, LeL_self, LeH_self, cl_true]
  have hb0 := beq0 h0
  have p1 : 0 < b.size := by omega
  have p2 : b.size ≤ 1000000000 := by omega
  have p3 : b.size ≤ 1000000000000 := by omega
  have eB := textOfF b
  by_cases hgb : ∃ k, IsGood b 0 b.size k
  · have cB := cl_iff.2 hgb
    obtain ⟨k', hk⟩ := hgb
    have eK := kG_of hk
    have e1 : okN (vAt b 0 (k' + 1) : Int) = true := okN_of hk.2.2.2
    have e2 : (numB (vAt b 0 (k' + 1))).size = k' + 1 := hk.2.2.1.bytes.1
    have e3 : (textOf (k' + 1) fun j => [AV.v (Value.int IntKind.u8 (sbyte (numB (vAt b 0 (k' + 1))) j))]) = numB (vAt b 0 (k' + 1)) := by
      have := textOfF (numB (vAt b 0 (k' + 1))); rwa [e2] at this
    have e4 := good_front hk
    have e5 := hk.1
    have e6 : IntKind.i64.wrap ((b.size : Int) - ((k' : Int) + 1)) = ((b.size - (k' + 1) : Nat) : Int) := by rw [wrap64E]; omega
    have e7 : k' + 1 ≤ b.size := by omega
    have e8 : (k' : Int) + 1 ≤ (b.size : Int) := by omega
    have e9 : ((k' : Int) + 1).toNat = k' + 1 := by omega
    have e10 : (0 : Int) ≤ (k' : Int) + 1 := by omega
    by_cases hrest : b.size - (k' + 1) = 0
    · refine right_prune (runBAF n s b) ?_
      simp [eB, cB, eK, e1, e2, e3, e4, e6, e7, e8, e9, e10, hrest, g1, hn, hb0, p1, p2, p3, allB, Tree.sat, cl_iff, le_sbv, bsF_eq, LeL_self, LeH_self, cl_true]
    · refine right_prune (runBAT n s b) ?_
      have p4 : 0 < b.size - (k' + 1) := by omega
      simp [eB, cB, eK, e1, e2, e3, e4, e6, e7, e8, e9, e10, hrest, p4, g1, hn, hb0, p1, p2, p3, allB, Tree.sat, cl_iff, le_sbv, bsF_eq, LeL_self, LeH_self, cl_true]
  · have cB := cl_neg hgb
    by_cases hc : IsCut b 0 b.size
    · have cC := cl_iff.2 hc
      refine right_prune (runBAC n s b) ?_
      simp [eB, cB, cC, g1, hn, hb0, p1, p2, p3, Tree.sat, cl_iff, le_sbv, bsF_eq, LeL_self, LeH_self, cl_true]
    · have cC := cl_neg hc
      refine right_prune (runBAB n s b) ?_
      simp [eB, cB, cC, g1, hn, hb0, p1, p2, p3, Tree.sat, cl_iff, le_sbv, bsF_eq, LeL_self, LeH_self, cl_true]
theorem lawB5 {n : Int} {s b : ByteArray} (h1 : s.size ≤ 70000) (h2 : b.size ≤ 2000) (hn : okN n = true) (ht : (BA.hs (numB n.toNat)).ok) (hs : 65536 < s.size) (h : s.size ≤ 4611686018427387904) : Right (bodyE (P := Try.prog) (Γ := Γw) [c6, Z.c7, CT.at 9 (ansTextHBad (numB n.toNat) s ht hs h), Z.c18, Z.c13, S.c16, S.c17] Lno false 113 [.tmp 6] (bodyOf Try.f5) [.v (.int .i64 n), .v (.string s), .v (.string b)] []) := by
  have g1 := gd h1 h2
  by_cases h0 : b.size = 0
  · obtain rfl := empty_of_size h0
    refine right_prune (runBBE n s ⟨#[]⟩ ht hs h) ?_
    simp [e00, g1, hn, cE, gE, bE, Tree.sat, cl_iff, le_sbv, bsF_eq, LeL_self, LeH_self, cl_true]
  have hb0 := beq0 h0
  have p1 : 0 < b.size := by omega
  have p2 : b.size ≤ 1000000000 := by omega
  have p3 : b.size ≤ 1000000000000 := by omega
  have eB := textOfF b
  by_cases hgb : ∃ k, IsGood b 0 b.size k
  · have cB := cl_iff.2 hgb
    obtain ⟨k', hk⟩ := hgb
    have eK := kG_of hk
    have e1 : okN (vAt b 0 (k' + 1) : Int) = true := okN_of hk.2.2.2
    have e2 : (numB (vAt b 0 (k' + 1))).size = k' + 1 := hk.2.2.1.bytes.1
    have e3 : (textOf (k' + 1) fun j => [AV.v (Value.int IntKind.u8 (sbyte (numB (vAt b 0 (k' + 1))) j))]) = numB (vAt b 0 (k' + 1)) := by
      have := textOfF (numB (vAt b 0 (k' + 1))); rwa [e2] at this
    have e4 := good_front hk
    have e5 := hk.1
    have e6 : IntKind.i64.wrap ((b.size : Int) - ((k' : Int) + 1)) = ((b.size - (k' + 1) : Nat) : Int) := by rw [wrap64E]; omega
    have e7 : k' + 1 ≤ b.size := by omega
    have e8 : (k' : Int) + 1 ≤ (b.size : Int) := by omega
    have e9 : ((k' : Int) + 1).toNat = k' + 1 := by omega
    have e10 : (0 : Int) ≤ (k' : Int) + 1 := by omega
    by_cases hrest : b.size - (k' + 1) = 0
    · refine right_prune (runBBF n s b ht hs h) ?_
      simp [eB, cB, eK, e1, e2, e3, e4, e6, e7, e8, e9, e10, hrest, g1, hn, hb0, p1, p2, p3, allB, Tree.sat, cl_iff, le_sbv, bsF_eq, LeL_self, LeH_self, cl_true]
    · refine right_prune (runBBT n s b ht hs h) ?_
      have p4 : 0 < b.size - (k' + 1) := by omega
      simp [eB, cB, eK, e1, e2, e3, e4, e6, e7, e8, e9, e10, hrest, p4, g1, hn, hb0, p1, p2, p3, allB, Tree.sat, cl_iff, le_sbv, bsF_eq, LeL_self, LeH_self, cl_true]
  · have cB := cl_neg hgb
    by_cases hc : IsCut b 0 b.size
    · have cC := cl_iff.2 hc
      refine right_prune (runBBC n s b ht hs h) ?_
      simp [eB, cB, cC, g1, hn, hb0, p1, p2, p3, Tree.sat, cl_iff, le_sbv, bsF_eq, LeL_self, LeH_self, cl_true]
    · have cC := cl_neg hc
      refine right_prune (runBBB n s b ht hs h) ?_
      simp [eB, cB, cC, g1, hn, hb0, p1, p2, p3, Tree.sat, cl_iff, le_sbv, bsF_eq, LeL_self, LeH_self, cl_true]
theorem lawC5 {n : Int} {s b : ByteArray} (h1 : s.size ≤ 70000) (h2 : b.size ≤ 2000) (hn : okN n = true) (ht : (BA.hs (numB n.toNat)).ok) (hs : s.size ≤ 65536) (k1 k : Nat) (hg1 : IsGood (textB (numB n.toNat) s) 0 (textB (numB n.toNat) s).size k1) (hn1 : (vAt (textB (numB n.toNat) s) 0 (k1 + 1) : Int) = n) (hg : IsGood (textB (numB n.toNat) s) (0 + (k1 + 1)) ((textB (numB n.toNat) s).size - (k1 + 1)) k) (hl : (textB (numB n.toNat) s).size - (k1 + 1) ≤ 1000000000000) (hv : vAt (textB (numB n.toNat) s) (0 + (k1 + 1)) (k + 1) = s.size) (hr : s.size ≤ (textB (numB n.toNat) s).size - (k1 + 1) - (k + 1)) (hb : ∀ j, j < s.size → sbyte (textB (numB n.toNat) s) (0 + (k1 + 1) + (k + 1) + j) = sbyte s j) (hx : (textB (numB n.toNat) s).size - (k1 + 1) - (k + 1) - s.size = 0) : Right (bodyE (P := Try.prog) (Γ := Γw) [c6, Z.c7, CT.at 9 (ansTextH (numB n.toNat) s ht hs), Z.c18, Z.c13, CT.at 15 (ansTextR (N := (textB (numB n.toNat) s).size) hg hl hs hv hr hb), S.c16, S.c17] Lno false 113 [.tmp 6] (bodyOf Try.f5) [.v (.int .i64 n), .v (.string s), .v (.string b)] []) := by
  have g1 := gd h1 h2
  have eT : textOf (textB (numB n.toNat) s).size (bsF (textB (numB n.toNat) s)) = textB (numB n.toNat) s := textOf_bsF _
  have eG : kG (textB (numB n.toNat) s) 0 (textB (numB n.toNat) s).size = k1 := kG_of hg1
  have cG : cl (∃ k, IsGood (textB (numB n.toNat) s) 0 (textB (numB n.toNat) s).size k) = true := cl_iff.2 ⟨_, hg1⟩
  have q1 : 0 < (textB (numB n.toNat) s).size := by have := hg1.1; omega
  have q2 : (textB (numB n.toNat) s).size ≤ 1000000000 := by
    have := (numB_size (n := n.toNat) (by obtain ⟨m, rfl, hm⟩ := okN_nat hn; simpa using hm)).1
    have := (numB_size (n := s.size) (by omega)).1
    simp only [textB, ByteArray.size_append]; omega
  have q3 : (textB (numB n.toNat) s).size ≤ 1000000000000 := by omega
  by_cases h0 : b.size = 0
  · obtain rfl := empty_of_size h0
    refine right_prune (runBCE n s ⟨#[]⟩ ht hs _ _ (textB (numB n.toNat) s).size k _ hg hl hv hr hb) ?_
    simp [e00, g1, hn, cE, gE, bE, Tree.sat, cl_iff, le_sbv, bsF_eq, LeL_self, LeH_self, cl_true, eT, eG, cG, hn1, hx, q1, q2, q3]
  have hb0 := beq0 h0
  have p1 : 0 < b.size := by omega
  have p2 : b.size ≤ 1000000000 := by omega
  have p3 : b.size ≤ 1000000000000 := by omega
  have eB := textOfF b
  by_cases hgb : ∃ k, IsGood b 0 b.size k
  · have cB := cl_iff.2 hgb
    obtain ⟨k', hk⟩ := hgb
    have eK := kG_of hk
    have e1 : okN (vAt b 0 (k' + 1) : Int) = true := okN_of hk.2.2.2
    have e2 : (numB (vAt b 0 (k' + 1))).size = k' + 1 := hk.2.2.1.bytes.1
    have e3 : (textOf (k' + 1) fun j => [AV.v (Value.int IntKind.u8 (sbyte (numB (vAt b 0 (k' + 1))) j))]) = numB (vAt b 0 (k' + 1)) := by
      have := textOfF (numB (vAt b 0 (k' + 1))); rwa [e2] at this
    have e4 := good_front hk
    have e5 := hk.1
    have e6 : IntKind.i64.wrap ((b.size : Int) - ((k' : Int) + 1)) = ((b.size - (k' + 1) : Nat) : Int) := by rw [wrap64E]; omega
    have e7 : k' + 1 ≤ b.size := by omega
    have e8 : (k' : Int) + 1 ≤ (b.size : Int) := by omega
    have e9 : ((k' : Int) + 1).toNat = k' + 1 := by omega
    have e10 : (0 : Int) ≤ (k' : Int) + 1 := by omega
    by_cases hrest : b.size - (k' + 1) = 0
    · refine right_prune (runBCF n s b ht hs _ _ (textB (numB n.toNat) s).size k _ hg hl hv hr hb) ?_
      simp [eB, cB, eK, e1, e2, e3, e4, e6, e7, e8, e9, e10, hrest, g1, hn, hb0, p1, p2, p3, allB, Tree.sat, cl_iff, le_sbv, bsF_eq, LeL_self, LeH_self, cl_true, eT, eG, cG, hn1, hx, q1, q2, q3]
    · refine right_prune (runBCT n s b ht hs _ _ (textB (numB n.toNat) s).size k _ hg hl hv hr hb) ?_
      have p4 : 0 < b.size - (k' + 1) := by omega
      simp [eB, cB, eK, e1, e2, e3, e4, e6, e7, e8, e9, e10, hrest, p4, g1, hn, hb0, p1, p2, p3, allB, Tree.sat, cl_iff, le_sbv, bsF_eq, LeL_self, LeH_self, cl_true, eT, eG, cG, hn1, hx, q1, q2, q3]
  · have cB := cl_neg hgb
    by_cases hc : IsCut b 0 b.size
    · have cC := cl_iff.2 hc
      refine right_prune (runBCC n s b ht hs _ _ (textB (numB n.toNat) s).size k _ hg hl hv hr hb) ?_
      simp [eB, cB, cC, g1, hn, hb0, p1, p2, p3, Tree.sat, cl_iff, le_sbv, bsF_eq, LeL_self, LeH_self, cl_true, eT, eG, cG, hn1, hx, q1, q2, q3]
    · have cC := cl_neg hc
      refine right_prune (runBCB n s b ht hs _ _ (textB (numB n.toNat) s).size k _ hg hl hv hr hb) ?_
      simp [eB, cB, cC, g1, hn, hb0, p1, p2, p3, Tree.sat, cl_iff, le_sbv, bsF_eq, LeL_self, LeH_self, cl_true, eT, eG, cG, hn1, hx, q1, q2, q3]
end Go.Eng.W

/- wire: what is written is read: all ways. -/
namespace Go.Eng.W
open Go Go.Eng Go.Proofs
set_option linter.unusedSimpArgs false
set_option linter.unusedVariables false
structure X5 where
  n : Int
  s : ByteArray
  b : ByteArray
def A5 (x : X5) : List AV := [.v (.int .i64 x.n), .v (.string x.s), .v (.string x.b)]
theorem splitNW (n : Int) : (∃ k : Nat, n = k ∧ k ≤ 4611686018427387904) ∨ okN n = false := by
  cases h : okN n with
  | false => exact .inr rfl
  | true => exact .inl (okN_nat h)
theorem law5 (x : X5) : LawOK Try.prog Γw 113 [.tmp 6] (bodyOf Try.f5) (A5 x) := by
  obtain ⟨n, s, b⟩ := x
  by_cases hG : 70000 < s.size ∨ 2000 < b.size
  · refine LawOK.mk' (T := [c6]) (L := Lno) (ip := false) (fun _ _ _ => fail_ok) ?_
    refine right_prune (runBG n s b) ?_
    refine ⟨?_, .refl _, trivial⟩
    by_cases h1 : 70000 < s.size
    · rw [decide_eq_true (by omega)]; rfl
    · rw [decide_eq_false (show ¬ (70000 : Int) < (s.size : Int) by omega), decide_eq_true (by omega)]; rfl
  have h1 : s.size ≤ 70000 := by omega
  have h2 : b.size ≤ 2000 := by omega
  rcases splitNW n with ⟨m, rfl, hm⟩ | hn
  · have hn := okN_of hm
    have ht : (BA.hs (numB ((m : Int)).toNat)).ok := by
      have := numB_size hm
      rw [Int.toNat_natCast]
      exact ⟨by unfold small; omega, by omega⟩
    by_cases hs : s.size ≤ 65536
    · have e : textB (numB ((m : Int)).toNat) s = numB m ++ (numB s.size ++ s) := by
        rw [Int.toNat_natCast, textB, ByteArray.append_assoc]
      obtain ⟨k1, a1, a2, a3⟩ := numB_good m (textB (numB ((m : Int)).toNat) s) 0 (fun j hj => by rw [e, sbyte_append, if_pos (by omega), Nat.zero_add])
      have sz : (textB (numB ((m : Int)).toNat) s).size = (numB m).size + ((numB s.size).size + s.size) := by rw [e]; simp
      obtain ⟨k, b1, b2, b3⟩ := numB_good s.size (textB (numB ((m : Int)).toNat) s) (0 + (k1 + 1)) (fun j hj => by
        rw [e, sbyte_append, if_neg (by omega), show 0 + (k1 + 1) + j - (numB m).size = j by omega, sbyte_append, if_pos hj])
      have z1 := numB_size hm
      have z2 := numB_size (show s.size ≤ 4611686018427387904 by omega)
      refine LawOK.mk' (fun _ _ _ => fail_ok) (lawC5 h1 h2 hn ht hs k1 k ⟨by omega, by omega, a2, by omega⟩ (by rw [a3]) ⟨by omega, by omega, b2, by omega⟩ (by omega) b3 (by omega) (fun j hj => ?_) (by omega))
      rw [e, sbyte_append, if_neg (by omega), sbyte_append, if_neg (by omega)]
      congr 1
      omega
    · exact LawOK.mk' (fun _ _ _ => fail_ok) (lawB5 h1 h2 hn ht (by omega) (by omega))
  · exact LawOK.mk' (fun _ _ _ => fail_ok) (lawA5 h1 h2 hn)
noncomputable def c5 : CT Try.prog Γw := CT.lawE A5 (fun _ => True) 5 Try.f5 (bodyOf Try.f5) 113 [.tmp 6] Try.func5 (by kernel_rfl) (by kernel_rfl) (by kernel_rfl) (by kernel_rfl) (fun _ _ => by simp [A5]) (fun x _ => law5 x)
end Go.Eng.W

/- WireBack holds at every input: no condition beyond the row own cells. -/
namespace Go.Proofs.Ytaeehckolckbmaa
open Go Go.ChangeShapes Go.WideShapes Go.ChangeAt Go.WideMaps Go.WideElems Go.RowKit Go.Eng Go.Eng.W
set_option linter.unusedSimpArgs false
set_option linter.unusedVariables false

theorem own0 : ownKnob Try.prog.godebug = none := by kernel_rfl
set_option maxRecDepth 100000 in
theorem wireBack_lifted (os : Os) (started : os.Started) (H : Type) (enc : TypeId × Value → H) :
    ReturnsInHanded {} Try.checked os 5 .any (Rows.wireBackSpec.pre6 enc Try.prog Try.f5 Rows.wireBackRow.domain false)
      (Rows.wireBackSpec.post enc Try.prog Try.f5 false true false false) := by
  refine returnsInHanded_of_change (C := Try.checked) own0 started (by kernel_rfl) Try.func5
    (ChangeSpec.witness6 (enc := enc) (C := Try.checked) false ⟨#[], #[.int .i64 0, .string ⟨#[]⟩, .string ⟨#[]⟩], []⟩ 8 (by kernel_rfl) (by kernel_rfl) (by kernel_rfl) (by kernel_rfl)) ?_
  intro W base args ds gs before hval0 hW hcnd _
  have hval : ∀ (j : Nat) t v, Try.f5.params[j]? = some t → args[j]? = some v → Value.okWide Try.prog W .any base t v := hval0
  have hW' := hW
  obtain ⟨p, q, hA0, hV, rfl, hfz, hnd⟩ := hW
  have hA : DataW.TrodAll enc Try.prog W 0 (fun _ => true) true Try.f5.params.toList args.toList ds p := hA0
  rw [Try.params5] at hA hval
  obtain ⟨v0, v1, v2, d0, d1, d2, p0, p1, p2, rfl, rfl, rfl, h0, h1, h2⟩ := trodAll_three hA
  obtain ⟨rfl, rfl⟩ := trodVars_none hV
  obtain ⟨n0, rfl, rfl, rfl, w0⟩ := open_int Try.underlying2 (hval 0 2 v0 rfl rfl) h0
  obtain ⟨n1, rfl, rfl, rfl, w1⟩ := Go.ChangeMaps.open_string Try.underlying9 (hval 1 9 v1 rfl rfl) h1
  obtain ⟨n2, rfl, rfl, rfl, w2⟩ := Go.ChangeMaps.open_string Try.underlying9 (hval 2 9 v2 rfl rfl) h2
  refine (calls_true c5 (xs := [.v (.int .i64 n0), .v (.string n1), .v (.string n2)]) (law_in (A := A5) (pre := fun _ => True) (x := ⟨n0, n1, n2⟩) trivial (.refl _)) (fun _ => .any _) (.one (V_v _) (.one (V_v _) (.one (V_v _) .none)))).mono fun e W' ⟨he, ho⟩ => ?_
  subst he
  exact ⟨_, rfl, post_true (tb := 4) (by kernel_rfl) (by kernel_rfl) (by kernel_rfl) (by kernel_rfl) (by kernel_rfl) Try.underlying4 hW' rfl rfl ho⟩

theorem wireBack_holds : Rows.WireBackSaid :=
  OpenClaim.holds_of_wide 5 Try.f5 rfl rfl rfl rfl rfl rfl rfl ⟨rfl, rfl, rfl, rfl, rfl⟩ rfl rfl rfl rfl rfl (by kernel_rfl) Try.func5 (by kernel_rfl)
    (of_decide_eq_true (by kernel_rfl)) (by unfold Func.isWrapper; first | (rw [if_pos (by decide +kernel)]; kernel_rfl) | (rw [if_neg (by decide +kernel)]; exact ⟨rfl, rfl⟩))
    (fun os started H enc _ => wireBack_lifted os started H enc)
#print axioms wireBack_holds
end Go.Proofs.Ytaeehckolckbmaa
