/- wire: the law on what is written and what follows it. -/
import Derived.Test.YtaeehckolckbmaaPart4
/- wire: the law on what is written. -/
namespace Go.Eng.W
open Go Go.Eng Go.Proofs
set_option linter.unusedSimpArgs false
set_option linter.unusedVariables false
theorem runWgbnn (s : ByteArray) (hb : BA.nil.ok) (n : Nat) (hn : n ≤ 4611686018427387904) (hs : 65536 < s.size) (hs2 : s.size ≤ 4611686018427387904) (hl : NA.nil.ok) : bodyE (P := Try.prog) (Γ := Γw) [c6, CT.at 7 (ansNum BA.nil n hb hn), Z.c8, CT.at 9 (ansTextBad BA.nil s hb rfl hs hs2), Z.c10, CT.at 11 (ansNumsN hl)] (fun _ => LSpec.at [0, 3, 9, 16, 17, 18, 19, 8] [] (SL (.v (.slice none 0 0)) (.v (.slice none 0 0)) ⟨#[]⟩ (.v (.slice none 0 0)) 0 [] ⟨#[]⟩ 0) (OLg (.v (.slice none 0 0)) ⟨#[]⟩ (.v (.slice none 0 0)) [] ⟨#[]⟩)) false 154 [.tmp 8] (bodyOf Try.f3) [.v (.slice none 0 0), .v (.int .i64 (n : Int)), .v (.string s), .v (.slice none 0 0)] [] =
  Tree.br (bif false then true else bif decide ((70000 : Int) < (↑s.size : Int)) then true else false)
  (Tree.leaf (Ans.mk (AV.v (Value.bool true)) []))
  (Tree.chk
    (cl
      (LeL [AV.v (Value.slice none (0 : Nat) (0 : Nat)), AV.v (Value.int IntKind.i64 (↑n : Int))]
          [AV.v (Value.slice none (0 : Nat) (0 : Nat)), AV.v (Value.int IntKind.i64 (↑n : Int))] ∧
        LeH [] []))
    (Tree.chk true
      (Tree.chk
        (bif okN (↑n : Int) then
          bif false then true
          else
            (allBytes (BA.nil.t ++ numB n).size fun j =>
                [AV.v (Value.int IntKind.u8 (sbyte (BA.nil.t ++ numB n) ((0 : Nat) + j)))]) &&
              decide
                ((0 : Nat) + (bif okN (↑n : Int) then numB (↑n : Int).toNat else ByteArray.mk #[]).size ≤
                  (9223372036854775807 : Nat))
        else true)
        (Tree.br
          (bif okN (↑n : Int) then
            bif false then true
            else
              bif
                  !decide
                      ((textOf (BA.nil.t ++ numB n).size fun j =>
                          [AV.v (Value.int IntKind.u8 (sbyte (BA.nil.t ++ numB n) ((0 : Nat) + j)))]) =
                        ByteArray.mk #[] ++ bif okN (↑n : Int) then numB (↑n : Int).toNat else ByteArray.mk #[]) then
                true
              else
                bif !okN (↑n : Int) then bif true then true else decide ((0 : Int) < (↑(BA.nil.t ++ numB n).size : Int))
                else false
          else
            bif !okN (↑n : Int) then bif true then true else decide ((0 : Int) < (↑(BA.nil.t ++ numB n).size : Int))
            else false)
          (Tree.leaf (Ans.mk (AV.v (Value.bool false)) []))
          (Tree.chk
            (cl
              (LeL [AV.v (Value.slice none (0 : Nat) (0 : Nat)), AV.v (Value.string s)]
                  [AV.v (Value.slice none (0 : Nat) (0 : Nat)), AV.v (Value.string s)] ∧
                LeH [] []))
            (Tree.br (decide ((65536 : Int) < (↑s.size : Int)))
              (Tree.br false (Tree.leaf (Ans.mk (AV.v (Value.bool false)) []))
                (Tree.chk
                  (cl
                    (LeL [AV.v (Value.slice none (0 : Nat) (0 : Nat))] [AV.v (Value.slice none (0 : Nat) (0 : Nat))] ∧
                      LeH [] []))
                  (Tree.chk
                    (cl
                      (LeL
                          [AV.v (Value.slice none (0 : Nat) (0 : Nat)), AV.v (Value.slice none (0 : Nat) (0 : Nat)),
                            AV.v (Value.string (ByteArray.mk #[])), AV.v (Value.slice none (0 : Nat) (0 : Nat)),
                            AV.v (Value.int IntKind.i64 (0 : Int)), AV.v (Value.string (ByteArray.mk #[])),
                            AV.v (Value.int IntKind.i64 (0 : Int)), AV.v (Value.bool false)]
                          [AV.v (Value.slice none (0 : Nat) (0 : Nat)), AV.v (Value.slice none (0 : Nat) (0 : Nat)),
                            AV.v (Value.string (ByteArray.mk #[])), AV.v (Value.slice none (0 : Nat) (0 : Nat)),
                            AV.v (Value.int IntKind.i64 (0 : Int)), AV.v (Value.string (ByteArray.mk #[])),
                            AV.v (Value.int IntKind.i64 (↑(0 : Nat) : Int)), AV.any] ∧
                        LeH [] []))
                    (Tree.leaf (Ans.mk (AV.sb true) [])))))
              (Tree.chk
                (bif true then true
                else
                  true &&
                      decide
                        ((bif okN (↑s.size : Int) then numB (↑s.size : Int).toNat else ByteArray.mk #[]).size + s.size ≤
                          (9223372036854775807 : Nat)) &&
                    decide
                      ((0 : Nat) +
                          ((bif okN (↑s.size : Int) then numB (↑s.size : Int).toNat else ByteArray.mk #[]) ++ s).size ≤
                        (9223372036854775807 : Nat)))
                (Tree.br
                  (bif true then true
                  else
                    !decide
                        (ByteArray.mk #[] =
                          ByteArray.mk #[] ++
                            ((bif okN (↑s.size : Int) then numB (↑s.size : Int).toNat else ByteArray.mk #[]) ++ s)))
                  (Tree.leaf (Ans.mk (AV.v (Value.bool false)) []))
                  (Tree.chk
                    (cl
                      (LeL [AV.v (Value.slice none (0 : Nat) (0 : Nat))] [AV.v (Value.slice none (0 : Nat) (0 : Nat))] ∧
                        LeH [] []))
                    (Tree.chk
                      (cl
                        (LeL
                            [AV.v (Value.slice none (0 : Nat) (0 : Nat)), AV.v (Value.slice none (0 : Nat) (0 : Nat)),
                              AV.v (Value.string (ByteArray.mk #[])), AV.v (Value.slice none (0 : Nat) (0 : Nat)),
                              AV.v (Value.int IntKind.i64 (0 : Int)), AV.v (Value.string (ByteArray.mk #[])),
                              AV.v (Value.int IntKind.i64 (0 : Int)), AV.v (Value.bool false)]
                            [AV.v (Value.slice none (0 : Nat) (0 : Nat)), AV.v (Value.slice none (0 : Nat) (0 : Nat)),
                              AV.v (Value.string (ByteArray.mk #[])), AV.v (Value.slice none (0 : Nat) (0 : Nat)),
                              AV.v (Value.int IntKind.i64 (0 : Int)), AV.v (Value.string (ByteArray.mk #[])),
                              AV.v (Value.int IntKind.i64 (↑(0 : Nat) : Int)), AV.any] ∧
                          LeH [] []))
                      (Tree.leaf (Ans.mk (AV.sb true) [])))))))))))) := by kernel_rfl
theorem lawWgbnn (s : ByteArray) (hb : BA.nil.ok) (n : Nat) (hn : n ≤ 4611686018427387904) (hs : 65536 < s.size) (hs2 : s.size ≤ 4611686018427387904) (hl : NA.nil.ok) : Right (bodyE (P := Try.prog) (Γ := Γw) [c6, CT.at 7 (ansNum BA.nil n hb hn), Z.c8, CT.at 9 (ansTextBad BA.nil s hb rfl hs hs2), Z.c10, CT.at 11 (ansNumsN hl)] (fun _ => LSpec.at [0, 3, 9, 16, 17, 18, 19, 8] [] (SL (.v (.slice none 0 0)) (.v (.slice none 0 0)) ⟨#[]⟩ (.v (.slice none 0 0)) 0 [] ⟨#[]⟩ 0) (OLg (.v (.slice none 0 0)) ⟨#[]⟩ (.v (.slice none 0 0)) [] ⟨#[]⟩)) false 154 [.tmp 8] (bodyOf Try.f3) [.v (.slice none 0 0), .v (.int .i64 (n : Int)), .v (.string s), .v (.slice none 0 0)] []) := by
  refine Right.of (runWgbnn s hb n hn hs hs2 hl) ?_
  refine ⟨fun _ => ⟨.refl _, trivial⟩, fun h0 => ?_⟩
  obtain ⟨h1, h2, h3⟩ := guard3 h0
  clear h0
  have q2 : s.size ≤ 70000 := by have := of_decide_eq_false h2; omega
  have q3 := (numB_size hn).1
  have q4 := (numB_size (show s.size ≤ 4611686018427387904 by omega)).1
  simp [okN_of hn, okN_of (show s.size ≤ 4611686018427387904 by omega), allBytes0, textOf0, allBytesF, textOfF, textOfF2, textOfF3, le_vv, allBytes_bsF, textOf_bsF, BA.t, LeL_self, LeH_self, cl_true, Tree.sat, cl_iff, textB, le_sbv, empty_append, append_empty, ByteArray.append_assoc]
  omega
theorem runWgbn0 (s : ByteArray) (hb : BA.nil.ok) (n : Nat) (hn : n ≤ 4611686018427387904) (hs : 65536 < s.size) (hs2 : s.size ≤ 4611686018427387904) (g : Nat → Int) (hl : (NA.sl 0 g).ok) : bodyE (P := Try.prog) (Γ := Γw) [c6, CT.at 7 (ansNum BA.nil n hb hn), Z.c8, CT.at 9 (ansTextBad BA.nil s hb rfl hs hs2), Z.c10, CT.at 11 (ansNums0 g hl)] (fun _ => LSpec.at [0, 3, 9, 16, 17, 18, 19, 8] [] (SL (.v (.slice none 0 0)) (.sl 1 0 (i64F g)) ⟨#[]⟩ (.v (.slice none 0 0)) 0 [] ⟨#[]⟩ 0) (OLg (.v (.slice none 0 0)) ⟨#[]⟩ (.v (.slice none 0 0)) [] ⟨#[]⟩)) false 154 [.tmp 8] (bodyOf Try.f3) [.v (.slice none 0 0), .v (.int .i64 (n : Int)), .v (.string s), .sl 1 0 (i64F g)] [] =
  Tree.br (bif false then true else bif decide ((70000 : Int) < (↑s.size : Int)) then true else false)
  (Tree.leaf (Ans.mk (AV.v (Value.bool true)) []))
  (Tree.chk
    (cl
      (LeL [AV.v (Value.slice none (0 : Nat) (0 : Nat)), AV.v (Value.int IntKind.i64 (↑n : Int))]
          [AV.v (Value.slice none (0 : Nat) (0 : Nat)), AV.v (Value.int IntKind.i64 (↑n : Int))] ∧
        LeH [] []))
    (Tree.chk true
      (Tree.chk
        (bif okN (↑n : Int) then
          bif false then true
          else
            (allBytes (BA.nil.t ++ numB n).size fun j =>
                [AV.v (Value.int IntKind.u8 (sbyte (BA.nil.t ++ numB n) ((0 : Nat) + j)))]) &&
              decide
                ((0 : Nat) + (bif okN (↑n : Int) then numB (↑n : Int).toNat else ByteArray.mk #[]).size ≤
                  (9223372036854775807 : Nat))
        else true)
        (Tree.br
          (bif okN (↑n : Int) then
            bif false then true
            else
              bif
                  !decide
                      ((textOf (BA.nil.t ++ numB n).size fun j =>
                          [AV.v (Value.int IntKind.u8 (sbyte (BA.nil.t ++ numB n) ((0 : Nat) + j)))]) =
                        ByteArray.mk #[] ++ bif okN (↑n : Int) then numB (↑n : Int).toNat else ByteArray.mk #[]) then
                true
              else
                bif !okN (↑n : Int) then bif true then true else decide ((0 : Int) < (↑(BA.nil.t ++ numB n).size : Int))
                else false
          else
            bif !okN (↑n : Int) then bif true then true else decide ((0 : Int) < (↑(BA.nil.t ++ numB n).size : Int))
            else false)
          (Tree.leaf (Ans.mk (AV.v (Value.bool false)) []))
          (Tree.chk
            (cl
              (LeL [AV.v (Value.slice none (0 : Nat) (0 : Nat)), AV.v (Value.string s)]
                  [AV.v (Value.slice none (0 : Nat) (0 : Nat)), AV.v (Value.string s)] ∧
                LeH [] []))
            (Tree.br (decide ((65536 : Int) < (↑s.size : Int)))
              (Tree.br false (Tree.leaf (Ans.mk (AV.v (Value.bool false)) []))
                (Tree.chk
                  (cl
                    (LeL [AV.sl (1 : Nat) (0 : Nat) fun j => [AV.v (Value.int IntKind.i64 (g j))]]
                        [AV.sl (1 : Nat) (0 : Nat) fun j => [AV.v (Value.int IntKind.i64 (g j))]] ∧
                      LeH [] []))
                  (Tree.chk
                    (cl
                      (LeL
                          [AV.v (Value.slice none (0 : Nat) (0 : Nat)),
                            AV.sl (1 : Nat) (0 : Nat) fun j => [AV.v (Value.int IntKind.i64 (g j))],
                            AV.v (Value.string (ByteArray.mk #[])), AV.v (Value.slice none (0 : Nat) (0 : Nat)),
                            AV.v (Value.int IntKind.i64 (0 : Int)), AV.v (Value.string (ByteArray.mk #[])),
                            AV.v (Value.int IntKind.i64 (0 : Int)), AV.v (Value.bool false)]
                          [AV.v (Value.slice none (0 : Nat) (0 : Nat)),
                            AV.sl (1 : Nat) (0 : Nat) fun j => [AV.v (Value.int IntKind.i64 (g j))],
                            AV.v (Value.string (ByteArray.mk #[])), AV.v (Value.slice none (0 : Nat) (0 : Nat)),
                            AV.v (Value.int IntKind.i64 (0 : Int)), AV.v (Value.string (ByteArray.mk #[])),
                            AV.v (Value.int IntKind.i64 (↑(0 : Nat) : Int)), AV.any] ∧
                        LeH [] []))
                    (Tree.leaf (Ans.mk (AV.sb true) [])))))
              (Tree.chk
                (bif true then true
                else
                  true &&
                      decide
                        ((bif okN (↑s.size : Int) then numB (↑s.size : Int).toNat else ByteArray.mk #[]).size + s.size ≤
                          (9223372036854775807 : Nat)) &&
                    decide
                      ((0 : Nat) +
                          ((bif okN (↑s.size : Int) then numB (↑s.size : Int).toNat else ByteArray.mk #[]) ++ s).size ≤
                        (9223372036854775807 : Nat)))
                (Tree.br
                  (bif true then true
                  else
                    !decide
                        (ByteArray.mk #[] =
                          ByteArray.mk #[] ++
                            ((bif okN (↑s.size : Int) then numB (↑s.size : Int).toNat else ByteArray.mk #[]) ++ s)))
                  (Tree.leaf (Ans.mk (AV.v (Value.bool false)) []))
                  (Tree.chk
                    (cl
                      (LeL [AV.sl (1 : Nat) (0 : Nat) fun j => [AV.v (Value.int IntKind.i64 (g j))]]
                          [AV.sl (1 : Nat) (0 : Nat) fun j => [AV.v (Value.int IntKind.i64 (g j))]] ∧
                        LeH [] []))
                    (Tree.chk
                      (cl
                        (LeL
                            [AV.v (Value.slice none (0 : Nat) (0 : Nat)),
                              AV.sl (1 : Nat) (0 : Nat) fun j => [AV.v (Value.int IntKind.i64 (g j))],
                              AV.v (Value.string (ByteArray.mk #[])), AV.v (Value.slice none (0 : Nat) (0 : Nat)),
                              AV.v (Value.int IntKind.i64 (0 : Int)), AV.v (Value.string (ByteArray.mk #[])),
                              AV.v (Value.int IntKind.i64 (0 : Int)), AV.v (Value.bool false)]
                            [AV.v (Value.slice none (0 : Nat) (0 : Nat)),
                              AV.sl (1 : Nat) (0 : Nat) fun j => [AV.v (Value.int IntKind.i64 (g j))],
                              AV.v (Value.string (ByteArray.mk #[])), AV.v (Value.slice none (0 : Nat) (0 : Nat)),
                              AV.v (Value.int IntKind.i64 (0 : Int)), AV.v (Value.string (ByteArray.mk #[])),
                              AV.v (Value.int IntKind.i64 (↑(0 : Nat) : Int)), AV.any] ∧
                          LeH [] []))
                      (Tree.leaf (Ans.mk (AV.sb true) [])))))))))))) := by kernel_rfl
theorem lawWgbn0 (s : ByteArray) (hb : BA.nil.ok) (n : Nat) (hn : n ≤ 4611686018427387904) (hs : 65536 < s.size) (hs2 : s.size ≤ 4611686018427387904) (g : Nat → Int) (hl : (NA.sl 0 g).ok) : Right (bodyE (P := Try.prog) (Γ := Γw) [c6, CT.at 7 (ansNum BA.nil n hb hn), Z.c8, CT.at 9 (ansTextBad BA.nil s hb rfl hs hs2), Z.c10, CT.at 11 (ansNums0 g hl)] (fun _ => LSpec.at [0, 3, 9, 16, 17, 18, 19, 8] [] (SL (.v (.slice none 0 0)) (.sl 1 0 (i64F g)) ⟨#[]⟩ (.v (.slice none 0 0)) 0 [] ⟨#[]⟩ 0) (OLg (.v (.slice none 0 0)) ⟨#[]⟩ (.v (.slice none 0 0)) [] ⟨#[]⟩)) false 154 [.tmp 8] (bodyOf Try.f3) [.v (.slice none 0 0), .v (.int .i64 (n : Int)), .v (.string s), .sl 1 0 (i64F g)] []) := by
  refine Right.of (runWgbn0 s hb n hn hs hs2 g hl) ?_
  refine ⟨fun _ => ⟨.refl _, trivial⟩, fun h0 => ?_⟩
  obtain ⟨h1, h2, h3⟩ := guard3 h0
  clear h0
  have q2 : s.size ≤ 70000 := by have := of_decide_eq_false h2; omega
  have q3 := (numB_size hn).1
  have q4 := (numB_size (show s.size ≤ 4611686018427387904 by omega)).1
  simp [okN_of hn, okN_of (show s.size ≤ 4611686018427387904 by omega), allBytes0, textOf0, allBytesF, textOfF, textOfF2, textOfF3, le_vv, allBytes_bsF, textOf_bsF, BA.t, LeL_self, LeH_self, cl_true, Tree.sat, cl_iff, textB, le_sbv, empty_append, append_empty, ByteArray.append_assoc]
  omega
theorem runWgbnm (s : ByteArray) (hb : BA.nil.ok) (n : Nat) (hn : n ≤ 4611686018427387904) (hs : 65536 < s.size) (hs2 : s.size ≤ 4611686018427387904) (m : Nat) (g : Nat → Int) (hl : (NA.sl (m + 1) g).ok) : bodyE (P := Try.prog) (Γ := Γw) [c6, CT.at 7 (ansNum BA.nil n hb hn), Z.c8, CT.at 9 (ansTextBad BA.nil s hb rfl hs hs2), Z.c10, CT.at 11 (ansNumsS m g hl)] (fun _ => LSpec.at [0, 3, 9, 16, 17, 18, 19, 8] [] (SL (.v (.slice none 0 0)) (.sl 1 (m + 1) (i64F g)) ⟨#[]⟩ (.hs 0 0 (catN g (m + 1)).size) 0 [some (.arr 1 (catN g (m + 1)).size (bsF (catN g (m + 1))))] ⟨#[]⟩ 0) (OLg (.v (.slice none 0 0)) ⟨#[]⟩ (.hs 0 0 (catN g (m + 1)).size) [some (.arr 1 (catN g (m + 1)).size (bsF (catN g (m + 1))))] (catN g (m + 1)))) false 154 [.tmp 8] (bodyOf Try.f3) [.v (.slice none 0 0), .v (.int .i64 (n : Int)), .v (.string s), .sl 1 (m + 1) (i64F g)] [] =
  Tree.br
  (bif false then true
  else bif decide ((70000 : Int) < (↑s.size : Int)) then true else decide ((500 : Int) < (↑(m + (1 : Nat)) : Int)))
  (Tree.leaf (Ans.mk (AV.v (Value.bool true)) []))
  (Tree.chk
    (cl
      (LeL [AV.v (Value.slice none (0 : Nat) (0 : Nat)), AV.v (Value.int IntKind.i64 (↑n : Int))]
          [AV.v (Value.slice none (0 : Nat) (0 : Nat)), AV.v (Value.int IntKind.i64 (↑n : Int))] ∧
        LeH [] []))
    (Tree.chk true
      (Tree.chk
        (bif okN (↑n : Int) then
          bif false then true
          else
            (allBytes (BA.nil.t ++ numB n).size fun j =>
                [AV.v (Value.int IntKind.u8 (sbyte (BA.nil.t ++ numB n) ((0 : Nat) + j)))]) &&
              decide
                ((0 : Nat) + (bif okN (↑n : Int) then numB (↑n : Int).toNat else ByteArray.mk #[]).size ≤
                  (9223372036854775807 : Nat))
        else true)
        (Tree.br
          (bif okN (↑n : Int) then
            bif false then true
            else
              bif
                  !decide
                      ((textOf (BA.nil.t ++ numB n).size fun j =>
                          [AV.v (Value.int IntKind.u8 (sbyte (BA.nil.t ++ numB n) ((0 : Nat) + j)))]) =
                        ByteArray.mk #[] ++ bif okN (↑n : Int) then numB (↑n : Int).toNat else ByteArray.mk #[]) then
                true
              else
                bif !okN (↑n : Int) then bif true then true else decide ((0 : Int) < (↑(BA.nil.t ++ numB n).size : Int))
                else false
          else
            bif !okN (↑n : Int) then bif true then true else decide ((0 : Int) < (↑(BA.nil.t ++ numB n).size : Int))
            else false)
          (Tree.leaf (Ans.mk (AV.v (Value.bool false)) []))
          (Tree.chk
            (cl
              (LeL [AV.v (Value.slice none (0 : Nat) (0 : Nat)), AV.v (Value.string s)]
                  [AV.v (Value.slice none (0 : Nat) (0 : Nat)), AV.v (Value.string s)] ∧
                LeH [] []))
            (Tree.br (decide ((65536 : Int) < (↑s.size : Int)))
              (Tree.br false (Tree.leaf (Ans.mk (AV.v (Value.bool false)) []))
                (Tree.chk
                  (cl
                    (LeL [AV.sl (1 : Nat) (m + (1 : Nat)) fun j => [AV.v (Value.int IntKind.i64 (g j))]]
                        [AV.sl (1 : Nat) (m + (1 : Nat)) fun j => [AV.v (Value.int IntKind.i64 (g j))]] ∧
                      LeH [] []))
                  (Tree.chk
                    (cl
                      (LeL
                          [AV.v (Value.slice none (0 : Nat) (0 : Nat)),
                            AV.sl (1 : Nat) (m + (1 : Nat)) fun j => [AV.v (Value.int IntKind.i64 (g j))],
                            AV.v (Value.string (ByteArray.mk #[])),
                            AV.hs (0 : Nat) (0 : Nat) (catN g (m + (1 : Nat))).size,
                            AV.v (Value.int IntKind.i64 (0 : Int)), AV.v (Value.string (ByteArray.mk #[])),
                            AV.v (Value.int IntKind.i64 (0 : Int)), AV.v (Value.bool false)]
                          [AV.v (Value.slice none (0 : Nat) (0 : Nat)),
                            AV.sl (1 : Nat) (m + (1 : Nat)) fun j => [AV.v (Value.int IntKind.i64 (g j))],
                            AV.v (Value.string (ByteArray.mk #[])),
                            AV.hs (0 : Nat) (0 : Nat) (catN g (m + (1 : Nat))).size,
                            AV.v (Value.int IntKind.i64 (0 : Int)), AV.v (Value.string (ByteArray.mk #[])),
                            AV.v (Value.int IntKind.i64 (↑(0 : Nat) : Int)), AV.any] ∧
                        LeH
                          [some
                              (Blk.arr (1 : Nat) (catN g (m + (1 : Nat))).size fun j =>
                                [AV.v (Value.int IntKind.u8 (sbyte (catN g (m + (1 : Nat))) j))])]
                          [some
                              (Blk.arr (1 : Nat) (catN g (m + (1 : Nat))).size fun j =>
                                [AV.v (Value.int IntKind.u8 (sbyte (catN g (m + (1 : Nat))) j))])]))
                    (Tree.chk
                      (bif true then
                        allBytes (catN g (m + (1 : Nat))).size fun j =>
                          [AV.v (Value.int IntKind.u8 (sbyte (catN g (m + (1 : Nat))) ((0 : Nat) + j)))]
                      else true)
                      (Tree.leaf
                        (Ans.mk
                          (AV.sb
                            (bif true then
                              bif
                                  decide
                                    ((textOf (catN g (m + (1 : Nat))).size fun j =>
                                        [AV.v
                                            (Value.int IntKind.u8 (sbyte (catN g (m + (1 : Nat))) ((0 : Nat) + j)))]) =
                                      catN g (m + (1 : Nat))) then
                                true
                              else false
                            else false))
                          []))))))
              (Tree.chk
                (bif true then true
                else
                  true &&
                      decide
                        ((bif okN (↑s.size : Int) then numB (↑s.size : Int).toNat else ByteArray.mk #[]).size + s.size ≤
                          (9223372036854775807 : Nat)) &&
                    decide
                      ((0 : Nat) +
                          ((bif okN (↑s.size : Int) then numB (↑s.size : Int).toNat else ByteArray.mk #[]) ++ s).size ≤
                        (9223372036854775807 : Nat)))
                (Tree.br
                  (bif true then true
                  else
                    !decide
                        (ByteArray.mk #[] =
                          ByteArray.mk #[] ++
                            ((bif okN (↑s.size : Int) then numB (↑s.size : Int).toNat else ByteArray.mk #[]) ++ s)))
                  (Tree.leaf (Ans.mk (AV.v (Value.bool false)) []))
                  (Tree.chk
                    (cl
                      (LeL [AV.sl (1 : Nat) (m + (1 : Nat)) fun j => [AV.v (Value.int IntKind.i64 (g j))]]
                          [AV.sl (1 : Nat) (m + (1 : Nat)) fun j => [AV.v (Value.int IntKind.i64 (g j))]] ∧
                        LeH [] []))
                    (Tree.chk
                      (cl
                        (LeL
                            [AV.v (Value.slice none (0 : Nat) (0 : Nat)),
                              AV.sl (1 : Nat) (m + (1 : Nat)) fun j => [AV.v (Value.int IntKind.i64 (g j))],
                              AV.v (Value.string (ByteArray.mk #[])),
                              AV.hs (0 : Nat) (0 : Nat) (catN g (m + (1 : Nat))).size,
                              AV.v (Value.int IntKind.i64 (0 : Int)), AV.v (Value.string (ByteArray.mk #[])),
                              AV.v (Value.int IntKind.i64 (0 : Int)), AV.v (Value.bool false)]
                            [AV.v (Value.slice none (0 : Nat) (0 : Nat)),
                              AV.sl (1 : Nat) (m + (1 : Nat)) fun j => [AV.v (Value.int IntKind.i64 (g j))],
                              AV.v (Value.string (ByteArray.mk #[])),
                              AV.hs (0 : Nat) (0 : Nat) (catN g (m + (1 : Nat))).size,
                              AV.v (Value.int IntKind.i64 (0 : Int)), AV.v (Value.string (ByteArray.mk #[])),
                              AV.v (Value.int IntKind.i64 (↑(0 : Nat) : Int)), AV.any] ∧
                          LeH
                            [some
                                (Blk.arr (1 : Nat) (catN g (m + (1 : Nat))).size fun j =>
                                  [AV.v (Value.int IntKind.u8 (sbyte (catN g (m + (1 : Nat))) j))])]
                            [some
                                (Blk.arr (1 : Nat) (catN g (m + (1 : Nat))).size fun j =>
                                  [AV.v (Value.int IntKind.u8 (sbyte (catN g (m + (1 : Nat))) j))])]))
                      (Tree.chk
                        (bif true then
                          allBytes (catN g (m + (1 : Nat))).size fun j =>
                            [AV.v (Value.int IntKind.u8 (sbyte (catN g (m + (1 : Nat))) ((0 : Nat) + j)))]
                        else true)
                        (Tree.leaf
                          (Ans.mk
                            (AV.sb
                              (bif true then
                                bif
                                    decide
                                      ((textOf (catN g (m + (1 : Nat))).size fun j =>
                                          [AV.v
                                              (Value.int IntKind.u8
                                                (sbyte (catN g (m + (1 : Nat))) ((0 : Nat) + j)))]) =
                                        catN g (m + (1 : Nat))) then
                                  true
                                else false
                              else false))
                            []))))))))))))) := by kernel_rfl
theorem lawWgbnm (s : ByteArray) (hb : BA.nil.ok) (n : Nat) (hn : n ≤ 4611686018427387904) (hs : 65536 < s.size) (hs2 : s.size ≤ 4611686018427387904) (m : Nat) (g : Nat → Int) (hl : (NA.sl (m + 1) g).ok) : Right (bodyE (P := Try.prog) (Γ := Γw) [c6, CT.at 7 (ansNum BA.nil n hb hn), Z.c8, CT.at 9 (ansTextBad BA.nil s hb rfl hs hs2), Z.c10, CT.at 11 (ansNumsS m g hl)] (fun _ => LSpec.at [0, 3, 9, 16, 17, 18, 19, 8] [] (SL (.v (.slice none 0 0)) (.sl 1 (m + 1) (i64F g)) ⟨#[]⟩ (.hs 0 0 (catN g (m + 1)).size) 0 [some (.arr 1 (catN g (m + 1)).size (bsF (catN g (m + 1))))] ⟨#[]⟩ 0) (OLg (.v (.slice none 0 0)) ⟨#[]⟩ (.hs 0 0 (catN g (m + 1)).size) [some (.arr 1 (catN g (m + 1)).size (bsF (catN g (m + 1))))] (catN g (m + 1)))) false 154 [.tmp 8] (bodyOf Try.f3) [.v (.slice none 0 0), .v (.int .i64 (n : Int)), .v (.string s), .sl 1 (m + 1) (i64F g)] []) := by
  refine Right.of (runWgbnm s hb n hn hs hs2 m g hl) ?_
  refine ⟨fun _ => ⟨.refl _, trivial⟩, fun h0 => ?_⟩
  obtain ⟨h1, h2, h3⟩ := guard3 h0
  clear h0
  have q2 : s.size ≤ 70000 := by have := of_decide_eq_false h2; omega
  have q3 := (numB_size hn).1
  have q4 := (numB_size (show s.size ≤ 4611686018427387904 by omega)).1
  have q5 := (catN_small (g := g) (i := m + 1) hl.1).1
  have q6 : m + 1 ≤ 500 := by have := of_decide_eq_false h3; omega
  simp [okN_of hn, okN_of (show s.size ≤ 4611686018427387904 by omega), allBytes0, textOf0, allBytesF, textOfF, textOfF2, textOfF3, le_vv, allBytes_bsF, textOf_bsF, BA.t, LeL_self, LeH_self, cl_true, Tree.sat, cl_iff, textB, le_sbv, empty_append, append_empty, ByteArray.append_assoc]
  omega
theorem runWgbnb (s : ByteArray) (hb : BA.nil.ok) (n : Nat) (hn : n ≤ 4611686018427387904) (hs : 65536 < s.size) (hs2 : s.size ≤ 4611686018427387904) (m : Nat) (g : Nat → Int) (c : Nat) (hc : c < m) (hok : ∀ j, j < c → okN (g j) = true) (hbad : okN (g c) = false) (hm : m ≤ 100000) : bodyE (P := Try.prog) (Γ := Γw) [c6, CT.at 7 (ansNum BA.nil n hb hn), Z.c8, CT.at 9 (ansTextBad BA.nil s hb rfl hs hs2), Z.c10, CT.at 11 (ansNumsBad m g c hc hok hbad hm)] (fun _ => LSpec.at [0, 3, 9, 16, 17, 18, 19, 8] [] (SL (.v (.slice none 0 0)) (.sl 1 m (i64F g)) ⟨#[]⟩ (.v (.slice none 0 0)) 10 [] ⟨#[]⟩ 0) OLb) false 154 [.tmp 8] (bodyOf Try.f3) [.v (.slice none 0 0), .v (.int .i64 (n : Int)), .v (.string s), .sl 1 m (i64F g)] [] =
  Tree.br
  (bif false then true
  else bif decide ((70000 : Int) < (↑s.size : Int)) then true else decide ((500 : Int) < (↑m : Int)))
  (Tree.leaf (Ans.mk (AV.v (Value.bool true)) []))
  (Tree.chk
    (cl
      (LeL [AV.v (Value.slice none (0 : Nat) (0 : Nat)), AV.v (Value.int IntKind.i64 (↑n : Int))]
          [AV.v (Value.slice none (0 : Nat) (0 : Nat)), AV.v (Value.int IntKind.i64 (↑n : Int))] ∧
        LeH [] []))
    (Tree.chk true
      (Tree.chk
        (bif okN (↑n : Int) then
          bif false then true
          else
            (allBytes (BA.nil.t ++ numB n).size fun j =>
                [AV.v (Value.int IntKind.u8 (sbyte (BA.nil.t ++ numB n) ((0 : Nat) + j)))]) &&
              decide
                ((0 : Nat) + (bif okN (↑n : Int) then numB (↑n : Int).toNat else ByteArray.mk #[]).size ≤
                  (9223372036854775807 : Nat))
        else true)
        (Tree.br
          (bif okN (↑n : Int) then
            bif false then true
            else
              bif
                  !decide
                      ((textOf (BA.nil.t ++ numB n).size fun j =>
                          [AV.v (Value.int IntKind.u8 (sbyte (BA.nil.t ++ numB n) ((0 : Nat) + j)))]) =
                        ByteArray.mk #[] ++ bif okN (↑n : Int) then numB (↑n : Int).toNat else ByteArray.mk #[]) then
                true
              else
                bif !okN (↑n : Int) then bif true then true else decide ((0 : Int) < (↑(BA.nil.t ++ numB n).size : Int))
                else false
          else
            bif !okN (↑n : Int) then bif true then true else decide ((0 : Int) < (↑(BA.nil.t ++ numB n).size : Int))
            else false)
          (Tree.leaf (Ans.mk (AV.v (Value.bool false)) []))
          (Tree.chk
            (cl
              (LeL [AV.v (Value.slice none (0 : Nat) (0 : Nat)), AV.v (Value.string s)]
                  [AV.v (Value.slice none (0 : Nat) (0 : Nat)), AV.v (Value.string s)] ∧
                LeH [] []))
            (Tree.br (decide ((65536 : Int) < (↑s.size : Int)))
              (Tree.br false (Tree.leaf (Ans.mk (AV.v (Value.bool false)) []))
                (Tree.chk
                  (cl
                    (LeL [AV.sl (1 : Nat) m fun j => [AV.v (Value.int IntKind.i64 (g j))]]
                        [AV.sl (1 : Nat) m fun j => [AV.v (Value.int IntKind.i64 (g j))]] ∧
                      LeH [] []))
                  (Tree.chk
                    (cl
                      (LeL
                          [AV.v (Value.slice none (0 : Nat) (0 : Nat)),
                            AV.sl (1 : Nat) m fun j => [AV.v (Value.int IntKind.i64 (g j))],
                            AV.v (Value.string (ByteArray.mk #[])), AV.v (Value.slice none (0 : Nat) (0 : Nat)),
                            AV.v (Value.int IntKind.i64 (10 : Int)), AV.v (Value.string (ByteArray.mk #[])),
                            AV.v (Value.int IntKind.i64 (0 : Int)), AV.v (Value.bool false)]
                          [AV.v (Value.slice none (0 : Nat) (0 : Nat)),
                            AV.sl (1 : Nat) m fun j => [AV.v (Value.int IntKind.i64 (g j))],
                            AV.v (Value.string (ByteArray.mk #[])), AV.v (Value.slice none (0 : Nat) (0 : Nat)),
                            AV.v (Value.int IntKind.i64 (10 : Int)), AV.v (Value.string (ByteArray.mk #[])),
                            AV.v (Value.int IntKind.i64 (↑(0 : Nat) : Int)), AV.any] ∧
                        LeH [] []))
                    (Tree.leaf (Ans.mk (AV.sb true) [])))))
              (Tree.chk
                (bif true then true
                else
                  true &&
                      decide
                        ((bif okN (↑s.size : Int) then numB (↑s.size : Int).toNat else ByteArray.mk #[]).size + s.size ≤
                          (9223372036854775807 : Nat)) &&
                    decide
                      ((0 : Nat) +
                          ((bif okN (↑s.size : Int) then numB (↑s.size : Int).toNat else ByteArray.mk #[]) ++ s).size ≤
                        (9223372036854775807 : Nat)))
                (Tree.br
                  (bif true then true
                  else
                    !decide
                        (ByteArray.mk #[] =
                          ByteArray.mk #[] ++
                            ((bif okN (↑s.size : Int) then numB (↑s.size : Int).toNat else ByteArray.mk #[]) ++ s)))
                  (Tree.leaf (Ans.mk (AV.v (Value.bool false)) []))
                  (Tree.chk
                    (cl
                      (LeL [AV.sl (1 : Nat) m fun j => [AV.v (Value.int IntKind.i64 (g j))]]
                          [AV.sl (1 : Nat) m fun j => [AV.v (Value.int IntKind.i64 (g j))]] ∧
                        LeH [] []))
                    (Tree.chk
                      (cl
                        (LeL
                            [AV.v (Value.slice none (0 : Nat) (0 : Nat)),
                              AV.sl (1 : Nat) m fun j => [AV.v (Value.int IntKind.i64 (g j))],
                              AV.v (Value.string (ByteArray.mk #[])), AV.v (Value.slice none (0 : Nat) (0 : Nat)),
                              AV.v (Value.int IntKind.i64 (10 : Int)), AV.v (Value.string (ByteArray.mk #[])),
                              AV.v (Value.int IntKind.i64 (0 : Int)), AV.v (Value.bool false)]
                            [AV.v (Value.slice none (0 : Nat) (0 : Nat)),
                              AV.sl (1 : Nat) m fun j => [AV.v (Value.int IntKind.i64 (g j))],
                              AV.v (Value.string (ByteArray.mk #[])), AV.v (Value.slice none (0 : Nat) (0 : Nat)),
                              AV.v (Value.int IntKind.i64 (10 : Int)), AV.v (Value.string (ByteArray.mk #[])),
                              AV.v (Value.int IntKind.i64 (↑(0 : Nat) : Int)), AV.any] ∧
                          LeH [] []))
                      (Tree.leaf (Ans.mk (AV.sb true) [])))))))))))) := by kernel_rfl
theorem lawWgbnb (s : ByteArray) (hb : BA.nil.ok) (n : Nat) (hn : n ≤ 4611686018427387904) (hs : 65536 < s.size) (hs2 : s.size ≤ 4611686018427387904) (m : Nat) (g : Nat → Int) (c : Nat) (hc : c < m) (hok : ∀ j, j < c → okN (g j) = true) (hbad : okN (g c) = false) (hm : m ≤ 100000) : Right (bodyE (P := Try.prog) (Γ := Γw) [c6, CT.at 7 (ansNum BA.nil n hb hn), Z.c8, CT.at 9 (ansTextBad BA.nil s hb rfl hs hs2), Z.c10, CT.at 11 (ansNumsBad m g c hc hok hbad hm)] (fun _ => LSpec.at [0, 3, 9, 16, 17, 18, 19, 8] [] (SL (.v (.slice none 0 0)) (.sl 1 m (i64F g)) ⟨#[]⟩ (.v (.slice none 0 0)) 10 [] ⟨#[]⟩ 0) OLb) false 154 [.tmp 8] (bodyOf Try.f3) [.v (.slice none 0 0), .v (.int .i64 (n : Int)), .v (.string s), .sl 1 m (i64F g)] []) := by
  refine Right.of (runWgbnb s hb n hn hs hs2 m g c hc hok hbad hm) ?_
  refine ⟨fun _ => ⟨.refl _, trivial⟩, fun h0 => ?_⟩
  obtain ⟨h1, h2, h3⟩ := guard3 h0
  clear h0
  have q2 : s.size ≤ 70000 := by have := of_decide_eq_false h2; omega
  have q3 := (numB_size hn).1
  have q4 := (numB_size (show s.size ≤ 4611686018427387904 by omega)).1
  simp [okN_of hn, okN_of (show s.size ≤ 4611686018427387904 by omega), allBytes0, textOf0, allBytesF, textOfF, textOfF2, textOfF3, le_vv, allBytes_bsF, textOf_bsF, BA.t, LeL_self, LeH_self, cl_true, Tree.sat, cl_iff, textB, le_sbv, empty_append, append_empty, ByteArray.append_assoc]
  omega
theorem runWgbsn (b : ByteArray) (s : ByteArray) (hb : (BA.sl b).ok) (n : Nat) (hn : n ≤ 4611686018427387904) (hs : 65536 < s.size) (hs2 : s.size ≤ 4611686018427387904) (hl : NA.nil.ok) : bodyE (P := Try.prog) (Γ := Γw) [c6, CT.at 7 (ansNum (BA.sl b) n hb hn), Z.c8, CT.at 9 (ansTextBad (BA.sl b) s hb rfl hs hs2), Z.c10, CT.at 11 (ansNumsN hl)] (fun _ => LSpec.at [0, 3, 9, 16, 17, 18, 19, 8] [] (SL (.sl 1 b.size (bsF b)) (.v (.slice none 0 0)) b (.v (.slice none 0 0)) 0 [] ⟨#[]⟩ 0) (OLg (.sl 1 b.size (bsF b)) b (.v (.slice none 0 0)) [] ⟨#[]⟩)) false 154 [.tmp 8] (bodyOf Try.f3) [.sl 1 b.size (bsF b), .v (.int .i64 (n : Int)), .v (.string s), .v (.slice none 0 0)] [] =
  Tree.br
  (bif decide ((2000 : Int) < (↑b.size : Int)) then true
  else bif decide ((70000 : Int) < (↑s.size : Int)) then true else false)
  (Tree.leaf (Ans.mk (AV.v (Value.bool true)) []))
  (Tree.chk (allBytes b.size (bsF b))
    (Tree.chk
      (cl
        (LeL
            [AV.sl (1 : Nat) b.size fun j => [AV.v (Value.int IntKind.u8 (sbyte b j))],
              AV.v (Value.int IntKind.i64 (↑n : Int))]
            [AV.sl (1 : Nat) b.size fun j => [AV.v (Value.int IntKind.u8 (sbyte b j))],
              AV.v (Value.int IntKind.i64 (↑n : Int))] ∧
          LeH [] []))
      (Tree.chk true
        (Tree.chk
          (bif okN (↑n : Int) then
            bif false then true
            else
              (allBytes ((BA.sl b).t ++ numB n).size fun j =>
                  [AV.v (Value.int IntKind.u8 (sbyte ((BA.sl b).t ++ numB n) ((0 : Nat) + j)))]) &&
                decide
                  ((textOf b.size (bsF b)).size +
                      (bif okN (↑n : Int) then numB (↑n : Int).toNat else ByteArray.mk #[]).size ≤
                    (9223372036854775807 : Nat))
          else true)
          (Tree.br
            (bif okN (↑n : Int) then
              bif false then true
              else
                bif
                    !decide
                        ((textOf ((BA.sl b).t ++ numB n).size fun j =>
                            [AV.v (Value.int IntKind.u8 (sbyte ((BA.sl b).t ++ numB n) ((0 : Nat) + j)))]) =
                          textOf b.size (bsF b) ++
                            bif okN (↑n : Int) then numB (↑n : Int).toNat else ByteArray.mk #[]) then
                  true
                else
                  bif !okN (↑n : Int) then
                    bif true then true else decide ((0 : Int) < (↑((BA.sl b).t ++ numB n).size : Int))
                  else false
            else
              bif !okN (↑n : Int) then
                bif true then true else decide ((0 : Int) < (↑((BA.sl b).t ++ numB n).size : Int))
              else false)
            (Tree.leaf (Ans.mk (AV.v (Value.bool false)) []))
            (Tree.chk
              (cl
                (LeL [AV.sl (1 : Nat) b.size fun j => [AV.v (Value.int IntKind.u8 (sbyte b j))], AV.v (Value.string s)]
                    [AV.sl (1 : Nat) b.size fun j => [AV.v (Value.int IntKind.u8 (sbyte b j))], AV.v (Value.string s)] ∧
                  LeH [] []))
              (Tree.br (decide ((65536 : Int) < (↑s.size : Int)))
                (Tree.br false (Tree.leaf (Ans.mk (AV.v (Value.bool false)) []))
                  (Tree.chk
                    (cl
                      (LeL [AV.v (Value.slice none (0 : Nat) (0 : Nat))] [AV.v (Value.slice none (0 : Nat) (0 : Nat))] ∧
                        LeH [] []))
                    (Tree.chk
                      (cl
                        (LeL
                            [AV.sl (1 : Nat) b.size fun j => [AV.v (Value.int IntKind.u8 (sbyte b j))],
                              AV.v (Value.slice none (0 : Nat) (0 : Nat)), AV.v (Value.string (textOf b.size (bsF b))),
                              AV.v (Value.slice none (0 : Nat) (0 : Nat)), AV.v (Value.int IntKind.i64 (0 : Int)),
                              AV.v (Value.string (ByteArray.mk #[])), AV.v (Value.int IntKind.i64 (0 : Int)),
                              AV.v (Value.bool false)]
                            [AV.sl (1 : Nat) b.size fun j => [AV.v (Value.int IntKind.u8 (sbyte b j))],
                              AV.v (Value.slice none (0 : Nat) (0 : Nat)), AV.v (Value.string b),
                              AV.v (Value.slice none (0 : Nat) (0 : Nat)), AV.v (Value.int IntKind.i64 (0 : Int)),
                              AV.v (Value.string (ByteArray.mk #[])), AV.v (Value.int IntKind.i64 (↑(0 : Nat) : Int)),
                              AV.any] ∧
                          LeH [] []))
                      (Tree.chk (bif true then bif true then allBytes b.size (bsF b) else true else true)
                        (Tree.leaf
                          (Ans.mk
                            (AV.sb
                              (bif true then bif true then decide (textOf b.size (bsF b) = b) else false else false))
                            []))))))
                (Tree.chk
                  (bif true then true
                  else
                    true &&
                        decide
                          ((bif okN (↑s.size : Int) then numB (↑s.size : Int).toNat else ByteArray.mk #[]).size +
                              s.size ≤
                            (9223372036854775807 : Nat)) &&
                      decide
                        ((textOf b.size (bsF b)).size +
                            ((bif okN (↑s.size : Int) then numB (↑s.size : Int).toNat else ByteArray.mk #[]) ++
                                s).size ≤
                          (9223372036854775807 : Nat)))
                  (Tree.br
                    (bif true then true
                    else
                      !decide
                          (ByteArray.mk #[] =
                            textOf b.size (bsF b) ++
                              ((bif okN (↑s.size : Int) then numB (↑s.size : Int).toNat else ByteArray.mk #[]) ++ s)))
                    (Tree.leaf (Ans.mk (AV.v (Value.bool false)) []))
                    (Tree.chk
                      (cl
                        (LeL [AV.v (Value.slice none (0 : Nat) (0 : Nat))]
                            [AV.v (Value.slice none (0 : Nat) (0 : Nat))] ∧
                          LeH [] []))
                      (Tree.chk
                        (cl
                          (LeL
                              [AV.sl (1 : Nat) b.size fun j => [AV.v (Value.int IntKind.u8 (sbyte b j))],
                                AV.v (Value.slice none (0 : Nat) (0 : Nat)),
                                AV.v (Value.string (textOf b.size (bsF b))),
                                AV.v (Value.slice none (0 : Nat) (0 : Nat)), AV.v (Value.int IntKind.i64 (0 : Int)),
                                AV.v (Value.string (ByteArray.mk #[])), AV.v (Value.int IntKind.i64 (0 : Int)),
                                AV.v (Value.bool false)]
                              [AV.sl (1 : Nat) b.size fun j => [AV.v (Value.int IntKind.u8 (sbyte b j))],
                                AV.v (Value.slice none (0 : Nat) (0 : Nat)), AV.v (Value.string b),
                                AV.v (Value.slice none (0 : Nat) (0 : Nat)), AV.v (Value.int IntKind.i64 (0 : Int)),
                                AV.v (Value.string (ByteArray.mk #[])), AV.v (Value.int IntKind.i64 (↑(0 : Nat) : Int)),
                                AV.any] ∧
                            LeH [] []))
                        (Tree.chk (bif true then bif true then allBytes b.size (bsF b) else true else true)
                          (Tree.leaf
                            (Ans.mk
                              (AV.sb
                                (bif true then bif true then decide (textOf b.size (bsF b) = b) else false else false))
                              [])))))))))))))) := by kernel_rfl
theorem lawWgbsn (b : ByteArray) (s : ByteArray) (hb : (BA.sl b).ok) (n : Nat) (hn : n ≤ 4611686018427387904) (hs : 65536 < s.size) (hs2 : s.size ≤ 4611686018427387904) (hl : NA.nil.ok) : Right (bodyE (P := Try.prog) (Γ := Γw) [c6, CT.at 7 (ansNum (BA.sl b) n hb hn), Z.c8, CT.at 9 (ansTextBad (BA.sl b) s hb rfl hs hs2), Z.c10, CT.at 11 (ansNumsN hl)] (fun _ => LSpec.at [0, 3, 9, 16, 17, 18, 19, 8] [] (SL (.sl 1 b.size (bsF b)) (.v (.slice none 0 0)) b (.v (.slice none 0 0)) 0 [] ⟨#[]⟩ 0) (OLg (.sl 1 b.size (bsF b)) b (.v (.slice none 0 0)) [] ⟨#[]⟩)) false 154 [.tmp 8] (bodyOf Try.f3) [.sl 1 b.size (bsF b), .v (.int .i64 (n : Int)), .v (.string s), .v (.slice none 0 0)] []) := by
  refine Right.of (runWgbsn b s hb n hn hs hs2 hl) ?_
  refine ⟨fun _ => ⟨.refl _, trivial⟩, fun h0 => ?_⟩
  obtain ⟨h1, h2, h3⟩ := guard3 h0
  clear h0
  have q1 : b.size ≤ 2000 := by have := of_decide_eq_false h1; omega
  have q2 : s.size ≤ 70000 := by have := of_decide_eq_false h2; omega
  have q3 := (numB_size hn).1
  have q4 := (numB_size (show s.size ≤ 4611686018427387904 by omega)).1
  simp [okN_of hn, okN_of (show s.size ≤ 4611686018427387904 by omega), allBytes0, textOf0, allBytesF, textOfF, textOfF2, textOfF3, le_vv, allBytes_bsF, textOf_bsF, BA.t, LeL_self, LeH_self, cl_true, Tree.sat, cl_iff, textB, le_sbv, empty_append, append_empty, ByteArray.append_assoc]
  omega
theorem runWgbs0 (b : ByteArray) (s : ByteArray) (hb : (BA.sl b).ok) (n : Nat) (hn : n ≤ 4611686018427387904) (hs : 65536 < s.size) (hs2 : s.size ≤ 4611686018427387904) (g : Nat → Int) (hl : (NA.sl 0 g).ok) : bodyE (P := Try.prog) (Γ := Γw) [c6, CT.at 7 (ansNum (BA.sl b) n hb hn), Z.c8, CT.at 9 (ansTextBad (BA.sl b) s hb rfl hs hs2), Z.c10, CT.at 11 (ansNums0 g hl)] (fun _ => LSpec.at [0, 3, 9, 16, 17, 18, 19, 8] [] (SL (.sl 1 b.size (bsF b)) (.sl 1 0 (i64F g)) b (.v (.slice none 0 0)) 0 [] ⟨#[]⟩ 0) (OLg (.sl 1 b.size (bsF b)) b (.v (.slice none 0 0)) [] ⟨#[]⟩)) false 154 [.tmp 8] (bodyOf Try.f3) [.sl 1 b.size (bsF b), .v (.int .i64 (n : Int)), .v (.string s), .sl 1 0 (i64F g)] [] =
  Tree.br
  (bif decide ((2000 : Int) < (↑b.size : Int)) then true
  else bif decide ((70000 : Int) < (↑s.size : Int)) then true else false)
  (Tree.leaf (Ans.mk (AV.v (Value.bool true)) []))
  (Tree.chk (allBytes b.size (bsF b))
    (Tree.chk
      (cl
        (LeL
            [AV.sl (1 : Nat) b.size fun j => [AV.v (Value.int IntKind.u8 (sbyte b j))],
              AV.v (Value.int IntKind.i64 (↑n : Int))]
            [AV.sl (1 : Nat) b.size fun j => [AV.v (Value.int IntKind.u8 (sbyte b j))],
              AV.v (Value.int IntKind.i64 (↑n : Int))] ∧
          LeH [] []))
      (Tree.chk true
        (Tree.chk
          (bif okN (↑n : Int) then
            bif false then true
            else
              (allBytes ((BA.sl b).t ++ numB n).size fun j =>
                  [AV.v (Value.int IntKind.u8 (sbyte ((BA.sl b).t ++ numB n) ((0 : Nat) + j)))]) &&
                decide
                  ((textOf b.size (bsF b)).size +
                      (bif okN (↑n : Int) then numB (↑n : Int).toNat else ByteArray.mk #[]).size ≤
                    (9223372036854775807 : Nat))
          else true)
          (Tree.br
            (bif okN (↑n : Int) then
              bif false then true
              else
                bif
                    !decide
                        ((textOf ((BA.sl b).t ++ numB n).size fun j =>
                            [AV.v (Value.int IntKind.u8 (sbyte ((BA.sl b).t ++ numB n) ((0 : Nat) + j)))]) =
                          textOf b.size (bsF b) ++
                            bif okN (↑n : Int) then numB (↑n : Int).toNat else ByteArray.mk #[]) then
                  true
                else
                  bif !okN (↑n : Int) then
                    bif true then true else decide ((0 : Int) < (↑((BA.sl b).t ++ numB n).size : Int))
                  else false
            else
              bif !okN (↑n : Int) then
                bif true then true else decide ((0 : Int) < (↑((BA.sl b).t ++ numB n).size : Int))
              else false)
            (Tree.leaf (Ans.mk (AV.v (Value.bool false)) []))
            (Tree.chk
              (cl
                (LeL [AV.sl (1 : Nat) b.size fun j => [AV.v (Value.int IntKind.u8 (sbyte b j))], AV.v (Value.string s)]
                    [AV.sl (1 : Nat) b.size fun j => [AV.v (Value.int IntKind.u8 (sbyte b j))], AV.v (Value.string s)] ∧
                  LeH [] []))
              (Tree.br (decide ((65536 : Int) < (↑s.size : Int)))
                (Tree.br false (Tree.leaf (Ans.mk (AV.v (Value.bool false)) []))
                  (Tree.chk
                    (cl
                      (LeL [AV.sl (1 : Nat) (0 : Nat) fun j => [AV.v (Value.int IntKind.i64 (g j))]]
                          [AV.sl (1 : Nat) (0 : Nat) fun j => [AV.v (Value.int IntKind.i64 (g j))]] ∧
                        LeH [] []))
                    (Tree.chk
                      (cl
                        (LeL
                            [AV.sl (1 : Nat) b.size fun j => [AV.v (Value.int IntKind.u8 (sbyte b j))],
                              AV.sl (1 : Nat) (0 : Nat) fun j => [AV.v (Value.int IntKind.i64 (g j))],
                              AV.v (Value.string (textOf b.size (bsF b))), AV.v (Value.slice none (0 : Nat) (0 : Nat)),
                              AV.v (Value.int IntKind.i64 (0 : Int)), AV.v (Value.string (ByteArray.mk #[])),
                              AV.v (Value.int IntKind.i64 (0 : Int)), AV.v (Value.bool false)]
                            [AV.sl (1 : Nat) b.size fun j => [AV.v (Value.int IntKind.u8 (sbyte b j))],
                              AV.sl (1 : Nat) (0 : Nat) fun j => [AV.v (Value.int IntKind.i64 (g j))],
                              AV.v (Value.string b), AV.v (Value.slice none (0 : Nat) (0 : Nat)),
                              AV.v (Value.int IntKind.i64 (0 : Int)), AV.v (Value.string (ByteArray.mk #[])),
                              AV.v (Value.int IntKind.i64 (↑(0 : Nat) : Int)), AV.any] ∧
                          LeH [] []))
                      (Tree.chk (bif true then bif true then allBytes b.size (bsF b) else true else true)
                        (Tree.leaf
                          (Ans.mk
                            (AV.sb
                              (bif true then bif true then decide (textOf b.size (bsF b) = b) else false else false))
                            []))))))
                (Tree.chk
                  (bif true then true
                  else
                    true &&
                        decide
                          ((bif okN (↑s.size : Int) then numB (↑s.size : Int).toNat else ByteArray.mk #[]).size +
                              s.size ≤
                            (9223372036854775807 : Nat)) &&
                      decide
                        ((textOf b.size (bsF b)).size +
                            ((bif okN (↑s.size : Int) then numB (↑s.size : Int).toNat else ByteArray.mk #[]) ++
                                s).size ≤
                          (9223372036854775807 : Nat)))
                  (Tree.br
                    (bif true then true
                    else
                      !decide
                          (ByteArray.mk #[] =
                            textOf b.size (bsF b) ++
                              ((bif okN (↑s.size : Int) then numB (↑s.size : Int).toNat else ByteArray.mk #[]) ++ s)))
                    (Tree.leaf (Ans.mk (AV.v (Value.bool false)) []))
                    (Tree.chk
                      (cl
                        (LeL [AV.sl (1 : Nat) (0 : Nat) fun j => [AV.v (Value.int IntKind.i64 (g j))]]
                            [AV.sl (1 : Nat) (0 : Nat) fun j => [AV.v (Value.int IntKind.i64 (g j))]] ∧
                          LeH [] []))
                      (Tree.chk
                        (cl
                          (LeL
                              [AV.sl (1 : Nat) b.size fun j => [AV.v (Value.int IntKind.u8 (sbyte b j))],
                                AV.sl (1 : Nat) (0 : Nat) fun j => [AV.v (Value.int IntKind.i64 (g j))],
                                AV.v (Value.string (textOf b.size (bsF b))),
                                AV.v (Value.slice none (0 : Nat) (0 : Nat)), AV.v (Value.int IntKind.i64 (0 : Int)),
                                AV.v (Value.string (ByteArray.mk #[])), AV.v (Value.int IntKind.i64 (0 : Int)),
                                AV.v (Value.bool false)]
                              [AV.sl (1 : Nat) b.size fun j => [AV.v (Value.int IntKind.u8 (sbyte b j))],
                                AV.sl (1 : Nat) (0 : Nat) fun j => [AV.v (Value.int IntKind.i64 (g j))],
                                AV.v (Value.string b), AV.v (Value.slice none (0 : Nat) (0 : Nat)),
                                AV.v (Value.int IntKind.i64 (0 : Int)), AV.v (Value.string (ByteArray.mk #[])),
                                AV.v (Value.int IntKind.i64 (↑(0 : Nat) : Int)), AV.any] ∧
                            LeH [] []))
                        (Tree.chk (bif true then bif true then allBytes b.size (bsF b) else true else true)
                          (Tree.leaf
                            (Ans.mk
                              (AV.sb
                                (bif true then bif true then decide (textOf b.size (bsF b) = b) else false else false))
                              [])))))))))))))) := by kernel_rfl
theorem lawWgbs0 (b : ByteArray) (s : ByteArray) (hb : (BA.sl b).ok) (n : Nat) (hn : n ≤ 4611686018427387904) (hs : 65536 < s.size) (hs2 : s.size ≤ 4611686018427387904) (g : Nat → Int) (hl : (NA.sl 0 g).ok) : Right (bodyE (P := Try.prog) (Γ := Γw) [c6, CT.at 7 (ansNum (BA.sl b) n hb hn), Z.c8, CT.at 9 (ansTextBad (BA.sl b) s hb rfl hs hs2), Z.c10, CT.at 11 (ansNums0 g hl)] (fun _ => LSpec.at [0, 3, 9, 16, 17, 18, 19, 8] [] (SL (.sl 1 b.size (bsF b)) (.sl 1 0 (i64F g)) b (.v (.slice none 0 0)) 0 [] ⟨#[]⟩ 0) (OLg (.sl 1 b.size (bsF b)) b (.v (.slice none 0 0)) [] ⟨#[]⟩)) false 154 [.tmp 8] (bodyOf Try.f3) [.sl 1 b.size (bsF b), .v (.int .i64 (n : Int)), .v (.string s), .sl 1 0 (i64F g)] []) := by
  refine Right.of (runWgbs0 b s hb n hn hs hs2 g hl) ?_
  refine ⟨fun _ => ⟨.refl _, trivial⟩, fun h0 => ?_⟩
  obtain ⟨h1, h2, h3⟩ := guard3 h0
  clear h0
  have q1 : b.size ≤ 2000 := by have := of_decide_eq_false h1; omega
  have q2 : s.size ≤ 70000 := by have := of_decide_eq_false h2; omega
  have q3 := (numB_size hn).1
  have q4 := (numB_size (show s.size ≤ 4611686018427387904 by omega)).1
  simp [okN_of hn, okN_of (show s.size ≤ 4611686018427387904 by omega), allBytes0, textOf0, allBytesF, textOfF, textOfF2, textOfF3, le_vv, allBytes_bsF, textOf_bsF, BA.t, LeL_self, LeH_self, cl_true, Tree.sat, cl_iff, textB, le_sbv, empty_append, append_empty, ByteArray.append_assoc]
  omega
theorem runWgbsm (b : ByteArray) (s : ByteArray) (hb : (BA.sl b).ok) (n : Nat) (hn : n ≤ 4611686018427387904) (hs : 65536 < s.size) (hs2 : s.size ≤ 4611686018427387904) (m : Nat) (g : Nat → Int) (hl : (NA.sl (m + 1) g).ok) : bodyE (P := Try.prog) (Γ := Γw) [c6, CT.at 7 (ansNum (BA.sl b) n hb hn), Z.c8, CT.at 9 (ansTextBad (BA.sl b) s hb rfl hs hs2), Z.c10, CT.at 11 (ansNumsS m g hl)] (fun _ => LSpec.at [0, 3, 9, 16, 17, 18, 19, 8] [] (SL (.sl 1 b.size (bsF b)) (.sl 1 (m + 1) (i64F g)) b (.hs 0 0 (catN g (m + 1)).size) 0 [some (.arr 1 (catN g (m + 1)).size (bsF (catN g (m + 1))))] ⟨#[]⟩ 0) (OLg (.sl 1 b.size (bsF b)) b (.hs 0 0 (catN g (m + 1)).size) [some (.arr 1 (catN g (m + 1)).size (bsF (catN g (m + 1))))] (catN g (m + 1)))) false 154 [.tmp 8] (bodyOf Try.f3) [.sl 1 b.size (bsF b), .v (.int .i64 (n : Int)), .v (.string s), .sl 1 (m + 1) (i64F g)] [] =
  Tree.br
  (bif decide ((2000 : Int) < (↑b.size : Int)) then true
  else bif decide ((70000 : Int) < (↑s.size : Int)) then true else decide ((500 : Int) < (↑(m + (1 : Nat)) : Int)))
  (Tree.leaf (Ans.mk (AV.v (Value.bool true)) []))
  (Tree.chk (allBytes b.size (bsF b))
    (Tree.chk
      (cl
        (LeL
            [AV.sl (1 : Nat) b.size fun j => [AV.v (Value.int IntKind.u8 (sbyte b j))],
              AV.v (Value.int IntKind.i64 (↑n : Int))]
            [AV.sl (1 : Nat) b.size fun j => [AV.v (Value.int IntKind.u8 (sbyte b j))],
              AV.v (Value.int IntKind.i64 (↑n : Int))] ∧
          LeH [] []))
      (Tree.chk true
        (Tree.chk
          (bif okN (↑n : Int) then
            bif false then true
            else
              (allBytes ((BA.sl b).t ++ numB n).size fun j =>
                  [AV.v (Value.int IntKind.u8 (sbyte ((BA.sl b).t ++ numB n) ((0 : Nat) + j)))]) &&
                decide
                  ((textOf b.size (bsF b)).size +
                      (bif okN (↑n : Int) then numB (↑n : Int).toNat else ByteArray.mk #[]).size ≤
                    (9223372036854775807 : Nat))
          else true)
          (Tree.br
            (bif okN (↑n : Int) then
              bif false then true
              else
                bif
                    !decide
                        ((textOf ((BA.sl b).t ++ numB n).size fun j =>
                            [AV.v (Value.int IntKind.u8 (sbyte ((BA.sl b).t ++ numB n) ((0 : Nat) + j)))]) =
                          textOf b.size (bsF b) ++
                            bif okN (↑n : Int) then numB (↑n : Int).toNat else ByteArray.mk #[]) then
                  true
                else
                  bif !okN (↑n : Int) then
                    bif true then true else decide ((0 : Int) < (↑((BA.sl b).t ++ numB n).size : Int))
                  else false
            else
              bif !okN (↑n : Int) then
                bif true then true else decide ((0 : Int) < (↑((BA.sl b).t ++ numB n).size : Int))
              else false)
            (Tree.leaf (Ans.mk (AV.v (Value.bool false)) []))
            (Tree.chk
              (cl
                (LeL [AV.sl (1 : Nat) b.size fun j => [AV.v (Value.int IntKind.u8 (sbyte b j))], AV.v (Value.string s)]
                    [AV.sl (1 : Nat) b.size fun j => [AV.v (Value.int IntKind.u8 (sbyte b j))], AV.v (Value.string s)] ∧
                  LeH [] []))
              (Tree.br (decide ((65536 : Int) < (↑s.size : Int)))
                (Tree.br false (Tree.leaf (Ans.mk (AV.v (Value.bool false)) []))
                  (Tree.chk
                    (cl
                      (LeL [AV.sl (1 : Nat) (m + (1 : Nat)) fun j => [AV.v (Value.int IntKind.i64 (g j))]]
                          [AV.sl (1 : Nat) (m + (1 : Nat)) fun j => [AV.v (Value.int IntKind.i64 (g j))]] ∧
                        LeH [] []))
                    (Tree.chk
                      (cl
                        (LeL
                            [AV.sl (1 : Nat) b.size fun j => [AV.v (Value.int IntKind.u8 (sbyte b j))],
                              AV.sl (1 : Nat) (m + (1 : Nat)) fun j => [AV.v (Value.int IntKind.i64 (g j))],
                              AV.v (Value.string (textOf b.size (bsF b))),
                              AV.hs (0 : Nat) (0 : Nat) (catN g (m + (1 : Nat))).size,
                              AV.v (Value.int IntKind.i64 (0 : Int)), AV.v (Value.string (ByteArray.mk #[])),
                              AV.v (Value.int IntKind.i64 (0 : Int)), AV.v (Value.bool false)]
                            [AV.sl (1 : Nat) b.size fun j => [AV.v (Value.int IntKind.u8 (sbyte b j))],
                              AV.sl (1 : Nat) (m + (1 : Nat)) fun j => [AV.v (Value.int IntKind.i64 (g j))],
                              AV.v (Value.string b), AV.hs (0 : Nat) (0 : Nat) (catN g (m + (1 : Nat))).size,
                              AV.v (Value.int IntKind.i64 (0 : Int)), AV.v (Value.string (ByteArray.mk #[])),
                              AV.v (Value.int IntKind.i64 (↑(0 : Nat) : Int)), AV.any] ∧
                          LeH
                            [some
                                (Blk.arr (1 : Nat) (catN g (m + (1 : Nat))).size fun j =>
                                  [AV.v (Value.int IntKind.u8 (sbyte (catN g (m + (1 : Nat))) j))])]
                            [some
                                (Blk.arr (1 : Nat) (catN g (m + (1 : Nat))).size fun j =>
                                  [AV.v (Value.int IntKind.u8 (sbyte (catN g (m + (1 : Nat))) j))])]))
                      (Tree.chk
                        (bif true then
                          (allBytes (catN g (m + (1 : Nat))).size fun j =>
                              [AV.v (Value.int IntKind.u8 (sbyte (catN g (m + (1 : Nat))) ((0 : Nat) + j)))]) &&
                            bif
                                decide
                                  ((textOf (catN g (m + (1 : Nat))).size fun j =>
                                      [AV.v (Value.int IntKind.u8 (sbyte (catN g (m + (1 : Nat))) ((0 : Nat) + j)))]) =
                                    catN g (m + (1 : Nat))) then
                              allBytes b.size (bsF b)
                            else true
                        else true)
                        (Tree.leaf
                          (Ans.mk
                            (AV.sb
                              (bif true then
                                bif
                                    decide
                                      ((textOf (catN g (m + (1 : Nat))).size fun j =>
                                          [AV.v
                                              (Value.int IntKind.u8
                                                (sbyte (catN g (m + (1 : Nat))) ((0 : Nat) + j)))]) =
                                        catN g (m + (1 : Nat))) then
                                  decide (textOf b.size (bsF b) = b)
                                else false
                              else false))
                            []))))))
                (Tree.chk
                  (bif true then true
                  else
                    true &&
                        decide
                          ((bif okN (↑s.size : Int) then numB (↑s.size : Int).toNat else ByteArray.mk #[]).size +
                              s.size ≤
                            (9223372036854775807 : Nat)) &&
                      decide
                        ((textOf b.size (bsF b)).size +
                            ((bif okN (↑s.size : Int) then numB (↑s.size : Int).toNat else ByteArray.mk #[]) ++
                                s).size ≤
                          (9223372036854775807 : Nat)))
                  (Tree.br
                    (bif true then true
                    else
                      !decide
                          (ByteArray.mk #[] =
                            textOf b.size (bsF b) ++
                              ((bif okN (↑s.size : Int) then numB (↑s.size : Int).toNat else ByteArray.mk #[]) ++ s)))
                    (Tree.leaf (Ans.mk (AV.v (Value.bool false)) []))
                    (Tree.chk
                      (cl
                        (LeL [AV.sl (1 : Nat) (m + (1 : Nat)) fun j => [AV.v (Value.int IntKind.i64 (g j))]]
                            [AV.sl (1 : Nat) (m + (1 : Nat)) fun j => [AV.v (Value.int IntKind.i64 (g j))]] ∧
                          LeH [] []))
                      (Tree.chk
                        (cl
                          (LeL
                              [AV.sl (1 : Nat) b.size fun j => [AV.v (Value.int IntKind.u8 (sbyte b j))],
                                AV.sl (1 : Nat) (m + (1 : Nat)) fun j => [AV.v (Value.int IntKind.i64 (g j))],
                                AV.v (Value.string (textOf b.size (bsF b))),
                                AV.hs (0 : Nat) (0 : Nat) (catN g (m + (1 : Nat))).size,
                                AV.v (Value.int IntKind.i64 (0 : Int)), AV.v (Value.string (ByteArray.mk #[])),
                                AV.v (Value.int IntKind.i64 (0 : Int)), AV.v (Value.bool false)]
                              [AV.sl (1 : Nat) b.size fun j => [AV.v (Value.int IntKind.u8 (sbyte b j))],
                                AV.sl (1 : Nat) (m + (1 : Nat)) fun j => [AV.v (Value.int IntKind.i64 (g j))],
                                AV.v (Value.string b), AV.hs (0 : Nat) (0 : Nat) (catN g (m + (1 : Nat))).size,
                                AV.v (Value.int IntKind.i64 (0 : Int)), AV.v (Value.string (ByteArray.mk #[])),
                                AV.v (Value.int IntKind.i64 (↑(0 : Nat) : Int)), AV.any] ∧
                            LeH
                              [some
                                  (Blk.arr (1 : Nat) (catN g (m + (1 : Nat))).size fun j =>
                                    [AV.v (Value.int IntKind.u8 (sbyte (catN g (m + (1 : Nat))) j))])]
                              [some
                                  (Blk.arr (1 : Nat) (catN g (m + (1 : Nat))).size fun j =>
                                    [AV.v (Value.int IntKind.u8 (sbyte (catN g (m + (1 : Nat))) j))])]))
                        (Tree.chk
                          (bif true then
                            (allBytes (catN g (m + (1 : Nat))).size fun j =>
                                [AV.v (Value.int IntKind.u8 (sbyte (catN g (m + (1 : Nat))) ((0 : Nat) + j)))]) &&
                              bif
                                  decide
                                    ((textOf (catN g (m + (1 : Nat))).size fun j =>
                                        [AV.v
                                            (Value.int IntKind.u8 (sbyte (catN g (m + (1 : Nat))) ((0 : Nat) + j)))]) =
                                      catN g (m + (1 : Nat))) then
                                allBytes b.size (bsF b)
                              else true
                          else true)
                          (Tree.leaf
                            (Ans.mk
                              (AV.sb
                                (bif true then
                                  bif
                                      decide
                                        ((textOf (catN g (m + (1 : Nat))).size fun j =>
                                            [AV.v
                                                (Value.int IntKind.u8
                                                  (sbyte (catN g (m + (1 : Nat))) ((0 : Nat) + j)))]) =
                                          catN g (m + (1 : Nat))) then
                                    decide (textOf b.size (bsF b) = b)
                                  else false
                                else false))
                              [])))))))))))))) := by kernel_rfl
theorem lawWgbsm (b : ByteArray) (s : ByteArray) (hb : (BA.sl b).ok) (n : Nat) (hn : n ≤ 4611686018427387904) (hs : 65536 < s.size) (hs2 : s.size ≤ 4611686018427387904) (m : Nat) (g : Nat → Int) (hl : (NA.sl (m + 1) g).ok) : Right (bodyE (P := Try.prog) (Γ := Γw) [c6, CT.at 7 (ansNum (BA.sl b) n hb hn), Z.c8, CT.at 9 (ansTextBad (BA.sl b) s hb rfl hs hs2), Z.c10, CT.at 11 (ansNumsS m g hl)] (fun _ => LSpec.at [0, 3, 9, 16, 17, 18, 19, 8] [] (SL (.sl 1 b.size (bsF b)) (.sl 1 (m + 1) (i64F g)) b (.hs 0 0 (catN g (m + 1)).size) 0 [some (.arr 1 (catN g (m + 1)).size (bsF (catN g (m + 1))))] ⟨#[]⟩ 0) (OLg (.sl 1 b.size (bsF b)) b (.hs 0 0 (catN g (m + 1)).size) [some (.arr 1 (catN g (m + 1)).size (bsF (catN g (m + 1))))] (catN g (m + 1)))) false 154 [.tmp 8] (bodyOf Try.f3) [.sl 1 b.size (bsF b), .v (.int .i64 (n : Int)), .v (.string s), .sl 1 (m + 1) (i64F g)] []) := by
  refine Right.of (runWgbsm b s hb n hn hs hs2 m g hl) ?_
  refine ⟨fun _ => ⟨.refl _, trivial⟩, fun h0 => ?_⟩
  obtain ⟨h1, h2, h3⟩ := guard3 h0
  clear h0
  have q1 : b.size ≤ 2000 := by have := of_decide_eq_false h1; omega
  have q2 : s.size ≤ 70000 := by have := of_decide_eq_false h2; omega
  have q3 := (numB_size hn).1
  have q4 := (numB_size (show s.size ≤ 4611686018427387904 by omega)).1
  have q5 := (catN_small (g := g) (i := m + 1) hl.1).1
  have q6 : m + 1 ≤ 500 := by have := of_decide_eq_false h3; omega
  simp [okN_of hn, okN_of (show s.size ≤ 4611686018427387904 by omega), allBytes0, textOf0, allBytesF, textOfF, textOfF2, textOfF3, le_vv, allBytes_bsF, textOf_bsF, BA.t, LeL_self, LeH_self, cl_true, Tree.sat, cl_iff, textB, le_sbv, empty_append, append_empty, ByteArray.append_assoc]
  omega
theorem runWgbsb (b : ByteArray) (s : ByteArray) (hb : (BA.sl b).ok) (n : Nat) (hn : n ≤ 4611686018427387904) (hs : 65536 < s.size) (hs2 : s.size ≤ 4611686018427387904) (m : Nat) (g : Nat → Int) (c : Nat) (hc : c < m) (hok : ∀ j, j < c → okN (g j) = true) (hbad : okN (g c) = false) (hm : m ≤ 100000) : bodyE (P := Try.prog) (Γ := Γw) [c6, CT.at 7 (ansNum (BA.sl b) n hb hn), Z.c8, CT.at 9 (ansTextBad (BA.sl b) s hb rfl hs hs2), Z.c10, CT.at 11 (ansNumsBad m g c hc hok hbad hm)] (fun _ => LSpec.at [0, 3, 9, 16, 17, 18, 19, 8] [] (SL (.sl 1 b.size (bsF b)) (.sl 1 m (i64F g)) b (.v (.slice none 0 0)) 10 [] ⟨#[]⟩ 0) OLb) false 154 [.tmp 8] (bodyOf Try.f3) [.sl 1 b.size (bsF b), .v (.int .i64 (n : Int)), .v (.string s), .sl 1 m (i64F g)] [] =
  Tree.br
  (bif decide ((2000 : Int) < (↑b.size : Int)) then true
  else bif decide ((70000 : Int) < (↑s.size : Int)) then true else decide ((500 : Int) < (↑m : Int)))
  (Tree.leaf (Ans.mk (AV.v (Value.bool true)) []))
  (Tree.chk (allBytes b.size (bsF b))
    (Tree.chk
      (cl
        (LeL
            [AV.sl (1 : Nat) b.size fun j => [AV.v (Value.int IntKind.u8 (sbyte b j))],
              AV.v (Value.int IntKind.i64 (↑n : Int))]
            [AV.sl (1 : Nat) b.size fun j => [AV.v (Value.int IntKind.u8 (sbyte b j))],
              AV.v (Value.int IntKind.i64 (↑n : Int))] ∧
          LeH [] []))
      (Tree.chk true
        (Tree.chk
          (bif okN (↑n : Int) then
            bif false then true
            else
              (allBytes ((BA.sl b).t ++ numB n).size fun j =>
                  [AV.v (Value.int IntKind.u8 (sbyte ((BA.sl b).t ++ numB n) ((0 : Nat) + j)))]) &&
                decide
                  ((textOf b.size (bsF b)).size +
                      (bif okN (↑n : Int) then numB (↑n : Int).toNat else ByteArray.mk #[]).size ≤
                    (9223372036854775807 : Nat))
          else true)
          (Tree.br
            (bif okN (↑n : Int) then
              bif false then true
              else
                bif
                    !decide
                        ((textOf ((BA.sl b).t ++ numB n).size fun j =>
                            [AV.v (Value.int IntKind.u8 (sbyte ((BA.sl b).t ++ numB n) ((0 : Nat) + j)))]) =
                          textOf b.size (bsF b) ++
                            bif okN (↑n : Int) then numB (↑n : Int).toNat else ByteArray.mk #[]) then
                  true
                else
                  bif !okN (↑n : Int) then
                    bif true then true else decide ((0 : Int) < (↑((BA.sl b).t ++ numB n).size : Int))
                  else false
            else
              bif !okN (↑n : Int) then
                bif true then true else decide ((0 : Int) < (↑((BA.sl b).t ++ numB n).size : Int))
              else false)
            (Tree.leaf (Ans.mk (AV.v (Value.bool false)) []))
            (Tree.chk
              (cl
                (LeL [AV.sl (1 : Nat) b.size fun j => [AV.v (Value.int IntKind.u8 (sbyte b j))], AV.v (Value.string s)]
                    [AV.sl (1 : Nat) b.size fun j => [AV.v (Value.int IntKind.u8 (sbyte b j))], AV.v (Value.string s)] ∧
                  LeH [] []))
              (Tree.br (decide ((65536 : Int) < (↑s.size : Int)))
                (Tree.br false (Tree.leaf (Ans.mk (AV.v (Value.bool false)) []))
                  (Tree.chk
                    (cl
                      (LeL [AV.sl (1 : Nat) m fun j => [AV.v (Value.int IntKind.i64 (g j))]]
                          [AV.sl (1 : Nat) m fun j => [AV.v (Value.int IntKind.i64 (g j))]] ∧
                        LeH [] []))
                    (Tree.chk
                      (cl
                        (LeL
                            [AV.sl (1 : Nat) b.size fun j => [AV.v (Value.int IntKind.u8 (sbyte b j))],
                              AV.sl (1 : Nat) m fun j => [AV.v (Value.int IntKind.i64 (g j))],
                              AV.v (Value.string (textOf b.size (bsF b))), AV.v (Value.slice none (0 : Nat) (0 : Nat)),
                              AV.v (Value.int IntKind.i64 (10 : Int)), AV.v (Value.string (ByteArray.mk #[])),
                              AV.v (Value.int IntKind.i64 (0 : Int)), AV.v (Value.bool false)]
                            [AV.sl (1 : Nat) b.size fun j => [AV.v (Value.int IntKind.u8 (sbyte b j))],
                              AV.sl (1 : Nat) m fun j => [AV.v (Value.int IntKind.i64 (g j))], AV.v (Value.string b),
                              AV.v (Value.slice none (0 : Nat) (0 : Nat)), AV.v (Value.int IntKind.i64 (10 : Int)),
                              AV.v (Value.string (ByteArray.mk #[])), AV.v (Value.int IntKind.i64 (↑(0 : Nat) : Int)),
                              AV.any] ∧
                          LeH [] []))
                      (Tree.leaf (Ans.mk (AV.sb true) [])))))
                (Tree.chk
                  (bif true then true
                  else
                    true &&
                        decide
                          ((bif okN (↑s.size : Int) then numB (↑s.size : Int).toNat else ByteArray.mk #[]).size +
                              s.size ≤
                            (9223372036854775807 : Nat)) &&
                      decide
                        ((textOf b.size (bsF b)).size +
                            ((bif okN (↑s.size : Int) then numB (↑s.size : Int).toNat else ByteArray.mk #[]) ++
                                s).size ≤
                          (9223372036854775807 : Nat)))
                  (Tree.br
                    (bif true then true
                    else
                      !decide
                          (ByteArray.mk #[] =
                            textOf b.size (bsF b) ++
                              ((bif okN (↑s.size : Int) then numB (↑s.size : Int).toNat else ByteArray.mk #[]) ++ s)))
                    (Tree.leaf (Ans.mk (AV.v (Value.bool false)) []))
                    (Tree.chk
                      (cl
                        (LeL [AV.sl (1 : Nat) m fun j => [AV.v (Value.int IntKind.i64 (g j))]]
                            [AV.sl (1 : Nat) m fun j => [AV.v (Value.int IntKind.i64 (g j))]] ∧
                          LeH [] []))
                      (Tree.chk
                        (cl
                          (LeL
                              [AV.sl (1 : Nat) b.size fun j => [AV.v (Value.int IntKind.u8 (sbyte b j))],
                                AV.sl (1 : Nat) m fun j => [AV.v (Value.int IntKind.i64 (g j))],
                                AV.v (Value.string (textOf b.size (bsF b))),
                                AV.v (Value.slice none (0 : Nat) (0 : Nat)), AV.v (Value.int IntKind.i64 (10 : Int)),
                                AV.v (Value.string (ByteArray.mk #[])), AV.v (Value.int IntKind.i64 (0 : Int)),
                                AV.v (Value.bool false)]
                              [AV.sl (1 : Nat) b.size fun j => [AV.v (Value.int IntKind.u8 (sbyte b j))],
                                AV.sl (1 : Nat) m fun j => [AV.v (Value.int IntKind.i64 (g j))], AV.v (Value.string b),
                                AV.v (Value.slice none (0 : Nat) (0 : Nat)), AV.v (Value.int IntKind.i64 (10 : Int)),
                                AV.v (Value.string (ByteArray.mk #[])), AV.v (Value.int IntKind.i64 (↑(0 : Nat) : Int)),
                                AV.any] ∧
                            LeH [] []))
                        (Tree.leaf (Ans.mk (AV.sb true) []))))))))))))) := by kernel_rfl
theorem lawWgbsb (b : ByteArray) (s : ByteArray) (hb : (BA.sl b).ok) (n : Nat) (hn : n ≤ 4611686018427387904) (hs : 65536 < s.size) (hs2 : s.size ≤ 4611686018427387904) (m : Nat) (g : Nat → Int) (c : Nat) (hc : c < m) (hok : ∀ j, j < c → okN (g j) = true) (hbad : okN (g c) = false) (hm : m ≤ 100000) : Right (bodyE (P := Try.prog) (Γ := Γw) [c6, CT.at 7 (ansNum (BA.sl b) n hb hn), Z.c8, CT.at 9 (ansTextBad (BA.sl b) s hb rfl hs hs2), Z.c10, CT.at 11 (ansNumsBad m g c hc hok hbad hm)] (fun _ => LSpec.at [0, 3, 9, 16, 17, 18, 19, 8] [] (SL (.sl 1 b.size (bsF b)) (.sl 1 m (i64F g)) b (.v (.slice none 0 0)) 10 [] ⟨#[]⟩ 0) OLb) false 154 [.tmp 8] (bodyOf Try.f3) [.sl 1 b.size (bsF b), .v (.int .i64 (n : Int)), .v (.string s), .sl 1 m (i64F g)] []) := by
  refine Right.of (runWgbsb b s hb n hn hs hs2 m g c hc hok hbad hm) ?_
  refine ⟨fun _ => ⟨.refl _, trivial⟩, fun h0 => ?_⟩
  obtain ⟨h1, h2, h3⟩ := guard3 h0
  clear h0
  have q1 : b.size ≤ 2000 := by have := of_decide_eq_false h1; omega
  have q2 : s.size ≤ 70000 := by have := of_decide_eq_false h2; omega
  have q3 := (numB_size hn).1
  have q4 := (numB_size (show s.size ≤ 4611686018427387904 by omega)).1
  simp [okN_of hn, okN_of (show s.size ≤ 4611686018427387904 by omega), allBytes0, textOf0, allBytesF, textOfF, textOfF2, textOfF3, le_vv, allBytes_bsF, textOf_bsF, BA.t, LeL_self, LeH_self, cl_true, Tree.sat, cl_iff, textB, le_sbv, empty_append, append_empty, ByteArray.append_assoc]
  omega
end Go.Eng.W

/- wire: the law on what is written. -/
namespace Go.Eng.W
open Go Go.Eng Go.Proofs
set_option linter.unusedSimpArgs false
set_option linter.unusedVariables false
theorem runWbgnn (s : ByteArray) (hb : BA.nil.ok) (n : Int) (hn : n < 0 ∨ 4611686018427387904 < n) (hs : s.size ≤ 65536) (hl : NA.nil.ok) : bodyE (P := Try.prog) (Γ := Γw) [c6, CT.at 7 (ansBad BA.nil n hb hn), Z.c8, CT.at 9 (ansText BA.nil s hb rfl hs), Z.c10, CT.at 11 (ansNumsN hl)] (fun _ => LSpec.at [0, 3, 9, 16, 17, 18, 19, 8] [] (SL (.v (.slice none 0 0)) (.v (.slice none 0 0)) ⟨#[]⟩ (.v (.slice none 0 0)) 0 [] ⟨#[]⟩ 0) (OLg (.v (.slice none 0 0)) ⟨#[]⟩ (.v (.slice none 0 0)) [] ⟨#[]⟩)) false 154 [.tmp 8] (bodyOf Try.f3) [.v (.slice none 0 0), .v (.int .i64 n), .v (.string s), .v (.slice none 0 0)] [] =
  Tree.br (bif false then true else bif decide ((70000 : Int) < (↑s.size : Int)) then true else false)
  (Tree.leaf (Ans.mk (AV.v (Value.bool true)) []))
  (Tree.chk
    (cl
      (LeL [AV.v (Value.slice none (0 : Nat) (0 : Nat)), AV.v (Value.int IntKind.i64 n)]
          [AV.v (Value.slice none (0 : Nat) (0 : Nat)), AV.v (Value.int IntKind.i64 n)] ∧
        LeH [] []))
    (Tree.chk true
      (Tree.chk
        (bif okN n then
          bif true then true
          else
            decide ((0 : Nat) + (bif okN n then numB n.toNat else ByteArray.mk #[]).size ≤ (9223372036854775807 : Nat))
        else true)
        (Tree.br
          (bif okN n then
            bif true then true
            else
              bif
                  !decide
                      (ByteArray.mk #[] = ByteArray.mk #[] ++ bif okN n then numB n.toNat else ByteArray.mk #[]) then
                true
              else bif !okN n then false else false
          else bif !okN n then false else false)
          (Tree.leaf (Ans.mk (AV.v (Value.bool false)) []))
          (Tree.chk
            (cl
              (LeL [AV.v (Value.slice none (0 : Nat) (0 : Nat)), AV.v (Value.string s)]
                  [AV.v (Value.slice none (0 : Nat) (0 : Nat)), AV.v (Value.string s)] ∧
                LeH [] []))
            (Tree.br (decide ((65536 : Int) < (↑s.size : Int)))
              (Tree.br (bif true then true else decide ((0 : Int) < (↑(textB BA.nil.t s).size : Int)))
                (Tree.leaf (Ans.mk (AV.v (Value.bool false)) []))
                (Tree.chk
                  (cl
                    (LeL [AV.v (Value.slice none (0 : Nat) (0 : Nat))] [AV.v (Value.slice none (0 : Nat) (0 : Nat))] ∧
                      LeH [] []))
                  (Tree.chk
                    (cl
                      (LeL
                          [AV.v (Value.slice none (0 : Nat) (0 : Nat)), AV.v (Value.slice none (0 : Nat) (0 : Nat)),
                            AV.v (Value.string (ByteArray.mk #[])), AV.v (Value.slice none (0 : Nat) (0 : Nat)),
                            AV.v (Value.int IntKind.i64 (0 : Int)), AV.v (Value.string (ByteArray.mk #[])),
                            AV.v (Value.int IntKind.i64 (0 : Int)), AV.v (Value.bool false)]
                          [AV.v (Value.slice none (0 : Nat) (0 : Nat)), AV.v (Value.slice none (0 : Nat) (0 : Nat)),
                            AV.v (Value.string (ByteArray.mk #[])), AV.v (Value.slice none (0 : Nat) (0 : Nat)),
                            AV.v (Value.int IntKind.i64 (0 : Int)), AV.v (Value.string (ByteArray.mk #[])),
                            AV.v (Value.int IntKind.i64 (↑(0 : Nat) : Int)), AV.any] ∧
                        LeH [] []))
                    (Tree.leaf (Ans.mk (AV.sb true) [])))))
              (Tree.chk
                (bif false then true
                else
                  (allBytes (textB BA.nil.t s).size fun j =>
                      [AV.v (Value.int IntKind.u8 (sbyte (textB BA.nil.t s) ((0 : Nat) + j)))]) &&
                    (true &&
                        decide
                          ((bif okN (↑s.size : Int) then numB (↑s.size : Int).toNat else ByteArray.mk #[]).size +
                              s.size ≤
                            (9223372036854775807 : Nat)) &&
                      decide
                        ((0 : Nat) +
                            ((bif okN (↑s.size : Int) then numB (↑s.size : Int).toNat else ByteArray.mk #[]) ++
                                s).size ≤
                          (9223372036854775807 : Nat))))
                (Tree.br
                  (bif false then true
                  else
                    !decide
                        ((textOf (textB BA.nil.t s).size fun j =>
                            [AV.v (Value.int IntKind.u8 (sbyte (textB BA.nil.t s) ((0 : Nat) + j)))]) =
                          ByteArray.mk #[] ++
                            ((bif okN (↑s.size : Int) then numB (↑s.size : Int).toNat else ByteArray.mk #[]) ++ s)))
                  (Tree.leaf (Ans.mk (AV.v (Value.bool false)) []))
                  (Tree.chk
                    (cl
                      (LeL [AV.v (Value.slice none (0 : Nat) (0 : Nat))] [AV.v (Value.slice none (0 : Nat) (0 : Nat))] ∧
                        LeH [] []))
                    (Tree.chk
                      (cl
                        (LeL
                            [AV.v (Value.slice none (0 : Nat) (0 : Nat)), AV.v (Value.slice none (0 : Nat) (0 : Nat)),
                              AV.v (Value.string (ByteArray.mk #[])), AV.v (Value.slice none (0 : Nat) (0 : Nat)),
                              AV.v (Value.int IntKind.i64 (0 : Int)), AV.v (Value.string (ByteArray.mk #[])),
                              AV.v (Value.int IntKind.i64 (0 : Int)), AV.v (Value.bool false)]
                            [AV.v (Value.slice none (0 : Nat) (0 : Nat)), AV.v (Value.slice none (0 : Nat) (0 : Nat)),
                              AV.v (Value.string (ByteArray.mk #[])), AV.v (Value.slice none (0 : Nat) (0 : Nat)),
                              AV.v (Value.int IntKind.i64 (0 : Int)), AV.v (Value.string (ByteArray.mk #[])),
                              AV.v (Value.int IntKind.i64 (↑(0 : Nat) : Int)), AV.any] ∧
                          LeH [] []))
                      (Tree.leaf (Ans.mk (AV.sb true) [])))))))))))) := by kernel_rfl
theorem lawWbgnn (s : ByteArray) (hb : BA.nil.ok) (n : Int) (hn : n < 0 ∨ 4611686018427387904 < n) (hs : s.size ≤ 65536) (hl : NA.nil.ok) : Right (bodyE (P := Try.prog) (Γ := Γw) [c6, CT.at 7 (ansBad BA.nil n hb hn), Z.c8, CT.at 9 (ansText BA.nil s hb rfl hs), Z.c10, CT.at 11 (ansNumsN hl)] (fun _ => LSpec.at [0, 3, 9, 16, 17, 18, 19, 8] [] (SL (.v (.slice none 0 0)) (.v (.slice none 0 0)) ⟨#[]⟩ (.v (.slice none 0 0)) 0 [] ⟨#[]⟩ 0) (OLg (.v (.slice none 0 0)) ⟨#[]⟩ (.v (.slice none 0 0)) [] ⟨#[]⟩)) false 154 [.tmp 8] (bodyOf Try.f3) [.v (.slice none 0 0), .v (.int .i64 n), .v (.string s), .v (.slice none 0 0)] []) := by
  refine Right.of (runWbgnn s hb n hn hs hl) ?_
  refine ⟨fun _ => ⟨.refl _, trivial⟩, fun h0 => ?_⟩
  obtain ⟨h1, h2, h3⟩ := guard3 h0
  clear h0
  have q2 : s.size ≤ 70000 := by have := of_decide_eq_false h2; omega
  have q4 := (numB_size (show s.size ≤ 4611686018427387904 by omega)).1
  simp [okN_not hn, okN_of (show s.size ≤ 4611686018427387904 by omega), allBytes0, textOf0, allBytesF, textOfF, textOfF2, textOfF3, le_vv, allBytes_bsF, textOf_bsF, BA.t, LeL_self, LeH_self, cl_true, Tree.sat, cl_iff, textB, le_sbv, empty_append, append_empty, ByteArray.append_assoc]
  omega
theorem runWbgn0 (s : ByteArray) (hb : BA.nil.ok) (n : Int) (hn : n < 0 ∨ 4611686018427387904 < n) (hs : s.size ≤ 65536) (g : Nat → Int) (hl : (NA.sl 0 g).ok) : bodyE (P := Try.prog) (Γ := Γw) [c6, CT.at 7 (ansBad BA.nil n hb hn), Z.c8, CT.at 9 (ansText BA.nil s hb rfl hs), Z.c10, CT.at 11 (ansNums0 g hl)] (fun _ => LSpec.at [0, 3, 9, 16, 17, 18, 19, 8] [] (SL (.v (.slice none 0 0)) (.sl 1 0 (i64F g)) ⟨#[]⟩ (.v (.slice none 0 0)) 0 [] ⟨#[]⟩ 0) (OLg (.v (.slice none 0 0)) ⟨#[]⟩ (.v (.slice none 0 0)) [] ⟨#[]⟩)) false 154 [.tmp 8] (bodyOf Try.f3) [.v (.slice none 0 0), .v (.int .i64 n), .v (.string s), .sl 1 0 (i64F g)] [] =
  Tree.br (bif false then true else bif decide ((70000 : Int) < (↑s.size : Int)) then true else false)
  (Tree.leaf (Ans.mk (AV.v (Value.bool true)) []))
  (Tree.chk
    (cl
      (LeL [AV.v (Value.slice none (0 : Nat) (0 : Nat)), AV.v (Value.int IntKind.i64 n)]
          [AV.v (Value.slice none (0 : Nat) (0 : Nat)), AV.v (Value.int IntKind.i64 n)] ∧
        LeH [] []))
    (Tree.chk true
      (Tree.chk
        (bif okN n then
          bif true then true
          else
            decide ((0 : Nat) + (bif okN n then numB n.toNat else ByteArray.mk #[]).size ≤ (9223372036854775807 : Nat))
        else true)
        (Tree.br
          (bif okN n then
            bif true then true
            else
              bif
                  !decide
                      (ByteArray.mk #[] = ByteArray.mk #[] ++ bif okN n then numB n.toNat else ByteArray.mk #[]) then
                true
              else bif !okN n then false else false
          else bif !okN n then false else false)
          (Tree.leaf (Ans.mk (AV.v (Value.bool false)) []))
          (Tree.chk
            (cl
              (LeL [AV.v (Value.slice none (0 : Nat) (0 : Nat)), AV.v (Value.string s)]
                  [AV.v (Value.slice none (0 : Nat) (0 : Nat)), AV.v (Value.string s)] ∧
                LeH [] []))
            (Tree.br (decide ((65536 : Int) < (↑s.size : Int)))
              (Tree.br (bif true then true else decide ((0 : Int) < (↑(textB BA.nil.t s).size : Int)))
                (Tree.leaf (Ans.mk (AV.v (Value.bool false)) []))
                (Tree.chk
                  (cl
                    (LeL [AV.sl (1 : Nat) (0 : Nat) fun j => [AV.v (Value.int IntKind.i64 (g j))]]
                        [AV.sl (1 : Nat) (0 : Nat) fun j => [AV.v (Value.int IntKind.i64 (g j))]] ∧
                      LeH [] []))
                  (Tree.chk
                    (cl
                      (LeL
                          [AV.v (Value.slice none (0 : Nat) (0 : Nat)),
                            AV.sl (1 : Nat) (0 : Nat) fun j => [AV.v (Value.int IntKind.i64 (g j))],
                            AV.v (Value.string (ByteArray.mk #[])), AV.v (Value.slice none (0 : Nat) (0 : Nat)),
                            AV.v (Value.int IntKind.i64 (0 : Int)), AV.v (Value.string (ByteArray.mk #[])),
                            AV.v (Value.int IntKind.i64 (0 : Int)), AV.v (Value.bool false)]
                          [AV.v (Value.slice none (0 : Nat) (0 : Nat)),
                            AV.sl (1 : Nat) (0 : Nat) fun j => [AV.v (Value.int IntKind.i64 (g j))],
                            AV.v (Value.string (ByteArray.mk #[])), AV.v (Value.slice none (0 : Nat) (0 : Nat)),
                            AV.v (Value.int IntKind.i64 (0 : Int)), AV.v (Value.string (ByteArray.mk #[])),
                            AV.v (Value.int IntKind.i64 (↑(0 : Nat) : Int)), AV.any] ∧
                        LeH [] []))
                    (Tree.leaf (Ans.mk (AV.sb true) [])))))
              (Tree.chk
                (bif false then true
                else
                  (allBytes (textB BA.nil.t s).size fun j =>
                      [AV.v (Value.int IntKind.u8 (sbyte (textB BA.nil.t s) ((0 : Nat) + j)))]) &&
                    (true &&
                        decide
                          ((bif okN (↑s.size : Int) then numB (↑s.size : Int).toNat else ByteArray.mk #[]).size +
                              s.size ≤
                            (9223372036854775807 : Nat)) &&
                      decide
                        ((0 : Nat) +
                            ((bif okN (↑s.size : Int) then numB (↑s.size : Int).toNat else ByteArray.mk #[]) ++
                                s).size ≤
                          (9223372036854775807 : Nat))))
                (Tree.br
                  (bif false then true
                  else
                    !decide
                        ((textOf (textB BA.nil.t s).size fun j =>
                            [AV.v (Value.int IntKind.u8 (sbyte (textB BA.nil.t s) ((0 : Nat) + j)))]) =
                          ByteArray.mk #[] ++
                            ((bif okN (↑s.size : Int) then numB (↑s.size : Int).toNat else ByteArray.mk #[]) ++ s)))
                  (Tree.leaf (Ans.mk (AV.v (Value.bool false)) []))
                  (Tree.chk
                    (cl
                      (LeL [AV.sl (1 : Nat) (0 : Nat) fun j => [AV.v (Value.int IntKind.i64 (g j))]]
                          [AV.sl (1 : Nat) (0 : Nat) fun j => [AV.v (Value.int IntKind.i64 (g j))]] ∧
                        LeH [] []))
                    (Tree.chk
                      (cl
                        (LeL
                            [AV.v (Value.slice none (0 : Nat) (0 : Nat)),
                              AV.sl (1 : Nat) (0 : Nat) fun j => [AV.v (Value.int IntKind.i64 (g j))],
                              AV.v (Value.string (ByteArray.mk #[])), AV.v (Value.slice none (0 : Nat) (0 : Nat)),
                              AV.v (Value.int IntKind.i64 (0 : Int)), AV.v (Value.string (ByteArray.mk #[])),
                              AV.v (Value.int IntKind.i64 (0 : Int)), AV.v (Value.bool false)]
                            [AV.v (Value.slice none (0 : Nat) (0 : Nat)),
                              AV.sl (1 : Nat) (0 : Nat) fun j => [AV.v (Value.int IntKind.i64 (g j))],
                              AV.v (Value.string (ByteArray.mk #[])), AV.v (Value.slice none (0 : Nat) (0 : Nat)),
                              AV.v (Value.int IntKind.i64 (0 : Int)), AV.v (Value.string (ByteArray.mk #[])),
                              AV.v (Value.int IntKind.i64 (↑(0 : Nat) : Int)), AV.any] ∧
                          LeH [] []))
                      (Tree.leaf (Ans.mk (AV.sb true) [])))))))))))) := by kernel_rfl
theorem lawWbgn0 (s : ByteArray) (hb : BA.nil.ok) (n : Int) (hn : n < 0 ∨ 4611686018427387904 < n) (hs : s.size ≤ 65536) (g : Nat → Int) (hl : (NA.sl 0 g).ok) : Right (bodyE (P := Try.prog) (Γ := Γw) [c6, CT.at 7 (ansBad BA.nil n hb hn), Z.c8, CT.at 9 (ansText BA.nil s hb rfl hs), Z.c10, CT.at 11 (ansNums0 g hl)] (fun _ => LSpec.at [0, 3, 9, 16, 17, 18, 19, 8] [] (SL (.v (.slice none 0 0)) (.sl 1 0 (i64F g)) ⟨#[]⟩ (.v (.slice none 0 0)) 0 [] ⟨#[]⟩ 0) (OLg (.v (.slice none 0 0)) ⟨#[]⟩ (.v (.slice none 0 0)) [] ⟨#[]⟩)) false 154 [.tmp 8] (bodyOf Try.f3) [.v (.slice none 0 0), .v (.int .i64 n), .v (.string s), .sl 1 0 (i64F g)] []) := by
  refine Right.of (runWbgn0 s hb n hn hs g hl) ?_
  refine ⟨fun _ => ⟨.refl _, trivial⟩, fun h0 => ?_⟩
  obtain ⟨h1, h2, h3⟩ := guard3 h0
  clear h0
  have q2 : s.size ≤ 70000 := by have := of_decide_eq_false h2; omega
  have q4 := (numB_size (show s.size ≤ 4611686018427387904 by omega)).1
  simp [okN_not hn, okN_of (show s.size ≤ 4611686018427387904 by omega), allBytes0, textOf0, allBytesF, textOfF, textOfF2, textOfF3, le_vv, allBytes_bsF, textOf_bsF, BA.t, LeL_self, LeH_self, cl_true, Tree.sat, cl_iff, textB, le_sbv, empty_append, append_empty, ByteArray.append_assoc]
  omega
theorem runWbgnm (s : ByteArray) (hb : BA.nil.ok) (n : Int) (hn : n < 0 ∨ 4611686018427387904 < n) (hs : s.size ≤ 65536) (m : Nat) (g : Nat → Int) (hl : (NA.sl (m + 1) g).ok) : bodyE (P := Try.prog) (Γ := Γw) [c6, CT.at 7 (ansBad BA.nil n hb hn), Z.c8, CT.at 9 (ansText BA.nil s hb rfl hs), Z.c10, CT.at 11 (ansNumsS m g hl)] (fun _ => LSpec.at [0, 3, 9, 16, 17, 18, 19, 8] [] (SL (.v (.slice none 0 0)) (.sl 1 (m + 1) (i64F g)) ⟨#[]⟩ (.hs 0 0 (catN g (m + 1)).size) 0 [some (.arr 1 (catN g (m + 1)).size (bsF (catN g (m + 1))))] ⟨#[]⟩ 0) (OLg (.v (.slice none 0 0)) ⟨#[]⟩ (.hs 0 0 (catN g (m + 1)).size) [some (.arr 1 (catN g (m + 1)).size (bsF (catN g (m + 1))))] (catN g (m + 1)))) false 154 [.tmp 8] (bodyOf Try.f3) [.v (.slice none 0 0), .v (.int .i64 n), .v (.string s), .sl 1 (m + 1) (i64F g)] [] =
  Tree.br
  (bif false then true
  else bif decide ((70000 : Int) < (↑s.size : Int)) then true else decide ((500 : Int) < (↑(m + (1 : Nat)) : Int)))
  (Tree.leaf (Ans.mk (AV.v (Value.bool true)) []))
  (Tree.chk
    (cl
      (LeL [AV.v (Value.slice none (0 : Nat) (0 : Nat)), AV.v (Value.int IntKind.i64 n)]
          [AV.v (Value.slice none (0 : Nat) (0 : Nat)), AV.v (Value.int IntKind.i64 n)] ∧
        LeH [] []))
    (Tree.chk true
      (Tree.chk
        (bif okN n then
          bif true then true
          else
            decide ((0 : Nat) + (bif okN n then numB n.toNat else ByteArray.mk #[]).size ≤ (9223372036854775807 : Nat))
        else true)
        (Tree.br
          (bif okN n then
            bif true then true
            else
              bif
                  !decide
                      (ByteArray.mk #[] = ByteArray.mk #[] ++ bif okN n then numB n.toNat else ByteArray.mk #[]) then
                true
              else bif !okN n then false else false
          else bif !okN n then false else false)
          (Tree.leaf (Ans.mk (AV.v (Value.bool false)) []))
          (Tree.chk
            (cl
              (LeL [AV.v (Value.slice none (0 : Nat) (0 : Nat)), AV.v (Value.string s)]
                  [AV.v (Value.slice none (0 : Nat) (0 : Nat)), AV.v (Value.string s)] ∧
                LeH [] []))
            (Tree.br (decide ((65536 : Int) < (↑s.size : Int)))
              (Tree.br (bif true then true else decide ((0 : Int) < (↑(textB BA.nil.t s).size : Int)))
                (Tree.leaf (Ans.mk (AV.v (Value.bool false)) []))
                (Tree.chk
                  (cl
                    (LeL [AV.sl (1 : Nat) (m + (1 : Nat)) fun j => [AV.v (Value.int IntKind.i64 (g j))]]
                        [AV.sl (1 : Nat) (m + (1 : Nat)) fun j => [AV.v (Value.int IntKind.i64 (g j))]] ∧
                      LeH [] []))
                  (Tree.chk
                    (cl
                      (LeL
                          [AV.v (Value.slice none (0 : Nat) (0 : Nat)),
                            AV.sl (1 : Nat) (m + (1 : Nat)) fun j => [AV.v (Value.int IntKind.i64 (g j))],
                            AV.v (Value.string (ByteArray.mk #[])),
                            AV.hs (0 : Nat) (0 : Nat) (catN g (m + (1 : Nat))).size,
                            AV.v (Value.int IntKind.i64 (0 : Int)), AV.v (Value.string (ByteArray.mk #[])),
                            AV.v (Value.int IntKind.i64 (0 : Int)), AV.v (Value.bool false)]
                          [AV.v (Value.slice none (0 : Nat) (0 : Nat)),
                            AV.sl (1 : Nat) (m + (1 : Nat)) fun j => [AV.v (Value.int IntKind.i64 (g j))],
                            AV.v (Value.string (ByteArray.mk #[])),
                            AV.hs (0 : Nat) (0 : Nat) (catN g (m + (1 : Nat))).size,
                            AV.v (Value.int IntKind.i64 (0 : Int)), AV.v (Value.string (ByteArray.mk #[])),
                            AV.v (Value.int IntKind.i64 (↑(0 : Nat) : Int)), AV.any] ∧
                        LeH
                          [some
                              (Blk.arr (1 : Nat) (catN g (m + (1 : Nat))).size fun j =>
                                [AV.v (Value.int IntKind.u8 (sbyte (catN g (m + (1 : Nat))) j))])]
                          [some
                              (Blk.arr (1 : Nat) (catN g (m + (1 : Nat))).size fun j =>
                                [AV.v (Value.int IntKind.u8 (sbyte (catN g (m + (1 : Nat))) j))])]))
                    (Tree.chk
                      (bif true then
                        allBytes (catN g (m + (1 : Nat))).size fun j =>
                          [AV.v (Value.int IntKind.u8 (sbyte (catN g (m + (1 : Nat))) ((0 : Nat) + j)))]
                      else true)
                      (Tree.leaf
                        (Ans.mk
                          (AV.sb
                            (bif true then
                              bif
                                  decide
                                    ((textOf (catN g (m + (1 : Nat))).size fun j =>
                                        [AV.v
                                            (Value.int IntKind.u8 (sbyte (catN g (m + (1 : Nat))) ((0 : Nat) + j)))]) =
                                      catN g (m + (1 : Nat))) then
                                true
                              else false
                            else false))
                          []))))))
              (Tree.chk
                (bif false then true
                else
                  (allBytes (textB BA.nil.t s).size fun j =>
                      [AV.v (Value.int IntKind.u8 (sbyte (textB BA.nil.t s) ((0 : Nat) + j)))]) &&
                    (true &&
                        decide
                          ((bif okN (↑s.size : Int) then numB (↑s.size : Int).toNat else ByteArray.mk #[]).size +
                              s.size ≤
                            (9223372036854775807 : Nat)) &&
                      decide
                        ((0 : Nat) +
                            ((bif okN (↑s.size : Int) then numB (↑s.size : Int).toNat else ByteArray.mk #[]) ++
                                s).size ≤
                          (9223372036854775807 : Nat))))
                (Tree.br
                  (bif false then true
                  else
                    !decide
                        ((textOf (textB BA.nil.t s).size fun j =>
                            [AV.v (Value.int IntKind.u8 (sbyte (textB BA.nil.t s) ((0 : Nat) + j)))]) =
                          ByteArray.mk #[] ++
                            ((bif okN (↑s.size : Int) then numB (↑s.size : Int).toNat else ByteArray.mk #[]) ++ s)))
                  (Tree.leaf (Ans.mk (AV.v (Value.bool false)) []))
                  (Tree.chk
                    (cl
                      (LeL [AV.sl (1 : Nat) (m + (1 : Nat)) fun j => [AV.v (Value.int IntKind.i64 (g j))]]
                          [AV.sl (1 : Nat) (m + (1 : Nat)) fun j => [AV.v (Value.int IntKind.i64 (g j))]] ∧
                        LeH [] []))
                    (Tree.chk
                      (cl
                        (LeL
                            [AV.v (Value.slice none (0 : Nat) (0 : Nat)),
                              AV.sl (1 : Nat) (m + (1 : Nat)) fun j => [AV.v (Value.int IntKind.i64 (g j))],
                              AV.v (Value.string (ByteArray.mk #[])),
                              AV.hs (0 : Nat) (0 : Nat) (catN g (m + (1 : Nat))).size,
                              AV.v (Value.int IntKind.i64 (0 : Int)), AV.v (Value.string (ByteArray.mk #[])),
                              AV.v (Value.int IntKind.i64 (0 : Int)), AV.v (Value.bool false)]
                            [AV.v (Value.slice none (0 : Nat) (0 : Nat)),
                              AV.sl (1 : Nat) (m + (1 : Nat)) fun j => [AV.v (Value.int IntKind.i64 (g j))],
                              AV.v (Value.string (ByteArray.mk #[])),
                              AV.hs (0 : Nat) (0 : Nat) (catN g (m + (1 : Nat))).size,
                              AV.v (Value.int IntKind.i64 (0 : Int)), AV.v (Value.string (ByteArray.mk #[])),
                              AV.v (Value.int IntKind.i64 (↑(0 : Nat) : Int)), AV.any] ∧
                          LeH
                            [some
                                (Blk.arr (1 : Nat) (catN g (m + (1 : Nat))).size fun j =>
                                  [AV.v (Value.int IntKind.u8 (sbyte (catN g (m + (1 : Nat))) j))])]
                            [some
                                (Blk.arr (1 : Nat) (catN g (m + (1 : Nat))).size fun j =>
                                  [AV.v (Value.int IntKind.u8 (sbyte (catN g (m + (1 : Nat))) j))])]))
                      (Tree.chk
                        (bif true then
                          allBytes (catN g (m + (1 : Nat))).size fun j =>
                            [AV.v (Value.int IntKind.u8 (sbyte (catN g (m + (1 : Nat))) ((0 : Nat) + j)))]
                        else true)
                        (Tree.leaf
                          (Ans.mk
                            (AV.sb
                              (bif true then
                                bif
                                    decide
                                      ((textOf (catN g (m + (1 : Nat))).size fun j =>
                                          [AV.v
                                              (Value.int IntKind.u8
                                                (sbyte (catN g (m + (1 : Nat))) ((0 : Nat) + j)))]) =
                                        catN g (m + (1 : Nat))) then
                                  true
                                else false
                              else false))
                            []))))))))))))) := by kernel_rfl
theorem lawWbgnm (s : ByteArray) (hb : BA.nil.ok) (n : Int) (hn : n < 0 ∨ 4611686018427387904 < n) (hs : s.size ≤ 65536) (m : Nat) (g : Nat → Int) (hl : (NA.sl (m + 1) g).ok) : Right (bodyE (P := Try.prog) (Γ := Γw) [c6, CT.at 7 (ansBad BA.nil n hb hn), Z.c8, CT.at 9 (ansText BA.nil s hb rfl hs), Z.c10, CT.at 11 (ansNumsS m g hl)] (fun _ => LSpec.at [0, 3, 9, 16, 17, 18, 19, 8] [] (SL (.v (.slice none 0 0)) (.sl 1 (m + 1) (i64F g)) ⟨#[]⟩ (.hs 0 0 (catN g (m + 1)).size) 0 [some (.arr 1 (catN g (m + 1)).size (bsF (catN g (m + 1))))] ⟨#[]⟩ 0) (OLg (.v (.slice none 0 0)) ⟨#[]⟩ (.hs 0 0 (catN g (m + 1)).size) [some (.arr 1 (catN g (m + 1)).size (bsF (catN g (m + 1))))] (catN g (m + 1)))) false 154 [.tmp 8] (bodyOf Try.f3) [.v (.slice none 0 0), .v (.int .i64 n), .v (.string s), .sl 1 (m + 1) (i64F g)] []) := by
  refine Right.of (runWbgnm s hb n hn hs m g hl) ?_
  refine ⟨fun _ => ⟨.refl _, trivial⟩, fun h0 => ?_⟩
  obtain ⟨h1, h2, h3⟩ := guard3 h0
  clear h0
  have q2 : s.size ≤ 70000 := by have := of_decide_eq_false h2; omega
  have q4 := (numB_size (show s.size ≤ 4611686018427387904 by omega)).1
  have q5 := (catN_small (g := g) (i := m + 1) hl.1).1
  have q6 : m + 1 ≤ 500 := by have := of_decide_eq_false h3; omega
  simp [okN_not hn, okN_of (show s.size ≤ 4611686018427387904 by omega), allBytes0, textOf0, allBytesF, textOfF, textOfF2, textOfF3, le_vv, allBytes_bsF, textOf_bsF, BA.t, LeL_self, LeH_self, cl_true, Tree.sat, cl_iff, textB, le_sbv, empty_append, append_empty, ByteArray.append_assoc]
  omega
theorem runWbgnb (s : ByteArray) (hb : BA.nil.ok) (n : Int) (hn : n < 0 ∨ 4611686018427387904 < n) (hs : s.size ≤ 65536) (m : Nat) (g : Nat → Int) (c : Nat) (hc : c < m) (hok : ∀ j, j < c → okN (g j) = true) (hbad : okN (g c) = false) (hm : m ≤ 100000) : bodyE (P := Try.prog) (Γ := Γw) [c6, CT.at 7 (ansBad BA.nil n hb hn), Z.c8, CT.at 9 (ansText BA.nil s hb rfl hs), Z.c10, CT.at 11 (ansNumsBad m g c hc hok hbad hm)] (fun _ => LSpec.at [0, 3, 9, 16, 17, 18, 19, 8] [] (SL (.v (.slice none 0 0)) (.sl 1 m (i64F g)) ⟨#[]⟩ (.v (.slice none 0 0)) 10 [] ⟨#[]⟩ 0) OLb) false 154 [.tmp 8] (bodyOf Try.f3) [.v (.slice none 0 0), .v (.int .i64 n), .v (.string s), .sl 1 m (i64F g)] [] =
  Tree.br
  (bif false then true
  else bif decide ((70000 : Int) < (↑s.size : Int)) then true else decide ((500 : Int) < (↑m : Int)))
  (Tree.leaf (Ans.mk (AV.v (Value.bool true)) []))
  (Tree.chk
    (cl
      (LeL [AV.v (Value.slice none (0 : Nat) (0 : Nat)), AV.v (Value.int IntKind.i64 n)]
          [AV.v (Value.slice none (0 : Nat) (0 : Nat)), AV.v (Value.int IntKind.i64 n)] ∧
        LeH [] []))
    (Tree.chk true
      (Tree.chk
        (bif okN n then
          bif true then true
          else
            decide ((0 : Nat) + (bif okN n then numB n.toNat else ByteArray.mk #[]).size ≤ (9223372036854775807 : Nat))
        else true)
        (Tree.br
          (bif okN n then
            bif true then true
            else
              bif
                  !decide
                      (ByteArray.mk #[] = ByteArray.mk #[] ++ bif okN n then numB n.toNat else ByteArray.mk #[]) then
                true
              else bif !okN n then false else false
          else bif !okN n then false else false)
          (Tree.leaf (Ans.mk (AV.v (Value.bool false)) []))
          (Tree.chk
            (cl
              (LeL [AV.v (Value.slice none (0 : Nat) (0 : Nat)), AV.v (Value.string s)]
                  [AV.v (Value.slice none (0 : Nat) (0 : Nat)), AV.v (Value.string s)] ∧
                LeH [] []))
            (Tree.br (decide ((65536 : Int) < (↑s.size : Int)))
              (Tree.br (bif true then true else decide ((0 : Int) < (↑(textB BA.nil.t s).size : Int)))
                (Tree.leaf (Ans.mk (AV.v (Value.bool false)) []))
                (Tree.chk
                  (cl
                    (LeL [AV.sl (1 : Nat) m fun j => [AV.v (Value.int IntKind.i64 (g j))]]
                        [AV.sl (1 : Nat) m fun j => [AV.v (Value.int IntKind.i64 (g j))]] ∧
                      LeH [] []))
                  (Tree.chk
                    (cl
                      (LeL
                          [AV.v (Value.slice none (0 : Nat) (0 : Nat)),
                            AV.sl (1 : Nat) m fun j => [AV.v (Value.int IntKind.i64 (g j))],
                            AV.v (Value.string (ByteArray.mk #[])), AV.v (Value.slice none (0 : Nat) (0 : Nat)),
                            AV.v (Value.int IntKind.i64 (10 : Int)), AV.v (Value.string (ByteArray.mk #[])),
                            AV.v (Value.int IntKind.i64 (0 : Int)), AV.v (Value.bool false)]
                          [AV.v (Value.slice none (0 : Nat) (0 : Nat)),
                            AV.sl (1 : Nat) m fun j => [AV.v (Value.int IntKind.i64 (g j))],
                            AV.v (Value.string (ByteArray.mk #[])), AV.v (Value.slice none (0 : Nat) (0 : Nat)),
                            AV.v (Value.int IntKind.i64 (10 : Int)), AV.v (Value.string (ByteArray.mk #[])),
                            AV.v (Value.int IntKind.i64 (↑(0 : Nat) : Int)), AV.any] ∧
                        LeH [] []))
                    (Tree.leaf (Ans.mk (AV.sb true) [])))))
              (Tree.chk
                (bif false then true
                else
                  (allBytes (textB BA.nil.t s).size fun j =>
                      [AV.v (Value.int IntKind.u8 (sbyte (textB BA.nil.t s) ((0 : Nat) + j)))]) &&
                    (true &&
                        decide
                          ((bif okN (↑s.size : Int) then numB (↑s.size : Int).toNat else ByteArray.mk #[]).size +
                              s.size ≤
                            (9223372036854775807 : Nat)) &&
                      decide
                        ((0 : Nat) +
                            ((bif okN (↑s.size : Int) then numB (↑s.size : Int).toNat else ByteArray.mk #[]) ++
                                s).size ≤
                          (9223372036854775807 : Nat))))
                (Tree.br
                  (bif false then true
                  else
                    !decide
                        ((textOf (textB BA.nil.t s).size fun j =>
                            [AV.v (Value.int IntKind.u8 (sbyte (textB BA.nil.t s) ((0 : Nat) + j)))]) =
                          ByteArray.mk #[] ++
                            ((bif okN (↑s.size : Int) then numB (↑s.size : Int).toNat else ByteArray.mk #[]) ++ s)))
                  (Tree.leaf (Ans.mk (AV.v (Value.bool false)) []))
                  (Tree.chk
                    (cl
                      (LeL [AV.sl (1 : Nat) m fun j => [AV.v (Value.int IntKind.i64 (g j))]]
                          [AV.sl (1 : Nat) m fun j => [AV.v (Value.int IntKind.i64 (g j))]] ∧
                        LeH [] []))
                    (Tree.chk
                      (cl
                        (LeL
                            [AV.v (Value.slice none (0 : Nat) (0 : Nat)),
                              AV.sl (1 : Nat) m fun j => [AV.v (Value.int IntKind.i64 (g j))],
                              AV.v (Value.string (ByteArray.mk #[])), AV.v (Value.slice none (0 : Nat) (0 : Nat)),
                              AV.v (Value.int IntKind.i64 (10 : Int)), AV.v (Value.string (ByteArray.mk #[])),
                              AV.v (Value.int IntKind.i64 (0 : Int)), AV.v (Value.bool false)]
                            [AV.v (Value.slice none (0 : Nat) (0 : Nat)),
                              AV.sl (1 : Nat) m fun j => [AV.v (Value.int IntKind.i64 (g j))],
                              AV.v (Value.string (ByteArray.mk #[])), AV.v (Value.slice none (0 : Nat) (0 : Nat)),
                              AV.v (Value.int IntKind.i64 (10 : Int)), AV.v (Value.string (ByteArray.mk #[])),
                              AV.v (Value.int IntKind.i64 (↑(0 : Nat) : Int)), AV.any] ∧
                          LeH [] []))
                      (Tree.leaf (Ans.mk (AV.sb true) [])))))))))))) := by kernel_rfl
theorem lawWbgnb (s : ByteArray) (hb : BA.nil.ok) (n : Int) (hn : n < 0 ∨ 4611686018427387904 < n) (hs : s.size ≤ 65536) (m : Nat) (g : Nat → Int) (c : Nat) (hc : c < m) (hok : ∀ j, j < c → okN (g j) = true) (hbad : okN (g c) = false) (hm : m ≤ 100000) : Right (bodyE (P := Try.prog) (Γ := Γw) [c6, CT.at 7 (ansBad BA.nil n hb hn), Z.c8, CT.at 9 (ansText BA.nil s hb rfl hs), Z.c10, CT.at 11 (ansNumsBad m g c hc hok hbad hm)] (fun _ => LSpec.at [0, 3, 9, 16, 17, 18, 19, 8] [] (SL (.v (.slice none 0 0)) (.sl 1 m (i64F g)) ⟨#[]⟩ (.v (.slice none 0 0)) 10 [] ⟨#[]⟩ 0) OLb) false 154 [.tmp 8] (bodyOf Try.f3) [.v (.slice none 0 0), .v (.int .i64 n), .v (.string s), .sl 1 m (i64F g)] []) := by
  refine Right.of (runWbgnb s hb n hn hs m g c hc hok hbad hm) ?_
  refine ⟨fun _ => ⟨.refl _, trivial⟩, fun h0 => ?_⟩
  obtain ⟨h1, h2, h3⟩ := guard3 h0
  clear h0
  have q2 : s.size ≤ 70000 := by have := of_decide_eq_false h2; omega
  have q4 := (numB_size (show s.size ≤ 4611686018427387904 by omega)).1
  simp [okN_not hn, okN_of (show s.size ≤ 4611686018427387904 by omega), allBytes0, textOf0, allBytesF, textOfF, textOfF2, textOfF3, le_vv, allBytes_bsF, textOf_bsF, BA.t, LeL_self, LeH_self, cl_true, Tree.sat, cl_iff, textB, le_sbv, empty_append, append_empty, ByteArray.append_assoc]
  omega
theorem runWbgsn (b : ByteArray) (s : ByteArray) (hb : (BA.sl b).ok) (n : Int) (hn : n < 0 ∨ 4611686018427387904 < n) (hs : s.size ≤ 65536) (hl : NA.nil.ok) : bodyE (P := Try.prog) (Γ := Γw) [c6, CT.at 7 (ansBad (BA.sl b) n hb hn), Z.c8, CT.at 9 (ansText (BA.sl b) s hb rfl hs), Z.c10, CT.at 11 (ansNumsN hl)] (fun _ => LSpec.at [0, 3, 9, 16, 17, 18, 19, 8] [] (SL (.sl 1 b.size (bsF b)) (.v (.slice none 0 0)) b (.v (.slice none 0 0)) 0 [] ⟨#[]⟩ 0) (OLg (.sl 1 b.size (bsF b)) b (.v (.slice none 0 0)) [] ⟨#[]⟩)) false 154 [.tmp 8] (bodyOf Try.f3) [.sl 1 b.size (bsF b), .v (.int .i64 n), .v (.string s), .v (.slice none 0 0)] [] =
  Tree.br
  (bif decide ((2000 : Int) < (↑b.size : Int)) then true
  else bif decide ((70000 : Int) < (↑s.size : Int)) then true else false)
  (Tree.leaf (Ans.mk (AV.v (Value.bool true)) []))
  (Tree.chk (allBytes b.size (bsF b))
    (Tree.chk
      (cl
        (LeL [AV.sl (1 : Nat) b.size fun j => [AV.v (Value.int IntKind.u8 (sbyte b j))], AV.v (Value.int IntKind.i64 n)]
            [AV.sl (1 : Nat) b.size fun j => [AV.v (Value.int IntKind.u8 (sbyte b j))],
              AV.v (Value.int IntKind.i64 n)] ∧
          LeH [] []))
      (Tree.chk true
        (Tree.chk
          (bif okN n then
            bif true then true
            else
              decide
                ((textOf b.size (bsF b)).size + (bif okN n then numB n.toNat else ByteArray.mk #[]).size ≤
                  (9223372036854775807 : Nat))
          else true)
          (Tree.br
            (bif okN n then
              bif true then true
              else
                bif
                    !decide
                        (ByteArray.mk #[] =
                          textOf b.size (bsF b) ++ bif okN n then numB n.toNat else ByteArray.mk #[]) then
                  true
                else bif !okN n then false else false
            else bif !okN n then false else false)
            (Tree.leaf (Ans.mk (AV.v (Value.bool false)) []))
            (Tree.chk
              (cl
                (LeL [AV.sl (1 : Nat) b.size fun j => [AV.v (Value.int IntKind.u8 (sbyte b j))], AV.v (Value.string s)]
                    [AV.sl (1 : Nat) b.size fun j => [AV.v (Value.int IntKind.u8 (sbyte b j))], AV.v (Value.string s)] ∧
                  LeH [] []))
              (Tree.br (decide ((65536 : Int) < (↑s.size : Int)))
                (Tree.br (bif true then true else decide ((0 : Int) < (↑(textB (BA.sl b).t s).size : Int)))
                  (Tree.leaf (Ans.mk (AV.v (Value.bool false)) []))
                  (Tree.chk
                    (cl
                      (LeL [AV.v (Value.slice none (0 : Nat) (0 : Nat))] [AV.v (Value.slice none (0 : Nat) (0 : Nat))] ∧
                        LeH [] []))
                    (Tree.chk
                      (cl
                        (LeL
                            [AV.sl (1 : Nat) b.size fun j => [AV.v (Value.int IntKind.u8 (sbyte b j))],
                              AV.v (Value.slice none (0 : Nat) (0 : Nat)), AV.v (Value.string (textOf b.size (bsF b))),
                              AV.v (Value.slice none (0 : Nat) (0 : Nat)), AV.v (Value.int IntKind.i64 (0 : Int)),
                              AV.v (Value.string (ByteArray.mk #[])), AV.v (Value.int IntKind.i64 (0 : Int)),
                              AV.v (Value.bool false)]
                            [AV.sl (1 : Nat) b.size fun j => [AV.v (Value.int IntKind.u8 (sbyte b j))],
                              AV.v (Value.slice none (0 : Nat) (0 : Nat)), AV.v (Value.string b),
                              AV.v (Value.slice none (0 : Nat) (0 : Nat)), AV.v (Value.int IntKind.i64 (0 : Int)),
                              AV.v (Value.string (ByteArray.mk #[])), AV.v (Value.int IntKind.i64 (↑(0 : Nat) : Int)),
                              AV.any] ∧
                          LeH [] []))
                      (Tree.chk (bif true then bif true then allBytes b.size (bsF b) else true else true)
                        (Tree.leaf
                          (Ans.mk
                            (AV.sb
                              (bif true then bif true then decide (textOf b.size (bsF b) = b) else false else false))
                            []))))))
                (Tree.chk
                  (bif false then true
                  else
                    (allBytes (textB (BA.sl b).t s).size fun j =>
                        [AV.v (Value.int IntKind.u8 (sbyte (textB (BA.sl b).t s) ((0 : Nat) + j)))]) &&
                      (true &&
                          decide
                            ((bif okN (↑s.size : Int) then numB (↑s.size : Int).toNat else ByteArray.mk #[]).size +
                                s.size ≤
                              (9223372036854775807 : Nat)) &&
                        decide
                          ((textOf b.size (bsF b)).size +
                              ((bif okN (↑s.size : Int) then numB (↑s.size : Int).toNat else ByteArray.mk #[]) ++
                                  s).size ≤
                            (9223372036854775807 : Nat))))
                  (Tree.br
                    (bif false then true
                    else
                      !decide
                          ((textOf (textB (BA.sl b).t s).size fun j =>
                              [AV.v (Value.int IntKind.u8 (sbyte (textB (BA.sl b).t s) ((0 : Nat) + j)))]) =
                            textOf b.size (bsF b) ++
                              ((bif okN (↑s.size : Int) then numB (↑s.size : Int).toNat else ByteArray.mk #[]) ++ s)))
                    (Tree.leaf (Ans.mk (AV.v (Value.bool false)) []))
                    (Tree.chk
                      (cl
                        (LeL [AV.v (Value.slice none (0 : Nat) (0 : Nat))]
                            [AV.v (Value.slice none (0 : Nat) (0 : Nat))] ∧
                          LeH [] []))
                      (Tree.chk
                        (cl
                          (LeL
                              [AV.sl (1 : Nat) b.size fun j => [AV.v (Value.int IntKind.u8 (sbyte b j))],
                                AV.v (Value.slice none (0 : Nat) (0 : Nat)),
                                AV.v (Value.string (textOf b.size (bsF b))),
                                AV.v (Value.slice none (0 : Nat) (0 : Nat)), AV.v (Value.int IntKind.i64 (0 : Int)),
                                AV.v (Value.string (ByteArray.mk #[])), AV.v (Value.int IntKind.i64 (0 : Int)),
                                AV.v (Value.bool false)]
                              [AV.sl (1 : Nat) b.size fun j => [AV.v (Value.int IntKind.u8 (sbyte b j))],
                                AV.v (Value.slice none (0 : Nat) (0 : Nat)), AV.v (Value.string b),
                                AV.v (Value.slice none (0 : Nat) (0 : Nat)), AV.v (Value.int IntKind.i64 (0 : Int)),
                                AV.v (Value.string (ByteArray.mk #[])), AV.v (Value.int IntKind.i64 (↑(0 : Nat) : Int)),
                                AV.any] ∧
                            LeH [] []))
                        (Tree.chk (bif true then bif true then allBytes b.size (bsF b) else true else true)
                          (Tree.leaf
                            (Ans.mk
                              (AV.sb
                                (bif true then bif true then decide (textOf b.size (bsF b) = b) else false else false))
                              [])))))))))))))) := by kernel_rfl
theorem lawWbgsn (b : ByteArray) (s : ByteArray) (hb : (BA.sl b).ok) (n : Int) (hn : n < 0 ∨ 4611686018427387904 < n) (hs : s.size ≤ 65536) (hl : NA.nil.ok) : Right (bodyE (P := Try.prog) (Γ := Γw) [c6, CT.at 7 (ansBad (BA.sl b) n hb hn), Z.c8, CT.at 9 (ansText (BA.sl b) s hb rfl hs), Z.c10, CT.at 11 (ansNumsN hl)] (fun _ => LSpec.at [0, 3, 9, 16, 17, 18, 19, 8] [] (SL (.sl 1 b.size (bsF b)) (.v (.slice none 0 0)) b (.v (.slice none 0 0)) 0 [] ⟨#[]⟩ 0) (OLg (.sl 1 b.size (bsF b)) b (.v (.slice none 0 0)) [] ⟨#[]⟩)) false 154 [.tmp 8] (bodyOf Try.f3) [.sl 1 b.size (bsF b), .v (.int .i64 n), .v (.string s), .v (.slice none 0 0)] []) := by
  refine Right.of (runWbgsn b s hb n hn hs hl) ?_
  refine ⟨fun _ => ⟨.refl _, trivial⟩, fun h0 => ?_⟩
  obtain ⟨h1, h2, h3⟩ := guard3 h0
  clear h0
  have q1 : b.size ≤ 2000 := by have := of_decide_eq_false h1; omega
  have q2 : s.size ≤ 70000 := by have := of_decide_eq_false h2; omega
  have q4 := (numB_size (show s.size ≤ 4611686018427387904 by omega)).1
  simp [okN_not hn, okN_of (show s.size ≤ 4611686018427387904 by omega), allBytes0, textOf0, allBytesF, textOfF, textOfF2, textOfF3, le_vv, allBytes_bsF, textOf_bsF, BA.t, LeL_self, LeH_self, cl_true, Tree.sat, cl_iff, textB, le_sbv, empty_append, append_empty, ByteArray.append_assoc]
  omega
theorem runWbgs0 (b : ByteArray) (s : ByteArray) (hb : (BA.sl b).ok) (n : Int) (hn : n < 0 ∨ 4611686018427387904 < n) (hs : s.size ≤ 65536) (g : Nat → Int) (hl : (NA.sl 0 g).ok) : bodyE (P := Try.prog) (Γ := Γw) [c6, CT.at 7 (ansBad (BA.sl b) n hb hn), Z.c8, CT.at 9 (ansText (BA.sl b) s hb rfl hs), Z.c10, CT.at 11 (ansNums0 g hl)] (fun _ => LSpec.at [0, 3, 9, 16, 17, 18, 19, 8] [] (SL (.sl 1 b.size (bsF b)) (.sl 1 0 (i64F g)) b (.v (.slice none 0 0)) 0 [] ⟨#[]⟩ 0) (OLg (.sl 1 b.size (bsF b)) b (.v (.slice none 0 0)) [] ⟨#[]⟩)) false 154 [.tmp 8] (bodyOf Try.f3) [.sl 1 b.size (bsF b), .v (.int .i64 n), .v (.string s), .sl 1 0 (i64F g)] [] =
  Tree.br
  (bif decide ((2000 : Int) < (↑b.size : Int)) then true
  else bif decide ((70000 : Int) < (↑s.size : Int)) then true else false)
  (Tree.leaf (Ans.mk (AV.v (Value.bool true)) []))
  (Tree.chk (allBytes b.size (bsF b))
    (Tree.chk
      (cl
        (LeL [AV.sl (1 : Nat) b.size fun j => [AV.v (Value.int IntKind.u8 (sbyte b j))], AV.v (Value.int IntKind.i64 n)]
            [AV.sl (1 : Nat) b.size fun j => [AV.v (Value.int IntKind.u8 (sbyte b j))],
              AV.v (Value.int IntKind.i64 n)] ∧
          LeH [] []))
      (Tree.chk true
        (Tree.chk
          (bif okN n then
            bif true then true
            else
              decide
                ((textOf b.size (bsF b)).size + (bif okN n then numB n.toNat else ByteArray.mk #[]).size ≤
                  (9223372036854775807 : Nat))
          else true)
          (Tree.br
            (bif okN n then
              bif true then true
              else
                bif
                    !decide
                        (ByteArray.mk #[] =
                          textOf b.size (bsF b) ++ bif okN n then numB n.toNat else ByteArray.mk #[]) then
                  true
                else bif !okN n then false else false
            else bif !okN n then false else false)
            (Tree.leaf (Ans.mk (AV.v (Value.bool false)) []))
            (Tree.chk
              (cl
                (LeL [AV.sl (1 : Nat) b.size fun j => [AV.v (Value.int IntKind.u8 (sbyte b j))], AV.v (Value.string s)]
                    [AV.sl (1 : Nat) b.size fun j => [AV.v (Value.int IntKind.u8 (sbyte b j))], AV.v (Value.string s)] ∧
                  LeH [] []))
              (Tree.br (decide ((65536 : Int) < (↑s.size : Int)))
                (Tree.br (bif true then true else decide ((0 : Int) < (↑(textB (BA.sl b).t s).size : Int)))
                  (Tree.leaf (Ans.mk (AV.v (Value.bool false)) []))
                  (Tree.chk
                    (cl
                      (LeL [AV.sl (1 : Nat) (0 : Nat) fun j => [AV.v (Value.int IntKind.i64 (g j))]]
                          [AV.sl (1 : Nat) (0 : Nat) fun j => [AV.v (Value.int IntKind.i64 (g j))]] ∧
                        LeH [] []))
                    (Tree.chk
                      (cl
                        (LeL
                            [AV.sl (1 : Nat) b.size fun j => [AV.v (Value.int IntKind.u8 (sbyte b j))],
                              AV.sl (1 : Nat) (0 : Nat) fun j => [AV.v (Value.int IntKind.i64 (g j))],
                              AV.v (Value.string (textOf b.size (bsF b))), AV.v (Value.slice none (0 : Nat) (0 : Nat)),
                              AV.v (Value.int IntKind.i64 (0 : Int)), AV.v (Value.string (ByteArray.mk #[])),
                              AV.v (Value.int IntKind.i64 (0 : Int)), AV.v (Value.bool false)]
                            [AV.sl (1 : Nat) b.size fun j => [AV.v (Value.int IntKind.u8 (sbyte b j))],
                              AV.sl (1 : Nat) (0 : Nat) fun j => [AV.v (Value.int IntKind.i64 (g j))],
                              AV.v (Value.string b), AV.v (Value.slice none (0 : Nat) (0 : Nat)),
                              AV.v (Value.int IntKind.i64 (0 : Int)), AV.v (Value.string (ByteArray.mk #[])),
                              AV.v (Value.int IntKind.i64 (↑(0 : Nat) : Int)), AV.any] ∧
                          LeH [] []))
                      (Tree.chk (bif true then bif true then allBytes b.size (bsF b) else true else true)
                        (Tree.leaf
                          (Ans.mk
                            (AV.sb
                              (bif true then bif true then decide (textOf b.size (bsF b) = b) else false else false))
                            []))))))
                (Tree.chk
                  (bif false then true
                  else
                    (allBytes (textB (BA.sl b).t s).size fun j =>
                        [AV.v (Value.int IntKind.u8 (sbyte (textB (BA.sl b).t s) ((0 : Nat) + j)))]) &&
                      (true &&
                          decide
                            ((bif okN (↑s.size : Int) then numB (↑s.size : Int).toNat else ByteArray.mk #[]).size +
                                s.size ≤
                              (9223372036854775807 : Nat)) &&
                        decide
                          ((textOf b.size (bsF b)).size +
                              ((bif okN (↑s.size : Int) then numB (↑s.size : Int).toNat else ByteArray.mk #[]) ++
                                  s).size ≤
                            (9223372036854775807 : Nat))))
                  (Tree.br
                    (bif false then true
                    else
                      !decide
                          ((textOf (textB (BA.sl b).t s).size fun j =>
                              [AV.v (Value.int IntKind.u8 (sbyte (textB (BA.sl b).t s) ((0 : Nat) + j)))]) =
                            textOf b.size (bsF b) ++
                              ((bif okN (↑s.size : Int) then numB (↑s.size : Int).toNat else ByteArray.mk #[]) ++ s)))
                    (Tree.leaf (Ans.mk (AV.v (Value.bool false)) []))
                    (Tree.chk
                      (cl
                        (LeL [AV.sl (1 : Nat) (0 : Nat) fun j => [AV.v (Value.int IntKind.i64 (g j))]]
                            [AV.sl (1 : Nat) (0 : Nat) fun j => [AV.v (Value.int IntKind.i64 (g j))]] ∧
                          LeH [] []))
                      (Tree.chk
                        (cl
                          (LeL
                              [AV.sl (1 : Nat) b.size fun j => [AV.v (Value.int IntKind.u8 (sbyte b j))],
                                AV.sl (1 : Nat) (0 : Nat) fun j => [AV.v (Value.int IntKind.i64 (g j))],
                                AV.v (Value.string (textOf b.size (bsF b))),
                                AV.v (Value.slice none (0 : Nat) (0 : Nat)), AV.v (Value.int IntKind.i64 (0 : Int)),
                                AV.v (Value.string (ByteArray.mk #[])), AV.v (Value.int IntKind.i64 (0 : Int)),
                                AV.v (Value.bool false)]
                              [AV.sl (1 : Nat) b.size fun j => [AV.v (Value.int IntKind.u8 (sbyte b j))],
                                AV.sl (1 : Nat) (0 : Nat) fun j => [AV.v (Value.int IntKind.i64 (g j))],
                                AV.v (Value.string b), AV.v (Value.slice none (0 : Nat) (0 : Nat)),
                                AV.v (Value.int IntKind.i64 (0 : Int)), AV.v (Value.string (ByteArray.mk #[])),
                                AV.v (Value.int IntKind.i64 (↑(0 : Nat) : Int)), AV.any] ∧
                            LeH [] []))
                        (Tree.chk (bif true then bif true then allBytes b.size (bsF b) else true else true)
                          (Tree.leaf
                            (Ans.mk
                              (AV.sb
                                (bif true then bif true then decide (textOf b.size (bsF b) = b) else false else false))
                              [])))))))))))))) := by kernel_rfl
theorem lawWbgs0 (b : ByteArray) (s : ByteArray) (hb : (BA.sl b).ok) (n : Int) (hn : n < 0 ∨ 4611686018427387904 < n) (hs : s.size ≤ 65536) (g : Nat → Int) (hl : (NA.sl 0 g).ok) : Right (bodyE (P := Try.prog) (Γ := Γw) [c6, CT.at 7 (ansBad (BA.sl b) n hb hn), Z.c8, CT.at 9 (ansText (BA.sl b) s hb rfl hs), Z.c10, CT.at 11 (ansNums0 g hl)] (fun _ => LSpec.at [0, 3, 9, 16, 17, 18, 19, 8] [] (SL (.sl 1 b.size (bsF b)) (.sl 1 0 (i64F g)) b (.v (.slice none 0 0)) 0 [] ⟨#[]⟩ 0) (OLg (.sl 1 b.size (bsF b)) b (.v (.slice none 0 0)) [] ⟨#[]⟩)) false 154 [.tmp 8] (bodyOf Try.f3) [.sl 1 b.size (bsF b), .v (.int .i64 n), .v (.string s), .sl 1 0 (i64F g)] []) := by
  refine Right.of (runWbgs0 b s hb n hn hs g hl) ?_
  refine ⟨fun _ => ⟨.refl _, trivial⟩, fun h0 => ?_⟩
  obtain ⟨h1, h2, h3⟩ := guard3 h0
  clear h0
  have q1 : b.size ≤ 2000 := by have := of_decide_eq_false h1; omega
  have q2 : s.size ≤ 70000 := by have := of_decide_eq_false h2; omega
  have q4 := (numB_size (show s.size ≤ 4611686018427387904 by omega)).1
  simp [okN_not hn, okN_of (show s.size ≤ 4611686018427387904 by omega), allBytes0, textOf0, allBytesF, textOfF, textOfF2, textOfF3, le_vv, allBytes_bsF, textOf_bsF, BA.t, LeL_self, LeH_self, cl_true, Tree.sat, cl_iff, textB, le_sbv, empty_append, append_empty, ByteArray.append_assoc]
  omega
theorem runWbgsm (b : ByteArray) (s : ByteArray) (hb : (BA.sl b).ok) (n : Int) (hn : n < 0 ∨ 4611686018427387904 < n) (hs : s.size ≤ 65536) (m : Nat) (g : Nat → Int) (hl : (NA.sl (m + 1) g).ok) : bodyE (P := Try.prog) (Γ := Γw) [c6, CT.at 7 (ansBad (BA.sl b) n hb hn), Z.c8, CT.at 9 (ansText (BA.sl b) s hb rfl hs), Z.c10, CT.at 11 (ansNumsS m g hl)] (fun _ => LSpec.at [0, 3, 9, 16, 17, 18, 19, 8] [] (SL (.sl 1 b.size (bsF b)) (.sl 1 (m + 1) (i64F g)) b (.hs 0 0 (catN g (m + 1)).size) 0 [some (.arr 1 (catN g (m + 1)).size (bsF (catN g (m + 1))))] ⟨#[]⟩ 0) (OLg (.sl 1 b.size (bsF b)) b (.hs 0 0 (catN g (m + 1)).size) [some (.arr 1 (catN g (m + 1)).size (bsF (catN g (m + 1))))] (catN g (m + 1)))) false 154 [.tmp 8] (bodyOf Try.f3) [.sl 1 b.size (bsF b), .v (.int .i64 n), .v (.string s), .sl 1 (m + 1) (i64F g)] [] =
  Tree.br
  (bif decide ((2000 : Int) < (↑b.size : Int)) then true
  else bif decide ((70000 : Int) < (↑s.size : Int)) then true else decide ((500 : Int) < (↑(m + (1 : Nat)) : Int)))
  (Tree.leaf (Ans.mk (AV.v (Value.bool true)) []))
  (Tree.chk (allBytes b.size (bsF b))
    (Tree.chk
      (cl
        (LeL [AV.sl (1 : Nat) b.size fun j => [AV.v (Value.int IntKind.u8 (sbyte b j))], AV.v (Value.int IntKind.i64 n)]
            [AV.sl (1 : Nat) b.size fun j => [AV.v (Value.int IntKind.u8 (sbyte b j))],
              AV.v (Value.int IntKind.i64 n)] ∧
          LeH [] []))
      (Tree.chk true
        (Tree.chk
          (bif okN n then
            bif true then true
            else
              decide
                ((textOf b.size (bsF b)).size + (bif okN n then numB n.toNat else ByteArray.mk #[]).size ≤
                  (9223372036854775807 : Nat))
          else true)
          (Tree.br
            (bif okN n then
              bif true then true
              else
                bif
                    !decide
                        (ByteArray.mk #[] =
                          textOf b.size (bsF b) ++ bif okN n then numB n.toNat else ByteArray.mk #[]) then
                  true
                else bif !okN n then false else false
            else bif !okN n then false else false)
            (Tree.leaf (Ans.mk (AV.v (Value.bool false)) []))
            (Tree.chk
              (cl
                (LeL [AV.sl (1 : Nat) b.size fun j => [AV.v (Value.int IntKind.u8 (sbyte b j))], AV.v (Value.string s)]
                    [AV.sl (1 : Nat) b.size fun j => [AV.v (Value.int IntKind.u8 (sbyte b j))], AV.v (Value.string s)] ∧
                  LeH [] []))
              (Tree.br (decide ((65536 : Int) < (↑s.size : Int)))
                (Tree.br (bif true then true else decide ((0 : Int) < (↑(textB (BA.sl b).t s).size : Int)))
                  (Tree.leaf (Ans.mk (AV.v (Value.bool false)) []))
                  (Tree.chk
                    (cl
                      (LeL [AV.sl (1 : Nat) (m + (1 : Nat)) fun j => [AV.v (Value.int IntKind.i64 (g j))]]
                          [AV.sl (1 : Nat) (m + (1 : Nat)) fun j => [AV.v (Value.int IntKind.i64 (g j))]] ∧
                        LeH [] []))
                    (Tree.chk
                      (cl
                        (LeL
                            [AV.sl (1 : Nat) b.size fun j => [AV.v (Value.int IntKind.u8 (sbyte b j))],
                              AV.sl (1 : Nat) (m + (1 : Nat)) fun j => [AV.v (Value.int IntKind.i64 (g j))],
                              AV.v (Value.string (textOf b.size (bsF b))),
                              AV.hs (0 : Nat) (0 : Nat) (catN g (m + (1 : Nat))).size,
                              AV.v (Value.int IntKind.i64 (0 : Int)), AV.v (Value.string (ByteArray.mk #[])),
                              AV.v (Value.int IntKind.i64 (0 : Int)), AV.v (Value.bool false)]
                            [AV.sl (1 : Nat) b.size fun j => [AV.v (Value.int IntKind.u8 (sbyte b j))],
                              AV.sl (1 : Nat) (m + (1 : Nat)) fun j => [AV.v (Value.int IntKind.i64 (g j))],
                              AV.v (Value.string b), AV.hs (0 : Nat) (0 : Nat) (catN g (m + (1 : Nat))).size,
                              AV.v (Value.int IntKind.i64 (0 : Int)), AV.v (Value.string (ByteArray.mk #[])),
                              AV.v (Value.int IntKind.i64 (↑(0 : Nat) : Int)), AV.any] ∧
                          LeH
                            [some
                                (Blk.arr (1 : Nat) (catN g (m + (1 : Nat))).size fun j =>
                                  [AV.v (Value.int IntKind.u8 (sbyte (catN g (m + (1 : Nat))) j))])]
                            [some
                                (Blk.arr (1 : Nat) (catN g (m + (1 : Nat))).size fun j =>
                                  [AV.v (Value.int IntKind.u8 (sbyte (catN g (m + (1 : Nat))) j))])]))
                      (Tree.chk
                        (bif true then
                          (allBytes (catN g (m + (1 : Nat))).size fun j =>
                              [AV.v (Value.int IntKind.u8 (sbyte (catN g (m + (1 : Nat))) ((0 : Nat) + j)))]) &&
                            bif
                                decide
                                  ((textOf (catN g (m + (1 : Nat))).size fun j =>
                                      [AV.v (Value.int IntKind.u8 (sbyte (catN g (m + (1 : Nat))) ((0 : Nat) + j)))]) =
                                    catN g (m + (1 : Nat))) then
                              allBytes b.size (bsF b)
                            else true
                        else true)
                        (Tree.leaf
                          (Ans.mk
                            (AV.sb
                              (bif true then
                                bif
                                    decide
                                      ((textOf (catN g (m + (1 : Nat))).size fun j =>
                                          [AV.v
                                              (Value.int IntKind.u8
                                                (sbyte (catN g (m + (1 : Nat))) ((0 : Nat) + j)))]) =
                                        catN g (m + (1 : Nat))) then
                                  decide (textOf b.size (bsF b) = b)
                                else false
                              else false))
                            []))))))
                (Tree.chk
                  (bif false then true
                  else
                    (allBytes (textB (BA.sl b).t s).size fun j =>
                        [AV.v (Value.int IntKind.u8 (sbyte (textB (BA.sl b).t s) ((0 : Nat) + j)))]) &&
                      (true &&
                          decide
                            ((bif okN (↑s.size : Int) then numB (↑s.size : Int).toNat else ByteArray.mk #[]).size +
                                s.size ≤
                              (9223372036854775807 : Nat)) &&
                        decide
                          ((textOf b.size (bsF b)).size +
                              ((bif okN (↑s.size : Int) then numB (↑s.size : Int).toNat else ByteArray.mk #[]) ++
                                  s).size ≤
                            (9223372036854775807 : Nat))))
                  (Tree.br
                    (bif false then true
                    else
                      !decide
                          ((textOf (textB (BA.sl b).t s).size fun j =>
                              [AV.v (Value.int IntKind.u8 (sbyte (textB (BA.sl b).t s) ((0 : Nat) + j)))]) =
                            textOf b.size (bsF b) ++
                              ((bif okN (↑s.size : Int) then numB (↑s.size : Int).toNat else ByteArray.mk #[]) ++ s)))
                    (Tree.leaf (Ans.mk (AV.v (Value.bool false)) []))
                    (Tree.chk
                      (cl
                        (LeL [AV.sl (1 : Nat) (m + (1 : Nat)) fun j => [AV.v (Value.int IntKind.i64 (g j))]]
                            [AV.sl (1 : Nat) (m + (1 : Nat)) fun j => [AV.v (Value.int IntKind.i64 (g j))]] ∧
                          LeH [] []))
                      (Tree.chk
                        (cl
                          (LeL
                              [AV.sl (1 : Nat) b.size fun j => [AV.v (Value.int IntKind.u8 (sbyte b j))],
                                AV.sl (1 : Nat) (m + (1 : Nat)) fun j => [AV.v (Value.int IntKind.i64 (g j))],
                                AV.v (Value.string (textOf b.size (bsF b))),
                                AV.hs (0 : Nat) (0 : Nat) (catN g (m + (1 : Nat))).size,
                                AV.v (Value.int IntKind.i64 (0 : Int)), AV.v (Value.string (ByteArray.mk #[])),
                                AV.v (Value.int IntKind.i64 (0 : Int)), AV.v (Value.bool false)]
                              [AV.sl (1 : Nat) b.size fun j => [AV.v (Value.int IntKind.u8 (sbyte b j))],
                                AV.sl (1 : Nat) (m + (1 : Nat)) fun j => [AV.v (Value.int IntKind.i64 (g j))],
                                AV.v (Value.string b), AV.hs (0 : Nat) (0 : Nat) (catN g (m + (1 : Nat))).size,
                                AV.v (Value.int IntKind.i64 (0 : Int)), AV.v (Value.string (ByteArray.mk #[])),
                                AV.v (Value.int IntKind.i64 (↑(0 : Nat) : Int)), AV.any] ∧
                            LeH
                              [some
                                  (Blk.arr (1 : Nat) (catN g (m + (1 : Nat))).size fun j =>
                                    [AV.v (Value.int IntKind.u8 (sbyte (catN g (m + (1 : Nat))) j))])]
                              [some
                                  (Blk.arr (1 : Nat) (catN g (m + (1 : Nat))).size fun j =>
                                    [AV.v (Value.int IntKind.u8 (sbyte (catN g (m + (1 : Nat))) j))])]))
                        (Tree.chk
                          (bif true then
                            (allBytes (catN g (m + (1 : Nat))).size fun j =>
                                [AV.v (Value.int IntKind.u8 (sbyte (catN g (m + (1 : Nat))) ((0 : Nat) + j)))]) &&
                              bif
                                  decide
                                    ((textOf (catN g (m + (1 : Nat))).size fun j =>
                                        [AV.v
                                            (Value.int IntKind.u8 (sbyte (catN g (m + (1 : Nat))) ((0 : Nat) + j)))]) =
                                      catN g (m + (1 : Nat))) then
                                allBytes b.size (bsF b)
                              else true
                          else true)
                          (Tree.leaf
                            (Ans.mk
                              (AV.sb
                                (bif true then
                                  bif
                                      decide
                                        ((textOf (catN g (m + (1 : Nat))).size fun j =>
                                            [AV.v
                                                (Value.int IntKind.u8
                                                  (sbyte (catN g (m + (1 : Nat))) ((0 : Nat) + j)))]) =
                                          catN g (m + (1 : Nat))) then
                                    decide (textOf b.size (bsF b) = b)
                                  else false
                                else false))
                              [])))))))))))))) := by kernel_rfl
theorem lawWbgsm (b : ByteArray) (s : ByteArray) (hb : (BA.sl b).ok) (n : Int) (hn : n < 0 ∨ 4611686018427387904 < n) (hs : s.size ≤ 65536) (m : Nat) (g : Nat → Int) (hl : (NA.sl (m + 1) g).ok) : Right (bodyE (P := Try.prog) (Γ := Γw) [c6, CT.at 7 (ansBad (BA.sl b) n hb hn), Z.c8, CT.at 9 (ansText (BA.sl b) s hb rfl hs), Z.c10, CT.at 11 (ansNumsS m g hl)] (fun _ => LSpec.at [0, 3, 9, 16, 17, 18, 19, 8] [] (SL (.sl 1 b.size (bsF b)) (.sl 1 (m + 1) (i64F g)) b (.hs 0 0 (catN g (m + 1)).size) 0 [some (.arr 1 (catN g (m + 1)).size (bsF (catN g (m + 1))))] ⟨#[]⟩ 0) (OLg (.sl 1 b.size (bsF b)) b (.hs 0 0 (catN g (m + 1)).size) [some (.arr 1 (catN g (m + 1)).size (bsF (catN g (m + 1))))] (catN g (m + 1)))) false 154 [.tmp 8] (bodyOf Try.f3) [.sl 1 b.size (bsF b), .v (.int .i64 n), .v (.string s), .sl 1 (m + 1) (i64F g)] []) := by
  refine Right.of (runWbgsm b s hb n hn hs m g hl) ?_
  refine ⟨fun _ => ⟨.refl _, trivial⟩, fun h0 => ?_⟩
  obtain ⟨h1, h2, h3⟩ := guard3 h0
  clear h0
  have q1 : b.size ≤ 2000 := by have := of_decide_eq_false h1; omega
  have q2 : s.size ≤ 70000 := by have := of_decide_eq_false h2; omega
  have q4 := (numB_size (show s.size ≤ 4611686018427387904 by omega)).1
  have q5 := (catN_small (g := g) (i := m + 1) hl.1).1
  have q6 : m + 1 ≤ 500 := by have := of_decide_eq_false h3; omega
  simp [okN_not hn, okN_of (show s.size ≤ 4611686018427387904 by omega), allBytes0, textOf0, allBytesF, textOfF, textOfF2, textOfF3, le_vv, allBytes_bsF, textOf_bsF, BA.t, LeL_self, LeH_self, cl_true, Tree.sat, cl_iff, textB, le_sbv, empty_append, append_empty, ByteArray.append_assoc]
  omega
theorem runWbgsb (b : ByteArray) (s : ByteArray) (hb : (BA.sl b).ok) (n : Int) (hn : n < 0 ∨ 4611686018427387904 < n) (hs : s.size ≤ 65536) (m : Nat) (g : Nat → Int) (c : Nat) (hc : c < m) (hok : ∀ j, j < c → okN (g j) = true) (hbad : okN (g c) = false) (hm : m ≤ 100000) : bodyE (P := Try.prog) (Γ := Γw) [c6, CT.at 7 (ansBad (BA.sl b) n hb hn), Z.c8, CT.at 9 (ansText (BA.sl b) s hb rfl hs), Z.c10, CT.at 11 (ansNumsBad m g c hc hok hbad hm)] (fun _ => LSpec.at [0, 3, 9, 16, 17, 18, 19, 8] [] (SL (.sl 1 b.size (bsF b)) (.sl 1 m (i64F g)) b (.v (.slice none 0 0)) 10 [] ⟨#[]⟩ 0) OLb) false 154 [.tmp 8] (bodyOf Try.f3) [.sl 1 b.size (bsF b), .v (.int .i64 n), .v (.string s), .sl 1 m (i64F g)] [] =
  Tree.br
  (bif decide ((2000 : Int) < (↑b.size : Int)) then true
  else bif decide ((70000 : Int) < (↑s.size : Int)) then true else decide ((500 : Int) < (↑m : Int)))
  (Tree.leaf (Ans.mk (AV.v (Value.bool true)) []))
  (Tree.chk (allBytes b.size (bsF b))
    (Tree.chk
      (cl
        (LeL [AV.sl (1 : Nat) b.size fun j => [AV.v (Value.int IntKind.u8 (sbyte b j))], AV.v (Value.int IntKind.i64 n)]
            [AV.sl (1 : Nat) b.size fun j => [AV.v (Value.int IntKind.u8 (sbyte b j))],
              AV.v (Value.int IntKind.i64 n)] ∧
          LeH [] []))
      (Tree.chk true
        (Tree.chk
          (bif okN n then
            bif true then true
            else
              decide
                ((textOf b.size (bsF b)).size + (bif okN n then numB n.toNat else ByteArray.mk #[]).size ≤
                  (9223372036854775807 : Nat))
          else true)
          (Tree.br
            (bif okN n then
              bif true then true
              else
                bif
                    !decide
                        (ByteArray.mk #[] =
                          textOf b.size (bsF b) ++ bif okN n then numB n.toNat else ByteArray.mk #[]) then
                  true
                else bif !okN n then false else false
            else bif !okN n then false else false)
            (Tree.leaf (Ans.mk (AV.v (Value.bool false)) []))
            (Tree.chk
              (cl
                (LeL [AV.sl (1 : Nat) b.size fun j => [AV.v (Value.int IntKind.u8 (sbyte b j))], AV.v (Value.string s)]
                    [AV.sl (1 : Nat) b.size fun j => [AV.v (Value.int IntKind.u8 (sbyte b j))], AV.v (Value.string s)] ∧
                  LeH [] []))
              (Tree.br (decide ((65536 : Int) < (↑s.size : Int)))
                (Tree.br (bif true then true else decide ((0 : Int) < (↑(textB (BA.sl b).t s).size : Int)))
                  (Tree.leaf (Ans.mk (AV.v (Value.bool false)) []))
                  (Tree.chk
                    (cl
                      (LeL [AV.sl (1 : Nat) m fun j => [AV.v (Value.int IntKind.i64 (g j))]]
                          [AV.sl (1 : Nat) m fun j => [AV.v (Value.int IntKind.i64 (g j))]] ∧
                        LeH [] []))
                    (Tree.chk
                      (cl
                        (LeL
                            [AV.sl (1 : Nat) b.size fun j => [AV.v (Value.int IntKind.u8 (sbyte b j))],
                              AV.sl (1 : Nat) m fun j => [AV.v (Value.int IntKind.i64 (g j))],
                              AV.v (Value.string (textOf b.size (bsF b))), AV.v (Value.slice none (0 : Nat) (0 : Nat)),
                              AV.v (Value.int IntKind.i64 (10 : Int)), AV.v (Value.string (ByteArray.mk #[])),
                              AV.v (Value.int IntKind.i64 (0 : Int)), AV.v (Value.bool false)]
                            [AV.sl (1 : Nat) b.size fun j => [AV.v (Value.int IntKind.u8 (sbyte b j))],
                              AV.sl (1 : Nat) m fun j => [AV.v (Value.int IntKind.i64 (g j))], AV.v (Value.string b),
                              AV.v (Value.slice none (0 : Nat) (0 : Nat)), AV.v (Value.int IntKind.i64 (10 : Int)),
                              AV.v (Value.string (ByteArray.mk #[])), AV.v (Value.int IntKind.i64 (↑(0 : Nat) : Int)),
                              AV.any] ∧
                          LeH [] []))
                      (Tree.leaf (Ans.mk (AV.sb true) [])))))
                (Tree.chk
                  (bif false then true
                  else
                    (allBytes (textB (BA.sl b).t s).size fun j =>
                        [AV.v (Value.int IntKind.u8 (sbyte (textB (BA.sl b).t s) ((0 : Nat) + j)))]) &&
                      (true &&
                          decide
                            ((bif okN (↑s.size : Int) then numB (↑s.size : Int).toNat else ByteArray.mk #[]).size +
                                s.size ≤
                              (9223372036854775807 : Nat)) &&
                        decide
                          ((textOf b.size (bsF b)).size +
                              ((bif okN (↑s.size : Int) then numB (↑s.size : Int).toNat else ByteArray.mk #[]) ++
                                  s).size ≤
                            (9223372036854775807 : Nat))))
                  (Tree.br
                    (bif false then true
                    else
                      !decide
                          ((textOf (textB (BA.sl b).t s).size fun j =>
                              [AV.v (Value.int IntKind.u8 (sbyte (textB (BA.sl b).t s) ((0 : Nat) + j)))]) =
                            textOf b.size (bsF b) ++
                              ((bif okN (↑s.size : Int) then numB (↑s.size : Int).toNat else ByteArray.mk #[]) ++ s)))
                    (Tree.leaf (Ans.mk (AV.v (Value.bool false)) []))
                    (Tree.chk
                      (cl
                        (LeL [AV.sl (1 : Nat) m fun j => [AV.v (Value.int IntKind.i64 (g j))]]
                            [AV.sl (1 : Nat) m fun j => [AV.v (Value.int IntKind.i64 (g j))]] ∧
                          LeH [] []))
                      (Tree.chk
                        (cl
                          (LeL
                              [AV.sl (1 : Nat) b.size fun j => [AV.v (Value.int IntKind.u8 (sbyte b j))],
                                AV.sl (1 : Nat) m fun j => [AV.v (Value.int IntKind.i64 (g j))],
                                AV.v (Value.string (textOf b.size (bsF b))),
                                AV.v (Value.slice none (0 : Nat) (0 : Nat)), AV.v (Value.int IntKind.i64 (10 : Int)),
                                AV.v (Value.string (ByteArray.mk #[])), AV.v (Value.int IntKind.i64 (0 : Int)),
                                AV.v (Value.bool false)]
                              [AV.sl (1 : Nat) b.size fun j => [AV.v (Value.int IntKind.u8 (sbyte b j))],
                                AV.sl (1 : Nat) m fun j => [AV.v (Value.int IntKind.i64 (g j))], AV.v (Value.string b),
                                AV.v (Value.slice none (0 : Nat) (0 : Nat)), AV.v (Value.int IntKind.i64 (10 : Int)),
                                AV.v (Value.string (ByteArray.mk #[])), AV.v (Value.int IntKind.i64 (↑(0 : Nat) : Int)),
                                AV.any] ∧
                            LeH [] []))
                        (Tree.leaf (Ans.mk (AV.sb true) []))))))))))))) := by kernel_rfl
theorem lawWbgsb (b : ByteArray) (s : ByteArray) (hb : (BA.sl b).ok) (n : Int) (hn : n < 0 ∨ 4611686018427387904 < n) (hs : s.size ≤ 65536) (m : Nat) (g : Nat → Int) (c : Nat) (hc : c < m) (hok : ∀ j, j < c → okN (g j) = true) (hbad : okN (g c) = false) (hm : m ≤ 100000) : Right (bodyE (P := Try.prog) (Γ := Γw) [c6, CT.at 7 (ansBad (BA.sl b) n hb hn), Z.c8, CT.at 9 (ansText (BA.sl b) s hb rfl hs), Z.c10, CT.at 11 (ansNumsBad m g c hc hok hbad hm)] (fun _ => LSpec.at [0, 3, 9, 16, 17, 18, 19, 8] [] (SL (.sl 1 b.size (bsF b)) (.sl 1 m (i64F g)) b (.v (.slice none 0 0)) 10 [] ⟨#[]⟩ 0) OLb) false 154 [.tmp 8] (bodyOf Try.f3) [.sl 1 b.size (bsF b), .v (.int .i64 n), .v (.string s), .sl 1 m (i64F g)] []) := by
  refine Right.of (runWbgsb b s hb n hn hs m g c hc hok hbad hm) ?_
  refine ⟨fun _ => ⟨.refl _, trivial⟩, fun h0 => ?_⟩
  obtain ⟨h1, h2, h3⟩ := guard3 h0
  clear h0
  have q1 : b.size ≤ 2000 := by have := of_decide_eq_false h1; omega
  have q2 : s.size ≤ 70000 := by have := of_decide_eq_false h2; omega
  have q4 := (numB_size (show s.size ≤ 4611686018427387904 by omega)).1
  simp [okN_not hn, okN_of (show s.size ≤ 4611686018427387904 by omega), allBytes0, textOf0, allBytesF, textOfF, textOfF2, textOfF3, le_vv, allBytes_bsF, textOf_bsF, BA.t, LeL_self, LeH_self, cl_true, Tree.sat, cl_iff, textB, le_sbv, empty_append, append_empty, ByteArray.append_assoc]
  omega
end Go.Eng.W

/- wire: the law on what is written. -/
namespace Go.Eng.W
open Go Go.Eng Go.Proofs
set_option linter.unusedSimpArgs false
set_option linter.unusedVariables false
theorem runWbbnn (s : ByteArray) (hb : BA.nil.ok) (n : Int) (hn : n < 0 ∨ 4611686018427387904 < n) (hs : 65536 < s.size) (hs2 : s.size ≤ 4611686018427387904) (hl : NA.nil.ok) : bodyE (P := Try.prog) (Γ := Γw) [c6, CT.at 7 (ansBad BA.nil n hb hn), Z.c8, CT.at 9 (ansTextBad BA.nil s hb rfl hs hs2), Z.c10, CT.at 11 (ansNumsN hl)] (fun _ => LSpec.at [0, 3, 9, 16, 17, 18, 19, 8] [] (SL (.v (.slice none 0 0)) (.v (.slice none 0 0)) ⟨#[]⟩ (.v (.slice none 0 0)) 0 [] ⟨#[]⟩ 0) (OLg (.v (.slice none 0 0)) ⟨#[]⟩ (.v (.slice none 0 0)) [] ⟨#[]⟩)) false 154 [.tmp 8] (bodyOf Try.f3) [.v (.slice none 0 0), .v (.int .i64 n), .v (.string s), .v (.slice none 0 0)] [] =
  Tree.br (bif false then true else bif decide ((70000 : Int) < (↑s.size : Int)) then true else false)
  (Tree.leaf (Ans.mk (AV.v (Value.bool true)) []))
  (Tree.chk
    (cl
      (LeL [AV.v (Value.slice none (0 : Nat) (0 : Nat)), AV.v (Value.int IntKind.i64 n)]
          [AV.v (Value.slice none (0 : Nat) (0 : Nat)), AV.v (Value.int IntKind.i64 n)] ∧
        LeH [] []))
    (Tree.chk true
      (Tree.chk
        (bif okN n then
          bif true then true
          else
            decide ((0 : Nat) + (bif okN n then numB n.toNat else ByteArray.mk #[]).size ≤ (9223372036854775807 : Nat))
        else true)
        (Tree.br
          (bif okN n then
            bif true then true
            else
              bif
                  !decide
                      (ByteArray.mk #[] = ByteArray.mk #[] ++ bif okN n then numB n.toNat else ByteArray.mk #[]) then
                true
              else bif !okN n then false else false
          else bif !okN n then false else false)
          (Tree.leaf (Ans.mk (AV.v (Value.bool false)) []))
          (Tree.chk
            (cl
              (LeL [AV.v (Value.slice none (0 : Nat) (0 : Nat)), AV.v (Value.string s)]
                  [AV.v (Value.slice none (0 : Nat) (0 : Nat)), AV.v (Value.string s)] ∧
                LeH [] []))
            (Tree.br (decide ((65536 : Int) < (↑s.size : Int)))
              (Tree.br false (Tree.leaf (Ans.mk (AV.v (Value.bool false)) []))
                (Tree.chk
                  (cl
                    (LeL [AV.v (Value.slice none (0 : Nat) (0 : Nat))] [AV.v (Value.slice none (0 : Nat) (0 : Nat))] ∧
                      LeH [] []))
                  (Tree.chk
                    (cl
                      (LeL
                          [AV.v (Value.slice none (0 : Nat) (0 : Nat)), AV.v (Value.slice none (0 : Nat) (0 : Nat)),
                            AV.v (Value.string (ByteArray.mk #[])), AV.v (Value.slice none (0 : Nat) (0 : Nat)),
                            AV.v (Value.int IntKind.i64 (0 : Int)), AV.v (Value.string (ByteArray.mk #[])),
                            AV.v (Value.int IntKind.i64 (0 : Int)), AV.v (Value.bool false)]
                          [AV.v (Value.slice none (0 : Nat) (0 : Nat)), AV.v (Value.slice none (0 : Nat) (0 : Nat)),
                            AV.v (Value.string (ByteArray.mk #[])), AV.v (Value.slice none (0 : Nat) (0 : Nat)),
                            AV.v (Value.int IntKind.i64 (0 : Int)), AV.v (Value.string (ByteArray.mk #[])),
                            AV.v (Value.int IntKind.i64 (↑(0 : Nat) : Int)), AV.any] ∧
                        LeH [] []))
                    (Tree.leaf (Ans.mk (AV.sb true) [])))))
              (Tree.chk
                (bif true then true
                else
                  true &&
                      decide
                        ((bif okN (↑s.size : Int) then numB (↑s.size : Int).toNat else ByteArray.mk #[]).size + s.size ≤
                          (9223372036854775807 : Nat)) &&
                    decide
                      ((0 : Nat) +
                          ((bif okN (↑s.size : Int) then numB (↑s.size : Int).toNat else ByteArray.mk #[]) ++ s).size ≤
                        (9223372036854775807 : Nat)))
                (Tree.br
                  (bif true then true
                  else
                    !decide
                        (ByteArray.mk #[] =
                          ByteArray.mk #[] ++
                            ((bif okN (↑s.size : Int) then numB (↑s.size : Int).toNat else ByteArray.mk #[]) ++ s)))
                  (Tree.leaf (Ans.mk (AV.v (Value.bool false)) []))
                  (Tree.chk
                    (cl
                      (LeL [AV.v (Value.slice none (0 : Nat) (0 : Nat))] [AV.v (Value.slice none (0 : Nat) (0 : Nat))] ∧
                        LeH [] []))
                    (Tree.chk
                      (cl
                        (LeL
                            [AV.v (Value.slice none (0 : Nat) (0 : Nat)), AV.v (Value.slice none (0 : Nat) (0 : Nat)),
                              AV.v (Value.string (ByteArray.mk #[])), AV.v (Value.slice none (0 : Nat) (0 : Nat)),
                              AV.v (Value.int IntKind.i64 (0 : Int)), AV.v (Value.string (ByteArray.mk #[])),
                              AV.v (Value.int IntKind.i64 (0 : Int)), AV.v (Value.bool false)]
                            [AV.v (Value.slice none (0 : Nat) (0 : Nat)), AV.v (Value.slice none (0 : Nat) (0 : Nat)),
                              AV.v (Value.string (ByteArray.mk #[])), AV.v (Value.slice none (0 : Nat) (0 : Nat)),
                              AV.v (Value.int IntKind.i64 (0 : Int)), AV.v (Value.string (ByteArray.mk #[])),
                              AV.v (Value.int IntKind.i64 (↑(0 : Nat) : Int)), AV.any] ∧
                          LeH [] []))
                      (Tree.leaf (Ans.mk (AV.sb true) [])))))))))))) := by kernel_rfl
theorem lawWbbnn (s : ByteArray) (hb : BA.nil.ok) (n : Int) (hn : n < 0 ∨ 4611686018427387904 < n) (hs : 65536 < s.size) (hs2 : s.size ≤ 4611686018427387904) (hl : NA.nil.ok) : Right (bodyE (P := Try.prog) (Γ := Γw) [c6, CT.at 7 (ansBad BA.nil n hb hn), Z.c8, CT.at 9 (ansTextBad BA.nil s hb rfl hs hs2), Z.c10, CT.at 11 (ansNumsN hl)] (fun _ => LSpec.at [0, 3, 9, 16, 17, 18, 19, 8] [] (SL (.v (.slice none 0 0)) (.v (.slice none 0 0)) ⟨#[]⟩ (.v (.slice none 0 0)) 0 [] ⟨#[]⟩ 0) (OLg (.v (.slice none 0 0)) ⟨#[]⟩ (.v (.slice none 0 0)) [] ⟨#[]⟩)) false 154 [.tmp 8] (bodyOf Try.f3) [.v (.slice none 0 0), .v (.int .i64 n), .v (.string s), .v (.slice none 0 0)] []) := by
  refine Right.of (runWbbnn s hb n hn hs hs2 hl) ?_
  refine ⟨fun _ => ⟨.refl _, trivial⟩, fun h0 => ?_⟩
  obtain ⟨h1, h2, h3⟩ := guard3 h0
  clear h0
  have q2 : s.size ≤ 70000 := by have := of_decide_eq_false h2; omega
  have q4 := (numB_size (show s.size ≤ 4611686018427387904 by omega)).1
  simp [okN_not hn, okN_of (show s.size ≤ 4611686018427387904 by omega), allBytes0, textOf0, allBytesF, textOfF, textOfF2, textOfF3, le_vv, allBytes_bsF, textOf_bsF, BA.t, LeL_self, LeH_self, cl_true, Tree.sat, cl_iff, textB, le_sbv, empty_append, append_empty, ByteArray.append_assoc]
  omega
theorem runWbbn0 (s : ByteArray) (hb : BA.nil.ok) (n : Int) (hn : n < 0 ∨ 4611686018427387904 < n) (hs : 65536 < s.size) (hs2 : s.size ≤ 4611686018427387904) (g : Nat → Int) (hl : (NA.sl 0 g).ok) : bodyE (P := Try.prog) (Γ := Γw) [c6, CT.at 7 (ansBad BA.nil n hb hn), Z.c8, CT.at 9 (ansTextBad BA.nil s hb rfl hs hs2), Z.c10, CT.at 11 (ansNums0 g hl)] (fun _ => LSpec.at [0, 3, 9, 16, 17, 18, 19, 8] [] (SL (.v (.slice none 0 0)) (.sl 1 0 (i64F g)) ⟨#[]⟩ (.v (.slice none 0 0)) 0 [] ⟨#[]⟩ 0) (OLg (.v (.slice none 0 0)) ⟨#[]⟩ (.v (.slice none 0 0)) [] ⟨#[]⟩)) false 154 [.tmp 8] (bodyOf Try.f3) [.v (.slice none 0 0), .v (.int .i64 n), .v (.string s), .sl 1 0 (i64F g)] [] =
  Tree.br (bif false then true else bif decide ((70000 : Int) < (↑s.size : Int)) then true else false)
  (Tree.leaf (Ans.mk (AV.v (Value.bool true)) []))
  (Tree.chk
    (cl
      (LeL [AV.v (Value.slice none (0 : Nat) (0 : Nat)), AV.v (Value.int IntKind.i64 n)]
          [AV.v (Value.slice none (0 : Nat) (0 : Nat)), AV.v (Value.int IntKind.i64 n)] ∧
        LeH [] []))
    (Tree.chk true
      (Tree.chk
        (bif okN n then
          bif true then true
          else
            decide ((0 : Nat) + (bif okN n then numB n.toNat else ByteArray.mk #[]).size ≤ (9223372036854775807 : Nat))
        else true)
        (Tree.br
          (bif okN n then
            bif true then true
            else
              bif
                  !decide
                      (ByteArray.mk #[] = ByteArray.mk #[] ++ bif okN n then numB n.toNat else ByteArray.mk #[]) then
                true
              else bif !okN n then false else false
          else bif !okN n then false else false)
          (Tree.leaf (Ans.mk (AV.v (Value.bool false)) []))
          (Tree.chk
            (cl
              (LeL [AV.v (Value.slice none (0 : Nat) (0 : Nat)), AV.v (Value.string s)]
                  [AV.v (Value.slice none (0 : Nat) (0 : Nat)), AV.v (Value.string s)] ∧
                LeH [] []))
            (Tree.br (decide ((65536 : Int) < (↑s.size : Int)))
              (Tree.br false (Tree.leaf (Ans.mk (AV.v (Value.bool false)) []))
                (Tree.chk
                  (cl
                    (LeL [AV.sl (1 : Nat) (0 : Nat) fun j => [AV.v (Value.int IntKind.i64 (g j))]]
                        [AV.sl (1 : Nat) (0 : Nat) fun j => [AV.v (Value.int IntKind.i64 (g j))]] ∧
                      LeH [] []))
                  (Tree.chk
                    (cl
                      (LeL
                          [AV.v (Value.slice none (0 : Nat) (0 : Nat)),
                            AV.sl (1 : Nat) (0 : Nat) fun j => [AV.v (Value.int IntKind.i64 (g j))],
                            AV.v (Value.string (ByteArray.mk #[])), AV.v (Value.slice none (0 : Nat) (0 : Nat)),
                            AV.v (Value.int IntKind.i64 (0 : Int)), AV.v (Value.string (ByteArray.mk #[])),
                            AV.v (Value.int IntKind.i64 (0 : Int)), AV.v (Value.bool false)]
                          [AV.v (Value.slice none (0 : Nat) (0 : Nat)),
                            AV.sl (1 : Nat) (0 : Nat) fun j => [AV.v (Value.int IntKind.i64 (g j))],
                            AV.v (Value.string (ByteArray.mk #[])), AV.v (Value.slice none (0 : Nat) (0 : Nat)),
                            AV.v (Value.int IntKind.i64 (0 : Int)), AV.v (Value.string (ByteArray.mk #[])),
                            AV.v (Value.int IntKind.i64 (↑(0 : Nat) : Int)), AV.any] ∧
                        LeH [] []))
                    (Tree.leaf (Ans.mk (AV.sb true) [])))))
              (Tree.chk
                (bif true then true
                else
                  true &&
                      decide
                        ((bif okN (↑s.size : Int) then numB (↑s.size : Int).toNat else ByteArray.mk #[]).size + s.size ≤
                          (9223372036854775807 : Nat)) &&
                    decide
                      ((0 : Nat) +
                          ((bif okN (↑s.size : Int) then numB (↑s.size : Int).toNat else ByteArray.mk #[]) ++ s).size ≤
                        (9223372036854775807 : Nat)))
                (Tree.br
                  (bif true then true
                  else
                    !decide
                        (ByteArray.mk #[] =
                          ByteArray.mk #[] ++
                            ((bif okN (↑s.size : Int) then numB (↑s.size : Int).toNat else ByteArray.mk #[]) ++ s)))
                  (Tree.leaf (Ans.mk (AV.v (Value.bool false)) []))
                  (Tree.chk
                    (cl
                      (LeL [AV.sl (1 : Nat) (0 : Nat) fun j => [AV.v (Value.int IntKind.i64 (g j))]]
                          [AV.sl (1 : Nat) (0 : Nat) fun j => [AV.v (Value.int IntKind.i64 (g j))]] ∧
                        LeH [] []))
                    (Tree.chk
                      (cl
                        (LeL
                            [AV.v (Value.slice none (0 : Nat) (0 : Nat)),
                              AV.sl (1 : Nat) (0 : Nat) fun j => [AV.v (Value.int IntKind.i64 (g j))],
                              AV.v (Value.string (ByteArray.mk #[])), AV.v (Value.slice none (0 : Nat) (0 : Nat)),
                              AV.v (Value.int IntKind.i64 (0 : Int)), AV.v (Value.string (ByteArray.mk #[])),
                              AV.v (Value.int IntKind.i64 (0 : Int)), AV.v (Value.bool false)]
                            [AV.v (Value.slice none (0 : Nat) (0 : Nat)),
                              AV.sl (1 : Nat) (0 : Nat) fun j => [AV.v (Value.int IntKind.i64 (g j))],
                              AV.v (Value.string (ByteArray.mk #[])), AV.v (Value.slice none (0 : Nat) (0 : Nat)),
                              AV.v (Value.int IntKind.i64 (0 : Int)), AV.v (Value.string (ByteArray.mk #[])),
                              AV.v (Value.int IntKind.i64 (↑(0 : Nat) : Int)), AV.any] ∧
                          LeH [] []))
                      (Tree.leaf (Ans.mk (AV.sb true) [])))))))))))) := by kernel_rfl
theorem lawWbbn0 (s : ByteArray) (hb : BA.nil.ok) (n : Int) (hn : n < 0 ∨ 4611686018427387904 < n) (hs : 65536 < s.size) (hs2 : s.size ≤ 4611686018427387904) (g : Nat → Int) (hl : (NA.sl 0 g).ok) : Right (bodyE (P := Try.prog) (Γ := Γw) [c6, CT.at 7 (ansBad BA.nil n hb hn), Z.c8, CT.at 9 (ansTextBad BA.nil s hb rfl hs hs2), Z.c10, CT.at 11 (ansNums0 g hl)] (fun _ => LSpec.at [0, 3, 9, 16, 17, 18, 19, 8] [] (SL (.v (.slice none 0 0)) (.sl 1 0 (i64F g)) ⟨#[]⟩ (.v (.slice none 0 0)) 0 [] ⟨#[]⟩ 0) (OLg (.v (.slice none 0 0)) ⟨#[]⟩ (.v (.slice none 0 0)) [] ⟨#[]⟩)) false 154 [.tmp 8] (bodyOf Try.f3) [.v (.slice none 0 0), .v (.int .i64 n), .v (.string s), .sl 1 0 (i64F g)] []) := by
  refine Right.of (runWbbn0 s hb n hn hs hs2 g hl) ?_
  refine ⟨fun _ => ⟨.refl _, trivial⟩, fun h0 => ?_⟩
  obtain ⟨h1, h2, h3⟩ := guard3 h0
  clear h0
  have q2 : s.size ≤ 70000 := by have := of_decide_eq_false h2; omega
  have q4 := (numB_size (show s.size ≤ 4611686018427387904 by omega)).1
  simp [okN_not hn, okN_of (show s.size ≤ 4611686018427387904 by omega), allBytes0, textOf0, allBytesF, textOfF, textOfF2, textOfF3, le_vv, allBytes_bsF, textOf_bsF, BA.t, LeL_self, LeH_self, cl_true, Tree.sat, cl_iff, textB, le_sbv, empty_append, append_empty, ByteArray.append_assoc]
  omega
theorem runWbbnm (s : ByteArray) (hb : BA.nil.ok) (n : Int) (hn : n < 0 ∨ 4611686018427387904 < n) (hs : 65536 < s.size) (hs2 : s.size ≤ 4611686018427387904) (m : Nat) (g : Nat → Int) (hl : (NA.sl (m + 1) g).ok) : bodyE (P := Try.prog) (Γ := Γw) [c6, CT.at 7 (ansBad BA.nil n hb hn), Z.c8, CT.at 9 (ansTextBad BA.nil s hb rfl hs hs2), Z.c10, CT.at 11 (ansNumsS m g hl)] (fun _ => LSpec.at [0, 3, 9, 16, 17, 18, 19, 8] [] (SL (.v (.slice none 0 0)) (.sl 1 (m + 1) (i64F g)) ⟨#[]⟩ (.hs 0 0 (catN g (m + 1)).size) 0 [some (.arr 1 (catN g (m + 1)).size (bsF (catN g (m + 1))))] ⟨#[]⟩ 0) (OLg (.v (.slice none 0 0)) ⟨#[]⟩ (.hs 0 0 (catN g (m + 1)).size) [some (.arr 1 (catN g (m + 1)).size (bsF (catN g (m + 1))))] (catN g (m + 1)))) false 154 [.tmp 8] (bodyOf Try.f3) [.v (.slice none 0 0), .v (.int .i64 n), .v (.string s), .sl 1 (m + 1) (i64F g)] [] =
  Tree.br
  (bif false then true
  else bif decide ((70000 : Int) < (↑s.size : Int)) then true else decide ((500 : Int) < (↑(m + (1 : Nat)) : Int)))
  (Tree.leaf (Ans.mk (AV.v (Value.bool true)) []))
  (Tree.chk
    (cl
      (LeL [AV.v (Value.slice none (0 : Nat) (0 : Nat)), AV.v (Value.int IntKind.i64 n)]
          [AV.v (Value.slice none (0 : Nat) (0 : Nat)), AV.v (Value.int IntKind.i64 n)] ∧
        LeH [] []))
    (Tree.chk true
      (Tree.chk
        (bif okN n then
          bif true then true
          else
            decide ((0 : Nat) + (bif okN n then numB n.toNat else ByteArray.mk #[]).size ≤ (9223372036854775807 : Nat))
        else true)
        (Tree.br
          (bif okN n then
            bif true then true
            else
              bif
                  !decide
                      (ByteArray.mk #[] = ByteArray.mk #[] ++ bif okN n then numB n.toNat else ByteArray.mk #[]) then
                true
              else bif !okN n then false else false
          else bif !okN n then false else false)
          (Tree.leaf (Ans.mk (AV.v (Value.bool false)) []))
          (Tree.chk
            (cl
              (LeL [AV.v (Value.slice none (0 : Nat) (0 : Nat)), AV.v (Value.string s)]
                  [AV.v (Value.slice none (0 : Nat) (0 : Nat)), AV.v (Value.string s)] ∧
                LeH [] []))
            (Tree.br (decide ((65536 : Int) < (↑s.size : Int)))
              (Tree.br false (Tree.leaf (Ans.mk (AV.v (Value.bool false)) []))
                (Tree.chk
                  (cl
                    (LeL [AV.sl (1 : Nat) (m + (1 : Nat)) fun j => [AV.v (Value.int IntKind.i64 (g j))]]
                        [AV.sl (1 : Nat) (m + (1 : Nat)) fun j => [AV.v (Value.int IntKind.i64 (g j))]] ∧
                      LeH [] []))
                  (Tree.chk
                    (cl
                      (LeL
                          [AV.v (Value.slice none (0 : Nat) (0 : Nat)),
                            AV.sl (1 : Nat) (m + (1 : Nat)) fun j => [AV.v (Value.int IntKind.i64 (g j))],
                            AV.v (Value.string (ByteArray.mk #[])),
                            AV.hs (0 : Nat) (0 : Nat) (catN g (m + (1 : Nat))).size,
                            AV.v (Value.int IntKind.i64 (0 : Int)), AV.v (Value.string (ByteArray.mk #[])),
                            AV.v (Value.int IntKind.i64 (0 : Int)), AV.v (Value.bool false)]
                          [AV.v (Value.slice none (0 : Nat) (0 : Nat)),
                            AV.sl (1 : Nat) (m + (1 : Nat)) fun j => [AV.v (Value.int IntKind.i64 (g j))],
                            AV.v (Value.string (ByteArray.mk #[])),
                            AV.hs (0 : Nat) (0 : Nat) (catN g (m + (1 : Nat))).size,
                            AV.v (Value.int IntKind.i64 (0 : Int)), AV.v (Value.string (ByteArray.mk #[])),
                            AV.v (Value.int IntKind.i64 (↑(0 : Nat) : Int)), AV.any] ∧
                        LeH
                          [some
                              (Blk.arr (1 : Nat) (catN g (m + (1 : Nat))).size fun j =>
                                [AV.v (Value.int IntKind.u8 (sbyte (catN g (m + (1 : Nat))) j))])]
                          [some
                              (Blk.arr (1 : Nat) (catN g (m + (1 : Nat))).size fun j =>
                                [AV.v (Value.int IntKind.u8 (sbyte (catN g (m + (1 : Nat))) j))])]))
                    (Tree.chk
                      (bif true then
                        allBytes (catN g (m + (1 : Nat))).size fun j =>
                          [AV.v (Value.int IntKind.u8 (sbyte (catN g (m + (1 : Nat))) ((0 : Nat) + j)))]
                      else true)
                      (Tree.leaf
                        (Ans.mk
                          (AV.sb
                            (bif true then
                              bif
                                  decide
                                    ((textOf (catN g (m + (1 : Nat))).size fun j =>
                                        [AV.v
                                            (Value.int IntKind.u8 (sbyte (catN g (m + (1 : Nat))) ((0 : Nat) + j)))]) =
                                      catN g (m + (1 : Nat))) then
                                true
                              else false
                            else false))
                          []))))))
              (Tree.chk
                (bif true then true
                else
                  true &&
                      decide
                        ((bif okN (↑s.size : Int) then numB (↑s.size : Int).toNat else ByteArray.mk #[]).size + s.size ≤
                          (9223372036854775807 : Nat)) &&
                    decide
                      ((0 : Nat) +
                          ((bif okN (↑s.size : Int) then numB (↑s.size : Int).toNat else ByteArray.mk #[]) ++ s).size ≤
                        (9223372036854775807 : Nat)))
                (Tree.br
                  (bif true then true
                  else
                    !decide
                        (ByteArray.mk #[] =
                          ByteArray.mk #[] ++
                            ((bif okN (↑s.size : Int) then numB (↑s.size : Int).toNat else ByteArray.mk #[]) ++ s)))
                  (Tree.leaf (Ans.mk (AV.v (Value.bool false)) []))
                  (Tree.chk
                    (cl
                      (LeL [AV.sl (1 : Nat) (m + (1 : Nat)) fun j => [AV.v (Value.int IntKind.i64 (g j))]]
                          [AV.sl (1 : Nat) (m + (1 : Nat)) fun j => [AV.v (Value.int IntKind.i64 (g j))]] ∧
                        LeH [] []))
                    (Tree.chk
                      (cl
                        (LeL
                            [AV.v (Value.slice none (0 : Nat) (0 : Nat)),
                              AV.sl (1 : Nat) (m + (1 : Nat)) fun j => [AV.v (Value.int IntKind.i64 (g j))],
                              AV.v (Value.string (ByteArray.mk #[])),
                              AV.hs (0 : Nat) (0 : Nat) (catN g (m + (1 : Nat))).size,
                              AV.v (Value.int IntKind.i64 (0 : Int)), AV.v (Value.string (ByteArray.mk #[])),
                              AV.v (Value.int IntKind.i64 (0 : Int)), AV.v (Value.bool false)]
                            [AV.v (Value.slice none (0 : Nat) (0 : Nat)),
                              AV.sl (1 : Nat) (m + (1 : Nat)) fun j => [AV.v (Value.int IntKind.i64 (g j))],
                              AV.v (Value.string (ByteArray.mk #[])),
                              AV.hs (0 : Nat) (0 : Nat) (catN g (m + (1 : Nat))).size,
                              AV.v (Value.int IntKind.i64 (0 : Int)), AV.v (Value.string (ByteArray.mk #[])),
                              AV.v (Value.int IntKind.i64 (↑(0 : Nat) : Int)), AV.any] ∧
                          LeH
                            [some
                                (Blk.arr (1 : Nat) (catN g (m + (1 : Nat))).size fun j =>
                                  [AV.v (Value.int IntKind.u8 (sbyte (catN g (m + (1 : Nat))) j))])]
                            [some
                                (Blk.arr (1 : Nat) (catN g (m + (1 : Nat))).size fun j =>
                                  [AV.v (Value.int IntKind.u8 (sbyte (catN g (m + (1 : Nat))) j))])]))
                      (Tree.chk
                        (bif true then
                          allBytes (catN g (m + (1 : Nat))).size fun j =>
                            [AV.v (Value.int IntKind.u8 (sbyte (catN g (m + (1 : Nat))) ((0 : Nat) + j)))]
                        else true)
                        (Tree.leaf
                          (Ans.mk
                            (AV.sb
                              (bif true then
                                bif
                                    decide
                                      ((textOf (catN g (m + (1 : Nat))).size fun j =>
                                          [AV.v
                                              (Value.int IntKind.u8
                                                (sbyte (catN g (m + (1 : Nat))) ((0 : Nat) + j)))]) =
                                        catN g (m + (1 : Nat))) then
                                  true
                                else false
                              else false))
                            []))))))))))))) := by kernel_rfl
theorem lawWbbnm (s : ByteArray) (hb : BA.nil.ok) (n : Int) (hn : n < 0 ∨ 4611686018427387904 < n) (hs : 65536 < s.size) (hs2 : s.size ≤ 4611686018427387904) (m : Nat) (g : Nat → Int) (hl : (NA.sl (m + 1) g).ok) : Right (bodyE (P := Try.prog) (Γ := Γw) [c6, CT.at 7 (ansBad BA.nil n hb hn), Z.c8, CT.at 9 (ansTextBad BA.nil s hb rfl hs hs2), Z.c10, CT.at 11 (ansNumsS m g hl)] (fun _ => LSpec.at [0, 3, 9, 16, 17, 18, 19, 8] [] (SL (.v (.slice none 0 0)) (.sl 1 (m + 1) (i64F g)) ⟨#[]⟩ (.hs 0 0 (catN g (m + 1)).size) 0 [some (.arr 1 (catN g (m + 1)).size (bsF (catN g (m + 1))))] ⟨#[]⟩ 0) (OLg (.v (.slice none 0 0)) ⟨#[]⟩ (.hs 0 0 (catN g (m + 1)).size) [some (.arr 1 (catN g (m + 1)).size (bsF (catN g (m + 1))))] (catN g (m + 1)))) false 154 [.tmp 8] (bodyOf Try.f3) [.v (.slice none 0 0), .v (.int .i64 n), .v (.string s), .sl 1 (m + 1) (i64F g)] []) := by
  refine Right.of (runWbbnm s hb n hn hs hs2 m g hl) ?_
  refine ⟨fun _ => ⟨.refl _, trivial⟩, fun h0 => ?_⟩
  obtain ⟨h1, h2, h3⟩ := guard3 h0
  clear h0
  have q2 : s.size ≤ 70000 := by have := of_decide_eq_false h2; omega
  have q4 := (numB_size (show s.size ≤ 4611686018427387904 by omega)).1
  have q5 := (catN_small (g := g) (i := m + 1) hl.1).1
  have q6 : m + 1 ≤ 500 := by have := of_decide_eq_false h3; omega
  simp [okN_not hn, okN_of (show s.size ≤ 4611686018427387904 by omega), allBytes0, textOf0, allBytesF, textOfF, textOfF2, textOfF3, le_vv, allBytes_bsF, textOf_bsF, BA.t, LeL_self, LeH_self, cl_true, Tree.sat, cl_iff, textB, le_sbv, empty_append, append_empty, ByteArray.append_assoc]
  omega
theorem runWbbnb (s : ByteArray) (hb : BA.nil.ok) (n : Int) (hn : n < 0 ∨ 4611686018427387904 < n) (hs : 65536 < s.size) (hs2 : s.size ≤ 4611686018427387904) (m : Nat) (g : Nat → Int) (c : Nat) (hc : c < m) (hok : ∀ j, j < c → okN (g j) = true) (hbad : okN (g c) = false) (hm : m ≤ 100000) : bodyE (P := Try.prog) (Γ := Γw) [c6, CT.at 7 (ansBad BA.nil n hb hn), Z.c8, CT.at 9 (ansTextBad BA.nil s hb rfl hs hs2), Z.c10, CT.at 11 (ansNumsBad m g c hc hok hbad hm)] (fun _ => LSpec.at [0, 3, 9, 16, 17, 18, 19, 8] [] (SL (.v (.slice none 0 0)) (.sl 1 m (i64F g)) ⟨#[]⟩ (.v (.slice none 0 0)) 10 [] ⟨#[]⟩ 0) OLb) false 154 [.tmp 8] (bodyOf Try.f3) [.v (.slice none 0 0), .v (.int .i64 n), .v (.string s), .sl 1 m (i64F g)] [] =
  Tree.br
  (bif false then true
  else bif decide ((70000 : Int) < (↑s.size : Int)) then true else decide ((500 : Int) < (↑m : Int)))
  (Tree.leaf (Ans.mk (AV.v (Value.bool true)) []))
  (Tree.chk
    (cl
      (LeL [AV.v (Value.slice none (0 : Nat) (0 : Nat)), AV.v (Value.int IntKind.i64 n)]
          [AV.v (Value.slice none (0 : Nat) (0 : Nat)), AV.v (Value.int IntKind.i64 n)] ∧
        LeH [] []))
    (Tree.chk true
      (Tree.chk
        (bif okN n then
          bif true then true
          else
            decide ((0 : Nat) + (bif okN n then numB n.toNat else ByteArray.mk #[]).size ≤ (9223372036854775807 : Nat))
        else true)
        (Tree.br
          (bif okN n then
            bif true then true
            else
              bif
                  !decide
                      (ByteArray.mk #[] = ByteArray.mk #[] ++ bif okN n then numB n.toNat else ByteArray.mk #[]) then
                true
              else bif !okN n then false else false
          else bif !okN n then false else false)
          (Tree.leaf (Ans.mk (AV.v (Value.bool false)) []))
          (Tree.chk
            (cl
              (LeL [AV.v (Value.slice none (0 : Nat) (0 : Nat)), AV.v (Value.string s)]
                  [AV.v (Value.slice none (0 : Nat) (0 : Nat)), AV.v (Value.string s)] ∧
                LeH [] []))
            (Tree.br (decide ((65536 : Int) < (↑s.size : Int)))
              (Tree.br false (Tree.leaf (Ans.mk (AV.v (Value.bool false)) []))
                (Tree.chk
                  (cl
                    (LeL [AV.sl (1 : Nat) m fun j => [AV.v (Value.int IntKind.i64 (g j))]]
                        [AV.sl (1 : Nat) m fun j => [AV.v (Value.int IntKind.i64 (g j))]] ∧
                      LeH [] []))
                  (Tree.chk
                    (cl
                      (LeL
                          [AV.v (Value.slice none (0 : Nat) (0 : Nat)),
                            AV.sl (1 : Nat) m fun j => [AV.v (Value.int IntKind.i64 (g j))],
                            AV.v (Value.string (ByteArray.mk #[])), AV.v (Value.slice none (0 : Nat) (0 : Nat)),
                            AV.v (Value.int IntKind.i64 (10 : Int)), AV.v (Value.string (ByteArray.mk #[])),
                            AV.v (Value.int IntKind.i64 (0 : Int)), AV.v (Value.bool false)]
                          [AV.v (Value.slice none (0 : Nat) (0 : Nat)),
                            AV.sl (1 : Nat) m fun j => [AV.v (Value.int IntKind.i64 (g j))],
                            AV.v (Value.string (ByteArray.mk #[])), AV.v (Value.slice none (0 : Nat) (0 : Nat)),
                            AV.v (Value.int IntKind.i64 (10 : Int)), AV.v (Value.string (ByteArray.mk #[])),
                            AV.v (Value.int IntKind.i64 (↑(0 : Nat) : Int)), AV.any] ∧
                        LeH [] []))
                    (Tree.leaf (Ans.mk (AV.sb true) [])))))
              (Tree.chk
                (bif true then true
                else
                  true &&
                      decide
                        ((bif okN (↑s.size : Int) then numB (↑s.size : Int).toNat else ByteArray.mk #[]).size + s.size ≤
                          (9223372036854775807 : Nat)) &&
                    decide
                      ((0 : Nat) +
                          ((bif okN (↑s.size : Int) then numB (↑s.size : Int).toNat else ByteArray.mk #[]) ++ s).size ≤
                        (9223372036854775807 : Nat)))
                (Tree.br
                  (bif true then true
                  else
                    !decide
                        (ByteArray.mk #[] =
                          ByteArray.mk #[] ++
                            ((bif okN (↑s.size : Int) then numB (↑s.size : Int).toNat else ByteArray.mk #[]) ++ s)))
                  (Tree.leaf (Ans.mk (AV.v (Value.bool false)) []))
                  (Tree.chk
                    (cl
                      (LeL [AV.sl (1 : Nat) m fun j => [AV.v (Value.int IntKind.i64 (g j))]]
                          [AV.sl (1 : Nat) m fun j => [AV.v (Value.int IntKind.i64 (g j))]] ∧
                        LeH [] []))
                    (Tree.chk
                      (cl
                        (LeL
                            [AV.v (Value.slice none (0 : Nat) (0 : Nat)),
                              AV.sl (1 : Nat) m fun j => [AV.v (Value.int IntKind.i64 (g j))],
                              AV.v (Value.string (ByteArray.mk #[])), AV.v (Value.slice none (0 : Nat) (0 : Nat)),
                              AV.v (Value.int IntKind.i64 (10 : Int)), AV.v (Value.string (ByteArray.mk #[])),
                              AV.v (Value.int IntKind.i64 (0 : Int)), AV.v (Value.bool false)]
                            [AV.v (Value.slice none (0 : Nat) (0 : Nat)),
                              AV.sl (1 : Nat) m fun j => [AV.v (Value.int IntKind.i64 (g j))],
                              AV.v (Value.string (ByteArray.mk #[])), AV.v (Value.slice none (0 : Nat) (0 : Nat)),
                              AV.v (Value.int IntKind.i64 (10 : Int)), AV.v (Value.string (ByteArray.mk #[])),
                              AV.v (Value.int IntKind.i64 (↑(0 : Nat) : Int)), AV.any] ∧
                          LeH [] []))
                      (Tree.leaf (Ans.mk (AV.sb true) [])))))))))))) := by kernel_rfl
theorem lawWbbnb (s : ByteArray) (hb : BA.nil.ok) (n : Int) (hn : n < 0 ∨ 4611686018427387904 < n) (hs : 65536 < s.size) (hs2 : s.size ≤ 4611686018427387904) (m : Nat) (g : Nat → Int) (c : Nat) (hc : c < m) (hok : ∀ j, j < c → okN (g j) = true) (hbad : okN (g c) = false) (hm : m ≤ 100000) : Right (bodyE (P := Try.prog) (Γ := Γw) [c6, CT.at 7 (ansBad BA.nil n hb hn), Z.c8, CT.at 9 (ansTextBad BA.nil s hb rfl hs hs2), Z.c10, CT.at 11 (ansNumsBad m g c hc hok hbad hm)] (fun _ => LSpec.at [0, 3, 9, 16, 17, 18, 19, 8] [] (SL (.v (.slice none 0 0)) (.sl 1 m (i64F g)) ⟨#[]⟩ (.v (.slice none 0 0)) 10 [] ⟨#[]⟩ 0) OLb) false 154 [.tmp 8] (bodyOf Try.f3) [.v (.slice none 0 0), .v (.int .i64 n), .v (.string s), .sl 1 m (i64F g)] []) := by
  refine Right.of (runWbbnb s hb n hn hs hs2 m g c hc hok hbad hm) ?_
  refine ⟨fun _ => ⟨.refl _, trivial⟩, fun h0 => ?_⟩
  obtain ⟨h1, h2, h3⟩ := guard3 h0
  clear h0
  have q2 : s.size ≤ 70000 := by have := of_decide_eq_false h2; omega
  have q4 := (numB_size (show s.size ≤ 4611686018427387904 by omega)).1
  simp [okN_not hn, okN_of (show s.size ≤ 4611686018427387904 by omega), allBytes0, textOf0, allBytesF, textOfF, textOfF2, textOfF3, le_vv, allBytes_bsF, textOf_bsF, BA.t, LeL_self, LeH_self, cl_true, Tree.sat, cl_iff, textB, le_sbv, empty_append, append_empty, ByteArray.append_assoc]
  omega
theorem runWbbsn (b : ByteArray) (s : ByteArray) (hb : (BA.sl b).ok) (n : Int) (hn : n < 0 ∨ 4611686018427387904 < n) (hs : 65536 < s.size) (hs2 : s.size ≤ 4611686018427387904) (hl : NA.nil.ok) : bodyE (P := Try.prog) (Γ := Γw) [c6, CT.at 7 (ansBad (BA.sl b) n hb hn), Z.c8, CT.at 9 (ansTextBad (BA.sl b) s hb rfl hs hs2), Z.c10, CT.at 11 (ansNumsN hl)] (fun _ => LSpec.at [0, 3, 9, 16, 17, 18, 19, 8] [] (SL (.sl 1 b.size (bsF b)) (.v (.slice none 0 0)) b (.v (.slice none 0 0)) 0 [] ⟨#[]⟩ 0) (OLg (.sl 1 b.size (bsF b)) b (.v (.slice none 0 0)) [] ⟨#[]⟩)) false 154 [.tmp 8] (bodyOf Try.f3) [.sl 1 b.size (bsF b), .v (.int .i64 n), .v (.string s), .v (.slice none 0 0)] [] =
  Tree.br
  (bif decide ((2000 : Int) < (↑b.size : Int)) then true
  else bif decide ((70000 : Int) < (↑s.size : Int)) then true else false)
  (Tree.leaf (Ans.mk (AV.v (Value.bool true)) []))
  (Tree.chk (allBytes b.size (bsF b))
    (Tree.chk
      (cl
        (LeL [AV.sl (1 : Nat) b.size fun j => [AV.v (Value.int IntKind.u8 (sbyte b j))], AV.v (Value.int IntKind.i64 n)]
            [AV.sl (1 : Nat) b.size fun j => [AV.v (Value.int IntKind.u8 (sbyte b j))],
              AV.v (Value.int IntKind.i64 n)] ∧
          LeH [] []))
      (Tree.chk true
        (Tree.chk
          (bif okN n then
            bif true then true
            else
              decide
                ((textOf b.size (bsF b)).size + (bif okN n then numB n.toNat else ByteArray.mk #[]).size ≤
                  (9223372036854775807 : Nat))
          else true)
          (Tree.br
            (bif okN n then
              bif true then true
              else
                bif
                    !decide
                        (ByteArray.mk #[] =
                          textOf b.size (bsF b) ++ bif okN n then numB n.toNat else ByteArray.mk #[]) then
                  true
                else bif !okN n then false else false
            else bif !okN n then false else false)
            (Tree.leaf (Ans.mk (AV.v (Value.bool false)) []))
            (Tree.chk
              (cl
                (LeL [AV.sl (1 : Nat) b.size fun j => [AV.v (Value.int IntKind.u8 (sbyte b j))], AV.v (Value.string s)]
                    [AV.sl (1 : Nat) b.size fun j => [AV.v (Value.int IntKind.u8 (sbyte b j))], AV.v (Value.string s)] ∧
                  LeH [] []))
              (Tree.br (decide ((65536 : Int) < (↑s.size : Int)))
                (Tree.br false (Tree.leaf (Ans.mk (AV.v (Value.bool false)) []))
                  (Tree.chk
                    (cl
                      (LeL [AV.v (Value.slice none (0 : Nat) (0 : Nat))] [AV.v (Value.slice none (0 : Nat) (0 : Nat))] ∧
                        LeH [] []))
                    (Tree.chk
                      (cl
                        (LeL
                            [AV.sl (1 : Nat) b.size fun j => [AV.v (Value.int IntKind.u8 (sbyte b j))],
                              AV.v (Value.slice none (0 : Nat) (0 : Nat)), AV.v (Value.string (textOf b.size (bsF b))),
                              AV.v (Value.slice none (0 : Nat) (0 : Nat)), AV.v (Value.int IntKind.i64 (0 : Int)),
                              AV.v (Value.string (ByteArray.mk #[])), AV.v (Value.int IntKind.i64 (0 : Int)),
                              AV.v (Value.bool false)]
                            [AV.sl (1 : Nat) b.size fun j => [AV.v (Value.int IntKind.u8 (sbyte b j))],
                              AV.v (Value.slice none (0 : Nat) (0 : Nat)), AV.v (Value.string b),
                              AV.v (Value.slice none (0 : Nat) (0 : Nat)), AV.v (Value.int IntKind.i64 (0 : Int)),
                              AV.v (Value.string (ByteArray.mk #[])), AV.v (Value.int IntKind.i64 (↑(0 : Nat) : Int)),
                              AV.any] ∧
                          LeH [] []))
                      (Tree.chk (bif true then bif true then allBytes b.size (bsF b) else true else true)
                        (Tree.leaf
                          (Ans.mk
                            (AV.sb
                              (bif true then bif true then decide (textOf b.size (bsF b) = b) else false else false))
                            []))))))
                (Tree.chk
                  (bif true then true
                  else
                    true &&
                        decide
                          ((bif okN (↑s.size : Int) then numB (↑s.size : Int).toNat else ByteArray.mk #[]).size +
                              s.size ≤
                            (9223372036854775807 : Nat)) &&
                      decide
                        ((textOf b.size (bsF b)).size +
                            ((bif okN (↑s.size : Int) then numB (↑s.size : Int).toNat else ByteArray.mk #[]) ++
                                s).size ≤
                          (9223372036854775807 : Nat)))
                  (Tree.br
                    (bif true then true
                    else
                      !decide
                          (ByteArray.mk #[] =
                            textOf b.size (bsF b) ++
                              ((bif okN (↑s.size : Int) then numB (↑s.size : Int).toNat else ByteArray.mk #[]) ++ s)))
                    (Tree.leaf (Ans.mk (AV.v (Value.bool false)) []))
                    (Tree.chk
                      (cl
                        (LeL [AV.v (Value.slice none (0 : Nat) (0 : Nat))]
                            [AV.v (Value.slice none (0 : Nat) (0 : Nat))] ∧
                          LeH [] []))
                      (Tree.chk
                        (cl
                          (LeL
                              [AV.sl (1 : Nat) b.size fun j => [AV.v (Value.int IntKind.u8 (sbyte b j))],
                                AV.v (Value.slice none (0 : Nat) (0 : Nat)),
                                AV.v (Value.string (textOf b.size (bsF b))),
                                AV.v (Value.slice none (0 : Nat) (0 : Nat)), AV.v (Value.int IntKind.i64 (0 : Int)),
                                AV.v (Value.string (ByteArray.mk #[])), AV.v (Value.int IntKind.i64 (0 : Int)),
                                AV.v (Value.bool false)]
                              [AV.sl (1 : Nat) b.size fun j => [AV.v (Value.int IntKind.u8 (sbyte b j))],
                                AV.v (Value.slice none (0 : Nat) (0 : Nat)), AV.v (Value.string b),
                                AV.v (Value.slice none (0 : Nat) (0 : Nat)), AV.v (Value.int IntKind.i64 (0 : Int)),
                                AV.v (Value.string (ByteArray.mk #[])), AV.v (Value.int IntKind.i64 (↑(0 : Nat) : Int)),
                                AV.any] ∧
                            LeH [] []))
                        (Tree.chk (bif true then bif true then allBytes b.size (bsF b) else true else true)
                          (Tree.leaf
                            (Ans.mk
                              (AV.sb
                                (bif true then bif true then decide (textOf b.size (bsF b) = b) else false else false))
                              [])))))))))))))) := by kernel_rfl
theorem lawWbbsn (b : ByteArray) (s : ByteArray) (hb : (BA.sl b).ok) (n : Int) (hn : n < 0 ∨ 4611686018427387904 < n) (hs : 65536 < s.size) (hs2 : s.size ≤ 4611686018427387904) (hl : NA.nil.ok) : Right (bodyE (P := Try.prog) (Γ := Γw) [c6, CT.at 7 (ansBad (BA.sl b) n hb hn), Z.c8, CT.at 9 (ansTextBad (BA.sl b) s hb rfl hs hs2), Z.c10, CT.at 11 (ansNumsN hl)] (fun _ => LSpec.at [0, 3, 9, 16, 17, 18, 19, 8] [] (SL (.sl 1 b.size (bsF b)) (.v (.slice none 0 0)) b (.v (.slice none 0 0)) 0 [] ⟨#[]⟩ 0) (OLg (.sl 1 b.size (bsF b)) b (.v (.slice none 0 0)) [] ⟨#[]⟩)) false 154 [.tmp 8] (bodyOf Try.f3) [.sl 1 b.size (bsF b), .v (.int .i64 n), .v (.string s), .v (.slice none 0 0)] []) := by
  refine Right.of (runWbbsn b s hb n hn hs hs2 hl) ?_
  refine ⟨fun _ => ⟨.refl _, trivial⟩, fun h0 => ?_⟩
  obtain ⟨h1, h2, h3⟩ := guard3 h0
  clear h0
  have q1 : b.size ≤ 2000 := by have := of_decide_eq_false h1; omega
  have q2 : s.size ≤ 70000 := by have := of_decide_eq_false h2; omega
  have q4 := (numB_size (show s.size ≤ 4611686018427387904 by omega)).1
  simp [okN_not hn, okN_of (show s.size ≤ 4611686018427387904 by omega), allBytes0, textOf0, allBytesF, textOfF, textOfF2, textOfF3, le_vv, allBytes_bsF, textOf_bsF, BA.t, LeL_self, LeH_self, cl_true, Tree.sat, cl_iff, textB, le_sbv, empty_append, append_empty, ByteArray.append_assoc]
  omega
theorem runWbbs0 (b : ByteArray) (s : ByteArray) (hb : (BA.sl b).ok) (n : Int) (hn : n < 0 ∨ 4611686018427387904 < n) (hs : 65536 < s.size) (hs2 : s.size ≤ 4611686018427387904) (g : Nat → Int) (hl : (NA.sl 0 g).ok) : bodyE (P := Try.prog) (Γ := Γw) [c6, CT.at 7 (ansBad (BA.sl b) n hb hn), Z.c8, CT.at 9 (ansTextBad (BA.sl b) s hb rfl hs hs2), Z.c10, CT.at 11 (ansNums0 g hl)] (fun _ => LSpec.at [0, 3, 9, 16, 17, 18, 19, 8] [] (SL (.sl 1 b.size (bsF b)) (.sl 1 0 (i64F g)) b (.v (.slice none 0 0)) 0 [] ⟨#[]⟩ 0) (OLg (.sl 1 b.size (bsF b)) b (.v (.slice none 0 0)) [] ⟨#[]⟩)) false 154 [.tmp 8] (bodyOf Try.f3) [.sl 1 b.size (bsF b), .v (.int .i64 n), .v (.string s), .sl 1 0 (i64F g)] [] =
  Tree.br
  (bif decide ((2000 : Int) < (↑b.size : Int)) then true
  else bif decide ((70000 : Int) < (↑s.size : Int)) then true else false)
  (Tree.leaf (Ans.mk (AV.v (Value.bool true)) []))
  (Tree.chk (allBytes b.size (bsF b))
    (Tree.chk
      (cl
        (LeL [AV.sl (1 : Nat) b.size fun j => [AV.v (Value.int IntKind.u8 (sbyte b j))], AV.v (Value.int IntKind.i64 n)]
            [AV.sl (1 : Nat) b.size fun j => [AV.v (Value.int IntKind.u8 (sbyte b j))],
              AV.v (Value.int IntKind.i64 n)] ∧
          LeH [] []))
      (Tree.chk true
        (Tree.chk
          (bif okN n then
            bif true then true
            else
              decide
                ((textOf b.size (bsF b)).size + (bif okN n then numB n.toNat else ByteArray.mk #[]).size ≤
                  (9223372036854775807 : Nat))
          else true)
          (Tree.br
            (bif okN n then
              bif true then true
              else
                bif
                    !decide
                        (ByteArray.mk #[] =
                          textOf b.size (bsF b) ++ bif okN n then numB n.toNat else ByteArray.mk #[]) then
                  true
                else bif !okN n then false else false
            else bif !okN n then false else false)
            (Tree.leaf (Ans.mk (AV.v (Value.bool false)) []))
            (Tree.chk
              (cl
                (LeL [AV.sl (1 : Nat) b.size fun j => [AV.v (Value.int IntKind.u8 (sbyte b j))], AV.v (Value.string s)]
                    [AV.sl (1 : Nat) b.size fun j => [AV.v (Value.int IntKind.u8 (sbyte b j))], AV.v (Value.string s)] ∧
                  LeH [] []))
              (Tree.br (decide ((65536 : Int) < (↑s.size : Int)))
                (Tree.br false (Tree.leaf (Ans.mk (AV.v (Value.bool false)) []))
                  (Tree.chk
                    (cl
                      (LeL [AV.sl (1 : Nat) (0 : Nat) fun j => [AV.v (Value.int IntKind.i64 (g j))]]
                          [AV.sl (1 : Nat) (0 : Nat) fun j => [AV.v (Value.int IntKind.i64 (g j))]] ∧
                        LeH [] []))
                    (Tree.chk
                      (cl
                        (LeL
                            [AV.sl (1 : Nat) b.size fun j => [AV.v (Value.int IntKind.u8 (sbyte b j))],
                              AV.sl (1 : Nat) (0 : Nat) fun j => [AV.v (Value.int IntKind.i64 (g j))],
                              AV.v (Value.string (textOf b.size (bsF b))), AV.v (Value.slice none (0 : Nat) (0 : Nat)),
                              AV.v (Value.int IntKind.i64 (0 : Int)), AV.v (Value.string (ByteArray.mk #[])),
                              AV.v (Value.int IntKind.i64 (0 : Int)), AV.v (Value.bool false)]
                            [AV.sl (1 : Nat) b.size fun j => [AV.v (Value.int IntKind.u8 (sbyte b j))],
                              AV.sl (1 : Nat) (0 : Nat) fun j => [AV.v (Value.int IntKind.i64 (g j))],
                              AV.v (Value.string b), AV.v (Value.slice none (0 : Nat) (0 : Nat)),
                              AV.v (Value.int IntKind.i64 (0 : Int)), AV.v (Value.string (ByteArray.mk #[])),
                              AV.v (Value.int IntKind.i64 (↑(0 : Nat) : Int)), AV.any] ∧
                          LeH [] []))
                      (Tree.chk (bif true then bif true then allBytes b.size (bsF b) else true else true)
                        (Tree.leaf
                          (Ans.mk
                            (AV.sb
                              (bif true then bif true then decide (textOf b.size (bsF b) = b) else false else false))
                            []))))))
                (Tree.chk
                  (bif true then true
                  else
                    true &&
                        decide
                          ((bif okN (↑s.size : Int) then numB (↑s.size : Int).toNat else ByteArray.mk #[]).size +
                              s.size ≤
                            (9223372036854775807 : Nat)) &&
                      decide
                        ((textOf b.size (bsF b)).size +
                            ((bif okN (↑s.size : Int) then numB (↑s.size : Int).toNat else ByteArray.mk #[]) ++
                                s).size ≤
                          (9223372036854775807 : Nat)))
                  (Tree.br
                    (bif true then true
                    else
                      !decide
                          (ByteArray.mk #[] =
                            textOf b.size (bsF b) ++
                              ((bif okN (↑s.size : Int) then numB (↑s.size : Int).toNat else ByteArray.mk #[]) ++ s)))
                    (Tree.leaf (Ans.mk (AV.v (Value.bool false)) []))
                    (Tree.chk
                      (cl
                        (LeL [AV.sl (1 : Nat) (0 : Nat) fun j => [AV.v (Value.int IntKind.i64 (g j))]]
                            [AV.sl (1 : Nat) (0 : Nat) fun j => [AV.v (Value.int IntKind.i64 (g j))]] ∧
                          LeH [] []))
                      (Tree.chk
                        (cl
                          (LeL
                              [AV.sl (1 : Nat) b.size fun j => [AV.v (Value.int IntKind.u8 (sbyte b j))],
                                AV.sl (1 : Nat) (0 : Nat) fun j => [AV.v (Value.int IntKind.i64 (g j))],
                                AV.v (Value.string (textOf b.size (bsF b))),
                                AV.v (Value.slice none (0 : Nat) (0 : Nat)), AV.v (Value.int IntKind.i64 (0 : Int)),
                                AV.v (Value.string (ByteArray.mk #[])), AV.v (Value.int IntKind.i64 (0 : Int)),
                                AV.v (Value.bool false)]
                              [AV.sl (1 : Nat) b.size fun j => [AV.v (Value.int IntKind.u8 (sbyte b j))],
                                AV.sl (1 : Nat) (0 : Nat) fun j => [AV.v (Value.int IntKind.i64 (g j))],
                                AV.v (Value.string b), AV.v (Value.slice none (0 : Nat) (0 : Nat)),
                                AV.v (Value.int IntKind.i64 (0 : Int)), AV.v (Value.string (ByteArray.mk #[])),
                                AV.v (Value.int IntKind.i64 (↑(0 : Nat) : Int)), AV.any] ∧
                            LeH [] []))
                        (Tree.chk (bif true then bif true then allBytes b.size (bsF b) else true else true)
                          (Tree.leaf
                            (Ans.mk
                              (AV.sb
                                (bif true then bif true then decide (textOf b.size (bsF b) = b) else false else false))
                              [])))))))))))))) := by kernel_rfl
theorem lawWbbs0 (b : ByteArray) (s : ByteArray) (hb : (BA.sl b).ok) (n : Int) (hn : n < 0 ∨ 4611686018427387904 < n) (hs : 65536 < s.size) (hs2 : s.size ≤ 4611686018427387904) (g : Nat → Int) (hl : (NA.sl 0 g).ok) : Right (bodyE (P := Try.prog) (Γ := Γw) [c6, CT.at 7 (ansBad (BA.sl b) n hb hn), Z.c8, CT.at 9 (ansTextBad (BA.sl b) s hb rfl hs hs2), Z.c10, CT.at 11 (ansNums0 g hl)] (fun _ => LSpec.at [0, 3, 9, 16, 17, 18, 19, 8] [] (SL (.sl 1 b.size (bsF b)) (.sl 1 0 (i64F g)) b (.v (.slice none 0 0)) 0 [] ⟨#[]⟩ 0) (OLg (.sl 1 b.size (bsF b)) b (.v (.slice none 0 0)) [] ⟨#[]⟩)) false 154 [.tmp 8] (bodyOf Try.f3) [.sl 1 b.size (bsF b), .v (.int .i64 n), .v (.string s), .sl 1 0 (i64F g)] []) := by
  refine Right.of (runWbbs0 b s hb n hn hs hs2 g hl) ?_
  refine ⟨fun _ => ⟨.refl _, trivial⟩, fun h0 => ?_⟩
  obtain ⟨h1, h2, h3⟩ := guard3 h0
  clear h0
  have q1 : b.size ≤ 2000 := by have := of_decide_eq_false h1; omega
  have q2 : s.size ≤ 70000 := by have := of_decide_eq_false h2; omega
  have q4 := (numB_size (show s.size ≤ 4611686018427387904 by omega)).1
  simp [okN_not hn, okN_of (show s.size ≤ 4611686018427387904 by omega), allBytes0, textOf0, allBytesF, textOfF, textOfF2, textOfF3, le_vv, allBytes_bsF, textOf_bsF, BA.t, LeL_self, LeH_self, cl_true, Tree.sat, cl_iff, textB, le_sbv, empty_append, append_empty, ByteArray.append_assoc]
  omega
theorem runWbbsm (b : ByteArray) (s : ByteArray) (hb : (BA.sl b).ok) (n : Int) (hn : n < 0 ∨ 4611686018427387904 < n) (hs : 65536 < s.size) (hs2 : s.size ≤ 4611686018427387904) (m : Nat) (g : Nat → Int) (hl : (NA.sl (m + 1) g).ok) : bodyE (P := Try.prog) (Γ := Γw) [c6, CT.at 7 (ansBad (BA.sl b) n hb hn), Z.c8, CT.at 9 (ansTextBad (BA.sl b) s hb rfl hs hs2), Z.c10, CT.at 11 (ansNumsS m g hl)] (fun _ => LSpec.at [0, 3, 9, 16, 17, 18, 19, 8] [] (SL (.sl 1 b.size (bsF b)) (.sl 1 (m + 1) (i64F g)) b (.hs 0 0 (catN g (m + 1)).size) 0 [some (.arr 1 (catN g (m + 1)).size (bsF (catN g (m + 1))))] ⟨#[]⟩ 0) (OLg (.sl 1 b.size (bsF b)) b (.hs 0 0 (catN g (m + 1)).size) [some (.arr 1 (catN g (m + 1)).size (bsF (catN g (m + 1))))] (catN g (m + 1)))) false 154 [.tmp 8] (bodyOf Try.f3) [.sl 1 b.size (bsF b), .v (.int .i64 n), .v (.string s), .sl 1 (m + 1) (i64F g)] [] =
  Tree.br
  (bif decide ((2000 : Int) < (↑b.size : Int)) then true
  else bif decide ((70000 : Int) < (↑s.size : Int)) then true else decide ((500 : Int) < (↑(m + (1 : Nat)) : Int)))
  (Tree.leaf (Ans.mk (AV.v (Value.bool true)) []))
  (Tree.chk (allBytes b.size (bsF b))
    (Tree.chk
      (cl
        (LeL [AV.sl (1 : Nat) b.size fun j => [AV.v (Value.int IntKind.u8 (sbyte b j))], AV.v (Value.int IntKind.i64 n)]
            [AV.sl (1 : Nat) b.size fun j => [AV.v (Value.int IntKind.u8 (sbyte b j))],
              AV.v (Value.int IntKind.i64 n)] ∧
          LeH [] []))
      (Tree.chk true
        (Tree.chk
          (bif okN n then
            bif true then true
            else
              decide
                ((textOf b.size (bsF b)).size + (bif okN n then numB n.toNat else ByteArray.mk #[]).size ≤
                  (9223372036854775807 : Nat))
          else true)
          (Tree.br
            (bif okN n then
              bif true then true
              else
                bif
                    !decide
                        (ByteArray.mk #[] =
                          textOf b.size (bsF b) ++ bif okN n then numB n.toNat else ByteArray.mk #[]) then
                  true
                else bif !okN n then false else false
            else bif !okN n then false else false)
            (Tree.leaf (Ans.mk (AV.v (Value.bool false)) []))
            (Tree.chk
              (cl
                (LeL [AV.sl (1 : Nat) b.size fun j => [AV.v (Value.int IntKind.u8 (sbyte b j))], AV.v (Value.string s)]
                    [AV.sl (1 : Nat) b.size fun j => [AV.v (Value.int IntKind.u8 (sbyte b j))], AV.v (Value.string s)] ∧
                  LeH [] []))
              (Tree.br (decide ((65536 : Int) < (↑s.size : Int)))
                (Tree.br false (Tree.leaf (Ans.mk (AV.v (Value.bool false)) []))
                  (Tree.chk
                    (cl
                      (LeL [AV.sl (1 : Nat) (m + (1 : Nat)) fun j => [AV.v (Value.int IntKind.i64 (g j))]]
                          [AV.sl (1 : Nat) (m + (1 : Nat)) fun j => [AV.v (Value.int IntKind.i64 (g j))]] ∧
                        LeH [] []))
                    (Tree.chk
                      (cl
                        (LeL
                            [AV.sl (1 : Nat) b.size fun j => [AV.v (Value.int IntKind.u8 (sbyte b j))],
                              AV.sl (1 : Nat) (m + (1 : Nat)) fun j => [AV.v (Value.int IntKind.i64 (g j))],
                              AV.v (Value.string (textOf b.size (bsF b))),
                              AV.hs (0 : Nat) (0 : Nat) (catN g (m + (1 : Nat))).size,
                              AV.v (Value.int IntKind.i64 (0 : Int)), AV.v (Value.string (ByteArray.mk #[])),
                              AV.v (Value.int IntKind.i64 (0 : Int)), AV.v (Value.bool false)]
                            [AV.sl (1 : Nat) b.size fun j => [AV.v (Value.int IntKind.u8 (sbyte b j))],
                              AV.sl (1 : Nat) (m + (1 : Nat)) fun j => [AV.v (Value.int IntKind.i64 (g j))],
                              AV.v (Value.string b), AV.hs (0 : Nat) (0 : Nat) (catN g (m + (1 : Nat))).size,
                              AV.v (Value.int IntKind.i64 (0 : Int)), AV.v (Value.string (ByteArray.mk #[])),
                              AV.v (Value.int IntKind.i64 (↑(0 : Nat) : Int)), AV.any] ∧
                          LeH
                            [some
                                (Blk.arr (1 : Nat) (catN g (m + (1 : Nat))).size fun j =>
                                  [AV.v (Value.int IntKind.u8 (sbyte (catN g (m + (1 : Nat))) j))])]
                            [some
                                (Blk.arr (1 : Nat) (catN g (m + (1 : Nat))).size fun j =>
                                  [AV.v (Value.int IntKind.u8 (sbyte (catN g (m + (1 : Nat))) j))])]))
                      (Tree.chk
                        (bif true then
                          (allBytes (catN g (m + (1 : Nat))).size fun j =>
                              [AV.v (Value.int IntKind.u8 (sbyte (catN g (m + (1 : Nat))) ((0 : Nat) + j)))]) &&
                            bif
                                decide
                                  ((textOf (catN g (m + (1 : Nat))).size fun j =>
                                      [AV.v (Value.int IntKind.u8 (sbyte (catN g (m + (1 : Nat))) ((0 : Nat) + j)))]) =
                                    catN g (m + (1 : Nat))) then
                              allBytes b.size (bsF b)
                            else true
                        else true)
                        (Tree.leaf
                          (Ans.mk
                            (AV.sb
                              (bif true then
                                bif
                                    decide
                                      ((textOf (catN g (m + (1 : Nat))).size fun j =>
                                          [AV.v
                                              (Value.int IntKind.u8
                                                (sbyte (catN g (m + (1 : Nat))) ((0 : Nat) + j)))]) =
                                        catN g (m + (1 : Nat))) then
                                  decide (textOf b.size (bsF b) = b)
                                else false
                              else false))
                            []))))))
                (Tree.chk
                  (bif true then true
                  else
                    true &&
                        decide
                          ((bif okN (↑s.size : Int) then numB (↑s.size : Int).toNat else ByteArray.mk #[]).size +
                              s.size ≤
                            (9223372036854775807 : Nat)) &&
                      decide
                        ((textOf b.size (bsF b)).size +
                            ((bif okN (↑s.size : Int) then numB (↑s.size : Int).toNat else ByteArray.mk #[]) ++
                                s).size ≤
                          (9223372036854775807 : Nat)))
                  (Tree.br
                    (bif true then true
                    else
                      !decide
                          (ByteArray.mk #[] =
                            textOf b.size (bsF b) ++
                              ((bif okN (↑s.size : Int) then numB (↑s.size : Int).toNat else ByteArray.mk #[]) ++ s)))
                    (Tree.leaf (Ans.mk (AV.v (Value.bool false)) []))
                    (Tree.chk
                      (cl
                        (LeL [AV.sl (1 : Nat) (m + (1 : Nat)) fun j => [AV.v (Value.int IntKind.i64 (g j))]]
                            [AV.sl (1 : Nat) (m + (1 : Nat)) fun j => [AV.v (Value.int IntKind.i64 (g j))]] ∧
                          LeH [] []))
                      (Tree.chk
                        (cl
                          (LeL
                              [AV.sl (1 : Nat) b.size fun j => [AV.v (Value.int IntKind.u8 (sbyte b j))],
                                AV.sl (1 : Nat) (m + (1 : Nat)) fun j => [AV.v (Value.int IntKind.i64 (g j))],
                                AV.v (Value.string (textOf b.size (bsF b))),
                                AV.hs (0 : Nat) (0 : Nat) (catN g (m + (1 : Nat))).size,
                                AV.v (Value.int IntKind.i64 (0 : Int)), AV.v (Value.string (ByteArray.mk #[])),
                                AV.v (Value.int IntKind.i64 (0 : Int)), AV.v (Value.bool false)]
                              [AV.sl (1 : Nat) b.size fun j => [AV.v (Value.int IntKind.u8 (sbyte b j))],
                                AV.sl (1 : Nat) (m + (1 : Nat)) fun j => [AV.v (Value.int IntKind.i64 (g j))],
                                AV.v (Value.string b), AV.hs (0 : Nat) (0 : Nat) (catN g (m + (1 : Nat))).size,
                                AV.v (Value.int IntKind.i64 (0 : Int)), AV.v (Value.string (ByteArray.mk #[])),
                                AV.v (Value.int IntKind.i64 (↑(0 : Nat) : Int)), AV.any] ∧
                            LeH
                              [some
                                  (Blk.arr (1 : Nat) (catN g (m + (1 : Nat))).size fun j =>
                                    [AV.v (Value.int IntKind.u8 (sbyte (catN g (m + (1 : Nat))) j))])]
                              [some
                                  (Blk.arr (1 : Nat) (catN g (m + (1 : Nat))).size fun j =>
                                    [AV.v (Value.int IntKind.u8 (sbyte (catN g (m + (1 : Nat))) j))])]))
                        (Tree.chk
                          (bif true then
                            (allBytes (catN g (m + (1 : Nat))).size fun j =>
                                [AV.v (Value.int IntKind.u8 (sbyte (catN g (m + (1 : Nat))) ((0 : Nat) + j)))]) &&
                              bif
                                  decide
                                    ((textOf (catN g (m + (1 : Nat))).size fun j =>
                                        [AV.v
                                            (Value.int IntKind.u8 (sbyte (catN g (m + (1 : Nat))) ((0 : Nat) + j)))]) =
                                      catN g (m + (1 : Nat))) then
                                allBytes b.size (bsF b)
                              else true
                          else true)
                          (Tree.leaf
                            (Ans.mk
                              (AV.sb
                                (bif true then
                                  bif
                                      decide
                                        ((textOf (catN g (m + (1 : Nat))).size fun j =>
                                            [AV.v
                                                (Value.int IntKind.u8
                                                  (sbyte (catN g (m + (1 : Nat))) ((0 : Nat) + j)))]) =
                                          catN g (m + (1 : Nat))) then
                                    decide (textOf b.size (bsF b) = b)
                                  else false
                                else false))
                              [])))))))))))))) := by kernel_rfl
theorem lawWbbsm (b : ByteArray) (s : ByteArray) (hb : (BA.sl b).ok) (n : Int) (hn : n < 0 ∨ 4611686018427387904 < n) (hs : 65536 < s.size) (hs2 : s.size ≤ 4611686018427387904) (m : Nat) (g : Nat → Int) (hl : (NA.sl (m + 1) g).ok) : Right (bodyE (P := Try.prog) (Γ := Γw) [c6, CT.at 7 (ansBad (BA.sl b) n hb hn), Z.c8, CT.at 9 (ansTextBad (BA.sl b) s hb rfl hs hs2), Z.c10, CT.at 11 (ansNumsS m g hl)] (fun _ => LSpec.at [0, 3, 9, 16, 17, 18, 19, 8] [] (SL (.sl 1 b.size (bsF b)) (.sl 1 (m + 1) (i64F g)) b (.hs 0 0 (catN g (m + 1)).size) 0 [some (.arr 1 (catN g (m + 1)).size (bsF (catN g (m + 1))))] ⟨#[]⟩ 0) (OLg (.sl 1 b.size (bsF b)) b (.hs 0 0 (catN g (m + 1)).size) [some (.arr 1 (catN g (m + 1)).size (bsF (catN g (m + 1))))] (catN g (m + 1)))) false 154 [.tmp 8] (bodyOf Try.f3) [.sl 1 b.size (bsF b), .v (.int .i64 n), .v (.string s), .sl 1 (m + 1) (i64F g)] []) := by
  refine Right.of (runWbbsm b s hb n hn hs hs2 m g hl) ?_
  refine ⟨fun _ => ⟨.refl _, trivial⟩, fun h0 => ?_⟩
  obtain ⟨h1, h2, h3⟩ := guard3 h0
  clear h0
  have q1 : b.size ≤ 2000 := by have := of_decide_eq_false h1; omega
  have q2 : s.size ≤ 70000 := by have := of_decide_eq_false h2; omega
  have q4 := (numB_size (show s.size ≤ 4611686018427387904 by omega)).1
  have q5 := (catN_small (g := g) (i := m + 1) hl.1).1
  have q6 : m + 1 ≤ 500 := by have := of_decide_eq_false h3; omega
  simp [okN_not hn, okN_of (show s.size ≤ 4611686018427387904 by omega), allBytes0, textOf0, allBytesF, textOfF, textOfF2, textOfF3, le_vv, allBytes_bsF, textOf_bsF, BA.t, LeL_self, LeH_self, cl_true, Tree.sat, cl_iff, textB, le_sbv, empty_append, append_empty, ByteArray.append_assoc]
  omega
theorem runWbbsb (b : ByteArray) (s : ByteArray) (hb : (BA.sl b).ok) (n : Int) (hn : n < 0 ∨ 4611686018427387904 < n) (hs : 65536 < s.size) (hs2 : s.size ≤ 4611686018427387904) (m : Nat) (g : Nat → Int) (c : Nat) (hc : c < m) (hok : ∀ j, j < c → okN (g j) = true) (hbad : okN (g c) = false) (hm : m ≤ 100000) : bodyE (P := Try.prog) (Γ := Γw) [c6, CT.at 7 (ansBad (BA.sl b) n hb hn), Z.c8, CT.at 9 (ansTextBad (BA.sl b) s hb rfl hs hs2), Z.c10, CT.at 11 (ansNumsBad m g c hc hok hbad hm)] (fun _ => LSpec.at [0, 3, 9, 16, 17, 18, 19, 8] [] (SL (.sl 1 b.size (bsF b)) (.sl 1 m (i64F g)) b (.v (.slice none 0 0)) 10 [] ⟨#[]⟩ 0) OLb) false 154 [.tmp 8] (bodyOf Try.f3) [.sl 1 b.size (bsF b), .v (.int .i64 n), .v (.string s), .sl 1 m (i64F g)] [] =
  Tree.br
  (bif decide ((2000 : Int) < (↑b.size : Int)) then true
  else bif decide ((70000 : Int) < (↑s.size : Int)) then true else decide ((500 : Int) < (↑m : Int)))
  (Tree.leaf (Ans.mk (AV.v (Value.bool true)) []))
  (Tree.chk (allBytes b.size (bsF b))
    (Tree.chk
      (cl
        (LeL [AV.sl (1 : Nat) b.size fun j => [AV.v (Value.int IntKind.u8 (sbyte b j))], AV.v (Value.int IntKind.i64 n)]
            [AV.sl (1 : Nat) b.size fun j => [AV.v (Value.int IntKind.u8 (sbyte b j))],
              AV.v (Value.int IntKind.i64 n)] ∧
          LeH [] []))
      (Tree.chk true
        (Tree.chk
          (bif okN n then
            bif true then true
            else
              decide
                ((textOf b.size (bsF b)).size + (bif okN n then numB n.toNat else ByteArray.mk #[]).size ≤
                  (9223372036854775807 : Nat))
          else true)
          (Tree.br
            (bif okN n then
              bif true then true
              else
                bif
                    !decide
                        (ByteArray.mk #[] =
                          textOf b.size (bsF b) ++ bif okN n then numB n.toNat else ByteArray.mk #[]) then
                  true
                else bif !okN n then false else false
            else bif !okN n then false else false)
            (Tree.leaf (Ans.mk (AV.v (Value.bool false)) []))
            (Tree.chk
              (cl
                (LeL [AV.sl (1 : Nat) b.size fun j => [AV.v (Value.int IntKind.u8 (sbyte b j))], AV.v (Value.string s)]
                    [AV.sl (1 : Nat) b.size fun j => [AV.v (Value.int IntKind.u8 (sbyte b j))], AV.v (Value.string s)] ∧
                  LeH [] []))
              (Tree.br (decide ((65536 : Int) < (↑s.size : Int)))
                (Tree.br false (Tree.leaf (Ans.mk (AV.v (Value.bool false)) []))
                  (Tree.chk
                    (cl
                      (LeL [AV.sl (1 : Nat) m fun j => [AV.v (Value.int IntKind.i64 (g j))]]
                          [AV.sl (1 : Nat) m fun j => [AV.v (Value.int IntKind.i64 (g j))]] ∧
                        LeH [] []))
                    (Tree.chk
                      (cl
                        (LeL
                            [AV.sl (1 : Nat) b.size fun j => [AV.v (Value.int IntKind.u8 (sbyte b j))],
                              AV.sl (1 : Nat) m fun j => [AV.v (Value.int IntKind.i64 (g j))],
                              AV.v (Value.string (textOf b.size (bsF b))), AV.v (Value.slice none (0 : Nat) (0 : Nat)),
                              AV.v (Value.int IntKind.i64 (10 : Int)), AV.v (Value.string (ByteArray.mk #[])),
                              AV.v (Value.int IntKind.i64 (0 : Int)), AV.v (Value.bool false)]
                            [AV.sl (1 : Nat) b.size fun j => [AV.v (Value.int IntKind.u8 (sbyte b j))],
                              AV.sl (1 : Nat) m fun j => [AV.v (Value.int IntKind.i64 (g j))], AV.v (Value.string b),
                              AV.v (Value.slice none (0 : Nat) (0 : Nat)), AV.v (Value.int IntKind.i64 (10 : Int)),
                              AV.v (Value.string (ByteArray.mk #[])), AV.v (Value.int IntKind.i64 (↑(0 : Nat) : Int)),
                              AV.any] ∧
                          LeH [] []))
                      (Tree.leaf (Ans.mk (AV.sb true) [])))))
                (Tree.chk
                  (bif true then true
                  else
                    true &&
                        decide
                          ((bif okN (↑s.size : Int) then numB (↑s.size : Int).toNat else ByteArray.mk #[]).size +
                              s.size ≤
                            (9223372036854775807 : Nat)) &&
                      decide
                        ((textOf b.size (bsF b)).size +
                            ((bif okN (↑s.size : Int) then numB (↑s.size : Int).toNat else ByteArray.mk #[]) ++
                                s).size ≤
                          (9223372036854775807 : Nat)))
                  (Tree.br
                    (bif true then true
                    else
                      !decide
                          (ByteArray.mk #[] =
                            textOf b.size (bsF b) ++
                              ((bif okN (↑s.size : Int) then numB (↑s.size : Int).toNat else ByteArray.mk #[]) ++ s)))
                    (Tree.leaf (Ans.mk (AV.v (Value.bool false)) []))
                    (Tree.chk
                      (cl
                        (LeL [AV.sl (1 : Nat) m fun j => [AV.v (Value.int IntKind.i64 (g j))]]
                            [AV.sl (1 : Nat) m fun j => [AV.v (Value.int IntKind.i64 (g j))]] ∧
                          LeH [] []))
                      (Tree.chk
                        (cl
                          (LeL
                              [AV.sl (1 : Nat) b.size fun j => [AV.v (Value.int IntKind.u8 (sbyte b j))],
                                AV.sl (1 : Nat) m fun j => [AV.v (Value.int IntKind.i64 (g j))],
                                AV.v (Value.string (textOf b.size (bsF b))),
                                AV.v (Value.slice none (0 : Nat) (0 : Nat)), AV.v (Value.int IntKind.i64 (10 : Int)),
                                AV.v (Value.string (ByteArray.mk #[])), AV.v (Value.int IntKind.i64 (0 : Int)),
                                AV.v (Value.bool false)]
                              [AV.sl (1 : Nat) b.size fun j => [AV.v (Value.int IntKind.u8 (sbyte b j))],
                                AV.sl (1 : Nat) m fun j => [AV.v (Value.int IntKind.i64 (g j))], AV.v (Value.string b),
                                AV.v (Value.slice none (0 : Nat) (0 : Nat)), AV.v (Value.int IntKind.i64 (10 : Int)),
                                AV.v (Value.string (ByteArray.mk #[])), AV.v (Value.int IntKind.i64 (↑(0 : Nat) : Int)),
                                AV.any] ∧
                            LeH [] []))
                        (Tree.leaf (Ans.mk (AV.sb true) []))))))))))))) := by kernel_rfl
theorem lawWbbsb (b : ByteArray) (s : ByteArray) (hb : (BA.sl b).ok) (n : Int) (hn : n < 0 ∨ 4611686018427387904 < n) (hs : 65536 < s.size) (hs2 : s.size ≤ 4611686018427387904) (m : Nat) (g : Nat → Int) (c : Nat) (hc : c < m) (hok : ∀ j, j < c → okN (g j) = true) (hbad : okN (g c) = false) (hm : m ≤ 100000) : Right (bodyE (P := Try.prog) (Γ := Γw) [c6, CT.at 7 (ansBad (BA.sl b) n hb hn), Z.c8, CT.at 9 (ansTextBad (BA.sl b) s hb rfl hs hs2), Z.c10, CT.at 11 (ansNumsBad m g c hc hok hbad hm)] (fun _ => LSpec.at [0, 3, 9, 16, 17, 18, 19, 8] [] (SL (.sl 1 b.size (bsF b)) (.sl 1 m (i64F g)) b (.v (.slice none 0 0)) 10 [] ⟨#[]⟩ 0) OLb) false 154 [.tmp 8] (bodyOf Try.f3) [.sl 1 b.size (bsF b), .v (.int .i64 n), .v (.string s), .sl 1 m (i64F g)] []) := by
  refine Right.of (runWbbsb b s hb n hn hs hs2 m g c hc hok hbad hm) ?_
  refine ⟨fun _ => ⟨.refl _, trivial⟩, fun h0 => ?_⟩
  obtain ⟨h1, h2, h3⟩ := guard3 h0
  clear h0
  have q1 : b.size ≤ 2000 := by have := of_decide_eq_false h1; omega
  have q2 : s.size ≤ 70000 := by have := of_decide_eq_false h2; omega
  have q4 := (numB_size (show s.size ≤ 4611686018427387904 by omega)).1
  simp [okN_not hn, okN_of (show s.size ≤ 4611686018427387904 by omega), allBytes0, textOf0, allBytesF, textOfF, textOfF2, textOfF3, le_vv, allBytes_bsF, textOf_bsF, BA.t, LeL_self, LeH_self, cl_true, Tree.sat, cl_iff, textB, le_sbv, empty_append, append_empty, ByteArray.append_assoc]
  omega
end Go.Eng.W

/- A slice of bytes as an argument. -/
namespace Go.Eng
open Go Go.ChangeShapes
set_option linter.unusedSimpArgs false
set_option linter.unusedVariables false
theorem textOf_size (n : Nat) (f : Nat → List AV) : (textOf n f).size = n := by
  unfold textOf
  show ((List.range n).map _).toArray.size = n
  simp
theorem sbyte_textOf {n j : Nat} {f : Nat → List AV} {v : Int} (hj : j < n) (hf : f j = [.v (.int .u8 v)]) (h : 0 ≤ v) (h' : v < 256) : sbyte (textOf n f) j = v := by
  unfold textOf sbyte
  simp only [List.getElem?_toArray, List.getElem?_map, List.getElem?_range hj, Option.map_some, Option.getD_some, hf, byteIn]
  simp
  omega
/-- a law's proof at one input, with the summaries that it uses -/
structure LawOK (P : Program) (Γ : Nat → AV) (ntmps : Nat) (results : List ResultVar) (c : Code) (args : List AV) : Prop where
  ok : ∃ (T : List (CT P Γ)) (L : Nat → LSpec) (ip : Bool), (∀ (j : Nat) (b : Code), (loopBodies c)[j]? = some b → LoopOK P Γ 0 ntmps b (L j)) ∧ Right (bodyE T L ip ntmps results c args [])
theorem LawOK.mk' {P : Program} {Γ : Nat → AV} {ntmps : Nat} {results : List ResultVar} {c : Code} {args : List AV} {T : List (CT P Γ)} {L : Nat → LSpec} {ip : Bool} (hL : ∀ (j : Nat) (b : Code), (loopBodies c)[j]? = some b → LoopOK P Γ 0 ntmps b (L j))
    (h : Right (bodyE T L ip ntmps results c args [])) : LawOK P Γ ntmps results c args := ⟨T, L, ip, hL, h⟩
noncomputable def CT.lawE {P : Program} {Γ : Nat → AV} {X : Type} (A : X → List AV) (pre : X → Prop) (f : FuncId) (fn : Func) (c : Code) (ntmps : Nat) (results : List ResultVar) (hf : P.funcs[f]? = some fn) (hb : fn.body = some c) (hr : fn.results.toList = results)
    (hnt : fn.ntmps = ntmps) (hn : (fn.name == "runtime.NumGoroutine") = false) (hsz : ∀ x, pre x → (A x).length ≤ ntmps) (hs : ∀ x, pre x → LawOK P Γ ntmps results c (A x)) : CT P Γ where
  f := f
  spec := lawSpec A pre
  enters := callFunc_enters hf (by rw [hb]; rfl) hn
  ok := fun args Hin r h => by
    obtain ⟨rfl, rfl, x, hp, rfl⟩ := lawSpec_get h
    obtain ⟨T, L, ip, hL, h⟩ := (hs x hp).ok
    subst hr; subst hnt
    exact contract_of (T := T) (ip := ip) hf hb L hL (hsz x hp) h.ok
/-- bytes as an argument: nil, or a slice -/
def bArg : Option ByteArray → AV
  | none => .v (.slice none 0 0)
  | some t => .sl 1 t.size (bsF t)
section
variable {H : Type} {enc : TypeId × Value → H} {P : Program} {w : World} {base : Nat} {sp : Nat → Bool} {held : Bool}
theorem V0.bytes {σ : Store} {m : Nat} {g : Nat → Int} {v : Value} (h : V0 σ (.sl 1 m fun i => [.v (.int .u8 (g i))]) v) (hw : ∀ i, i < m → 0 ≤ g i ∧ g i < 256) :
    V0 σ (bArg (some (textOf m fun i => [.v (.int .u8 (g i))]))) v := by
  have hs := textOf_size m fun i => [AV.v (.int .u8 (g i))]
  show V0 σ (.sl 1 _ _) v
  rw [hs]
  cases h with
  | sl _ _ _ ad cap ys hsp hn hl hm ho hv =>
    refine .sl 1 m _ ad cap ys hsp hn (fun _ => rfl) (fun e j c he hc => ?_) (fun e j c he hc => ?_) (fun e j c he hc => ?_)
    · cases j with
      | zero => exact hm e 0 (.v (.int .u8 (g e))) he rfl
      | succ j => simp [bsF] at hc
    · cases j with
      | zero => exact ho e 0 (.v (.int .u8 (g e))) he rfl
      | succ j => simp [bsF] at hc
    · cases j with
      | zero =>
        have h1 := hv e 0 (.v (.int .u8 (g e))) he rfl
        simp only [bsF, List.getElem?_cons_zero, Option.some.injEq] at hc
        subst hc
        rw [sbyte_textOf he rfl (hw e he).1 (hw e he).2]
        exact h1
      | succ j => simp [bsF] at hc
  | slnil _ _ _ A cap hl hn ha => exact .slnil 1 m _ A cap (fun _ => rfl) hn ha
theorem open_bytes {t e : TypeId} {v : Value} {r : Reach} {b0 : Nat} {d : DataW H} {ps : List MemPlace} (ht : P.underlying t = some (.slice e)) (he : P.underlying e = some (.int .u8)) (hc : P.cellsOf e = 1)
    (hval : Value.okWide P w r b0 t v) (h : DataW.Trod enc P w base sp held t v d ps) : ∃ x : Option ByteArray, V0 (σof w) (bArg x) v := by
  rcases open_sl ht he hc hval h with rfl | ⟨m, g, h1, h2⟩
  · exact ⟨none, .v _⟩
  · refine ⟨_, h1.bytes fun i hi => ?_⟩
    have := h2 i hi
    simp [Lit.wf, IntKind.min, IntKind.max, IntKind.signed, IntKind.bits] at this
    omega
end
end Go.Eng
