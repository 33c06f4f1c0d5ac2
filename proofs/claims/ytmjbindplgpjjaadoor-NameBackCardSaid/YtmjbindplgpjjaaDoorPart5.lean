/- name: which runes are letters, in the program's words and in the document's and what follows it. -/
import Derived.Test.YtmjbindplgpjjaaDoorPart4
import Derived.Lib.DecodeNEq
/- name: which runes are letters, in the program's words and in the document's. -/
namespace Go.Eng.TA
open Go Go.Eng Go.Proofs
set_option linter.unusedSimpArgs false
set_option linter.unusedVariables false
namespace S
noncomputable def c25 : CT Tryd.prog Γm := CT.auto false 100 3 [] 109 Tryd.f109 (bodyOf Tryd.f109) false 21 [.tmp 4] Tryd.func109 (by kernel_rfl) (by kernel_rfl) (by kernel_rfl) (by kernel_rfl)
end S
theorem run10 (c : Int) : bodyE (P := Tryd.prog) (Γ := Γm) [S.c25] (autoL false 10 [S.c25] false 0 19 (loopBodies (bodyOf Tryd.f73)) 1) false 19 [.tmp 2] (bodyOf Tryd.f73) [.v (.int .i32 c)] [] =
  Tree.br true
  (Tree.chk true
    (Tree.br
      (bif
          decide
            ((bif true then (97 : Int)
              else
                bif false then (48 : Int)
                else
                  bif false then (95 : Int)
                  else
                    bif false then (45 : Int)
                    else bif false then (223 : Int) else bif false then (945 : Int) else (97 : Int)) ≤
              c) then
        bif
            decide
              (c ≤
                bif true then (122 : Int)
                else
                  bif false then (57 : Int)
                  else
                    bif false then (95 : Int)
                    else
                      bif false then (45 : Int)
                      else bif false then (255 : Int) else bif false then (969 : Int) else (122 : Int)) then
          !decide
              (c =
                bif true then (0 : Int)
                else
                  bif false then (0 : Int)
                  else
                    bif false then (0 : Int)
                    else
                      bif false then (0 : Int)
                      else bif false then (247 : Int) else bif false then (0 : Int) else (0 : Int))
        else false
      else false)
      (Tree.leaf { val := AV.v (Value.bool true), H := [] })
      (Tree.br true
        (Tree.chk true
          (Tree.br
            (bif
                decide
                  ((bif false then (97 : Int)
                    else
                      bif true then (48 : Int)
                      else
                        bif false then (95 : Int)
                        else
                          bif false then (45 : Int)
                          else bif false then (223 : Int) else bif false then (945 : Int) else (97 : Int)) ≤
                    c) then
              bif
                  decide
                    (c ≤
                      bif false then (122 : Int)
                      else
                        bif true then (57 : Int)
                        else
                          bif false then (95 : Int)
                          else
                            bif false then (45 : Int)
                            else bif false then (255 : Int) else bif false then (969 : Int) else (122 : Int)) then
                !decide
                    (c =
                      bif false then (0 : Int)
                      else
                        bif true then (0 : Int)
                        else
                          bif false then (0 : Int)
                          else
                            bif false then (0 : Int)
                            else bif false then (247 : Int) else bif false then (0 : Int) else (0 : Int))
              else false
            else false)
            (Tree.leaf { val := AV.v (Value.bool true), H := [] })
            (Tree.br true
              (Tree.chk true
                (Tree.br
                  (bif
                      decide
                        ((bif false then (97 : Int)
                          else
                            bif false then (48 : Int)
                            else
                              bif true then (95 : Int)
                              else
                                bif false then (45 : Int)
                                else bif false then (223 : Int) else bif false then (945 : Int) else (97 : Int)) ≤
                          c) then
                    bif
                        decide
                          (c ≤
                            bif false then (122 : Int)
                            else
                              bif false then (57 : Int)
                              else
                                bif true then (95 : Int)
                                else
                                  bif false then (45 : Int)
                                  else bif false then (255 : Int) else bif false then (969 : Int) else (122 : Int)) then
                      !decide
                          (c =
                            bif false then (0 : Int)
                            else
                              bif false then (0 : Int)
                              else
                                bif true then (0 : Int)
                                else
                                  bif false then (0 : Int)
                                  else bif false then (247 : Int) else bif false then (0 : Int) else (0 : Int))
                    else false
                  else false)
                  (Tree.leaf { val := AV.v (Value.bool true), H := [] })
                  (Tree.br true
                    (Tree.chk true
                      (Tree.br
                        (bif
                            decide
                              ((bif false then (97 : Int)
                                else
                                  bif false then (48 : Int)
                                  else
                                    bif false then (95 : Int)
                                    else
                                      bif true then (45 : Int)
                                      else bif false then (223 : Int) else bif false then (945 : Int) else (97 : Int)) ≤
                                c) then
                          bif
                              decide
                                (c ≤
                                  bif false then (122 : Int)
                                  else
                                    bif false then (57 : Int)
                                    else
                                      bif false then (95 : Int)
                                      else
                                        bif true then (45 : Int)
                                        else
                                          bif false then (255 : Int)
                                          else bif false then (969 : Int) else (122 : Int)) then
                            !decide
                                (c =
                                  bif false then (0 : Int)
                                  else
                                    bif false then (0 : Int)
                                    else
                                      bif false then (0 : Int)
                                      else
                                        bif true then (0 : Int)
                                        else bif false then (247 : Int) else bif false then (0 : Int) else (0 : Int))
                          else false
                        else false)
                        (Tree.leaf { val := AV.v (Value.bool true), H := [] })
                        (Tree.br true
                          (Tree.chk true
                            (Tree.br
                              (bif
                                  decide
                                    ((bif false then (97 : Int)
                                      else
                                        bif false then (48 : Int)
                                        else
                                          bif false then (95 : Int)
                                          else
                                            bif false then (45 : Int)
                                            else
                                              bif true then (223 : Int)
                                              else bif false then (945 : Int) else (97 : Int)) ≤
                                      c) then
                                bif
                                    decide
                                      (c ≤
                                        bif false then (122 : Int)
                                        else
                                          bif false then (57 : Int)
                                          else
                                            bif false then (95 : Int)
                                            else
                                              bif false then (45 : Int)
                                              else
                                                bif true then (255 : Int)
                                                else bif false then (969 : Int) else (122 : Int)) then
                                  !decide
                                      (c =
                                        bif false then (0 : Int)
                                        else
                                          bif false then (0 : Int)
                                          else
                                            bif false then (0 : Int)
                                            else
                                              bif false then (0 : Int)
                                              else
                                                bif true then (247 : Int) else bif false then (0 : Int) else (0 : Int))
                                else false
                              else false)
                              (Tree.leaf { val := AV.v (Value.bool true), H := [] })
                              (Tree.br true
                                (Tree.chk true
                                  (Tree.br
                                    (bif
                                        decide
                                          ((bif false then (97 : Int)
                                            else
                                              bif false then (48 : Int)
                                              else
                                                bif false then (95 : Int)
                                                else
                                                  bif false then (45 : Int)
                                                  else
                                                    bif false then (223 : Int)
                                                    else bif true then (945 : Int) else (97 : Int)) ≤
                                            c) then
                                      bif
                                          decide
                                            (c ≤
                                              bif false then (122 : Int)
                                              else
                                                bif false then (57 : Int)
                                                else
                                                  bif false then (95 : Int)
                                                  else
                                                    bif false then (45 : Int)
                                                    else
                                                      bif false then (255 : Int)
                                                      else bif true then (969 : Int) else (122 : Int)) then
                                        !decide
                                            (c =
                                              bif false then (0 : Int)
                                              else
                                                bif false then (0 : Int)
                                                else
                                                  bif false then (0 : Int)
                                                  else
                                                    bif false then (0 : Int)
                                                    else
                                                      bif false then (247 : Int)
                                                      else bif true then (0 : Int) else (0 : Int))
                                      else false
                                    else false)
                                    (Tree.leaf { val := AV.v (Value.bool true), H := [] })
                                    (Tree.br false
                                      (Tree.chk false
                                        (Tree.br
                                          (bif
                                              decide
                                                ((bif false then (97 : Int)
                                                  else
                                                    bif false then (48 : Int)
                                                    else
                                                      bif false then (95 : Int)
                                                      else
                                                        bif false then (45 : Int)
                                                        else
                                                          bif false then (223 : Int)
                                                          else bif false then (945 : Int) else (97 : Int)) ≤
                                                  c) then
                                            bif
                                                decide
                                                  (c ≤
                                                    bif false then (122 : Int)
                                                    else
                                                      bif false then (57 : Int)
                                                      else
                                                        bif false then (95 : Int)
                                                        else
                                                          bif false then (45 : Int)
                                                          else
                                                            bif false then (255 : Int)
                                                            else bif false then (969 : Int) else (122 : Int)) then
                                              !decide
                                                  (c =
                                                    bif false then (0 : Int)
                                                    else
                                                      bif false then (0 : Int)
                                                      else
                                                        bif false then (0 : Int)
                                                        else
                                                          bif false then (0 : Int)
                                                          else
                                                            bif false then (247 : Int)
                                                            else bif false then (0 : Int) else (0 : Int))
                                            else false
                                          else false)
                                          (Tree.leaf { val := AV.v (Value.bool true), H := [] })
                                          (Tree.br false
                                            (Tree.chk false
                                              (Tree.br
                                                (bif
                                                    decide
                                                      ((bif false then (97 : Int)
                                                        else
                                                          bif false then (48 : Int)
                                                          else
                                                            bif false then (95 : Int)
                                                            else
                                                              bif false then (45 : Int)
                                                              else
                                                                bif false then (223 : Int)
                                                                else bif false then (945 : Int) else (97 : Int)) ≤
                                                        c) then
                                                  bif
                                                      decide
                                                        (c ≤
                                                          bif false then (122 : Int)
                                                          else
                                                            bif false then (57 : Int)
                                                            else
                                                              bif false then (95 : Int)
                                                              else
                                                                bif false then (45 : Int)
                                                                else
                                                                  bif false then (255 : Int)
                                                                  else bif false then (969 : Int) else (122 : Int)) then
                                                    !decide
                                                        (c =
                                                          bif false then (0 : Int)
                                                          else
                                                            bif false then (0 : Int)
                                                            else
                                                              bif false then (0 : Int)
                                                              else
                                                                bif false then (0 : Int)
                                                                else
                                                                  bif false then (247 : Int)
                                                                  else bif false then (0 : Int) else (0 : Int))
                                                  else false
                                                else false)
                                                (Tree.leaf { val := AV.v (Value.bool true), H := [] })
                                                (Tree.br false
                                                  (Tree.chk false
                                                    (Tree.br
                                                      (bif
                                                          decide
                                                            ((bif false then (97 : Int)
                                                              else
                                                                bif false then (48 : Int)
                                                                else
                                                                  bif false then (95 : Int)
                                                                  else
                                                                    bif false then (45 : Int)
                                                                    else
                                                                      bif false then (223 : Int)
                                                                      else bif false then (945 : Int) else (97 : Int)) ≤
                                                              c) then
                                                        bif
                                                            decide
                                                              (c ≤
                                                                bif false then (122 : Int)
                                                                else
                                                                  bif false then (57 : Int)
                                                                  else
                                                                    bif false then (95 : Int)
                                                                    else
                                                                      bif false then (45 : Int)
                                                                      else
                                                                        bif false then (255 : Int)
                                                                        else
                                                                          bif false then (969 : Int)
                                                                          else (122 : Int)) then
                                                          !decide
                                                              (c =
                                                                bif false then (0 : Int)
                                                                else
                                                                  bif false then (0 : Int)
                                                                  else
                                                                    bif false then (0 : Int)
                                                                    else
                                                                      bif false then (0 : Int)
                                                                      else
                                                                        bif false then (247 : Int)
                                                                        else bif false then (0 : Int) else (0 : Int))
                                                        else false
                                                      else false)
                                                      (Tree.leaf { val := AV.v (Value.bool true), H := [] })
                                                      (Tree.br false
                                                        (Tree.chk false
                                                          (Tree.br
                                                            (bif
                                                                decide
                                                                  ((bif false then (97 : Int)
                                                                    else
                                                                      bif false then (48 : Int)
                                                                      else
                                                                        bif false then (95 : Int)
                                                                        else
                                                                          bif false then (45 : Int)
                                                                          else
                                                                            bif false then (223 : Int)
                                                                            else
                                                                              bif false then (945 : Int)
                                                                              else (97 : Int)) ≤
                                                                    c) then
                                                              bif
                                                                  decide
                                                                    (c ≤
                                                                      bif false then (122 : Int)
                                                                      else
                                                                        bif false then (57 : Int)
                                                                        else
                                                                          bif false then (95 : Int)
                                                                          else
                                                                            bif false then (45 : Int)
                                                                            else
                                                                              bif false then (255 : Int)
                                                                              else
                                                                                bif false then (969 : Int)
                                                                                else (122 : Int)) then
                                                                !decide
                                                                    (c =
                                                                      bif false then (0 : Int)
                                                                      else
                                                                        bif false then (0 : Int)
                                                                        else
                                                                          bif false then (0 : Int)
                                                                          else
                                                                            bif false then (0 : Int)
                                                                            else
                                                                              bif false then (247 : Int)
                                                                              else
                                                                                bif false then (0 : Int) else (0 : Int))
                                                              else false
                                                            else false)
                                                            (Tree.leaf { val := AV.v (Value.bool true), H := [] })
                                                            Tree.fail))
                                                        (Tree.leaf { val := AV.v (Value.bool false), H := [] }))))
                                                  (Tree.leaf { val := AV.v (Value.bool false), H := [] }))))
                                            (Tree.leaf { val := AV.v (Value.bool false), H := [] }))))
                                      (Tree.leaf { val := AV.v (Value.bool false), H := [] }))))
                                (Tree.leaf { val := AV.v (Value.bool false), H := [] }))))
                          (Tree.leaf { val := AV.v (Value.bool false), H := [] }))))
                    (Tree.leaf { val := AV.v (Value.bool false), H := [] }))))
              (Tree.leaf { val := AV.v (Value.bool false), H := [] }))))
        (Tree.leaf { val := AV.v (Value.bool false), H := [] }))))
  (Tree.leaf { val := AV.v (Value.bool false), H := [] }) := by kernel_rfl
theorem run26 (c : Int) : bodyE (P := Tryd.prog) (Γ := Γm) [S.c25] (autoL false 10 [S.c25] false 0 16 (loopBodies (bodyOf Tryd.f112)) 1) false 16 [.tmp 2] (bodyOf Tryd.f112) [.v (.int .i32 c)] [] =
  Tree.br true
  (Tree.chk true
    (Tree.br
      (bif
          decide
            ((bif true then (65 : Int)
              else bif false then (192 : Int) else bif false then (913 : Int) else (65 : Int)) ≤
              c) then
        bif
            decide
              (c ≤
                bif true then (90 : Int)
                else bif false then (222 : Int) else bif false then (937 : Int) else (90 : Int)) then
          !decide
              (c =
                bif true then (0 : Int) else bif false then (215 : Int) else bif false then (930 : Int) else (0 : Int))
        else false
      else false)
      (Tree.leaf { val := AV.v (Value.bool true), H := [] })
      (Tree.br true
        (Tree.chk true
          (Tree.br
            (bif
                decide
                  ((bif false then (65 : Int)
                    else bif true then (192 : Int) else bif false then (913 : Int) else (65 : Int)) ≤
                    c) then
              bif
                  decide
                    (c ≤
                      bif false then (90 : Int)
                      else bif true then (222 : Int) else bif false then (937 : Int) else (90 : Int)) then
                !decide
                    (c =
                      bif false then (0 : Int)
                      else bif true then (215 : Int) else bif false then (930 : Int) else (0 : Int))
              else false
            else false)
            (Tree.leaf { val := AV.v (Value.bool true), H := [] })
            (Tree.br true
              (Tree.chk true
                (Tree.br
                  (bif
                      decide
                        ((bif false then (65 : Int)
                          else bif false then (192 : Int) else bif true then (913 : Int) else (65 : Int)) ≤
                          c) then
                    bif
                        decide
                          (c ≤
                            bif false then (90 : Int)
                            else bif false then (222 : Int) else bif true then (937 : Int) else (90 : Int)) then
                      !decide
                          (c =
                            bif false then (0 : Int)
                            else bif false then (215 : Int) else bif true then (930 : Int) else (0 : Int))
                    else false
                  else false)
                  (Tree.leaf { val := AV.v (Value.bool true), H := [] })
                  (Tree.br false
                    (Tree.chk false
                      (Tree.br
                        (bif
                            decide
                              ((bif false then (65 : Int)
                                else bif false then (192 : Int) else bif false then (913 : Int) else (65 : Int)) ≤
                                c) then
                          bif
                              decide
                                (c ≤
                                  bif false then (90 : Int)
                                  else bif false then (222 : Int) else bif false then (937 : Int) else (90 : Int)) then
                            !decide
                                (c =
                                  bif false then (0 : Int)
                                  else bif false then (215 : Int) else bif false then (930 : Int) else (0 : Int))
                          else false
                        else false)
                        (Tree.leaf { val := AV.v (Value.bool true), H := [] })
                        (Tree.br false
                          (Tree.chk false
                            (Tree.br
                              (bif
                                  decide
                                    ((bif false then (65 : Int)
                                      else bif false then (192 : Int) else bif false then (913 : Int) else (65 : Int)) ≤
                                      c) then
                                bif
                                    decide
                                      (c ≤
                                        bif false then (90 : Int)
                                        else
                                          bif false then (222 : Int)
                                          else bif false then (937 : Int) else (90 : Int)) then
                                  !decide
                                      (c =
                                        bif false then (0 : Int)
                                        else bif false then (215 : Int) else bif false then (930 : Int) else (0 : Int))
                                else false
                              else false)
                              (Tree.leaf { val := AV.v (Value.bool true), H := [] })
                              (Tree.br false
                                (Tree.chk false
                                  (Tree.br
                                    (bif
                                        decide
                                          ((bif false then (65 : Int)
                                            else
                                              bif false then (192 : Int)
                                              else bif false then (913 : Int) else (65 : Int)) ≤
                                            c) then
                                      bif
                                          decide
                                            (c ≤
                                              bif false then (90 : Int)
                                              else
                                                bif false then (222 : Int)
                                                else bif false then (937 : Int) else (90 : Int)) then
                                        !decide
                                            (c =
                                              bif false then (0 : Int)
                                              else
                                                bif false then (215 : Int)
                                                else bif false then (930 : Int) else (0 : Int))
                                      else false
                                    else false)
                                    (Tree.leaf { val := AV.v (Value.bool true), H := [] })
                                    (Tree.br false
                                      (Tree.chk false
                                        (Tree.br
                                          (bif
                                              decide
                                                ((bif false then (65 : Int)
                                                  else
                                                    bif false then (192 : Int)
                                                    else bif false then (913 : Int) else (65 : Int)) ≤
                                                  c) then
                                            bif
                                                decide
                                                  (c ≤
                                                    bif false then (90 : Int)
                                                    else
                                                      bif false then (222 : Int)
                                                      else bif false then (937 : Int) else (90 : Int)) then
                                              !decide
                                                  (c =
                                                    bif false then (0 : Int)
                                                    else
                                                      bif false then (215 : Int)
                                                      else bif false then (930 : Int) else (0 : Int))
                                            else false
                                          else false)
                                          (Tree.leaf { val := AV.v (Value.bool true), H := [] })
                                          (Tree.br false
                                            (Tree.chk false
                                              (Tree.br
                                                (bif
                                                    decide
                                                      ((bif false then (65 : Int)
                                                        else
                                                          bif false then (192 : Int)
                                                          else bif false then (913 : Int) else (65 : Int)) ≤
                                                        c) then
                                                  bif
                                                      decide
                                                        (c ≤
                                                          bif false then (90 : Int)
                                                          else
                                                            bif false then (222 : Int)
                                                            else bif false then (937 : Int) else (90 : Int)) then
                                                    !decide
                                                        (c =
                                                          bif false then (0 : Int)
                                                          else
                                                            bif false then (215 : Int)
                                                            else bif false then (930 : Int) else (0 : Int))
                                                  else false
                                                else false)
                                                (Tree.leaf { val := AV.v (Value.bool true), H := [] })
                                                (Tree.br false
                                                  (Tree.chk false
                                                    (Tree.br
                                                      (bif
                                                          decide
                                                            ((bif false then (65 : Int)
                                                              else
                                                                bif false then (192 : Int)
                                                                else bif false then (913 : Int) else (65 : Int)) ≤
                                                              c) then
                                                        bif
                                                            decide
                                                              (c ≤
                                                                bif false then (90 : Int)
                                                                else
                                                                  bif false then (222 : Int)
                                                                  else bif false then (937 : Int) else (90 : Int)) then
                                                          !decide
                                                              (c =
                                                                bif false then (0 : Int)
                                                                else
                                                                  bif false then (215 : Int)
                                                                  else bif false then (930 : Int) else (0 : Int))
                                                        else false
                                                      else false)
                                                      (Tree.leaf { val := AV.v (Value.bool true), H := [] })
                                                      (Tree.br false
                                                        (Tree.chk false
                                                          (Tree.br
                                                            (bif
                                                                decide
                                                                  ((bif false then (65 : Int)
                                                                    else
                                                                      bif false then (192 : Int)
                                                                      else bif false then (913 : Int) else (65 : Int)) ≤
                                                                    c) then
                                                              bif
                                                                  decide
                                                                    (c ≤
                                                                      bif false then (90 : Int)
                                                                      else
                                                                        bif false then (222 : Int)
                                                                        else
                                                                          bif false then (937 : Int)
                                                                          else (90 : Int)) then
                                                                !decide
                                                                    (c =
                                                                      bif false then (0 : Int)
                                                                      else
                                                                        bif false then (215 : Int)
                                                                        else bif false then (930 : Int) else (0 : Int))
                                                              else false
                                                            else false)
                                                            (Tree.leaf { val := AV.v (Value.bool true), H := [] })
                                                            Tree.fail))
                                                        (Tree.leaf { val := AV.v (Value.bool false), H := [] }))))
                                                  (Tree.leaf { val := AV.v (Value.bool false), H := [] }))))
                                            (Tree.leaf { val := AV.v (Value.bool false), H := [] }))))
                                      (Tree.leaf { val := AV.v (Value.bool false), H := [] }))))
                                (Tree.leaf { val := AV.v (Value.bool false), H := [] }))))
                          (Tree.leaf { val := AV.v (Value.bool false), H := [] }))))
                    (Tree.leaf { val := AV.v (Value.bool false), H := [] }))))
              (Tree.leaf { val := AV.v (Value.bool false), H := [] }))))
        (Tree.leaf { val := AV.v (Value.bool false), H := [] }))))
  (Tree.leaf { val := AV.v (Value.bool false), H := [] }) := by kernel_rfl
theorem run9 (c : Int) : bodyE (P := Tryd.prog) (Γ := Γm) [] Lno false 33 [.tmp 2] (bodyOf Tryd.f78) [.v (.int .i64 c)] [] =
  Tree.leaf
  {
    val :=
      AV.sb
        (bif decide ((65 : Int) ≤ c) then
          bif decide (c ≤ (90 : Int)) then true
          else
            bif decide ((192 : Int) ≤ c) then
              bif decide (c ≤ (222 : Int)) then
                bif !decide (c = (215 : Int)) then true
                else
                  bif decide ((913 : Int) ≤ c) then
                    bif decide (c ≤ (937 : Int)) then !decide (c = (930 : Int)) else false
                  else false
              else
                bif decide ((913 : Int) ≤ c) then bif decide (c ≤ (937 : Int)) then !decide (c = (930 : Int)) else false
                else false
            else
              bif decide ((913 : Int) ≤ c) then bif decide (c ≤ (937 : Int)) then !decide (c = (930 : Int)) else false
              else false
        else
          bif decide ((192 : Int) ≤ c) then
            bif decide (c ≤ (222 : Int)) then
              bif !decide (c = (215 : Int)) then true
              else
                bif decide ((913 : Int) ≤ c) then bif decide (c ≤ (937 : Int)) then !decide (c = (930 : Int)) else false
                else false
            else
              bif decide ((913 : Int) ≤ c) then bif decide (c ≤ (937 : Int)) then !decide (c = (930 : Int)) else false
              else false
          else
            bif decide ((913 : Int) ≤ c) then bif decide (c ≤ (937 : Int)) then !decide (c = (930 : Int)) else false
            else false),
    H := [] } := by kernel_rfl
theorem run11 (c : Int) : bodyE (P := Tryd.prog) (Γ := Γm) [] Lno false 45 [.tmp 2] (bodyOf Tryd.f74) [.v (.int .i64 c)] [] =
  Tree.leaf
  {
    val :=
      AV.sb
        (bif decide ((97 : Int) ≤ c) then
          bif decide (c ≤ (122 : Int)) then true
          else
            bif decide ((48 : Int) ≤ c) then
              bif decide (c ≤ (57 : Int)) then true
              else
                bif decide (c = (95 : Int)) then true
                else
                  bif decide (c = (45 : Int)) then true
                  else
                    bif decide ((223 : Int) ≤ c) then
                      bif decide (c ≤ (255 : Int)) then
                        bif !decide (c = (247 : Int)) then true
                        else bif decide ((945 : Int) ≤ c) then decide (c ≤ (969 : Int)) else false
                      else bif decide ((945 : Int) ≤ c) then decide (c ≤ (969 : Int)) else false
                    else bif decide ((945 : Int) ≤ c) then decide (c ≤ (969 : Int)) else false
            else
              bif decide (c = (95 : Int)) then true
              else
                bif decide (c = (45 : Int)) then true
                else
                  bif decide ((223 : Int) ≤ c) then
                    bif decide (c ≤ (255 : Int)) then
                      bif !decide (c = (247 : Int)) then true
                      else bif decide ((945 : Int) ≤ c) then decide (c ≤ (969 : Int)) else false
                    else bif decide ((945 : Int) ≤ c) then decide (c ≤ (969 : Int)) else false
                  else bif decide ((945 : Int) ≤ c) then decide (c ≤ (969 : Int)) else false
        else
          bif decide ((48 : Int) ≤ c) then
            bif decide (c ≤ (57 : Int)) then true
            else
              bif decide (c = (95 : Int)) then true
              else
                bif decide (c = (45 : Int)) then true
                else
                  bif decide ((223 : Int) ≤ c) then
                    bif decide (c ≤ (255 : Int)) then
                      bif !decide (c = (247 : Int)) then true
                      else bif decide ((945 : Int) ≤ c) then decide (c ≤ (969 : Int)) else false
                    else bif decide ((945 : Int) ≤ c) then decide (c ≤ (969 : Int)) else false
                  else bif decide ((945 : Int) ≤ c) then decide (c ≤ (969 : Int)) else false
          else
            bif decide (c = (95 : Int)) then true
            else
              bif decide (c = (45 : Int)) then true
              else
                bif decide ((223 : Int) ≤ c) then
                  bif decide (c ≤ (255 : Int)) then
                    bif !decide (c = (247 : Int)) then true
                    else bif decide ((945 : Int) ≤ c) then decide (c ≤ (969 : Int)) else false
                  else bif decide ((945 : Int) ≤ c) then decide (c ≤ (969 : Int)) else false
                else bif decide ((945 : Int) ≤ c) then decide (c ≤ (969 : Int)) else false),
    H := [] } := by kernel_rfl

theorem le_bs {a b : Bool} : AV.le (.v (.bool a)) (.sb b) ↔ b = a := ⟨fun h => by cases h; rfl, fun h => by subst h; exact .bs _⟩
theorem le_sbsb {a b : Bool} : AV.le (.sb a) (.sb b) ↔ a = b := ⟨fun h => by cases h; rfl, fun h => by subst h; exact .refl _⟩
def letterB (c : Int) : Bool := decide ((97 ≤ c ∧ c ≤ 122) ∨ (48 ≤ c ∧ c ≤ 57) ∨ c = 95 ∨ c = 45 ∨ (223 ≤ c ∧ c ≤ 255 ∧ c ≠ 247) ∨ (945 ≤ c ∧ c ≤ 969))
def greatB (c : Int) : Bool := decide ((65 ≤ c ∧ c ≤ 90) ∨ (192 ≤ c ∧ c ≤ 222 ∧ c ≠ 215) ∨ (913 ≤ c ∧ c ≤ 937 ∧ c ≠ 930))
theorem cond_if {p q : Prop} [Decidable p] [Decidable q] : (bif decide p then decide q else false) = decide (p ∧ q) := by
  by_cases hp : p <;> simp [hp]
theorem law10 (c : Int) : Gives (bodyE (P := Tryd.prog) (Γ := Γm) [S.c25] (autoL false 10 [S.c25] false 0 19 (loopBodies (bodyOf Tryd.f73)) 1) false 19 [.tmp 2] (bodyOf Tryd.f73) [.v (.int .i32 c)] []) (.sb (letterB c)) := ⟨by
  rw [run10]
  simp [le_bs, letterB]
  omega⟩
theorem law26 (c : Int) : Gives (bodyE (P := Tryd.prog) (Γ := Γm) [S.c25] (autoL false 10 [S.c25] false 0 16 (loopBodies (bodyOf Tryd.f112)) 1) false 16 [.tmp 2] (bodyOf Tryd.f112) [.v (.int .i32 c)] []) (.sb (greatB c)) := ⟨by
  rw [run26]
  simp [le_bs, greatB]
  omega⟩
theorem law9 (c : Int) : Gives (bodyE (P := Tryd.prog) (Γ := Γm) [] Lno false 33 [.tmp 2] (bodyOf Tryd.f78) [.v (.int .i64 c)] []) (.sb (greatB c)) := ⟨by
  rw [run9]
  simp only [Tree.sat_leaf, le_sbsb, greatB, Bool.cond_decide, LeH_nil, and_true]
  repeat' split
  all_goals first | (symm; rw [decide_eq_true_eq]; omega) | (symm; rw [decide_eq_false_iff_not]; omega) | (rw [Bool.eq_iff_iff]; simp; omega)⟩
theorem law11 (c : Int) : Gives (bodyE (P := Tryd.prog) (Γ := Γm) [] Lno false 45 [.tmp 2] (bodyOf Tryd.f74) [.v (.int .i64 c)] []) (.sb (letterB c)) := ⟨by
  rw [run11]
  simp only [Tree.sat_leaf, le_sbsb, letterB, Bool.cond_decide, LeH_nil, and_true]
  repeat' split
  all_goals first | (symm; rw [decide_eq_true_eq]; omega) | (symm; rw [decide_eq_false_iff_not]; omega) | (rw [Bool.eq_iff_iff]; simp; omega)⟩
end Go.Eng.TA

/- name: letters, contracts. -/
namespace Go.Eng.TA
open Go Go.Eng Go.Proofs
set_option linter.unusedSimpArgs false
set_option linter.unusedVariables false
theorem autoL1 {f : Func} {T : List (CT Tryd.prog Γm)} {N : Nat} : ∀ (j : Nat) (b : Code), (loopBodies (bodyOf f))[j]? = some b → LoopOK Tryd.prog Γm 0 N b (autoL false 10 T false 0 N (loopBodies (bodyOf f)) 1 j) := autoL_ok 1
noncomputable def c10' : CT Tryd.prog Γm := CT.val1 73 Tryd.f73 (bodyOf Tryd.f73) [S.c25] (autoL false 10 [S.c25] false 0 19 (loopBodies (bodyOf Tryd.f73)) 1) false 19 [.tmp 2] .i32 (fun _ => true) (fun c => .sb (letterB c)) Tryd.func73 (by kernel_rfl) (by kernel_rfl) (by kernel_rfl) (by kernel_rfl) (by decide) autoL1 (fun c _ => law10 c)
noncomputable def c26' : CT Tryd.prog Γm := CT.val1 112 Tryd.f112 (bodyOf Tryd.f112) [S.c25] (autoL false 10 [S.c25] false 0 16 (loopBodies (bodyOf Tryd.f112)) 1) false 16 [.tmp 2] .i32 (fun _ => true) (fun c => .sb (greatB c)) Tryd.func112 (by kernel_rfl) (by kernel_rfl) (by kernel_rfl) (by kernel_rfl) (by decide) autoL1 (fun c _ => law26 c)
noncomputable def c9' : CT Tryd.prog Γm := CT.val1 78 Tryd.f78 (bodyOf Tryd.f78) [] Lno false 33 [.tmp 2] .i64 (fun _ => true) (fun c => .sb (greatB c)) Tryd.func78 (by kernel_rfl) (by kernel_rfl) (by kernel_rfl) (by kernel_rfl) (by decide) (noLoops (by kernel_rfl)) (fun c _ => law9 c)
noncomputable def c11' : CT Tryd.prog Γm := CT.val1 74 Tryd.f74 (bodyOf Tryd.f74) [] Lno false 45 [.tmp 2] .i64 (fun _ => true) (fun c => .sb (letterB c)) Tryd.func74 (by kernel_rfl) (by kernel_rfl) (by kernel_rfl) (by kernel_rfl) (by decide) (noLoops (by kernel_rfl)) (fun c _ => law11 c)
def smallF (c : Int) : Int := bif greatB c then c + 32 else c
theorem great_iff {c : Int} : greatB c = true ↔ ((65 ≤ c ∧ c ≤ 90) ∨ (192 ≤ c ∧ c ≤ 222 ∧ c ≠ 215) ∨ (913 ≤ c ∧ c ≤ 937 ∧ c ≠ 930)) := by simp [greatB]
theorem run12 (c : Int) : bodyE (P := Tryd.prog) (Γ := Γm) [c26'] Lno false 8 [.tmp 2] (bodyOf Tryd.f77) [.v (.int .i32 c)] [] =
  Tree.chk (true && true)
  (Tree.br (greatB c) (Tree.leaf { val := AV.v (Value.int IntKind.i32 (IntKind.i32.wrap (c + (32 : Int)))), H := [] })
    (Tree.leaf { val := AV.v (Value.int IntKind.i32 c), H := [] })) := by kernel_rfl

theorem wrap32 {n : Int} (h : -2147483648 ≤ n) (h' : n < 2147483648) : IntKind.i32.wrap n = n := by
  simp only [IntKind.wrap, IntKind.signed, IntKind.bits]; simp; omega
theorem law12 (c : Int) : Gives (bodyE (P := Tryd.prog) (Γ := Γm) [c26'] Lno false 8 [.tmp 2] (bodyOf Tryd.f77) [.v (.int .i32 c)] []) (.v (.int .i32 (smallF c))) := ⟨by
  rw [run12]
  simp only [Tree.sat_br, Tree.sat_chk, Tree.sat_leaf, Bool.and_self, true_and, LeH_nil, and_true]
  refine ⟨fun h => ?_, fun h => ?_⟩
  · have := great_iff.1 h
    rw [wrap32 (by omega) (by omega), smallF, h]; exact .refl _
  · rw [smallF, h]; exact .refl _⟩
noncomputable def c12' : CT Tryd.prog Γm := CT.val1 77 Tryd.f77 (bodyOf Tryd.f77) [c26'] Lno false 8 [.tmp 2] .i32 (fun _ => true) (fun c => .v (.int .i32 (smallF c))) Tryd.func77 (by kernel_rfl) (by kernel_rfl) (by kernel_rfl) (by kernel_rfl) (by decide) (noLoops (by kernel_rfl)) (fun c _ => law12 c)
end Go.Eng.TA

/- names: which texts are names. -/
namespace Go.Eng.TA
open Go Go.Eng Go.Eng.M Go.Lib Go.Proofs
set_option linter.unusedSimpArgs false
set_option linter.unusedVariables false
abbrev letN (c : Nat) : Bool := letterB (c : Int)
def badF (c : Nat) : Bool := decide ((48 ≤ c ∧ c ≤ 57) ∨ c = 45)
def firstOk : List Nat → Bool
  | c :: _ => !badF c
  | [] => true
def fine (s : ByteArray) (p : Nat) : Bool := (rns s p).all (fun c => letterB (c : Int)) && (bif decide (p = 0) then firstOk (rns s 0) else true)
/-- is it a name? -/
def nameB (s : ByteArray) : Bool := fine s 0 && decide (1 ≤ (rns s 0).length ∧ (rns s 0).length ≤ 32)
def erN (b : Bool) : Int := bif b then 0 else 20
noncomputable abbrev lpChk : Code := loopOf (bodyOf Tryd.f20) 0
def SChk (s : ByteArray) (x : XP) : List AV × Heap := ([.v (.int .i64 (x.k : Int)), .its 0, .any], [some (.sit s x.p)])
def retChk : Out := ⟨.ret, [.any, .any, .v (.int .i64 20)], [none]⟩
def endChk (s : ByteArray) : Out := ⟨.exit 0, [.v (.int .i64 ((rns s 0).length : Int)), .any, .any], [none]⟩
def OChk (s : ByteArray) : Out := bif fine s 0 then endChk s else retChk
theorem rChk (s : ByteArray) (x : XP) : roundE (P := Tryd.prog) (Γ := Γm) [c10'] Lno false 0 0 lpChk [3, 8, 2] [] 41 (SChk s x).1 (SChk s x).2 =
  Tree.br (decide (x.p < ByteArray.size s)) (Tree.chk (bif bif decide ((↑x.p : Int) = (0 : Int)) then bif decide ((48 : Int) ≤ (↑(Utf8.decode s x.p).fst : Int)) then bif decide ((↑(Utf8.decode
    s x.p).fst : Int) ≤ (57 : Int)) then true else decide ((↑(Utf8.decode s x.p).fst : Int) = (45 : Int)) else decide ((↑(Utf8.decode s x.p).fst : Int) = (45 : Int)) else false then true
    else true) (Tree.br (bif bif decide ((↑x.p : Int) = (0 : Int)) then bif decide ((48 : Int) ≤ (↑(Utf8.decode s x.p).fst : Int)) then bif decide ((↑(Utf8.decode s x.p).fst : Int) ≤ (57 :
    Int)) then true else decide ((↑(Utf8.decode s x.p).fst : Int) = (45 : Int)) else decide ((↑(Utf8.decode s x.p).fst : Int) = (45 : Int)) else false then true else !letterB (↑(Utf8.decode
    s x.p).fst : Int)) (Tree.leaf (Out.mk AEx.ret [AV.v (Value.int IntKind.i64 (↑x.k : Int)), AV.its (0 : Nat), AV.v (Value.int IntKind.i64 (20 : Int))] [some (Blk.sit s (x.p + (Utf8.decode
    s x.p).snd))])) (Tree.leaf (Out.mk AEx.normal [AV.v (Value.int IntKind.i64 (IntKind.wrap IntKind.i64 ((↑x.k : Int) + (1 : Int)))), AV.its (0 : Nat), AV.any] [some (Blk.sit s (x.p +
    (Utf8.decode s x.p).snd))])))) (Tree.leaf (Out.mk (AEx.exit (0 : Nat)) [AV.v (Value.int IntKind.i64 (↑x.k : Int)), AV.its (0 : Nat), AV.any] [some (Blk.sit s x.p)])) := by kernel_rfl
theorem loopChk {s : ByteArray} (hs : s.size ≤ 1000000000) : ∀ x : XP, (x.p ≤ s.size ∧ x.k + (rns s x.p).length = (rns s 0).length ∧ fine s x.p = fine s 0) → LoopOK Tryd.prog Γm 0 41 lpChk (LSpec.at [3, 8, 2] [] (SChk s x) (OChk s)) := by
  refine loop_at (S := SChk s) (O := fun _ => OChk s) (k := 0) (fun x => s.size - x.p) fun x hp => .of (noLoops (by kernel_rfl)) (rChk s x) ?_
  obtain ⟨p, k⟩ := x
  obtain ⟨h1, h2, h3⟩ := hp
  have hl : (rns s 0).length ≤ s.size - 0 := rns_len
  dsimp only at h1 h2 h3
  rcases Nat.lt_or_ge p s.size with hi | hi
  · have hst := rns_step hi
    have hd := dec_pos s p
    have hle := dec_le hi
    rw [hst, List.length_cons] at h2
    have hp0 : fine s (p + (Utf8.decode s p).2) = (rns s (p + (Utf8.decode s p).2)).all fun c => letterB (c : Int) := by
      unfold fine
      rw [decide_eq_false (by omega), cond_false, Bool.and_true]
    have hf : fine s p = (letterB ((Utf8.decode s p).1 : Int) && fine s (p + (Utf8.decode s p).2) && (bif decide (p = 0) then !badF (Utf8.decode s p).1 else true)) := by
      rw [hp0]
      unfold fine
      rw [hst, List.all_cons]
      congr 1
      by_cases hz : p = 0
      · subst hz; rw [hst]; rfl
      · rw [decide_eq_false hz]; rfl
    cases hL : letterB ((Utf8.decode s p).1 : Int) with
    | false =>
      rw [hL, Bool.false_and, Bool.false_and] at hf
      rw [show OChk s = retChk by unfold OChk; rw [← h3, hf]; rfl]
      repeat' (first | refine wC (by first | omega | (simp only [cl_iff, AV.le_refl, AV.le_any, OLe_refl, LeH_cons, LeH_nil, LeL_cons, LeL_nil, and_true, true_and, Bool.and_eq_true, Bool.or_eq_true, decide_eq_true_eq, notT, Bool.cond_true_left, Bool.cond_false_right, Nat.blt_eq, Nat.zero_add, cond_true, cond_false, Int.toNat_natCast, Bool.not_true, Bool.not_false, Bool.false_eq_true, not_true_eq_false, not_false_eq_true, or_false, false_or, or_true, true_or, and_false, false_and, condIT, hL]; first | done | omega)) ?_ | refine wT (by first | omega | (simp only [cl_iff, AV.le_refl, AV.le_any, OLe_refl, LeH_cons, LeH_nil, LeL_cons, LeL_nil, and_true, true_and, Bool.and_eq_true, Bool.or_eq_true, decide_eq_true_eq, notT, Bool.cond_true_left, Bool.cond_false_right, Nat.blt_eq, Nat.zero_add, cond_true, cond_false, Int.toNat_natCast, Bool.not_true, Bool.not_false, Bool.false_eq_true, not_true_eq_false, not_false_eq_true, or_false, false_or, or_true, true_or, and_false, false_and, condIT, hL]; first | done | omega)) ?_ | refine wF (by intro _h; first | omega | (simp only [cl_iff, AV.le_refl, AV.le_any, OLe_refl, LeH_cons, LeH_nil, LeL_cons, LeL_nil, and_true, true_and, Bool.and_eq_true, Bool.or_eq_true, decide_eq_true_eq, notT, Bool.cond_true_left, Bool.cond_false_right, Nat.blt_eq, Nat.zero_add, cond_true, cond_false, Int.toNat_natCast, Bool.not_true, Bool.not_false, Bool.false_eq_true, not_true_eq_false, not_false_eq_true, or_false, false_or, or_true, true_or, and_false, false_and, condIT, hL] at _h; first | done | omega)) ?_ | (refine wS ?_ ?_ <;> intro _h <;> simp only [cl_iff, AV.le_refl, AV.le_any, OLe_refl, LeH_cons, LeH_nil, LeL_cons, LeL_nil, and_true, true_and, Bool.and_eq_true, Bool.or_eq_true, decide_eq_true_eq, notT, Bool.cond_true_left, Bool.cond_false_right, Nat.blt_eq, Nat.zero_add, cond_true, cond_false, Int.toNat_natCast, Bool.not_true, Bool.not_false, Bool.false_eq_true, not_true_eq_false, not_false_eq_true, or_false, false_or, or_true, true_or, and_false, false_and, condIT, hL] at _h))
      all_goals simp only [or_true, true_or, false_or, or_false, and_false, false_and, cond_true, cond_false, Bool.not_true, Bool.not_false, Bool.false_eq_true, Bool.true_eq_false, not_true_eq_false, not_false_eq_true, false_implies, true_implies, implies_true, Nat.blt_eq, owesN, owesX, owesR, notT, sat_brT, sat_brF, sat_chkT, cl_iff, cl_false, AV.le_refl, AV.le_any, OLe_refl, OLe_none, sat_brN, Tree.sat_chk, Tree.sat_leaf, Tree.sat_fail, Nat.zero_add, Nat.sub_zero, Int.toNat_natCast, LeH_cons, LeH_nil, LeL_cons, LeL_nil, and_true, true_and, Bool.and_eq_true, Bool.or_eq_true, decide_eq_true_eq, decide_eq_false_iff_not, Bool.cond_true_left, Bool.cond_false_right, List.cons_append, List.nil_append, List.map_cons, List.map_nil, hL]
      repeat' (first | apply And.intro | intro _hc)
      all_goals first | exact rfl | exact AV.le_refl _ | exact AV.le_any _ | exact OLe.refl _ | exact OLe.none _ | exact LeH.refl _ | exact LeL.refl _ | exact AV.le.bs _ | exact AV.le.sb _ | omega | contradiction
    | true =>
      by_cases hb : p = 0 ∧ badF (Utf8.decode s p).1 = true
      · obtain ⟨rfl, hb⟩ := hb
        rw [hb] at hf
        have hf : fine s 0 = false := by rw [hf]; simp
        have hb := of_decide_eq_true hb
        rw [show OChk s = retChk by unfold OChk; rw [hf]; rfl]
        repeat' (first | refine wC (by first | omega | (simp only [cl_iff, AV.le_refl, AV.le_any, OLe_refl, LeH_cons, LeH_nil, LeL_cons, LeL_nil, and_true, true_and, Bool.and_eq_true, Bool.or_eq_true, decide_eq_true_eq, notT, Bool.cond_true_left, Bool.cond_false_right, Nat.blt_eq, Nat.zero_add, cond_true, cond_false, Int.toNat_natCast, Bool.not_true, Bool.not_false, Bool.false_eq_true, not_true_eq_false, not_false_eq_true, or_false, false_or, or_true, true_or, and_false, false_and, condIT, hL]; first | done | omega)) ?_ | refine wT (by first | omega | (simp only [cl_iff, AV.le_refl, AV.le_any, OLe_refl, LeH_cons, LeH_nil, LeL_cons, LeL_nil, and_true, true_and, Bool.and_eq_true, Bool.or_eq_true, decide_eq_true_eq, notT, Bool.cond_true_left, Bool.cond_false_right, Nat.blt_eq, Nat.zero_add, cond_true, cond_false, Int.toNat_natCast, Bool.not_true, Bool.not_false, Bool.false_eq_true, not_true_eq_false, not_false_eq_true, or_false, false_or, or_true, true_or, and_false, false_and, condIT, hL]; first | done | omega)) ?_ | refine wF (by intro _h; first | omega | (simp only [cl_iff, AV.le_refl, AV.le_any, OLe_refl, LeH_cons, LeH_nil, LeL_cons, LeL_nil, and_true, true_and, Bool.and_eq_true, Bool.or_eq_true, decide_eq_true_eq, notT, Bool.cond_true_left, Bool.cond_false_right, Nat.blt_eq, Nat.zero_add, cond_true, cond_false, Int.toNat_natCast, Bool.not_true, Bool.not_false, Bool.false_eq_true, not_true_eq_false, not_false_eq_true, or_false, false_or, or_true, true_or, and_false, false_and, condIT, hL] at _h; first | done | omega)) ?_ | (refine wS ?_ ?_ <;> intro _h <;> simp only [cl_iff, AV.le_refl, AV.le_any, OLe_refl, LeH_cons, LeH_nil, LeL_cons, LeL_nil, and_true, true_and, Bool.and_eq_true, Bool.or_eq_true, decide_eq_true_eq, notT, Bool.cond_true_left, Bool.cond_false_right, Nat.blt_eq, Nat.zero_add, cond_true, cond_false, Int.toNat_natCast, Bool.not_true, Bool.not_false, Bool.false_eq_true, not_true_eq_false, not_false_eq_true, or_false, false_or, or_true, true_or, and_false, false_and, condIT, hL] at _h))
        all_goals simp only [or_true, true_or, false_or, or_false, and_false, false_and, cond_true, cond_false, Bool.not_true, Bool.not_false, Bool.false_eq_true, Bool.true_eq_false, not_true_eq_false, not_false_eq_true, false_implies, true_implies, implies_true, Nat.blt_eq, owesN, owesX, owesR, notT, sat_brT, sat_brF, sat_chkT, cl_iff, cl_false, AV.le_refl, AV.le_any, OLe_refl, OLe_none, sat_brN, Tree.sat_chk, Tree.sat_leaf, Tree.sat_fail, Nat.zero_add, Nat.sub_zero, Int.toNat_natCast, LeH_cons, LeH_nil, LeL_cons, LeL_nil, and_true, true_and, Bool.and_eq_true, Bool.or_eq_true, decide_eq_true_eq, decide_eq_false_iff_not, Bool.cond_true_left, Bool.cond_false_right, List.cons_append, List.nil_append, List.map_cons, List.map_nil, hL]
        repeat' (first | apply And.intro | intro _hc)
        all_goals first | exact rfl | exact AV.le_refl _ | exact AV.le_any _ | exact OLe.refl _ | exact OLe.none _ | exact LeH.refl _ | exact LeL.refl _ | exact AV.le.bs _ | exact AV.le.sb _ | omega | contradiction
      · have hb' : (bif decide (p = 0) then !badF (Utf8.decode s p).1 else true) = true := by
          by_cases hz : p = 0
          · cases h : badF (Utf8.decode s p).1 with
            | true => exact absurd ⟨hz, h⟩ hb
            | false => simp
          · simp [hz]
        have hb2 : ¬ (p = 0 ∧ ((48 ≤ (Utf8.decode s p).1 ∧ (Utf8.decode s p).1 ≤ 57) ∨ (Utf8.decode s p).1 = 45)) := fun ⟨e, h⟩ => hb ⟨e, decide_eq_true h⟩
        rw [hb', hL, Bool.and_true, Bool.true_and] at hf
        repeat' (first | refine wC (by first | omega | (simp only [cl_iff, AV.le_refl, AV.le_any, OLe_refl, LeH_cons, LeH_nil, LeL_cons, LeL_nil, and_true, true_and, Bool.and_eq_true, Bool.or_eq_true, decide_eq_true_eq, notT, Bool.cond_true_left, Bool.cond_false_right, Nat.blt_eq, Nat.zero_add, cond_true, cond_false, Int.toNat_natCast, Bool.not_true, Bool.not_false, Bool.false_eq_true, not_true_eq_false, not_false_eq_true, or_false, false_or, or_true, true_or, and_false, false_and, condIT, hL, wrapUpN (show k ≤ 10000000000 by omega)]; first | done | omega)) ?_ | refine wT (by first | omega | (simp only [cl_iff, AV.le_refl, AV.le_any, OLe_refl, LeH_cons, LeH_nil, LeL_cons, LeL_nil, and_true, true_and, Bool.and_eq_true, Bool.or_eq_true, decide_eq_true_eq, notT, Bool.cond_true_left, Bool.cond_false_right, Nat.blt_eq, Nat.zero_add, cond_true, cond_false, Int.toNat_natCast, Bool.not_true, Bool.not_false, Bool.false_eq_true, not_true_eq_false, not_false_eq_true, or_false, false_or, or_true, true_or, and_false, false_and, condIT, hL, wrapUpN (show k ≤ 10000000000 by omega)]; first | done | omega)) ?_ | refine wF (by intro _h; first | omega | (simp only [cl_iff, AV.le_refl, AV.le_any, OLe_refl, LeH_cons, LeH_nil, LeL_cons, LeL_nil, and_true, true_and, Bool.and_eq_true, Bool.or_eq_true, decide_eq_true_eq, notT, Bool.cond_true_left, Bool.cond_false_right, Nat.blt_eq, Nat.zero_add, cond_true, cond_false, Int.toNat_natCast, Bool.not_true, Bool.not_false, Bool.false_eq_true, not_true_eq_false, not_false_eq_true, or_false, false_or, or_true, true_or, and_false, false_and, condIT, hL, wrapUpN (show k ≤ 10000000000 by omega)] at _h; first | done | omega)) ?_ | (refine wS ?_ ?_ <;> intro _h <;> simp only [cl_iff, AV.le_refl, AV.le_any, OLe_refl, LeH_cons, LeH_nil, LeL_cons, LeL_nil, and_true, true_and, Bool.and_eq_true, Bool.or_eq_true, decide_eq_true_eq, notT, Bool.cond_true_left, Bool.cond_false_right, Nat.blt_eq, Nat.zero_add, cond_true, cond_false, Int.toNat_natCast, Bool.not_true, Bool.not_false, Bool.false_eq_true, not_true_eq_false, not_false_eq_true, or_false, false_or, or_true, true_or, and_false, false_and, condIT, hL, wrapUpN (show k ≤ 10000000000 by omega)] at _h))
        all_goals simp only [or_true, true_or, false_or, or_false, and_false, false_and, cond_true, cond_false, Bool.not_true, Bool.not_false, Bool.false_eq_true, Bool.true_eq_false, not_true_eq_false, not_false_eq_true, false_implies, true_implies, implies_true, Nat.blt_eq, owesN, owesX, owesR, notT, sat_brT, sat_brF, sat_chkT, cl_iff, cl_false, AV.le_refl, AV.le_any, OLe_refl, OLe_none, sat_brN, Tree.sat_chk, Tree.sat_leaf, Tree.sat_fail, Nat.zero_add, Nat.sub_zero, Int.toNat_natCast, LeH_cons, LeH_nil, LeL_cons, LeL_nil, and_true, true_and, Bool.and_eq_true, Bool.or_eq_true, decide_eq_true_eq, decide_eq_false_iff_not, Bool.cond_true_left, Bool.cond_false_right, List.cons_append, List.nil_append, List.map_cons, List.map_nil, hL, wrapUpN (show k ≤ 10000000000 by omega)]
        repeat' (first | apply And.intro | intro _hc)
        all_goals first | exact ⟨⟨p + (Utf8.decode s p).2, k + 1⟩, LeL.refl _, LeH.refl _, ⟨hle, by dsimp only; omega, by dsimp only; rw [← hf, h3]⟩, by dsimp only; omega⟩ | exact AV.le_refl _ | exact AV.le_any _ | exact OLe.refl _ | exact OLe.none _ | exact LeH.refl _ | exact LeL.refl _ | exact AV.le.bs _ | exact AV.le.sb _ | omega | contradiction
  · rw [rns_end hi, List.length_nil] at h2
    have h2 : k = (rns s 0).length := by omega
    subst h2
    have hf : fine s 0 = true := by
      rw [← h3]; unfold fine; rw [rns_end hi]
      by_cases hz : p = 0
      · subst hz; rw [rns_end hi]; rfl
      · rw [decide_eq_false hz]; rfl
    rw [show OChk s = endChk s by unfold OChk; rw [hf]; rfl]
    repeat' (first | refine wC (by first | omega | (simp only [cl_iff, AV.le_refl, AV.le_any, OLe_refl, LeH_cons, LeH_nil, LeL_cons, LeL_nil, and_true, true_and, Bool.and_eq_true, Bool.or_eq_true, decide_eq_true_eq, notT, Bool.cond_true_left, Bool.cond_false_right, Nat.blt_eq, Nat.zero_add, cond_true, cond_false, Int.toNat_natCast, Bool.not_true, Bool.not_false, Bool.false_eq_true, not_true_eq_false, not_false_eq_true, or_false, false_or, or_true, true_or, and_false, false_and, condIT]; first | done | omega)) ?_ | refine wT (by first | omega | (simp only [cl_iff, AV.le_refl, AV.le_any, OLe_refl, LeH_cons, LeH_nil, LeL_cons, LeL_nil, and_true, true_and, Bool.and_eq_true, Bool.or_eq_true, decide_eq_true_eq, notT, Bool.cond_true_left, Bool.cond_false_right, Nat.blt_eq, Nat.zero_add, cond_true, cond_false, Int.toNat_natCast, Bool.not_true, Bool.not_false, Bool.false_eq_true, not_true_eq_false, not_false_eq_true, or_false, false_or, or_true, true_or, and_false, false_and, condIT]; first | done | omega)) ?_ | refine wF (by intro _h; first | omega | (simp only [cl_iff, AV.le_refl, AV.le_any, OLe_refl, LeH_cons, LeH_nil, LeL_cons, LeL_nil, and_true, true_and, Bool.and_eq_true, Bool.or_eq_true, decide_eq_true_eq, notT, Bool.cond_true_left, Bool.cond_false_right, Nat.blt_eq, Nat.zero_add, cond_true, cond_false, Int.toNat_natCast, Bool.not_true, Bool.not_false, Bool.false_eq_true, not_true_eq_false, not_false_eq_true, or_false, false_or, or_true, true_or, and_false, false_and, condIT] at _h; first | done | omega)) ?_ | (refine wS ?_ ?_ <;> intro _h <;> simp only [cl_iff, AV.le_refl, AV.le_any, OLe_refl, LeH_cons, LeH_nil, LeL_cons, LeL_nil, and_true, true_and, Bool.and_eq_true, Bool.or_eq_true, decide_eq_true_eq, notT, Bool.cond_true_left, Bool.cond_false_right, Nat.blt_eq, Nat.zero_add, cond_true, cond_false, Int.toNat_natCast, Bool.not_true, Bool.not_false, Bool.false_eq_true, not_true_eq_false, not_false_eq_true, or_false, false_or, or_true, true_or, and_false, false_and, condIT] at _h))
    all_goals simp only [or_true, true_or, false_or, or_false, and_false, false_and, cond_true, cond_false, Bool.not_true, Bool.not_false, Bool.false_eq_true, Bool.true_eq_false, not_true_eq_false, not_false_eq_true, false_implies, true_implies, implies_true, Nat.blt_eq, owesN, owesX, owesR, notT, sat_brT, sat_brF, sat_chkT, cl_iff, cl_false, AV.le_refl, AV.le_any, OLe_refl, OLe_none, sat_brN, Tree.sat_chk, Tree.sat_leaf, Tree.sat_fail, Nat.zero_add, Nat.sub_zero, Int.toNat_natCast, LeH_cons, LeH_nil, LeL_cons, LeL_nil, and_true, true_and, Bool.and_eq_true, Bool.or_eq_true, decide_eq_true_eq, decide_eq_false_iff_not, Bool.cond_true_left, Bool.cond_false_right, List.cons_append, List.nil_append, List.map_cons, List.map_nil]
    repeat' (first | apply And.intro | intro _hc)
    all_goals first | exact rfl | exact AV.le_refl _ | exact AV.le_any _ | exact OLe.refl _ | exact OLe.none _ | exact LeH.refl _ | exact LeL.refl _ | exact AV.le.bs _ | exact AV.le.sb _ | omega | contradiction
theorem runChkE (s : ByteArray) : bodyE (P := Tryd.prog) (Γ := Γm) [] (fun _ => LSpec.at [3, 8, 2] [] (SChk s ⟨0, 0⟩) (endChk s)) false 41 [.tmp 2] (bodyOf Tryd.f20) [.v (.string s)] [] =
  Tree.chk (cl (LeL [AV.v (Value.int IntKind.i64 (0 : Int)), AV.its (0 : Nat), AV.v (Value.int IntKind.i64 (0 : Int))] [AV.v (Value.int IntKind.i64 (↑(0 : Nat) : Int)), AV.its (0 : Nat),
    AV.any] ∧ LeH [some (Blk.sit s (0 : Nat))] [some (Blk.sit s (0 : Nat))])) (Tree.br (bif decide ((↑(List.length (rns s (0 : Nat))) : Int) < (1 : Int)) then true else decide ((32 : Int) <
    (↑(List.length (rns s (0 : Nat))) : Int))) (Tree.leaf (Ans.mk (AV.v (Value.int IntKind.i64 (20 : Int))) [])) (Tree.leaf (Ans.mk (AV.v (Value.int IntKind.i64 (0 : Int))) []))) := by kernel_rfl
theorem runChkR (s : ByteArray) : bodyE (P := Tryd.prog) (Γ := Γm) [] (fun _ => LSpec.at [3, 8, 2] [] (SChk s ⟨0, 0⟩) retChk) false 41 [.tmp 2] (bodyOf Tryd.f20) [.v (.string s)] [] =
  Tree.chk (cl (LeL [AV.v (Value.int IntKind.i64 (0 : Int)), AV.its (0 : Nat), AV.v (Value.int IntKind.i64 (0 : Int))] [AV.v (Value.int IntKind.i64 (↑(0 : Nat) : Int)), AV.its (0 : Nat),
    AV.any] ∧ LeH [some (Blk.sit s (0 : Nat))] [some (Blk.sit s (0 : Nat))])) (Tree.leaf (Ans.mk (AV.v (Value.int IntKind.i64 (20 : Int))) [])) := by kernel_rfl
theorem ansChk {s : ByteArray} (hs : s.size ≤ 1000000000) : Answers Tryd.prog Γm 20 [.v (.string s)] [] (.v (.int .i64 (erN (nameB s)))) [] [] := by
  have hl := loopChk hs ⟨0, 0⟩ ⟨Nat.zero_le _, Nat.zero_add _, rfl⟩
  unfold OChk at hl
  unfold nameB
  cases hf : fine s 0 with
  | true =>
    rw [hf, cond_true] at hl
    refine answers (fn := Tryd.f20) (c := bodyOf Tryd.f20) (ntmps := 41) (results := [.tmp 2]) [] (fun _ => LSpec.at [3, 8, 2] [] (SChk s ⟨0, 0⟩) (endChk s)) false Tryd.func20 (by kernel_rfl) (by kernel_rfl) (by kernel_rfl) (by kernel_rfl) (by simp) rfl (oneLoop (b := lpChk) (by kernel_rfl) hl) <| Meets.of (runChkE s) <| ?_
    by_cases h : 1 ≤ (rns s 0).length ∧ (rns s 0).length ≤ 32
    · rw [decide_eq_true h]
      repeat' (first | refine wC (by first | omega | (simp only [cl_iff, AV.le_refl, AV.le_any, OLe_refl, LeH_cons, LeH_nil, LeL_cons, LeL_nil, and_true, true_and, Bool.and_eq_true, Bool.or_eq_true, decide_eq_true_eq, notT, Bool.cond_true_left, Bool.cond_false_right, Nat.blt_eq, Nat.zero_add, cond_true, cond_false, Int.toNat_natCast, Bool.not_true, Bool.not_false, Bool.false_eq_true, not_true_eq_false, not_false_eq_true, or_false, false_or, or_true, true_or, and_false, false_and, condIT]; first | done | omega)) ?_ | refine wT (by first | omega | (simp only [cl_iff, AV.le_refl, AV.le_any, OLe_refl, LeH_cons, LeH_nil, LeL_cons, LeL_nil, and_true, true_and, Bool.and_eq_true, Bool.or_eq_true, decide_eq_true_eq, notT, Bool.cond_true_left, Bool.cond_false_right, Nat.blt_eq, Nat.zero_add, cond_true, cond_false, Int.toNat_natCast, Bool.not_true, Bool.not_false, Bool.false_eq_true, not_true_eq_false, not_false_eq_true, or_false, false_or, or_true, true_or, and_false, false_and, condIT]; first | done | omega)) ?_ | refine wF (by intro _h; first | omega | (simp only [cl_iff, AV.le_refl, AV.le_any, OLe_refl, LeH_cons, LeH_nil, LeL_cons, LeL_nil, and_true, true_and, Bool.and_eq_true, Bool.or_eq_true, decide_eq_true_eq, notT, Bool.cond_true_left, Bool.cond_false_right, Nat.blt_eq, Nat.zero_add, cond_true, cond_false, Int.toNat_natCast, Bool.not_true, Bool.not_false, Bool.false_eq_true, not_true_eq_false, not_false_eq_true, or_false, false_or, or_true, true_or, and_false, false_and, condIT] at _h; first | done | omega)) ?_ | (refine wS ?_ ?_ <;> intro _h <;> simp only [cl_iff, AV.le_refl, AV.le_any, OLe_refl, LeH_cons, LeH_nil, LeL_cons, LeL_nil, and_true, true_and, Bool.and_eq_true, Bool.or_eq_true, decide_eq_true_eq, notT, Bool.cond_true_left, Bool.cond_false_right, Nat.blt_eq, Nat.zero_add, cond_true, cond_false, Int.toNat_natCast, Bool.not_true, Bool.not_false, Bool.false_eq_true, not_true_eq_false, not_false_eq_true, or_false, false_or, or_true, true_or, and_false, false_and, condIT] at _h))
      all_goals simp only [or_true, true_or, false_or, or_false, and_false, false_and, cond_true, cond_false, Bool.not_true, Bool.not_false, Bool.false_eq_true, Bool.true_eq_false, not_true_eq_false, not_false_eq_true, false_implies, true_implies, implies_true, Nat.blt_eq, owesN, owesX, owesR, notT, sat_brT, sat_brF, sat_chkT, cl_iff, cl_false, AV.le_refl, AV.le_any, OLe_refl, OLe_none, sat_brN, Tree.sat_chk, Tree.sat_leaf, Tree.sat_fail, Nat.zero_add, Nat.sub_zero, Int.toNat_natCast, LeH_cons, LeH_nil, LeL_cons, LeL_nil, and_true, true_and, Bool.and_eq_true, Bool.or_eq_true, decide_eq_true_eq, decide_eq_false_iff_not, Bool.cond_true_left, Bool.cond_false_right, List.cons_append, List.nil_append, List.map_cons, List.map_nil]
      repeat' (first | apply And.intro | intro _hc)
      all_goals first | exact leI rfl | exact AV.le_refl _ | exact AV.le_any _ | exact OLe.refl _ | exact OLe.none _ | exact LeH.refl _ | exact LeL.refl _ | exact AV.le.bs _ | exact AV.le.sb _ | omega | contradiction
    · rw [decide_eq_false h]
      repeat' (first | refine wC (by first | omega | (simp only [cl_iff, AV.le_refl, AV.le_any, OLe_refl, LeH_cons, LeH_nil, LeL_cons, LeL_nil, and_true, true_and, Bool.and_eq_true, Bool.or_eq_true, decide_eq_true_eq, notT, Bool.cond_true_left, Bool.cond_false_right, Nat.blt_eq, Nat.zero_add, cond_true, cond_false, Int.toNat_natCast, Bool.not_true, Bool.not_false, Bool.false_eq_true, not_true_eq_false, not_false_eq_true, or_false, false_or, or_true, true_or, and_false, false_and, condIT]; first | done | omega)) ?_ | refine wT (by first | omega | (simp only [cl_iff, AV.le_refl, AV.le_any, OLe_refl, LeH_cons, LeH_nil, LeL_cons, LeL_nil, and_true, true_and, Bool.and_eq_true, Bool.or_eq_true, decide_eq_true_eq, notT, Bool.cond_true_left, Bool.cond_false_right, Nat.blt_eq, Nat.zero_add, cond_true, cond_false, Int.toNat_natCast, Bool.not_true, Bool.not_false, Bool.false_eq_true, not_true_eq_false, not_false_eq_true, or_false, false_or, or_true, true_or, and_false, false_and, condIT]; first | done | omega)) ?_ | refine wF (by intro _h; first | omega | (simp only [cl_iff, AV.le_refl, AV.le_any, OLe_refl, LeH_cons, LeH_nil, LeL_cons, LeL_nil, and_true, true_and, Bool.and_eq_true, Bool.or_eq_true, decide_eq_true_eq, notT, Bool.cond_true_left, Bool.cond_false_right, Nat.blt_eq, Nat.zero_add, cond_true, cond_false, Int.toNat_natCast, Bool.not_true, Bool.not_false, Bool.false_eq_true, not_true_eq_false, not_false_eq_true, or_false, false_or, or_true, true_or, and_false, false_and, condIT] at _h; first | done | omega)) ?_ | (refine wS ?_ ?_ <;> intro _h <;> simp only [cl_iff, AV.le_refl, AV.le_any, OLe_refl, LeH_cons, LeH_nil, LeL_cons, LeL_nil, and_true, true_and, Bool.and_eq_true, Bool.or_eq_true, decide_eq_true_eq, notT, Bool.cond_true_left, Bool.cond_false_right, Nat.blt_eq, Nat.zero_add, cond_true, cond_false, Int.toNat_natCast, Bool.not_true, Bool.not_false, Bool.false_eq_true, not_true_eq_false, not_false_eq_true, or_false, false_or, or_true, true_or, and_false, false_and, condIT] at _h))
      all_goals simp only [or_true, true_or, false_or, or_false, and_false, false_and, cond_true, cond_false, Bool.not_true, Bool.not_false, Bool.false_eq_true, Bool.true_eq_false, not_true_eq_false, not_false_eq_true, false_implies, true_implies, implies_true, Nat.blt_eq, owesN, owesX, owesR, notT, sat_brT, sat_brF, sat_chkT, cl_iff, cl_false, AV.le_refl, AV.le_any, OLe_refl, OLe_none, sat_brN, Tree.sat_chk, Tree.sat_leaf, Tree.sat_fail, Nat.zero_add, Nat.sub_zero, Int.toNat_natCast, LeH_cons, LeH_nil, LeL_cons, LeL_nil, and_true, true_and, Bool.and_eq_true, Bool.or_eq_true, decide_eq_true_eq, decide_eq_false_iff_not, Bool.cond_true_left, Bool.cond_false_right, List.cons_append, List.nil_append, List.map_cons, List.map_nil]
      repeat' (first | apply And.intro | intro _hc)
      all_goals first | exact leI rfl | exact AV.le_refl _ | exact AV.le_any _ | exact OLe.refl _ | exact OLe.none _ | exact LeH.refl _ | exact LeL.refl _ | exact AV.le.bs _ | exact AV.le.sb _ | omega | contradiction
  | false =>
    rw [hf, cond_false] at hl
    refine answers (fn := Tryd.f20) (c := bodyOf Tryd.f20) (ntmps := 41) (results := [.tmp 2]) [] (fun _ => LSpec.at [3, 8, 2] [] (SChk s ⟨0, 0⟩) retChk) false Tryd.func20 (by kernel_rfl) (by kernel_rfl) (by kernel_rfl) (by kernel_rfl) (by simp) rfl (oneLoop (b := lpChk) (by kernel_rfl) hl) <| Meets.of (runChkR s) <| ?_
    repeat' (first | refine wC (by first | omega | (simp only [cl_iff, AV.le_refl, AV.le_any, OLe_refl, LeH_cons, LeH_nil, LeL_cons, LeL_nil, and_true, true_and, Bool.and_eq_true, Bool.or_eq_true, decide_eq_true_eq, notT, Bool.cond_true_left, Bool.cond_false_right, Nat.blt_eq, Nat.zero_add, cond_true, cond_false, Int.toNat_natCast, Bool.not_true, Bool.not_false, Bool.false_eq_true, not_true_eq_false, not_false_eq_true, or_false, false_or, or_true, true_or, and_false, false_and, condIT]; first | done | omega)) ?_ | refine wT (by first | omega | (simp only [cl_iff, AV.le_refl, AV.le_any, OLe_refl, LeH_cons, LeH_nil, LeL_cons, LeL_nil, and_true, true_and, Bool.and_eq_true, Bool.or_eq_true, decide_eq_true_eq, notT, Bool.cond_true_left, Bool.cond_false_right, Nat.blt_eq, Nat.zero_add, cond_true, cond_false, Int.toNat_natCast, Bool.not_true, Bool.not_false, Bool.false_eq_true, not_true_eq_false, not_false_eq_true, or_false, false_or, or_true, true_or, and_false, false_and, condIT]; first | done | omega)) ?_ | refine wF (by intro _h; first | omega | (simp only [cl_iff, AV.le_refl, AV.le_any, OLe_refl, LeH_cons, LeH_nil, LeL_cons, LeL_nil, and_true, true_and, Bool.and_eq_true, Bool.or_eq_true, decide_eq_true_eq, notT, Bool.cond_true_left, Bool.cond_false_right, Nat.blt_eq, Nat.zero_add, cond_true, cond_false, Int.toNat_natCast, Bool.not_true, Bool.not_false, Bool.false_eq_true, not_true_eq_false, not_false_eq_true, or_false, false_or, or_true, true_or, and_false, false_and, condIT] at _h; first | done | omega)) ?_ | (refine wS ?_ ?_ <;> intro _h <;> simp only [cl_iff, AV.le_refl, AV.le_any, OLe_refl, LeH_cons, LeH_nil, LeL_cons, LeL_nil, and_true, true_and, Bool.and_eq_true, Bool.or_eq_true, decide_eq_true_eq, notT, Bool.cond_true_left, Bool.cond_false_right, Nat.blt_eq, Nat.zero_add, cond_true, cond_false, Int.toNat_natCast, Bool.not_true, Bool.not_false, Bool.false_eq_true, not_true_eq_false, not_false_eq_true, or_false, false_or, or_true, true_or, and_false, false_and, condIT] at _h))
    all_goals simp only [or_true, true_or, false_or, or_false, and_false, false_and, cond_true, cond_false, Bool.not_true, Bool.not_false, Bool.false_eq_true, Bool.true_eq_false, not_true_eq_false, not_false_eq_true, false_implies, true_implies, implies_true, Nat.blt_eq, owesN, owesX, owesR, notT, sat_brT, sat_brF, sat_chkT, cl_iff, cl_false, AV.le_refl, AV.le_any, OLe_refl, OLe_none, sat_brN, Tree.sat_chk, Tree.sat_leaf, Tree.sat_fail, Nat.zero_add, Nat.sub_zero, Int.toNat_natCast, LeH_cons, LeH_nil, LeL_cons, LeL_nil, and_true, true_and, Bool.and_eq_true, Bool.or_eq_true, decide_eq_true_eq, decide_eq_false_iff_not, Bool.cond_true_left, Bool.cond_false_right, List.cons_append, List.nil_append, List.map_cons, List.map_nil]
    repeat' (first | apply And.intro | intro _hc)
    all_goals first | exact leI rfl | exact AV.le_refl _ | exact AV.le_any _ | exact OLe.refl _ | exact OLe.none _ | exact LeH.refl _ | exact LeL.refl _ | exact AV.le.bs _ | exact AV.le.sb _ | omega | contradiction
noncomputable def kChk : CT Tryd.prog Γm := CT.oS 20 Tryd.func20 (by kernel_rfl) (by kernel_rfl) (fun s => s.size ≤ 1000000000) (fun s => .v (.int .i64 (erN (nameB s)))) (fun _ => []) (fun s h => ansChk h)
/-! ### the document's -/
theorem bad_letter {s : ByteArray} : ∀ {n p : Nat}, s.size - p ≤ n → good s p = false → ((rns s p).all fun c => letterB (c : Int)) = false := by
  intro n
  induction n with
  | zero => intro p h hg; rw [good_end (by omega)] at hg; cases hg
  | succ n ih =>
    intro p h hg
    by_cases hp : p < s.size
    · rw [good_ok hp] at hg
      rw [rns_step hp, List.all_cons]
      have := dec_pos s p
      cases ho : okAt s p with
      | false =>
        have hb : badAt s p := by
          unfold okAt at ho
          have h3 : decide (badAt s p) = true := by cases h2 : decide (badAt s p) with
            | true => rfl
            | false => rw [h2] at ho; cases ho
          exact of_decide_eq_true h3
        rw [show (Utf8.decode s p).1 = 65533 by rw [show Utf8.decode s p = (65533, 1) from hb]]
        rfl
      | true =>
        rw [ho, Bool.true_and] at hg
        rw [ih (by omega) hg, Bool.and_false]
    · rw [good_end (by omega)] at hg; cases hg
noncomputable abbrev lpChkR : Code := loopOf (bodyOf Tryd.f21) 0
def SChkR (l : List Nat) (i : Nat) : List AV × Heap := ([.hs 0 0 l.length, .v (.int .i64 (i : Int)), .any], [some (i1B l)])
def OChkR (l : List Nat) : Out := bif (l.all fun c => letterB (c : Int)) then ⟨.exit 0, [.any, .any, .any], [none]⟩ else ⟨.ret, [.any, .any, .v (.bool false)], [none]⟩
theorem rChkR (l : List Nat) (i : Nat) : roundE (P := Tryd.prog) (Γ := Γm) [c11'] Lno false 0 0 lpChkR [3, 5, 2] [] 53 (SChkR l i).1 (SChkR l i).2 =
  Tree.br (decide ((↑i : Int) < (↑(List.length l) : Int))) (Tree.chk (decide ((0 : Int) ≤ (↑i : Int)) && decide ((↑i : Int) < (↑(List.length l) : Int)) && true) (Tree.br (!letterB (↑(List.getD
    l ((0 : Nat) + i) default) : Int)) (Tree.leaf (Out.mk AEx.ret [AV.hs (0 : Nat) (0 : Nat) (List.length l), AV.v (Value.int IntKind.i64 (↑i : Int)), AV.v (Value.bool false)] [some (Blk.arr
    (1 : Nat) (List.length l) (lsF I1.c l))])) (Tree.leaf (Out.mk AEx.normal [AV.hs (0 : Nat) (0 : Nat) (List.length l), AV.v (Value.int IntKind.i64 (IntKind.wrap IntKind.i64 ((↑i : Int) +
    (1 : Int)))), AV.any] [some (Blk.arr (1 : Nat) (List.length l) (lsF I1.c l))])))) (Tree.leaf (Out.mk (AEx.exit (0 : Nat)) [AV.hs (0 : Nat) (0 : Nat) (List.length l), AV.v (Value.int
    IntKind.i64 (↑i : Int)), AV.any] [some (Blk.arr (1 : Nat) (List.length l) (lsF I1.c l))])) := by kernel_rfl
theorem all_drop {f : Nat → Bool} {l : List Nat} {i : Nat} (h : i < l.length) : (l.drop i).all f = (f (l.getD i default) && (l.drop (i + 1)).all f) := by
  rw [List.drop_eq_getElem_cons h, List.all_cons, getD_get h]
theorem loopChkR {l : List Nat} (hs : l.length ≤ 1000000000) : ∀ i : Nat, (i ≤ l.length ∧ ((l.drop i).all fun c => letterB (c : Int)) = l.all fun c => letterB (c : Int)) → LoopOK Tryd.prog Γm 0 53 lpChkR (LSpec.at [3, 5, 2] [] (SChkR l i) (OChkR l)) := by
  refine loop_at (S := SChkR l) (O := fun _ => OChkR l) (k := 0) (fun i => l.length - i) fun i hp => .of (noLoops (by kernel_rfl)) (rChkR l i) ?_
  obtain ⟨h1, h2⟩ := hp
  rcases Nat.lt_or_ge i l.length with hi | hi
  · rw [all_drop hi] at h2
    cases hL : letterB ((l.getD i default : Nat) : Int) with
    | false =>
      rw [hL, Bool.false_and] at h2
      unfold OChkR
      rw [← h2, cond_false]
      repeat' (first | refine wC (by first | omega | (simp only [cl_iff, AV.le_refl, AV.le_any, OLe_refl, LeH_cons, LeH_nil, LeL_cons, LeL_nil, and_true, true_and, Bool.and_eq_true, Bool.or_eq_true, decide_eq_true_eq, notT, Bool.cond_true_left, Bool.cond_false_right, Nat.blt_eq, Nat.zero_add, cond_true, cond_false, Int.toNat_natCast, Bool.not_true, Bool.not_false, Bool.false_eq_true, not_true_eq_false, not_false_eq_true, or_false, false_or, or_true, true_or, and_false, false_and, condIT, hL]; first | done | omega)) ?_ | refine wT (by first | omega | (simp only [cl_iff, AV.le_refl, AV.le_any, OLe_refl, LeH_cons, LeH_nil, LeL_cons, LeL_nil, and_true, true_and, Bool.and_eq_true, Bool.or_eq_true, decide_eq_true_eq, notT, Bool.cond_true_left, Bool.cond_false_right, Nat.blt_eq, Nat.zero_add, cond_true, cond_false, Int.toNat_natCast, Bool.not_true, Bool.not_false, Bool.false_eq_true, not_true_eq_false, not_false_eq_true, or_false, false_or, or_true, true_or, and_false, false_and, condIT, hL]; first | done | omega)) ?_ | refine wF (by intro _h; first | omega | (simp only [cl_iff, AV.le_refl, AV.le_any, OLe_refl, LeH_cons, LeH_nil, LeL_cons, LeL_nil, and_true, true_and, Bool.and_eq_true, Bool.or_eq_true, decide_eq_true_eq, notT, Bool.cond_true_left, Bool.cond_false_right, Nat.blt_eq, Nat.zero_add, cond_true, cond_false, Int.toNat_natCast, Bool.not_true, Bool.not_false, Bool.false_eq_true, not_true_eq_false, not_false_eq_true, or_false, false_or, or_true, true_or, and_false, false_and, condIT, hL] at _h; first | done | omega)) ?_ | (refine wS ?_ ?_ <;> intro _h <;> simp only [cl_iff, AV.le_refl, AV.le_any, OLe_refl, LeH_cons, LeH_nil, LeL_cons, LeL_nil, and_true, true_and, Bool.and_eq_true, Bool.or_eq_true, decide_eq_true_eq, notT, Bool.cond_true_left, Bool.cond_false_right, Nat.blt_eq, Nat.zero_add, cond_true, cond_false, Int.toNat_natCast, Bool.not_true, Bool.not_false, Bool.false_eq_true, not_true_eq_false, not_false_eq_true, or_false, false_or, or_true, true_or, and_false, false_and, condIT, hL] at _h))
      all_goals simp only [or_true, true_or, false_or, or_false, and_false, false_and, cond_true, cond_false, Bool.not_true, Bool.not_false, Bool.false_eq_true, Bool.true_eq_false, not_true_eq_false, not_false_eq_true, false_implies, true_implies, implies_true, Nat.blt_eq, owesN, owesX, owesR, notT, sat_brT, sat_brF, sat_chkT, cl_iff, cl_false, AV.le_refl, AV.le_any, OLe_refl, OLe_none, sat_brN, Tree.sat_chk, Tree.sat_leaf, Tree.sat_fail, Nat.zero_add, Nat.sub_zero, Int.toNat_natCast, LeH_cons, LeH_nil, LeL_cons, LeL_nil, and_true, true_and, Bool.and_eq_true, Bool.or_eq_true, decide_eq_true_eq, decide_eq_false_iff_not, Bool.cond_true_left, Bool.cond_false_right, List.cons_append, List.nil_append, List.map_cons, List.map_nil, hL]
      repeat' (first | apply And.intro | intro _hc)
      all_goals first | exact rfl | exact AV.le_refl _ | exact AV.le_any _ | exact OLe.refl _ | exact OLe.none _ | exact LeH.refl _ | exact LeL.refl _ | exact AV.le.bs _ | exact AV.le.sb _ | omega | contradiction
    | true =>
      rw [hL, Bool.true_and] at h2
      repeat' (first | refine wC (by first | omega | (simp only [cl_iff, AV.le_refl, AV.le_any, OLe_refl, LeH_cons, LeH_nil, LeL_cons, LeL_nil, and_true, true_and, Bool.and_eq_true, Bool.or_eq_true, decide_eq_true_eq, notT, Bool.cond_true_left, Bool.cond_false_right, Nat.blt_eq, Nat.zero_add, cond_true, cond_false, Int.toNat_natCast, Bool.not_true, Bool.not_false, Bool.false_eq_true, not_true_eq_false, not_false_eq_true, or_false, false_or, or_true, true_or, and_false, false_and, condIT, hL, wrapUpN (show i ≤ 10000000000 by omega)]; first | done | omega)) ?_ | refine wT (by first | omega | (simp only [cl_iff, AV.le_refl, AV.le_any, OLe_refl, LeH_cons, LeH_nil, LeL_cons, LeL_nil, and_true, true_and, Bool.and_eq_true, Bool.or_eq_true, decide_eq_true_eq, notT, Bool.cond_true_left, Bool.cond_false_right, Nat.blt_eq, Nat.zero_add, cond_true, cond_false, Int.toNat_natCast, Bool.not_true, Bool.not_false, Bool.false_eq_true, not_true_eq_false, not_false_eq_true, or_false, false_or, or_true, true_or, and_false, false_and, condIT, hL, wrapUpN (show i ≤ 10000000000 by omega)]; first | done | omega)) ?_ | refine wF (by intro _h; first | omega | (simp only [cl_iff, AV.le_refl, AV.le_any, OLe_refl, LeH_cons, LeH_nil, LeL_cons, LeL_nil, and_true, true_and, Bool.and_eq_true, Bool.or_eq_true, decide_eq_true_eq, notT, Bool.cond_true_left, Bool.cond_false_right, Nat.blt_eq, Nat.zero_add, cond_true, cond_false, Int.toNat_natCast, Bool.not_true, Bool.not_false, Bool.false_eq_true, not_true_eq_false, not_false_eq_true, or_false, false_or, or_true, true_or, and_false, false_and, condIT, hL, wrapUpN (show i ≤ 10000000000 by omega)] at _h; first | done | omega)) ?_ | (refine wS ?_ ?_ <;> intro _h <;> simp only [cl_iff, AV.le_refl, AV.le_any, OLe_refl, LeH_cons, LeH_nil, LeL_cons, LeL_nil, and_true, true_and, Bool.and_eq_true, Bool.or_eq_true, decide_eq_true_eq, notT, Bool.cond_true_left, Bool.cond_false_right, Nat.blt_eq, Nat.zero_add, cond_true, cond_false, Int.toNat_natCast, Bool.not_true, Bool.not_false, Bool.false_eq_true, not_true_eq_false, not_false_eq_true, or_false, false_or, or_true, true_or, and_false, false_and, condIT, hL, wrapUpN (show i ≤ 10000000000 by omega)] at _h))
      all_goals simp only [or_true, true_or, false_or, or_false, and_false, false_and, cond_true, cond_false, Bool.not_true, Bool.not_false, Bool.false_eq_true, Bool.true_eq_false, not_true_eq_false, not_false_eq_true, false_implies, true_implies, implies_true, Nat.blt_eq, owesN, owesX, owesR, notT, sat_brT, sat_brF, sat_chkT, cl_iff, cl_false, AV.le_refl, AV.le_any, OLe_refl, OLe_none, sat_brN, Tree.sat_chk, Tree.sat_leaf, Tree.sat_fail, Nat.zero_add, Nat.sub_zero, Int.toNat_natCast, LeH_cons, LeH_nil, LeL_cons, LeL_nil, and_true, true_and, Bool.and_eq_true, Bool.or_eq_true, decide_eq_true_eq, decide_eq_false_iff_not, Bool.cond_true_left, Bool.cond_false_right, List.cons_append, List.nil_append, List.map_cons, List.map_nil, hL, wrapUpN (show i ≤ 10000000000 by omega)]
      repeat' (first | apply And.intro | intro _hc)
      all_goals first | exact ⟨i + 1, LeL.refl _, LeH.refl _, ⟨hi, h2⟩, by omega⟩ | exact AV.le_refl _ | exact AV.le_any _ | exact OLe.refl _ | exact OLe.none _ | exact LeH.refl _ | exact LeL.refl _ | exact AV.le.bs _ | exact AV.le.sb _ | omega | contradiction
  · rw [List.drop_eq_nil_of_le hi] at h2
    unfold OChkR
    rw [← h2, List.all_nil, cond_true]
    repeat' (first | refine wC (by first | omega | (simp only [cl_iff, AV.le_refl, AV.le_any, OLe_refl, LeH_cons, LeH_nil, LeL_cons, LeL_nil, and_true, true_and, Bool.and_eq_true, Bool.or_eq_true, decide_eq_true_eq, notT, Bool.cond_true_left, Bool.cond_false_right, Nat.blt_eq, Nat.zero_add, cond_true, cond_false, Int.toNat_natCast, Bool.not_true, Bool.not_false, Bool.false_eq_true, not_true_eq_false, not_false_eq_true, or_false, false_or, or_true, true_or, and_false, false_and, condIT]; first | done | omega)) ?_ | refine wT (by first | omega | (simp only [cl_iff, AV.le_refl, AV.le_any, OLe_refl, LeH_cons, LeH_nil, LeL_cons, LeL_nil, and_true, true_and, Bool.and_eq_true, Bool.or_eq_true, decide_eq_true_eq, notT, Bool.cond_true_left, Bool.cond_false_right, Nat.blt_eq, Nat.zero_add, cond_true, cond_false, Int.toNat_natCast, Bool.not_true, Bool.not_false, Bool.false_eq_true, not_true_eq_false, not_false_eq_true, or_false, false_or, or_true, true_or, and_false, false_and, condIT]; first | done | omega)) ?_ | refine wF (by intro _h; first | omega | (simp only [cl_iff, AV.le_refl, AV.le_any, OLe_refl, LeH_cons, LeH_nil, LeL_cons, LeL_nil, and_true, true_and, Bool.and_eq_true, Bool.or_eq_true, decide_eq_true_eq, notT, Bool.cond_true_left, Bool.cond_false_right, Nat.blt_eq, Nat.zero_add, cond_true, cond_false, Int.toNat_natCast, Bool.not_true, Bool.not_false, Bool.false_eq_true, not_true_eq_false, not_false_eq_true, or_false, false_or, or_true, true_or, and_false, false_and, condIT] at _h; first | done | omega)) ?_ | (refine wS ?_ ?_ <;> intro _h <;> simp only [cl_iff, AV.le_refl, AV.le_any, OLe_refl, LeH_cons, LeH_nil, LeL_cons, LeL_nil, and_true, true_and, Bool.and_eq_true, Bool.or_eq_true, decide_eq_true_eq, notT, Bool.cond_true_left, Bool.cond_false_right, Nat.blt_eq, Nat.zero_add, cond_true, cond_false, Int.toNat_natCast, Bool.not_true, Bool.not_false, Bool.false_eq_true, not_true_eq_false, not_false_eq_true, or_false, false_or, or_true, true_or, and_false, false_and, condIT] at _h))
    all_goals simp only [or_true, true_or, false_or, or_false, and_false, false_and, cond_true, cond_false, Bool.not_true, Bool.not_false, Bool.false_eq_true, Bool.true_eq_false, not_true_eq_false, not_false_eq_true, false_implies, true_implies, implies_true, Nat.blt_eq, owesN, owesX, owesR, notT, sat_brT, sat_brF, sat_chkT, cl_iff, cl_false, AV.le_refl, AV.le_any, OLe_refl, OLe_none, sat_brN, Tree.sat_chk, Tree.sat_leaf, Tree.sat_fail, Nat.zero_add, Nat.sub_zero, Int.toNat_natCast, LeH_cons, LeH_nil, LeL_cons, LeL_nil, and_true, true_and, Bool.and_eq_true, Bool.or_eq_true, decide_eq_true_eq, decide_eq_false_iff_not, Bool.cond_true_left, Bool.cond_false_right, List.cons_append, List.nil_append, List.map_cons, List.map_nil]
    repeat' (first | apply And.intro | intro _hc)
    all_goals first | exact rfl | exact AV.le_refl _ | exact AV.le_any _ | exact OLe.refl _ | exact OLe.none _ | exact LeH.refl _ | exact LeL.refl _ | exact AV.le.bs _ | exact AV.le.sb _ | omega | contradiction
theorem runChkRE (s : ByteArray) : bodyE (P := Tryd.prog) (Γ := Γm) [kRun] (fun _ => LSpec.at [3, 5, 2] [] (SChkR (rns s 0) 0) ⟨.exit 0, [.any, .any, .any], [none]⟩) false 53 [.tmp 2] (bodyOf Tryd.f21) [.v (.string s)] [] =
  Tree.chk (cl (ByteArray.size s ≤ (100000000 : Nat) ∧ LeL [AV.v (Value.string s)] [AV.v (Value.string s)] ∧ LeH [] [])) (Tree.chk (bif !good s (0 : Nat) then true else bif decide
    ((↑(List.length (rns s (0 : Nat))) : Int) < (1 : Int)) then true else bif decide ((32 : Int) < (↑(List.length (rns s (0 : Nat))) : Int)) then true else decide ((0 : Int) < (↑(List.length
    (rns s (0 : Nat))) : Int)) && bif decide ((↑(List.getD (rns s (0 : Nat)) (0 : Nat) default) : Int) = (45 : Int)) then true else decide ((0 : Int) < (↑(List.length (rns s (0 : Nat))) :
    Int)) && bif decide ((48 : Int) ≤ (↑(List.getD (rns s (0 : Nat)) (0 : Nat) default) : Int)) then decide ((0 : Int) < (↑(List.length (rns s (0 : Nat))) : Int)) else true) (Tree.br (bif
    !good s (0 : Nat) then true else bif decide ((↑(List.length (rns s (0 : Nat))) : Int) < (1 : Int)) then true else bif decide ((32 : Int) < (↑(List.length (rns s (0 : Nat))) : Int)) then
    true else bif decide ((↑(List.getD (rns s (0 : Nat)) (0 : Nat) default) : Int) = (45 : Int)) then true else bif decide ((48 : Int) ≤ (↑(List.getD (rns s (0 : Nat)) (0 : Nat) default) :
    Int)) then decide ((↑(List.getD (rns s (0 : Nat)) (0 : Nat) default) : Int) ≤ (57 : Int)) else false) (Tree.leaf (Ans.mk (AV.v (Value.bool false)) [])) (Tree.chk (cl (LeL [AV.hs (0 :
    Nat) (0 : Nat) (List.length (rns s (0 : Nat))), AV.v (Value.int IntKind.i64 (0 : Int)), AV.v (Value.bool false)] [AV.hs (0 : Nat) (0 : Nat) (List.length (rns s (0 : Nat))), AV.v
    (Value.int IntKind.i64 (↑(0 : Nat) : Int)), AV.any] ∧ LeH [some (Blk.arr (1 : Nat) (List.length (rns s (0 : Nat))) (lsF I1.c (rns s (0 : Nat))))] [some (Blk.arr (1 : Nat) (List.length
    (rns s (0 : Nat))) (lsF I1.c (rns s (0 : Nat))))])) (Tree.leaf (Ans.mk (AV.v (Value.bool true)) []))))) := by kernel_rfl
theorem runChkRR (s : ByteArray) : bodyE (P := Tryd.prog) (Γ := Γm) [kRun] (fun _ => LSpec.at [3, 5, 2] [] (SChkR (rns s 0) 0) ⟨.ret, [.any, .any, .v (.bool false)], [none]⟩) false 53 [.tmp 2] (bodyOf Tryd.f21) [.v (.string s)] [] =
  Tree.chk (cl (ByteArray.size s ≤ (100000000 : Nat) ∧ LeL [AV.v (Value.string s)] [AV.v (Value.string s)] ∧ LeH [] [])) (Tree.chk (bif !good s (0 : Nat) then true else bif decide
    ((↑(List.length (rns s (0 : Nat))) : Int) < (1 : Int)) then true else bif decide ((32 : Int) < (↑(List.length (rns s (0 : Nat))) : Int)) then true else decide ((0 : Int) < (↑(List.length
    (rns s (0 : Nat))) : Int)) && bif decide ((↑(List.getD (rns s (0 : Nat)) (0 : Nat) default) : Int) = (45 : Int)) then true else decide ((0 : Int) < (↑(List.length (rns s (0 : Nat))) :
    Int)) && bif decide ((48 : Int) ≤ (↑(List.getD (rns s (0 : Nat)) (0 : Nat) default) : Int)) then decide ((0 : Int) < (↑(List.length (rns s (0 : Nat))) : Int)) else true) (Tree.br (bif
    !good s (0 : Nat) then true else bif decide ((↑(List.length (rns s (0 : Nat))) : Int) < (1 : Int)) then true else bif decide ((32 : Int) < (↑(List.length (rns s (0 : Nat))) : Int)) then
    true else bif decide ((↑(List.getD (rns s (0 : Nat)) (0 : Nat) default) : Int) = (45 : Int)) then true else bif decide ((48 : Int) ≤ (↑(List.getD (rns s (0 : Nat)) (0 : Nat) default) :
    Int)) then decide ((↑(List.getD (rns s (0 : Nat)) (0 : Nat) default) : Int) ≤ (57 : Int)) else false) (Tree.leaf (Ans.mk (AV.v (Value.bool false)) [])) (Tree.chk (cl (LeL [AV.hs (0 :
    Nat) (0 : Nat) (List.length (rns s (0 : Nat))), AV.v (Value.int IntKind.i64 (0 : Int)), AV.v (Value.bool false)] [AV.hs (0 : Nat) (0 : Nat) (List.length (rns s (0 : Nat))), AV.v
    (Value.int IntKind.i64 (↑(0 : Nat) : Int)), AV.any] ∧ LeH [some (Blk.arr (1 : Nat) (List.length (rns s (0 : Nat))) (lsF I1.c (rns s (0 : Nat))))] [some (Blk.arr (1 : Nat) (List.length
    (rns s (0 : Nat))) (lsF I1.c (rns s (0 : Nat))))])) (Tree.leaf (Ans.mk (AV.v (Value.bool false)) []))))) := by kernel_rfl
theorem firstOk_get {l : List Nat} (h : 0 < l.length) : firstOk l = !badF (l.getD 0 default) := by
  cases l with
  | nil => cases h
  | cons c l => rfl
theorem ansChkR {s : ByteArray} (hs : s.size ≤ 100000000) : Answers Tryd.prog Γm 21 [.v (.string s)] [] (.sb (nameB s)) [] [] := by
  have hln : (rns s 0).length ≤ s.size - 0 := rns_len
  have hl := loopChkR (l := rns s 0) (by omega) 0 ⟨Nat.zero_le _, rfl⟩
  have hg := bad_letter (s := s) (n := s.size) (p := 0) (by omega)
  have hfo := firstOk_get (l := rns s 0)
  have hnm : nameB s = (((rns s 0).all (fun c => letterB (c : Int)) && firstOk (rns s 0)) && decide (1 ≤ (rns s 0).length ∧ (rns s 0).length ≤ 32)) := rfl
  have hbf : badF ((rns s 0).getD 0 default) = decide ((48 ≤ (rns s 0).getD 0 default ∧ (rns s 0).getD 0 default ≤ 57) ∨ (rns s 0).getD 0 default = 45) := rfl
  unfold OChkR at hl
  rw [hnm]
  cases hA : (rns s 0).all (fun c => letterB (c : Int)) with
  | true =>
    rw [hA, cond_true] at hl
    rw [hA] at hg
    have hg' : good s 0 = true := by
      cases h : good s 0 with
      | true => rfl
      | false => exact absurd (hg h) (by decide)
    refine answers (fn := Tryd.f21) (c := bodyOf Tryd.f21) (ntmps := 53) (results := [.tmp 2]) [kRun] (fun _ => LSpec.at [3, 5, 2] [] (SChkR (rns s 0) 0) ⟨.exit 0, [.any, .any, .any], [none]⟩) false Tryd.func21 (by kernel_rfl) (by kernel_rfl) (by kernel_rfl) (by kernel_rfl) (by simp) rfl (oneLoop (b := lpChkR) (by kernel_rfl) hl) <| Meets.of (runChkRE s) <| ?_
    by_cases h : 1 ≤ (rns s 0).length ∧ (rns s 0).length ≤ 32
    · rw [decide_eq_true h, hfo (by omega)]
      by_cases hb : ((48 ≤ (rns s 0).getD 0 default ∧ (rns s 0).getD 0 default ≤ 57) ∨ (rns s 0).getD 0 default = 45)
      · rw [hbf, decide_eq_true hb]
        repeat' (first | refine wC (by first | omega | (simp only [cl_iff, AV.le_refl, AV.le_any, OLe_refl, LeH_cons, LeH_nil, LeL_cons, LeL_nil, and_true, true_and, Bool.and_eq_true, Bool.or_eq_true, decide_eq_true_eq, notT, Bool.cond_true_left, Bool.cond_false_right, Nat.blt_eq, Nat.zero_add, cond_true, cond_false, Int.toNat_natCast, Bool.not_true, Bool.not_false, Bool.false_eq_true, not_true_eq_false, not_false_eq_true, or_false, false_or, or_true, true_or, and_false, false_and, condIT, hg']; first | done | omega)) ?_ | refine wT (by first | omega | (simp only [cl_iff, AV.le_refl, AV.le_any, OLe_refl, LeH_cons, LeH_nil, LeL_cons, LeL_nil, and_true, true_and, Bool.and_eq_true, Bool.or_eq_true, decide_eq_true_eq, notT, Bool.cond_true_left, Bool.cond_false_right, Nat.blt_eq, Nat.zero_add, cond_true, cond_false, Int.toNat_natCast, Bool.not_true, Bool.not_false, Bool.false_eq_true, not_true_eq_false, not_false_eq_true, or_false, false_or, or_true, true_or, and_false, false_and, condIT, hg']; first | done | omega)) ?_ | refine wF (by intro _h; first | omega | (simp only [cl_iff, AV.le_refl, AV.le_any, OLe_refl, LeH_cons, LeH_nil, LeL_cons, LeL_nil, and_true, true_and, Bool.and_eq_true, Bool.or_eq_true, decide_eq_true_eq, notT, Bool.cond_true_left, Bool.cond_false_right, Nat.blt_eq, Nat.zero_add, cond_true, cond_false, Int.toNat_natCast, Bool.not_true, Bool.not_false, Bool.false_eq_true, not_true_eq_false, not_false_eq_true, or_false, false_or, or_true, true_or, and_false, false_and, condIT, hg'] at _h; first | done | omega)) ?_ | (refine wS ?_ ?_ <;> intro _h <;> simp only [cl_iff, AV.le_refl, AV.le_any, OLe_refl, LeH_cons, LeH_nil, LeL_cons, LeL_nil, and_true, true_and, Bool.and_eq_true, Bool.or_eq_true, decide_eq_true_eq, notT, Bool.cond_true_left, Bool.cond_false_right, Nat.blt_eq, Nat.zero_add, cond_true, cond_false, Int.toNat_natCast, Bool.not_true, Bool.not_false, Bool.false_eq_true, not_true_eq_false, not_false_eq_true, or_false, false_or, or_true, true_or, and_false, false_and, condIT, hg'] at _h))
        all_goals simp only [or_true, true_or, false_or, or_false, and_false, false_and, cond_true, cond_false, Bool.not_true, Bool.not_false, Bool.false_eq_true, Bool.true_eq_false, not_true_eq_false, not_false_eq_true, false_implies, true_implies, implies_true, Nat.blt_eq, owesN, owesX, owesR, notT, sat_brT, sat_brF, sat_chkT, cl_iff, cl_false, AV.le_refl, AV.le_any, OLe_refl, OLe_none, sat_brN, Tree.sat_chk, Tree.sat_leaf, Tree.sat_fail, Nat.zero_add, Nat.sub_zero, Int.toNat_natCast, LeH_cons, LeH_nil, LeL_cons, LeL_nil, and_true, true_and, Bool.and_eq_true, Bool.or_eq_true, decide_eq_true_eq, decide_eq_false_iff_not, Bool.cond_true_left, Bool.cond_false_right, List.cons_append, List.nil_append, List.map_cons, List.map_nil, hg']
        repeat' (first | apply And.intro | intro _hc)
        all_goals first | exact AV.le_refl _ | exact AV.le_any _ | exact OLe.refl _ | exact OLe.none _ | exact LeH.refl _ | exact LeL.refl _ | exact AV.le.bs _ | exact AV.le.sb _ | omega | contradiction
      · rw [hbf, decide_eq_false hb]
        repeat' (first | refine wC (by first | omega | (simp only [cl_iff, AV.le_refl, AV.le_any, OLe_refl, LeH_cons, LeH_nil, LeL_cons, LeL_nil, and_true, true_and, Bool.and_eq_true, Bool.or_eq_true, decide_eq_true_eq, notT, Bool.cond_true_left, Bool.cond_false_right, Nat.blt_eq, Nat.zero_add, cond_true, cond_false, Int.toNat_natCast, Bool.not_true, Bool.not_false, Bool.false_eq_true, not_true_eq_false, not_false_eq_true, or_false, false_or, or_true, true_or, and_false, false_and, condIT, hg']; first | done | omega)) ?_ | refine wT (by first | omega | (simp only [cl_iff, AV.le_refl, AV.le_any, OLe_refl, LeH_cons, LeH_nil, LeL_cons, LeL_nil, and_true, true_and, Bool.and_eq_true, Bool.or_eq_true, decide_eq_true_eq, notT, Bool.cond_true_left, Bool.cond_false_right, Nat.blt_eq, Nat.zero_add, cond_true, cond_false, Int.toNat_natCast, Bool.not_true, Bool.not_false, Bool.false_eq_true, not_true_eq_false, not_false_eq_true, or_false, false_or, or_true, true_or, and_false, false_and, condIT, hg']; first | done | omega)) ?_ | refine wF (by intro _h; first | omega | (simp only [cl_iff, AV.le_refl, AV.le_any, OLe_refl, LeH_cons, LeH_nil, LeL_cons, LeL_nil, and_true, true_and, Bool.and_eq_true, Bool.or_eq_true, decide_eq_true_eq, notT, Bool.cond_true_left, Bool.cond_false_right, Nat.blt_eq, Nat.zero_add, cond_true, cond_false, Int.toNat_natCast, Bool.not_true, Bool.not_false, Bool.false_eq_true, not_true_eq_false, not_false_eq_true, or_false, false_or, or_true, true_or, and_false, false_and, condIT, hg'] at _h; first | done | omega)) ?_ | (refine wS ?_ ?_ <;> intro _h <;> simp only [cl_iff, AV.le_refl, AV.le_any, OLe_refl, LeH_cons, LeH_nil, LeL_cons, LeL_nil, and_true, true_and, Bool.and_eq_true, Bool.or_eq_true, decide_eq_true_eq, notT, Bool.cond_true_left, Bool.cond_false_right, Nat.blt_eq, Nat.zero_add, cond_true, cond_false, Int.toNat_natCast, Bool.not_true, Bool.not_false, Bool.false_eq_true, not_true_eq_false, not_false_eq_true, or_false, false_or, or_true, true_or, and_false, false_and, condIT, hg'] at _h))
        all_goals simp only [or_true, true_or, false_or, or_false, and_false, false_and, cond_true, cond_false, Bool.not_true, Bool.not_false, Bool.false_eq_true, Bool.true_eq_false, not_true_eq_false, not_false_eq_true, false_implies, true_implies, implies_true, Nat.blt_eq, owesN, owesX, owesR, notT, sat_brT, sat_brF, sat_chkT, cl_iff, cl_false, AV.le_refl, AV.le_any, OLe_refl, OLe_none, sat_brN, Tree.sat_chk, Tree.sat_leaf, Tree.sat_fail, Nat.zero_add, Nat.sub_zero, Int.toNat_natCast, LeH_cons, LeH_nil, LeL_cons, LeL_nil, and_true, true_and, Bool.and_eq_true, Bool.or_eq_true, decide_eq_true_eq, decide_eq_false_iff_not, Bool.cond_true_left, Bool.cond_false_right, List.cons_append, List.nil_append, List.map_cons, List.map_nil, hg']
        repeat' (first | apply And.intro | intro _hc)
        all_goals first | exact AV.le_refl _ | exact AV.le_any _ | exact OLe.refl _ | exact OLe.none _ | exact LeH.refl _ | exact LeL.refl _ | exact AV.le.bs _ | exact AV.le.sb _ | omega | contradiction
    · rw [decide_eq_false h, Bool.and_false]
      repeat' (first | refine wC (by first | omega | (simp only [cl_iff, AV.le_refl, AV.le_any, OLe_refl, LeH_cons, LeH_nil, LeL_cons, LeL_nil, and_true, true_and, Bool.and_eq_true, Bool.or_eq_true, decide_eq_true_eq, notT, Bool.cond_true_left, Bool.cond_false_right, Nat.blt_eq, Nat.zero_add, cond_true, cond_false, Int.toNat_natCast, Bool.not_true, Bool.not_false, Bool.false_eq_true, not_true_eq_false, not_false_eq_true, or_false, false_or, or_true, true_or, and_false, false_and, condIT, hg']; first | done | omega)) ?_ | refine wT (by first | omega | (simp only [cl_iff, AV.le_refl, AV.le_any, OLe_refl, LeH_cons, LeH_nil, LeL_cons, LeL_nil, and_true, true_and, Bool.and_eq_true, Bool.or_eq_true, decide_eq_true_eq, notT, Bool.cond_true_left, Bool.cond_false_right, Nat.blt_eq, Nat.zero_add, cond_true, cond_false, Int.toNat_natCast, Bool.not_true, Bool.not_false, Bool.false_eq_true, not_true_eq_false, not_false_eq_true, or_false, false_or, or_true, true_or, and_false, false_and, condIT, hg']; first | done | omega)) ?_ | refine wF (by intro _h; first | omega | (simp only [cl_iff, AV.le_refl, AV.le_any, OLe_refl, LeH_cons, LeH_nil, LeL_cons, LeL_nil, and_true, true_and, Bool.and_eq_true, Bool.or_eq_true, decide_eq_true_eq, notT, Bool.cond_true_left, Bool.cond_false_right, Nat.blt_eq, Nat.zero_add, cond_true, cond_false, Int.toNat_natCast, Bool.not_true, Bool.not_false, Bool.false_eq_true, not_true_eq_false, not_false_eq_true, or_false, false_or, or_true, true_or, and_false, false_and, condIT, hg'] at _h; first | done | omega)) ?_ | (refine wS ?_ ?_ <;> intro _h <;> simp only [cl_iff, AV.le_refl, AV.le_any, OLe_refl, LeH_cons, LeH_nil, LeL_cons, LeL_nil, and_true, true_and, Bool.and_eq_true, Bool.or_eq_true, decide_eq_true_eq, notT, Bool.cond_true_left, Bool.cond_false_right, Nat.blt_eq, Nat.zero_add, cond_true, cond_false, Int.toNat_natCast, Bool.not_true, Bool.not_false, Bool.false_eq_true, not_true_eq_false, not_false_eq_true, or_false, false_or, or_true, true_or, and_false, false_and, condIT, hg'] at _h))
      all_goals simp only [or_true, true_or, false_or, or_false, and_false, false_and, cond_true, cond_false, Bool.not_true, Bool.not_false, Bool.false_eq_true, Bool.true_eq_false, not_true_eq_false, not_false_eq_true, false_implies, true_implies, implies_true, Nat.blt_eq, owesN, owesX, owesR, notT, sat_brT, sat_brF, sat_chkT, cl_iff, cl_false, AV.le_refl, AV.le_any, OLe_refl, OLe_none, sat_brN, Tree.sat_chk, Tree.sat_leaf, Tree.sat_fail, Nat.zero_add, Nat.sub_zero, Int.toNat_natCast, LeH_cons, LeH_nil, LeL_cons, LeL_nil, and_true, true_and, Bool.and_eq_true, Bool.or_eq_true, decide_eq_true_eq, decide_eq_false_iff_not, Bool.cond_true_left, Bool.cond_false_right, List.cons_append, List.nil_append, List.map_cons, List.map_nil, hg']
      repeat' (first | apply And.intro | intro _hc)
      all_goals first | exact AV.le_refl _ | exact AV.le_any _ | exact OLe.refl _ | exact OLe.none _ | exact LeH.refl _ | exact LeL.refl _ | exact AV.le.bs _ | exact AV.le.sb _ | omega | contradiction
  | false =>
    rw [hA, cond_false] at hl
    refine answers (fn := Tryd.f21) (c := bodyOf Tryd.f21) (ntmps := 53) (results := [.tmp 2]) [kRun] (fun _ => LSpec.at [3, 5, 2] [] (SChkR (rns s 0) 0) ⟨.ret, [.any, .any, .v (.bool false)], [none]⟩) false Tryd.func21 (by kernel_rfl) (by kernel_rfl) (by kernel_rfl) (by kernel_rfl) (by simp) rfl (oneLoop (b := lpChkR) (by kernel_rfl) hl) <| Meets.of (runChkRR s) <| ?_
    cases hg' : good s 0 with
    | true =>
      repeat' (first | refine wC (by first | omega | (simp only [cl_iff, AV.le_refl, AV.le_any, OLe_refl, LeH_cons, LeH_nil, LeL_cons, LeL_nil, and_true, true_and, Bool.and_eq_true, Bool.or_eq_true, decide_eq_true_eq, notT, Bool.cond_true_left, Bool.cond_false_right, Nat.blt_eq, Nat.zero_add, cond_true, cond_false, Int.toNat_natCast, Bool.not_true, Bool.not_false, Bool.false_eq_true, not_true_eq_false, not_false_eq_true, or_false, false_or, or_true, true_or, and_false, false_and, condIT, hg']; first | done | omega)) ?_ | refine wT (by first | omega | (simp only [cl_iff, AV.le_refl, AV.le_any, OLe_refl, LeH_cons, LeH_nil, LeL_cons, LeL_nil, and_true, true_and, Bool.and_eq_true, Bool.or_eq_true, decide_eq_true_eq, notT, Bool.cond_true_left, Bool.cond_false_right, Nat.blt_eq, Nat.zero_add, cond_true, cond_false, Int.toNat_natCast, Bool.not_true, Bool.not_false, Bool.false_eq_true, not_true_eq_false, not_false_eq_true, or_false, false_or, or_true, true_or, and_false, false_and, condIT, hg']; first | done | omega)) ?_ | refine wF (by intro _h; first | omega | (simp only [cl_iff, AV.le_refl, AV.le_any, OLe_refl, LeH_cons, LeH_nil, LeL_cons, LeL_nil, and_true, true_and, Bool.and_eq_true, Bool.or_eq_true, decide_eq_true_eq, notT, Bool.cond_true_left, Bool.cond_false_right, Nat.blt_eq, Nat.zero_add, cond_true, cond_false, Int.toNat_natCast, Bool.not_true, Bool.not_false, Bool.false_eq_true, not_true_eq_false, not_false_eq_true, or_false, false_or, or_true, true_or, and_false, false_and, condIT, hg'] at _h; first | done | omega)) ?_ | (refine wS ?_ ?_ <;> intro _h <;> simp only [cl_iff, AV.le_refl, AV.le_any, OLe_refl, LeH_cons, LeH_nil, LeL_cons, LeL_nil, and_true, true_and, Bool.and_eq_true, Bool.or_eq_true, decide_eq_true_eq, notT, Bool.cond_true_left, Bool.cond_false_right, Nat.blt_eq, Nat.zero_add, cond_true, cond_false, Int.toNat_natCast, Bool.not_true, Bool.not_false, Bool.false_eq_true, not_true_eq_false, not_false_eq_true, or_false, false_or, or_true, true_or, and_false, false_and, condIT, hg'] at _h))
      all_goals simp only [or_true, true_or, false_or, or_false, and_false, false_and, cond_true, cond_false, Bool.not_true, Bool.not_false, Bool.false_eq_true, Bool.true_eq_false, not_true_eq_false, not_false_eq_true, false_implies, true_implies, implies_true, Nat.blt_eq, owesN, owesX, owesR, notT, sat_brT, sat_brF, sat_chkT, cl_iff, cl_false, AV.le_refl, AV.le_any, OLe_refl, OLe_none, sat_brN, Tree.sat_chk, Tree.sat_leaf, Tree.sat_fail, Nat.zero_add, Nat.sub_zero, Int.toNat_natCast, LeH_cons, LeH_nil, LeL_cons, LeL_nil, and_true, true_and, Bool.and_eq_true, Bool.or_eq_true, decide_eq_true_eq, decide_eq_false_iff_not, Bool.cond_true_left, Bool.cond_false_right, List.cons_append, List.nil_append, List.map_cons, List.map_nil, hg']
      repeat' (first | apply And.intro | intro _hc)
      all_goals first | exact AV.le_refl _ | exact AV.le_any _ | exact OLe.refl _ | exact OLe.none _ | exact LeH.refl _ | exact LeL.refl _ | exact AV.le.bs _ | exact AV.le.sb _ | omega | contradiction
    | false =>
      repeat' (first | refine wC (by first | omega | (simp only [cl_iff, AV.le_refl, AV.le_any, OLe_refl, LeH_cons, LeH_nil, LeL_cons, LeL_nil, and_true, true_and, Bool.and_eq_true, Bool.or_eq_true, decide_eq_true_eq, notT, Bool.cond_true_left, Bool.cond_false_right, Nat.blt_eq, Nat.zero_add, cond_true, cond_false, Int.toNat_natCast, Bool.not_true, Bool.not_false, Bool.false_eq_true, not_true_eq_false, not_false_eq_true, or_false, false_or, or_true, true_or, and_false, false_and, condIT, hg']; first | done | omega)) ?_ | refine wT (by first | omega | (simp only [cl_iff, AV.le_refl, AV.le_any, OLe_refl, LeH_cons, LeH_nil, LeL_cons, LeL_nil, and_true, true_and, Bool.and_eq_true, Bool.or_eq_true, decide_eq_true_eq, notT, Bool.cond_true_left, Bool.cond_false_right, Nat.blt_eq, Nat.zero_add, cond_true, cond_false, Int.toNat_natCast, Bool.not_true, Bool.not_false, Bool.false_eq_true, not_true_eq_false, not_false_eq_true, or_false, false_or, or_true, true_or, and_false, false_and, condIT, hg']; first | done | omega)) ?_ | refine wF (by intro _h; first | omega | (simp only [cl_iff, AV.le_refl, AV.le_any, OLe_refl, LeH_cons, LeH_nil, LeL_cons, LeL_nil, and_true, true_and, Bool.and_eq_true, Bool.or_eq_true, decide_eq_true_eq, notT, Bool.cond_true_left, Bool.cond_false_right, Nat.blt_eq, Nat.zero_add, cond_true, cond_false, Int.toNat_natCast, Bool.not_true, Bool.not_false, Bool.false_eq_true, not_true_eq_false, not_false_eq_true, or_false, false_or, or_true, true_or, and_false, false_and, condIT, hg'] at _h; first | done | omega)) ?_ | (refine wS ?_ ?_ <;> intro _h <;> simp only [cl_iff, AV.le_refl, AV.le_any, OLe_refl, LeH_cons, LeH_nil, LeL_cons, LeL_nil, and_true, true_and, Bool.and_eq_true, Bool.or_eq_true, decide_eq_true_eq, notT, Bool.cond_true_left, Bool.cond_false_right, Nat.blt_eq, Nat.zero_add, cond_true, cond_false, Int.toNat_natCast, Bool.not_true, Bool.not_false, Bool.false_eq_true, not_true_eq_false, not_false_eq_true, or_false, false_or, or_true, true_or, and_false, false_and, condIT, hg'] at _h))
      all_goals simp only [or_true, true_or, false_or, or_false, and_false, false_and, cond_true, cond_false, Bool.not_true, Bool.not_false, Bool.false_eq_true, Bool.true_eq_false, not_true_eq_false, not_false_eq_true, false_implies, true_implies, implies_true, Nat.blt_eq, owesN, owesX, owesR, notT, sat_brT, sat_brF, sat_chkT, cl_iff, cl_false, AV.le_refl, AV.le_any, OLe_refl, OLe_none, sat_brN, Tree.sat_chk, Tree.sat_leaf, Tree.sat_fail, Nat.zero_add, Nat.sub_zero, Int.toNat_natCast, LeH_cons, LeH_nil, LeL_cons, LeL_nil, and_true, true_and, Bool.and_eq_true, Bool.or_eq_true, decide_eq_true_eq, decide_eq_false_iff_not, Bool.cond_true_left, Bool.cond_false_right, List.cons_append, List.nil_append, List.map_cons, List.map_nil, hg']
      repeat' (first | apply And.intro | intro _hc)
      all_goals first | exact AV.le_refl _ | exact AV.le_any _ | exact OLe.refl _ | exact OLe.none _ | exact LeH.refl _ | exact LeL.refl _ | exact AV.le.bs _ | exact AV.le.sb _ | omega | contradiction
noncomputable def kChkR : CT Tryd.prog Γm := CT.oS 21 Tryd.func21 (by kernel_rfl) (by kernel_rfl) (fun s => s.size ≤ 100000000) (fun s => .sb (nameB s)) (fun _ => []) (fun s h => ansChkR h)
end Go.Eng.TA

/- names: bytes that are no runes; values. -/
namespace Go.Eng.TA
open Go Go.Eng Go.Eng.M Go.Lib Go.Proofs
set_option linter.unusedSimpArgs false
set_option linter.unusedVariables false
theorem run120 (t : ByteArray) : bodyE (P := Tryd.prog) (Γ := Γm) [] Lno false 117 [.tmp 2, .tmp 3] (bodyOf Tryd.f120) [.v (.string t)] [] =
  Tree.br (decide ((↑(ByteArray.size t) : Int) < (1 : Int))) (Tree.leaf (Ans.mk (AV.tup [AV.v (Value.int IntKind.i32 (65533 : Int)), AV.v (Value.int IntKind.i64 (0 : Int))]) [])) (Tree.chk
    (decide ((0 : Int) < (↑(ByteArray.size t) : Int))) (Tree.chk (decide ((0 : Int) ≤ sbyte t (Int.toNat (0 : Int))) && decide (sbyte t (Int.toNat (0 : Int)) < (↑(256 : Nat) : Int)))
    (Tree.br (decide ((240 : Int) ≤ (↑(firstT (Int.toNat (sbyte t (Int.toNat (0 : Int))))) : Int))) (Tree.chk true (Tree.chk (decide ((0 : Int) < (↑(ByteArray.size t) : Int))) (Tree.leaf
    (Ans.mk (AV.tup [AV.v (Value.int IntKind.i32 (bitI BinOp.or IntKind.i32 (bitI BinOp.andNot IntKind.i32 (IntKind.wrap IntKind.i32 (sbyte t (Int.toNat (0 : Int)))) (Int.fdiv (IntKind.wrap
    IntKind.i32 (IntKind.wrap IntKind.i32 (↑(firstT (Int.toNat (sbyte t (Int.toNat (0 : Int))))) : Int) * (2 : Int) ^ min (Int.toNat (31 : Int)) (32 : Nat))) ((2 : Int) ^ min (Int.toNat (31
    : Int)) (32 : Nat)))) (bitI BinOp.and IntKind.i32 (65533 : Int) (Int.fdiv (IntKind.wrap IntKind.i32 (IntKind.wrap IntKind.i32 (↑(firstT (Int.toNat (sbyte t (Int.toNat (0 : Int))))) :
    Int) * (2 : Int) ^ min (Int.toNat (31 : Int)) (32 : Nat))) ((2 : Int) ^ min (Int.toNat (31 : Int)) (32 : Nat)))))), AV.v (Value.int IntKind.i64 (1 : Int))]) [])))) (Tree.chk true
    (Tree.chk (decide ((0 : Int) ≤ Int.fdiv (↑(firstT (Int.toNat (sbyte t (Int.toNat (0 : Int))))) : Int) ((2 : Int) ^ min (Int.toNat (4 : Int)) (8 : Nat))) && decide (Int.fdiv (↑(firstT
    (Int.toNat (sbyte t (Int.toNat (0 : Int))))) : Int) ((2 : Int) ^ min (Int.toNat (4 : Int)) (8 : Nat)) < (↑(16 : Nat) : Int))) (Tree.br (decide ((↑(ByteArray.size t) : Int) < IntKind.wrap
    IntKind.i64 (bitI BinOp.and IntKind.u8 (↑(firstT (Int.toNat (sbyte t (Int.toNat (0 : Int))))) : Int) (7 : Int)))) (Tree.leaf (Ans.mk (AV.tup [AV.v (Value.int IntKind.i32 (65533 : Int)),
    AV.v (Value.int IntKind.i64 (1 : Int))]) [])) (Tree.chk (decide ((1 : Int) < (↑(ByteArray.size t) : Int))) (Tree.br (bif decide (sbyte t (Int.toNat (1 : Int)) < (↑(accLo (Int.toNat
    (Int.fdiv (↑(firstT (Int.toNat (sbyte t (Int.toNat (0 : Int))))) : Int) ((2 : Int) ^ min (Int.toNat (4 : Int)) (8 : Nat))))) : Int)) then true else decide ((↑(accHi (Int.toNat (Int.fdiv
    (↑(firstT (Int.toNat (sbyte t (Int.toNat (0 : Int))))) : Int) ((2 : Int) ^ min (Int.toNat (4 : Int)) (8 : Nat))))) : Int) < sbyte t (Int.toNat (1 : Int)))) (Tree.leaf (Ans.mk (AV.tup
    [AV.v (Value.int IntKind.i32 (65533 : Int)), AV.v (Value.int IntKind.i64 (1 : Int))]) [])) (Tree.br (decide (IntKind.wrap IntKind.i64 (bitI BinOp.and IntKind.u8 (↑(firstT (Int.toNat
    (sbyte t (Int.toNat (0 : Int))))) : Int) (7 : Int)) ≤ (2 : Int))) (Tree.chk true (Tree.leaf (Ans.mk (AV.tup [AV.v (Value.int IntKind.i32 (bitI BinOp.or IntKind.i32 (IntKind.wrap
    IntKind.i32 (IntKind.wrap IntKind.i32 (bitI BinOp.and IntKind.u8 (sbyte t (Int.toNat (0 : Int))) (31 : Int)) * (2 : Int) ^ min (Int.toNat (6 : Int)) (32 : Nat))) (IntKind.wrap
    IntKind.i32 (bitI BinOp.and IntKind.u8 (sbyte t (Int.toNat (1 : Int))) (63 : Int))))), AV.v (Value.int IntKind.i64 (2 : Int))]) []))) (Tree.chk (decide ((2 : Int) < (↑(ByteArray.size t)
    : Int))) (Tree.br (bif decide (sbyte t (Int.toNat (2 : Int)) < (128 : Int)) then true else decide ((191 : Int) < sbyte t (Int.toNat (2 : Int)))) (Tree.leaf (Ans.mk (AV.tup [AV.v
    (Value.int IntKind.i32 (65533 : Int)), AV.v (Value.int IntKind.i64 (1 : Int))]) [])) (Tree.br (decide (IntKind.wrap IntKind.i64 (bitI BinOp.and IntKind.u8 (↑(firstT (Int.toNat (sbyte t
    (Int.toNat (0 : Int))))) : Int) (7 : Int)) ≤ (3 : Int))) (Tree.chk true (Tree.leaf (Ans.mk (AV.tup [AV.v (Value.int IntKind.i32 (bitI BinOp.or IntKind.i32 (bitI BinOp.or IntKind.i32
    (IntKind.wrap IntKind.i32 (IntKind.wrap IntKind.i32 (bitI BinOp.and IntKind.u8 (sbyte t (Int.toNat (0 : Int))) (15 : Int)) * (2 : Int) ^ min (Int.toNat (12 : Int)) (32 : Nat)))
    (IntKind.wrap IntKind.i32 (IntKind.wrap IntKind.i32 (bitI BinOp.and IntKind.u8 (sbyte t (Int.toNat (1 : Int))) (63 : Int)) * (2 : Int) ^ min (Int.toNat (6 : Int)) (32 : Nat))))
    (IntKind.wrap IntKind.i32 (bitI BinOp.and IntKind.u8 (sbyte t (Int.toNat (2 : Int))) (63 : Int))))), AV.v (Value.int IntKind.i64 (3 : Int))]) []))) (Tree.chk (decide ((3 : Int) <
    (↑(ByteArray.size t) : Int))) (Tree.br (bif decide (sbyte t (Int.toNat (3 : Int)) < (128 : Int)) then true else decide ((191 : Int) < sbyte t (Int.toNat (3 : Int)))) (Tree.leaf (Ans.mk
    (AV.tup [AV.v (Value.int IntKind.i32 (65533 : Int)), AV.v (Value.int IntKind.i64 (1 : Int))]) [])) (Tree.chk true (Tree.leaf (Ans.mk (AV.tup [AV.v (Value.int IntKind.i32 (bitI BinOp.or
    IntKind.i32 (bitI BinOp.or IntKind.i32 (bitI BinOp.or IntKind.i32 (IntKind.wrap IntKind.i32 (IntKind.wrap IntKind.i32 (bitI BinOp.and IntKind.u8 (sbyte t (Int.toNat (0 : Int))) (7 :
    Int)) * (2 : Int) ^ min (Int.toNat (18 : Int)) (32 : Nat))) (IntKind.wrap IntKind.i32 (IntKind.wrap IntKind.i32 (bitI BinOp.and IntKind.u8 (sbyte t (Int.toNat (1 : Int))) (63 : Int)) *
    (2 : Int) ^ min (Int.toNat (12 : Int)) (32 : Nat)))) (IntKind.wrap IntKind.i32 (IntKind.wrap IntKind.i32 (bitI BinOp.and IntKind.u8 (sbyte t (Int.toNat (2 : Int))) (63 : Int)) * (2 :
    Int) ^ min (Int.toNat (6 : Int)) (32 : Nat)))) (IntKind.wrap IntKind.i32 (bitI BinOp.and IntKind.u8 (sbyte t (Int.toNat (3 : Int))) (63 : Int))))), AV.v (Value.int IntKind.i64 (4 :
    Int))]) []))))))))))))))))) := by kernel_rfl
theorem firstT_nine (b : Nat) : firstT b = 240 ∨ firstT b = 241 ∨ firstT b = 2 ∨ firstT b = 19 ∨ firstT b = 3 ∨ firstT b = 35 ∨ firstT b = 52 ∨ firstT b = 4 ∨ firstT b = 68 := by
  unfold firstT
  repeat' split
  all_goals simp
theorem xfacts (x : Nat) (h : x = 240 ∨ x = 241 ∨ x = 2 ∨ x = 19 ∨ x = 3 ∨ x = 35 ∨ x = 52 ∨ x = 4 ∨ x = 68) :
    IntKind.wrap IntKind.i64 (bitI BinOp.and IntKind.u8 (x : Int) 7) = ((x % 8 : Nat) : Int) ∧ Int.fdiv (x : Int) ((2 : Int) ^ min (Int.toNat (4 : Int)) (8 : Nat)) = ((x / 16 : Nat) : Int) := by
  rcases h with rfl | rfl | rfl | rfl | rfl | rfl | rfl | rfl | rfl <;> exact ⟨by decide +kernel, by decide +kernel⟩
theorem slowW (n b0 b1 b2 b3 sz lo hi : Nat) : ∃ w, (slowN n b0 b1 b2 b3 sz lo hi).2 = w ∧ ((n < sz ∧ w = 1) ∨ (sz ≤ n ∧ (b1 < lo ∨ hi < b1) ∧ w = 1) ∨ (sz ≤ n ∧ lo ≤ b1 ∧ b1 ≤ hi ∧ sz ≤ 2 ∧ w = 2) ∨ (sz ≤ n ∧ lo ≤ b1 ∧ b1 ≤ hi ∧ 2 < sz ∧ (b2 < 128 ∨ 191 < b2) ∧ w = 1) ∨
    (sz ≤ n ∧ lo ≤ b1 ∧ b1 ≤ hi ∧ 2 < sz ∧ 128 ≤ b2 ∧ b2 ≤ 191 ∧ sz ≤ 3 ∧ w = 3) ∨ (sz ≤ n ∧ lo ≤ b1 ∧ b1 ≤ hi ∧ 3 < sz ∧ 128 ≤ b2 ∧ b2 ≤ 191 ∧ (b3 < 128 ∨ 191 < b3) ∧ w = 1) ∨ (sz ≤ n ∧ lo ≤ b1 ∧ b1 ≤ hi ∧ 3 < sz ∧ 128 ≤ b2 ∧ b2 ≤ 191 ∧ 128 ≤ b3 ∧ b3 ≤ 191 ∧ w = 4)) := by
  refine ⟨_, rfl, ?_⟩
  unfold slowN
  repeat' split
  all_goals simp only [and_true]
  all_goals first | omega | (simp; omega)
def decV (t : ByteArray) : AV := .tup [.any, .v (.int .i64 ((Utf8.decode t 0).2 : Int))]
set_option maxHeartbeats 4000000 in
theorem ansSlow {t : ByteArray} (h : 0 < t.size) : Answers Tryd.prog Γm 120 [.v (.string t)] [] (decV t) [] [] :=
  answers (fn := Tryd.f120) (c := bodyOf Tryd.f120) (ntmps := 117) (results := [.tmp 2, .tmp 3]) [] Lno false Tryd.func120 (by kernel_rfl) (by kernel_rfl) (by kernel_rfl) (by kernel_rfl) (by simp) rfl (noLoops (by kernel_rfl)) <| Meets.of (run120 t) <| by
    have e0 : sbyte t (Int.toNat 0) = (bN t 0 : Int) := rfl
    have e1 : sbyte t (Int.toNat 1) = (bN t 1 : Int) := rfl
    have e2 : sbyte t (Int.toNat 2) = (bN t 2 : Int) := rfl
    have e3 : sbyte t (Int.toNat 3) = (bN t 3 : Int) := rfl
    have l0 := bN_lt t 0
    have l1 := bN_lt t 1
    have l2 := bN_lt t 2
    have l3 := bN_lt t 3
    have hd := decode_bN t 0
    simp only [Nat.sub_zero, Nat.zero_add] at hd
    unfold decV
    rw [hd]
    have h9 := firstT_nine (bN t 0)
    obtain ⟨f1, f2⟩ := xfacts _ h9
    simp only [e0, e1, e2, e3, Int.toNat_natCast, f1, f2]
    rcases Nat.lt_or_ge (firstT (bN t 0)) 240 with hx | hx
    · rw [← slow_eq t.size _ _ _ _ h l1 l2 l3 hx]
      obtain ⟨w, hw, hs⟩ := slowW t.size (bN t 0) (bN t 1) (bN t 2) (bN t 3) (firstT (bN t 0) % 8) (accLo (firstT (bN t 0) / 16)) (accHi (firstT (bN t 0) / 16))
      rw [hw]
      have hz : 2 ≤ firstT (bN t 0) % 8 := by omega
      generalize accLo (firstT (bN t 0) / 16) = lo at *
      generalize accHi (firstT (bN t 0) / 16) = hi at *
      generalize firstT (bN t 0) = x at *
      generalize bN t 0 = b0 at *
      generalize bN t 1 = b1 at *
      generalize bN t 2 = b2 at *
      generalize bN t 3 = b3 at *
      clear f1 f2 hd e0 e1 e2 e3
      repeat' (first | refine wC (by first | omega | (simp only [cl_iff, AV.le_refl, AV.le_any, OLe_refl, LeH_cons, LeH_nil, LeL_cons, LeL_nil, and_true, true_and, Bool.and_eq_true, Bool.or_eq_true, decide_eq_true_eq, notT, Bool.cond_true_left, Bool.cond_false_right, Nat.blt_eq, Nat.zero_add, cond_true, cond_false, Int.toNat_natCast, Bool.not_true, Bool.not_false, Bool.false_eq_true, not_true_eq_false, not_false_eq_true, or_false, false_or, or_true, true_or, and_false, false_and, condIT]; first | done | omega)) ?_ | refine wT (by first | omega | (simp only [cl_iff, AV.le_refl, AV.le_any, OLe_refl, LeH_cons, LeH_nil, LeL_cons, LeL_nil, and_true, true_and, Bool.and_eq_true, Bool.or_eq_true, decide_eq_true_eq, notT, Bool.cond_true_left, Bool.cond_false_right, Nat.blt_eq, Nat.zero_add, cond_true, cond_false, Int.toNat_natCast, Bool.not_true, Bool.not_false, Bool.false_eq_true, not_true_eq_false, not_false_eq_true, or_false, false_or, or_true, true_or, and_false, false_and, condIT]; first | done | omega)) ?_ | refine wF (by intro _h; first | omega | (simp only [cl_iff, AV.le_refl, AV.le_any, OLe_refl, LeH_cons, LeH_nil, LeL_cons, LeL_nil, and_true, true_and, Bool.and_eq_true, Bool.or_eq_true, decide_eq_true_eq, notT, Bool.cond_true_left, Bool.cond_false_right, Nat.blt_eq, Nat.zero_add, cond_true, cond_false, Int.toNat_natCast, Bool.not_true, Bool.not_false, Bool.false_eq_true, not_true_eq_false, not_false_eq_true, or_false, false_or, or_true, true_or, and_false, false_and, condIT] at _h; first | done | omega)) ?_ | (refine wS ?_ ?_ <;> intro _h <;> simp only [cl_iff, AV.le_refl, AV.le_any, OLe_refl, LeH_cons, LeH_nil, LeL_cons, LeL_nil, and_true, true_and, Bool.and_eq_true, Bool.or_eq_true, decide_eq_true_eq, notT, Bool.cond_true_left, Bool.cond_false_right, Nat.blt_eq, Nat.zero_add, cond_true, cond_false, Int.toNat_natCast, Bool.not_true, Bool.not_false, Bool.false_eq_true, not_true_eq_false, not_false_eq_true, or_false, false_or, or_true, true_or, and_false, false_and, condIT] at _h))
      all_goals simp only [or_true, true_or, false_or, or_false, and_false, false_and, cond_true, cond_false, Bool.not_true, Bool.not_false, Bool.false_eq_true, Bool.true_eq_false, not_true_eq_false, not_false_eq_true, false_implies, true_implies, implies_true, Nat.blt_eq, owesN, owesX, owesR, notT, sat_brT, sat_brF, sat_chkT, cl_iff, cl_false, AV.le_refl, AV.le_any, OLe_refl, OLe_none, sat_brN, Tree.sat_chk, Tree.sat_leaf, Tree.sat_fail, Nat.zero_add, Nat.sub_zero, Int.toNat_natCast, LeH_cons, LeH_nil, LeL_cons, LeL_nil, and_true, true_and, Bool.and_eq_true, Bool.or_eq_true, decide_eq_true_eq, decide_eq_false_iff_not, Bool.cond_true_left, Bool.cond_false_right, List.cons_append, List.nil_append, List.map_cons, List.map_nil]
      repeat' (first | apply And.intro | intro _hc)
      all_goals first | exact tup2 (.any _) (leI (by omega)) | exact AV.le_refl _ | exact AV.le_any _ | exact OLe.refl _ | exact OLe.none _ | exact LeH.refl _ | exact LeL.refl _ | exact AV.le.bs _ | exact AV.le.sb _ | omega | contradiction
    · have hw : (decodeN t.size (bN t 0) (bN t 1) (bN t 2) (bN t 3)).2 = 1 := by
        rcases (show firstT (bN t 0) = 240 ∨ firstT (bN t 0) = 241 by omega) with h | h
        · rw [ascii_eq _ _ _ _ _ h]
        · rw [bad_eq _ _ _ _ _ l0 h]
      rw [hw]
      repeat' (first | refine wC (by first | omega | (simp only [cl_iff, AV.le_refl, AV.le_any, OLe_refl, LeH_cons, LeH_nil, LeL_cons, LeL_nil, and_true, true_and, Bool.and_eq_true, Bool.or_eq_true, decide_eq_true_eq, notT, Bool.cond_true_left, Bool.cond_false_right, Nat.blt_eq, Nat.zero_add, cond_true, cond_false, Int.toNat_natCast, Bool.not_true, Bool.not_false, Bool.false_eq_true, not_true_eq_false, not_false_eq_true, or_false, false_or, or_true, true_or, and_false, false_and, condIT]; first | done | omega)) ?_ | refine wT (by first | omega | (simp only [cl_iff, AV.le_refl, AV.le_any, OLe_refl, LeH_cons, LeH_nil, LeL_cons, LeL_nil, and_true, true_and, Bool.and_eq_true, Bool.or_eq_true, decide_eq_true_eq, notT, Bool.cond_true_left, Bool.cond_false_right, Nat.blt_eq, Nat.zero_add, cond_true, cond_false, Int.toNat_natCast, Bool.not_true, Bool.not_false, Bool.false_eq_true, not_true_eq_false, not_false_eq_true, or_false, false_or, or_true, true_or, and_false, false_and, condIT]; first | done | omega)) ?_ | refine wF (by intro _h; first | omega | (simp only [cl_iff, AV.le_refl, AV.le_any, OLe_refl, LeH_cons, LeH_nil, LeL_cons, LeL_nil, and_true, true_and, Bool.and_eq_true, Bool.or_eq_true, decide_eq_true_eq, notT, Bool.cond_true_left, Bool.cond_false_right, Nat.blt_eq, Nat.zero_add, cond_true, cond_false, Int.toNat_natCast, Bool.not_true, Bool.not_false, Bool.false_eq_true, not_true_eq_false, not_false_eq_true, or_false, false_or, or_true, true_or, and_false, false_and, condIT] at _h; first | done | omega)) ?_ | (refine wS ?_ ?_ <;> intro _h <;> simp only [cl_iff, AV.le_refl, AV.le_any, OLe_refl, LeH_cons, LeH_nil, LeL_cons, LeL_nil, and_true, true_and, Bool.and_eq_true, Bool.or_eq_true, decide_eq_true_eq, notT, Bool.cond_true_left, Bool.cond_false_right, Nat.blt_eq, Nat.zero_add, cond_true, cond_false, Int.toNat_natCast, Bool.not_true, Bool.not_false, Bool.false_eq_true, not_true_eq_false, not_false_eq_true, or_false, false_or, or_true, true_or, and_false, false_and, condIT] at _h))
      all_goals simp only [or_true, true_or, false_or, or_false, and_false, false_and, cond_true, cond_false, Bool.not_true, Bool.not_false, Bool.false_eq_true, Bool.true_eq_false, not_true_eq_false, not_false_eq_true, false_implies, true_implies, implies_true, Nat.blt_eq, owesN, owesX, owesR, notT, sat_brT, sat_brF, sat_chkT, cl_iff, cl_false, AV.le_refl, AV.le_any, OLe_refl, OLe_none, sat_brN, Tree.sat_chk, Tree.sat_leaf, Tree.sat_fail, Nat.zero_add, Nat.sub_zero, Int.toNat_natCast, LeH_cons, LeH_nil, LeL_cons, LeL_nil, and_true, true_and, Bool.and_eq_true, Bool.or_eq_true, decide_eq_true_eq, decide_eq_false_iff_not, Bool.cond_true_left, Bool.cond_false_right, List.cons_append, List.nil_append, List.map_cons, List.map_nil]
      repeat' (first | apply And.intro | intro _hc)
      all_goals first | exact tup2 (.any _) (leI rfl) | exact AV.le_refl _ | exact AV.le_any _ | exact OLe.refl _ | exact OLe.none _ | exact LeH.refl _ | exact LeL.refl _ | exact AV.le.bs _ | exact AV.le.sb _ | omega | contradiction
noncomputable def k120 : CT Tryd.prog Γm := CT.oS 120 Tryd.func120 (by kernel_rfl) (by kernel_rfl) (fun s => 0 < s.size) decV (fun _ => []) (fun s h => ansSlow h)
theorem run110 (t : ByteArray) : bodyE (P := Tryd.prog) (Γ := Γm) [k120] Lno false 19 [.tmp 2, .tmp 3] (bodyOf Tryd.f110) [.v (.string t)] [] =
  Tree.chk (bif !decide (t = ByteArray.mk #[]) then decide ((0 : Int) < (↑(ByteArray.size t) : Int)) else true) (Tree.br (bif !decide (t = ByteArray.mk #[]) then decide (sbyte t (Int.toNat (0
    : Int)) < (128 : Int)) else false) (Tree.chk (decide ((0 : Int) < (↑(ByteArray.size t) : Int))) (Tree.leaf (Ans.mk (AV.tup [AV.v (Value.int IntKind.i32 (IntKind.wrap IntKind.i32 (sbyte t
    (Int.toNat (0 : Int))))), AV.v (Value.int IntKind.i64 (1 : Int))]) []))) (Tree.chk (cl ((0 : Nat) < ByteArray.size t ∧ LeL [AV.v (Value.string t)] [AV.v (Value.string t)] ∧ LeH [] []))
    (Tree.leaf (Ans.mk (AV.tup [AV.any, AV.v (Value.int IntKind.i64 (↑(Utf8.decode t (0 : Nat)).snd : Int))]) [])))) := by kernel_rfl
theorem ansDec {t : ByteArray} (h : 0 < t.size) : Answers Tryd.prog Γm 110 [.v (.string t)] [] (decV t) [] [] :=
  answers (fn := Tryd.f110) (c := bodyOf Tryd.f110) (ntmps := 19) (results := [.tmp 2, .tmp 3]) [k120] Lno false Tryd.func110 (by kernel_rfl) (by kernel_rfl) (by kernel_rfl) (by kernel_rfl) (by simp) rfl (noLoops (by kernel_rfl)) <| Meets.of (run110 t) <| by
    have e0 : sbyte t (Int.toNat 0) = (bN t 0 : Int) := rfl
    have hE : ¬ t = ⟨#[]⟩ := fun e => by subst e; cases h
    have hE' : decide (t = ⟨#[]⟩) = false := decide_eq_false hE
    rcases Nat.lt_or_ge (bN t 0) 128 with hb | hb
    · have hw : (Utf8.decode t 0).2 = 1 := by
        rw [decode_bN]
        unfold decodeN
        rw [if_pos hb]
      unfold decV
      rw [hw]
      repeat' (first | refine wC (by first | omega | (simp only [cl_iff, AV.le_refl, AV.le_any, OLe_refl, LeH_cons, LeH_nil, LeL_cons, LeL_nil, and_true, true_and, Bool.and_eq_true, Bool.or_eq_true, decide_eq_true_eq, notT, Bool.cond_true_left, Bool.cond_false_right, Nat.blt_eq, Nat.zero_add, cond_true, cond_false, Int.toNat_natCast, Bool.not_true, Bool.not_false, Bool.false_eq_true, not_true_eq_false, not_false_eq_true, or_false, false_or, or_true, true_or, and_false, false_and, condIT, e0, hE', hE]; first | done | omega)) ?_ | refine wT (by first | omega | (simp only [cl_iff, AV.le_refl, AV.le_any, OLe_refl, LeH_cons, LeH_nil, LeL_cons, LeL_nil, and_true, true_and, Bool.and_eq_true, Bool.or_eq_true, decide_eq_true_eq, notT, Bool.cond_true_left, Bool.cond_false_right, Nat.blt_eq, Nat.zero_add, cond_true, cond_false, Int.toNat_natCast, Bool.not_true, Bool.not_false, Bool.false_eq_true, not_true_eq_false, not_false_eq_true, or_false, false_or, or_true, true_or, and_false, false_and, condIT, e0, hE', hE]; first | done | omega)) ?_ | refine wF (by intro _h; first | omega | (simp only [cl_iff, AV.le_refl, AV.le_any, OLe_refl, LeH_cons, LeH_nil, LeL_cons, LeL_nil, and_true, true_and, Bool.and_eq_true, Bool.or_eq_true, decide_eq_true_eq, notT, Bool.cond_true_left, Bool.cond_false_right, Nat.blt_eq, Nat.zero_add, cond_true, cond_false, Int.toNat_natCast, Bool.not_true, Bool.not_false, Bool.false_eq_true, not_true_eq_false, not_false_eq_true, or_false, false_or, or_true, true_or, and_false, false_and, condIT, e0, hE', hE] at _h; first | done | omega)) ?_ | (refine wS ?_ ?_ <;> intro _h <;> simp only [cl_iff, AV.le_refl, AV.le_any, OLe_refl, LeH_cons, LeH_nil, LeL_cons, LeL_nil, and_true, true_and, Bool.and_eq_true, Bool.or_eq_true, decide_eq_true_eq, notT, Bool.cond_true_left, Bool.cond_false_right, Nat.blt_eq, Nat.zero_add, cond_true, cond_false, Int.toNat_natCast, Bool.not_true, Bool.not_false, Bool.false_eq_true, not_true_eq_false, not_false_eq_true, or_false, false_or, or_true, true_or, and_false, false_and, condIT, e0, hE', hE] at _h))
      all_goals simp only [or_true, true_or, false_or, or_false, and_false, false_and, cond_true, cond_false, Bool.not_true, Bool.not_false, Bool.false_eq_true, Bool.true_eq_false, not_true_eq_false, not_false_eq_true, false_implies, true_implies, implies_true, Nat.blt_eq, owesN, owesX, owesR, notT, sat_brT, sat_brF, sat_chkT, cl_iff, cl_false, AV.le_refl, AV.le_any, OLe_refl, OLe_none, sat_brN, Tree.sat_chk, Tree.sat_leaf, Tree.sat_fail, Nat.zero_add, Nat.sub_zero, Int.toNat_natCast, LeH_cons, LeH_nil, LeL_cons, LeL_nil, and_true, true_and, Bool.and_eq_true, Bool.or_eq_true, decide_eq_true_eq, decide_eq_false_iff_not, Bool.cond_true_left, Bool.cond_false_right, List.cons_append, List.nil_append, List.map_cons, List.map_nil, e0, hE', hE]
      repeat' (first | apply And.intro | intro _hc)
      all_goals first | exact tup2 (.any _) (leI rfl) | exact AV.le_refl _ | exact AV.le_any _ | exact OLe.refl _ | exact OLe.none _ | exact LeH.refl _ | exact LeL.refl _ | exact AV.le.bs _ | exact AV.le.sb _ | omega | contradiction
    · repeat' (first | refine wC (by first | omega | (simp only [cl_iff, AV.le_refl, AV.le_any, OLe_refl, LeH_cons, LeH_nil, LeL_cons, LeL_nil, and_true, true_and, Bool.and_eq_true, Bool.or_eq_true, decide_eq_true_eq, notT, Bool.cond_true_left, Bool.cond_false_right, Nat.blt_eq, Nat.zero_add, cond_true, cond_false, Int.toNat_natCast, Bool.not_true, Bool.not_false, Bool.false_eq_true, not_true_eq_false, not_false_eq_true, or_false, false_or, or_true, true_or, and_false, false_and, condIT, e0, hE', hE]; first | done | omega)) ?_ | refine wT (by first | omega | (simp only [cl_iff, AV.le_refl, AV.le_any, OLe_refl, LeH_cons, LeH_nil, LeL_cons, LeL_nil, and_true, true_and, Bool.and_eq_true, Bool.or_eq_true, decide_eq_true_eq, notT, Bool.cond_true_left, Bool.cond_false_right, Nat.blt_eq, Nat.zero_add, cond_true, cond_false, Int.toNat_natCast, Bool.not_true, Bool.not_false, Bool.false_eq_true, not_true_eq_false, not_false_eq_true, or_false, false_or, or_true, true_or, and_false, false_and, condIT, e0, hE', hE]; first | done | omega)) ?_ | refine wF (by intro _h; first | omega | (simp only [cl_iff, AV.le_refl, AV.le_any, OLe_refl, LeH_cons, LeH_nil, LeL_cons, LeL_nil, and_true, true_and, Bool.and_eq_true, Bool.or_eq_true, decide_eq_true_eq, notT, Bool.cond_true_left, Bool.cond_false_right, Nat.blt_eq, Nat.zero_add, cond_true, cond_false, Int.toNat_natCast, Bool.not_true, Bool.not_false, Bool.false_eq_true, not_true_eq_false, not_false_eq_true, or_false, false_or, or_true, true_or, and_false, false_and, condIT, e0, hE', hE] at _h; first | done | omega)) ?_ | (refine wS ?_ ?_ <;> intro _h <;> simp only [cl_iff, AV.le_refl, AV.le_any, OLe_refl, LeH_cons, LeH_nil, LeL_cons, LeL_nil, and_true, true_and, Bool.and_eq_true, Bool.or_eq_true, decide_eq_true_eq, notT, Bool.cond_true_left, Bool.cond_false_right, Nat.blt_eq, Nat.zero_add, cond_true, cond_false, Int.toNat_natCast, Bool.not_true, Bool.not_false, Bool.false_eq_true, not_true_eq_false, not_false_eq_true, or_false, false_or, or_true, true_or, and_false, false_and, condIT, e0, hE', hE] at _h))
      all_goals simp only [or_true, true_or, false_or, or_false, and_false, false_and, cond_true, cond_false, Bool.not_true, Bool.not_false, Bool.false_eq_true, Bool.true_eq_false, not_true_eq_false, not_false_eq_true, false_implies, true_implies, implies_true, Nat.blt_eq, owesN, owesX, owesR, notT, sat_brT, sat_brF, sat_chkT, cl_iff, cl_false, AV.le_refl, AV.le_any, OLe_refl, OLe_none, sat_brN, Tree.sat_chk, Tree.sat_leaf, Tree.sat_fail, Nat.zero_add, Nat.sub_zero, Int.toNat_natCast, LeH_cons, LeH_nil, LeL_cons, LeL_nil, and_true, true_and, Bool.and_eq_true, Bool.or_eq_true, decide_eq_true_eq, decide_eq_false_iff_not, Bool.cond_true_left, Bool.cond_false_right, List.cons_append, List.nil_append, List.map_cons, List.map_nil, e0, hE', hE]
      repeat' (first | apply And.intro | intro _hc)
      all_goals first | exact tup2 (.any _) (leI rfl) | exact AV.le_refl _ | exact AV.le_any _ | exact OLe.refl _ | exact OLe.none _ | exact LeH.refl _ | exact LeL.refl _ | exact AV.le.bs _ | exact AV.le.sb _ | omega | contradiction
noncomputable def k110 : CT Tryd.prog Γm := CT.oS 110 Tryd.func110 (by kernel_rfl) (by kernel_rfl) (fun s => 0 < s.size) decV (fun _ => []) (fun s h => ansDec h)
/-! ### broken -/
def ofSPC : List AV → List Blk → Option (ByteArray × Int × Int)
  | [.v (.string s), .v (.int _ p), .v (.int _ c)], [] => some (s, p, c)
  | _, _ => none
theorem run75 (s : ByteArray) (p c : Int) : bodyE (P := Tryd.prog) (Γ := Γm) [k110] Lno false 20 [.tmp 6] (bodyOf Tryd.f75) [.v (.string s), .v (.int .i64 p), .v (.int .i32 c)] [] =
  Tree.br (!decide (c = (65533 : Int))) (Tree.leaf (Ans.mk (AV.v (Value.bool false)) [])) (Tree.chk (decide ((0 : Int) ≤ p) && decide (p ≤ (↑(ByteArray.size s) : Int)) && decide
    ((↑(ByteArray.size s) : Int) ≤ (↑(ByteArray.size s) : Int)) && cl ((0 : Nat) < ByteArray.size (ByteArray.extract s (Int.toNat p) (ByteArray.size s)) ∧ LeL [AV.v (Value.string
    (ByteArray.extract s (Int.toNat p) (ByteArray.size s)))] [AV.v (Value.string (ByteArray.extract s (Int.toNat p) (ByteArray.size s)))] ∧ LeH [] [])) (Tree.leaf (Ans.mk (AV.sb (decide
    ((↑(Utf8.decode (ByteArray.extract s (Int.toNat p) (ByteArray.size s)) (0 : Nat)).snd : Int) = (1 : Int)))) []))) := by kernel_rfl
theorem ansBrk {s : ByteArray} {p : Nat} (hp : p < s.size) : Answers Tryd.prog Γm 75 [.v (.string s), .v (.int .i64 (p : Int)), .v (.int .i32 ((Utf8.decode s p).1 : Int))] [] (.sb (!okAt s p)) [] [] :=
  answers (fn := Tryd.f75) (c := bodyOf Tryd.f75) (ntmps := 20) (results := [.tmp 6]) [k110] Lno false Tryd.func75 (by kernel_rfl) (by kernel_rfl) (by kernel_rfl) (by kernel_rfl) (by simp) rfl (noLoops (by kernel_rfl)) <| Meets.of (run75 s p ((Utf8.decode s p).1 : Int)) <| by
    have hz : (s.extract p s.size).size = s.size - p := ext_size _ _ _ (Nat.le_refl _)
    have hde := dec_ext (s := s) (p := p) (by omega)
    by_cases hc : (Utf8.decode s p).1 = 65533
    · by_cases hw : (Utf8.decode s p).2 = 1
      · rw [okAt_f (Prod.ext hc hw)]
        repeat' (first | refine wC (by first | omega | (simp only [cl_iff, AV.le_refl, AV.le_any, OLe_refl, LeH_cons, LeH_nil, LeL_cons, LeL_nil, and_true, true_and, Bool.and_eq_true, Bool.or_eq_true, decide_eq_true_eq, notT, Bool.cond_true_left, Bool.cond_false_right, Nat.blt_eq, Nat.zero_add, cond_true, cond_false, Int.toNat_natCast, Bool.not_true, Bool.not_false, Bool.false_eq_true, not_true_eq_false, not_false_eq_true, or_false, false_or, or_true, true_or, and_false, false_and, condIT, hz, hde, hc, hw]; first | done | omega)) ?_ | refine wT (by first | omega | (simp only [cl_iff, AV.le_refl, AV.le_any, OLe_refl, LeH_cons, LeH_nil, LeL_cons, LeL_nil, and_true, true_and, Bool.and_eq_true, Bool.or_eq_true, decide_eq_true_eq, notT, Bool.cond_true_left, Bool.cond_false_right, Nat.blt_eq, Nat.zero_add, cond_true, cond_false, Int.toNat_natCast, Bool.not_true, Bool.not_false, Bool.false_eq_true, not_true_eq_false, not_false_eq_true, or_false, false_or, or_true, true_or, and_false, false_and, condIT, hz, hde, hc, hw]; first | done | omega)) ?_ | refine wF (by intro _h; first | omega | (simp only [cl_iff, AV.le_refl, AV.le_any, OLe_refl, LeH_cons, LeH_nil, LeL_cons, LeL_nil, and_true, true_and, Bool.and_eq_true, Bool.or_eq_true, decide_eq_true_eq, notT, Bool.cond_true_left, Bool.cond_false_right, Nat.blt_eq, Nat.zero_add, cond_true, cond_false, Int.toNat_natCast, Bool.not_true, Bool.not_false, Bool.false_eq_true, not_true_eq_false, not_false_eq_true, or_false, false_or, or_true, true_or, and_false, false_and, condIT, hz, hde, hc, hw] at _h; first | done | omega)) ?_ | (refine wS ?_ ?_ <;> intro _h <;> simp only [cl_iff, AV.le_refl, AV.le_any, OLe_refl, LeH_cons, LeH_nil, LeL_cons, LeL_nil, and_true, true_and, Bool.and_eq_true, Bool.or_eq_true, decide_eq_true_eq, notT, Bool.cond_true_left, Bool.cond_false_right, Nat.blt_eq, Nat.zero_add, cond_true, cond_false, Int.toNat_natCast, Bool.not_true, Bool.not_false, Bool.false_eq_true, not_true_eq_false, not_false_eq_true, or_false, false_or, or_true, true_or, and_false, false_and, condIT, hz, hde, hc, hw] at _h))
        all_goals simp only [or_true, true_or, false_or, or_false, and_false, false_and, cond_true, cond_false, Bool.not_true, Bool.not_false, Bool.false_eq_true, Bool.true_eq_false, not_true_eq_false, not_false_eq_true, false_implies, true_implies, implies_true, Nat.blt_eq, owesN, owesX, owesR, notT, sat_brT, sat_brF, sat_chkT, cl_iff, cl_false, AV.le_refl, AV.le_any, OLe_refl, OLe_none, sat_brN, Tree.sat_chk, Tree.sat_leaf, Tree.sat_fail, Nat.zero_add, Nat.sub_zero, Int.toNat_natCast, LeH_cons, LeH_nil, LeL_cons, LeL_nil, and_true, true_and, Bool.and_eq_true, Bool.or_eq_true, decide_eq_true_eq, decide_eq_false_iff_not, Bool.cond_true_left, Bool.cond_false_right, List.cons_append, List.nil_append, List.map_cons, List.map_nil, hz, hde, hc, hw]
        repeat' (first | apply And.intro | intro _hc)
        all_goals first | exact leB' (by simp [hde, hw]) | exact AV.le_refl _ | exact AV.le_any _ | exact OLe.refl _ | exact OLe.none _ | exact LeH.refl _ | exact LeL.refl _ | exact AV.le.bs _ | exact AV.le.sb _ | omega | contradiction
      · rw [okAt_t rfl (fun e => hw (congrArg Prod.snd e))]
        repeat' (first | refine wC (by first | omega | (simp only [cl_iff, AV.le_refl, AV.le_any, OLe_refl, LeH_cons, LeH_nil, LeL_cons, LeL_nil, and_true, true_and, Bool.and_eq_true, Bool.or_eq_true, decide_eq_true_eq, notT, Bool.cond_true_left, Bool.cond_false_right, Nat.blt_eq, Nat.zero_add, cond_true, cond_false, Int.toNat_natCast, Bool.not_true, Bool.not_false, Bool.false_eq_true, not_true_eq_false, not_false_eq_true, or_false, false_or, or_true, true_or, and_false, false_and, condIT, hz, hde, hc]; first | done | omega)) ?_ | refine wT (by first | omega | (simp only [cl_iff, AV.le_refl, AV.le_any, OLe_refl, LeH_cons, LeH_nil, LeL_cons, LeL_nil, and_true, true_and, Bool.and_eq_true, Bool.or_eq_true, decide_eq_true_eq, notT, Bool.cond_true_left, Bool.cond_false_right, Nat.blt_eq, Nat.zero_add, cond_true, cond_false, Int.toNat_natCast, Bool.not_true, Bool.not_false, Bool.false_eq_true, not_true_eq_false, not_false_eq_true, or_false, false_or, or_true, true_or, and_false, false_and, condIT, hz, hde, hc]; first | done | omega)) ?_ | refine wF (by intro _h; first | omega | (simp only [cl_iff, AV.le_refl, AV.le_any, OLe_refl, LeH_cons, LeH_nil, LeL_cons, LeL_nil, and_true, true_and, Bool.and_eq_true, Bool.or_eq_true, decide_eq_true_eq, notT, Bool.cond_true_left, Bool.cond_false_right, Nat.blt_eq, Nat.zero_add, cond_true, cond_false, Int.toNat_natCast, Bool.not_true, Bool.not_false, Bool.false_eq_true, not_true_eq_false, not_false_eq_true, or_false, false_or, or_true, true_or, and_false, false_and, condIT, hz, hde, hc] at _h; first | done | omega)) ?_ | (refine wS ?_ ?_ <;> intro _h <;> simp only [cl_iff, AV.le_refl, AV.le_any, OLe_refl, LeH_cons, LeH_nil, LeL_cons, LeL_nil, and_true, true_and, Bool.and_eq_true, Bool.or_eq_true, decide_eq_true_eq, notT, Bool.cond_true_left, Bool.cond_false_right, Nat.blt_eq, Nat.zero_add, cond_true, cond_false, Int.toNat_natCast, Bool.not_true, Bool.not_false, Bool.false_eq_true, not_true_eq_false, not_false_eq_true, or_false, false_or, or_true, true_or, and_false, false_and, condIT, hz, hde, hc] at _h))
        all_goals simp only [or_true, true_or, false_or, or_false, and_false, false_and, cond_true, cond_false, Bool.not_true, Bool.not_false, Bool.false_eq_true, Bool.true_eq_false, not_true_eq_false, not_false_eq_true, false_implies, true_implies, implies_true, Nat.blt_eq, owesN, owesX, owesR, notT, sat_brT, sat_brF, sat_chkT, cl_iff, cl_false, AV.le_refl, AV.le_any, OLe_refl, OLe_none, sat_brN, Tree.sat_chk, Tree.sat_leaf, Tree.sat_fail, Nat.zero_add, Nat.sub_zero, Int.toNat_natCast, LeH_cons, LeH_nil, LeL_cons, LeL_nil, and_true, true_and, Bool.and_eq_true, Bool.or_eq_true, decide_eq_true_eq, decide_eq_false_iff_not, Bool.cond_true_left, Bool.cond_false_right, List.cons_append, List.nil_append, List.map_cons, List.map_nil, hz, hde, hc]
        repeat' (first | apply And.intro | intro _hc)
        all_goals first | exact leB' (decide_eq_false (by omega)) | exact AV.le_refl _ | exact AV.le_any _ | exact OLe.refl _ | exact OLe.none _ | exact LeH.refl _ | exact LeL.refl _ | exact AV.le.bs _ | exact AV.le.sb _ | omega | contradiction
    · rw [okAt_t rfl (fun e => hc (congrArg Prod.fst e))]
      repeat' (first | refine wC (by first | omega | (simp only [cl_iff, AV.le_refl, AV.le_any, OLe_refl, LeH_cons, LeH_nil, LeL_cons, LeL_nil, and_true, true_and, Bool.and_eq_true, Bool.or_eq_true, decide_eq_true_eq, notT, Bool.cond_true_left, Bool.cond_false_right, Nat.blt_eq, Nat.zero_add, cond_true, cond_false, Int.toNat_natCast, Bool.not_true, Bool.not_false, Bool.false_eq_true, not_true_eq_false, not_false_eq_true, or_false, false_or, or_true, true_or, and_false, false_and, condIT]; first | done | omega)) ?_ | refine wT (by first | omega | (simp only [cl_iff, AV.le_refl, AV.le_any, OLe_refl, LeH_cons, LeH_nil, LeL_cons, LeL_nil, and_true, true_and, Bool.and_eq_true, Bool.or_eq_true, decide_eq_true_eq, notT, Bool.cond_true_left, Bool.cond_false_right, Nat.blt_eq, Nat.zero_add, cond_true, cond_false, Int.toNat_natCast, Bool.not_true, Bool.not_false, Bool.false_eq_true, not_true_eq_false, not_false_eq_true, or_false, false_or, or_true, true_or, and_false, false_and, condIT]; first | done | omega)) ?_ | refine wF (by intro _h; first | omega | (simp only [cl_iff, AV.le_refl, AV.le_any, OLe_refl, LeH_cons, LeH_nil, LeL_cons, LeL_nil, and_true, true_and, Bool.and_eq_true, Bool.or_eq_true, decide_eq_true_eq, notT, Bool.cond_true_left, Bool.cond_false_right, Nat.blt_eq, Nat.zero_add, cond_true, cond_false, Int.toNat_natCast, Bool.not_true, Bool.not_false, Bool.false_eq_true, not_true_eq_false, not_false_eq_true, or_false, false_or, or_true, true_or, and_false, false_and, condIT] at _h; first | done | omega)) ?_ | (refine wS ?_ ?_ <;> intro _h <;> simp only [cl_iff, AV.le_refl, AV.le_any, OLe_refl, LeH_cons, LeH_nil, LeL_cons, LeL_nil, and_true, true_and, Bool.and_eq_true, Bool.or_eq_true, decide_eq_true_eq, notT, Bool.cond_true_left, Bool.cond_false_right, Nat.blt_eq, Nat.zero_add, cond_true, cond_false, Int.toNat_natCast, Bool.not_true, Bool.not_false, Bool.false_eq_true, not_true_eq_false, not_false_eq_true, or_false, false_or, or_true, true_or, and_false, false_and, condIT] at _h))
      all_goals simp only [or_true, true_or, false_or, or_false, and_false, false_and, cond_true, cond_false, Bool.not_true, Bool.not_false, Bool.false_eq_true, Bool.true_eq_false, not_true_eq_false, not_false_eq_true, false_implies, true_implies, implies_true, Nat.blt_eq, owesN, owesX, owesR, notT, sat_brT, sat_brF, sat_chkT, cl_iff, cl_false, AV.le_refl, AV.le_any, OLe_refl, OLe_none, sat_brN, Tree.sat_chk, Tree.sat_leaf, Tree.sat_fail, Nat.zero_add, Nat.sub_zero, Int.toNat_natCast, LeH_cons, LeH_nil, LeL_cons, LeL_nil, and_true, true_and, Bool.and_eq_true, Bool.or_eq_true, decide_eq_true_eq, decide_eq_false_iff_not, Bool.cond_true_left, Bool.cond_false_right, List.cons_append, List.nil_append, List.map_cons, List.map_nil]
      repeat' (first | apply And.intro | intro _hc)
      all_goals first | exact AV.le_refl _ | exact AV.le_any _ | exact OLe.refl _ | exact OLe.none _ | exact LeH.refl _ | exact LeL.refl _ | exact AV.le.bs _ | exact AV.le.sb _ | omega | contradiction
noncomputable def k75 : CT Tryd.prog Γm := CT.par 75 ofSPC (fun x => 0 ≤ x.2.1 ∧ x.2.1 < (x.1.size : Int) ∧ x.2.2 = ((Utf8.decode x.1 x.2.1.toNat).1 : Int)) (fun x => [.v (.string x.1), .v (.int .i64 x.2.1), .v (.int .i32 x.2.2)]) (fun _ => []) (fun x => .sb (!okAt x.1 x.2.1.toNat)) (fun _ => []) (fun _ => [])
  (callFunc_enters Tryd.func75 (by kernel_rfl) (by kernel_rfl)) (fun x ⟨h1, h2, h3⟩ => by
    obtain ⟨s, p, c⟩ := x
    obtain ⟨q, rfl⟩ := Int.eq_ofNat_of_zero_le h1
    dsimp only at h2 h3 ⊢
    rw [h3]
    simp only [Int.toNat_natCast]
    exact ansBrk (by omega))
end Go.Eng.TA

/- names: which texts are values. -/
namespace Go.Eng.TA
open Go Go.Eng Go.Eng.M Go.Lib Go.Proofs
set_option linter.unusedSimpArgs false
set_option linter.unusedVariables false
def valN (c : Nat) : Bool := decide (32 ≤ c ∧ c ≠ 127)
def fineV (s : ByteArray) (p : Nat) : Bool := (rns s p).all valN && good s p
/-- is it a value? -/
def valueB (s : ByteArray) : Bool := fineV s 0 && decide ((rns s 0).length ≤ 32)
noncomputable abbrev lpVal : Code := loopOf (bodyOf Tryd.f22) 0
def SVal (s : ByteArray) (x : XP) : List AV × Heap := ([.v (.string s), .v (.int .i64 (x.k : Int)), .its 0, .any], [some (.sit s x.p)])
def retVal : Out := ⟨.ret, [.any, .any, .any, .v (.int .i64 20)], [none]⟩
def endVal (s : ByteArray) : Out := ⟨.exit 0, [.any, .v (.int .i64 ((rns s 0).length : Int)), .any, .any], [none]⟩
def OVal (s : ByteArray) : Out := bif fineV s 0 then endVal s else retVal
theorem rVal (s : ByteArray) (x : XP) : roundE (P := Tryd.prog) (Γ := Γm) [k75] Lno false 0 0 lpVal [0, 3, 7, 2] [] 28 (SVal s x).1 (SVal s x).2 =
  Tree.br (decide (x.p < ByteArray.size s)) (Tree.chk (bif decide ((↑(Utf8.decode s x.p).fst : Int) < (32 : Int)) then true else bif decide ((↑(Utf8.decode s x.p).fst : Int) = (127 : Int))
    then true else cl (((0 : Int) ≤ (↑x.p : Int) ∧ (↑x.p : Int) < (↑(ByteArray.size s) : Int) ∧ (↑(Utf8.decode s x.p).fst : Int) = (↑(Utf8.decode s x.p).fst : Int)) ∧ LeL [AV.v (Value.string
    s), AV.v (Value.int IntKind.i64 (↑x.p : Int)), AV.v (Value.int IntKind.i32 (↑(Utf8.decode s x.p).fst : Int))] [AV.v (Value.string s), AV.v (Value.int IntKind.i64 (↑x.p : Int)), AV.v
    (Value.int IntKind.i32 (↑(Utf8.decode s x.p).fst : Int))] ∧ LeH [] [])) (Tree.br (bif decide ((↑(Utf8.decode s x.p).fst : Int) < (32 : Int)) then true else bif decide ((↑(Utf8.decode s
    x.p).fst : Int) = (127 : Int)) then true else !okAt s x.p) (Tree.leaf (Out.mk AEx.ret [AV.v (Value.string s), AV.v (Value.int IntKind.i64 (↑x.k : Int)), AV.its (0 : Nat), AV.v (Value.int
    IntKind.i64 (20 : Int))] [some (Blk.sit s (x.p + (Utf8.decode s x.p).snd))])) (Tree.leaf (Out.mk AEx.normal [AV.v (Value.string s), AV.v (Value.int IntKind.i64 (IntKind.wrap IntKind.i64
    ((↑x.k : Int) + (1 : Int)))), AV.its (0 : Nat), AV.any] [some (Blk.sit s (x.p + (Utf8.decode s x.p).snd))])))) (Tree.leaf (Out.mk (AEx.exit (0 : Nat)) [AV.v (Value.string s), AV.v
    (Value.int IntKind.i64 (↑x.k : Int)), AV.its (0 : Nat), AV.any] [some (Blk.sit s x.p)])) := by kernel_rfl
theorem loopVal {s : ByteArray} (hs : s.size ≤ 1000000000) : ∀ x : XP, (x.p ≤ s.size ∧ x.k + (rns s x.p).length = (rns s 0).length ∧ fineV s x.p = fineV s 0) → LoopOK Tryd.prog Γm 0 28 lpVal (LSpec.at [0, 3, 7, 2] [] (SVal s x) (OVal s)) := by
  refine loop_at (S := SVal s) (O := fun _ => OVal s) (k := 0) (fun x => s.size - x.p) fun x hp => .of (noLoops (by kernel_rfl)) (rVal s x) ?_
  obtain ⟨p, k⟩ := x
  obtain ⟨h1, h2, h3⟩ := hp
  have hl : (rns s 0).length ≤ s.size - 0 := rns_len
  dsimp only at h1 h2 h3
  rcases Nat.lt_or_ge p s.size with hi | hi
  · have hst := rns_step hi
    have hd := dec_pos s p
    have hle := dec_le hi
    rw [hst, List.length_cons] at h2
    have hf : fineV s p = ((valN (Utf8.decode s p).1 && okAt s p) && fineV s (p + (Utf8.decode s p).2)) := by
      unfold fineV
      rw [hst, List.all_cons, good_ok hi]
      cases valN (Utf8.decode s p).1 <;> cases okAt s p <;> simp
    by_cases hv : 32 ≤ (Utf8.decode s p).1 ∧ (Utf8.decode s p).1 ≠ 127
    · rw [show valN (Utf8.decode s p).1 = true from decide_eq_true hv, Bool.true_and] at hf
      cases ho : okAt s p with
      | true =>
        rw [ho, Bool.true_and] at hf
        repeat' (first | refine wC (by first | omega | (simp only [cl_iff, AV.le_refl, AV.le_any, OLe_refl, LeH_cons, LeH_nil, LeL_cons, LeL_nil, and_true, true_and, Bool.and_eq_true, Bool.or_eq_true, decide_eq_true_eq, notT, Bool.cond_true_left, Bool.cond_false_right, Nat.blt_eq, Nat.zero_add, cond_true, cond_false, Int.toNat_natCast, Bool.not_true, Bool.not_false, Bool.false_eq_true, not_true_eq_false, not_false_eq_true, or_false, false_or, or_true, true_or, and_false, false_and, condIT, ho, wrapUpN (show k ≤ 10000000000 by omega)]; first | done | omega)) ?_ | refine wT (by first | omega | (simp only [cl_iff, AV.le_refl, AV.le_any, OLe_refl, LeH_cons, LeH_nil, LeL_cons, LeL_nil, and_true, true_and, Bool.and_eq_true, Bool.or_eq_true, decide_eq_true_eq, notT, Bool.cond_true_left, Bool.cond_false_right, Nat.blt_eq, Nat.zero_add, cond_true, cond_false, Int.toNat_natCast, Bool.not_true, Bool.not_false, Bool.false_eq_true, not_true_eq_false, not_false_eq_true, or_false, false_or, or_true, true_or, and_false, false_and, condIT, ho, wrapUpN (show k ≤ 10000000000 by omega)]; first | done | omega)) ?_ | refine wF (by intro _h; first | omega | (simp only [cl_iff, AV.le_refl, AV.le_any, OLe_refl, LeH_cons, LeH_nil, LeL_cons, LeL_nil, and_true, true_and, Bool.and_eq_true, Bool.or_eq_true, decide_eq_true_eq, notT, Bool.cond_true_left, Bool.cond_false_right, Nat.blt_eq, Nat.zero_add, cond_true, cond_false, Int.toNat_natCast, Bool.not_true, Bool.not_false, Bool.false_eq_true, not_true_eq_false, not_false_eq_true, or_false, false_or, or_true, true_or, and_false, false_and, condIT, ho, wrapUpN (show k ≤ 10000000000 by omega)] at _h; first | done | omega)) ?_ | (refine wS ?_ ?_ <;> intro _h <;> simp only [cl_iff, AV.le_refl, AV.le_any, OLe_refl, LeH_cons, LeH_nil, LeL_cons, LeL_nil, and_true, true_and, Bool.and_eq_true, Bool.or_eq_true, decide_eq_true_eq, notT, Bool.cond_true_left, Bool.cond_false_right, Nat.blt_eq, Nat.zero_add, cond_true, cond_false, Int.toNat_natCast, Bool.not_true, Bool.not_false, Bool.false_eq_true, not_true_eq_false, not_false_eq_true, or_false, false_or, or_true, true_or, and_false, false_and, condIT, ho, wrapUpN (show k ≤ 10000000000 by omega)] at _h))
        all_goals simp only [or_true, true_or, false_or, or_false, and_false, false_and, cond_true, cond_false, Bool.not_true, Bool.not_false, Bool.false_eq_true, Bool.true_eq_false, not_true_eq_false, not_false_eq_true, false_implies, true_implies, implies_true, Nat.blt_eq, owesN, owesX, owesR, notT, sat_brT, sat_brF, sat_chkT, cl_iff, cl_false, AV.le_refl, AV.le_any, OLe_refl, OLe_none, sat_brN, Tree.sat_chk, Tree.sat_leaf, Tree.sat_fail, Nat.zero_add, Nat.sub_zero, Int.toNat_natCast, LeH_cons, LeH_nil, LeL_cons, LeL_nil, and_true, true_and, Bool.and_eq_true, Bool.or_eq_true, decide_eq_true_eq, decide_eq_false_iff_not, Bool.cond_true_left, Bool.cond_false_right, List.cons_append, List.nil_append, List.map_cons, List.map_nil, ho, wrapUpN (show k ≤ 10000000000 by omega)]
        repeat' (first | apply And.intro | intro _hc)
        all_goals first | exact ⟨⟨p + (Utf8.decode s p).2, k + 1⟩, LeL.refl _, LeH.refl _, ⟨hle, by dsimp only; omega, by dsimp only; rw [← hf, h3]⟩, by dsimp only; omega⟩ | exact AV.le_refl _ | exact AV.le_any _ | exact OLe.refl _ | exact OLe.none _ | exact LeH.refl _ | exact LeL.refl _ | exact AV.le.bs _ | exact AV.le.sb _ | omega | contradiction
      | false =>
        rw [ho, Bool.false_and] at hf
        rw [show OVal s = retVal by unfold OVal; rw [← h3, hf]; rfl]
        repeat' (first | refine wC (by first | omega | (simp only [cl_iff, AV.le_refl, AV.le_any, OLe_refl, LeH_cons, LeH_nil, LeL_cons, LeL_nil, and_true, true_and, Bool.and_eq_true, Bool.or_eq_true, decide_eq_true_eq, notT, Bool.cond_true_left, Bool.cond_false_right, Nat.blt_eq, Nat.zero_add, cond_true, cond_false, Int.toNat_natCast, Bool.not_true, Bool.not_false, Bool.false_eq_true, not_true_eq_false, not_false_eq_true, or_false, false_or, or_true, true_or, and_false, false_and, condIT, ho]; first | done | omega)) ?_ | refine wT (by first | omega | (simp only [cl_iff, AV.le_refl, AV.le_any, OLe_refl, LeH_cons, LeH_nil, LeL_cons, LeL_nil, and_true, true_and, Bool.and_eq_true, Bool.or_eq_true, decide_eq_true_eq, notT, Bool.cond_true_left, Bool.cond_false_right, Nat.blt_eq, Nat.zero_add, cond_true, cond_false, Int.toNat_natCast, Bool.not_true, Bool.not_false, Bool.false_eq_true, not_true_eq_false, not_false_eq_true, or_false, false_or, or_true, true_or, and_false, false_and, condIT, ho]; first | done | omega)) ?_ | refine wF (by intro _h; first | omega | (simp only [cl_iff, AV.le_refl, AV.le_any, OLe_refl, LeH_cons, LeH_nil, LeL_cons, LeL_nil, and_true, true_and, Bool.and_eq_true, Bool.or_eq_true, decide_eq_true_eq, notT, Bool.cond_true_left, Bool.cond_false_right, Nat.blt_eq, Nat.zero_add, cond_true, cond_false, Int.toNat_natCast, Bool.not_true, Bool.not_false, Bool.false_eq_true, not_true_eq_false, not_false_eq_true, or_false, false_or, or_true, true_or, and_false, false_and, condIT, ho] at _h; first | done | omega)) ?_ | (refine wS ?_ ?_ <;> intro _h <;> simp only [cl_iff, AV.le_refl, AV.le_any, OLe_refl, LeH_cons, LeH_nil, LeL_cons, LeL_nil, and_true, true_and, Bool.and_eq_true, Bool.or_eq_true, decide_eq_true_eq, notT, Bool.cond_true_left, Bool.cond_false_right, Nat.blt_eq, Nat.zero_add, cond_true, cond_false, Int.toNat_natCast, Bool.not_true, Bool.not_false, Bool.false_eq_true, not_true_eq_false, not_false_eq_true, or_false, false_or, or_true, true_or, and_false, false_and, condIT, ho] at _h))
        all_goals simp only [or_true, true_or, false_or, or_false, and_false, false_and, cond_true, cond_false, Bool.not_true, Bool.not_false, Bool.false_eq_true, Bool.true_eq_false, not_true_eq_false, not_false_eq_true, false_implies, true_implies, implies_true, Nat.blt_eq, owesN, owesX, owesR, notT, sat_brT, sat_brF, sat_chkT, cl_iff, cl_false, AV.le_refl, AV.le_any, OLe_refl, OLe_none, sat_brN, Tree.sat_chk, Tree.sat_leaf, Tree.sat_fail, Nat.zero_add, Nat.sub_zero, Int.toNat_natCast, LeH_cons, LeH_nil, LeL_cons, LeL_nil, and_true, true_and, Bool.and_eq_true, Bool.or_eq_true, decide_eq_true_eq, decide_eq_false_iff_not, Bool.cond_true_left, Bool.cond_false_right, List.cons_append, List.nil_append, List.map_cons, List.map_nil, ho]
        repeat' (first | apply And.intro | intro _hc)
        all_goals first | exact rfl | exact AV.le_refl _ | exact AV.le_any _ | exact OLe.refl _ | exact OLe.none _ | exact LeH.refl _ | exact LeL.refl _ | exact AV.le.bs _ | exact AV.le.sb _ | omega | contradiction
    · rw [show valN (Utf8.decode s p).1 = false from decide_eq_false hv, Bool.false_and, Bool.false_and] at hf
      rw [show OVal s = retVal by unfold OVal; rw [← h3, hf]; rfl]
      repeat' (first | refine wC (by first | omega | (simp only [cl_iff, AV.le_refl, AV.le_any, OLe_refl, LeH_cons, LeH_nil, LeL_cons, LeL_nil, and_true, true_and, Bool.and_eq_true, Bool.or_eq_true, decide_eq_true_eq, notT, Bool.cond_true_left, Bool.cond_false_right, Nat.blt_eq, Nat.zero_add, cond_true, cond_false, Int.toNat_natCast, Bool.not_true, Bool.not_false, Bool.false_eq_true, not_true_eq_false, not_false_eq_true, or_false, false_or, or_true, true_or, and_false, false_and, condIT]; first | done | omega)) ?_ | refine wT (by first | omega | (simp only [cl_iff, AV.le_refl, AV.le_any, OLe_refl, LeH_cons, LeH_nil, LeL_cons, LeL_nil, and_true, true_and, Bool.and_eq_true, Bool.or_eq_true, decide_eq_true_eq, notT, Bool.cond_true_left, Bool.cond_false_right, Nat.blt_eq, Nat.zero_add, cond_true, cond_false, Int.toNat_natCast, Bool.not_true, Bool.not_false, Bool.false_eq_true, not_true_eq_false, not_false_eq_true, or_false, false_or, or_true, true_or, and_false, false_and, condIT]; first | done | omega)) ?_ | refine wF (by intro _h; first | omega | (simp only [cl_iff, AV.le_refl, AV.le_any, OLe_refl, LeH_cons, LeH_nil, LeL_cons, LeL_nil, and_true, true_and, Bool.and_eq_true, Bool.or_eq_true, decide_eq_true_eq, notT, Bool.cond_true_left, Bool.cond_false_right, Nat.blt_eq, Nat.zero_add, cond_true, cond_false, Int.toNat_natCast, Bool.not_true, Bool.not_false, Bool.false_eq_true, not_true_eq_false, not_false_eq_true, or_false, false_or, or_true, true_or, and_false, false_and, condIT] at _h; first | done | omega)) ?_ | (refine wS ?_ ?_ <;> intro _h <;> simp only [cl_iff, AV.le_refl, AV.le_any, OLe_refl, LeH_cons, LeH_nil, LeL_cons, LeL_nil, and_true, true_and, Bool.and_eq_true, Bool.or_eq_true, decide_eq_true_eq, notT, Bool.cond_true_left, Bool.cond_false_right, Nat.blt_eq, Nat.zero_add, cond_true, cond_false, Int.toNat_natCast, Bool.not_true, Bool.not_false, Bool.false_eq_true, not_true_eq_false, not_false_eq_true, or_false, false_or, or_true, true_or, and_false, false_and, condIT] at _h))
      all_goals simp only [or_true, true_or, false_or, or_false, and_false, false_and, cond_true, cond_false, Bool.not_true, Bool.not_false, Bool.false_eq_true, Bool.true_eq_false, not_true_eq_false, not_false_eq_true, false_implies, true_implies, implies_true, Nat.blt_eq, owesN, owesX, owesR, notT, sat_brT, sat_brF, sat_chkT, cl_iff, cl_false, AV.le_refl, AV.le_any, OLe_refl, OLe_none, sat_brN, Tree.sat_chk, Tree.sat_leaf, Tree.sat_fail, Nat.zero_add, Nat.sub_zero, Int.toNat_natCast, LeH_cons, LeH_nil, LeL_cons, LeL_nil, and_true, true_and, Bool.and_eq_true, Bool.or_eq_true, decide_eq_true_eq, decide_eq_false_iff_not, Bool.cond_true_left, Bool.cond_false_right, List.cons_append, List.nil_append, List.map_cons, List.map_nil]
      repeat' (first | apply And.intro | intro _hc)
      all_goals first | exact rfl | exact AV.le_refl _ | exact AV.le_any _ | exact OLe.refl _ | exact OLe.none _ | exact LeH.refl _ | exact LeL.refl _ | exact AV.le.bs _ | exact AV.le.sb _ | omega | contradiction
  · rw [rns_end hi, List.length_nil] at h2
    have h2 : k = (rns s 0).length := by omega
    subst h2
    have hf : fineV s 0 = true := by
      rw [← h3]; unfold fineV; rw [rns_end hi, good_end hi]; rfl
    rw [show OVal s = endVal s by unfold OVal; rw [hf]; rfl]
    repeat' (first | refine wC (by first | omega | (simp only [cl_iff, AV.le_refl, AV.le_any, OLe_refl, LeH_cons, LeH_nil, LeL_cons, LeL_nil, and_true, true_and, Bool.and_eq_true, Bool.or_eq_true, decide_eq_true_eq, notT, Bool.cond_true_left, Bool.cond_false_right, Nat.blt_eq, Nat.zero_add, cond_true, cond_false, Int.toNat_natCast, Bool.not_true, Bool.not_false, Bool.false_eq_true, not_true_eq_false, not_false_eq_true, or_false, false_or, or_true, true_or, and_false, false_and, condIT]; first | done | omega)) ?_ | refine wT (by first | omega | (simp only [cl_iff, AV.le_refl, AV.le_any, OLe_refl, LeH_cons, LeH_nil, LeL_cons, LeL_nil, and_true, true_and, Bool.and_eq_true, Bool.or_eq_true, decide_eq_true_eq, notT, Bool.cond_true_left, Bool.cond_false_right, Nat.blt_eq, Nat.zero_add, cond_true, cond_false, Int.toNat_natCast, Bool.not_true, Bool.not_false, Bool.false_eq_true, not_true_eq_false, not_false_eq_true, or_false, false_or, or_true, true_or, and_false, false_and, condIT]; first | done | omega)) ?_ | refine wF (by intro _h; first | omega | (simp only [cl_iff, AV.le_refl, AV.le_any, OLe_refl, LeH_cons, LeH_nil, LeL_cons, LeL_nil, and_true, true_and, Bool.and_eq_true, Bool.or_eq_true, decide_eq_true_eq, notT, Bool.cond_true_left, Bool.cond_false_right, Nat.blt_eq, Nat.zero_add, cond_true, cond_false, Int.toNat_natCast, Bool.not_true, Bool.not_false, Bool.false_eq_true, not_true_eq_false, not_false_eq_true, or_false, false_or, or_true, true_or, and_false, false_and, condIT] at _h; first | done | omega)) ?_ | (refine wS ?_ ?_ <;> intro _h <;> simp only [cl_iff, AV.le_refl, AV.le_any, OLe_refl, LeH_cons, LeH_nil, LeL_cons, LeL_nil, and_true, true_and, Bool.and_eq_true, Bool.or_eq_true, decide_eq_true_eq, notT, Bool.cond_true_left, Bool.cond_false_right, Nat.blt_eq, Nat.zero_add, cond_true, cond_false, Int.toNat_natCast, Bool.not_true, Bool.not_false, Bool.false_eq_true, not_true_eq_false, not_false_eq_true, or_false, false_or, or_true, true_or, and_false, false_and, condIT] at _h))
    all_goals simp only [or_true, true_or, false_or, or_false, and_false, false_and, cond_true, cond_false, Bool.not_true, Bool.not_false, Bool.false_eq_true, Bool.true_eq_false, not_true_eq_false, not_false_eq_true, false_implies, true_implies, implies_true, Nat.blt_eq, owesN, owesX, owesR, notT, sat_brT, sat_brF, sat_chkT, cl_iff, cl_false, AV.le_refl, AV.le_any, OLe_refl, OLe_none, sat_brN, Tree.sat_chk, Tree.sat_leaf, Tree.sat_fail, Nat.zero_add, Nat.sub_zero, Int.toNat_natCast, LeH_cons, LeH_nil, LeL_cons, LeL_nil, and_true, true_and, Bool.and_eq_true, Bool.or_eq_true, decide_eq_true_eq, decide_eq_false_iff_not, Bool.cond_true_left, Bool.cond_false_right, List.cons_append, List.nil_append, List.map_cons, List.map_nil]
    repeat' (first | apply And.intro | intro _hc)
    all_goals first | exact rfl | exact AV.le_refl _ | exact AV.le_any _ | exact OLe.refl _ | exact OLe.none _ | exact LeH.refl _ | exact LeL.refl _ | exact AV.le.bs _ | exact AV.le.sb _ | omega | contradiction
theorem runValE (s : ByteArray) : bodyE (P := Tryd.prog) (Γ := Γm) [] (fun _ => LSpec.at [0, 3, 7, 2] [] (SVal s ⟨0, 0⟩) (endVal s)) false 28 [.tmp 2] (bodyOf Tryd.f22) [.v (.string s)] [] =
  Tree.chk (cl (LeL [AV.v (Value.string s), AV.v (Value.int IntKind.i64 (0 : Int)), AV.its (0 : Nat), AV.v (Value.int IntKind.i64 (0 : Int))] [AV.v (Value.string s), AV.v (Value.int
    IntKind.i64 (↑(0 : Nat) : Int)), AV.its (0 : Nat), AV.any] ∧ LeH [some (Blk.sit s (0 : Nat))] [some (Blk.sit s (0 : Nat))])) (Tree.br (decide ((32 : Int) < (↑(List.length (rns s (0 :
    Nat))) : Int))) (Tree.leaf (Ans.mk (AV.v (Value.int IntKind.i64 (20 : Int))) [])) (Tree.leaf (Ans.mk (AV.v (Value.int IntKind.i64 (0 : Int))) []))) := by kernel_rfl
theorem runValR (s : ByteArray) : bodyE (P := Tryd.prog) (Γ := Γm) [] (fun _ => LSpec.at [0, 3, 7, 2] [] (SVal s ⟨0, 0⟩) retVal) false 28 [.tmp 2] (bodyOf Tryd.f22) [.v (.string s)] [] =
  Tree.chk (cl (LeL [AV.v (Value.string s), AV.v (Value.int IntKind.i64 (0 : Int)), AV.its (0 : Nat), AV.v (Value.int IntKind.i64 (0 : Int))] [AV.v (Value.string s), AV.v (Value.int
    IntKind.i64 (↑(0 : Nat) : Int)), AV.its (0 : Nat), AV.any] ∧ LeH [some (Blk.sit s (0 : Nat))] [some (Blk.sit s (0 : Nat))])) (Tree.leaf (Ans.mk (AV.v (Value.int IntKind.i64 (20 : Int)))
    [])) := by kernel_rfl
theorem ansVal {s : ByteArray} (hs : s.size ≤ 1000000000) : Answers Tryd.prog Γm 22 [.v (.string s)] [] (.v (.int .i64 (erN (valueB s)))) [] [] := by
  have hl := loopVal hs ⟨0, 0⟩ ⟨Nat.zero_le _, Nat.zero_add _, rfl⟩
  unfold OVal at hl
  unfold valueB
  cases hf : fineV s 0 with
  | true =>
    rw [hf, cond_true] at hl
    refine answers (fn := Tryd.f22) (c := bodyOf Tryd.f22) (ntmps := 28) (results := [.tmp 2]) [] (fun _ => LSpec.at [0, 3, 7, 2] [] (SVal s ⟨0, 0⟩) (endVal s)) false Tryd.func22 (by kernel_rfl) (by kernel_rfl) (by kernel_rfl) (by kernel_rfl) (by simp) rfl (oneLoop (b := lpVal) (by kernel_rfl) hl) <| Meets.of (runValE s) <| ?_
    by_cases h : (rns s 0).length ≤ 32
    · rw [decide_eq_true h]
      repeat' (first | refine wC (by first | omega | (simp only [cl_iff, AV.le_refl, AV.le_any, OLe_refl, LeH_cons, LeH_nil, LeL_cons, LeL_nil, and_true, true_and, Bool.and_eq_true, Bool.or_eq_true, decide_eq_true_eq, notT, Bool.cond_true_left, Bool.cond_false_right, Nat.blt_eq, Nat.zero_add, cond_true, cond_false, Int.toNat_natCast, Bool.not_true, Bool.not_false, Bool.false_eq_true, not_true_eq_false, not_false_eq_true, or_false, false_or, or_true, true_or, and_false, false_and, condIT]; first | done | omega)) ?_ | refine wT (by first | omega | (simp only [cl_iff, AV.le_refl, AV.le_any, OLe_refl, LeH_cons, LeH_nil, LeL_cons, LeL_nil, and_true, true_and, Bool.and_eq_true, Bool.or_eq_true, decide_eq_true_eq, notT, Bool.cond_true_left, Bool.cond_false_right, Nat.blt_eq, Nat.zero_add, cond_true, cond_false, Int.toNat_natCast, Bool.not_true, Bool.not_false, Bool.false_eq_true, not_true_eq_false, not_false_eq_true, or_false, false_or, or_true, true_or, and_false, false_and, condIT]; first | done | omega)) ?_ | refine wF (by intro _h; first | omega | (simp only [cl_iff, AV.le_refl, AV.le_any, OLe_refl, LeH_cons, LeH_nil, LeL_cons, LeL_nil, and_true, true_and, Bool.and_eq_true, Bool.or_eq_true, decide_eq_true_eq, notT, Bool.cond_true_left, Bool.cond_false_right, Nat.blt_eq, Nat.zero_add, cond_true, cond_false, Int.toNat_natCast, Bool.not_true, Bool.not_false, Bool.false_eq_true, not_true_eq_false, not_false_eq_true, or_false, false_or, or_true, true_or, and_false, false_and, condIT] at _h; first | done | omega)) ?_ | (refine wS ?_ ?_ <;> intro _h <;> simp only [cl_iff, AV.le_refl, AV.le_any, OLe_refl, LeH_cons, LeH_nil, LeL_cons, LeL_nil, and_true, true_and, Bool.and_eq_true, Bool.or_eq_true, decide_eq_true_eq, notT, Bool.cond_true_left, Bool.cond_false_right, Nat.blt_eq, Nat.zero_add, cond_true, cond_false, Int.toNat_natCast, Bool.not_true, Bool.not_false, Bool.false_eq_true, not_true_eq_false, not_false_eq_true, or_false, false_or, or_true, true_or, and_false, false_and, condIT] at _h))
      all_goals simp only [or_true, true_or, false_or, or_false, and_false, false_and, cond_true, cond_false, Bool.not_true, Bool.not_false, Bool.false_eq_true, Bool.true_eq_false, not_true_eq_false, not_false_eq_true, false_implies, true_implies, implies_true, Nat.blt_eq, owesN, owesX, owesR, notT, sat_brT, sat_brF, sat_chkT, cl_iff, cl_false, AV.le_refl, AV.le_any, OLe_refl, OLe_none, sat_brN, Tree.sat_chk, Tree.sat_leaf, Tree.sat_fail, Nat.zero_add, Nat.sub_zero, Int.toNat_natCast, LeH_cons, LeH_nil, LeL_cons, LeL_nil, and_true, true_and, Bool.and_eq_true, Bool.or_eq_true, decide_eq_true_eq, decide_eq_false_iff_not, Bool.cond_true_left, Bool.cond_false_right, List.cons_append, List.nil_append, List.map_cons, List.map_nil]
      repeat' (first | apply And.intro | intro _hc)
      all_goals first | exact leI rfl | exact AV.le_refl _ | exact AV.le_any _ | exact OLe.refl _ | exact OLe.none _ | exact LeH.refl _ | exact LeL.refl _ | exact AV.le.bs _ | exact AV.le.sb _ | omega | contradiction
    · rw [decide_eq_false h]
      repeat' (first | refine wC (by first | omega | (simp only [cl_iff, AV.le_refl, AV.le_any, OLe_refl, LeH_cons, LeH_nil, LeL_cons, LeL_nil, and_true, true_and, Bool.and_eq_true, Bool.or_eq_true, decide_eq_true_eq, notT, Bool.cond_true_left, Bool.cond_false_right, Nat.blt_eq, Nat.zero_add, cond_true, cond_false, Int.toNat_natCast, Bool.not_true, Bool.not_false, Bool.false_eq_true, not_true_eq_false, not_false_eq_true, or_false, false_or, or_true, true_or, and_false, false_and, condIT]; first | done | omega)) ?_ | refine wT (by first | omega | (simp only [cl_iff, AV.le_refl, AV.le_any, OLe_refl, LeH_cons, LeH_nil, LeL_cons, LeL_nil, and_true, true_and, Bool.and_eq_true, Bool.or_eq_true, decide_eq_true_eq, notT, Bool.cond_true_left, Bool.cond_false_right, Nat.blt_eq, Nat.zero_add, cond_true, cond_false, Int.toNat_natCast, Bool.not_true, Bool.not_false, Bool.false_eq_true, not_true_eq_false, not_false_eq_true, or_false, false_or, or_true, true_or, and_false, false_and, condIT]; first | done | omega)) ?_ | refine wF (by intro _h; first | omega | (simp only [cl_iff, AV.le_refl, AV.le_any, OLe_refl, LeH_cons, LeH_nil, LeL_cons, LeL_nil, and_true, true_and, Bool.and_eq_true, Bool.or_eq_true, decide_eq_true_eq, notT, Bool.cond_true_left, Bool.cond_false_right, Nat.blt_eq, Nat.zero_add, cond_true, cond_false, Int.toNat_natCast, Bool.not_true, Bool.not_false, Bool.false_eq_true, not_true_eq_false, not_false_eq_true, or_false, false_or, or_true, true_or, and_false, false_and, condIT] at _h; first | done | omega)) ?_ | (refine wS ?_ ?_ <;> intro _h <;> simp only [cl_iff, AV.le_refl, AV.le_any, OLe_refl, LeH_cons, LeH_nil, LeL_cons, LeL_nil, and_true, true_and, Bool.and_eq_true, Bool.or_eq_true, decide_eq_true_eq, notT, Bool.cond_true_left, Bool.cond_false_right, Nat.blt_eq, Nat.zero_add, cond_true, cond_false, Int.toNat_natCast, Bool.not_true, Bool.not_false, Bool.false_eq_true, not_true_eq_false, not_false_eq_true, or_false, false_or, or_true, true_or, and_false, false_and, condIT] at _h))
      all_goals simp only [or_true, true_or, false_or, or_false, and_false, false_and, cond_true, cond_false, Bool.not_true, Bool.not_false, Bool.false_eq_true, Bool.true_eq_false, not_true_eq_false, not_false_eq_true, false_implies, true_implies, implies_true, Nat.blt_eq, owesN, owesX, owesR, notT, sat_brT, sat_brF, sat_chkT, cl_iff, cl_false, AV.le_refl, AV.le_any, OLe_refl, OLe_none, sat_brN, Tree.sat_chk, Tree.sat_leaf, Tree.sat_fail, Nat.zero_add, Nat.sub_zero, Int.toNat_natCast, LeH_cons, LeH_nil, LeL_cons, LeL_nil, and_true, true_and, Bool.and_eq_true, Bool.or_eq_true, decide_eq_true_eq, decide_eq_false_iff_not, Bool.cond_true_left, Bool.cond_false_right, List.cons_append, List.nil_append, List.map_cons, List.map_nil]
      repeat' (first | apply And.intro | intro _hc)
      all_goals first | exact leI rfl | exact AV.le_refl _ | exact AV.le_any _ | exact OLe.refl _ | exact OLe.none _ | exact LeH.refl _ | exact LeL.refl _ | exact AV.le.bs _ | exact AV.le.sb _ | omega | contradiction
  | false =>
    rw [hf, cond_false] at hl
    refine answers (fn := Tryd.f22) (c := bodyOf Tryd.f22) (ntmps := 28) (results := [.tmp 2]) [] (fun _ => LSpec.at [0, 3, 7, 2] [] (SVal s ⟨0, 0⟩) retVal) false Tryd.func22 (by kernel_rfl) (by kernel_rfl) (by kernel_rfl) (by kernel_rfl) (by simp) rfl (oneLoop (b := lpVal) (by kernel_rfl) hl) <| Meets.of (runValR s) <| ?_
    repeat' (first | refine wC (by first | omega | (simp only [cl_iff, AV.le_refl, AV.le_any, OLe_refl, LeH_cons, LeH_nil, LeL_cons, LeL_nil, and_true, true_and, Bool.and_eq_true, Bool.or_eq_true, decide_eq_true_eq, notT, Bool.cond_true_left, Bool.cond_false_right, Nat.blt_eq, Nat.zero_add, cond_true, cond_false, Int.toNat_natCast, Bool.not_true, Bool.not_false, Bool.false_eq_true, not_true_eq_false, not_false_eq_true, or_false, false_or, or_true, true_or, and_false, false_and, condIT]; first | done | omega)) ?_ | refine wT (by first | omega | (simp only [cl_iff, AV.le_refl, AV.le_any, OLe_refl, LeH_cons, LeH_nil, LeL_cons, LeL_nil, and_true, true_and, Bool.and_eq_true, Bool.or_eq_true, decide_eq_true_eq, notT, Bool.cond_true_left, Bool.cond_false_right, Nat.blt_eq, Nat.zero_add, cond_true, cond_false, Int.toNat_natCast, Bool.not_true, Bool.not_false, Bool.false_eq_true, not_true_eq_false, not_false_eq_true, or_false, false_or, or_true, true_or, and_false, false_and, condIT]; first | done | omega)) ?_ | refine wF (by intro _h; first | omega | (simp only [cl_iff, AV.le_refl, AV.le_any, OLe_refl, LeH_cons, LeH_nil, LeL_cons, LeL_nil, and_true, true_and, Bool.and_eq_true, Bool.or_eq_true, decide_eq_true_eq, notT, Bool.cond_true_left, Bool.cond_false_right, Nat.blt_eq, Nat.zero_add, cond_true, cond_false, Int.toNat_natCast, Bool.not_true, Bool.not_false, Bool.false_eq_true, not_true_eq_false, not_false_eq_true, or_false, false_or, or_true, true_or, and_false, false_and, condIT] at _h; first | done | omega)) ?_ | (refine wS ?_ ?_ <;> intro _h <;> simp only [cl_iff, AV.le_refl, AV.le_any, OLe_refl, LeH_cons, LeH_nil, LeL_cons, LeL_nil, and_true, true_and, Bool.and_eq_true, Bool.or_eq_true, decide_eq_true_eq, notT, Bool.cond_true_left, Bool.cond_false_right, Nat.blt_eq, Nat.zero_add, cond_true, cond_false, Int.toNat_natCast, Bool.not_true, Bool.not_false, Bool.false_eq_true, not_true_eq_false, not_false_eq_true, or_false, false_or, or_true, true_or, and_false, false_and, condIT] at _h))
    all_goals simp only [or_true, true_or, false_or, or_false, and_false, false_and, cond_true, cond_false, Bool.not_true, Bool.not_false, Bool.false_eq_true, Bool.true_eq_false, not_true_eq_false, not_false_eq_true, false_implies, true_implies, implies_true, Nat.blt_eq, owesN, owesX, owesR, notT, sat_brT, sat_brF, sat_chkT, cl_iff, cl_false, AV.le_refl, AV.le_any, OLe_refl, OLe_none, sat_brN, Tree.sat_chk, Tree.sat_leaf, Tree.sat_fail, Nat.zero_add, Nat.sub_zero, Int.toNat_natCast, LeH_cons, LeH_nil, LeL_cons, LeL_nil, and_true, true_and, Bool.and_eq_true, Bool.or_eq_true, decide_eq_true_eq, decide_eq_false_iff_not, Bool.cond_true_left, Bool.cond_false_right, List.cons_append, List.nil_append, List.map_cons, List.map_nil]
    repeat' (first | apply And.intro | intro _hc)
    all_goals first | exact leI rfl | exact AV.le_refl _ | exact AV.le_any _ | exact OLe.refl _ | exact OLe.none _ | exact LeH.refl _ | exact LeL.refl _ | exact AV.le.bs _ | exact AV.le.sb _ | omega | contradiction
noncomputable def kVal : CT Tryd.prog Γm := CT.oS 22 Tryd.func22 (by kernel_rfl) (by kernel_rfl) (fun s => s.size ≤ 1000000000) (fun s => .v (.int .i64 (erN (valueB s)))) (fun _ => []) (fun s h => ansVal h)
/-! ### the document's -/
noncomputable abbrev lpValR : Code := loopOf (bodyOf Tryd.f23) 0
def SValR (l : List Nat) (i : Nat) : List AV × Heap := ([.hs 0 0 l.length, .v (.int .i64 (i : Int)), .any], [some (i1B l)])
def OValR (l : List Nat) : Out := bif l.all valN then ⟨.exit 0, [.any, .any, .any], [none]⟩ else ⟨.ret, [.any, .any, .v (.bool false)], [none]⟩
theorem rValR (l : List Nat) (i : Nat) : roundE (P := Tryd.prog) (Γ := Γm) [] Lno false 0 0 lpValR [3, 5, 2] [] 36 (SValR l i).1 (SValR l i).2 =
  Tree.br (decide ((↑i : Int) < (↑(List.length l) : Int))) (Tree.chk (decide ((0 : Int) ≤ (↑i : Int)) && decide ((↑i : Int) < (↑(List.length l) : Int)) && bif decide ((↑(List.getD l ((0 : Nat)
    + i) default) : Int) < (32 : Int)) then true else decide ((0 : Int) ≤ (↑i : Int)) && decide ((↑i : Int) < (↑(List.length l) : Int))) (Tree.br (bif decide ((↑(List.getD l ((0 : Nat) + i)
    default) : Int) < (32 : Int)) then true else decide ((↑(List.getD l ((0 : Nat) + i) default) : Int) = (127 : Int))) (Tree.leaf (Out.mk AEx.ret [AV.hs (0 : Nat) (0 : Nat) (List.length l),
    AV.v (Value.int IntKind.i64 (↑i : Int)), AV.v (Value.bool false)] [some (Blk.arr (1 : Nat) (List.length l) (lsF I1.c l))])) (Tree.leaf (Out.mk AEx.normal [AV.hs (0 : Nat) (0 : Nat)
    (List.length l), AV.v (Value.int IntKind.i64 (IntKind.wrap IntKind.i64 ((↑i : Int) + (1 : Int)))), AV.any] [some (Blk.arr (1 : Nat) (List.length l) (lsF I1.c l))])))) (Tree.leaf (Out.mk
    (AEx.exit (0 : Nat)) [AV.hs (0 : Nat) (0 : Nat) (List.length l), AV.v (Value.int IntKind.i64 (↑i : Int)), AV.any] [some (Blk.arr (1 : Nat) (List.length l) (lsF I1.c l))])) := by kernel_rfl
theorem loopValR {l : List Nat} (hs : l.length ≤ 1000000000) : ∀ i : Nat, (i ≤ l.length ∧ (l.drop i).all valN = l.all valN) → LoopOK Tryd.prog Γm 0 36 lpValR (LSpec.at [3, 5, 2] [] (SValR l i) (OValR l)) := by
  refine loop_at (S := SValR l) (O := fun _ => OValR l) (k := 0) (fun i => l.length - i) fun i hp => .of (noLoops (by kernel_rfl)) (rValR l i) ?_
  obtain ⟨h1, h2⟩ := hp
  rcases Nat.lt_or_ge i l.length with hi | hi
  · rw [all_drop hi] at h2
    by_cases hv : 32 ≤ l.getD i default ∧ l.getD i default ≠ 127
    · rw [show valN (l.getD i default) = true from decide_eq_true hv, Bool.true_and] at h2
      repeat' (first | refine wC (by first | omega | (simp only [cl_iff, AV.le_refl, AV.le_any, OLe_refl, LeH_cons, LeH_nil, LeL_cons, LeL_nil, and_true, true_and, Bool.and_eq_true, Bool.or_eq_true, decide_eq_true_eq, notT, Bool.cond_true_left, Bool.cond_false_right, Nat.blt_eq, Nat.zero_add, cond_true, cond_false, Int.toNat_natCast, Bool.not_true, Bool.not_false, Bool.false_eq_true, not_true_eq_false, not_false_eq_true, or_false, false_or, or_true, true_or, and_false, false_and, condIT, wrapUpN (show i ≤ 10000000000 by omega)]; first | done | omega)) ?_ | refine wT (by first | omega | (simp only [cl_iff, AV.le_refl, AV.le_any, OLe_refl, LeH_cons, LeH_nil, LeL_cons, LeL_nil, and_true, true_and, Bool.and_eq_true, Bool.or_eq_true, decide_eq_true_eq, notT, Bool.cond_true_left, Bool.cond_false_right, Nat.blt_eq, Nat.zero_add, cond_true, cond_false, Int.toNat_natCast, Bool.not_true, Bool.not_false, Bool.false_eq_true, not_true_eq_false, not_false_eq_true, or_false, false_or, or_true, true_or, and_false, false_and, condIT, wrapUpN (show i ≤ 10000000000 by omega)]; first | done | omega)) ?_ | refine wF (by intro _h; first | omega | (simp only [cl_iff, AV.le_refl, AV.le_any, OLe_refl, LeH_cons, LeH_nil, LeL_cons, LeL_nil, and_true, true_and, Bool.and_eq_true, Bool.or_eq_true, decide_eq_true_eq, notT, Bool.cond_true_left, Bool.cond_false_right, Nat.blt_eq, Nat.zero_add, cond_true, cond_false, Int.toNat_natCast, Bool.not_true, Bool.not_false, Bool.false_eq_true, not_true_eq_false, not_false_eq_true, or_false, false_or, or_true, true_or, and_false, false_and, condIT, wrapUpN (show i ≤ 10000000000 by omega)] at _h; first | done | omega)) ?_ | (refine wS ?_ ?_ <;> intro _h <;> simp only [cl_iff, AV.le_refl, AV.le_any, OLe_refl, LeH_cons, LeH_nil, LeL_cons, LeL_nil, and_true, true_and, Bool.and_eq_true, Bool.or_eq_true, decide_eq_true_eq, notT, Bool.cond_true_left, Bool.cond_false_right, Nat.blt_eq, Nat.zero_add, cond_true, cond_false, Int.toNat_natCast, Bool.not_true, Bool.not_false, Bool.false_eq_true, not_true_eq_false, not_false_eq_true, or_false, false_or, or_true, true_or, and_false, false_and, condIT, wrapUpN (show i ≤ 10000000000 by omega)] at _h))
      all_goals simp only [or_true, true_or, false_or, or_false, and_false, false_and, cond_true, cond_false, Bool.not_true, Bool.not_false, Bool.false_eq_true, Bool.true_eq_false, not_true_eq_false, not_false_eq_true, false_implies, true_implies, implies_true, Nat.blt_eq, owesN, owesX, owesR, notT, sat_brT, sat_brF, sat_chkT, cl_iff, cl_false, AV.le_refl, AV.le_any, OLe_refl, OLe_none, sat_brN, Tree.sat_chk, Tree.sat_leaf, Tree.sat_fail, Nat.zero_add, Nat.sub_zero, Int.toNat_natCast, LeH_cons, LeH_nil, LeL_cons, LeL_nil, and_true, true_and, Bool.and_eq_true, Bool.or_eq_true, decide_eq_true_eq, decide_eq_false_iff_not, Bool.cond_true_left, Bool.cond_false_right, List.cons_append, List.nil_append, List.map_cons, List.map_nil, wrapUpN (show i ≤ 10000000000 by omega)]
      repeat' (first | apply And.intro | intro _hc)
      all_goals first | exact ⟨i + 1, LeL.refl _, LeH.refl _, ⟨hi, h2⟩, by omega⟩ | exact AV.le_refl _ | exact AV.le_any _ | exact OLe.refl _ | exact OLe.none _ | exact LeH.refl _ | exact LeL.refl _ | exact AV.le.bs _ | exact AV.le.sb _ | omega | contradiction
    · rw [show valN (l.getD i default) = false from decide_eq_false hv, Bool.false_and] at h2
      unfold OValR
      rw [← h2, cond_false]
      repeat' (first | refine wC (by first | omega | (simp only [cl_iff, AV.le_refl, AV.le_any, OLe_refl, LeH_cons, LeH_nil, LeL_cons, LeL_nil, and_true, true_and, Bool.and_eq_true, Bool.or_eq_true, decide_eq_true_eq, notT, Bool.cond_true_left, Bool.cond_false_right, Nat.blt_eq, Nat.zero_add, cond_true, cond_false, Int.toNat_natCast, Bool.not_true, Bool.not_false, Bool.false_eq_true, not_true_eq_false, not_false_eq_true, or_false, false_or, or_true, true_or, and_false, false_and, condIT]; first | done | omega)) ?_ | refine wT (by first | omega | (simp only [cl_iff, AV.le_refl, AV.le_any, OLe_refl, LeH_cons, LeH_nil, LeL_cons, LeL_nil, and_true, true_and, Bool.and_eq_true, Bool.or_eq_true, decide_eq_true_eq, notT, Bool.cond_true_left, Bool.cond_false_right, Nat.blt_eq, Nat.zero_add, cond_true, cond_false, Int.toNat_natCast, Bool.not_true, Bool.not_false, Bool.false_eq_true, not_true_eq_false, not_false_eq_true, or_false, false_or, or_true, true_or, and_false, false_and, condIT]; first | done | omega)) ?_ | refine wF (by intro _h; first | omega | (simp only [cl_iff, AV.le_refl, AV.le_any, OLe_refl, LeH_cons, LeH_nil, LeL_cons, LeL_nil, and_true, true_and, Bool.and_eq_true, Bool.or_eq_true, decide_eq_true_eq, notT, Bool.cond_true_left, Bool.cond_false_right, Nat.blt_eq, Nat.zero_add, cond_true, cond_false, Int.toNat_natCast, Bool.not_true, Bool.not_false, Bool.false_eq_true, not_true_eq_false, not_false_eq_true, or_false, false_or, or_true, true_or, and_false, false_and, condIT] at _h; first | done | omega)) ?_ | (refine wS ?_ ?_ <;> intro _h <;> simp only [cl_iff, AV.le_refl, AV.le_any, OLe_refl, LeH_cons, LeH_nil, LeL_cons, LeL_nil, and_true, true_and, Bool.and_eq_true, Bool.or_eq_true, decide_eq_true_eq, notT, Bool.cond_true_left, Bool.cond_false_right, Nat.blt_eq, Nat.zero_add, cond_true, cond_false, Int.toNat_natCast, Bool.not_true, Bool.not_false, Bool.false_eq_true, not_true_eq_false, not_false_eq_true, or_false, false_or, or_true, true_or, and_false, false_and, condIT] at _h))
      all_goals simp only [or_true, true_or, false_or, or_false, and_false, false_and, cond_true, cond_false, Bool.not_true, Bool.not_false, Bool.false_eq_true, Bool.true_eq_false, not_true_eq_false, not_false_eq_true, false_implies, true_implies, implies_true, Nat.blt_eq, owesN, owesX, owesR, notT, sat_brT, sat_brF, sat_chkT, cl_iff, cl_false, AV.le_refl, AV.le_any, OLe_refl, OLe_none, sat_brN, Tree.sat_chk, Tree.sat_leaf, Tree.sat_fail, Nat.zero_add, Nat.sub_zero, Int.toNat_natCast, LeH_cons, LeH_nil, LeL_cons, LeL_nil, and_true, true_and, Bool.and_eq_true, Bool.or_eq_true, decide_eq_true_eq, decide_eq_false_iff_not, Bool.cond_true_left, Bool.cond_false_right, List.cons_append, List.nil_append, List.map_cons, List.map_nil]
      repeat' (first | apply And.intro | intro _hc)
      all_goals first | exact rfl | exact AV.le_refl _ | exact AV.le_any _ | exact OLe.refl _ | exact OLe.none _ | exact LeH.refl _ | exact LeL.refl _ | exact AV.le.bs _ | exact AV.le.sb _ | omega | contradiction
  · rw [List.drop_eq_nil_of_le hi] at h2
    unfold OValR
    rw [← h2, List.all_nil, cond_true]
    repeat' (first | refine wC (by first | omega | (simp only [cl_iff, AV.le_refl, AV.le_any, OLe_refl, LeH_cons, LeH_nil, LeL_cons, LeL_nil, and_true, true_and, Bool.and_eq_true, Bool.or_eq_true, decide_eq_true_eq, notT, Bool.cond_true_left, Bool.cond_false_right, Nat.blt_eq, Nat.zero_add, cond_true, cond_false, Int.toNat_natCast, Bool.not_true, Bool.not_false, Bool.false_eq_true, not_true_eq_false, not_false_eq_true, or_false, false_or, or_true, true_or, and_false, false_and, condIT]; first | done | omega)) ?_ | refine wT (by first | omega | (simp only [cl_iff, AV.le_refl, AV.le_any, OLe_refl, LeH_cons, LeH_nil, LeL_cons, LeL_nil, and_true, true_and, Bool.and_eq_true, Bool.or_eq_true, decide_eq_true_eq, notT, Bool.cond_true_left, Bool.cond_false_right, Nat.blt_eq, Nat.zero_add, cond_true, cond_false, Int.toNat_natCast, Bool.not_true, Bool.not_false, Bool.false_eq_true, not_true_eq_false, not_false_eq_true, or_false, false_or, or_true, true_or, and_false, false_and, condIT]; first | done | omega)) ?_ | refine wF (by intro _h; first | omega | (simp only [cl_iff, AV.le_refl, AV.le_any, OLe_refl, LeH_cons, LeH_nil, LeL_cons, LeL_nil, and_true, true_and, Bool.and_eq_true, Bool.or_eq_true, decide_eq_true_eq, notT, Bool.cond_true_left, Bool.cond_false_right, Nat.blt_eq, Nat.zero_add, cond_true, cond_false, Int.toNat_natCast, Bool.not_true, Bool.not_false, Bool.false_eq_true, not_true_eq_false, not_false_eq_true, or_false, false_or, or_true, true_or, and_false, false_and, condIT] at _h; first | done | omega)) ?_ | (refine wS ?_ ?_ <;> intro _h <;> simp only [cl_iff, AV.le_refl, AV.le_any, OLe_refl, LeH_cons, LeH_nil, LeL_cons, LeL_nil, and_true, true_and, Bool.and_eq_true, Bool.or_eq_true, decide_eq_true_eq, notT, Bool.cond_true_left, Bool.cond_false_right, Nat.blt_eq, Nat.zero_add, cond_true, cond_false, Int.toNat_natCast, Bool.not_true, Bool.not_false, Bool.false_eq_true, not_true_eq_false, not_false_eq_true, or_false, false_or, or_true, true_or, and_false, false_and, condIT] at _h))
    all_goals simp only [or_true, true_or, false_or, or_false, and_false, false_and, cond_true, cond_false, Bool.not_true, Bool.not_false, Bool.false_eq_true, Bool.true_eq_false, not_true_eq_false, not_false_eq_true, false_implies, true_implies, implies_true, Nat.blt_eq, owesN, owesX, owesR, notT, sat_brT, sat_brF, sat_chkT, cl_iff, cl_false, AV.le_refl, AV.le_any, OLe_refl, OLe_none, sat_brN, Tree.sat_chk, Tree.sat_leaf, Tree.sat_fail, Nat.zero_add, Nat.sub_zero, Int.toNat_natCast, LeH_cons, LeH_nil, LeL_cons, LeL_nil, and_true, true_and, Bool.and_eq_true, Bool.or_eq_true, decide_eq_true_eq, decide_eq_false_iff_not, Bool.cond_true_left, Bool.cond_false_right, List.cons_append, List.nil_append, List.map_cons, List.map_nil]
    repeat' (first | apply And.intro | intro _hc)
    all_goals first | exact rfl | exact AV.le_refl _ | exact AV.le_any _ | exact OLe.refl _ | exact OLe.none _ | exact LeH.refl _ | exact LeL.refl _ | exact AV.le.bs _ | exact AV.le.sb _ | omega | contradiction
theorem runValRE (s : ByteArray) : bodyE (P := Tryd.prog) (Γ := Γm) [kRun] (fun _ => LSpec.at [3, 5, 2] [] (SValR (rns s 0) 0) ⟨.exit 0, [.any, .any, .any], [none]⟩) false 36 [.tmp 2] (bodyOf Tryd.f23) [.v (.string s)] [] =
  Tree.chk (cl (ByteArray.size s ≤ (100000000 : Nat) ∧ LeL [AV.v (Value.string s)] [AV.v (Value.string s)] ∧ LeH [] [])) (Tree.br (bif !good s (0 : Nat) then true else decide ((32 : Int) <
    (↑(List.length (rns s (0 : Nat))) : Int))) (Tree.leaf (Ans.mk (AV.v (Value.bool false)) [])) (Tree.chk (cl (LeL [AV.hs (0 : Nat) (0 : Nat) (List.length (rns s (0 : Nat))), AV.v
    (Value.int IntKind.i64 (0 : Int)), AV.v (Value.bool false)] [AV.hs (0 : Nat) (0 : Nat) (List.length (rns s (0 : Nat))), AV.v (Value.int IntKind.i64 (↑(0 : Nat) : Int)), AV.any] ∧ LeH
    [some (Blk.arr (1 : Nat) (List.length (rns s (0 : Nat))) (lsF I1.c (rns s (0 : Nat))))] [some (Blk.arr (1 : Nat) (List.length (rns s (0 : Nat))) (lsF I1.c (rns s (0 : Nat))))]))
    (Tree.leaf (Ans.mk (AV.v (Value.bool true)) [])))) := by kernel_rfl
theorem runValRR (s : ByteArray) : bodyE (P := Tryd.prog) (Γ := Γm) [kRun] (fun _ => LSpec.at [3, 5, 2] [] (SValR (rns s 0) 0) ⟨.ret, [.any, .any, .v (.bool false)], [none]⟩) false 36 [.tmp 2] (bodyOf Tryd.f23) [.v (.string s)] [] =
  Tree.chk (cl (ByteArray.size s ≤ (100000000 : Nat) ∧ LeL [AV.v (Value.string s)] [AV.v (Value.string s)] ∧ LeH [] [])) (Tree.br (bif !good s (0 : Nat) then true else decide ((32 : Int) <
    (↑(List.length (rns s (0 : Nat))) : Int))) (Tree.leaf (Ans.mk (AV.v (Value.bool false)) [])) (Tree.chk (cl (LeL [AV.hs (0 : Nat) (0 : Nat) (List.length (rns s (0 : Nat))), AV.v
    (Value.int IntKind.i64 (0 : Int)), AV.v (Value.bool false)] [AV.hs (0 : Nat) (0 : Nat) (List.length (rns s (0 : Nat))), AV.v (Value.int IntKind.i64 (↑(0 : Nat) : Int)), AV.any] ∧ LeH
    [some (Blk.arr (1 : Nat) (List.length (rns s (0 : Nat))) (lsF I1.c (rns s (0 : Nat))))] [some (Blk.arr (1 : Nat) (List.length (rns s (0 : Nat))) (lsF I1.c (rns s (0 : Nat))))]))
    (Tree.leaf (Ans.mk (AV.v (Value.bool false)) [])))) := by kernel_rfl
theorem ansValR {s : ByteArray} (hs : s.size ≤ 100000000) : Answers Tryd.prog Γm 23 [.v (.string s)] [] (.sb (valueB s)) [] [] := by
  have hln : (rns s 0).length ≤ s.size - 0 := rns_len
  have hl := loopValR (l := rns s 0) (by omega) 0 ⟨Nat.zero_le _, rfl⟩
  have hnm : valueB s = (((rns s 0).all valN && good s 0) && decide ((rns s 0).length ≤ 32)) := rfl
  unfold OValR at hl
  rw [hnm]
  cases hA : (rns s 0).all valN with
  | true =>
    rw [hA, cond_true] at hl
    refine answers (fn := Tryd.f23) (c := bodyOf Tryd.f23) (ntmps := 36) (results := [.tmp 2]) [kRun] (fun _ => LSpec.at [3, 5, 2] [] (SValR (rns s 0) 0) ⟨.exit 0, [.any, .any, .any], [none]⟩) false Tryd.func23 (by kernel_rfl) (by kernel_rfl) (by kernel_rfl) (by kernel_rfl) (by simp) rfl (oneLoop (b := lpValR) (by kernel_rfl) hl) <| Meets.of (runValRE s) <| ?_
    cases hg : good s 0 with
    | true =>
      by_cases h : (rns s 0).length ≤ 32
      · rw [decide_eq_true h]
        repeat' (first | refine wC (by first | omega | (simp only [cl_iff, AV.le_refl, AV.le_any, OLe_refl, LeH_cons, LeH_nil, LeL_cons, LeL_nil, and_true, true_and, Bool.and_eq_true, Bool.or_eq_true, decide_eq_true_eq, notT, Bool.cond_true_left, Bool.cond_false_right, Nat.blt_eq, Nat.zero_add, cond_true, cond_false, Int.toNat_natCast, Bool.not_true, Bool.not_false, Bool.false_eq_true, not_true_eq_false, not_false_eq_true, or_false, false_or, or_true, true_or, and_false, false_and, condIT, hg]; first | done | omega)) ?_ | refine wT (by first | omega | (simp only [cl_iff, AV.le_refl, AV.le_any, OLe_refl, LeH_cons, LeH_nil, LeL_cons, LeL_nil, and_true, true_and, Bool.and_eq_true, Bool.or_eq_true, decide_eq_true_eq, notT, Bool.cond_true_left, Bool.cond_false_right, Nat.blt_eq, Nat.zero_add, cond_true, cond_false, Int.toNat_natCast, Bool.not_true, Bool.not_false, Bool.false_eq_true, not_true_eq_false, not_false_eq_true, or_false, false_or, or_true, true_or, and_false, false_and, condIT, hg]; first | done | omega)) ?_ | refine wF (by intro _h; first | omega | (simp only [cl_iff, AV.le_refl, AV.le_any, OLe_refl, LeH_cons, LeH_nil, LeL_cons, LeL_nil, and_true, true_and, Bool.and_eq_true, Bool.or_eq_true, decide_eq_true_eq, notT, Bool.cond_true_left, Bool.cond_false_right, Nat.blt_eq, Nat.zero_add, cond_true, cond_false, Int.toNat_natCast, Bool.not_true, Bool.not_false, Bool.false_eq_true, not_true_eq_false, not_false_eq_true, or_false, false_or, or_true, true_or, and_false, false_and, condIT, hg] at _h; first | done | omega)) ?_ | (refine wS ?_ ?_ <;> intro _h <;> simp only [cl_iff, AV.le_refl, AV.le_any, OLe_refl, LeH_cons, LeH_nil, LeL_cons, LeL_nil, and_true, true_and, Bool.and_eq_true, Bool.or_eq_true, decide_eq_true_eq, notT, Bool.cond_true_left, Bool.cond_false_right, Nat.blt_eq, Nat.zero_add, cond_true, cond_false, Int.toNat_natCast, Bool.not_true, Bool.not_false, Bool.false_eq_true, not_true_eq_false, not_false_eq_true, or_false, false_or, or_true, true_or, and_false, false_and, condIT, hg] at _h))
        all_goals simp only [or_true, true_or, false_or, or_false, and_false, false_and, cond_true, cond_false, Bool.not_true, Bool.not_false, Bool.false_eq_true, Bool.true_eq_false, not_true_eq_false, not_false_eq_true, false_implies, true_implies, implies_true, Nat.blt_eq, owesN, owesX, owesR, notT, sat_brT, sat_brF, sat_chkT, cl_iff, cl_false, AV.le_refl, AV.le_any, OLe_refl, OLe_none, sat_brN, Tree.sat_chk, Tree.sat_leaf, Tree.sat_fail, Nat.zero_add, Nat.sub_zero, Int.toNat_natCast, LeH_cons, LeH_nil, LeL_cons, LeL_nil, and_true, true_and, Bool.and_eq_true, Bool.or_eq_true, decide_eq_true_eq, decide_eq_false_iff_not, Bool.cond_true_left, Bool.cond_false_right, List.cons_append, List.nil_append, List.map_cons, List.map_nil, hg]
        repeat' (first | apply And.intro | intro _hc)
        all_goals first | exact AV.le_refl _ | exact AV.le_any _ | exact OLe.refl _ | exact OLe.none _ | exact LeH.refl _ | exact LeL.refl _ | exact AV.le.bs _ | exact AV.le.sb _ | omega | contradiction
      · rw [decide_eq_false h]
        repeat' (first | refine wC (by first | omega | (simp only [cl_iff, AV.le_refl, AV.le_any, OLe_refl, LeH_cons, LeH_nil, LeL_cons, LeL_nil, and_true, true_and, Bool.and_eq_true, Bool.or_eq_true, decide_eq_true_eq, notT, Bool.cond_true_left, Bool.cond_false_right, Nat.blt_eq, Nat.zero_add, cond_true, cond_false, Int.toNat_natCast, Bool.not_true, Bool.not_false, Bool.false_eq_true, not_true_eq_false, not_false_eq_true, or_false, false_or, or_true, true_or, and_false, false_and, condIT, hg]; first | done | omega)) ?_ | refine wT (by first | omega | (simp only [cl_iff, AV.le_refl, AV.le_any, OLe_refl, LeH_cons, LeH_nil, LeL_cons, LeL_nil, and_true, true_and, Bool.and_eq_true, Bool.or_eq_true, decide_eq_true_eq, notT, Bool.cond_true_left, Bool.cond_false_right, Nat.blt_eq, Nat.zero_add, cond_true, cond_false, Int.toNat_natCast, Bool.not_true, Bool.not_false, Bool.false_eq_true, not_true_eq_false, not_false_eq_true, or_false, false_or, or_true, true_or, and_false, false_and, condIT, hg]; first | done | omega)) ?_ | refine wF (by intro _h; first | omega | (simp only [cl_iff, AV.le_refl, AV.le_any, OLe_refl, LeH_cons, LeH_nil, LeL_cons, LeL_nil, and_true, true_and, Bool.and_eq_true, Bool.or_eq_true, decide_eq_true_eq, notT, Bool.cond_true_left, Bool.cond_false_right, Nat.blt_eq, Nat.zero_add, cond_true, cond_false, Int.toNat_natCast, Bool.not_true, Bool.not_false, Bool.false_eq_true, not_true_eq_false, not_false_eq_true, or_false, false_or, or_true, true_or, and_false, false_and, condIT, hg] at _h; first | done | omega)) ?_ | (refine wS ?_ ?_ <;> intro _h <;> simp only [cl_iff, AV.le_refl, AV.le_any, OLe_refl, LeH_cons, LeH_nil, LeL_cons, LeL_nil, and_true, true_and, Bool.and_eq_true, Bool.or_eq_true, decide_eq_true_eq, notT, Bool.cond_true_left, Bool.cond_false_right, Nat.blt_eq, Nat.zero_add, cond_true, cond_false, Int.toNat_natCast, Bool.not_true, Bool.not_false, Bool.false_eq_true, not_true_eq_false, not_false_eq_true, or_false, false_or, or_true, true_or, and_false, false_and, condIT, hg] at _h))
        all_goals simp only [or_true, true_or, false_or, or_false, and_false, false_and, cond_true, cond_false, Bool.not_true, Bool.not_false, Bool.false_eq_true, Bool.true_eq_false, not_true_eq_false, not_false_eq_true, false_implies, true_implies, implies_true, Nat.blt_eq, owesN, owesX, owesR, notT, sat_brT, sat_brF, sat_chkT, cl_iff, cl_false, AV.le_refl, AV.le_any, OLe_refl, OLe_none, sat_brN, Tree.sat_chk, Tree.sat_leaf, Tree.sat_fail, Nat.zero_add, Nat.sub_zero, Int.toNat_natCast, LeH_cons, LeH_nil, LeL_cons, LeL_nil, and_true, true_and, Bool.and_eq_true, Bool.or_eq_true, decide_eq_true_eq, decide_eq_false_iff_not, Bool.cond_true_left, Bool.cond_false_right, List.cons_append, List.nil_append, List.map_cons, List.map_nil, hg]
        repeat' (first | apply And.intro | intro _hc)
        all_goals first | exact AV.le_refl _ | exact AV.le_any _ | exact OLe.refl _ | exact OLe.none _ | exact LeH.refl _ | exact LeL.refl _ | exact AV.le.bs _ | exact AV.le.sb _ | omega | contradiction
    | false =>
      repeat' (first | refine wC (by first | omega | (simp only [cl_iff, AV.le_refl, AV.le_any, OLe_refl, LeH_cons, LeH_nil, LeL_cons, LeL_nil, and_true, true_and, Bool.and_eq_true, Bool.or_eq_true, decide_eq_true_eq, notT, Bool.cond_true_left, Bool.cond_false_right, Nat.blt_eq, Nat.zero_add, cond_true, cond_false, Int.toNat_natCast, Bool.not_true, Bool.not_false, Bool.false_eq_true, not_true_eq_false, not_false_eq_true, or_false, false_or, or_true, true_or, and_false, false_and, condIT, hg]; first | done | omega)) ?_ | refine wT (by first | omega | (simp only [cl_iff, AV.le_refl, AV.le_any, OLe_refl, LeH_cons, LeH_nil, LeL_cons, LeL_nil, and_true, true_and, Bool.and_eq_true, Bool.or_eq_true, decide_eq_true_eq, notT, Bool.cond_true_left, Bool.cond_false_right, Nat.blt_eq, Nat.zero_add, cond_true, cond_false, Int.toNat_natCast, Bool.not_true, Bool.not_false, Bool.false_eq_true, not_true_eq_false, not_false_eq_true, or_false, false_or, or_true, true_or, and_false, false_and, condIT, hg]; first | done | omega)) ?_ | refine wF (by intro _h; first | omega | (simp only [cl_iff, AV.le_refl, AV.le_any, OLe_refl, LeH_cons, LeH_nil, LeL_cons, LeL_nil, and_true, true_and, Bool.and_eq_true, Bool.or_eq_true, decide_eq_true_eq, notT, Bool.cond_true_left, Bool.cond_false_right, Nat.blt_eq, Nat.zero_add, cond_true, cond_false, Int.toNat_natCast, Bool.not_true, Bool.not_false, Bool.false_eq_true, not_true_eq_false, not_false_eq_true, or_false, false_or, or_true, true_or, and_false, false_and, condIT, hg] at _h; first | done | omega)) ?_ | (refine wS ?_ ?_ <;> intro _h <;> simp only [cl_iff, AV.le_refl, AV.le_any, OLe_refl, LeH_cons, LeH_nil, LeL_cons, LeL_nil, and_true, true_and, Bool.and_eq_true, Bool.or_eq_true, decide_eq_true_eq, notT, Bool.cond_true_left, Bool.cond_false_right, Nat.blt_eq, Nat.zero_add, cond_true, cond_false, Int.toNat_natCast, Bool.not_true, Bool.not_false, Bool.false_eq_true, not_true_eq_false, not_false_eq_true, or_false, false_or, or_true, true_or, and_false, false_and, condIT, hg] at _h))
      all_goals simp only [or_true, true_or, false_or, or_false, and_false, false_and, cond_true, cond_false, Bool.not_true, Bool.not_false, Bool.false_eq_true, Bool.true_eq_false, not_true_eq_false, not_false_eq_true, false_implies, true_implies, implies_true, Nat.blt_eq, owesN, owesX, owesR, notT, sat_brT, sat_brF, sat_chkT, cl_iff, cl_false, AV.le_refl, AV.le_any, OLe_refl, OLe_none, sat_brN, Tree.sat_chk, Tree.sat_leaf, Tree.sat_fail, Nat.zero_add, Nat.sub_zero, Int.toNat_natCast, LeH_cons, LeH_nil, LeL_cons, LeL_nil, and_true, true_and, Bool.and_eq_true, Bool.or_eq_true, decide_eq_true_eq, decide_eq_false_iff_not, Bool.cond_true_left, Bool.cond_false_right, List.cons_append, List.nil_append, List.map_cons, List.map_nil, hg]
      repeat' (first | apply And.intro | intro _hc)
      all_goals first | exact AV.le_refl _ | exact AV.le_any _ | exact OLe.refl _ | exact OLe.none _ | exact LeH.refl _ | exact LeL.refl _ | exact AV.le.bs _ | exact AV.le.sb _ | omega | contradiction
  | false =>
    rw [hA, cond_false] at hl
    refine answers (fn := Tryd.f23) (c := bodyOf Tryd.f23) (ntmps := 36) (results := [.tmp 2]) [kRun] (fun _ => LSpec.at [3, 5, 2] [] (SValR (rns s 0) 0) ⟨.ret, [.any, .any, .v (.bool false)], [none]⟩) false Tryd.func23 (by kernel_rfl) (by kernel_rfl) (by kernel_rfl) (by kernel_rfl) (by simp) rfl (oneLoop (b := lpValR) (by kernel_rfl) hl) <| Meets.of (runValRR s) <| ?_
    cases hg : good s 0 with
    | true =>
      repeat' (first | refine wC (by first | omega | (simp only [cl_iff, AV.le_refl, AV.le_any, OLe_refl, LeH_cons, LeH_nil, LeL_cons, LeL_nil, and_true, true_and, Bool.and_eq_true, Bool.or_eq_true, decide_eq_true_eq, notT, Bool.cond_true_left, Bool.cond_false_right, Nat.blt_eq, Nat.zero_add, cond_true, cond_false, Int.toNat_natCast, Bool.not_true, Bool.not_false, Bool.false_eq_true, not_true_eq_false, not_false_eq_true, or_false, false_or, or_true, true_or, and_false, false_and, condIT, hg]; first | done | omega)) ?_ | refine wT (by first | omega | (simp only [cl_iff, AV.le_refl, AV.le_any, OLe_refl, LeH_cons, LeH_nil, LeL_cons, LeL_nil, and_true, true_and, Bool.and_eq_true, Bool.or_eq_true, decide_eq_true_eq, notT, Bool.cond_true_left, Bool.cond_false_right, Nat.blt_eq, Nat.zero_add, cond_true, cond_false, Int.toNat_natCast, Bool.not_true, Bool.not_false, Bool.false_eq_true, not_true_eq_false, not_false_eq_true, or_false, false_or, or_true, true_or, and_false, false_and, condIT, hg]; first | done | omega)) ?_ | refine wF (by intro _h; first | omega | (simp only [cl_iff, AV.le_refl, AV.le_any, OLe_refl, LeH_cons, LeH_nil, LeL_cons, LeL_nil, and_true, true_and, Bool.and_eq_true, Bool.or_eq_true, decide_eq_true_eq, notT, Bool.cond_true_left, Bool.cond_false_right, Nat.blt_eq, Nat.zero_add, cond_true, cond_false, Int.toNat_natCast, Bool.not_true, Bool.not_false, Bool.false_eq_true, not_true_eq_false, not_false_eq_true, or_false, false_or, or_true, true_or, and_false, false_and, condIT, hg] at _h; first | done | omega)) ?_ | (refine wS ?_ ?_ <;> intro _h <;> simp only [cl_iff, AV.le_refl, AV.le_any, OLe_refl, LeH_cons, LeH_nil, LeL_cons, LeL_nil, and_true, true_and, Bool.and_eq_true, Bool.or_eq_true, decide_eq_true_eq, notT, Bool.cond_true_left, Bool.cond_false_right, Nat.blt_eq, Nat.zero_add, cond_true, cond_false, Int.toNat_natCast, Bool.not_true, Bool.not_false, Bool.false_eq_true, not_true_eq_false, not_false_eq_true, or_false, false_or, or_true, true_or, and_false, false_and, condIT, hg] at _h))
      all_goals simp only [or_true, true_or, false_or, or_false, and_false, false_and, cond_true, cond_false, Bool.not_true, Bool.not_false, Bool.false_eq_true, Bool.true_eq_false, not_true_eq_false, not_false_eq_true, false_implies, true_implies, implies_true, Nat.blt_eq, owesN, owesX, owesR, notT, sat_brT, sat_brF, sat_chkT, cl_iff, cl_false, AV.le_refl, AV.le_any, OLe_refl, OLe_none, sat_brN, Tree.sat_chk, Tree.sat_leaf, Tree.sat_fail, Nat.zero_add, Nat.sub_zero, Int.toNat_natCast, LeH_cons, LeH_nil, LeL_cons, LeL_nil, and_true, true_and, Bool.and_eq_true, Bool.or_eq_true, decide_eq_true_eq, decide_eq_false_iff_not, Bool.cond_true_left, Bool.cond_false_right, List.cons_append, List.nil_append, List.map_cons, List.map_nil, hg]
      repeat' (first | apply And.intro | intro _hc)
      all_goals first | exact AV.le_refl _ | exact AV.le_any _ | exact OLe.refl _ | exact OLe.none _ | exact LeH.refl _ | exact LeL.refl _ | exact AV.le.bs _ | exact AV.le.sb _ | omega | contradiction
    | false =>
      repeat' (first | refine wC (by first | omega | (simp only [cl_iff, AV.le_refl, AV.le_any, OLe_refl, LeH_cons, LeH_nil, LeL_cons, LeL_nil, and_true, true_and, Bool.and_eq_true, Bool.or_eq_true, decide_eq_true_eq, notT, Bool.cond_true_left, Bool.cond_false_right, Nat.blt_eq, Nat.zero_add, cond_true, cond_false, Int.toNat_natCast, Bool.not_true, Bool.not_false, Bool.false_eq_true, not_true_eq_false, not_false_eq_true, or_false, false_or, or_true, true_or, and_false, false_and, condIT, hg]; first | done | omega)) ?_ | refine wT (by first | omega | (simp only [cl_iff, AV.le_refl, AV.le_any, OLe_refl, LeH_cons, LeH_nil, LeL_cons, LeL_nil, and_true, true_and, Bool.and_eq_true, Bool.or_eq_true, decide_eq_true_eq, notT, Bool.cond_true_left, Bool.cond_false_right, Nat.blt_eq, Nat.zero_add, cond_true, cond_false, Int.toNat_natCast, Bool.not_true, Bool.not_false, Bool.false_eq_true, not_true_eq_false, not_false_eq_true, or_false, false_or, or_true, true_or, and_false, false_and, condIT, hg]; first | done | omega)) ?_ | refine wF (by intro _h; first | omega | (simp only [cl_iff, AV.le_refl, AV.le_any, OLe_refl, LeH_cons, LeH_nil, LeL_cons, LeL_nil, and_true, true_and, Bool.and_eq_true, Bool.or_eq_true, decide_eq_true_eq, notT, Bool.cond_true_left, Bool.cond_false_right, Nat.blt_eq, Nat.zero_add, cond_true, cond_false, Int.toNat_natCast, Bool.not_true, Bool.not_false, Bool.false_eq_true, not_true_eq_false, not_false_eq_true, or_false, false_or, or_true, true_or, and_false, false_and, condIT, hg] at _h; first | done | omega)) ?_ | (refine wS ?_ ?_ <;> intro _h <;> simp only [cl_iff, AV.le_refl, AV.le_any, OLe_refl, LeH_cons, LeH_nil, LeL_cons, LeL_nil, and_true, true_and, Bool.and_eq_true, Bool.or_eq_true, decide_eq_true_eq, notT, Bool.cond_true_left, Bool.cond_false_right, Nat.blt_eq, Nat.zero_add, cond_true, cond_false, Int.toNat_natCast, Bool.not_true, Bool.not_false, Bool.false_eq_true, not_true_eq_false, not_false_eq_true, or_false, false_or, or_true, true_or, and_false, false_and, condIT, hg] at _h))
      all_goals simp only [or_true, true_or, false_or, or_false, and_false, false_and, cond_true, cond_false, Bool.not_true, Bool.not_false, Bool.false_eq_true, Bool.true_eq_false, not_true_eq_false, not_false_eq_true, false_implies, true_implies, implies_true, Nat.blt_eq, owesN, owesX, owesR, notT, sat_brT, sat_brF, sat_chkT, cl_iff, cl_false, AV.le_refl, AV.le_any, OLe_refl, OLe_none, sat_brN, Tree.sat_chk, Tree.sat_leaf, Tree.sat_fail, Nat.zero_add, Nat.sub_zero, Int.toNat_natCast, LeH_cons, LeH_nil, LeL_cons, LeL_nil, and_true, true_and, Bool.and_eq_true, Bool.or_eq_true, decide_eq_true_eq, decide_eq_false_iff_not, Bool.cond_true_left, Bool.cond_false_right, List.cons_append, List.nil_append, List.map_cons, List.map_nil, hg]
      repeat' (first | apply And.intro | intro _hc)
      all_goals first | exact AV.le_refl _ | exact AV.le_any _ | exact OLe.refl _ | exact OLe.none _ | exact LeH.refl _ | exact LeL.refl _ | exact AV.le.bs _ | exact AV.le.sb _ | omega | contradiction
noncomputable def kValR : CT Tryd.prog Γm := CT.oS 23 Tryd.func23 (by kernel_rfl) (by kernel_rfl) (fun s => s.size ≤ 100000000) (fun s => .sb (valueB s)) (fun _ => []) (fun s h => ansValR h)
end Go.Eng.TA

/- names: bytes of runes. -/
namespace Go.Eng.TA
open Go Go.Eng Go.Eng.M Go.Lib Go.Proofs
set_option linter.unusedSimpArgs false
set_option linter.unusedVariables false
theorem run79 (n : Int) : bodyE (P := Tryd.prog) (Γ := Γm) [] Lno false 61 [.tmp 2] (bodyOf Tryd.f79) [.v (.int .i64 n)] [] =
  Tree.br (decide (n < (128 : Int))) (Tree.chk (allBytes (1 : Nat) fun j => chain [AV.v (Value.int IntKind.u8 (0 : Int))] (0 : Nat) [[AV.v (Value.int IntKind.u8 (IntKind.wrap IntKind.u8 n))]]
    ((0 : Nat) + j)) (Tree.leaf (Ans.mk (AV.v (Value.string (textOf (1 : Nat) fun j => chain [AV.v (Value.int IntKind.u8 (0 : Int))] (0 : Nat) [[AV.v (Value.int IntKind.u8 (IntKind.wrap
    IntKind.u8 n))]] ((0 : Nat) + j)))) []))) (Tree.br (decide (n < (2048 : Int))) (Tree.chk true (Tree.chk true (Tree.chk (allBytes (2 : Nat) fun j => chain [AV.v (Value.int IntKind.u8 (0 :
    Int))] (0 : Nat) [[AV.v (Value.int IntKind.u8 (IntKind.wrap IntKind.u8 (IntKind.wrap IntKind.i64 ((192 : Int) + IntKind.wrap IntKind.i64 (Int.tdiv n (64 : Int))))))], [AV.v (Value.int
    IntKind.u8 (IntKind.wrap IntKind.u8 (IntKind.wrap IntKind.i64 ((128 : Int) + Int.tmod n (64 : Int)))))]] ((0 : Nat) + j)) (Tree.leaf (Ans.mk (AV.v (Value.string (textOf (2 : Nat) fun j
    => chain [AV.v (Value.int IntKind.u8 (0 : Int))] (0 : Nat) [[AV.v (Value.int IntKind.u8 (IntKind.wrap IntKind.u8 (IntKind.wrap IntKind.i64 ((192 : Int) + IntKind.wrap IntKind.i64
    (Int.tdiv n (64 : Int))))))], [AV.v (Value.int IntKind.u8 (IntKind.wrap IntKind.u8 (IntKind.wrap IntKind.i64 ((128 : Int) + Int.tmod n (64 : Int)))))]] ((0 : Nat) + j)))) [])))))
    (Tree.br (decide (n < (65536 : Int))) (Tree.chk true (Tree.chk true (Tree.chk true (Tree.chk true (Tree.chk (allBytes (3 : Nat) fun j => chain [AV.v (Value.int IntKind.u8 (0 : Int))] (0
    : Nat) [[AV.v (Value.int IntKind.u8 (IntKind.wrap IntKind.u8 (IntKind.wrap IntKind.i64 ((224 : Int) + IntKind.wrap IntKind.i64 (Int.tdiv n (4096 : Int))))))], [AV.v (Value.int IntKind.u8
    (IntKind.wrap IntKind.u8 (IntKind.wrap IntKind.i64 ((128 : Int) + Int.tmod (IntKind.wrap IntKind.i64 (Int.tdiv n (64 : Int))) (64 : Int)))))], [AV.v (Value.int IntKind.u8 (IntKind.wrap
    IntKind.u8 (IntKind.wrap IntKind.i64 ((128 : Int) + Int.tmod n (64 : Int)))))]] ((0 : Nat) + j)) (Tree.leaf (Ans.mk (AV.v (Value.string (textOf (3 : Nat) fun j => chain [AV.v (Value.int
    IntKind.u8 (0 : Int))] (0 : Nat) [[AV.v (Value.int IntKind.u8 (IntKind.wrap IntKind.u8 (IntKind.wrap IntKind.i64 ((224 : Int) + IntKind.wrap IntKind.i64 (Int.tdiv n (4096 : Int))))))],
    [AV.v (Value.int IntKind.u8 (IntKind.wrap IntKind.u8 (IntKind.wrap IntKind.i64 ((128 : Int) + Int.tmod (IntKind.wrap IntKind.i64 (Int.tdiv n (64 : Int))) (64 : Int)))))], [AV.v
    (Value.int IntKind.u8 (IntKind.wrap IntKind.u8 (IntKind.wrap IntKind.i64 ((128 : Int) + Int.tmod n (64 : Int)))))]] ((0 : Nat) + j)))) []))))))) (Tree.chk true (Tree.chk true (Tree.chk
    true (Tree.chk true (Tree.chk true (Tree.chk true (Tree.chk (allBytes (4 : Nat) fun j => chain [AV.v (Value.int IntKind.u8 (0 : Int))] (0 : Nat) [[AV.v (Value.int IntKind.u8
    (IntKind.wrap IntKind.u8 (IntKind.wrap IntKind.i64 ((240 : Int) + IntKind.wrap IntKind.i64 (Int.tdiv n (262144 : Int))))))], [AV.v (Value.int IntKind.u8 (IntKind.wrap IntKind.u8
    (IntKind.wrap IntKind.i64 ((128 : Int) + Int.tmod (IntKind.wrap IntKind.i64 (Int.tdiv n (4096 : Int))) (64 : Int)))))], [AV.v (Value.int IntKind.u8 (IntKind.wrap IntKind.u8 (IntKind.wrap
    IntKind.i64 ((128 : Int) + Int.tmod (IntKind.wrap IntKind.i64 (Int.tdiv n (64 : Int))) (64 : Int)))))], [AV.v (Value.int IntKind.u8 (IntKind.wrap IntKind.u8 (IntKind.wrap IntKind.i64
    ((128 : Int) + Int.tmod n (64 : Int)))))]] ((0 : Nat) + j)) (Tree.leaf (Ans.mk (AV.v (Value.string (textOf (4 : Nat) fun j => chain [AV.v (Value.int IntKind.u8 (0 : Int))] (0 : Nat)
    [[AV.v (Value.int IntKind.u8 (IntKind.wrap IntKind.u8 (IntKind.wrap IntKind.i64 ((240 : Int) + IntKind.wrap IntKind.i64 (Int.tdiv n (262144 : Int))))))], [AV.v (Value.int IntKind.u8
    (IntKind.wrap IntKind.u8 (IntKind.wrap IntKind.i64 ((128 : Int) + Int.tmod (IntKind.wrap IntKind.i64 (Int.tdiv n (4096 : Int))) (64 : Int)))))], [AV.v (Value.int IntKind.u8 (IntKind.wrap
    IntKind.u8 (IntKind.wrap IntKind.i64 ((128 : Int) + Int.tmod (IntKind.wrap IntKind.i64 (Int.tdiv n (64 : Int))) (64 : Int)))))], [AV.v (Value.int IntKind.u8 (IntKind.wrap IntKind.u8
    (IntKind.wrap IntKind.i64 ((128 : Int) + Int.tmod n (64 : Int)))))]] ((0 : Nat) + j)))) []))))))))))) := by kernel_rfl
theorem text1 (a : Int) : (textOf 1 fun j => chain [AV.v (Value.int IntKind.u8 0)] 0 [[AV.v (Value.int IntKind.u8 a)]] j) = ⟨#[UInt8.ofNat a.toNat]⟩ := rfl
theorem text2 (a b : Int) : (textOf 2 fun j => chain [AV.v (Value.int IntKind.u8 0)] 0 [[AV.v (Value.int IntKind.u8 a)], [AV.v (Value.int IntKind.u8 b)]] j) = ⟨#[UInt8.ofNat a.toNat, UInt8.ofNat b.toNat]⟩ := rfl
theorem text3 (a b c : Int) : (textOf 3 fun j => chain [AV.v (Value.int IntKind.u8 0)] 0 [[AV.v (Value.int IntKind.u8 a)], [AV.v (Value.int IntKind.u8 b)], [AV.v (Value.int IntKind.u8 c)]] j) = ⟨#[UInt8.ofNat a.toNat, UInt8.ofNat b.toNat, UInt8.ofNat c.toNat]⟩ := rfl
theorem text4 (a b c d : Int) : (textOf 4 fun j => chain [AV.v (Value.int IntKind.u8 0)] 0 [[AV.v (Value.int IntKind.u8 a)], [AV.v (Value.int IntKind.u8 b)], [AV.v (Value.int IntKind.u8 c)], [AV.v (Value.int IntKind.u8 d)]] j) = ⟨#[UInt8.ofNat a.toNat, UInt8.ofNat b.toNat, UInt8.ofNat c.toNat, UInt8.ofNat d.toNat]⟩ := rfl
theorem allB1 (a : Int) : (allBytes 1 fun j => chain [AV.v (Value.int IntKind.u8 0)] 0 [[AV.v (Value.int IntKind.u8 a)]] j) = true := rfl
theorem allB2 (a b : Int) : (allBytes 2 fun j => chain [AV.v (Value.int IntKind.u8 0)] 0 [[AV.v (Value.int IntKind.u8 a)], [AV.v (Value.int IntKind.u8 b)]] j) = true := rfl
theorem allB3 (a b c : Int) : (allBytes 3 fun j => chain [AV.v (Value.int IntKind.u8 0)] 0 [[AV.v (Value.int IntKind.u8 a)], [AV.v (Value.int IntKind.u8 b)], [AV.v (Value.int IntKind.u8 c)]] j) = true := rfl
theorem allB4 (a b c d : Int) : (allBytes 4 fun j => chain [AV.v (Value.int IntKind.u8 0)] 0 [[AV.v (Value.int IntKind.u8 a)], [AV.v (Value.int IntKind.u8 b)], [AV.v (Value.int IntKind.u8 c)], [AV.v (Value.int IntKind.u8 d)]] j) = true := rfl
theorem u8b {n : Nat} : UInt8.ofNat ((n : Int)).toNat = b8 n := by rw [Int.toNat_natCast]; rfl
theorem ansPut {c : Nat} (h : okR c) : Answers Tryd.prog Γm 79 [.v (.int .i64 (c : Int))] [] (.v (.string (encR c))) [] [] :=
  answers (fn := Tryd.f79) (c := bodyOf Tryd.f79) (ntmps := 61) (results := [.tmp 2]) [] Lno false Tryd.func79 (by kernel_rfl) (by kernel_rfl) (by kernel_rfl) (by kernel_rfl) (by simp) rfl (noLoops (by kernel_rfl)) <| Meets.of (run79 (c : Int)) <| by
    have hc : c ≤ 1114111 := by unfold okR at h; omega
    have d6 : Int.tdiv (c : Int) 64 = ((c / 64 : Nat) : Int) := tdiv_nat c 64
    have d12 : Int.tdiv (c : Int) 4096 = ((c / 4096 : Nat) : Int) := tdiv_nat c 4096
    have d18 : Int.tdiv (c : Int) 262144 = ((c / 262144 : Nat) : Int) := tdiv_nat c 262144
    have w6 : IntKind.wrap IntKind.i64 ((c / 64 : Nat) : Int) = ((c / 64 : Nat) : Int) := wrap64 (by omega) (by omega)
    have w12 : IntKind.wrap IntKind.i64 ((c / 4096 : Nat) : Int) = ((c / 4096 : Nat) : Int) := wrap64 (by omega) (by omega)
    have w18 : IntKind.wrap IntKind.i64 ((c / 262144 : Nat) : Int) = ((c / 262144 : Nat) : Int) := wrap64 (by omega) (by omega)
    have m0 : Int.tmod (c : Int) 64 = ((c % 64 : Nat) : Int) := tmod_nat c 64
    have m6 : Int.tmod ((c / 64 : Nat) : Int) 64 = ((c / 64 % 64 : Nat) : Int) := tmod_nat _ 64
    have m12 : Int.tmod ((c / 4096 : Nat) : Int) 64 = ((c / 4096 % 64 : Nat) : Int) := tmod_nat _ 64
    rw [encR_eq h]
    by_cases h1 : c < 128
    · have b0 : IntKind.wrap IntKind.u8 (c : Int) = (c : Int) := by rw [wrapU8]; omega
      rw [if_pos h1]
      repeat' (first | refine wC (by first | omega | (simp only [cl_iff, AV.le_refl, AV.le_any, OLe_refl, LeH_cons, LeH_nil, LeL_cons, LeL_nil, and_true, true_and, Bool.and_eq_true, Bool.or_eq_true, decide_eq_true_eq, notT, Bool.cond_true_left, Bool.cond_false_right, Nat.blt_eq, Nat.zero_add, cond_true, cond_false, Int.toNat_natCast, Bool.not_true, Bool.not_false, Bool.false_eq_true, not_true_eq_false, not_false_eq_true, or_false, false_or, or_true, true_or, and_false, false_and, condIT, text1, b0, allB1, u8b]; first | done | omega)) ?_ | refine wT (by first | omega | (simp only [cl_iff, AV.le_refl, AV.le_any, OLe_refl, LeH_cons, LeH_nil, LeL_cons, LeL_nil, and_true, true_and, Bool.and_eq_true, Bool.or_eq_true, decide_eq_true_eq, notT, Bool.cond_true_left, Bool.cond_false_right, Nat.blt_eq, Nat.zero_add, cond_true, cond_false, Int.toNat_natCast, Bool.not_true, Bool.not_false, Bool.false_eq_true, not_true_eq_false, not_false_eq_true, or_false, false_or, or_true, true_or, and_false, false_and, condIT, text1, b0, allB1, u8b]; first | done | omega)) ?_ | refine wF (by intro _h; first | omega | (simp only [cl_iff, AV.le_refl, AV.le_any, OLe_refl, LeH_cons, LeH_nil, LeL_cons, LeL_nil, and_true, true_and, Bool.and_eq_true, Bool.or_eq_true, decide_eq_true_eq, notT, Bool.cond_true_left, Bool.cond_false_right, Nat.blt_eq, Nat.zero_add, cond_true, cond_false, Int.toNat_natCast, Bool.not_true, Bool.not_false, Bool.false_eq_true, not_true_eq_false, not_false_eq_true, or_false, false_or, or_true, true_or, and_false, false_and, condIT, text1, b0, allB1, u8b] at _h; first | done | omega)) ?_ | (refine wS ?_ ?_ <;> intro _h <;> simp only [cl_iff, AV.le_refl, AV.le_any, OLe_refl, LeH_cons, LeH_nil, LeL_cons, LeL_nil, and_true, true_and, Bool.and_eq_true, Bool.or_eq_true, decide_eq_true_eq, notT, Bool.cond_true_left, Bool.cond_false_right, Nat.blt_eq, Nat.zero_add, cond_true, cond_false, Int.toNat_natCast, Bool.not_true, Bool.not_false, Bool.false_eq_true, not_true_eq_false, not_false_eq_true, or_false, false_or, or_true, true_or, and_false, false_and, condIT, text1, b0, allB1, u8b] at _h))
      all_goals simp only [or_true, true_or, false_or, or_false, and_false, false_and, cond_true, cond_false, Bool.not_true, Bool.not_false, Bool.false_eq_true, Bool.true_eq_false, not_true_eq_false, not_false_eq_true, false_implies, true_implies, implies_true, Nat.blt_eq, owesN, owesX, owesR, notT, sat_brT, sat_brF, sat_chkT, cl_iff, cl_false, AV.le_refl, AV.le_any, OLe_refl, OLe_none, sat_brN, Tree.sat_chk, Tree.sat_leaf, Tree.sat_fail, Nat.zero_add, Nat.sub_zero, Int.toNat_natCast, LeH_cons, LeH_nil, LeL_cons, LeL_nil, and_true, true_and, Bool.and_eq_true, Bool.or_eq_true, decide_eq_true_eq, decide_eq_false_iff_not, Bool.cond_true_left, Bool.cond_false_right, List.cons_append, List.nil_append, List.map_cons, List.map_nil, text1, b0, allB1, u8b]
      repeat' (first | apply And.intro | intro _hc)
      all_goals first | exact leS rfl | exact AV.le_refl _ | exact AV.le_any _ | exact OLe.refl _ | exact OLe.none _ | exact LeH.refl _ | exact LeL.refl _ | exact AV.le.bs _ | exact AV.le.sb _ | omega | contradiction
    by_cases h2 : c < 2048
    · have b0 : IntKind.wrap IntKind.u8 (IntKind.wrap IntKind.i64 ((192 : Int) + ((c / 64 : Nat) : Int))) = ((192 + c / 64 : Nat) : Int) := by rw [wrap64 (by omega) (by omega), wrapU8]; omega
      have b1 : IntKind.wrap IntKind.u8 (IntKind.wrap IntKind.i64 ((128 : Int) + ((c % 64 : Nat) : Int))) = ((128 + c % 64 : Nat) : Int) := by rw [wrap64 (by omega) (by omega), wrapU8]; omega
      rw [if_neg h1, if_pos h2]
      repeat' (first | refine wC (by first | omega | (simp only [cl_iff, AV.le_refl, AV.le_any, OLe_refl, LeH_cons, LeH_nil, LeL_cons, LeL_nil, and_true, true_and, Bool.and_eq_true, Bool.or_eq_true, decide_eq_true_eq, notT, Bool.cond_true_left, Bool.cond_false_right, Nat.blt_eq, Nat.zero_add, cond_true, cond_false, Int.toNat_natCast, Bool.not_true, Bool.not_false, Bool.false_eq_true, not_true_eq_false, not_false_eq_true, or_false, false_or, or_true, true_or, and_false, false_and, condIT, text2, d6, w6, m0, b0, b1, allB2, u8b]; first | done | omega)) ?_ | refine wT (by first | omega | (simp only [cl_iff, AV.le_refl, AV.le_any, OLe_refl, LeH_cons, LeH_nil, LeL_cons, LeL_nil, and_true, true_and, Bool.and_eq_true, Bool.or_eq_true, decide_eq_true_eq, notT, Bool.cond_true_left, Bool.cond_false_right, Nat.blt_eq, Nat.zero_add, cond_true, cond_false, Int.toNat_natCast, Bool.not_true, Bool.not_false, Bool.false_eq_true, not_true_eq_false, not_false_eq_true, or_false, false_or, or_true, true_or, and_false, false_and, condIT, text2, d6, w6, m0, b0, b1, allB2, u8b]; first | done | omega)) ?_ | refine wF (by intro _h; first | omega | (simp only [cl_iff, AV.le_refl, AV.le_any, OLe_refl, LeH_cons, LeH_nil, LeL_cons, LeL_nil, and_true, true_and, Bool.and_eq_true, Bool.or_eq_true, decide_eq_true_eq, notT, Bool.cond_true_left, Bool.cond_false_right, Nat.blt_eq, Nat.zero_add, cond_true, cond_false, Int.toNat_natCast, Bool.not_true, Bool.not_false, Bool.false_eq_true, not_true_eq_false, not_false_eq_true, or_false, false_or, or_true, true_or, and_false, false_and, condIT, text2, d6, w6, m0, b0, b1, allB2, u8b] at _h; first | done | omega)) ?_ | (refine wS ?_ ?_ <;> intro _h <;> simp only [cl_iff, AV.le_refl, AV.le_any, OLe_refl, LeH_cons, LeH_nil, LeL_cons, LeL_nil, and_true, true_and, Bool.and_eq_true, Bool.or_eq_true, decide_eq_true_eq, notT, Bool.cond_true_left, Bool.cond_false_right, Nat.blt_eq, Nat.zero_add, cond_true, cond_false, Int.toNat_natCast, Bool.not_true, Bool.not_false, Bool.false_eq_true, not_true_eq_false, not_false_eq_true, or_false, false_or, or_true, true_or, and_false, false_and, condIT, text2, d6, w6, m0, b0, b1, allB2, u8b] at _h))
      all_goals simp only [or_true, true_or, false_or, or_false, and_false, false_and, cond_true, cond_false, Bool.not_true, Bool.not_false, Bool.false_eq_true, Bool.true_eq_false, not_true_eq_false, not_false_eq_true, false_implies, true_implies, implies_true, Nat.blt_eq, owesN, owesX, owesR, notT, sat_brT, sat_brF, sat_chkT, cl_iff, cl_false, AV.le_refl, AV.le_any, OLe_refl, OLe_none, sat_brN, Tree.sat_chk, Tree.sat_leaf, Tree.sat_fail, Nat.zero_add, Nat.sub_zero, Int.toNat_natCast, LeH_cons, LeH_nil, LeL_cons, LeL_nil, and_true, true_and, Bool.and_eq_true, Bool.or_eq_true, decide_eq_true_eq, decide_eq_false_iff_not, Bool.cond_true_left, Bool.cond_false_right, List.cons_append, List.nil_append, List.map_cons, List.map_nil, text2, d6, w6, m0, b0, b1, allB2, u8b]
      repeat' (first | apply And.intro | intro _hc)
      all_goals first | exact leS rfl | exact AV.le_refl _ | exact AV.le_any _ | exact OLe.refl _ | exact OLe.none _ | exact LeH.refl _ | exact LeL.refl _ | exact AV.le.bs _ | exact AV.le.sb _ | omega | contradiction
    by_cases h3 : c < 65536
    · have b0 : IntKind.wrap IntKind.u8 (IntKind.wrap IntKind.i64 ((224 : Int) + ((c / 4096 : Nat) : Int))) = ((224 + c / 4096 : Nat) : Int) := by rw [wrap64 (by omega) (by omega), wrapU8]; omega
      have b1 : IntKind.wrap IntKind.u8 (IntKind.wrap IntKind.i64 ((128 : Int) + ((c / 64 % 64 : Nat) : Int))) = ((128 + c / 64 % 64 : Nat) : Int) := by rw [wrap64 (by omega) (by omega), wrapU8]; omega
      have b2 : IntKind.wrap IntKind.u8 (IntKind.wrap IntKind.i64 ((128 : Int) + ((c % 64 : Nat) : Int))) = ((128 + c % 64 : Nat) : Int) := by rw [wrap64 (by omega) (by omega), wrapU8]; omega
      rw [if_neg h1, if_neg h2, if_pos h3]
      repeat' (first | refine wC (by first | omega | (simp only [cl_iff, AV.le_refl, AV.le_any, OLe_refl, LeH_cons, LeH_nil, LeL_cons, LeL_nil, and_true, true_and, Bool.and_eq_true, Bool.or_eq_true, decide_eq_true_eq, notT, Bool.cond_true_left, Bool.cond_false_right, Nat.blt_eq, Nat.zero_add, cond_true, cond_false, Int.toNat_natCast, Bool.not_true, Bool.not_false, Bool.false_eq_true, not_true_eq_false, not_false_eq_true, or_false, false_or, or_true, true_or, and_false, false_and, condIT, text3, d6, d12, w6, w12, m0, m6, b0, b1, b2, allB3, u8b]; first | done | omega)) ?_ | refine wT (by first | omega | (simp only [cl_iff, AV.le_refl, AV.le_any, OLe_refl, LeH_cons, LeH_nil, LeL_cons, LeL_nil, and_true, true_and, Bool.and_eq_true, Bool.or_eq_true, decide_eq_true_eq, notT, Bool.cond_true_left, Bool.cond_false_right, Nat.blt_eq, Nat.zero_add, cond_true, cond_false, Int.toNat_natCast, Bool.not_true, Bool.not_false, Bool.false_eq_true, not_true_eq_false, not_false_eq_true, or_false, false_or, or_true, true_or, and_false, false_and, condIT, text3, d6, d12, w6, w12, m0, m6, b0, b1, b2, allB3, u8b]; first | done | omega)) ?_ | refine wF (by intro _h; first | omega | (simp only [cl_iff, AV.le_refl, AV.le_any, OLe_refl, LeH_cons, LeH_nil, LeL_cons, LeL_nil, and_true, true_and, Bool.and_eq_true, Bool.or_eq_true, decide_eq_true_eq, notT, Bool.cond_true_left, Bool.cond_false_right, Nat.blt_eq, Nat.zero_add, cond_true, cond_false, Int.toNat_natCast, Bool.not_true, Bool.not_false, Bool.false_eq_true, not_true_eq_false, not_false_eq_true, or_false, false_or, or_true, true_or, and_false, false_and, condIT, text3, d6, d12, w6, w12, m0, m6, b0, b1, b2, allB3, u8b] at _h; first | done | omega)) ?_ | (refine wS ?_ ?_ <;> intro _h <;> simp only [cl_iff, AV.le_refl, AV.le_any, OLe_refl, LeH_cons, LeH_nil, LeL_cons, LeL_nil, and_true, true_and, Bool.and_eq_true, Bool.or_eq_true, decide_eq_true_eq, notT, Bool.cond_true_left, Bool.cond_false_right, Nat.blt_eq, Nat.zero_add, cond_true, cond_false, Int.toNat_natCast, Bool.not_true, Bool.not_false, Bool.false_eq_true, not_true_eq_false, not_false_eq_true, or_false, false_or, or_true, true_or, and_false, false_and, condIT, text3, d6, d12, w6, w12, m0, m6, b0, b1, b2, allB3, u8b] at _h))
      all_goals simp only [or_true, true_or, false_or, or_false, and_false, false_and, cond_true, cond_false, Bool.not_true, Bool.not_false, Bool.false_eq_true, Bool.true_eq_false, not_true_eq_false, not_false_eq_true, false_implies, true_implies, implies_true, Nat.blt_eq, owesN, owesX, owesR, notT, sat_brT, sat_brF, sat_chkT, cl_iff, cl_false, AV.le_refl, AV.le_any, OLe_refl, OLe_none, sat_brN, Tree.sat_chk, Tree.sat_leaf, Tree.sat_fail, Nat.zero_add, Nat.sub_zero, Int.toNat_natCast, LeH_cons, LeH_nil, LeL_cons, LeL_nil, and_true, true_and, Bool.and_eq_true, Bool.or_eq_true, decide_eq_true_eq, decide_eq_false_iff_not, Bool.cond_true_left, Bool.cond_false_right, List.cons_append, List.nil_append, List.map_cons, List.map_nil, text3, d6, d12, w6, w12, m0, m6, b0, b1, b2, allB3, u8b]
      repeat' (first | apply And.intro | intro _hc)
      all_goals first | exact leS rfl | exact AV.le_refl _ | exact AV.le_any _ | exact OLe.refl _ | exact OLe.none _ | exact LeH.refl _ | exact LeL.refl _ | exact AV.le.bs _ | exact AV.le.sb _ | omega | contradiction
    · have b0 : IntKind.wrap IntKind.u8 (IntKind.wrap IntKind.i64 ((240 : Int) + ((c / 262144 : Nat) : Int))) = ((240 + c / 262144 : Nat) : Int) := by rw [wrap64 (by omega) (by omega), wrapU8]; omega
      have b3 : IntKind.wrap IntKind.u8 (IntKind.wrap IntKind.i64 ((128 : Int) + ((c / 4096 % 64 : Nat) : Int))) = ((128 + c / 4096 % 64 : Nat) : Int) := by rw [wrap64 (by omega) (by omega), wrapU8]; omega
      have b1 : IntKind.wrap IntKind.u8 (IntKind.wrap IntKind.i64 ((128 : Int) + ((c / 64 % 64 : Nat) : Int))) = ((128 + c / 64 % 64 : Nat) : Int) := by rw [wrap64 (by omega) (by omega), wrapU8]; omega
      have b2 : IntKind.wrap IntKind.u8 (IntKind.wrap IntKind.i64 ((128 : Int) + ((c % 64 : Nat) : Int))) = ((128 + c % 64 : Nat) : Int) := by rw [wrap64 (by omega) (by omega), wrapU8]; omega
      rw [if_neg h1, if_neg h2, if_neg h3]
      repeat' (first | refine wC (by first | omega | (simp only [cl_iff, AV.le_refl, AV.le_any, OLe_refl, LeH_cons, LeH_nil, LeL_cons, LeL_nil, and_true, true_and, Bool.and_eq_true, Bool.or_eq_true, decide_eq_true_eq, notT, Bool.cond_true_left, Bool.cond_false_right, Nat.blt_eq, Nat.zero_add, cond_true, cond_false, Int.toNat_natCast, Bool.not_true, Bool.not_false, Bool.false_eq_true, not_true_eq_false, not_false_eq_true, or_false, false_or, or_true, true_or, and_false, false_and, condIT, text4, d6, d12, d18, w6, w12, w18, m0, m6, m12, b0, b1, b2, b3, allB4, u8b]; first | done | omega)) ?_ | refine wT (by first | omega | (simp only [cl_iff, AV.le_refl, AV.le_any, OLe_refl, LeH_cons, LeH_nil, LeL_cons, LeL_nil, and_true, true_and, Bool.and_eq_true, Bool.or_eq_true, decide_eq_true_eq, notT, Bool.cond_true_left, Bool.cond_false_right, Nat.blt_eq, Nat.zero_add, cond_true, cond_false, Int.toNat_natCast, Bool.not_true, Bool.not_false, Bool.false_eq_true, not_true_eq_false, not_false_eq_true, or_false, false_or, or_true, true_or, and_false, false_and, condIT, text4, d6, d12, d18, w6, w12, w18, m0, m6, m12, b0, b1, b2, b3, allB4, u8b]; first | done | omega)) ?_ | refine wF (by intro _h; first | omega | (simp only [cl_iff, AV.le_refl, AV.le_any, OLe_refl, LeH_cons, LeH_nil, LeL_cons, LeL_nil, and_true, true_and, Bool.and_eq_true, Bool.or_eq_true, decide_eq_true_eq, notT, Bool.cond_true_left, Bool.cond_false_right, Nat.blt_eq, Nat.zero_add, cond_true, cond_false, Int.toNat_natCast, Bool.not_true, Bool.not_false, Bool.false_eq_true, not_true_eq_false, not_false_eq_true, or_false, false_or, or_true, true_or, and_false, false_and, condIT, text4, d6, d12, d18, w6, w12, w18, m0, m6, m12, b0, b1, b2, b3, allB4, u8b] at _h; first | done | omega)) ?_ | (refine wS ?_ ?_ <;> intro _h <;> simp only [cl_iff, AV.le_refl, AV.le_any, OLe_refl, LeH_cons, LeH_nil, LeL_cons, LeL_nil, and_true, true_and, Bool.and_eq_true, Bool.or_eq_true, decide_eq_true_eq, notT, Bool.cond_true_left, Bool.cond_false_right, Nat.blt_eq, Nat.zero_add, cond_true, cond_false, Int.toNat_natCast, Bool.not_true, Bool.not_false, Bool.false_eq_true, not_true_eq_false, not_false_eq_true, or_false, false_or, or_true, true_or, and_false, false_and, condIT, text4, d6, d12, d18, w6, w12, w18, m0, m6, m12, b0, b1, b2, b3, allB4, u8b] at _h))
      all_goals simp only [or_true, true_or, false_or, or_false, and_false, false_and, cond_true, cond_false, Bool.not_true, Bool.not_false, Bool.false_eq_true, Bool.true_eq_false, not_true_eq_false, not_false_eq_true, false_implies, true_implies, implies_true, Nat.blt_eq, owesN, owesX, owesR, notT, sat_brT, sat_brF, sat_chkT, cl_iff, cl_false, AV.le_refl, AV.le_any, OLe_refl, OLe_none, sat_brN, Tree.sat_chk, Tree.sat_leaf, Tree.sat_fail, Nat.zero_add, Nat.sub_zero, Int.toNat_natCast, LeH_cons, LeH_nil, LeL_cons, LeL_nil, and_true, true_and, Bool.and_eq_true, Bool.or_eq_true, decide_eq_true_eq, decide_eq_false_iff_not, Bool.cond_true_left, Bool.cond_false_right, List.cons_append, List.nil_append, List.map_cons, List.map_nil, text4, d6, d12, d18, w6, w12, w18, m0, m6, m12, b0, b1, b2, b3, allB4, u8b]
      repeat' (first | apply And.intro | intro _hc)
      all_goals first | exact leS rfl | exact AV.le_refl _ | exact AV.le_any _ | exact OLe.refl _ | exact OLe.none _ | exact LeH.refl _ | exact LeL.refl _ | exact AV.le.bs _ | exact AV.le.sb _ | omega | contradiction
def okZ (n : Int) : Prop := 0 ≤ n ∧ okR n.toNat
def encZ (n : Int) : ByteArray := encR n.toNat
theorem okZ_nat {c : Nat} : okZ (c : Int) ↔ okR c := by
  unfold okZ
  rw [Int.toNat_natCast]
  exact ⟨fun h => h.2, fun h => ⟨by omega, h⟩⟩
theorem encZ_nat {c : Nat} : encZ (c : Int) = encR c := by
  unfold encZ
  rw [Int.toNat_natCast]
noncomputable def kPut : CT Tryd.prog Γm := CT.oI 79 .i64 Tryd.func79 (by kernel_rfl) (by kernel_rfl) okZ (fun n => .v (.string (encZ n))) (fun _ => []) (fun n h => by
  obtain ⟨c, rfl⟩ := Int.eq_ofNat_of_zero_le h.1
  rw [encZ_nat]
  exact ansPut (okZ_nat.1 h))
end Go.Eng.TA
