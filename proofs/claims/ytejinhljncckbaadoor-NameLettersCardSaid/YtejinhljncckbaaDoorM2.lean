/- name: which runes are letters, in the program's words and in the document's. -/
import Derived.Test.YtejinhljncckbaaDoorM1
import Derived.Test.YtejinhljncckbaaDoorEngAC
namespace Go.Eng.Nm
open Go Go.Eng Go.Proofs
set_option linter.unusedSimpArgs false
set_option linter.unusedVariables false
theorem run10 (c : Int) : bodyE (P := Tryd.prog) (Γ := Γm) [S.c25] (autoL false 10 [S.c25] false 0 19 (loopBodies (bodyOf Tryd.f10)) 1) false 19 [.tmp 2] (bodyOf Tryd.f10) [.v (.int .i32 c)] [] =
  Tree.br true
  (Tree.chk true
    (Tree.br
      (bif
          decide
            ((bif true then (97 : Int)
              else
                bif false then (48 : Int)
                else
                  bif false then (95 : Int)
                  else
                    bif false then (45 : Int)
                    else bif false then (223 : Int) else bif false then (945 : Int) else (97 : Int)) ≤
              c) then
        bif
            decide
              (c ≤
                bif true then (122 : Int)
                else
                  bif false then (57 : Int)
                  else
                    bif false then (95 : Int)
                    else
                      bif false then (45 : Int)
                      else bif false then (255 : Int) else bif false then (969 : Int) else (122 : Int)) then
          !decide
              (c =
                bif true then (0 : Int)
                else
                  bif false then (0 : Int)
                  else
                    bif false then (0 : Int)
                    else
                      bif false then (0 : Int)
                      else bif false then (247 : Int) else bif false then (0 : Int) else (0 : Int))
        else false
      else false)
      (Tree.leaf { val := AV.v (Value.bool true), H := [] })
      (Tree.br true
        (Tree.chk true
          (Tree.br
            (bif
                decide
                  ((bif false then (97 : Int)
                    else
                      bif true then (48 : Int)
                      else
                        bif false then (95 : Int)
                        else
                          bif false then (45 : Int)
                          else bif false then (223 : Int) else bif false then (945 : Int) else (97 : Int)) ≤
                    c) then
              bif
                  decide
                    (c ≤
                      bif false then (122 : Int)
                      else
                        bif true then (57 : Int)
                        else
                          bif false then (95 : Int)
                          else
                            bif false then (45 : Int)
                            else bif false then (255 : Int) else bif false then (969 : Int) else (122 : Int)) then
                !decide
                    (c =
                      bif false then (0 : Int)
                      else
                        bif true then (0 : Int)
                        else
                          bif false then (0 : Int)
                          else
                            bif false then (0 : Int)
                            else bif false then (247 : Int) else bif false then (0 : Int) else (0 : Int))
              else false
            else false)
            (Tree.leaf { val := AV.v (Value.bool true), H := [] })
            (Tree.br true
              (Tree.chk true
                (Tree.br
                  (bif
                      decide
                        ((bif false then (97 : Int)
                          else
                            bif false then (48 : Int)
                            else
                              bif true then (95 : Int)
                              else
                                bif false then (45 : Int)
                                else bif false then (223 : Int) else bif false then (945 : Int) else (97 : Int)) ≤
                          c) then
                    bif
                        decide
                          (c ≤
                            bif false then (122 : Int)
                            else
                              bif false then (57 : Int)
                              else
                                bif true then (95 : Int)
                                else
                                  bif false then (45 : Int)
                                  else bif false then (255 : Int) else bif false then (969 : Int) else (122 : Int)) then
                      !decide
                          (c =
                            bif false then (0 : Int)
                            else
                              bif false then (0 : Int)
                              else
                                bif true then (0 : Int)
                                else
                                  bif false then (0 : Int)
                                  else bif false then (247 : Int) else bif false then (0 : Int) else (0 : Int))
                    else false
                  else false)
                  (Tree.leaf { val := AV.v (Value.bool true), H := [] })
                  (Tree.br true
                    (Tree.chk true
                      (Tree.br
                        (bif
                            decide
                              ((bif false then (97 : Int)
                                else
                                  bif false then (48 : Int)
                                  else
                                    bif false then (95 : Int)
                                    else
                                      bif true then (45 : Int)
                                      else bif false then (223 : Int) else bif false then (945 : Int) else (97 : Int)) ≤
                                c) then
                          bif
                              decide
                                (c ≤
                                  bif false then (122 : Int)
                                  else
                                    bif false then (57 : Int)
                                    else
                                      bif false then (95 : Int)
                                      else
                                        bif true then (45 : Int)
                                        else
                                          bif false then (255 : Int)
                                          else bif false then (969 : Int) else (122 : Int)) then
                            !decide
                                (c =
                                  bif false then (0 : Int)
                                  else
                                    bif false then (0 : Int)
                                    else
                                      bif false then (0 : Int)
                                      else
                                        bif true then (0 : Int)
                                        else bif false then (247 : Int) else bif false then (0 : Int) else (0 : Int))
                          else false
                        else false)
                        (Tree.leaf { val := AV.v (Value.bool true), H := [] })
                        (Tree.br true
                          (Tree.chk true
                            (Tree.br
                              (bif
                                  decide
                                    ((bif false then (97 : Int)
                                      else
                                        bif false then (48 : Int)
                                        else
                                          bif false then (95 : Int)
                                          else
                                            bif false then (45 : Int)
                                            else
                                              bif true then (223 : Int)
                                              else bif false then (945 : Int) else (97 : Int)) ≤
                                      c) then
                                bif
                                    decide
                                      (c ≤
                                        bif false then (122 : Int)
                                        else
                                          bif false then (57 : Int)
                                          else
                                            bif false then (95 : Int)
                                            else
                                              bif false then (45 : Int)
                                              else
                                                bif true then (255 : Int)
                                                else bif false then (969 : Int) else (122 : Int)) then
                                  !decide
                                      (c =
                                        bif false then (0 : Int)
                                        else
                                          bif false then (0 : Int)
                                          else
                                            bif false then (0 : Int)
                                            else
                                              bif false then (0 : Int)
                                              else
                                                bif true then (247 : Int) else bif false then (0 : Int) else (0 : Int))
                                else false
                              else false)
                              (Tree.leaf { val := AV.v (Value.bool true), H := [] })
                              (Tree.br true
                                (Tree.chk true
                                  (Tree.br
                                    (bif
                                        decide
                                          ((bif false then (97 : Int)
                                            else
                                              bif false then (48 : Int)
                                              else
                                                bif false then (95 : Int)
                                                else
                                                  bif false then (45 : Int)
                                                  else
                                                    bif false then (223 : Int)
                                                    else bif true then (945 : Int) else (97 : Int)) ≤
                                            c) then
                                      bif
                                          decide
                                            (c ≤
                                              bif false then (122 : Int)
                                              else
                                                bif false then (57 : Int)
                                                else
                                                  bif false then (95 : Int)
                                                  else
                                                    bif false then (45 : Int)
                                                    else
                                                      bif false then (255 : Int)
                                                      else bif true then (969 : Int) else (122 : Int)) then
                                        !decide
                                            (c =
                                              bif false then (0 : Int)
                                              else
                                                bif false then (0 : Int)
                                                else
                                                  bif false then (0 : Int)
                                                  else
                                                    bif false then (0 : Int)
                                                    else
                                                      bif false then (247 : Int)
                                                      else bif true then (0 : Int) else (0 : Int))
                                      else false
                                    else false)
                                    (Tree.leaf { val := AV.v (Value.bool true), H := [] })
                                    (Tree.br false
                                      (Tree.chk false
                                        (Tree.br
                                          (bif
                                              decide
                                                ((bif false then (97 : Int)
                                                  else
                                                    bif false then (48 : Int)
                                                    else
                                                      bif false then (95 : Int)
                                                      else
                                                        bif false then (45 : Int)
                                                        else
                                                          bif false then (223 : Int)
                                                          else bif false then (945 : Int) else (97 : Int)) ≤
                                                  c) then
                                            bif
                                                decide
                                                  (c ≤
                                                    bif false then (122 : Int)
                                                    else
                                                      bif false then (57 : Int)
                                                      else
                                                        bif false then (95 : Int)
                                                        else
                                                          bif false then (45 : Int)
                                                          else
                                                            bif false then (255 : Int)
                                                            else bif false then (969 : Int) else (122 : Int)) then
                                              !decide
                                                  (c =
                                                    bif false then (0 : Int)
                                                    else
                                                      bif false then (0 : Int)
                                                      else
                                                        bif false then (0 : Int)
                                                        else
                                                          bif false then (0 : Int)
                                                          else
                                                            bif false then (247 : Int)
                                                            else bif false then (0 : Int) else (0 : Int))
                                            else false
                                          else false)
                                          (Tree.leaf { val := AV.v (Value.bool true), H := [] })
                                          (Tree.br false
                                            (Tree.chk false
                                              (Tree.br
                                                (bif
                                                    decide
                                                      ((bif false then (97 : Int)
                                                        else
                                                          bif false then (48 : Int)
                                                          else
                                                            bif false then (95 : Int)
                                                            else
                                                              bif false then (45 : Int)
                                                              else
                                                                bif false then (223 : Int)
                                                                else bif false then (945 : Int) else (97 : Int)) ≤
                                                        c) then
                                                  bif
                                                      decide
                                                        (c ≤
                                                          bif false then (122 : Int)
                                                          else
                                                            bif false then (57 : Int)
                                                            else
                                                              bif false then (95 : Int)
                                                              else
                                                                bif false then (45 : Int)
                                                                else
                                                                  bif false then (255 : Int)
                                                                  else bif false then (969 : Int) else (122 : Int)) then
                                                    !decide
                                                        (c =
                                                          bif false then (0 : Int)
                                                          else
                                                            bif false then (0 : Int)
                                                            else
                                                              bif false then (0 : Int)
                                                              else
                                                                bif false then (0 : Int)
                                                                else
                                                                  bif false then (247 : Int)
                                                                  else bif false then (0 : Int) else (0 : Int))
                                                  else false
                                                else false)
                                                (Tree.leaf { val := AV.v (Value.bool true), H := [] })
                                                (Tree.br false
                                                  (Tree.chk false
                                                    (Tree.br
                                                      (bif
                                                          decide
                                                            ((bif false then (97 : Int)
                                                              else
                                                                bif false then (48 : Int)
                                                                else
                                                                  bif false then (95 : Int)
                                                                  else
                                                                    bif false then (45 : Int)
                                                                    else
                                                                      bif false then (223 : Int)
                                                                      else bif false then (945 : Int) else (97 : Int)) ≤
                                                              c) then
                                                        bif
                                                            decide
                                                              (c ≤
                                                                bif false then (122 : Int)
                                                                else
                                                                  bif false then (57 : Int)
                                                                  else
                                                                    bif false then (95 : Int)
                                                                    else
                                                                      bif false then (45 : Int)
                                                                      else
                                                                        bif false then (255 : Int)
                                                                        else
                                                                          bif false then (969 : Int)
                                                                          else (122 : Int)) then
                                                          !decide
                                                              (c =
                                                                bif false then (0 : Int)
                                                                else
                                                                  bif false then (0 : Int)
                                                                  else
                                                                    bif false then (0 : Int)
                                                                    else
                                                                      bif false then (0 : Int)
                                                                      else
                                                                        bif false then (247 : Int)
                                                                        else bif false then (0 : Int) else (0 : Int))
                                                        else false
                                                      else false)
                                                      (Tree.leaf { val := AV.v (Value.bool true), H := [] })
                                                      (Tree.br false
                                                        (Tree.chk false
                                                          (Tree.br
                                                            (bif
                                                                decide
                                                                  ((bif false then (97 : Int)
                                                                    else
                                                                      bif false then (48 : Int)
                                                                      else
                                                                        bif false then (95 : Int)
                                                                        else
                                                                          bif false then (45 : Int)
                                                                          else
                                                                            bif false then (223 : Int)
                                                                            else
                                                                              bif false then (945 : Int)
                                                                              else (97 : Int)) ≤
                                                                    c) then
                                                              bif
                                                                  decide
                                                                    (c ≤
                                                                      bif false then (122 : Int)
                                                                      else
                                                                        bif false then (57 : Int)
                                                                        else
                                                                          bif false then (95 : Int)
                                                                          else
                                                                            bif false then (45 : Int)
                                                                            else
                                                                              bif false then (255 : Int)
                                                                              else
                                                                                bif false then (969 : Int)
                                                                                else (122 : Int)) then
                                                                !decide
                                                                    (c =
                                                                      bif false then (0 : Int)
                                                                      else
                                                                        bif false then (0 : Int)
                                                                        else
                                                                          bif false then (0 : Int)
                                                                          else
                                                                            bif false then (0 : Int)
                                                                            else
                                                                              bif false then (247 : Int)
                                                                              else
                                                                                bif false then (0 : Int) else (0 : Int))
                                                              else false
                                                            else false)
                                                            (Tree.leaf { val := AV.v (Value.bool true), H := [] })
                                                            Tree.fail))
                                                        (Tree.leaf { val := AV.v (Value.bool false), H := [] }))))
                                                  (Tree.leaf { val := AV.v (Value.bool false), H := [] }))))
                                            (Tree.leaf { val := AV.v (Value.bool false), H := [] }))))
                                      (Tree.leaf { val := AV.v (Value.bool false), H := [] }))))
                                (Tree.leaf { val := AV.v (Value.bool false), H := [] }))))
                          (Tree.leaf { val := AV.v (Value.bool false), H := [] }))))
                    (Tree.leaf { val := AV.v (Value.bool false), H := [] }))))
              (Tree.leaf { val := AV.v (Value.bool false), H := [] }))))
        (Tree.leaf { val := AV.v (Value.bool false), H := [] }))))
  (Tree.leaf { val := AV.v (Value.bool false), H := [] }) := by kernel_rfl
theorem run26 (c : Int) : bodyE (P := Tryd.prog) (Γ := Γm) [S.c25] (autoL false 10 [S.c25] false 0 16 (loopBodies (bodyOf Tryd.f26)) 1) false 16 [.tmp 2] (bodyOf Tryd.f26) [.v (.int .i32 c)] [] =
  Tree.br true
  (Tree.chk true
    (Tree.br
      (bif
          decide
            ((bif true then (65 : Int)
              else bif false then (192 : Int) else bif false then (913 : Int) else (65 : Int)) ≤
              c) then
        bif
            decide
              (c ≤
                bif true then (90 : Int)
                else bif false then (222 : Int) else bif false then (937 : Int) else (90 : Int)) then
          !decide
              (c =
                bif true then (0 : Int) else bif false then (215 : Int) else bif false then (930 : Int) else (0 : Int))
        else false
      else false)
      (Tree.leaf { val := AV.v (Value.bool true), H := [] })
      (Tree.br true
        (Tree.chk true
          (Tree.br
            (bif
                decide
                  ((bif false then (65 : Int)
                    else bif true then (192 : Int) else bif false then (913 : Int) else (65 : Int)) ≤
                    c) then
              bif
                  decide
                    (c ≤
                      bif false then (90 : Int)
                      else bif true then (222 : Int) else bif false then (937 : Int) else (90 : Int)) then
                !decide
                    (c =
                      bif false then (0 : Int)
                      else bif true then (215 : Int) else bif false then (930 : Int) else (0 : Int))
              else false
            else false)
            (Tree.leaf { val := AV.v (Value.bool true), H := [] })
            (Tree.br true
              (Tree.chk true
                (Tree.br
                  (bif
                      decide
                        ((bif false then (65 : Int)
                          else bif false then (192 : Int) else bif true then (913 : Int) else (65 : Int)) ≤
                          c) then
                    bif
                        decide
                          (c ≤
                            bif false then (90 : Int)
                            else bif false then (222 : Int) else bif true then (937 : Int) else (90 : Int)) then
                      !decide
                          (c =
                            bif false then (0 : Int)
                            else bif false then (215 : Int) else bif true then (930 : Int) else (0 : Int))
                    else false
                  else false)
                  (Tree.leaf { val := AV.v (Value.bool true), H := [] })
                  (Tree.br false
                    (Tree.chk false
                      (Tree.br
                        (bif
                            decide
                              ((bif false then (65 : Int)
                                else bif false then (192 : Int) else bif false then (913 : Int) else (65 : Int)) ≤
                                c) then
                          bif
                              decide
                                (c ≤
                                  bif false then (90 : Int)
                                  else bif false then (222 : Int) else bif false then (937 : Int) else (90 : Int)) then
                            !decide
                                (c =
                                  bif false then (0 : Int)
                                  else bif false then (215 : Int) else bif false then (930 : Int) else (0 : Int))
                          else false
                        else false)
                        (Tree.leaf { val := AV.v (Value.bool true), H := [] })
                        (Tree.br false
                          (Tree.chk false
                            (Tree.br
                              (bif
                                  decide
                                    ((bif false then (65 : Int)
                                      else bif false then (192 : Int) else bif false then (913 : Int) else (65 : Int)) ≤
                                      c) then
                                bif
                                    decide
                                      (c ≤
                                        bif false then (90 : Int)
                                        else
                                          bif false then (222 : Int)
                                          else bif false then (937 : Int) else (90 : Int)) then
                                  !decide
                                      (c =
                                        bif false then (0 : Int)
                                        else bif false then (215 : Int) else bif false then (930 : Int) else (0 : Int))
                                else false
                              else false)
                              (Tree.leaf { val := AV.v (Value.bool true), H := [] })
                              (Tree.br false
                                (Tree.chk false
                                  (Tree.br
                                    (bif
                                        decide
                                          ((bif false then (65 : Int)
                                            else
                                              bif false then (192 : Int)
                                              else bif false then (913 : Int) else (65 : Int)) ≤
                                            c) then
                                      bif
                                          decide
                                            (c ≤
                                              bif false then (90 : Int)
                                              else
                                                bif false then (222 : Int)
                                                else bif false then (937 : Int) else (90 : Int)) then
                                        !decide
                                            (c =
                                              bif false then (0 : Int)
                                              else
                                                bif false then (215 : Int)
                                                else bif false then (930 : Int) else (0 : Int))
                                      else false
                                    else false)
                                    (Tree.leaf { val := AV.v (Value.bool true), H := [] })
                                    (Tree.br false
                                      (Tree.chk false
                                        (Tree.br
                                          (bif
                                              decide
                                                ((bif false then (65 : Int)
                                                  else
                                                    bif false then (192 : Int)
                                                    else bif false then (913 : Int) else (65 : Int)) ≤
                                                  c) then
                                            bif
                                                decide
                                                  (c ≤
                                                    bif false then (90 : Int)
                                                    else
                                                      bif false then (222 : Int)
                                                      else bif false then (937 : Int) else (90 : Int)) then
                                              !decide
                                                  (c =
                                                    bif false then (0 : Int)
                                                    else
                                                      bif false then (215 : Int)
                                                      else bif false then (930 : Int) else (0 : Int))
                                            else false
                                          else false)
                                          (Tree.leaf { val := AV.v (Value.bool true), H := [] })
                                          (Tree.br false
                                            (Tree.chk false
                                              (Tree.br
                                                (bif
                                                    decide
                                                      ((bif false then (65 : Int)
                                                        else
                                                          bif false then (192 : Int)
                                                          else bif false then (913 : Int) else (65 : Int)) ≤
                                                        c) then
                                                  bif
                                                      decide
                                                        (c ≤
                                                          bif false then (90 : Int)
                                                          else
                                                            bif false then (222 : Int)
                                                            else bif false then (937 : Int) else (90 : Int)) then
                                                    !decide
                                                        (c =
                                                          bif false then (0 : Int)
                                                          else
                                                            bif false then (215 : Int)
                                                            else bif false then (930 : Int) else (0 : Int))
                                                  else false
                                                else false)
                                                (Tree.leaf { val := AV.v (Value.bool true), H := [] })
                                                (Tree.br false
                                                  (Tree.chk false
                                                    (Tree.br
                                                      (bif
                                                          decide
                                                            ((bif false then (65 : Int)
                                                              else
                                                                bif false then (192 : Int)
                                                                else bif false then (913 : Int) else (65 : Int)) ≤
                                                              c) then
                                                        bif
                                                            decide
                                                              (c ≤
                                                                bif false then (90 : Int)
                                                                else
                                                                  bif false then (222 : Int)
                                                                  else bif false then (937 : Int) else (90 : Int)) then
                                                          !decide
                                                              (c =
                                                                bif false then (0 : Int)
                                                                else
                                                                  bif false then (215 : Int)
                                                                  else bif false then (930 : Int) else (0 : Int))
                                                        else false
                                                      else false)
                                                      (Tree.leaf { val := AV.v (Value.bool true), H := [] })
                                                      (Tree.br false
                                                        (Tree.chk false
                                                          (Tree.br
                                                            (bif
                                                                decide
                                                                  ((bif false then (65 : Int)
                                                                    else
                                                                      bif false then (192 : Int)
                                                                      else bif false then (913 : Int) else (65 : Int)) ≤
                                                                    c) then
                                                              bif
                                                                  decide
                                                                    (c ≤
                                                                      bif false then (90 : Int)
                                                                      else
                                                                        bif false then (222 : Int)
                                                                        else
                                                                          bif false then (937 : Int)
                                                                          else (90 : Int)) then
                                                                !decide
                                                                    (c =
                                                                      bif false then (0 : Int)
                                                                      else
                                                                        bif false then (215 : Int)
                                                                        else bif false then (930 : Int) else (0 : Int))
                                                              else false
                                                            else false)
                                                            (Tree.leaf { val := AV.v (Value.bool true), H := [] })
                                                            Tree.fail))
                                                        (Tree.leaf { val := AV.v (Value.bool false), H := [] }))))
                                                  (Tree.leaf { val := AV.v (Value.bool false), H := [] }))))
                                            (Tree.leaf { val := AV.v (Value.bool false), H := [] }))))
                                      (Tree.leaf { val := AV.v (Value.bool false), H := [] }))))
                                (Tree.leaf { val := AV.v (Value.bool false), H := [] }))))
                          (Tree.leaf { val := AV.v (Value.bool false), H := [] }))))
                    (Tree.leaf { val := AV.v (Value.bool false), H := [] }))))
              (Tree.leaf { val := AV.v (Value.bool false), H := [] }))))
        (Tree.leaf { val := AV.v (Value.bool false), H := [] }))))
  (Tree.leaf { val := AV.v (Value.bool false), H := [] }) := by kernel_rfl
theorem run9 (c : Int) : bodyE (P := Tryd.prog) (Γ := Γm) [] Lno false 33 [.tmp 2] (bodyOf Tryd.f9) [.v (.int .i64 c)] [] =
  Tree.leaf
  {
    val :=
      AV.sb
        (bif decide ((65 : Int) ≤ c) then
          bif decide (c ≤ (90 : Int)) then true
          else
            bif decide ((192 : Int) ≤ c) then
              bif decide (c ≤ (222 : Int)) then
                bif !decide (c = (215 : Int)) then true
                else
                  bif decide ((913 : Int) ≤ c) then
                    bif decide (c ≤ (937 : Int)) then !decide (c = (930 : Int)) else false
                  else false
              else
                bif decide ((913 : Int) ≤ c) then bif decide (c ≤ (937 : Int)) then !decide (c = (930 : Int)) else false
                else false
            else
              bif decide ((913 : Int) ≤ c) then bif decide (c ≤ (937 : Int)) then !decide (c = (930 : Int)) else false
              else false
        else
          bif decide ((192 : Int) ≤ c) then
            bif decide (c ≤ (222 : Int)) then
              bif !decide (c = (215 : Int)) then true
              else
                bif decide ((913 : Int) ≤ c) then bif decide (c ≤ (937 : Int)) then !decide (c = (930 : Int)) else false
                else false
            else
              bif decide ((913 : Int) ≤ c) then bif decide (c ≤ (937 : Int)) then !decide (c = (930 : Int)) else false
              else false
          else
            bif decide ((913 : Int) ≤ c) then bif decide (c ≤ (937 : Int)) then !decide (c = (930 : Int)) else false
            else false),
    H := [] } := by kernel_rfl
theorem run11 (c : Int) : bodyE (P := Tryd.prog) (Γ := Γm) [] Lno false 45 [.tmp 2] (bodyOf Tryd.f11) [.v (.int .i64 c)] [] =
  Tree.leaf
  {
    val :=
      AV.sb
        (bif decide ((97 : Int) ≤ c) then
          bif decide (c ≤ (122 : Int)) then true
          else
            bif decide ((48 : Int) ≤ c) then
              bif decide (c ≤ (57 : Int)) then true
              else
                bif decide (c = (95 : Int)) then true
                else
                  bif decide (c = (45 : Int)) then true
                  else
                    bif decide ((223 : Int) ≤ c) then
                      bif decide (c ≤ (255 : Int)) then
                        bif !decide (c = (247 : Int)) then true
                        else bif decide ((945 : Int) ≤ c) then decide (c ≤ (969 : Int)) else false
                      else bif decide ((945 : Int) ≤ c) then decide (c ≤ (969 : Int)) else false
                    else bif decide ((945 : Int) ≤ c) then decide (c ≤ (969 : Int)) else false
            else
              bif decide (c = (95 : Int)) then true
              else
                bif decide (c = (45 : Int)) then true
                else
                  bif decide ((223 : Int) ≤ c) then
                    bif decide (c ≤ (255 : Int)) then
                      bif !decide (c = (247 : Int)) then true
                      else bif decide ((945 : Int) ≤ c) then decide (c ≤ (969 : Int)) else false
                    else bif decide ((945 : Int) ≤ c) then decide (c ≤ (969 : Int)) else false
                  else bif decide ((945 : Int) ≤ c) then decide (c ≤ (969 : Int)) else false
        else
          bif decide ((48 : Int) ≤ c) then
            bif decide (c ≤ (57 : Int)) then true
            else
              bif decide (c = (95 : Int)) then true
              else
                bif decide (c = (45 : Int)) then true
                else
                  bif decide ((223 : Int) ≤ c) then
                    bif decide (c ≤ (255 : Int)) then
                      bif !decide (c = (247 : Int)) then true
                      else bif decide ((945 : Int) ≤ c) then decide (c ≤ (969 : Int)) else false
                    else bif decide ((945 : Int) ≤ c) then decide (c ≤ (969 : Int)) else false
                  else bif decide ((945 : Int) ≤ c) then decide (c ≤ (969 : Int)) else false
          else
            bif decide (c = (95 : Int)) then true
            else
              bif decide (c = (45 : Int)) then true
              else
                bif decide ((223 : Int) ≤ c) then
                  bif decide (c ≤ (255 : Int)) then
                    bif !decide (c = (247 : Int)) then true
                    else bif decide ((945 : Int) ≤ c) then decide (c ≤ (969 : Int)) else false
                  else bif decide ((945 : Int) ≤ c) then decide (c ≤ (969 : Int)) else false
                else bif decide ((945 : Int) ≤ c) then decide (c ≤ (969 : Int)) else false),
    H := [] } := by kernel_rfl

theorem le_bs {a b : Bool} : AV.le (.v (.bool a)) (.sb b) ↔ b = a := ⟨fun h => by cases h; rfl, fun h => by subst h; exact .bs _⟩
theorem le_sbsb {a b : Bool} : AV.le (.sb a) (.sb b) ↔ a = b := ⟨fun h => by cases h; rfl, fun h => by subst h; exact .refl _⟩
def letterB (c : Int) : Bool := decide ((97 ≤ c ∧ c ≤ 122) ∨ (48 ≤ c ∧ c ≤ 57) ∨ c = 95 ∨ c = 45 ∨ (223 ≤ c ∧ c ≤ 255 ∧ c ≠ 247) ∨ (945 ≤ c ∧ c ≤ 969))
def greatB (c : Int) : Bool := decide ((65 ≤ c ∧ c ≤ 90) ∨ (192 ≤ c ∧ c ≤ 222 ∧ c ≠ 215) ∨ (913 ≤ c ∧ c ≤ 937 ∧ c ≠ 930))
theorem cond_if {p q : Prop} [Decidable p] [Decidable q] : (bif decide p then decide q else false) = decide (p ∧ q) := by
  by_cases hp : p <;> simp [hp]
theorem law10 (c : Int) : Gives (bodyE (P := Tryd.prog) (Γ := Γm) [S.c25] (autoL false 10 [S.c25] false 0 19 (loopBodies (bodyOf Tryd.f10)) 1) false 19 [.tmp 2] (bodyOf Tryd.f10) [.v (.int .i32 c)] []) (.sb (letterB c)) := ⟨by
  rw [run10]
  simp [le_bs, letterB]
  omega⟩
theorem law26 (c : Int) : Gives (bodyE (P := Tryd.prog) (Γ := Γm) [S.c25] (autoL false 10 [S.c25] false 0 16 (loopBodies (bodyOf Tryd.f26)) 1) false 16 [.tmp 2] (bodyOf Tryd.f26) [.v (.int .i32 c)] []) (.sb (greatB c)) := ⟨by
  rw [run26]
  simp [le_bs, greatB]
  omega⟩
theorem law9 (c : Int) : Gives (bodyE (P := Tryd.prog) (Γ := Γm) [] Lno false 33 [.tmp 2] (bodyOf Tryd.f9) [.v (.int .i64 c)] []) (.sb (greatB c)) := ⟨by
  rw [run9]
  simp only [Tree.sat_leaf, le_sbsb, greatB, Bool.cond_decide, LeH_nil, and_true]
  repeat' split
  all_goals first | (symm; rw [decide_eq_true_eq]; omega) | (symm; rw [decide_eq_false_iff_not]; omega) | (rw [Bool.eq_iff_iff]; simp; omega)⟩
theorem law11 (c : Int) : Gives (bodyE (P := Tryd.prog) (Γ := Γm) [] Lno false 45 [.tmp 2] (bodyOf Tryd.f11) [.v (.int .i64 c)] []) (.sb (letterB c)) := ⟨by
  rw [run11]
  simp only [Tree.sat_leaf, le_sbsb, letterB, Bool.cond_decide, LeH_nil, and_true]
  repeat' split
  all_goals first | (symm; rw [decide_eq_true_eq]; omega) | (symm; rw [decide_eq_false_iff_not]; omega) | (rw [Bool.eq_iff_iff]; simp; omega)⟩
end Go.Eng.Nm
