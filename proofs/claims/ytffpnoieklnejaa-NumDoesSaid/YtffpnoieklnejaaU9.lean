/- num: differences and products: the program's and the document's answer. -/
import Derived.Test.YtffpnoieklnejaaU8
namespace Go.Eng.U
open Go Go.Eng Go.Proofs Go.Eng.M
set_option linter.unusedSimpArgs false
set_option linter.unusedVariables false
theorem run17 (a b : Int) : bodyE (P := Try.prog) (Γ := Γu) [d23, d24, c15'] Lno false 19 [.tmp 4, .tmp 5] (bodyOf Try.f17) [.v (.int .i64 a), .v (.int .i64 b)] [] =
  Tree.br true
  (Tree.chk true
    (Tree.br
      (!bif decide ((-4611686018427387904 : Int) ≤ bif true then b else (0 : Int)) then
          decide ((bif true then b else (0 : Int)) ≤ (4611686018427387904 : Int))
        else false)
      (Tree.leaf
        { val := AV.tup [AV.v (Value.int IntKind.i64 (0 : Int)), AV.v (Value.int IntKind.i64 (10 : Int))], H := [] })
      (Tree.br false
        (Tree.chk false
          (Tree.br
            (!bif decide ((-4611686018427387904 : Int) ≤ bif false then b else (0 : Int)) then
                decide ((bif false then b else (0 : Int)) ≤ (4611686018427387904 : Int))
              else false)
            (Tree.leaf
              { val := AV.tup [AV.v (Value.int IntKind.i64 (0 : Int)), AV.v (Value.int IntKind.i64 (10 : Int))],
                H := [] })
            (Tree.br false
              (Tree.chk false
                (Tree.br
                  (!bif decide ((-4611686018427387904 : Int) ≤ bif false then b else (0 : Int)) then
                      decide ((bif false then b else (0 : Int)) ≤ (4611686018427387904 : Int))
                    else false)
                  (Tree.leaf
                    { val := AV.tup [AV.v (Value.int IntKind.i64 (0 : Int)), AV.v (Value.int IntKind.i64 (10 : Int))],
                      H := [] })
                  Tree.fail))
              (Tree.chk (true && true)
                (Tree.leaf
                  {
                    val :=
                      AV.tup
                        [AV.v (Value.int IntKind.i64 (addF a (IntKind.i64.wrap ((0 : Int) - b)))),
                          AV.v (Value.int IntKind.i64 (addE a (IntKind.i64.wrap ((0 : Int) - b))))],
                    H := [] })))))
        (Tree.chk (true && true)
          (Tree.leaf
            {
              val :=
                AV.tup
                  [AV.v (Value.int IntKind.i64 (addF a (IntKind.i64.wrap ((0 : Int) - b)))),
                    AV.v (Value.int IntKind.i64 (addE a (IntKind.i64.wrap ((0 : Int) - b))))],
              H := [] })))))
  (Tree.chk (true && true)
    (Tree.leaf
      {
        val :=
          AV.tup
            [AV.v (Value.int IntKind.i64 (addF a (IntKind.i64.wrap ((0 : Int) - b)))),
              AV.v (Value.int IntKind.i64 (addE a (IntKind.i64.wrap ((0 : Int) - b))))],
        H := [] })) := by kernel_rfl
theorem run18 (a b : Int) : bodyE (P := Try.prog) (Γ := Γu) [S.c25] Lno false 37 [.tmp 4, .tmp 5] (bodyOf Try.f18) [.v (.int .i64 a), .v (.int .i64 b)] [] =
  Tree.br
  (bif !bif decide ((-4611686018427387904 : Int) ≤ a) then decide (a ≤ (4611686018427387904 : Int)) else false then true
  else
    bif !bif decide ((-4611686018427387904 : Int) ≤ b) then decide (b ≤ (4611686018427387904 : Int)) else false then
      true
    else
      bif decide (b < (0 : Int)) then
        bif decide (IntKind.i64.wrap ((4611686018427387904 : Int) + b) < a) then true
        else bif decide ((0 : Int) < b) then decide (a < IntKind.i64.wrap (b - (4611686018427387904 : Int))) else false
      else bif decide ((0 : Int) < b) then decide (a < IntKind.i64.wrap (b - (4611686018427387904 : Int))) else false)
  (Tree.leaf
    { val := AV.tup [AV.v (Value.int IntKind.i64 (0 : Int)), AV.v (Value.int IntKind.i64 (10 : Int))], H := [] })
  (Tree.leaf
    { val := AV.tup [AV.v (Value.int IntKind.i64 (IntKind.i64.wrap (a - b))), AV.v (Value.int IntKind.i64 (0 : Int))],
      H := [] }) := by kernel_rfl
theorem run19 (a b : Int) : bodyE (P := Try.prog) (Γ := Γu) [d23, d24, d26] Lno false 34 [.tmp 4, .tmp 5] (bodyOf Try.f19) [.v (.int .i64 a), .v (.int .i64 b)] [] =
  Tree.br true
  (Tree.chk true
    (Tree.br
      (!bif decide ((-4611686018427387904 : Int) ≤ bif true then a else bif false then b else (0 : Int)) then
          decide ((bif true then a else bif false then b else (0 : Int)) ≤ (4611686018427387904 : Int))
        else false)
      (Tree.leaf
        { val := AV.tup [AV.v (Value.int IntKind.i64 (0 : Int)), AV.v (Value.int IntKind.i64 (10 : Int))], H := [] })
      (Tree.br true
        (Tree.chk true
          (Tree.br
            (!bif decide ((-4611686018427387904 : Int) ≤ bif false then a else bif true then b else (0 : Int)) then
                decide ((bif false then a else bif true then b else (0 : Int)) ≤ (4611686018427387904 : Int))
              else false)
            (Tree.leaf
              { val := AV.tup [AV.v (Value.int IntKind.i64 (0 : Int)), AV.v (Value.int IntKind.i64 (10 : Int))],
                H := [] })
            (Tree.br false
              (Tree.chk false
                (Tree.br
                  (!bif
                        decide
                          ((-4611686018427387904 : Int) ≤ bif false then a else bif false then b else (0 : Int)) then
                      decide ((bif false then a else bif false then b else (0 : Int)) ≤ (4611686018427387904 : Int))
                    else false)
                  (Tree.leaf
                    { val := AV.tup [AV.v (Value.int IntKind.i64 (0 : Int)), AV.v (Value.int IntKind.i64 (10 : Int))],
                      H := [] })
                  Tree.fail))
              (Tree.br (bif decide (a = (0 : Int)) then true else decide (b = (0 : Int)))
                (Tree.leaf
                  { val := AV.tup [AV.v (Value.int IntKind.i64 (0 : Int)), AV.v (Value.int IntKind.i64 (0 : Int))],
                    H := [] })
                (Tree.chk
                  (bif decide (b < (0 : Int)) then !decide (IntKind.i64.wrap ((0 : Int) - b) = (0 : Int))
                  else !decide (b = (0 : Int)))
                  (Tree.br (decide (a < (0 : Int)))
                    (Tree.br
                      (!decide
                          (IntKind.i64.wrap ((0 : Int) - a) ≤
                            bif decide (b < (0 : Int)) then
                              IntKind.i64.wrap (Int.tdiv (4611686018427387904 : Int) (IntKind.i64.wrap ((0 : Int) - b)))
                            else IntKind.i64.wrap (Int.tdiv (4611686018427387904 : Int) b)))
                      (Tree.leaf
                        {
                          val :=
                            AV.tup [AV.v (Value.int IntKind.i64 (0 : Int)), AV.v (Value.int IntKind.i64 (10 : Int))],
                          H := [] })
                      (Tree.br true
                        (Tree.chk true
                          (Tree.br
                            (!bif
                                  decide
                                    ((-4611686018427387904 : Int) ≤
                                      bif true then IntKind.i64.wrap (a * b) else (0 : Int)) then
                                decide
                                  ((bif true then IntKind.i64.wrap (a * b) else (0 : Int)) ≤
                                    (4611686018427387904 : Int))
                              else false)
                            (Tree.leaf
                              {
                                val :=
                                  AV.tup
                                    [AV.v (Value.int IntKind.i64 (0 : Int)), AV.v (Value.int IntKind.i64 (10 : Int))],
                                H := [] })
                            (Tree.br false
                              (Tree.chk false
                                (Tree.br
                                  (!bif
                                        decide
                                          ((-4611686018427387904 : Int) ≤
                                            bif false then IntKind.i64.wrap (a * b) else (0 : Int)) then
                                      decide
                                        ((bif false then IntKind.i64.wrap (a * b) else (0 : Int)) ≤
                                          (4611686018427387904 : Int))
                                    else false)
                                  (Tree.leaf
                                    {
                                      val :=
                                        AV.tup
                                          [AV.v (Value.int IntKind.i64 (0 : Int)),
                                            AV.v (Value.int IntKind.i64 (10 : Int))],
                                      H := [] })
                                  (Tree.br false
                                    (Tree.chk false
                                      (Tree.br
                                        (!bif
                                              decide
                                                ((-4611686018427387904 : Int) ≤
                                                  bif false then IntKind.i64.wrap (a * b) else (0 : Int)) then
                                            decide
                                              ((bif false then IntKind.i64.wrap (a * b) else (0 : Int)) ≤
                                                (4611686018427387904 : Int))
                                          else false)
                                        (Tree.leaf
                                          {
                                            val :=
                                              AV.tup
                                                [AV.v (Value.int IntKind.i64 (0 : Int)),
                                                  AV.v (Value.int IntKind.i64 (10 : Int))],
                                            H := [] })
                                        Tree.fail))
                                    (Tree.leaf
                                      {
                                        val :=
                                          AV.tup
                                            [AV.v (Value.int IntKind.i64 (IntKind.i64.wrap (a * b))),
                                              AV.v (Value.int IntKind.i64 (0 : Int))],
                                        H := [] }))))
                              (Tree.leaf
                                {
                                  val :=
                                    AV.tup
                                      [AV.v (Value.int IntKind.i64 (IntKind.i64.wrap (a * b))),
                                        AV.v (Value.int IntKind.i64 (0 : Int))],
                                  H := [] }))))
                        (Tree.leaf
                          {
                            val :=
                              AV.tup
                                [AV.v (Value.int IntKind.i64 (IntKind.i64.wrap (a * b))),
                                  AV.v (Value.int IntKind.i64 (0 : Int))],
                            H := [] })))
                    (Tree.br
                      (!decide
                          (a ≤
                            bif decide (b < (0 : Int)) then
                              IntKind.i64.wrap (Int.tdiv (4611686018427387904 : Int) (IntKind.i64.wrap ((0 : Int) - b)))
                            else IntKind.i64.wrap (Int.tdiv (4611686018427387904 : Int) b)))
                      (Tree.leaf
                        {
                          val :=
                            AV.tup [AV.v (Value.int IntKind.i64 (0 : Int)), AV.v (Value.int IntKind.i64 (10 : Int))],
                          H := [] })
                      (Tree.br true
                        (Tree.chk true
                          (Tree.br
                            (!bif
                                  decide
                                    ((-4611686018427387904 : Int) ≤
                                      bif true then IntKind.i64.wrap (a * b) else (0 : Int)) then
                                decide
                                  ((bif true then IntKind.i64.wrap (a * b) else (0 : Int)) ≤
                                    (4611686018427387904 : Int))
                              else false)
                            (Tree.leaf
                              {
                                val :=
                                  AV.tup
                                    [AV.v (Value.int IntKind.i64 (0 : Int)), AV.v (Value.int IntKind.i64 (10 : Int))],
                                H := [] })
                            (Tree.br false
                              (Tree.chk false
                                (Tree.br
                                  (!bif
                                        decide
                                          ((-4611686018427387904 : Int) ≤
                                            bif false then IntKind.i64.wrap (a * b) else (0 : Int)) then
                                      decide
                                        ((bif false then IntKind.i64.wrap (a * b) else (0 : Int)) ≤
                                          (4611686018427387904 : Int))
                                    else false)
                                  (Tree.leaf
                                    {
                                      val :=
                                        AV.tup
                                          [AV.v (Value.int IntKind.i64 (0 : Int)),
                                            AV.v (Value.int IntKind.i64 (10 : Int))],
                                      H := [] })
                                  (Tree.br false
                                    (Tree.chk false
                                      (Tree.br
                                        (!bif
                                              decide
                                                ((-4611686018427387904 : Int) ≤
                                                  bif false then IntKind.i64.wrap (a * b) else (0 : Int)) then
                                            decide
                                              ((bif false then IntKind.i64.wrap (a * b) else (0 : Int)) ≤
                                                (4611686018427387904 : Int))
                                          else false)
                                        (Tree.leaf
                                          {
                                            val :=
                                              AV.tup
                                                [AV.v (Value.int IntKind.i64 (0 : Int)),
                                                  AV.v (Value.int IntKind.i64 (10 : Int))],
                                            H := [] })
                                        Tree.fail))
                                    (Tree.leaf
                                      {
                                        val :=
                                          AV.tup
                                            [AV.v (Value.int IntKind.i64 (IntKind.i64.wrap (a * b))),
                                              AV.v (Value.int IntKind.i64 (0 : Int))],
                                        H := [] }))))
                              (Tree.leaf
                                {
                                  val :=
                                    AV.tup
                                      [AV.v (Value.int IntKind.i64 (IntKind.i64.wrap (a * b))),
                                        AV.v (Value.int IntKind.i64 (0 : Int))],
                                  H := [] }))))
                        (Tree.leaf
                          {
                            val :=
                              AV.tup
                                [AV.v (Value.int IntKind.i64 (IntKind.i64.wrap (a * b))),
                                  AV.v (Value.int IntKind.i64 (0 : Int))],
                            H := [] })))))))))
        (Tree.br (bif decide (a = (0 : Int)) then true else decide (b = (0 : Int)))
          (Tree.leaf
            { val := AV.tup [AV.v (Value.int IntKind.i64 (0 : Int)), AV.v (Value.int IntKind.i64 (0 : Int))], H := [] })
          (Tree.chk
            (bif decide (b < (0 : Int)) then !decide (IntKind.i64.wrap ((0 : Int) - b) = (0 : Int))
            else !decide (b = (0 : Int)))
            (Tree.br (decide (a < (0 : Int)))
              (Tree.br
                (!decide
                    (IntKind.i64.wrap ((0 : Int) - a) ≤
                      bif decide (b < (0 : Int)) then
                        IntKind.i64.wrap (Int.tdiv (4611686018427387904 : Int) (IntKind.i64.wrap ((0 : Int) - b)))
                      else IntKind.i64.wrap (Int.tdiv (4611686018427387904 : Int) b)))
                (Tree.leaf
                  { val := AV.tup [AV.v (Value.int IntKind.i64 (0 : Int)), AV.v (Value.int IntKind.i64 (10 : Int))],
                    H := [] })
                (Tree.br true
                  (Tree.chk true
                    (Tree.br
                      (!bif
                            decide
                              ((-4611686018427387904 : Int) ≤
                                bif true then IntKind.i64.wrap (a * b) else (0 : Int)) then
                          decide ((bif true then IntKind.i64.wrap (a * b) else (0 : Int)) ≤ (4611686018427387904 : Int))
                        else false)
                      (Tree.leaf
                        {
                          val :=
                            AV.tup [AV.v (Value.int IntKind.i64 (0 : Int)), AV.v (Value.int IntKind.i64 (10 : Int))],
                          H := [] })
                      (Tree.br false
                        (Tree.chk false
                          (Tree.br
                            (!bif
                                  decide
                                    ((-4611686018427387904 : Int) ≤
                                      bif false then IntKind.i64.wrap (a * b) else (0 : Int)) then
                                decide
                                  ((bif false then IntKind.i64.wrap (a * b) else (0 : Int)) ≤
                                    (4611686018427387904 : Int))
                              else false)
                            (Tree.leaf
                              {
                                val :=
                                  AV.tup
                                    [AV.v (Value.int IntKind.i64 (0 : Int)), AV.v (Value.int IntKind.i64 (10 : Int))],
                                H := [] })
                            (Tree.br false
                              (Tree.chk false
                                (Tree.br
                                  (!bif
                                        decide
                                          ((-4611686018427387904 : Int) ≤
                                            bif false then IntKind.i64.wrap (a * b) else (0 : Int)) then
                                      decide
                                        ((bif false then IntKind.i64.wrap (a * b) else (0 : Int)) ≤
                                          (4611686018427387904 : Int))
                                    else false)
                                  (Tree.leaf
                                    {
                                      val :=
                                        AV.tup
                                          [AV.v (Value.int IntKind.i64 (0 : Int)),
                                            AV.v (Value.int IntKind.i64 (10 : Int))],
                                      H := [] })
                                  Tree.fail))
                              (Tree.leaf
                                {
                                  val :=
                                    AV.tup
                                      [AV.v (Value.int IntKind.i64 (IntKind.i64.wrap (a * b))),
                                        AV.v (Value.int IntKind.i64 (0 : Int))],
                                  H := [] }))))
                        (Tree.leaf
                          {
                            val :=
                              AV.tup
                                [AV.v (Value.int IntKind.i64 (IntKind.i64.wrap (a * b))),
                                  AV.v (Value.int IntKind.i64 (0 : Int))],
                            H := [] }))))
                  (Tree.leaf
                    {
                      val :=
                        AV.tup
                          [AV.v (Value.int IntKind.i64 (IntKind.i64.wrap (a * b))),
                            AV.v (Value.int IntKind.i64 (0 : Int))],
                      H := [] })))
              (Tree.br
                (!decide
                    (a ≤
                      bif decide (b < (0 : Int)) then
                        IntKind.i64.wrap (Int.tdiv (4611686018427387904 : Int) (IntKind.i64.wrap ((0 : Int) - b)))
                      else IntKind.i64.wrap (Int.tdiv (4611686018427387904 : Int) b)))
                (Tree.leaf
                  { val := AV.tup [AV.v (Value.int IntKind.i64 (0 : Int)), AV.v (Value.int IntKind.i64 (10 : Int))],
                    H := [] })
                (Tree.br true
                  (Tree.chk true
                    (Tree.br
                      (!bif
                            decide
                              ((-4611686018427387904 : Int) ≤
                                bif true then IntKind.i64.wrap (a * b) else (0 : Int)) then
                          decide ((bif true then IntKind.i64.wrap (a * b) else (0 : Int)) ≤ (4611686018427387904 : Int))
                        else false)
                      (Tree.leaf
                        {
                          val :=
                            AV.tup [AV.v (Value.int IntKind.i64 (0 : Int)), AV.v (Value.int IntKind.i64 (10 : Int))],
                          H := [] })
                      (Tree.br false
                        (Tree.chk false
                          (Tree.br
                            (!bif
                                  decide
                                    ((-4611686018427387904 : Int) ≤
                                      bif false then IntKind.i64.wrap (a * b) else (0 : Int)) then
                                decide
                                  ((bif false then IntKind.i64.wrap (a * b) else (0 : Int)) ≤
                                    (4611686018427387904 : Int))
                              else false)
                            (Tree.leaf
                              {
                                val :=
                                  AV.tup
                                    [AV.v (Value.int IntKind.i64 (0 : Int)), AV.v (Value.int IntKind.i64 (10 : Int))],
                                H := [] })
                            (Tree.br false
                              (Tree.chk false
                                (Tree.br
                                  (!bif
                                        decide
                                          ((-4611686018427387904 : Int) ≤
                                            bif false then IntKind.i64.wrap (a * b) else (0 : Int)) then
                                      decide
                                        ((bif false then IntKind.i64.wrap (a * b) else (0 : Int)) ≤
                                          (4611686018427387904 : Int))
                                    else false)
                                  (Tree.leaf
                                    {
                                      val :=
                                        AV.tup
                                          [AV.v (Value.int IntKind.i64 (0 : Int)),
                                            AV.v (Value.int IntKind.i64 (10 : Int))],
                                      H := [] })
                                  Tree.fail))
                              (Tree.leaf
                                {
                                  val :=
                                    AV.tup
                                      [AV.v (Value.int IntKind.i64 (IntKind.i64.wrap (a * b))),
                                        AV.v (Value.int IntKind.i64 (0 : Int))],
                                  H := [] }))))
                        (Tree.leaf
                          {
                            val :=
                              AV.tup
                                [AV.v (Value.int IntKind.i64 (IntKind.i64.wrap (a * b))),
                                  AV.v (Value.int IntKind.i64 (0 : Int))],
                            H := [] }))))
                  (Tree.leaf
                    {
                      val :=
                        AV.tup
                          [AV.v (Value.int IntKind.i64 (IntKind.i64.wrap (a * b))),
                            AV.v (Value.int IntKind.i64 (0 : Int))],
                      H := [] })))))))))
  (Tree.br (bif decide (a = (0 : Int)) then true else decide (b = (0 : Int)))
    (Tree.leaf
      { val := AV.tup [AV.v (Value.int IntKind.i64 (0 : Int)), AV.v (Value.int IntKind.i64 (0 : Int))], H := [] })
    (Tree.chk
      (bif decide (b < (0 : Int)) then !decide (IntKind.i64.wrap ((0 : Int) - b) = (0 : Int))
      else !decide (b = (0 : Int)))
      (Tree.br (decide (a < (0 : Int)))
        (Tree.br
          (!decide
              (IntKind.i64.wrap ((0 : Int) - a) ≤
                bif decide (b < (0 : Int)) then
                  IntKind.i64.wrap (Int.tdiv (4611686018427387904 : Int) (IntKind.i64.wrap ((0 : Int) - b)))
                else IntKind.i64.wrap (Int.tdiv (4611686018427387904 : Int) b)))
          (Tree.leaf
            { val := AV.tup [AV.v (Value.int IntKind.i64 (0 : Int)), AV.v (Value.int IntKind.i64 (10 : Int))],
              H := [] })
          (Tree.br true
            (Tree.chk true
              (Tree.br
                (!bif decide ((-4611686018427387904 : Int) ≤ bif true then IntKind.i64.wrap (a * b) else (0 : Int)) then
                    decide ((bif true then IntKind.i64.wrap (a * b) else (0 : Int)) ≤ (4611686018427387904 : Int))
                  else false)
                (Tree.leaf
                  { val := AV.tup [AV.v (Value.int IntKind.i64 (0 : Int)), AV.v (Value.int IntKind.i64 (10 : Int))],
                    H := [] })
                (Tree.br false
                  (Tree.chk false
                    (Tree.br
                      (!bif
                            decide
                              ((-4611686018427387904 : Int) ≤
                                bif false then IntKind.i64.wrap (a * b) else (0 : Int)) then
                          decide
                            ((bif false then IntKind.i64.wrap (a * b) else (0 : Int)) ≤ (4611686018427387904 : Int))
                        else false)
                      (Tree.leaf
                        {
                          val :=
                            AV.tup [AV.v (Value.int IntKind.i64 (0 : Int)), AV.v (Value.int IntKind.i64 (10 : Int))],
                          H := [] })
                      (Tree.br false
                        (Tree.chk false
                          (Tree.br
                            (!bif
                                  decide
                                    ((-4611686018427387904 : Int) ≤
                                      bif false then IntKind.i64.wrap (a * b) else (0 : Int)) then
                                decide
                                  ((bif false then IntKind.i64.wrap (a * b) else (0 : Int)) ≤
                                    (4611686018427387904 : Int))
                              else false)
                            (Tree.leaf
                              {
                                val :=
                                  AV.tup
                                    [AV.v (Value.int IntKind.i64 (0 : Int)), AV.v (Value.int IntKind.i64 (10 : Int))],
                                H := [] })
                            Tree.fail))
                        (Tree.leaf
                          {
                            val :=
                              AV.tup
                                [AV.v (Value.int IntKind.i64 (IntKind.i64.wrap (a * b))),
                                  AV.v (Value.int IntKind.i64 (0 : Int))],
                            H := [] }))))
                  (Tree.leaf
                    {
                      val :=
                        AV.tup
                          [AV.v (Value.int IntKind.i64 (IntKind.i64.wrap (a * b))),
                            AV.v (Value.int IntKind.i64 (0 : Int))],
                      H := [] }))))
            (Tree.leaf
              {
                val :=
                  AV.tup
                    [AV.v (Value.int IntKind.i64 (IntKind.i64.wrap (a * b))), AV.v (Value.int IntKind.i64 (0 : Int))],
                H := [] })))
        (Tree.br
          (!decide
              (a ≤
                bif decide (b < (0 : Int)) then
                  IntKind.i64.wrap (Int.tdiv (4611686018427387904 : Int) (IntKind.i64.wrap ((0 : Int) - b)))
                else IntKind.i64.wrap (Int.tdiv (4611686018427387904 : Int) b)))
          (Tree.leaf
            { val := AV.tup [AV.v (Value.int IntKind.i64 (0 : Int)), AV.v (Value.int IntKind.i64 (10 : Int))],
              H := [] })
          (Tree.br true
            (Tree.chk true
              (Tree.br
                (!bif decide ((-4611686018427387904 : Int) ≤ bif true then IntKind.i64.wrap (a * b) else (0 : Int)) then
                    decide ((bif true then IntKind.i64.wrap (a * b) else (0 : Int)) ≤ (4611686018427387904 : Int))
                  else false)
                (Tree.leaf
                  { val := AV.tup [AV.v (Value.int IntKind.i64 (0 : Int)), AV.v (Value.int IntKind.i64 (10 : Int))],
                    H := [] })
                (Tree.br false
                  (Tree.chk false
                    (Tree.br
                      (!bif
                            decide
                              ((-4611686018427387904 : Int) ≤
                                bif false then IntKind.i64.wrap (a * b) else (0 : Int)) then
                          decide
                            ((bif false then IntKind.i64.wrap (a * b) else (0 : Int)) ≤ (4611686018427387904 : Int))
                        else false)
                      (Tree.leaf
                        {
                          val :=
                            AV.tup [AV.v (Value.int IntKind.i64 (0 : Int)), AV.v (Value.int IntKind.i64 (10 : Int))],
                          H := [] })
                      (Tree.br false
                        (Tree.chk false
                          (Tree.br
                            (!bif
                                  decide
                                    ((-4611686018427387904 : Int) ≤
                                      bif false then IntKind.i64.wrap (a * b) else (0 : Int)) then
                                decide
                                  ((bif false then IntKind.i64.wrap (a * b) else (0 : Int)) ≤
                                    (4611686018427387904 : Int))
                              else false)
                            (Tree.leaf
                              {
                                val :=
                                  AV.tup
                                    [AV.v (Value.int IntKind.i64 (0 : Int)), AV.v (Value.int IntKind.i64 (10 : Int))],
                                H := [] })
                            Tree.fail))
                        (Tree.leaf
                          {
                            val :=
                              AV.tup
                                [AV.v (Value.int IntKind.i64 (IntKind.i64.wrap (a * b))),
                                  AV.v (Value.int IntKind.i64 (0 : Int))],
                            H := [] }))))
                  (Tree.leaf
                    {
                      val :=
                        AV.tup
                          [AV.v (Value.int IntKind.i64 (IntKind.i64.wrap (a * b))),
                            AV.v (Value.int IntKind.i64 (0 : Int))],
                      H := [] }))))
            (Tree.leaf
              {
                val :=
                  AV.tup
                    [AV.v (Value.int IntKind.i64 (IntKind.i64.wrap (a * b))), AV.v (Value.int IntKind.i64 (0 : Int))],
                H := [] })))))) := by kernel_rfl
theorem run20 (T0 : List (CT Try.prog Γu)) (pre : Int → Int → Bool) (p q : Int → Int → Int) (hs : ∀ a b, pre a b = true → Gives (bodyE T0 Lno false 70 [.tmp 4, .tmp 5] (bodyOf Try.f20) [.v (.int .i64 a), .v (.int .i64 b)] []) (.tup [.v (.int .i64 (p a b)), .v (.int .i64 (q a b))])) (a b : Int) : bodyE (P := Try.prog) (Γ := Γu) [S.c25, mulP T0 pre (fun a b => .tup [.v (.int .i64 (p a b)), .v (.int .i64 (q a b))]) hs, c16'] Lno false 70 [.tmp 4, .tmp 5] (bodyOf Try.f20) [.v (.int .i64 a), .v (.int .i64 b)] [] =
  Tree.br
  (bif !bif decide ((-4611686018427387904 : Int) ≤ a) then decide (a ≤ (4611686018427387904 : Int)) else false then true
  else !bif decide ((-4611686018427387904 : Int) ≤ b) then decide (b ≤ (4611686018427387904 : Int)) else false)
  (Tree.leaf
    { val := AV.tup [AV.v (Value.int IntKind.i64 (0 : Int)), AV.v (Value.int IntKind.i64 (10 : Int))], H := [] })
  (Tree.br (decide (b < (0 : Int)))
    (Tree.chk (true && pre a (IntKind.i64.wrap ((0 : Int) - b)))
      (Tree.leaf
        {
          val :=
            AV.tup
              [AV.v (Value.int IntKind.i64 (IntKind.i64.wrap ((0 : Int) - p a (IntKind.i64.wrap ((0 : Int) - b))))),
                AV.v (Value.int IntKind.i64 (q a (IntKind.i64.wrap ((0 : Int) - b))))],
          H := [] }))
    (Tree.br (bif decide (b = (0 : Int)) then true else decide (a = (0 : Int)))
      (Tree.leaf
        { val := AV.tup [AV.v (Value.int IntKind.i64 (0 : Int)), AV.v (Value.int IntKind.i64 (0 : Int))], H := [] })
      (Tree.br (decide (b = (1 : Int)))
        (Tree.leaf { val := AV.tup [AV.v (Value.int IntKind.i64 a), AV.v (Value.int IntKind.i64 (0 : Int))], H := [] })
        (Tree.chk (true && (true && pre a (IntKind.i64.wrap (b.tdiv (2 : Int)))))
          (Tree.br (!decide (q a (IntKind.i64.wrap (b.tdiv (2 : Int))) = (0 : Int)))
            (Tree.leaf
              {
                val :=
                  AV.tup
                    [AV.v (Value.int IntKind.i64 (0 : Int)),
                      AV.v (Value.int IntKind.i64 (q a (IntKind.i64.wrap (b.tdiv (2 : Int)))))],
                H := [] })
            (Tree.chk (true && true)
              (Tree.chk
                (bif
                    decide
                      (addE (p a (IntKind.i64.wrap (b.tdiv (2 : Int)))) (p a (IntKind.i64.wrap (b.tdiv (2 : Int)))) =
                        (0 : Int)) then
                  true
                else true)
                (Tree.br
                  (bif
                      decide
                        (addE (p a (IntKind.i64.wrap (b.tdiv (2 : Int)))) (p a (IntKind.i64.wrap (b.tdiv (2 : Int)))) =
                          (0 : Int)) then
                    decide (b.tmod (2 : Int) = (1 : Int))
                  else false)
                  (Tree.chk (true && true)
                    (Tree.leaf
                      {
                        val :=
                          AV.tup
                            [AV.v
                                (Value.int IntKind.i64
                                  (addF
                                    (addF (p a (IntKind.i64.wrap (b.tdiv (2 : Int))))
                                      (p a (IntKind.i64.wrap (b.tdiv (2 : Int)))))
                                    a)),
                              AV.v
                                (Value.int IntKind.i64
                                  (addE
                                    (addF (p a (IntKind.i64.wrap (b.tdiv (2 : Int))))
                                      (p a (IntKind.i64.wrap (b.tdiv (2 : Int)))))
                                    a))],
                        H := [] }))
                  (Tree.leaf
                    {
                      val :=
                        AV.tup
                          [AV.v
                              (Value.int IntKind.i64
                                (addF (p a (IntKind.i64.wrap (b.tdiv (2 : Int))))
                                  (p a (IntKind.i64.wrap (b.tdiv (2 : Int)))))),
                            AV.v
                              (Value.int IntKind.i64
                                (addE (p a (IntKind.i64.wrap (b.tdiv (2 : Int))))
                                  (p a (IntKind.i64.wrap (b.tdiv (2 : Int))))))],
                      H := [] }))))))))) := by kernel_rfl

def subF (a b : Int) : Int := bif inN a && inN b && inN (a - b) then a - b else 0
def subE (a b : Int) : Int := bif inN a && inN b && inN (a - b) then 0 else 10
theorem sub_add {a b : Int} (hb : inN b = true) : addF a (-b) = subF a b ∧ addE a (-b) = subE a b := by
  have h1 : inN (-b) = inN b := by rw [hb]; have := inN_iff.1 hb; exact inN_iff.2 ⟨by omega, by omega⟩
  unfold addF addE subF subE addOk
  rw [h1, show a + -b = a - b by omega]
  exact ⟨rfl, rfl⟩
theorem law17 (a b : Int) : Gives (bodyE (P := Try.prog) (Γ := Γu) [d23, d24, c15'] Lno false 19 [.tmp 4, .tmp 5] (bodyOf Try.f17) [.v (.int .i64 a), .v (.int .i64 b)] []) (.tup [.v (.int .i64 (subF a b)), .v (.int .i64 (subE a b))]) := ⟨by
  rw [run17]
  cases hb : inN b with
  | true =>
    have h := inN_iff.1 hb
    have e : IntKind.i64.wrap (-b) = -b := by rw [wrapE]; omega
    obtain ⟨f, g⟩ := sub_add (a := a) hb
    simp [h.1, h.2, e, f, g, le_tup2]
  | false =>
    have h : ¬ (-4611686018427387904 ≤ b ∧ b ≤ 4611686018427387904) := fun h => by rw [inN_iff.2 h] at hb; exact absurd hb (by decide)
    have f : subF a b = 0 ∧ subE a b = 10 := by simp [subF, subE, hb]
    rw [f.1, f.2]
    by_cases h1 : -4611686018427387904 ≤ b
    · have h2 : ¬ b ≤ 4611686018427387904 := fun h2 => h ⟨h1, h2⟩
      simp [h1, h2, le_tup2]
    · simp [h1, le_tup2]⟩
theorem law18 (a b : Int) : Gives (bodyE (P := Try.prog) (Γ := Γu) [S.c25] Lno false 37 [.tmp 4, .tmp 5] (bodyOf Try.f18) [.v (.int .i64 a), .v (.int .i64 b)] []) (.tup [.v (.int .i64 (subF a b)), .v (.int .i64 (subE a b))]) := ⟨by
  rw [run18]
  have hx : (inN a && inN b && inN (a - b)) = true ↔ ((-4611686018427387904 ≤ a ∧ a ≤ 4611686018427387904) ∧ (-4611686018427387904 ≤ b ∧ b ≤ 4611686018427387904) ∧ (-4611686018427387904 ≤ a - b ∧ a - b ≤ 4611686018427387904)) := by simp [inN]; omega
  cases h : (inN a && inN b && inN (a - b)) with
  | true =>
    have h' := hx.1 h
    have e1 : subF a b = a - b := by unfold subF; rw [h]; rfl
    have e2 : subE a b = 0 := by unfold subE; rw [h]; rfl
    rw [e1, e2]
    by_cases hb : 0 < b <;> by_cases hc : b < 0 <;> simp [hb, hc, le_tup2, wrapE] <;> (try omega) <;> (and_intros <;> intros <;> omega)
  | false =>
    have h' := mt hx.2 (by rw [h]; exact Bool.false_ne_true)
    have e1 : subF a b = 0 := by unfold subF; rw [h]; rfl
    have e2 : subE a b = 10 := by unfold subE; rw [h]; rfl
    rw [e1, e2]
    by_cases hb : 0 < b <;> by_cases hc : b < 0 <;> simp [hb, hc, le_tup2, wrapE] <;> (try omega) <;> (and_intros <;> intros <;> omega)⟩
end Go.Eng.U
