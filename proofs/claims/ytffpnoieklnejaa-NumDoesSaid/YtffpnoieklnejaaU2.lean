/- num: sums of two, in the program's words and in the document's. -/
import Derived.Test.YtffpnoieklnejaaU1
import Derived.Test.YtffpnoieklnejaaEngAC
namespace Go.Eng.U
open Go Go.Eng Go.Proofs
set_option linter.unusedSimpArgs false
set_option linter.unusedVariables false
noncomputable def d23 : CT Try.prog Γu := CT.auto false 3 1 [S.c12] 23 Try.f23 (bodyOf Try.f23) false 15 [.tmp 2] Try.func23 (by kernel_rfl) (by kernel_rfl) (by kernel_rfl) (by kernel_rfl)
noncomputable def d24 : CT Try.prog Γu := CT.auto false 3 1 [d23] 24 Try.f24 (bodyOf Try.f24) false 15 [.tmp 4, .tmp 5] Try.func24 (by kernel_rfl) (by kernel_rfl) (by kernel_rfl) (by kernel_rfl)
theorem run15 (a b : Int) : bodyE (P := Try.prog) (Γ := Γu) [d23, d24] Lno false 33 [.tmp 4, .tmp 5] (bodyOf Try.f15) [.v (.int .i64 a), .v (.int .i64 b)] [] =
  Tree.br true
  (Tree.chk true
    (Tree.br
      (!bif decide ((-4611686018427387904 : Int) ≤ bif true then a else bif false then b else (0 : Int)) then
          decide ((bif true then a else bif false then b else (0 : Int)) ≤ (4611686018427387904 : Int))
        else false)
      (Tree.leaf
        { val := AV.tup [AV.v (Value.int IntKind.i64 (0 : Int)), AV.v (Value.int IntKind.i64 (10 : Int))], H := [] })
      (Tree.br true
        (Tree.chk true
          (Tree.br
            (!bif decide ((-4611686018427387904 : Int) ≤ bif false then a else bif true then b else (0 : Int)) then
                decide ((bif false then a else bif true then b else (0 : Int)) ≤ (4611686018427387904 : Int))
              else false)
            (Tree.leaf
              { val := AV.tup [AV.v (Value.int IntKind.i64 (0 : Int)), AV.v (Value.int IntKind.i64 (10 : Int))],
                H := [] })
            (Tree.br false
              (Tree.chk false
                (Tree.br
                  (!bif
                        decide
                          ((-4611686018427387904 : Int) ≤ bif false then a else bif false then b else (0 : Int)) then
                      decide ((bif false then a else bif false then b else (0 : Int)) ≤ (4611686018427387904 : Int))
                    else false)
                  (Tree.leaf
                    { val := AV.tup [AV.v (Value.int IntKind.i64 (0 : Int)), AV.v (Value.int IntKind.i64 (10 : Int))],
                      H := [] })
                  Tree.fail))
              (Tree.br (decide ((0 : Int) < a))
                (Tree.br (decide ((0 : Int) < b))
                  (Tree.br (!!decide (IntKind.i64.wrap (a + b) < (0 : Int)))
                    (Tree.leaf
                      { val := AV.tup [AV.v (Value.int IntKind.i64 (0 : Int)), AV.v (Value.int IntKind.i64 (10 : Int))],
                        H := [] })
                    (Tree.br true
                      (Tree.chk true
                        (Tree.br
                          (!bif
                                decide
                                  ((-4611686018427387904 : Int) ≤
                                    bif true then IntKind.i64.wrap (a + b) else (0 : Int)) then
                              decide
                                ((bif true then IntKind.i64.wrap (a + b) else (0 : Int)) ≤ (4611686018427387904 : Int))
                            else false)
                          (Tree.leaf
                            {
                              val :=
                                AV.tup
                                  [AV.v (Value.int IntKind.i64 (0 : Int)), AV.v (Value.int IntKind.i64 (10 : Int))],
                              H := [] })
                          (Tree.br false
                            (Tree.chk false
                              (Tree.br
                                (!bif
                                      decide
                                        ((-4611686018427387904 : Int) ≤
                                          bif false then IntKind.i64.wrap (a + b) else (0 : Int)) then
                                    decide
                                      ((bif false then IntKind.i64.wrap (a + b) else (0 : Int)) ≤
                                        (4611686018427387904 : Int))
                                  else false)
                                (Tree.leaf
                                  {
                                    val :=
                                      AV.tup
                                        [AV.v (Value.int IntKind.i64 (0 : Int)),
                                          AV.v (Value.int IntKind.i64 (10 : Int))],
                                    H := [] })
                                (Tree.br false
                                  (Tree.chk false
                                    (Tree.br
                                      (!bif
                                            decide
                                              ((-4611686018427387904 : Int) ≤
                                                bif false then IntKind.i64.wrap (a + b) else (0 : Int)) then
                                          decide
                                            ((bif false then IntKind.i64.wrap (a + b) else (0 : Int)) ≤
                                              (4611686018427387904 : Int))
                                        else false)
                                      (Tree.leaf
                                        {
                                          val :=
                                            AV.tup
                                              [AV.v (Value.int IntKind.i64 (0 : Int)),
                                                AV.v (Value.int IntKind.i64 (10 : Int))],
                                          H := [] })
                                      Tree.fail))
                                  (Tree.leaf
                                    {
                                      val :=
                                        AV.tup
                                          [AV.v (Value.int IntKind.i64 (IntKind.i64.wrap (a + b))),
                                            AV.v (Value.int IntKind.i64 (0 : Int))],
                                      H := [] }))))
                            (Tree.leaf
                              {
                                val :=
                                  AV.tup
                                    [AV.v (Value.int IntKind.i64 (IntKind.i64.wrap (a + b))),
                                      AV.v (Value.int IntKind.i64 (0 : Int))],
                                H := [] }))))
                      (Tree.leaf
                        {
                          val :=
                            AV.tup
                              [AV.v (Value.int IntKind.i64 (IntKind.i64.wrap (a + b))),
                                AV.v (Value.int IntKind.i64 (0 : Int))],
                          H := [] })))
                  (Tree.br true
                    (Tree.chk true
                      (Tree.br
                        (!bif
                              decide
                                ((-4611686018427387904 : Int) ≤
                                  bif true then IntKind.i64.wrap (a + b) else (0 : Int)) then
                            decide
                              ((bif true then IntKind.i64.wrap (a + b) else (0 : Int)) ≤ (4611686018427387904 : Int))
                          else false)
                        (Tree.leaf
                          {
                            val :=
                              AV.tup [AV.v (Value.int IntKind.i64 (0 : Int)), AV.v (Value.int IntKind.i64 (10 : Int))],
                            H := [] })
                        (Tree.br false
                          (Tree.chk false
                            (Tree.br
                              (!bif
                                    decide
                                      ((-4611686018427387904 : Int) ≤
                                        bif false then IntKind.i64.wrap (a + b) else (0 : Int)) then
                                  decide
                                    ((bif false then IntKind.i64.wrap (a + b) else (0 : Int)) ≤
                                      (4611686018427387904 : Int))
                                else false)
                              (Tree.leaf
                                {
                                  val :=
                                    AV.tup
                                      [AV.v (Value.int IntKind.i64 (0 : Int)), AV.v (Value.int IntKind.i64 (10 : Int))],
                                  H := [] })
                              (Tree.br false
                                (Tree.chk false
                                  (Tree.br
                                    (!bif
                                          decide
                                            ((-4611686018427387904 : Int) ≤
                                              bif false then IntKind.i64.wrap (a + b) else (0 : Int)) then
                                        decide
                                          ((bif false then IntKind.i64.wrap (a + b) else (0 : Int)) ≤
                                            (4611686018427387904 : Int))
                                      else false)
                                    (Tree.leaf
                                      {
                                        val :=
                                          AV.tup
                                            [AV.v (Value.int IntKind.i64 (0 : Int)),
                                              AV.v (Value.int IntKind.i64 (10 : Int))],
                                        H := [] })
                                    Tree.fail))
                                (Tree.leaf
                                  {
                                    val :=
                                      AV.tup
                                        [AV.v (Value.int IntKind.i64 (IntKind.i64.wrap (a + b))),
                                          AV.v (Value.int IntKind.i64 (0 : Int))],
                                    H := [] }))))
                          (Tree.leaf
                            {
                              val :=
                                AV.tup
                                  [AV.v (Value.int IntKind.i64 (IntKind.i64.wrap (a + b))),
                                    AV.v (Value.int IntKind.i64 (0 : Int))],
                              H := [] }))))
                    (Tree.leaf
                      {
                        val :=
                          AV.tup
                            [AV.v (Value.int IntKind.i64 (IntKind.i64.wrap (a + b))),
                              AV.v (Value.int IntKind.i64 (0 : Int))],
                        H := [] })))
                (Tree.br true
                  (Tree.chk true
                    (Tree.br
                      (!bif
                            decide
                              ((-4611686018427387904 : Int) ≤
                                bif true then IntKind.i64.wrap (a + b) else (0 : Int)) then
                          decide ((bif true then IntKind.i64.wrap (a + b) else (0 : Int)) ≤ (4611686018427387904 : Int))
                        else false)
                      (Tree.leaf
                        {
                          val :=
                            AV.tup [AV.v (Value.int IntKind.i64 (0 : Int)), AV.v (Value.int IntKind.i64 (10 : Int))],
                          H := [] })
                      (Tree.br false
                        (Tree.chk false
                          (Tree.br
                            (!bif
                                  decide
                                    ((-4611686018427387904 : Int) ≤
                                      bif false then IntKind.i64.wrap (a + b) else (0 : Int)) then
                                decide
                                  ((bif false then IntKind.i64.wrap (a + b) else (0 : Int)) ≤
                                    (4611686018427387904 : Int))
                              else false)
                            (Tree.leaf
                              {
                                val :=
                                  AV.tup
                                    [AV.v (Value.int IntKind.i64 (0 : Int)), AV.v (Value.int IntKind.i64 (10 : Int))],
                                H := [] })
                            (Tree.br false
                              (Tree.chk false
                                (Tree.br
                                  (!bif
                                        decide
                                          ((-4611686018427387904 : Int) ≤
                                            bif false then IntKind.i64.wrap (a + b) else (0 : Int)) then
                                      decide
                                        ((bif false then IntKind.i64.wrap (a + b) else (0 : Int)) ≤
                                          (4611686018427387904 : Int))
                                    else false)
                                  (Tree.leaf
                                    {
                                      val :=
                                        AV.tup
                                          [AV.v (Value.int IntKind.i64 (0 : Int)),
                                            AV.v (Value.int IntKind.i64 (10 : Int))],
                                      H := [] })
                                  Tree.fail))
                              (Tree.leaf
                                {
                                  val :=
                                    AV.tup
                                      [AV.v (Value.int IntKind.i64 (IntKind.i64.wrap (a + b))),
                                        AV.v (Value.int IntKind.i64 (0 : Int))],
                                  H := [] }))))
                        (Tree.leaf
                          {
                            val :=
                              AV.tup
                                [AV.v (Value.int IntKind.i64 (IntKind.i64.wrap (a + b))),
                                  AV.v (Value.int IntKind.i64 (0 : Int))],
                            H := [] }))))
                  (Tree.leaf
                    {
                      val :=
                        AV.tup
                          [AV.v (Value.int IntKind.i64 (IntKind.i64.wrap (a + b))),
                            AV.v (Value.int IntKind.i64 (0 : Int))],
                      H := [] }))))))
        (Tree.br (decide ((0 : Int) < a))
          (Tree.br (decide ((0 : Int) < b))
            (Tree.br (!!decide (IntKind.i64.wrap (a + b) < (0 : Int)))
              (Tree.leaf
                { val := AV.tup [AV.v (Value.int IntKind.i64 (0 : Int)), AV.v (Value.int IntKind.i64 (10 : Int))],
                  H := [] })
              (Tree.br true
                (Tree.chk true
                  (Tree.br
                    (!bif
                          decide
                            ((-4611686018427387904 : Int) ≤ bif true then IntKind.i64.wrap (a + b) else (0 : Int)) then
                        decide ((bif true then IntKind.i64.wrap (a + b) else (0 : Int)) ≤ (4611686018427387904 : Int))
                      else false)
                    (Tree.leaf
                      { val := AV.tup [AV.v (Value.int IntKind.i64 (0 : Int)), AV.v (Value.int IntKind.i64 (10 : Int))],
                        H := [] })
                    (Tree.br false
                      (Tree.chk false
                        (Tree.br
                          (!bif
                                decide
                                  ((-4611686018427387904 : Int) ≤
                                    bif false then IntKind.i64.wrap (a + b) else (0 : Int)) then
                              decide
                                ((bif false then IntKind.i64.wrap (a + b) else (0 : Int)) ≤ (4611686018427387904 : Int))
                            else false)
                          (Tree.leaf
                            {
                              val :=
                                AV.tup
                                  [AV.v (Value.int IntKind.i64 (0 : Int)), AV.v (Value.int IntKind.i64 (10 : Int))],
                              H := [] })
                          (Tree.br false
                            (Tree.chk false
                              (Tree.br
                                (!bif
                                      decide
                                        ((-4611686018427387904 : Int) ≤
                                          bif false then IntKind.i64.wrap (a + b) else (0 : Int)) then
                                    decide
                                      ((bif false then IntKind.i64.wrap (a + b) else (0 : Int)) ≤
                                        (4611686018427387904 : Int))
                                  else false)
                                (Tree.leaf
                                  {
                                    val :=
                                      AV.tup
                                        [AV.v (Value.int IntKind.i64 (0 : Int)),
                                          AV.v (Value.int IntKind.i64 (10 : Int))],
                                    H := [] })
                                Tree.fail))
                            (Tree.leaf
                              {
                                val :=
                                  AV.tup
                                    [AV.v (Value.int IntKind.i64 (IntKind.i64.wrap (a + b))),
                                      AV.v (Value.int IntKind.i64 (0 : Int))],
                                H := [] }))))
                      (Tree.leaf
                        {
                          val :=
                            AV.tup
                              [AV.v (Value.int IntKind.i64 (IntKind.i64.wrap (a + b))),
                                AV.v (Value.int IntKind.i64 (0 : Int))],
                          H := [] }))))
                (Tree.leaf
                  {
                    val :=
                      AV.tup
                        [AV.v (Value.int IntKind.i64 (IntKind.i64.wrap (a + b))),
                          AV.v (Value.int IntKind.i64 (0 : Int))],
                    H := [] })))
            (Tree.br true
              (Tree.chk true
                (Tree.br
                  (!bif
                        decide
                          ((-4611686018427387904 : Int) ≤ bif true then IntKind.i64.wrap (a + b) else (0 : Int)) then
                      decide ((bif true then IntKind.i64.wrap (a + b) else (0 : Int)) ≤ (4611686018427387904 : Int))
                    else false)
                  (Tree.leaf
                    { val := AV.tup [AV.v (Value.int IntKind.i64 (0 : Int)), AV.v (Value.int IntKind.i64 (10 : Int))],
                      H := [] })
                  (Tree.br false
                    (Tree.chk false
                      (Tree.br
                        (!bif
                              decide
                                ((-4611686018427387904 : Int) ≤
                                  bif false then IntKind.i64.wrap (a + b) else (0 : Int)) then
                            decide
                              ((bif false then IntKind.i64.wrap (a + b) else (0 : Int)) ≤ (4611686018427387904 : Int))
                          else false)
                        (Tree.leaf
                          {
                            val :=
                              AV.tup [AV.v (Value.int IntKind.i64 (0 : Int)), AV.v (Value.int IntKind.i64 (10 : Int))],
                            H := [] })
                        (Tree.br false
                          (Tree.chk false
                            (Tree.br
                              (!bif
                                    decide
                                      ((-4611686018427387904 : Int) ≤
                                        bif false then IntKind.i64.wrap (a + b) else (0 : Int)) then
                                  decide
                                    ((bif false then IntKind.i64.wrap (a + b) else (0 : Int)) ≤
                                      (4611686018427387904 : Int))
                                else false)
                              (Tree.leaf
                                {
                                  val :=
                                    AV.tup
                                      [AV.v (Value.int IntKind.i64 (0 : Int)), AV.v (Value.int IntKind.i64 (10 : Int))],
                                  H := [] })
                              Tree.fail))
                          (Tree.leaf
                            {
                              val :=
                                AV.tup
                                  [AV.v (Value.int IntKind.i64 (IntKind.i64.wrap (a + b))),
                                    AV.v (Value.int IntKind.i64 (0 : Int))],
                              H := [] }))))
                    (Tree.leaf
                      {
                        val :=
                          AV.tup
                            [AV.v (Value.int IntKind.i64 (IntKind.i64.wrap (a + b))),
                              AV.v (Value.int IntKind.i64 (0 : Int))],
                        H := [] }))))
              (Tree.leaf
                {
                  val :=
                    AV.tup
                      [AV.v (Value.int IntKind.i64 (IntKind.i64.wrap (a + b))), AV.v (Value.int IntKind.i64 (0 : Int))],
                  H := [] })))
          (Tree.br true
            (Tree.chk true
              (Tree.br
                (!bif decide ((-4611686018427387904 : Int) ≤ bif true then IntKind.i64.wrap (a + b) else (0 : Int)) then
                    decide ((bif true then IntKind.i64.wrap (a + b) else (0 : Int)) ≤ (4611686018427387904 : Int))
                  else false)
                (Tree.leaf
                  { val := AV.tup [AV.v (Value.int IntKind.i64 (0 : Int)), AV.v (Value.int IntKind.i64 (10 : Int))],
                    H := [] })
                (Tree.br false
                  (Tree.chk false
                    (Tree.br
                      (!bif
                            decide
                              ((-4611686018427387904 : Int) ≤
                                bif false then IntKind.i64.wrap (a + b) else (0 : Int)) then
                          decide
                            ((bif false then IntKind.i64.wrap (a + b) else (0 : Int)) ≤ (4611686018427387904 : Int))
                        else false)
                      (Tree.leaf
                        {
                          val :=
                            AV.tup [AV.v (Value.int IntKind.i64 (0 : Int)), AV.v (Value.int IntKind.i64 (10 : Int))],
                          H := [] })
                      (Tree.br false
                        (Tree.chk false
                          (Tree.br
                            (!bif
                                  decide
                                    ((-4611686018427387904 : Int) ≤
                                      bif false then IntKind.i64.wrap (a + b) else (0 : Int)) then
                                decide
                                  ((bif false then IntKind.i64.wrap (a + b) else (0 : Int)) ≤
                                    (4611686018427387904 : Int))
                              else false)
                            (Tree.leaf
                              {
                                val :=
                                  AV.tup
                                    [AV.v (Value.int IntKind.i64 (0 : Int)), AV.v (Value.int IntKind.i64 (10 : Int))],
                                H := [] })
                            Tree.fail))
                        (Tree.leaf
                          {
                            val :=
                              AV.tup
                                [AV.v (Value.int IntKind.i64 (IntKind.i64.wrap (a + b))),
                                  AV.v (Value.int IntKind.i64 (0 : Int))],
                            H := [] }))))
                  (Tree.leaf
                    {
                      val :=
                        AV.tup
                          [AV.v (Value.int IntKind.i64 (IntKind.i64.wrap (a + b))),
                            AV.v (Value.int IntKind.i64 (0 : Int))],
                      H := [] }))))
            (Tree.leaf
              {
                val :=
                  AV.tup
                    [AV.v (Value.int IntKind.i64 (IntKind.i64.wrap (a + b))), AV.v (Value.int IntKind.i64 (0 : Int))],
                H := [] }))))))
  (Tree.br (decide ((0 : Int) < a))
    (Tree.br (decide ((0 : Int) < b))
      (Tree.br (!!decide (IntKind.i64.wrap (a + b) < (0 : Int)))
        (Tree.leaf
          { val := AV.tup [AV.v (Value.int IntKind.i64 (0 : Int)), AV.v (Value.int IntKind.i64 (10 : Int))], H := [] })
        (Tree.br true
          (Tree.chk true
            (Tree.br
              (!bif decide ((-4611686018427387904 : Int) ≤ bif true then IntKind.i64.wrap (a + b) else (0 : Int)) then
                  decide ((bif true then IntKind.i64.wrap (a + b) else (0 : Int)) ≤ (4611686018427387904 : Int))
                else false)
              (Tree.leaf
                { val := AV.tup [AV.v (Value.int IntKind.i64 (0 : Int)), AV.v (Value.int IntKind.i64 (10 : Int))],
                  H := [] })
              (Tree.br false
                (Tree.chk false
                  (Tree.br
                    (!bif
                          decide
                            ((-4611686018427387904 : Int) ≤ bif false then IntKind.i64.wrap (a + b) else (0 : Int)) then
                        decide ((bif false then IntKind.i64.wrap (a + b) else (0 : Int)) ≤ (4611686018427387904 : Int))
                      else false)
                    (Tree.leaf
                      { val := AV.tup [AV.v (Value.int IntKind.i64 (0 : Int)), AV.v (Value.int IntKind.i64 (10 : Int))],
                        H := [] })
                    (Tree.br false
                      (Tree.chk false
                        (Tree.br
                          (!bif
                                decide
                                  ((-4611686018427387904 : Int) ≤
                                    bif false then IntKind.i64.wrap (a + b) else (0 : Int)) then
                              decide
                                ((bif false then IntKind.i64.wrap (a + b) else (0 : Int)) ≤ (4611686018427387904 : Int))
                            else false)
                          (Tree.leaf
                            {
                              val :=
                                AV.tup
                                  [AV.v (Value.int IntKind.i64 (0 : Int)), AV.v (Value.int IntKind.i64 (10 : Int))],
                              H := [] })
                          Tree.fail))
                      (Tree.leaf
                        {
                          val :=
                            AV.tup
                              [AV.v (Value.int IntKind.i64 (IntKind.i64.wrap (a + b))),
                                AV.v (Value.int IntKind.i64 (0 : Int))],
                          H := [] }))))
                (Tree.leaf
                  {
                    val :=
                      AV.tup
                        [AV.v (Value.int IntKind.i64 (IntKind.i64.wrap (a + b))),
                          AV.v (Value.int IntKind.i64 (0 : Int))],
                    H := [] }))))
          (Tree.leaf
            {
              val :=
                AV.tup
                  [AV.v (Value.int IntKind.i64 (IntKind.i64.wrap (a + b))), AV.v (Value.int IntKind.i64 (0 : Int))],
              H := [] })))
      (Tree.br true
        (Tree.chk true
          (Tree.br
            (!bif decide ((-4611686018427387904 : Int) ≤ bif true then IntKind.i64.wrap (a + b) else (0 : Int)) then
                decide ((bif true then IntKind.i64.wrap (a + b) else (0 : Int)) ≤ (4611686018427387904 : Int))
              else false)
            (Tree.leaf
              { val := AV.tup [AV.v (Value.int IntKind.i64 (0 : Int)), AV.v (Value.int IntKind.i64 (10 : Int))],
                H := [] })
            (Tree.br false
              (Tree.chk false
                (Tree.br
                  (!bif
                        decide
                          ((-4611686018427387904 : Int) ≤ bif false then IntKind.i64.wrap (a + b) else (0 : Int)) then
                      decide ((bif false then IntKind.i64.wrap (a + b) else (0 : Int)) ≤ (4611686018427387904 : Int))
                    else false)
                  (Tree.leaf
                    { val := AV.tup [AV.v (Value.int IntKind.i64 (0 : Int)), AV.v (Value.int IntKind.i64 (10 : Int))],
                      H := [] })
                  (Tree.br false
                    (Tree.chk false
                      (Tree.br
                        (!bif
                              decide
                                ((-4611686018427387904 : Int) ≤
                                  bif false then IntKind.i64.wrap (a + b) else (0 : Int)) then
                            decide
                              ((bif false then IntKind.i64.wrap (a + b) else (0 : Int)) ≤ (4611686018427387904 : Int))
                          else false)
                        (Tree.leaf
                          {
                            val :=
                              AV.tup [AV.v (Value.int IntKind.i64 (0 : Int)), AV.v (Value.int IntKind.i64 (10 : Int))],
                            H := [] })
                        Tree.fail))
                    (Tree.leaf
                      {
                        val :=
                          AV.tup
                            [AV.v (Value.int IntKind.i64 (IntKind.i64.wrap (a + b))),
                              AV.v (Value.int IntKind.i64 (0 : Int))],
                        H := [] }))))
              (Tree.leaf
                {
                  val :=
                    AV.tup
                      [AV.v (Value.int IntKind.i64 (IntKind.i64.wrap (a + b))), AV.v (Value.int IntKind.i64 (0 : Int))],
                  H := [] }))))
        (Tree.leaf
          {
            val :=
              AV.tup [AV.v (Value.int IntKind.i64 (IntKind.i64.wrap (a + b))), AV.v (Value.int IntKind.i64 (0 : Int))],
            H := [] })))
    (Tree.br true
      (Tree.chk true
        (Tree.br
          (!bif decide ((-4611686018427387904 : Int) ≤ bif true then IntKind.i64.wrap (a + b) else (0 : Int)) then
              decide ((bif true then IntKind.i64.wrap (a + b) else (0 : Int)) ≤ (4611686018427387904 : Int))
            else false)
          (Tree.leaf
            { val := AV.tup [AV.v (Value.int IntKind.i64 (0 : Int)), AV.v (Value.int IntKind.i64 (10 : Int))],
              H := [] })
          (Tree.br false
            (Tree.chk false
              (Tree.br
                (!bif
                      decide
                        ((-4611686018427387904 : Int) ≤ bif false then IntKind.i64.wrap (a + b) else (0 : Int)) then
                    decide ((bif false then IntKind.i64.wrap (a + b) else (0 : Int)) ≤ (4611686018427387904 : Int))
                  else false)
                (Tree.leaf
                  { val := AV.tup [AV.v (Value.int IntKind.i64 (0 : Int)), AV.v (Value.int IntKind.i64 (10 : Int))],
                    H := [] })
                (Tree.br false
                  (Tree.chk false
                    (Tree.br
                      (!bif
                            decide
                              ((-4611686018427387904 : Int) ≤
                                bif false then IntKind.i64.wrap (a + b) else (0 : Int)) then
                          decide
                            ((bif false then IntKind.i64.wrap (a + b) else (0 : Int)) ≤ (4611686018427387904 : Int))
                        else false)
                      (Tree.leaf
                        {
                          val :=
                            AV.tup [AV.v (Value.int IntKind.i64 (0 : Int)), AV.v (Value.int IntKind.i64 (10 : Int))],
                          H := [] })
                      Tree.fail))
                  (Tree.leaf
                    {
                      val :=
                        AV.tup
                          [AV.v (Value.int IntKind.i64 (IntKind.i64.wrap (a + b))),
                            AV.v (Value.int IntKind.i64 (0 : Int))],
                      H := [] }))))
            (Tree.leaf
              {
                val :=
                  AV.tup
                    [AV.v (Value.int IntKind.i64 (IntKind.i64.wrap (a + b))), AV.v (Value.int IntKind.i64 (0 : Int))],
                H := [] }))))
      (Tree.leaf
        {
          val :=
            AV.tup [AV.v (Value.int IntKind.i64 (IntKind.i64.wrap (a + b))), AV.v (Value.int IntKind.i64 (0 : Int))],
          H := [] }))) := by kernel_rfl
theorem run16 (a b : Int) : bodyE (P := Try.prog) (Γ := Γu) [S.c25] Lno false 37 [.tmp 4, .tmp 5] (bodyOf Try.f16) [.v (.int .i64 a), .v (.int .i64 b)] [] =
  Tree.br
  (bif !bif decide ((-4611686018427387904 : Int) ≤ a) then decide (a ≤ (4611686018427387904 : Int)) else false then true
  else
    bif !bif decide ((-4611686018427387904 : Int) ≤ b) then decide (b ≤ (4611686018427387904 : Int)) else false then
      true
    else
      bif decide ((0 : Int) < b) then
        bif decide (IntKind.i64.wrap ((4611686018427387904 : Int) - b) < a) then true
        else bif decide (b < (0 : Int)) then decide (a < IntKind.i64.wrap ((-4611686018427387904 : Int) - b)) else false
      else bif decide (b < (0 : Int)) then decide (a < IntKind.i64.wrap ((-4611686018427387904 : Int) - b)) else false)
  (Tree.leaf
    { val := AV.tup [AV.v (Value.int IntKind.i64 (0 : Int)), AV.v (Value.int IntKind.i64 (10 : Int))], H := [] })
  (Tree.leaf
    { val := AV.tup [AV.v (Value.int IntKind.i64 (IntKind.i64.wrap (a + b))), AV.v (Value.int IntKind.i64 (0 : Int))],
      H := [] }) := by kernel_rfl

theorem wrapE {x : Int} : IntKind.i64.wrap x = (x + 9223372036854775808) % 18446744073709551616 - 9223372036854775808 := by
  simp only [IntKind.wrap, IntKind.signed, IntKind.bits]; simp; omega
theorem le_tup2 {x y x' y' : Int} : AV.le (.tup [.v (.int .i64 x), .v (.int .i64 y)]) (.tup [.v (.int .i64 x'), .v (.int .i64 y')]) ↔ (x = x' ∧ y = y') := by
  constructor
  · intro h; cases h; exact ⟨rfl, rfl⟩
  · rintro ⟨rfl, rfl⟩; exact .refl _
def inN (n : Int) : Bool := decide (-4611686018427387904 ≤ n) && decide (n ≤ 4611686018427387904)
theorem inN_iff {n : Int} : inN n = true ↔ (-4611686018427387904 ≤ n ∧ n ≤ 4611686018427387904) := by simp [inN]
def addOk (a b : Int) : Bool := inN a && inN b && inN (a + b)
def addF (a b : Int) : Int := bif addOk a b then a + b else 0
def addE (a b : Int) : Int := bif addOk a b then 0 else 10
theorem add_yes {a b : Int} (h : addOk a b = true) : addF a b = a + b ∧ addE a b = 0 := by simp [addF, addE, h]
theorem add_no {a b : Int} (h : addOk a b = false) : addF a b = 0 ∧ addE a b = 10 := by simp [addF, addE, h]
def i64B (a : Int) : Bool := decide (-9223372036854775808 ≤ a) && decide (a ≤ 9223372036854775807)
theorem i64B_iff {a : Int} : i64B a = true ↔ (-9223372036854775808 ≤ a ∧ a ≤ 9223372036854775807) := by simp [i64B]
theorem law16 (a b : Int) : Gives (bodyE (P := Try.prog) (Γ := Γu) [S.c25] Lno false 37 [.tmp 4, .tmp 5] (bodyOf Try.f16) [.v (.int .i64 a), .v (.int .i64 b)] []) (.tup [.v (.int .i64 (addF a b)), .v (.int .i64 (addE a b))]) := ⟨by
  rw [run16]
  have hx : addOk a b = true ↔ ((-4611686018427387904 ≤ a ∧ a ≤ 4611686018427387904) ∧ (-4611686018427387904 ≤ b ∧ b ≤ 4611686018427387904) ∧ (-4611686018427387904 ≤ a + b ∧ a + b ≤ 4611686018427387904)) := by simp [addOk, inN]; omega
  cases h : addOk a b with
  | true =>
    obtain ⟨e1, e2⟩ := add_yes h
    have h' := hx.1 h
    rw [e1, e2]
    by_cases hb : 0 < b <;> by_cases hc : b < 0 <;> simp [hb, hc, le_tup2, wrapE] <;> (try omega) <;> (and_intros <;> intros <;> omega)
  | false =>
    obtain ⟨e1, e2⟩ := add_no h
    have h' := mt hx.2 (by rw [h]; exact Bool.false_ne_true)
    rw [e1, e2]
    by_cases hb : 0 < b <;> by_cases hc : b < 0 <;> simp [hb, hc, le_tup2, wrapE] <;> (try omega) <;> (intros; omega)⟩
theorem law15 (a b : Int) : Gives (bodyE (P := Try.prog) (Γ := Γu) [d23, d24] Lno false 33 [.tmp 4, .tmp 5] (bodyOf Try.f15) [.v (.int .i64 a), .v (.int .i64 b)] []) (.tup [.v (.int .i64 (addF a b)), .v (.int .i64 (addE a b))]) := ⟨by
  rw [run15]
  have hx : addOk a b = true ↔ ((-4611686018427387904 ≤ a ∧ a ≤ 4611686018427387904) ∧ (-4611686018427387904 ≤ b ∧ b ≤ 4611686018427387904) ∧ (-4611686018427387904 ≤ a + b ∧ a + b ≤ 4611686018427387904)) := by simp [addOk, inN]; omega
  cases h : addOk a b with
  | true =>
    obtain ⟨e1, e2⟩ := add_yes h
    have h' := hx.1 h
    rw [e1, e2]
    by_cases hb : 0 < b <;> by_cases hc : 0 < a <;> simp [hb, hc, le_tup2, wrapE] <;> (try omega) <;> (and_intros <;> intros <;> omega)
  | false =>
    obtain ⟨e1, e2⟩ := add_no h
    have h' := mt hx.2 (by rw [h]; exact Bool.false_ne_true)
    rw [e1, e2]
    by_cases hb : 0 < b <;> by_cases hc : 0 < a <;> simp [hb, hc, le_tup2, wrapE] <;> (try omega) <;> (and_intros <;> intros <;> omega)⟩
end Go.Eng.U
