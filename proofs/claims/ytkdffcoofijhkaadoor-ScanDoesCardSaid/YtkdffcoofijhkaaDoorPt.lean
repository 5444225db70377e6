/-
  POINTS AND RECTANGLES as plain structures of integers. No program in sight.
-/
set_option linter.unusedVariables false
set_option linter.unusedSimpArgs false
namespace Go.Proofs.YtkdffcoofijhkaaDoor

structure Pt where
  x : Int
  y : Int
  deriving DecidableEq
structure Rc where
  x : Int
  y : Int
  w : Int
  h : Int
  deriving DecidableEq

end Go.Proofs.YtkdffcoofijhkaaDoor
