/-
  tga.Get on any text.
-/
import Derived.Test.YtfkkppagbhllgaaTgaWalkO
set_option linter.unusedVariables false
namespace Go.Proofs.Ytfkkppagbhllgaa
open Go.RowKit
theorem get_any (s : List UInt8) (w : World) (hl : s.length ≤ 1000000) : Calls Try.prog 25 #[.string ⟨s.toArray⟩] w (GetRes s w) := by
  by_cases h : s.length < 18
  · exact get_short s w hl h
  · exact get_long s w hl (by omega)
end Go.Proofs.Ytfkkppagbhllgaa
