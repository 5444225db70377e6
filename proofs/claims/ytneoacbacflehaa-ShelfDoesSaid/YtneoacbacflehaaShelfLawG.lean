/-
  THE LAW ShelfDoes, its cases joined.
-/
import Derived.Test.YtneoacbacflehaaShelfLawF
set_option linter.unusedVariables false
set_option linter.unusedSimpArgs false
namespace Go.Proofs.Ytneoacbacflehaa
open Go.RowKit

theorem does_law (A0 : Option Addr) (n0 c0 : Nat) (sky : List Int) (ww h most : Int) (r s : Rc) (A6 : Option Addr) (n6 c6 : Nat) (ps : List Pt) (A7 : Option Addr) (n7 c7 : Nat) (l : List Rc) (w : World)
    (hI : Ints w w.heap.size A0 n0 sky) (hc0 : n0 ≤ c0) (hm0 : c0 ≤ maxLen) (hP : Pts w w.heap.size A6 n6 ps) (hR : Rects w w.heap.size A7 n7 l) (hc7 : n7 ≤ c7) (bw : i64b ww) (bh : i64b h) (bm : i64b most) (br : r.b) (bs : s.b) :
    Calls Try.prog 3 #[.slice A0 n0 c0, .int .i64 ww, .int .i64 h, .int .i64 most, rcV r, rcV s, .slice A6 n6 c6, .slice A7 n7 c7] w fun e w' => e = .returned (.bool true) ∧ Below w.heap.size w w' := by
  by_cases hbig : (40 < n0 ∧ n0 ≤ 256) ∨ 300 < n0 ∨ 20 < n6 ∨ 20 < n7 ∨ (40 < ww ∧ ww ≤ 256)
  · exact does_big A0 n0 c0 ww h most r s A6 n6 c6 A7 n7 c7 w hI.len hP.len hR.len hbig
  · exact does_main A0 n0 c0 sky ww h most r s A6 n6 c6 ps A7 n7 c7 l w hI hc0 hm0 hP hR hc7 bw bh bm br bs (by omega) (by omega) (by omega) (by omega) (by omega)
end Go.Proofs.Ytneoacbacflehaa
