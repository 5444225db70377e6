/-
  WHAT THE LISTED VARIABLES GIVE: the table of powers of ten reads as the library's contract asks.
-/
import Derived.Test.YtcllghcplphijaaDoorTie
import Derived.Test.YtcllghcplphijaaDoorWideWalkJ
import Derived.ProofKit
import Derived.LaidMore
import Derived.LaidSub
import Derived.MakeChecks
import Derived.Lib.LaidTab
import Derived.Stop.Joined
namespace Go.Proofs.YtcllghcplphijaaDoor
open Go.ChangeShapes Go.WideShapes Go.RowKit

def laid3 : List (String × DataW Unit) := [("math/bits.deBruijn32tab", Rows.laid_math_bits_deBruijn32tab), ("math/bits.deBruijn64tab", Rows.laid_math_bits_deBruijn64tab), ("internal/strconv.uint64pow10", Rows.laid_internal_strconv_uint64pow10)]
theorem door_met (os : Os) (args : Array Value) : laidMetH Tryd.prog laid3 ((World.doorLaid Tryd.prog 400 os).forCall (fun _ _ => 0) ⟨#[], args, []⟩).memory :=
  laidMetH_of_parts3 (fuel := 8) (laidMet_of_run' 8 (by kernel_rfl) (by kernel_rfl)) (by kernel_rfl) (by kernel_rfl)
theorem tab_of {W : World} (h : laidMetH Tryd.prog laid3 W) : TabB W := by
  rw [MakeChecks.laidMetH_plain _ _ _ (by kernel_rfl)] at h
  have h1 := h.filter (fun x => x.1 == "internal/strconv.uint64pow10")
  have e : (laid3.filter fun x => x.1 == "internal/strconv.uint64pow10") = [("internal/strconv.uint64pow10", Lib.tabData .u64 Lib.pow10Tab)] := by rfl
  rw [e] at h1
  exact Lib.tabBelow_of_tabIs (Lib.tabIs_of_head (g := 0) (t := 105) (n := 20) (by kernel_rfl) (by kernel_rfl) Tryd.underlying105 Tryd.underlying91 (by kernel_rfl) (by kernel_rfl) h1)
end Go.Proofs.YtcllghcplphijaaDoor
