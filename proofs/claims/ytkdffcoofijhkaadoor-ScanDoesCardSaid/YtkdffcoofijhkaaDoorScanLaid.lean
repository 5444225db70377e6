/-
  WHAT THE LISTED VARIABLES GIVE: the table of powers of ten, the two errors, as the library's contracts ask; a world in which they are laid.
-/
import Derived.Test.YtkdffcoofijhkaaDoorTie
import Derived.Test.YtkdffcoofijhkaaDoorStr
import Derived.Test.YtkdffcoofijhkaaDoorHand
import Derived.ProofKit
import Derived.LaidMore
import Derived.LaidSub
import Derived.Lay
import Derived.MakeChecks
import Derived.Lib.LaidTab
import Derived.Shelf.Vars
import Derived.Stop.Joined
set_option maxRecDepth 100000
namespace Go.Proofs.YtkdffcoofijhkaaDoor
open Go.ChangeShapes Go.WideShapes Go.RowKit

def laid7 : List (String × DataW Unit) := [("math/bits.deBruijn32tab", Rows.laid_math_bits_deBruijn32tab), ("math/bits.deBruijn64tab", Rows.laid_math_bits_deBruijn64tab), ("internal/strconv.uint64pow10", Rows.laid_internal_strconv_uint64pow10), ("unicode/utf8.acceptRanges", Rows.laid_unicode_utf8_acceptRanges), ("strconv.ErrRange", Rows.laid_strconv_ErrRange), ("strconv.ErrSyntax", Rows.laid_strconv_ErrSyntax), ("unicode/utf8.first", Rows.laid_unicode_utf8_first)]
noncomputable def start7 (os : Os) : World := World.laidAll Tryd.prog os laid7
theorem start_os (os : Os) : (start7 os).os = os := World.laidAll_os _ _ _
theorem start_shaped (os : Os) : (start7 os).Shaped Tryd.prog := World.shaped_of_ZipB (by kernel_rfl) (by kernel_rfl)
theorem start_met (os : Os) (args : Array Value) : laidMetH Tryd.prog laid7 ((start7 os).forCall (fun _ _ => 0) ⟨#[], args, []⟩).memory := by
  rw [MakeChecks.laidMetH_plain _ _ _ (by kernel_rfl)]
  exact laidMet_laidAll _ (by kernel_rfl) (by kernel_rfl)
theorem iface_cell {W : World} {name nm : String} {d : DataW Unit} {g : Nat} {t : TypeId} {ms : Array (String × TypeId)} (h : laidMet Tryd.prog [(name, .iface nm d)] W) (hg : Tryd.prog.globalNamed name = some g) (ht : (Tryd.prog.globals[g]?).map (·.type) = some t) (hi : Tryd.prog.underlying t = some (.interface ms)) :
    ∃ u v, W.cell? ⟨g, 0, none⟩ = some (.iface u v) := by
  obtain ⟨ps, ⟨g', t', cs, fuel, p, q, hg', ht', hv, hd, _, _⟩, _, _⟩ := h
  obtain rfl := Option.some.inj (hg.symm.trans hg')
  obtain rfl := Option.some.inj (ht.symm.trans ht')
  obtain ⟨_, u, v, e, _, _⟩ := iface_of_trod hi hd
  refine ⟨u, v, ?_⟩
  rw [World.var?_cell hg hv 0]
  have : cs.toList[0]? = some (.iface u v) := by rw [e]; rfl
  simpa using this
theorem env_of {W : World} (h : laidMetH Tryd.prog laid7 W) (hs : W.ShapedOpen Tryd.prog) : Env W := by
  rw [MakeChecks.laidMetH_plain _ _ _ (by kernel_rfl)] at h
  have h1 := h.filter (fun x => x.1 == "internal/strconv.uint64pow10")
  have e1 : (laid7.filter fun x => x.1 == "internal/strconv.uint64pow10") = [("internal/strconv.uint64pow10", Lib.tabData .u64 Lib.pow10Tab)] := by rfl
  rw [e1] at h1
  have h2 := h.filter (fun x => x.1 == "strconv.ErrSyntax")
  have e2 : (laid7.filter fun x => x.1 == "strconv.ErrSyntax") = [("strconv.ErrSyntax", Rows.laid_strconv_ErrSyntax)] := by rfl
  rw [e2] at h2
  have h3 := h.filter (fun x => x.1 == "strconv.ErrRange")
  have e3 : (laid7.filter fun x => x.1 == "strconv.ErrRange") = [("strconv.ErrRange", Rows.laid_strconv_ErrRange)] := by rfl
  rw [e3] at h3
  exact ⟨Lib.tabBelow_of_tabIs (Lib.tabIs_of_head (g := 3) (t := 145) (n := 20) (by kernel_rfl) (by kernel_rfl) Tryd.underlying145 Tryd.underlying125 (by kernel_rfl) (by kernel_rfl) h1),
    Go.Proofs.cell_of_shapedOpen_int (zero := #[.int .i64 0]) (t := 3) hs (of_decide_eq_true (by kernel_rfl)) (by kernel_rfl) rfl (by kernel_rfl) (by kernel_rfl) Tryd.underlying3,
    iface_cell h2 (by kernel_rfl) (by kernel_rfl) Tryd.underlying77, iface_cell h3 (by kernel_rfl) (by kernel_rfl) Tryd.underlying77⟩
end Go.Proofs.YtkdffcoofijhkaaDoor
