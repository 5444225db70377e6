/-
  TEXTS: sums of texts, strconv.Itoa by the shelf, what the library's variables hold.
-/
import Derived.Test.YtkdffcoofijhkaaDoorGeo
import Derived.Test.YtkdffcoofijhkaaDoorSlot
import Derived.Test.YtkdffcoofijhkaaDoorShelf
import Derived.Test.YtkdffcoofijhkaaDoorProg
import Derived.Lib.ItoaLen
import Derived.Lib.AppendIntMem
import Derived.Laws.Concat
import Derived.Laws.RangeAny
set_option linter.unusedVariables false
set_option linter.unusedSimpArgs false
set_option maxRecDepth 4000
namespace Go.Proofs.YtkdffcoofijhkaaDoor
open Go.RowKit

/-- the library's table of powers of ten reads so, whatever is written behind B -/
def TabB (w : World) : Prop := Lib.TabBelow Tryd.prog w.heap.size w "internal/strconv.uint64pow10" .u64 Lib.pow10Tab
theorem TabB.on {w w' : World} (h : TabB w) (hb : Below w.heap.size w w') : TabB w' := fun w'' h' => h w'' (hb.trans (h'.mono hb.size))
theorem itoa_any (n : Int) (w : World) (hn : i64b n) (hT : TabB w) :
    Calls Tryd.prog 50 #[.int .i64 n] w fun e w' => e = .returned (.string ⟨(Lib.itoa n).toArray⟩) ∧ Below w.heap.size w w' := by
  refine (Tryd.strconv_Itoa n hn.1 hn.2 w hT.here).mono ?_
  rintro e w' ⟨rfl, k, os, rfl⟩
  exact ⟨rfl, Lib.below_grow _ _ (Nat.le_refl _) _ _⟩
/-- a sum of strings -/
theorem run_cat {P : Program} (l m : List UInt8) (h : l.length + m.length ≤ 9223372036854775807) (w : World) :
    (Op.stringOp .add ⟨l.toArray⟩ ⟨m.toArray⟩).run P w = .ok (.string ⟨(l ++ m).toArray⟩) w := by
  rw [run_string_add_sum w _ _ (by simpa [ByteArray.size] using h), ByteArray.mk_append_mk]
/-- a text is handed back -/
def SR (w : World) (l : List UInt8) (e : Ending) (w' : World) : Prop := e = .returned (.string ⟨l.toArray⟩) ∧ Below w.heap.size w w'
/-- what the library's variables hold -/
structure Env (w : World) : Prop where
  tab : TabB w
  big : ∃ m, w.cell? ⟨0, 0, none⟩ = some (.int .i64 m)
  syn : ∃ t p, w.cell? ⟨1, 0, none⟩ = some (.iface t p)
  rng : ∃ t p, w.cell? ⟨2, 0, none⟩ = some (.iface t p)
theorem cell_on {w w' : World} {p : Addr} {v : Value} (h : w.cell? p = some v) (hb : Below w.heap.size w w') : w'.cell? p = some v := by
  rw [hb.cell (World.block_lt_of_cell? w p h)]; exact h
theorem Env.on {w w' : World} (h : Env w) (hb : Below w.heap.size w w') : Env w' :=
  ⟨h.tab.on hb, let ⟨m, hm⟩ := h.big; ⟨m, cell_on hm hb⟩, let ⟨t, p, hm⟩ := h.syn; ⟨t, p, cell_on hm hb⟩, let ⟨t, p, hm⟩ := h.rng; ⟨t, p, cell_on hm hb⟩⟩
end Go.Proofs.YtkdffcoofijhkaaDoor
