/-
  TEXTS: sums and pieces of texts. Nothing of the program is named here.
-/
import Derived.Test.YtfkkppagbhllgaaGeo
import Derived.Test.YtfkkppagbhllgaaSlot
import Derived.Laws.Concat
import Derived.Laws.RangeAny
import Derived.Laws.DeepStrings4
set_option linter.unusedVariables false
set_option linter.unusedSimpArgs false
set_option maxRecDepth 4000
namespace Go.Proofs.Ytfkkppagbhllgaa
open Go.RowKit

/-- a sum of strings -/
theorem run_cat {P : Program} (l m : List UInt8) (h : l.length + m.length ≤ 9223372036854775807) (w : World) :
    (Op.stringOp .add ⟨l.toArray⟩ ⟨m.toArray⟩).run P w = .ok (.string ⟨(l ++ m).toArray⟩) w := by
  rw [run_string_add_sum w _ _ (by simpa [ByteArray.size] using h), ByteArray.mk_append_mk]
def strV (l : List UInt8) : Value := .string ⟨l.toArray⟩
/-- a text is handed back -/
def SR (w : World) (l : List UInt8) (e : Ending) (w' : World) : Prop := e = .returned (.string ⟨l.toArray⟩) ∧ Below w.heap.size w w'
/-- a piece of a text -/
theorem run_sl {P : Program} (t : TypeId) (l : List UInt8) (a b : Int) (i j : Nat) (ha : a = (i : Int)) (hb : b = (j : Int)) (h1 : i ≤ j) (h2 : j ≤ l.length) (hu : P.underlying t = some .string) (W : World) :
    (Instr.slice t (.string ⟨l.toArray⟩) (some (.int .i64 a)) (some (.int .i64 b)) none).run P W = .ok (.string ⟨((l.drop i).take (j - i)).toArray⟩) W := by
  subst ha; subst hb
  rw [run_slice_string_if W t _ .i64 .i64 _ _ hu, if_pos (by simp [ByteArray.size]; omega), if_pos (by omega)]
  rw [ByteArray.extract_mk]
  have : List.take ((j : Int).toNat - (i : Int).toNat) (List.drop (i : Int).toNat l) = (l.drop i).take (j - i) := by simp
  rw [this]
theorem run_sl_to {P : Program} (t : TypeId) (l : List UInt8) (b : Int) (j : Nat) (hb : b = (j : Int)) (h2 : j ≤ l.length) (hu : P.underlying t = some .string) (W : World) :
    (Instr.slice t (.string ⟨l.toArray⟩) none (some (.int .i64 b)) none).run P W = .ok (.string ⟨(l.take j).toArray⟩) W := by
  subst hb
  rw [run_slice_string_to_if W t _ .i64 _ hu, if_pos (by simp [ByteArray.size]; omega)]
  rw [ByteArray.extract_mk]
  have : List.take ((j : Int).toNat - 0) (List.drop 0 l) = l.take j := by simp
  rw [this]
theorem run_sl_from {P : Program} (t : TypeId) (l : List UInt8) (b : Int) (j : Nat) (hb : b = (j : Int)) (h2 : j ≤ l.length) (hu : P.underlying t = some .string) (W : World) :
    (Instr.slice t (.string ⟨l.toArray⟩) (some (.int .i64 b)) none none).run P W = .ok (.string ⟨(l.drop j).toArray⟩) W := by
  subst hb
  rw [run_slice_string_from_if W t _ .i64 _ hu, if_pos (by simp [ByteArray.size]; omega)]
  rw [ByteArray.extract_mk]
  have : List.take ((ByteArray.mk l.toArray).size - (j : Int).toNat) (List.drop (j : Int).toNat l) = l.drop j := by
    simp [ByteArray.size]
    exact List.take_of_length_le (by simp)
  rw [this]
end Go.Proofs.Ytfkkppagbhllgaa
