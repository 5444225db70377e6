/-
  PIECES AND BYTES OF TEXTS, as runs. Nothing of the program is named here but the string's type.
-/
import Derived.Test.YtkdffcoofijhkaaDoorStr
set_option linter.unusedVariables false
set_option linter.unusedSimpArgs false
set_option maxRecDepth 8000
namespace Go.Proofs.YtkdffcoofijhkaaDoor
open Go.RowKit

theorem run_sl {P : Program} (t : TypeId) (l : List UInt8) (a b : Int) (i j : Nat) (ha : a = (i : Int)) (hb : b = (j : Int)) (h1 : i ≤ j) (h2 : j ≤ l.length) (hu : P.underlying t = some .string) (W : World) :
    (Instr.slice t (.string ⟨l.toArray⟩) (some (.int .i64 a)) (some (.int .i64 b)) none).run P W = .ok (.string ⟨((l.drop i).take (j - i)).toArray⟩) W := by
  subst ha; subst hb
  rw [run_slice_string_if W t _ .i64 .i64 _ _ hu, if_pos (by simp [ByteArray.size]; omega), if_pos (by omega)]
  rw [ByteArray.extract_mk]
  have : List.take ((j : Int).toNat - (i : Int).toNat) (List.drop (i : Int).toNat l) = (l.drop i).take (j - i) := by simp
  rw [this]
theorem run_sl_from {P : Program} (t : TypeId) (l : List UInt8) (b : Int) (j : Nat) (hb : b = (j : Int)) (h2 : j ≤ l.length) (hu : P.underlying t = some .string) (W : World) :
    (Instr.slice t (.string ⟨l.toArray⟩) (some (.int .i64 b)) none none).run P W = .ok (.string ⟨(l.drop j).toArray⟩) W := by
  subst hb
  rw [run_slice_string_from_if W t _ .i64 _ hu, if_pos (by simp [ByteArray.size]; omega)]
  rw [ByteArray.extract_mk]
  have : List.take ((ByteArray.mk l.toArray).size - (j : Int).toNat) (List.drop (j : Int).toNat l) = l.drop j := by
    simp [ByteArray.size]
    exact List.take_of_length_le (by simp)
  rw [this]
theorem idx_str (l : List UInt8) (i : Nat) (k : Int) (c : UInt8) (h : l[i]? = some c) (hk : k = (i : Int)) (W : World) : Sem.run Tryd.prog (Instr.index 9 (.string ⟨l.toArray⟩) (.int .i64 k)) W = .ok (.int .u8 (c.toNat : Int)) W := by
  subst hk
  obtain ⟨hi, e⟩ := List.getElem?_eq_some_iff.1 h
  have hs : i < (⟨l.toArray⟩ : ByteArray).size := by simpa [ByteArray.size] using hi
  simp [go_sem, hs]
  rw [dif_pos hi]
  have : (⟨l.toArray⟩ : ByteArray)[i] = l[i] := rfl
  rw [this, e]
theorem u8_eq (c : UInt8) (k : Nat) (hk : k < 256) : (((c.toNat : Nat) : Int) == (k : Int)) = (c == UInt8.ofNat k) := by
  rw [Bool.eq_iff_iff]
  simp only [beq_iff_eq]
  constructor
  · intro h
    apply UInt8.toNat.inj
    rw [UInt8.toNat_ofNat', Nat.mod_eq_of_lt hk]; omega
  · rintro rfl
    rw [UInt8.toNat_ofNat', Nat.mod_eq_of_lt hk]
end Go.Proofs.YtkdffcoofijhkaaDoor
