/-
  READING ARGUMENTS, MORE: bytes, slices of texts, structs of three ints and slices of them. Nothing of the program is named here.
-/
import Derived.Test.YtkdffcoofijhkaaDoorOpen
import Derived.Test.YtkdffcoofijhkaaDoorScanWalkF
import Derived.SliceStrings
set_option linter.unusedVariables false
set_option linter.unusedSimpArgs false
namespace Go.Proofs.YtkdffcoofijhkaaDoor
open Go.ChangeShapes Go.WideShapes Go.ChangeAt Go.RowKit Go.Deep
section
variable {H : Type} {enc : TypeId × Value → H} {P : Program} {w : World}
theorem read_u8 {r : Reach} {b0 : Nat} {t : TypeId} {v : Value} {d : DataW H} {p : List MemPlace} (ht : P.underlying t = some (.int .u8)) (hv : Value.okWide P w r b0 t v) (h : DataW.Trod enc P w 0 (fun _ => true) true t v d p) :
    ∃ x : Int, v = .int .u8 x ∧ 0 ≤ x ∧ x ≤ 255 := by
  obtain ⟨x, rfl, _, _, wx⟩ := open_int ht hv h
  exact ⟨x, rfl, bounds_u8 wx⟩
theorem read_strs {r : Reach} {b0 : Nat} {t e : TypeId} {v : Value} {d : DataW H} {p : List MemPlace} (ht : P.underlying t = some (.slice e)) (he : P.underlying e = some .string) (hc : P.cellsOf e = 1)
    (hv : Value.okWide P w r b0 t v) (h : DataW.Trod enc P w 0 (fun _ => true) true t v d p) :
    ∃ A n c ls, v = .slice A n c ∧ n ≤ c ∧ c ≤ maxLen ∧ Strs w w.heap.size A n ls ∧ ∀ l ∈ ls, l.length ≤ maxLen := by
  obtain ⟨a0, len, cap, rfl⟩ := okWide_slice ht hv
  obtain ⟨fuel, hf⟩ := h
  rcases open_strings ht he hc hf with ⟨hcs, _⟩ | ⟨a, len', cap', ss, hcs, _, hl, hm, hz, _, hcell, hwz⟩
  · simp [Value.cells] at hcs
    obtain ⟨rfl, rfl, rfl⟩ := hcs
    exact ⟨none, 0, 0, [], rfl, Nat.le_refl _, Nat.zero_le _, ⟨Rd.nil, by omega⟩, by simp⟩
  · simp [Value.cells] at hcs
    obtain ⟨rfl, rfl, rfl⟩ := hcs
    simp only [if_true] at hz
    have hlen : ((ss.map fun s : ByteArray => s.data.toList).take len).length = len := by simp; omega
    refine ⟨some a, len, cap, (ss.map fun s => s.data.toList).take len, rfl, hl, hm, ⟨⟨by rw [List.length_map, hlen, Nat.mul_one], fun hn => ⟨a, rfl, ?_, fun j u hu => ?_⟩⟩, by unfold maxLen at hm; omega⟩, fun l hx => ?_⟩
    · have := World.block_lt_of_cell? w _ (hcell 0 (by omega))
      rwa [show a.add 0 = a from rfl] at this
    · have hj : j < len := by
        have := (List.getElem?_eq_some_iff.1 hu).1
        rw [List.length_map, hlen] at this; exact this
      rw [hcell j (by omega), ← hu]
      rw [List.getElem?_map, List.getElem?_take, if_pos hj, List.getElem?_map, List.getElem?_eq_getElem (by omega)]
      simp only [Option.map_some, strV, List.getD_eq_getElem?_getD, List.getElem?_eq_getElem (show j < ss.length by omega), Option.getD_some, Lib.mk_data]
    · obtain ⟨s, hs, rfl⟩ := List.mem_map.1 (List.mem_of_mem_take hx)
      have := hwz s hs
      rw [Lib.size_eq] at this; exact this
end
end Go.Proofs.YtkdffcoofijhkaaDoor
