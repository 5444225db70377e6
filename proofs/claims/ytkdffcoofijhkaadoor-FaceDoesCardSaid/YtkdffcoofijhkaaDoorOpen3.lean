/-
  READING ARGUMENTS, YET MORE: structs of three ints and slices of them. Nothing of the program is named here but the shapes.
-/
import Derived.Test.YtkdffcoofijhkaaDoorOpen2
import Derived.Test.YtkdffcoofijhkaaDoorFaceWalkC
import Derived.Test.YtkdffcoofijhkaaDoorCors
set_option linter.unusedVariables false
set_option linter.unusedSimpArgs false
namespace Go.Proofs.YtkdffcoofijhkaaDoor
open Go.ChangeShapes Go.WideShapes Go.ChangeAt Go.RowKit Go.Deep
section
variable {H : Type} {enc : TypeId × Value → H} {P : Program} {w : World}
theorem read_v3 {r : Reach} {b0 : Nat} {t : TypeId} {fs : Array Field} {v : Value} {d : DataW H} {p : List MemPlace} (ht : P.underlying t = some (.struct fs))
    (hone : oneCellFields P fs = true) (hC : P.cellsOf t = fs.size) (h3 : fs.size = 3) (hint : intFields P fs = true) (hv : Value.okWide P w r b0 t v) (h : DataW.Trod enc P w 0 (fun _ => true) true t v d p) :
    ∃ a : P3, v = p3V a ∧ a.bd := by
  obtain ⟨cs, rfl, hs, hj⟩ := read_agg ht hone hC hint hv h
  rw [h3] at hs hj
  obtain ⟨x, hx, bx⟩ := hj 0 (by omega)
  obtain ⟨y, hy, by'⟩ := hj 1 (by omega)
  obtain ⟨z, hz, bz⟩ := hj 2 (by omega)
  refine ⟨⟨x, y, z⟩, ?_, bx, by', bz⟩
  obtain ⟨l⟩ := cs
  match l, hs with
  | [c0, c1, c2], _ =>
    simp at hx hy hz
    simp [p3V, hx, hy, hz]
theorem read_corners {r : Reach} {b0 : Nat} {t e : TypeId} {fs : Array Field} {v : Value} {d : DataW H} {p : List MemPlace} (ht : P.underlying t = some (.slice e)) (he : P.underlying e = some (.struct fs))
    (hone : oneCellFields P fs = true) (hC : P.cellsOf e = fs.size) (h3 : fs.size = 3) (hint : intFields P fs = true)
    (hv : Value.okWide P w r b0 t v) (h : DataW.Trod enc P w 0 (fun _ => true) true t v d p) :
    ∃ A n c l, v = .slice A n c ∧ n ≤ c ∧ c ≤ maxLen ∧ Cors w w.heap.size A n l ∧ ∀ x ∈ l, x.bd := by
  rcases read_structs ht he hone hC hint hv h with rfl | ⟨a, n, c, rfl, hn, hc, hcell⟩
  · exact ⟨none, 0, 0, [], rfl, Nat.le_refl _, Nat.zero_le _, ⟨Rd.nil, by omega⟩, fun x hx => by simp at hx⟩
  · rw [h3] at hcell
    obtain ⟨l, hl, hf⟩ := list_of n (fun i (p : P3) => w.cell? (a.add (i * 3 + 0)) = some (.int .i64 p.a) ∧ w.cell? (a.add (i * 3 + 1)) = some (.int .i64 p.b) ∧ w.cell? (a.add (i * 3 + 2)) = some (.int .i64 p.c) ∧ p.bd) (fun i hi => by
      obtain ⟨x, hx, bx⟩ := hcell i (by omega) 0 (by omega)
      obtain ⟨y, hy, by'⟩ := hcell i (by omega) 1 (by omega)
      obtain ⟨z, hz, bz⟩ := hcell i (by omega) 2 (by omega)
      exact ⟨⟨x, y, z⟩, hx, hy, hz, bx, by', bz⟩)
    refine ⟨some a, n, c, l, rfl, hn, hc, ⟨⟨by rw [cellsC_length, hl], fun h0 => ⟨a, rfl, ?_, fun j u hu => ?_⟩⟩, by unfold maxLen at hc; omega⟩, fun p hp => ?_⟩
    · obtain ⟨x, hx, _⟩ := hcell 0 (by omega) 0 (by omega)
      exact World.block_lt_of_cell? w _ hx
    · have hj : j < n * 3 := by
        have := (List.getElem?_eq_some_iff.1 hu).1
        rw [cellsC_length] at this; omega
      have e1 : j = j / 3 * 3 + j % 3 := by omega
      rw [e1] at hu ⊢
      rw [cellsC, flat_get cells3 3 (fun _ => rfl) l _ _ (by omega)] at hu
      have hx : l[j / 3]? = some (l[j / 3]'(by omega)) := List.getElem?_eq_getElem (by omega)
      rw [hx] at hu
      obtain ⟨f1, f2, f3, _⟩ := hf _ _ hx
      rcases (show j % 3 = 0 ∨ j % 3 = 1 ∨ j % 3 = 2 by omega) with h | h | h <;> rw [h] at hu ⊢ <;> simp [cells3] at hu <;> subst hu
      · exact f1
      · exact f2
      · exact f3
    · obtain ⟨i, hi, he⟩ := List.getElem_of_mem hp
      exact (hf i p (by rw [List.getElem?_eq_getElem hi, he])).2.2.2
end
end Go.Proofs.YtkdffcoofijhkaaDoor
