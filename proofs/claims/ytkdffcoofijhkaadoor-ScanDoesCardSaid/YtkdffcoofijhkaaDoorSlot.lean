/-
  A VARIABLE OF SOME CELLS IN MEMORY. Nothing of the program is named here.
-/
import Derived.Test.YtkdffcoofijhkaaDoorGeo
set_option linter.unusedVariables false
set_option linter.unusedSimpArgs false
namespace Go.Proofs.YtkdffcoofijhkaaDoor
open Go.RowKit

/-- block g holds the cells cs, and may be written -/
structure SlotN (w : World) (g : Nat) (cs : List Value) : Prop where
  c : ∀ j u, cs[j]? = some u → w.cell? ⟨g, j, none⟩ = some u
  f : ∀ j, w.frozen? ⟨g, j, none⟩ = false
theorem SlotN.new (w : World) (cs : List Value) (cs' : Array Value) (t : TypeId) (h : cs' = cs.toArray) : SlotN (w.alloc (.cells cs' t)) w.heap.size cs := by
  subst h
  have h := heap_alloc_new w (.cells cs.toArray t)
  refine ⟨fun j u hj => ?_, fun j => frozen_of_row _ _ _ _ _ h⟩
  rw [cell_of_row _ _ _ _ _ _ h]
  simpa using hj
theorem SlotN.below {w w' : World} {g B : Nat} {cs : List Value} (h : SlotN w g cs) (hb : Below B w w') (hg : g < B) : SlotN w' g cs :=
  ⟨fun j u hj => (hb.cell (p := ⟨g, j, none⟩) hg).trans (h.c j u hj), fun j => (hb.frozen (p := ⟨g, j, none⟩) hg).trans (h.f j)⟩
theorem SlotN.drewN {w : World} {g : Nat} {cs : List Value} (h : SlotN w g cs) (q : Nat) : SlotN (w.drewN q) g cs := ⟨h.c, h.f⟩
theorem SlotN.set2 {w : World} {g : Nat} {a b : Value} (h : SlotN w g [a, b]) (a' b' : Value) : SlotN ((w.setCell ⟨g, 0, none⟩ a').setCell ⟨g, 1, none⟩ b') g [a', b'] := by
  have h0 := h.c 0 _ rfl
  have h1 := h.c 1 _ rfl
  refine ⟨fun j u hj => ?_, fun j => by rw [World.frozen?_setCell, World.frozen?_setCell]; exact h.f j⟩
  rcases (show j = 0 ∨ j = 1 ∨ 2 ≤ j by omega) with rfl | rfl | h2
  · simp at hj; subst hj
    rw [World.cell?_setCell_other _ _ _ _ (by simp), World.cell?_setCell_same' _ _ _ (by rw [h0]; rfl)]
  · simp at hj; subst hj
    rw [World.cell?_setCell_same' _ _ _ (by rw [World.cell?_setCell_other _ _ _ _ (by simp), h1]; rfl)]
  · rw [List.getElem?_eq_none (by simp; omega)] at hj; cases hj
theorem SlotN.set1 {w : World} {g : Nat} {a : Value} {l : List Value} (h : SlotN w g (a :: l)) (a' : Value) : SlotN (w.setCell ⟨g, 0, none⟩ a') g (a' :: l) := by
  have h0 := h.c 0 _ rfl
  refine ⟨fun j u hj => ?_, fun j => by rw [World.frozen?_setCell]; exact h.f j⟩
  cases j with
  | zero =>
    simp at hj; subst hj
    rw [World.cell?_setCell_same' _ _ _ (by rw [h0]; rfl)]
  | succ j =>
    rw [World.cell?_setCell_other _ _ _ _ (by simp)]
    exact h.c (j + 1) u hj
/-- A Below that starts behind a new block. -/
theorem below_alloc_lt {B : Nat} {w w' : World} {o : Obj} (h : Below (w.heap.size + 1) (w.alloc o) w') (hB : B ≤ w.heap.size) : Below B w w' :=
  ((Below.refl B w).alloc hB o).trans (h.mono (by omega))
end Go.Proofs.YtkdffcoofijhkaaDoor
