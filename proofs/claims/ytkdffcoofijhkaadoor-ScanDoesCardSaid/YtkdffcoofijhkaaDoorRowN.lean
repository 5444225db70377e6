/-
  A ROW OF BYTES IN MEMORY, its numbers as a list. Nothing of the program is named here.
-/
import Derived.Test.YtkdffcoofijhkaaDoorSlot
import Derived.Laws.IdiomStrings
set_option linter.unusedVariables false
set_option linter.unusedSimpArgs false
namespace Go.Proofs.YtkdffcoofijhkaaDoor
open Go.RowKit

/-- block g holds the bytes bs at its head, and they may be written -/
structure RowN (w : World) (g : Nat) (bs : List Nat) : Prop where
  c : ∀ (j d : Nat), bs[j]? = some d → w.cell? ⟨g, j, none⟩ = some (.int .u8 (d : Int))
  f : ∀ j, j < bs.length → w.frozen? ⟨g, j, none⟩ = false
theorem RowN.below {w w' : World} {g B : Nat} {bs : List Nat} (h : RowN w g bs) (hb : Below B w w') (hg : g < B) : RowN w' g bs :=
  ⟨fun j d hj => (hb.cell (p := ⟨g, j, none⟩) hg).trans (h.c j d hj), fun j hj => (hb.frozen (p := ⟨g, j, none⟩) hg).trans (h.f j hj)⟩
theorem RowN.drew {w : World} {g : Nat} {bs : List Nat} (h : RowN w g bs) : RowN w.drew g bs := ⟨h.c, h.f⟩
theorem RowN.set {w : World} {g : Nat} {bs : List Nat} (h : RowN w g bs) (j d : Nat) (hj : j < bs.length) : RowN (w.setCell ⟨g, j, none⟩ (.int .u8 (d : Int))) g (bs.set j d) := by
  have h0 := h.c j _ (List.getElem?_eq_getElem hj)
  refine ⟨fun i x hi => ?_, fun i hi => by rw [World.frozen?_setCell]; exact h.f i (by simpa using hi)⟩
  rw [List.getElem?_set] at hi
  by_cases e : j = i
  · subst e
    rw [if_pos rfl, if_pos hj] at hi
    injection hi with hi; subst hi
    rw [World.cell?_setCell_same' _ _ _ (by rw [h0]; rfl)]
  · rw [if_neg e] at hi
    rw [World.cell?_setCell_other _ _ _ _ (by intro h9; injection h9 with _ h9; exact e h9)]
    exact h.c i x hi
theorem RowN.of_bytes (w : World) (s : List UInt8) (cap : Nat) (hc : s.length ≤ cap) (e : TypeId) : RowN (w.drew.alloc (.cells (bytesRow ⟨s.toArray⟩ cap) e ((bytesRow ⟨s.toArray⟩ cap).size, (bytesRow ⟨s.toArray⟩ cap).size + 1))) w.heap.size (s.map UInt8.toNat) := by
  refine ⟨fun j d hj => ?_, fun j hj => ?_⟩
  · have := World.cell?_alloc_mark w.drew (bytesRow ⟨s.toArray⟩ cap) e ((bytesRow ⟨s.toArray⟩ cap).size, (bytesRow ⟨s.toArray⟩ cap).size + 1) j
    rw [show w.drew.heap.size = w.heap.size from rfl] at this
    rw [this]
    rw [List.getElem?_map] at hj
    cases hs : s[j]? with
    | none => rw [hs] at hj; cases hj
    | some x =>
      rw [hs] at hj
      simp only [Option.map_some, Option.some.injEq] at hj
      subst hj
      obtain ⟨hlt, hx⟩ := List.getElem?_eq_some_iff.1 hs
      rw [bytesRow_at _ _ j (by simpa using hlt)]
      simp [hx]
  · have := World.frozen?_alloc_mark w.drew (bytesRow ⟨s.toArray⟩ cap) e (bytesRow ⟨s.toArray⟩ cap).size ((bytesRow ⟨s.toArray⟩ cap).size + 1) j
    rw [show w.drew.heap.size = w.heap.size from rfl] at this
    rw [this]
    have hsz : s.length ≤ (bytesRow ⟨s.toArray⟩ cap).size := by unfold bytesRow; simp
    have hj' : j < s.length := by simpa using hj
    simp; omega
/-- the row as a text -/
theorem RowN.text {P : Program} {w : World} {g : Nat} {bs : List Nat} (h : RowN w g bs) (hb : ∀ d ∈ bs, d < 256) (n cap : Nat) (hn : n = bs.length) (src dst e : TypeId) (hs : P.underlying src = some (.slice e)) (he : P.underlying e = some (.int .u8)) (hd : P.underlying dst = some .string) :
    (convert src dst (.slice (some ⟨g, 0, none⟩) n cap)).run P w = .ok (.string ⟨(bs.map UInt8.ofNat).toArray⟩) w := by
  subst hn
  have := run_convert_bytes_back (P := P) w src dst e ⟨g, 0, none⟩ cap (bs.map UInt8.ofNat) hs he hd fun j hj => by
    rw [addr_lit]
    simp only [List.length_map] at hj
    rw [h.c j _ (List.getElem?_eq_getElem hj)]
    simp only [List.getElem_map, UInt8.toNat_ofNat']
    rw [Nat.mod_eq_of_lt (hb _ (List.getElem_mem hj))]
  rwa [List.length_map] at this
end Go.Proofs.YtkdffcoofijhkaaDoor
