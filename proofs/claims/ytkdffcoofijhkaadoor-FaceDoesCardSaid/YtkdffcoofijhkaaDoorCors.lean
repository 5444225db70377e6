/-
  WORDS FOR MEMORY: slices of corners (three ints) and of triangles (three corners). Nothing of the program is named here.
-/
import Derived.Test.YtkdffcoofijhkaaDoorSlot
import Derived.Test.YtkdffcoofijhkaaDoorFaceS
set_option linter.unusedVariables false
set_option linter.unusedSimpArgs false
namespace Go.Proofs.YtkdffcoofijhkaaDoor
open Go.RowKit

def cells3 (a : P3) : List Value := [.int .i64 a.a, .int .i64 a.b, .int .i64 a.c]
def cellsC (l : List P3) : List Value := l.flatMap cells3
theorem cellsC_length (l : List P3) : (cellsC l).length = l.length * 3 := flat_length cells3 3 (fun _ => rfl) l
structure T3 where
  p : P3
  q : P3
  r : P3
  deriving DecidableEq
def cells9 (t : T3) : List Value := cells3 t.p ++ cells3 t.q ++ cells3 t.r
def cellsT (l : List T3) : List Value := l.flatMap cells9
theorem cellsT_length (l : List T3) : (cellsT l).length = l.length * 9 := flat_length cells9 9 (fun _ => rfl) l
theorem cellsC_one (l : List P3) : ∀ u ∈ cellsC l, u.oneCell' = true := by
  intro u hu
  obtain ⟨p, _, h⟩ := List.mem_flatMap.1 hu
  simp only [cells3, List.mem_cons, List.not_mem_nil, or_false] at h
  rcases h with rfl | rfl | rfl <;> rfl
theorem cellsT_one (l : List T3) : ∀ u ∈ cellsT l, u.oneCell' = true := by
  intro u hu
  obtain ⟨p, _, h⟩ := List.mem_flatMap.1 hu
  simp only [cells9, cells3, List.mem_append, List.mem_cons, List.not_mem_nil, or_false] at h
  rcases h with ((rfl | rfl | rfl) | (rfl | rfl | rfl)) | (rfl | rfl | rfl) <;> rfl
/-- The slice '.slice A n c' reads as the corners l; its block lies below B. -/
structure Cors (w : World) (B : Nat) (A : Option Addr) (n : Nat) (l : List P3) : Prop where
  rd : Rd w B 3 A n (cellsC l)
  len : n ≤ 9223372036854775807
structure Tris (w : World) (B : Nat) (A : Option Addr) (n : Nat) (l : List T3) : Prop where
  rd : Rd w B 9 A n (cellsT l)
  len : n ≤ 9223372036854775807
section
variable {w w' : World} {B B' n : Nat} {A : Option Addr}
theorem Cors.length {l : List P3} (h : Cors w B A n l) : l.length = n := by have := h.rd.1; rw [cellsC_length] at this; omega
theorem Tris.length {l : List T3} (h : Tris w B A n l) : l.length = n := by have := h.rd.1; rw [cellsT_length] at this; omega
theorem Cors.below {l : List P3} (h : Cors w B A n l) {b : Nat} (hb : Below b w w') (hB : B ≤ b) : Cors w' B A n l := ⟨h.rd.below hb hB, h.len⟩
theorem Tris.below {l : List T3} (h : Tris w B A n l) {b : Nat} (hb : Below b w w') (hB : B ≤ b) : Tris w' B A n l := ⟨h.rd.below hb hB, h.len⟩
theorem Cors.more {l : List P3} (h : Cors w B A n l) (hB : B ≤ B') : Cors w B' A n l := ⟨h.rd.more hB, h.len⟩
theorem Tris.more {l : List T3} (h : Tris w B A n l) (hB : B ≤ B') : Tris w B' A n l := ⟨h.rd.more hB, h.len⟩
theorem Cors.get {l : List P3} {k : Nat} (h : Cors w B A n l) (hk : k < n) : ∃ ad a, A = some ad ∧ ad.block < B ∧ l[k]? = some a ∧ a ∈ l ∧
    w.cell? (ad.add (k * 3)) = some (.int .i64 a.a) ∧ w.cell? ⟨(ad.add (k * 3)).block, (ad.add (k * 3)).off + 1, none⟩ = some (.int .i64 a.b) ∧ w.cell? ⟨(ad.add (k * 3)).block, (ad.add (k * 3)).off + 2, none⟩ = some (.int .i64 a.c) := by
  obtain ⟨ad, e, hb, hc⟩ := h.rd.2 (by omega)
  have hl := h.length
  have hx : l[k]? = some (l[k]'(by omega)) := List.getElem?_eq_getElem (by omega)
  have g : ∀ j, j < 3 → (cellsC l)[k * 3 + j]? = (cells3 (l[k]'(by omega)))[j]? := fun j hj => by
    rw [cellsC, flat_get cells3 3 (fun _ => rfl) l k j hj, hx]; rfl
  refine ⟨ad, _, e, hb, hx, List.mem_of_getElem? hx, hc _ _ (g 0 (by omega)), ?_, ?_⟩
  · rw [← addr_off _ (by omega), addr_add_add]; exact hc _ _ (g 1 (by omega))
  · rw [← addr_off _ (by omega), addr_add_add]; exact hc _ _ (g 2 (by omega))
theorem Tris.get {l : List T3} {k : Nat} (h : Tris w B A n l) (hk : k < n) : ∃ ad t, A = some ad ∧ ad.block < B ∧ l[k]? = some t ∧ t ∈ l ∧
    ∀ j u, (cells9 t)[j]? = some u → w.cell? (ad.add (k * 9 + j)) = some u := by
  obtain ⟨ad, e, hb, hc⟩ := h.rd.2 (by omega)
  have hl := h.length
  have hx : l[k]? = some (l[k]'(by omega)) := List.getElem?_eq_getElem (by omega)
  refine ⟨ad, _, e, hb, hx, List.mem_of_getElem? hx, fun j u hu => hc _ _ ?_⟩
  have hj : j < 9 := by have := (List.getElem?_eq_some_iff.1 hu).1; simpa [cells9, cells3] using this
  rw [cellsT, flat_get cells9 9 (fun _ => rfl) l k j hj, hx]
  exact hu
end
/-- the triangles of a fan -/
def fanS (l : List P3) : List T3 := (List.range (l.length - 2)).map fun i => ⟨l.getD 0 ⟨0, 0, 0⟩, l.getD (i + 1) ⟨0, 0, 0⟩, l.getD (i + 2) ⟨0, 0, 0⟩⟩
theorem fanS_length (l : List P3) : (fanS l).length = l.length - 2 := by simp [fanS]
theorem fanS_get (l : List P3) (k : Nat) (a b c : P3) (h0 : l[0]? = some a) (h1 : l[k + 1]? = some b) (h2 : l[k + 2]? = some c) : (fanS l)[k]? = some ⟨a, b, c⟩ := by
  have hk : k < l.length - 2 := by have := (List.getElem?_eq_some_iff.1 h2).1; omega
  unfold fanS
  rw [List.getElem?_map, List.getElem?_range hk]
  simp only [Option.map_some, List.getD_eq_getElem?_getD, h0, h1, h2, Option.getD_some]
end Go.Proofs.YtkdffcoofijhkaaDoor
