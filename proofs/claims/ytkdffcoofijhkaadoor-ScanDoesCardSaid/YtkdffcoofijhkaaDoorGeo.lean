/-
  WORDS FOR MEMORY, MORE: a slice of structs of two and of four ints. Nothing of the program is named here.
-/
import Derived.Test.YtkdffcoofijhkaaDoorBase
import Derived.Test.YtkdffcoofijhkaaDoorPt
set_option linter.unusedVariables false
set_option linter.unusedSimpArgs false
namespace Go.Proofs.YtkdffcoofijhkaaDoor
open Go.RowKit

theorem flat_get {α : Type} (f : α → List Value) (s : Nat) (hf : ∀ a, (f a).length = s) (l : List α) (k j : Nat) (hj : j < s) :
    (l.flatMap f)[k * s + j]? = (l[k]?).bind fun a => (f a)[j]? := by
  induction l generalizing k with
  | nil => simp
  | cons a l ih =>
    rw [List.flatMap_cons]
    cases k with
    | zero => rw [List.getElem?_append_left (by rw [hf]; omega)]; simp
    | succ k =>
      have e : (k + 1) * s = k * s + s := Nat.succ_mul k s
      rw [List.getElem?_append_right (by rw [hf]; omega), hf, show (k + 1) * s + j - s = k * s + j by omega, ih]
      simp
theorem flat_length {α : Type} (f : α → List Value) (s : Nat) (hf : ∀ a, (f a).length = s) (l : List α) : (l.flatMap f).length = l.length * s := by
  induction l with
  | nil => simp
  | cons a l ih => rw [List.flatMap_cons, List.length_append, hf, ih, List.length_cons, Nat.succ_mul]; omega
theorem addr_off (a : Addr) {j : Nat} (hj : 0 < j) : a.add j = ⟨a.block, a.off + j, none⟩ := by unfold Addr.add; rw [if_neg (by omega)]

def i64b (x : Int) : Prop := -9223372036854775808 ≤ x ∧ x ≤ 9223372036854775807

def cells2 (p : Pt) : List Value := [.int .i64 p.x, .int .i64 p.y]
def cellsP (l : List Pt) : List Value := l.flatMap cells2
def cells4 (r : Rc) : List Value := [.int .i64 r.x, .int .i64 r.y, .int .i64 r.w, .int .i64 r.h]
def cellsR (l : List Rc) : List Value := l.flatMap cells4
theorem cellsP_length (l : List Pt) : (cellsP l).length = l.length * 2 := flat_length cells2 2 (fun _ => rfl) l
theorem cellsR_length (l : List Rc) : (cellsR l).length = l.length * 4 := flat_length cells4 4 (fun _ => rfl) l
theorem cellsP_one (l : List Pt) : ∀ u ∈ cellsP l, u.oneCell' = true := by
  intro u hu
  obtain ⟨p, _, h⟩ := List.mem_flatMap.1 hu
  simp only [cells2, List.mem_cons, List.not_mem_nil, or_false] at h
  rcases h with rfl | rfl <;> rfl
theorem cellsR_one (l : List Rc) : ∀ u ∈ cellsR l, u.oneCell' = true := by
  intro u hu
  obtain ⟨p, _, h⟩ := List.mem_flatMap.1 hu
  simp only [cells4, List.mem_cons, List.not_mem_nil, or_false] at h
  rcases h with rfl | rfl | rfl | rfl <;> rfl

def Pt.b (p : Pt) : Prop := i64b p.x ∧ i64b p.y
def Rc.b (r : Rc) : Prop := i64b r.x ∧ i64b r.y ∧ i64b r.w ∧ i64b r.h
def ptV (p : Pt) : Value := .agg #[.int .i64 p.x, .int .i64 p.y]
def rcV (r : Rc) : Value := .agg #[.int .i64 r.x, .int .i64 r.y, .int .i64 r.w, .int .i64 r.h]

structure Pts (w : World) (B : Nat) (A : Option Addr) (n : Nat) (l : List Pt) : Prop where
  rd : Rd w B 2 A n (cellsP l)
  b : ∀ p ∈ l, p.b
  len : n ≤ 9223372036854775807
structure Rects (w : World) (B : Nat) (A : Option Addr) (n : Nat) (l : List Rc) : Prop where
  rd : Rd w B 4 A n (cellsR l)
  b : ∀ r ∈ l, r.b
  len : n ≤ 9223372036854775807

section
variable {w w' : World} {B B' n : Nat} {A : Option Addr}
theorem Pts.length {l : List Pt} (h : Pts w B A n l) : l.length = n := by have := h.rd.1; rw [cellsP_length] at this; omega
theorem Rects.length {l : List Rc} (h : Rects w B A n l) : l.length = n := by have := h.rd.1; rw [cellsR_length] at this; omega
theorem Pts.get {l : List Pt} {k : Nat} (h : Pts w B A n l) (hk : k < n) : ∃ ad p, A = some ad ∧ ad.block < B ∧ l[k]? = some p ∧ p ∈ l ∧ p.b ∧
    w.cell? (ad.add (k * 2)) = some (.int .i64 p.x) ∧ w.cell? ⟨(ad.add (k * 2)).block, (ad.add (k * 2)).off + 1, none⟩ = some (.int .i64 p.y) := by
  obtain ⟨ad, e, hb, hc⟩ := h.rd.2 (by omega)
  have hl := h.length
  have hx : l[k]? = some (l[k]'(by omega)) := List.getElem?_eq_getElem (by omega)
  have g : ∀ j, j < 2 → (cellsP l)[k * 2 + j]? = (cells2 (l[k]'(by omega)))[j]? := fun j hj => by
    rw [cellsP, flat_get cells2 2 (fun _ => rfl) l k j hj, hx]; rfl
  refine ⟨ad, _, e, hb, hx, List.mem_of_getElem? hx, h.b _ (List.mem_of_getElem? hx), hc _ _ (g 0 (by omega)), ?_⟩
  rw [← addr_off _ (by omega), addr_add_add]
  exact hc _ _ (g 1 (by omega))
theorem Rects.get {l : List Rc} {k : Nat} (h : Rects w B A n l) (hk : k < n) : ∃ ad r, A = some ad ∧ ad.block < B ∧ l[k]? = some r ∧ r ∈ l ∧ r.b ∧
    w.cell? (ad.add (k * 4)) = some (.int .i64 r.x) ∧ w.cell? ⟨(ad.add (k * 4)).block, (ad.add (k * 4)).off + 1, none⟩ = some (.int .i64 r.y) ∧
    w.cell? ⟨(ad.add (k * 4)).block, (ad.add (k * 4)).off + 2, none⟩ = some (.int .i64 r.w) ∧ w.cell? ⟨(ad.add (k * 4)).block, (ad.add (k * 4)).off + 3, none⟩ = some (.int .i64 r.h) := by
  obtain ⟨ad, e, hb, hc⟩ := h.rd.2 (by omega)
  have hl := h.length
  have hx : l[k]? = some (l[k]'(by omega)) := List.getElem?_eq_getElem (by omega)
  have g : ∀ j, j < 4 → (cellsR l)[k * 4 + j]? = (cells4 (l[k]'(by omega)))[j]? := fun j hj => by
    rw [cellsR, flat_get cells4 4 (fun _ => rfl) l k j hj, hx]; rfl
  refine ⟨ad, _, e, hb, hx, List.mem_of_getElem? hx, h.b _ (List.mem_of_getElem? hx), hc _ _ (g 0 (by omega)), ?_, ?_, ?_⟩
  · rw [← addr_off _ (by omega), addr_add_add]; exact hc _ _ (g 1 (by omega))
  · rw [← addr_off _ (by omega), addr_add_add]; exact hc _ _ (g 2 (by omega))
  · rw [← addr_off _ (by omega), addr_add_add]; exact hc _ _ (g 3 (by omega))
theorem Pts.below {l : List Pt} (h : Pts w B A n l) {b : Nat} (hb : Below b w w') (hB : B ≤ b) : Pts w' B A n l := ⟨h.rd.below hb hB, h.b, h.len⟩
theorem Rects.below {l : List Rc} (h : Rects w B A n l) {b : Nat} (hb : Below b w w') (hB : B ≤ b) : Rects w' B A n l := ⟨h.rd.below hb hB, h.b, h.len⟩
theorem Pts.more {l : List Pt} (h : Pts w B A n l) (hB : B ≤ B') : Pts w B' A n l := ⟨h.rd.more hB, h.b, h.len⟩
theorem Rects.more {l : List Rc} (h : Rects w B A n l) (hB : B ≤ B') : Rects w B' A n l := ⟨h.rd.more hB, h.b, h.len⟩
/-- The first m. -/
theorem Rects.take {l : List Rc} {m : Nat} (h : Rects w B A n l) (hm : m ≤ n) : Rects w B A m (l.take m) := by
  have hl := h.length
  refine ⟨⟨by rw [cellsR_length, List.length_take]; omega, fun h0 => ?_⟩, fun r hr => h.b r (List.mem_of_mem_take hr), by have := h.len; omega⟩
  obtain ⟨ad, e, hb, hc⟩ := h.rd.2 (by omega)
  refine ⟨ad, e, hb, fun j u hu => hc j u ?_⟩
  rw [← hu]
  have hj : j < m * 4 := by
    have := (List.getElem?_eq_some_iff.1 hu).1
    rw [cellsR_length, List.length_take] at this; omega
  have e1 : j = j / 4 * 4 + j % 4 := by omega
  rw [e1, cellsR, cellsR, flat_get cells4 4 (fun _ => rfl) l _ _ (by omega), flat_get cells4 4 (fun _ => rfl) _ _ _ (by omega), List.getElem?_take, if_pos (by omega)]
theorem Pts.take {l : List Pt} {m : Nat} (h : Pts w B A n l) (hm : m ≤ n) : Pts w B A m (l.take m) := by
  have hl := h.length
  refine ⟨⟨by rw [cellsP_length, List.length_take]; omega, fun h0 => ?_⟩, fun r hr => h.b r (List.mem_of_mem_take hr), by have := h.len; omega⟩
  obtain ⟨ad, e, hb, hc⟩ := h.rd.2 (by omega)
  refine ⟨ad, e, hb, fun j u hu => hc j u ?_⟩
  rw [← hu]
  have hj : j < m * 2 := by
    have := (List.getElem?_eq_some_iff.1 hu).1
    rw [cellsP_length, List.length_take] at this; omega
  have e1 : j = j / 2 * 2 + j % 2 := by omega
  rw [e1, cellsP, cellsP, flat_get cells2 2 (fun _ => rfl) l _ _ (by omega), flat_get cells2 2 (fun _ => rfl) _ _ _ (by omega), List.getElem?_take, if_pos (by omega)]
end

theorem Ints.laid (xs : List Int) (cs : Array Value) (hcs : cs = (cellsI xs).toArray) (t : TypeId) (h : I64 xs) (hl : xs.length ≤ 1000) (w : World) (B : Nat) (hB : w.heap.size < B) :
    Ints (w.alloc (.cells cs t)) B (some ⟨w.heap.size, 0, none⟩) xs.length xs := by
  subst hcs
  refine ⟨⟨by simp [cellsI], fun _ => ⟨_, rfl, hB, fun j u hu => ?_⟩⟩, h, by omega⟩
  rw [addr_lit, cell_of_row _ _ _ _ _ _ (heap_alloc_new w _)]
  simpa using hu
theorem Pts.laid (ps : List Pt) (cs : Array Value) (hcs : cs = (cellsP ps).toArray) (t : TypeId) (h : ∀ p ∈ ps, p.b) (hl : ps.length ≤ 1000) (w : World) (B : Nat) (hB : w.heap.size < B) :
    Pts (w.alloc (.cells cs t)) B (some ⟨w.heap.size, 0, none⟩) ps.length ps := by
  subst hcs
  refine ⟨⟨cellsP_length ps, fun _ => ⟨_, rfl, hB, fun j u hu => ?_⟩⟩, h, by omega⟩
  rw [addr_lit, cell_of_row _ _ _ _ _ _ (heap_alloc_new w _)]
  simpa using hu
/-- Rectangles in memory of the call's own. -/
theorem Rects.of_own {w : World} {base : Nat} {t : TypeId} {A : Option Addr} {n c : Nat} {l : List Rc} (h : w.ownsRow base t 4 (.slice A n c) n (cellsR l)) (hb : ∀ r ∈ l, r.b) (hn : n ≤ 9223372036854775807) : Rects w w.heap.size A n l := ⟨Rd.of_own h, hb, hn⟩
theorem Ints.of_own {w : World} {base : Nat} {t : TypeId} {A : Option Addr} {n c : Nat} {l : List Int} (h : w.ownsRow base t 1 (.slice A n c) n (cellsI l)) (hb : I64 l) (hn : n ≤ 9223372036854775807) : Ints w w.heap.size A n l := ⟨Rd.of_own h, hb, hn⟩
/-- The cells of an owned row, at the head of its block. -/
theorem own_cells {w : World} {base : Nat} {t : TypeId} {size : Nat} {A : Option Addr} {n c : Nat} {xs : List Value} (h : w.ownsRow base t size (.slice A n c) n xs) (hn : 0 < n) :
    ∃ g, A = some ⟨g, 0, none⟩ ∧ base ≤ g ∧ g < w.heap.size ∧ n ≤ c ∧ ∀ j u, xs[j]? = some u → w.cell? ⟨g, j, none⟩ = some u := by
  rcases h.2 with ⟨hv, h0⟩ | ⟨g, cap, cur, hv, hg, hh, hc, _⟩
  · omega
  · injection hv with h1 _ h3
    subst h1; subst h3
    have hlt : g < w.heap.size := by
      rcases Nat.lt_or_ge g w.heap.size with hlt | hge
      · exact hlt
      · rw [Array.getElem?_eq_none hge] at hh; cases hh
    refine ⟨g, rfl, hg, hlt, hc, fun j u hu => ?_⟩
    rw [← addr_lit]
    exact h.cells (g := g) rfl j u hu

/-- A list and an error's number are handed back; the list lies in memory of the call's own. -/
def ListRes (w : World) (t : TypeId) (size : Nat) (n : Nat) (cs : List Value) (err : Int) (e : Ending) (w' : World) : Prop :=
  ∃ A c, e = .returned (.tuple #[.slice A n c, .int .i64 err]) ∧ w'.ownsRow w.heap.size t size (.slice A n c) n cs ∧ Below w.heap.size w w'
theorem ListRes.none_ {w w' : World} {t : TypeId} {size : Nat} {err : Int} {v : Value} (hv : v = .tuple #[.slice none 0 0, .int .i64 err]) (hb : Below w.heap.size w w') : ListRes w t size 0 [] err (.returned v) w' := by
  subst hv
  exact ⟨none, 0, rfl, World.ownsRow_nil _ _ _ _, hb⟩
/-- A list alone is handed back. -/
def LoneRes (w : World) (t : TypeId) (size : Nat) (n : Nat) (cs : List Value) (e : Ending) (w' : World) : Prop :=
  ∃ A c, e = .returned (.slice A n c) ∧ w'.ownsRow w.heap.size t size (.slice A n c) n cs ∧ Below w.heap.size w w'

end Go.Proofs.YtkdffcoofijhkaaDoor
