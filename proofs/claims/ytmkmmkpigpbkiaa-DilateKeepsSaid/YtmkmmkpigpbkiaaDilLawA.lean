/-
  THE WALK OF limewashlaw28.spread: the document's rows.
-/
import Derived.Test.YtmkmmkpigpbkiaaDilWalkH
import Derived.Test.YtmkmmkpigpbkiaaDilWalkB
import Derived.Test.YtmkmmkpigpbkiaaSameWalk
set_option linter.unusedVariables false
set_option linter.unusedSimpArgs false
namespace Go.Proofs.Ytmkmmkpigpbkiaa
open Go.RowKit

def rowsV : List Int := [-1, -1, -1, 9, -1, -1, -1, -1, 5, -1, -1, -1]
def rowsA : List Int := [-1, -1, 9, 9, 5, 5, 9, 9, 5, 5, -1, -1]
theorem rows_spread : spreadF 4 1 rowsV = (rowsA, 0) := by decide +kernel
theorem rows_no : spreadF 4 9 rowsV = ([], 1) := by decide +kernel
theorem rows_near : nearF 4 8 rowsV 1 1 = (⟨0, 2⟩, true) := by decide +kernel
theorem rows_fill : fillF [-1, 3] 7 = ([7, 3], 0) := by decide +kernel
theorem rows_far : farS ⟨1, 0⟩ ⟨4, 2⟩ = 3 := by decide +kernel
theorem rows_i64 : I64 rowsV := by unfold I64 rowsV; decide
theorem rowsA_i64 : I64 rowsA := by unfold I64 rowsA; decide

theorem spread_as (A : Option Addr) (n c : Nat) (v : List Int) (ww pad : Int) (w : World) (hI : Ints w w.heap.size A n v) (hn : n ≤ 1000) (bw : i64b ww) {l : List Int} {k : Int} (h : spreadF ww pad v = (l, k)) :
    Calls Try.prog 11 #[.int .i64 ww, .int .i64 pad, .slice A n c] w (ListRes w 3 1 l.length (cellsI l) k) := by
  have := spread_any A n c v ww pad w hI hn bw
  unfold SpreadRes at this
  rwa [h] at this
theorem fill_as (A : Option Addr) (n c : Nat) (v : List Int) (back : Int) (w : World) (hI : Ints w w.heap.size A n v) (hn : n ≤ 1000) {l : List Int} {k : Int} (h : fillF v back = (l, k)) :
    Calls Try.prog 13 #[.slice A n c, .int .i64 back] w (ListRes w 3 1 l.length (cellsI l) k) := by
  have := fill_any A n c v back w hI hn
  unfold FillRes at this
  rwa [h] at this
theorem nearF_as (A : Option Addr) (n c : Nat) (v : List Int) (ww pad x y : Int) (w : World) (hI : Ints w w.heap.size A n v) (hn : n ≤ 1000) (bw : i64b ww) (bx : i64b x) (by' : i64b y) {t : Pt} {b : Bool} (h : nearF ww pad v x y = (t, b)) :
    Calls Try.prog 9 #[.int .i64 ww, .int .i64 pad, .slice A n c, .int .i64 x, .int .i64 y] w fun e w' => e = .returned (.tuple #[.agg #[.int .i64 t.x, .int .i64 t.y], .bool b]) ∧ Below w.heap.size w w' := by
  have := nearF_any A n c v ww pad x y w hI hn bw bx by'
  unfold NearFRes ptV at this
  rwa [h] at this

set_option maxHeartbeats 3200000 in
theorem rows_any (w : World) : Calls Try.prog 15 #[] w fun e w' => e = .returned (.bool true) ∧ Below w.heap.size w w' := by
  have hb0 : Below w.heap.size w (w.alloc (.cells (cellsI rowsV).toArray 3)) := (Below.refl _ _).alloc (Nat.le_refl _) _
  have hV0 := Ints.laid rowsV (cellsI rowsV).toArray rfl 3 rows_i64 (by decide) w (w.heap.size + 1) (by omega)
  go_enter Try.func15, Try.ntmps15
  go_wp2_with fail
  refine (spread_as _ 12 12 rowsV 4 1 _ (hV0.more (by simp)) (by omega) ⟨by omega, by omega⟩ rows_spread).mono ?_
  intro e w1 h1
  obtain ⟨A1, c1, rfl, hown1, hb1⟩ := h1
  have hb1' : Below w.heap.size w w1 := hb0.trans (hb1.mono (by simp))
  have hV1 := hV0.below hb1 (by simp)
  have hz1 : w.heap.size + 1 ≤ w1.heap.size := by have := hb1.size; simpa using this
  have hI1 := Lib.hid (Ints.of_own hown1 rowsA_i64 (by decide))
  simp only [show rowsA.length = 12 from rfl] at hI1 ⊢
  clear hb1 hown1 hV0 hb0
  go_wp2_with fail
  refine (fill_as _ 2 2 [-1, 3] 7 _ (Ints.laid [-1, 3] _ rfl 3 (by unfold I64; decide) (by decide) w1 _ (by simp)) (by omega) rows_fill).mono ?_
  intro e w2 h2
  obtain ⟨A2, c2, rfl, hown2, hb2⟩ := h2
  have hb12 : Below w1.heap.size w1 w2 := ((Below.refl _ _).alloc (Nat.le_refl _) _).trans (hb2.mono (by simp))
  have hb2' : Below w.heap.size w w2 := hb1'.trans (hb12.mono hb1'.size)
  have hV2 := hV1.below hb12 hz1
  have hI2 := Lib.hid (Ints.of_own hown2 (by unfold I64; decide) (by decide))
  have hI12 := Lib.hid (hI1.out.below hb12 (Nat.le_refl _))
  have hz2 : w1.heap.size ≤ w2.heap.size := hb12.size
  simp only [show ([7, 3] : List Int).length = 2 from rfl] at hI2 ⊢
  clear hown2 hb2 hb12 hV1 hI1
  go_wp2_with fail
  refine (spread_as _ 12 12 rowsV 4 9 _ (hV2.more (by omega)) (by omega) ⟨by omega, by omega⟩ rows_no).mono ?_
  intro e w3 h3
  obtain ⟨A3, c3, rfl, _, hb3⟩ := h3
  have hb3' : Below w.heap.size w w3 := hb2'.trans (hb3.mono hb2'.size)
  have hV3 := hV2.below hb3 (by omega)
  have hI23 := Lib.hid (hI2.out.below hb3 (Nat.le_refl _))
  have hI13 := Lib.hid (hI12.out.below hb3 (by omega))
  have hz3 : w2.heap.size ≤ w3.heap.size := hb3.size
  simp only [List.length_nil]
  clear hb3 hV2 hI2 hI12
  go_wp2_with fail
  refine (nearF_as _ 12 12 rowsV 4 8 1 1 _ (hV3.more (by omega)) (by omega) ⟨by omega, by omega⟩ ⟨by omega, by omega⟩ ⟨by omega, by omega⟩ rows_near).mono ?_
  rintro e w4 ⟨rfl, hb4⟩
  have hb4' : Below w.heap.size w w4 := hb3'.trans (hb4.mono hb3'.size)
  have hI24 := Lib.hid (hI23.out.below hb4 (by omega))
  have hI14 := Lib.hid (hI13.out.below hb4 (by omega))
  have hz4 : w3.heap.size ≤ w4.heap.size := hb4.size
  clear hb4 hV3 hI23 hI13
  have hS4 := SlotN.new w4 [.int .i64 0, .int .i64 2] #[.int .i64 0, .int .i64 2] 24 rfl
  have hb5 : Below w4.heap.size w4 ((w4.alloc (.cells #[.int .i64 0, .int .i64 2] 24)).alloc (.cells (cellsI rowsA).toArray 3)) := ((Below.refl _ _).alloc (Nat.le_refl _) _).alloc (by simp) _
  have HS1 := Lib.hid (same_b _ _ A1 (some ⟨w4.heap.size + 1, 0, none⟩) 12 c1 12 12 rowsA rowsA ((w4.alloc (.cells #[.int .i64 0, .int .i64 2] 24)).alloc (.cells (cellsI rowsA).toArray 3)) (hI14.out.below hb5 (by omega))
    (by have := Ints.laid rowsA (cellsI rowsA).toArray rfl 3 rowsA_i64 (by decide) (w4.alloc (.cells #[.int .i64 0, .int .i64 2] 24)) (w4.heap.size + 2) (by simp); simpa [rowsA] using this))
  rw [show sameL rowsA rowsA = true from decide_eq_true rfl] at HS1
  go_wp2_with fail
  refine HS1.out.mono ?_
  clear HS1
  rintro e w5 ⟨rfl, hb6⟩
  have hb45 : Below w4.heap.size w4 w5 := hb5.trans (hb6.mono (by simp; omega))
  have hS5 := hS4.below (((Below.refl (w4.heap.size + 1) _).alloc (by simp) _).trans (hb6.mono (by simp))) (by omega)
  have hI25 := Lib.hid (hI24.out.below hb45 (by omega))
  have hz5 : w4.heap.size + 2 ≤ w5.heap.size := by have := hb6.size; simpa using this
  have hb5' : Below w.heap.size w w5 := hb4'.trans (hb45.mono hb4'.size)
  clear hS4 hb5 hb6 hI24 hI14 hb45
  have hb7 : Below w5.heap.size w5 (w5.alloc (.cells (cellsI [7, 3]).toArray 3)) := (Below.refl _ _).alloc (Nat.le_refl _) _
  have HS2 := Lib.hid (same_b _ _ A2 (some ⟨w5.heap.size, 0, none⟩) 2 c2 2 2 [7, 3] [7, 3] (w5.alloc (.cells (cellsI [7, 3]).toArray 3)) (hI25.out.below hb7 (by omega)) (Ints.laid [7, 3] (cellsI [7, 3]).toArray rfl 3 (by unfold I64; decide) (by decide) w5 (w5.heap.size + 1) (by omega)))
  rw [show sameL [7, 3] [7, 3] = true from decide_eq_true rfl] at HS2
  go_wp2_with fail
  refine HS2.out.mono ?_
  clear HS2
  rintro e w6 ⟨rfl, hb8⟩
  have hb56 : Below w5.heap.size w5 w6 := hb7.trans (hb8.mono (by simp))
  have hS6 := hS5.below hb56 (by omega)
  have a0 := hS6.c 0 _ rfl
  have a1 := hS6.c 1 _ rfl
  have hb6' : Below w.heap.size w w6 := hb5'.trans (hb56.mono hb5'.size)
  clear hb7 hb8 hb56 hS5 hI25 hS6
  have HF := Lib.hid (far_any ⟨1, 0⟩ ⟨4, 2⟩ w6 ⟨⟨by simp only; omega, by simp only; omega⟩, ⟨by simp only; omega, by simp only; omega⟩⟩ ⟨⟨by simp only; omega, by simp only; omega⟩, ⟨by simp only; omega, by simp only; omega⟩⟩)
  rw [rows_far] at HF
  unfold ptV at HF
  go_wp2_with fail
  refine HF.out.mono ?_
  rintro e w7 ⟨rfl, hb9⟩
  go_wp2_with fail
  go_ret
  exact ⟨rfl, hb6'.trans (hb9.mono hb6'.size)⟩
end Go.Proofs.Ytmkmmkpigpbkiaa
