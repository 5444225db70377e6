/-
  THE STEPS OF tga.order.
-/
import Derived.Test.YtfkkppagbhllgaaTgaWalkI
import Derived.Lib.OwnBridge
set_option linter.unusedVariables false
set_option linter.unusedSimpArgs false
set_option maxRecDepth 8000
namespace Go.Proofs.Ytfkkppagbhllgaa
open Go.RowKit

theorem size_int9 : (Try.prog.info? 3).map (fun i => (i.zero, i.size, i.bytes)) = some (some (.int .i64 0), 1, 8) := by kernel_rfl
def upI (h k : Nat) : List Int := (List.range h).map fun i => if i < k then (i : Int) else 0
theorem upI_zero (h : Nat) : upI h 0 = List.replicate h 0 := by
  unfold upI
  refine List.ext_getElem? fun i => ?_
  by_cases hi : i < h
  · rw [List.getElem?_map, List.getElem?_range hi, List.getElem?_replicate, if_pos hi]; rfl
  · rw [List.getElem?_eq_none (by simp; omega), List.getElem?_eq_none (by simp; omega)]
theorem upI_set (h k : Nat) : (upI h k).set k (k : Int) = upI h (k + 1) := by
  unfold upI
  refine List.ext_getElem? fun i => ?_
  by_cases hi : i < h
  · rw [List.getElem?_set]
    simp only [List.length_map, List.length_range, List.getElem?_map, List.getElem?_range hi, Option.map_some]
    by_cases hk : k = i
    · subst hk; rw [if_pos rfl, if_pos hi, if_pos (by omega)]
    · rw [if_neg hk]
      by_cases h1 : i < k
      · rw [if_pos h1, if_pos (by omega)]
      · rw [if_neg h1, if_neg (by omega)]
  · rw [List.getElem?_eq_none (by simp; omega), List.getElem?_eq_none (by simp; omega)]
theorem upI_done (h : Nat) : upI h h = (List.range h).map fun i => ((ordT h true i : Nat) : Int) := by
  unfold upI
  refine List.map_congr_left fun i hi => ?_
  rw [if_pos (List.mem_range.1 hi)]; rfl
theorem upI_rev (h : Nat) : (upI h h).reverse = (List.range h).map fun i => ((ordT h false i : Nat) : Int) := by
  refine List.ext_getElem? fun j => ?_
  by_cases hj : j < h
  · rw [List.getElem?_reverse (by simp [upI]; exact hj)]
    simp only [upI, List.length_map, List.length_range, List.getElem?_map]
    rw [List.getElem?_range (by omega), List.getElem?_range hj]
    simp only [Option.map_some, ordT]
    rw [if_pos (by omega)]
    simp
  · rw [List.getElem?_eq_none (by simp [upI]; omega), List.getElem?_eq_none (by simp; omega)]
def ordL (h : Nat) (top : Bool) : List Int := (List.range h).map fun i => ((ordT h top i : Nat) : Int)
theorem made_ints (w : World) (n base : Nat) (hb : base ≤ w.heap.size) (hn : n ≤ maxLen) : (w.alloc (.cells (madeCells #[.int .i64 0] n) 3)).ownsRow base 3 1 (.slice (some ⟨w.heap.size, 0, none⟩) n n) n (cellsI (List.replicate n 0)) := by
  refine ⟨by simp [cellsI], .inr ⟨w.heap.size, n, madeCells #[.int .i64 0] n, rfl, hb, heap_alloc_new w _, Nat.le_refl _, hn, by simp [size_madeCells], ?_⟩⟩
  apply List.ext_getElem?
  intro j
  by_cases hj : j < n
  · rw [List.getElem?_take, if_pos (by omega), cellsI_get, List.getElem?_replicate, if_pos hj]
    simp [madeCells, hj, Nat.mod_one]
  · rw [List.getElem?_eq_none (by simp [size_madeCells]; omega), List.getElem?_eq_none (by simp [cellsI]; omega)]
set_option maxHeartbeats 800000 in
theorem order_any (h : Nat) (top : Bool) (w : World) (h1 : 1 ≤ h) (h2 : h ≤ 256) :
    Calls Try.prog 32 #[.int .i64 (h : Int), .bool top] w (LoneRes w 3 1 h (cellsI (ordL h top))) := by
  have hmk : ∀ W : World, (Instr.makeSlice 25 (.int .i64 (h : Int)) (.int .i64 (h : Int))).run Try.prog W = .ok (.slice (some ⟨W.heap.size, 0, none⟩) h h) (W.alloc (.cells (madeCells #[.int .i64 0] h) 3)) := fun W => run_make_row' (P := Try.prog) 25 3 (.int .i64 0) 8 Try.underlying25 size_int9 rfl .i64 .i64 h (by omega) (by omega) W
  have hmk0 := hmk w
  have s0 := made_ints w h w.heap.size (Nat.le_refl _) (by unfold maxLen; omega)
  have hb0 : Below w.heap.size w (w.alloc (.cells (madeCells #[.int .i64 0] h) 3)) := (Below.refl _ _).alloc (Nat.le_refl _) _
  have hz0 : w.heap.size < (w.alloc (.cells (madeCells #[.int .i64 0] h) 3)).heap.size := by simp
  generalize w.alloc (.cells (madeCells #[.int .i64 0] h) 3) = V0 at *
  rw [← upI_zero] at s0
  have HS := Lib.hid s0
  clear hmk s0
  go_enter Try.func32, Try.ntmps32
  go_wp2_with fail
  go_loopw [11] (fun i wr => ∃ k : Nat, k ≤ h ∧ i = .int .i64 (k : Int) ∧ Hid (wr.ownsRow w.heap.size 3 1 (.slice (some ⟨w.heap.size, 0, none⟩) h h) h (cellsI (upI h k))) ∧ Below w.heap.size w wr) (fun i _ => h - (intOf i).toNat)
  case atStart => exact ⟨0, by omega, rfl, HS, hb0⟩
  case round =>
    clear HS hb0 hz0 hmk0
    obtain ⟨k, hk, rfl, hrow, hbk⟩ := hrel
    by_cases hlt : k < h
    · have t0 : decide ((k : Int) < (h : Int)) = true := decide_eq_true (by omega)
      have k0 : (0 : Int) ≤ (k : Int) := by omega
      have k1 : (k : Int) < (h : Int) := by omega
      have a0 : (⟨w.heap.size, 0, none⟩ : Addr).add k = ⟨w.heap.size, k, none⟩ := addr_lit _ _
      obtain ⟨u0', hu⟩ : ∃ u, wr.cell? ⟨w.heap.size, k, none⟩ = some u := by
        have := hrow.out.cells (g := w.heap.size) rfl k _ (List.getElem?_eq_getElem (show k < (cellsI (upI h k)).length by simp [cellsI, upI]; exact hlt))
        rw [a0] at this
        exact ⟨_, this⟩
      have hf : wr.frozen? ⟨w.heap.size, k, none⟩ = false := hrow.out.frozenAt k
      obtain ⟨hs1, hs2⟩ := hrow.out.stored k (.int .i64 (k : Int))
      have HS : Hid ((wr.setCell ⟨w.heap.size, k, none⟩ (.int .i64 (k : Int))).ownsRow w.heap.size 3 1 (.slice (some ⟨w.heap.size, 0, none⟩) h h) h (cellsI (upI h (k + 1)))) := Lib.hid (by
        rw [← upI_set]
        simpa [cellsI] using hs1)
      clear hs1 hs2 hrow
      go_wp2_with fail
      go_roundw
      case rel => exact ⟨k + 1, by omega, by go_num, HS, hbk.setCell (p := ⟨w.heap.size, k, none⟩) (Nat.le_refl _) _⟩
      case measure => simp only [intOf]; omega
    · have t0 : decide ((k : Int) < (h : Int)) = false := decide_eq_false (by omega)
      have hkh : Hid (k = h) := Lib.hid (by omega)
      rw [hkh.out] at hrow
      cases top with
      | true =>
        go_wp2_with fail
        go_ret
        refine ⟨_, _, rfl, ?_, hbk⟩
        unfold ordL
        rw [← upI_done]; exact hrow.out
      | false =>
        have hR := Try.slices_Reverse_int w.heap.size 0 h (upI h h) wr (by
          obtain ⟨g, c, e1, _, _, _, _, _, hH⟩ := Lib.holds_of_ownsRow (enc := Value.int .i64) hrow.out (by simp)
          injection e1 with e1
          injection e1 with e1
          injection e1 with e1
          rw [e1]; exact hH) (by simp [upI]; omega)
        have e : (upI h h).length = h := by simp [upI]
        rw [e] at hR
        have HR := Lib.hid hR
        clear hR e
        go_wp2_with fail
        refine HR.out.mono ?_
        clear HR
        rintro e w2 ⟨rfl, q, rfl⟩
        have hF := Lib.ownsRow_putRow (q := q) (enc := Value.int .i64) (ys := (upI h h).reverse) hrow.out (by simp [upI]) (Nat.le_refl _)
        have hBF := Lib.below_putRow (q := q) (enc := Value.int .i64) (d := (upI h h).reverse.toArray) hbk (Nat.le_refl _)
        rw [List.take_of_length_le (by simp [upI]), upI_rev] at hF
        rw [upI_rev] at hBF
        rw [upI_rev]
        have HF := Lib.hid hF
        have HBF := Lib.hid hBF
        clear hF hBF
        generalize Sort.putRow (Value.int .i64) (Sort.ahead wr q) w.heap.size 0 ((List.range h).map fun i => ((ordT h false i : Nat) : Int)).toArray = V at *
        go_wp2_with fail
        go_ret
        exact ⟨_, _, rfl, HF.out, HBF.out⟩
end Go.Proofs.Ytfkkppagbhllgaa
