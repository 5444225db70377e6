/-
  THE STEPS OF limewashlaw05.scanned: the document's rows.
-/
import Derived.Test.YtkdffcoofijhkaaDoorScanWalkF
import Derived.Test.YtkdffcoofijhkaaDoorSameWalk
set_option linter.unusedVariables false
set_option linter.unusedSimpArgs false
set_option maxRecDepth 100000
namespace Go.Proofs.YtkdffcoofijhkaaDoor
open Go.RowKit

def exL : List (List UInt8) := [[49, 46, 53], [45, 48, 46, 48, 48, 49], [43, 46, 53], [51, 46]]
theorem ex_row : rowS exL = ([384, -1, 128, 768], 0) := by decide +kernel
theorem ex_p1 : parseS [49, 46, 50, 46, 51] = (0, 6) := by decide +kernel
theorem ex_p2 : parseS [52, 48, 57, 55] = (0, 5) := by decide +kernel
theorem ex_w1 : wholeS [45, 49, 50] = (-12, 0) := by decide +kernel
theorem ex_w2 : wholeS [48, 48, 55] = (0, 6) := by decide +kernel
theorem ex_s1 : printR 1 = ([48, 46, 48, 48, 51, 57, 48, 54, 50, 53], 0) := by
  unfold printR printS
  rw [if_pos (by decide)]
  rw [show (1 : Int).natAbs / 256 = 0 from rfl, dec_small (by decide)]
  decide +kernel
theorem ex_s2 : printR (-384) = ([45, 49, 46, 53], 0) := by
  unfold printR printS
  rw [if_pos (by decide)]
  rw [show (-384 : Int).natAbs / 256 = 1 from rfl, dec_small (by decide)]
  decide +kernel

theorem strs_alloc (w : World) (ls : List (List UInt8)) (cs : Array Value) (t : TypeId) (n : Nat) (hn : n = ls.length) (hcs : cs = (ls.map strV).toArray) (hl : ls.length ≤ 1000) : Strs (w.alloc (.cells cs t)) (w.heap.size + 1) (some ⟨w.heap.size, 0, none⟩) n ls := by
  subst hn
  subst hcs
  have s := SlotN.new w (ls.map strV) _ t rfl
  exact ⟨⟨by simp, fun _ => ⟨_, rfl, by simp, fun j u hu => by rw [addr_lit]; exact s.c j u hu⟩⟩, by omega⟩
theorem ints_alloc (w : World) (l : List Int) (cs : Array Value) (t : TypeId) (n : Nat) (hn : n = l.length) (hcs : cs = (cellsI l).toArray) (hl : l.length ≤ 1000) (h : I64 l) : Ints (w.alloc (.cells cs t)) (w.heap.size + 1) (some ⟨w.heap.size, 0, none⟩) n l := by
  subst hn
  subst hcs
  have s := SlotN.new w (cellsI l) _ t rfl
  exact ⟨⟨by simp [cellsI], fun _ => ⟨_, rfl, by simp, fun j u hu => by rw [addr_lit]; exact s.c j u hu⟩⟩, h, by omega⟩

set_option maxHeartbeats 3200000 in
theorem scanned_any (w : World) (hE : Env w) : Calls Tryd.prog 27 #[] w fun e w' => e = .returned (.bool true) ∧ Below w.heap.size w w' := by
  have HE := Lib.hid hE; clear hE
  have K2 := Lib.hid (fun W hW => print_any 1 W (by unfold i64b; omega) hW)
  have K3 := Lib.hid (fun W hW => print_any (-384) W (by unfold i64b; omega) hW)
  have K4 := Lib.hid (fun W hW => parse_any [49, 46, 50, 46, 51] W (by simp) hW)
  have K5 := Lib.hid (fun W hW => parse_any [52, 48, 57, 55] W (by simp) hW)
  have K6 := Lib.hid (fun W hW => whole_any [45, 49, 50] W (by simp) hW)
  have K7 := Lib.hid (fun W hW => whole_any [48, 48, 55] W (by simp) hW)
  rw [ex_s1] at K2
  rw [ex_s2] at K3
  rw [ex_p1] at K4
  rw [ex_p2] at K5
  rw [ex_w1] at K6
  rw [ex_w2] at K7
  unfold SE NE2 at *
  have hstr := strs_alloc w exL #[.string ⟨#[49, 46, 53]⟩, .string ⟨#[45, 48, 46, 48, 48, 49]⟩, .string ⟨#[43, 46, 53]⟩, .string ⟨#[51, 46]⟩] 9 4 rfl rfl (by decide)
  have hb0 : Below w.heap.size w (w.alloc (.cells #[.string ⟨#[49, 46, 53]⟩, .string ⟨#[45, 48, 46, 48, 48, 49]⟩, .string ⟨#[43, 46, 53]⟩, .string ⟨#[51, 46]⟩] 9)) := (Below.refl _ _).alloc (Nat.le_refl _) _
  have hz0 : (w.alloc (.cells #[.string ⟨#[49, 46, 53]⟩, .string ⟨#[45, 48, 46, 48, 48, 49]⟩, .string ⟨#[43, 46, 53]⟩, .string ⟨#[51, 46]⟩] 9)).heap.size = w.heap.size + 1 := by simp
  go_enter Tryd.func27, Tryd.ntmps27
  go_wp2_with fail
  generalize w.alloc (.cells #[.string ⟨#[49, 46, 53]⟩, .string ⟨#[45, 48, 46, 48, 48, 49]⟩, .string ⟨#[43, 46, 53]⟩, .string ⟨#[51, 46]⟩] 9) = W0 at hstr hb0 hz0 ⊢
  rw [← hz0] at hstr
  have HB := Lib.hid hb0; clear hb0
  have K1 := row_any W0.heap.size (some ⟨w.heap.size, 0, none⟩) 4 4 exL W0 hstr (Nat.le_refl _) (by omega) (by decide) (HE.out.on HB.out)
  rw [ex_row] at K1
  refine K1.mono ?_
  clear K1 hstr
  rintro e w1 ⟨A, c, rfl, hown, hb1⟩
  have HB := Lib.hid (HB.out.trans (hb1.mono HB.out.size))
  have HI : Hid (Ints w1 w1.heap.size A 4 [384, -1, 128, 768]) := Lib.hid (Ints.of_own hown (by intro d hd; simp at hd; omega) (by omega))
  clear hb1 hown hz0
  go_wp2_with fail
  refine (K2.out _ (HE.out.on HB.out)).mono ?_
  clear K2
  rintro e w2 ⟨rfl, hb1⟩
  have HB := Lib.hid (HB.out.trans (hb1.mono HB.out.size))
  have HI := Lib.hid ((HI.out.below hb1 (Nat.le_refl _)).more hb1.size)
  clear hb1
  go_wp2_with fail
  refine (K3.out _ (HE.out.on HB.out)).mono ?_
  clear K3
  rintro e w3 ⟨rfl, hb1⟩
  have HB := Lib.hid (HB.out.trans (hb1.mono HB.out.size))
  have HI := Lib.hid ((HI.out.below hb1 (Nat.le_refl _)).more hb1.size)
  clear hb1
  go_wp2_with fail
  refine (K4.out _ (HE.out.on HB.out)).mono ?_
  clear K4
  rintro e w4 ⟨rfl, hb1⟩
  have HB := Lib.hid (HB.out.trans (hb1.mono HB.out.size))
  have HI := Lib.hid ((HI.out.below hb1 (Nat.le_refl _)).more hb1.size)
  clear hb1
  go_wp2_with fail
  refine (K5.out _ (HE.out.on HB.out)).mono ?_
  clear K5
  rintro e w5 ⟨rfl, hb1⟩
  have HB := Lib.hid (HB.out.trans (hb1.mono HB.out.size))
  have HI := Lib.hid ((HI.out.below hb1 (Nat.le_refl _)).more hb1.size)
  clear hb1
  go_wp2_with fail
  refine (K6.out _ (HE.out.on HB.out)).mono ?_
  clear K6
  rintro e w6 ⟨rfl, hb1⟩
  have HB := Lib.hid (HB.out.trans (hb1.mono HB.out.size))
  have HI := Lib.hid ((HI.out.below hb1 (Nat.le_refl _)).more hb1.size)
  clear hb1
  go_wp2_with fail
  refine (K7.out _ (HE.out.on HB.out)).mono ?_
  clear K7
  rintro e w7 ⟨rfl, hb1⟩
  have HB := Lib.hid (HB.out.trans (hb1.mono HB.out.size))
  have HI := Lib.hid ((HI.out.below hb1 (Nat.le_refl _)).more hb1.size)
  clear hb1
  go_wp2_with fail
  have hi2 := ints_alloc w7 [384, -1, 128, 768] #[.int .i64 384, .int .i64 (-1), .int .i64 128, .int .i64 768] 3 4 rfl rfl (by decide) (by intro d hd; simp at hd; omega)
  have hb1 : Below w7.heap.size w7 (w7.alloc (.cells #[.int .i64 384, .int .i64 (-1), .int .i64 128, .int .i64 768] 3)) := (Below.refl _ _).alloc (Nat.le_refl _) _
  have K8 := same_b w7.heap.size (w7.heap.size + 1) A (some ⟨w7.heap.size, 0, none⟩) 4 c 4 4 [384, -1, 128, 768] [384, -1, 128, 768] _ (HI.out.below hb1 (Nat.le_refl _)) hi2
  have HB := Lib.hid (HB.out.trans (hb1.mono HB.out.size))
  clear hb1 hi2
  refine K8.mono ?_
  clear K8
  rintro e w8 ⟨rfl, hb1⟩
  have HB := Lib.hid (HB.out.trans (hb1.mono (by simp; exact Nat.le_trans HB.out.size (by simp))))
  go_wp2_with fail
  go_ret
  exact ⟨rfl, HB.out⟩
end Go.Proofs.YtkdffcoofijhkaaDoor
