/-
  THE STEPS OF limewashlaw07.faced: the document's rows.
-/
import Derived.Test.YtkdffcoofijhkaaDoorFaceWalkF
import Derived.Test.YtkdffcoofijhkaaDoorFaceWalkH
set_option linter.unusedVariables false
set_option linter.unusedSimpArgs false
set_option maxRecDepth 100000
namespace Go.Proofs.YtkdffcoofijhkaaDoor
open Go.RowKit

theorem ex_c1 : cornerR [51] ⟨4, 2, 1⟩ = (⟨2, (-1), (-1)⟩, 0) := by decide +kernel
theorem ex_c2 : cornerR [45, 49, 47, 50] ⟨4, 2, 1⟩ = (⟨3, 1, (-1)⟩, 0) := by decide +kernel
theorem ex_c3 : cornerR [49, 47, 47, 45, 49] ⟨4, 2, 1⟩ = (⟨0, (-1), 0⟩, 0) := by decide +kernel
theorem ex_c4 : cornerR [50, 47, 49, 47, 49] ⟨4, 2, 1⟩ = (⟨1, 0, 0⟩, 0) := by decide +kernel
theorem ex_c5 : cornerR [53] ⟨4, 2, 1⟩ = (⟨0, 0, 0⟩, 7) := by decide +kernel
theorem ex_c6 : cornerR [49, 47] ⟨4, 2, 1⟩ = (⟨0, 0, 0⟩, 6) := by decide +kernel
theorem ex_pr : printC ⟨0, -1, 0⟩ = ([49, 47, 47, 49], 0) := by
  unfold printC
  rw [show okC ⟨0, -1, 0⟩ = true by decide, if_pos rfl, textC_eq]
  rw [show Lib.decDigits ((0 : Int) + 1).toNat = [49] from dec_small (by decide)]
  rfl
def exF : List (List UInt8) := [[49], [50], [51], [52]]
theorem ex_fc : faceR ⟨4, 0, 0⟩ exF = ([⟨⟨0, -1, -1⟩, ⟨1, -1, -1⟩, ⟨2, -1, -1⟩⟩, ⟨⟨0, -1, -1⟩, ⟨2, -1, -1⟩, ⟨3, -1, -1⟩⟩], 0) := by decide +kernel

set_option maxHeartbeats 6400000 in
theorem faced_any (w : World) (hE : Env w) : Calls Tryd.prog 14 #[] w fun e w' => e = .returned (.bool true) ∧ Below w.heap.size w w' := by
  have HE := Lib.hid hE; clear hE
  have K1 := Lib.hid (fun W hW => corner_any [51] ⟨4, 2, 1⟩ W (by simp) hW (by unfold P3.bd i64b; decide))
  rw [ex_c1] at K1
  have K2 := Lib.hid (fun W hW => corner_any [45, 49, 47, 50] ⟨4, 2, 1⟩ W (by simp) hW (by unfold P3.bd i64b; decide))
  rw [ex_c2] at K2
  have K3 := Lib.hid (fun W hW => corner_any [49, 47, 47, 45, 49] ⟨4, 2, 1⟩ W (by simp) hW (by unfold P3.bd i64b; decide))
  rw [ex_c3] at K3
  have K4 := Lib.hid (fun W hW => corner_any [50, 47, 49, 47, 49] ⟨4, 2, 1⟩ W (by simp) hW (by unfold P3.bd i64b; decide))
  rw [ex_c4] at K4
  have K5 := Lib.hid (fun W hW => corner_any [53] ⟨4, 2, 1⟩ W (by simp) hW (by unfold P3.bd i64b; decide))
  rw [ex_c5] at K5
  have K6 := Lib.hid (fun W hW => corner_any [49, 47] ⟨4, 2, 1⟩ W (by simp) hW (by unfold P3.bd i64b; decide))
  rw [ex_c6] at K6
  have K7 := Lib.hid (fun W hW => fprint_any ⟨0, -1, 0⟩ W (by unfold P3.bd i64b; decide) hW)
  rw [ex_pr] at K7
  unfold CornerRes SE p3V at *
  go_enter Tryd.func14, Tryd.ntmps14
  go_wp2_with fail
  refine (K1.out _ HE.out).mono ?_
  clear K1
  rintro e w1 ⟨rfl, bb⟩
  have HB := Lib.hid bb
  clear bb
  have s1 := SlotN.new w1 [.int .i64 2, .int .i64 (-1), .int .i64 (-1)] #[.int .i64 2, .int .i64 (-1), .int .i64 (-1)] 26 rfl
  have bb : Below w1.heap.size w1 (w1.alloc (.cells #[.int .i64 2, .int .i64 (-1), .int .i64 (-1)] 26)) := (Below.refl _ _).alloc (Nat.le_refl _) _
  have z1 : w1.heap.size < (w1.alloc (.cells #[.int .i64 2, .int .i64 (-1), .int .i64 (-1)] 26)).heap.size := by simp
  go_wp2_with fail
  generalize w1.alloc (.cells #[.int .i64 2, .int .i64 (-1), .int .i64 (-1)] 26) = V1 at s1 bb z1 ⊢
  have S1 := Lib.hid s1
  have HB := Lib.hid (HB.out.trans (bb.mono HB.out.size))
  have q := bb.size
  have l1 : w1.heap.size < V1.heap.size := by first | omega | exact z1
  clear s1 bb q z1
  refine (K2.out _ (HE.out.on HB.out)).mono ?_
  clear K2
  rintro e w2 ⟨rfl, bb⟩
  have HB := Lib.hid (HB.out.trans (bb.mono HB.out.size))
  have S1 := Lib.hid (S1.out.below bb l1)
  have q := bb.size
  have l1 : w1.heap.size < w2.heap.size := by omega
  clear q
  clear bb
  have s2 := SlotN.new w2 [.int .i64 3, .int .i64 1, .int .i64 (-1)] #[.int .i64 3, .int .i64 1, .int .i64 (-1)] 26 rfl
  have bb : Below w2.heap.size w2 (w2.alloc (.cells #[.int .i64 3, .int .i64 1, .int .i64 (-1)] 26)) := (Below.refl _ _).alloc (Nat.le_refl _) _
  have z2 : w2.heap.size < (w2.alloc (.cells #[.int .i64 3, .int .i64 1, .int .i64 (-1)] 26)).heap.size := by simp
  go_wp2_with fail
  generalize w2.alloc (.cells #[.int .i64 3, .int .i64 1, .int .i64 (-1)] 26) = V2 at s2 bb z2 ⊢
  have S1 := Lib.hid (S1.out.below bb l1)
  have S2 := Lib.hid s2
  have HB := Lib.hid (HB.out.trans (bb.mono HB.out.size))
  have q := bb.size
  have l1 : w1.heap.size < V2.heap.size := by first | omega | exact z2
  have l2 : w2.heap.size < V2.heap.size := by first | omega | exact z2
  clear s2 bb q z2
  refine (K3.out _ (HE.out.on HB.out)).mono ?_
  clear K3
  rintro e w3 ⟨rfl, bb⟩
  have HB := Lib.hid (HB.out.trans (bb.mono HB.out.size))
  have S1 := Lib.hid (S1.out.below bb l1)
  have S2 := Lib.hid (S2.out.below bb l2)
  have q := bb.size
  have l1 : w1.heap.size < w3.heap.size := by omega
  have l2 : w2.heap.size < w3.heap.size := by omega
  clear q
  clear bb
  have s3 := SlotN.new w3 [.int .i64 0, .int .i64 (-1), .int .i64 0] #[.int .i64 0, .int .i64 (-1), .int .i64 0] 26 rfl
  have bb : Below w3.heap.size w3 (w3.alloc (.cells #[.int .i64 0, .int .i64 (-1), .int .i64 0] 26)) := (Below.refl _ _).alloc (Nat.le_refl _) _
  have z3 : w3.heap.size < (w3.alloc (.cells #[.int .i64 0, .int .i64 (-1), .int .i64 0] 26)).heap.size := by simp
  go_wp2_with fail
  generalize w3.alloc (.cells #[.int .i64 0, .int .i64 (-1), .int .i64 0] 26) = V3 at s3 bb z3 ⊢
  have S1 := Lib.hid (S1.out.below bb l1)
  have S2 := Lib.hid (S2.out.below bb l2)
  have S3 := Lib.hid s3
  have HB := Lib.hid (HB.out.trans (bb.mono HB.out.size))
  have q := bb.size
  have l1 : w1.heap.size < V3.heap.size := by first | omega | exact z3
  have l2 : w2.heap.size < V3.heap.size := by first | omega | exact z3
  have l3 : w3.heap.size < V3.heap.size := by first | omega | exact z3
  clear s3 bb q z3
  refine (K4.out _ (HE.out.on HB.out)).mono ?_
  clear K4
  rintro e w4 ⟨rfl, bb⟩
  have HB := Lib.hid (HB.out.trans (bb.mono HB.out.size))
  have S1 := Lib.hid (S1.out.below bb l1)
  have S2 := Lib.hid (S2.out.below bb l2)
  have S3 := Lib.hid (S3.out.below bb l3)
  have q := bb.size
  have l1 : w1.heap.size < w4.heap.size := by omega
  have l2 : w2.heap.size < w4.heap.size := by omega
  have l3 : w3.heap.size < w4.heap.size := by omega
  clear q
  clear bb
  have s4 := SlotN.new w4 [.int .i64 1, .int .i64 0, .int .i64 0] #[.int .i64 1, .int .i64 0, .int .i64 0] 26 rfl
  have bb : Below w4.heap.size w4 (w4.alloc (.cells #[.int .i64 1, .int .i64 0, .int .i64 0] 26)) := (Below.refl _ _).alloc (Nat.le_refl _) _
  have z4 : w4.heap.size < (w4.alloc (.cells #[.int .i64 1, .int .i64 0, .int .i64 0] 26)).heap.size := by simp
  go_wp2_with fail
  generalize w4.alloc (.cells #[.int .i64 1, .int .i64 0, .int .i64 0] 26) = V4 at s4 bb z4 ⊢
  have S1 := Lib.hid (S1.out.below bb l1)
  have S2 := Lib.hid (S2.out.below bb l2)
  have S3 := Lib.hid (S3.out.below bb l3)
  have S4 := Lib.hid s4
  have HB := Lib.hid (HB.out.trans (bb.mono HB.out.size))
  have q := bb.size
  have l1 : w1.heap.size < V4.heap.size := by first | omega | exact z4
  have l2 : w2.heap.size < V4.heap.size := by first | omega | exact z4
  have l3 : w3.heap.size < V4.heap.size := by first | omega | exact z4
  have l4 : w4.heap.size < V4.heap.size := by first | omega | exact z4
  clear s4 bb q z4
  refine (K5.out _ (HE.out.on HB.out)).mono ?_
  clear K5
  rintro e w5 ⟨rfl, bb⟩
  have HB := Lib.hid (HB.out.trans (bb.mono HB.out.size))
  have S1 := Lib.hid (S1.out.below bb l1)
  have S2 := Lib.hid (S2.out.below bb l2)
  have S3 := Lib.hid (S3.out.below bb l3)
  have S4 := Lib.hid (S4.out.below bb l4)
  have q := bb.size
  have l1 : w1.heap.size < w5.heap.size := by omega
  have l2 : w2.heap.size < w5.heap.size := by omega
  have l3 : w3.heap.size < w5.heap.size := by omega
  have l4 : w4.heap.size < w5.heap.size := by omega
  clear q
  clear bb
  have s5 := SlotN.new w5 [.int .i64 0, .int .i64 0, .int .i64 0] #[.int .i64 0, .int .i64 0, .int .i64 0] 26 rfl
  have bb : Below w5.heap.size w5 (w5.alloc (.cells #[.int .i64 0, .int .i64 0, .int .i64 0] 26)) := (Below.refl _ _).alloc (Nat.le_refl _) _
  have z5 : w5.heap.size < (w5.alloc (.cells #[.int .i64 0, .int .i64 0, .int .i64 0] 26)).heap.size := by simp
  go_wp2_with fail
  generalize w5.alloc (.cells #[.int .i64 0, .int .i64 0, .int .i64 0] 26) = V5 at s5 bb z5 ⊢
  have S1 := Lib.hid (S1.out.below bb l1)
  have S2 := Lib.hid (S2.out.below bb l2)
  have S3 := Lib.hid (S3.out.below bb l3)
  have S4 := Lib.hid (S4.out.below bb l4)
  have S5 := Lib.hid s5
  have HB := Lib.hid (HB.out.trans (bb.mono HB.out.size))
  have q := bb.size
  have l1 : w1.heap.size < V5.heap.size := by first | omega | exact z5
  have l2 : w2.heap.size < V5.heap.size := by first | omega | exact z5
  have l3 : w3.heap.size < V5.heap.size := by first | omega | exact z5
  have l4 : w4.heap.size < V5.heap.size := by first | omega | exact z5
  have l5 : w5.heap.size < V5.heap.size := by first | omega | exact z5
  clear s5 bb q z5
  refine (K6.out _ (HE.out.on HB.out)).mono ?_
  clear K6
  rintro e w6 ⟨rfl, bb⟩
  have HB := Lib.hid (HB.out.trans (bb.mono HB.out.size))
  have S1 := Lib.hid (S1.out.below bb l1)
  have S2 := Lib.hid (S2.out.below bb l2)
  have S3 := Lib.hid (S3.out.below bb l3)
  have S4 := Lib.hid (S4.out.below bb l4)
  have S5 := Lib.hid (S5.out.below bb l5)
  have q := bb.size
  have l1 : w1.heap.size < w6.heap.size := by omega
  have l2 : w2.heap.size < w6.heap.size := by omega
  have l3 : w3.heap.size < w6.heap.size := by omega
  have l4 : w4.heap.size < w6.heap.size := by omega
  have l5 : w5.heap.size < w6.heap.size := by omega
  clear q
  clear bb
  have s6 := SlotN.new w6 [.int .i64 0, .int .i64 0, .int .i64 0] #[.int .i64 0, .int .i64 0, .int .i64 0] 26 rfl
  have bb : Below w6.heap.size w6 (w6.alloc (.cells #[.int .i64 0, .int .i64 0, .int .i64 0] 26)) := (Below.refl _ _).alloc (Nat.le_refl _) _
  have z6 : w6.heap.size < (w6.alloc (.cells #[.int .i64 0, .int .i64 0, .int .i64 0] 26)).heap.size := by simp
  have c30 := (S3.out.below bb l3).c 0 _ rfl
  have c31 := (S3.out.below bb l3).c 1 _ rfl
  have c32 := (S3.out.below bb l3).c 2 _ rfl
  go_wp2_with fail
  clear c30 c31 c32
  generalize w6.alloc (.cells #[.int .i64 0, .int .i64 0, .int .i64 0] 26) = V6 at s6 bb z6 ⊢
  have S1 := Lib.hid (S1.out.below bb l1)
  have S2 := Lib.hid (S2.out.below bb l2)
  have S3 := Lib.hid (S3.out.below bb l3)
  have S4 := Lib.hid (S4.out.below bb l4)
  have S5 := Lib.hid (S5.out.below bb l5)
  have HB := Lib.hid (HB.out.trans (bb.mono HB.out.size))
  have q := bb.size
  have l1 : w1.heap.size < V6.heap.size := by omega
  have l2 : w2.heap.size < V6.heap.size := by omega
  have l3 : w3.heap.size < V6.heap.size := by omega
  have l4 : w4.heap.size < V6.heap.size := by omega
  have l5 : w5.heap.size < V6.heap.size := by omega
  clear s6 bb q z6
  refine (K7.out _ (HE.out.on HB.out)).mono ?_
  clear K7
  rintro e w7 ⟨rfl, bb⟩
  have S1 := Lib.hid (S1.out.below bb l1)
  have S2 := Lib.hid (S2.out.below bb l2)
  have S3 := Lib.hid (S3.out.below bb l3)
  have S4 := Lib.hid (S4.out.below bb l4)
  have S5 := Lib.hid (S5.out.below bb l5)
  have HB := Lib.hid (HB.out.trans (bb.mono HB.out.size))
  have q := bb.size
  have l1 : w1.heap.size < w7.heap.size := by omega
  have l2 : w2.heap.size < w7.heap.size := by omega
  have l3 : w3.heap.size < w7.heap.size := by omega
  have l4 : w4.heap.size < w7.heap.size := by omega
  have l5 : w5.heap.size < w7.heap.size := by omega
  clear bb q
  have hstr := strs_alloc w7 exF #[.string ⟨#[49]⟩, .string ⟨#[50]⟩, .string ⟨#[51]⟩, .string ⟨#[52]⟩] 9 4 rfl rfl (by decide)
  have bb : Below w7.heap.size w7 (w7.alloc (.cells #[.string ⟨#[49]⟩, .string ⟨#[50]⟩, .string ⟨#[51]⟩, .string ⟨#[52]⟩] 9)) := (Below.refl _ _).alloc (Nat.le_refl _) _
  have hz : (w7.alloc (.cells #[.string ⟨#[49]⟩, .string ⟨#[50]⟩, .string ⟨#[51]⟩, .string ⟨#[52]⟩] 9)).heap.size = w7.heap.size + 1 := by simp
  go_wp2_with fail
  generalize w7.alloc (.cells #[.string ⟨#[49]⟩, .string ⟨#[50]⟩, .string ⟨#[51]⟩, .string ⟨#[52]⟩] 9) = V7 at hstr bb hz ⊢
  rw [← hz] at hstr
  have S1 := Lib.hid (S1.out.below bb l1)
  have S2 := Lib.hid (S2.out.below bb l2)
  have S3 := Lib.hid (S3.out.below bb l3)
  have S4 := Lib.hid (S4.out.below bb l4)
  have S5 := Lib.hid (S5.out.below bb l5)
  have HB := Lib.hid (HB.out.trans (bb.mono HB.out.size))
  have l1 : w1.heap.size < V7.heap.size := by omega
  have l2 : w2.heap.size < V7.heap.size := by omega
  have l3 : w3.heap.size < V7.heap.size := by omega
  have l4 : w4.heap.size < V7.heap.size := by omega
  have l5 : w5.heap.size < V7.heap.size := by omega
  have KF := face_any V7.heap.size (some ⟨w7.heap.size, 0, none⟩) 4 4 ⟨4, 0, 0⟩ exF V7 hstr (Nat.le_refl _) (by omega) (by decide) (by unfold P3.bd i64b; decide) (HE.out.on HB.out)
  rw [ex_fc] at KF
  clear hstr bb hz
  refine KF.mono ?_
  clear KF
  rintro e w8 ⟨A, c, rfl, hown, bb⟩
  have S1 := Lib.hid (S1.out.below bb l1)
  have S2 := Lib.hid (S2.out.below bb l2)
  have S3 := Lib.hid (S3.out.below bb l3)
  have S4 := Lib.hid (S4.out.below bb l4)
  have S5 := Lib.hid (S5.out.below bb l5)
  have HB := Lib.hid (HB.out.trans (bb.mono HB.out.size))
  have q := bb.size
  have l1 : w1.heap.size < w8.heap.size := by omega
  have l2 : w2.heap.size < w8.heap.size := by omega
  have l3 : w3.heap.size < w8.heap.size := by omega
  have l4 : w4.heap.size < w8.heap.size := by omega
  have l5 : w5.heap.size < w8.heap.size := by omega
  clear bb q
  obtain ⟨g, rfl, hg1, hg2, _, hcell⟩ := own_cells hown (by simp)
  have cg := hcell 15 (.int .i64 3) rfl
  clear hcell hown
  have c10 := S1.out.c 0 _ rfl
  have c11 := S1.out.c 1 _ rfl
  have c12 := S1.out.c 2 _ rfl
  have c20 := S2.out.c 0 _ rfl
  have c21 := S2.out.c 1 _ rfl
  have c22 := S2.out.c 2 _ rfl
  have c30 := S3.out.c 0 _ rfl
  have c31 := S3.out.c 1 _ rfl
  have c32 := S3.out.c 2 _ rfl
  have c40 := S4.out.c 0 _ rfl
  have c41 := S4.out.c 1 _ rfl
  have c42 := S4.out.c 2 _ rfl
  go_wp2_with fail
  have KN : Calls Tryd.prog 13 #[.slice none 0 0] w8 (FanRes w8 []) := fan_any w8.heap.size none 0 0 [] w8 ⟨Rd.nil, by omega⟩ (Nat.le_refl _) (by omega)
  refine KN.mono ?_
  clear KN
  rintro e w9 ⟨A2, c2, rfl, _, bb⟩
  have HB := Lib.hid (HB.out.trans (bb.mono HB.out.size))
  clear bb
  go_wp2_with fail
  go_ret
  exact ⟨rfl, HB.out⟩
end Go.Proofs.YtkdffcoofijhkaaDoor
