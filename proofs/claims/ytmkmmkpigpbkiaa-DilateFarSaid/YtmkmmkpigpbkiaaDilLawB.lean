/-
  THE WALK OF THE LAW DilateFar.
-/
import Derived.Test.YtmkmmkpigpbkiaaDilLawA
set_option linter.unusedVariables false
set_option linter.unusedSimpArgs false
namespace Go.Proofs.Ytmkmmkpigpbkiaa
open Go.RowKit

set_option maxHeartbeats 3200000 in
theorem far_law (a b c : Pt) (w : World) (ha : a.b) (hb : b.b) (hc : c.b) :
    Calls Try.prog 6 #[ptV a, ptV b, ptV c] w fun e w' => e = .returned (.bool true) ∧ Below w.heap.size w w' := by
  have F1 := Lib.hid (fun W => far_any a b W ha hb)
  have F2 := Lib.hid (fun W => far_any b c W hb hc)
  have F3 := Lib.hid (fun W => far_any a c W ha hc)
  have F4 := Lib.hid (fun W => far_any b a W hb ha)
  rw [farS_comm b a] at F4
  have r1 := farS_range a b
  have r2 := farS_range b c
  have r3 := farS_range a c
  have tri := farS_tri a b c
  have zer := farS_zero a b
  obtain ⟨x, hx⟩ : ∃ x, x = farS a b := ⟨_, rfl⟩
  obtain ⟨y, hy⟩ : ∃ y, y = farS b c := ⟨_, rfl⟩
  obtain ⟨z, hz⟩ : ∃ z, z = farS a c := ⟨_, rfl⟩
  rw [← hx] at F1 F4 r1 tri zer
  rw [← hy] at F2 r2 tri
  rw [← hz] at F3 r3 tri
  clear hx hy hz
  obtain ⟨r11, r12⟩ := r1
  obtain ⟨r21, r22⟩ := r2
  obtain ⟨r31, r32⟩ := r3
  obtain ⟨ax, ay⟩ := a
  obtain ⟨bx, by'⟩ := b
  obtain ⟨cx, cy⟩ := c
  have t1 : decide (0 ≤ x) = true := decide_eq_true r11
  have t2 : decide (x ≤ 1000) = true := decide_eq_true r12
  have t3 : decide (z ≤ x + y) = true := decide_eq_true tri
  unfold ptV at *
  simp only at *
  have hB : Below w.heap.size w (((w.alloc (.cells #[.int .i64 ax, .int .i64 ay] 24)).alloc (.cells #[.int .i64 bx, .int .i64 by'] 24)).alloc (.cells #[.int .i64 cx, .int .i64 cy] 24)) := (((Below.refl _ _).alloc (Nat.le_refl _) _).alloc (by simp) _).alloc (by simp; omega) _
  have S1 := (SlotN.new w [.int .i64 ax, .int .i64 ay] #[.int .i64 ax, .int .i64 ay] 24 rfl).below (((Below.refl (w.heap.size + 1) _).alloc (by simp) (.cells #[.int .i64 bx, .int .i64 by'] 24)).alloc (by simp; first | done | omega) (.cells #[.int .i64 cx, .int .i64 cy] 24)) (by omega)
  have S2 := (SlotN.new (w.alloc (.cells #[.int .i64 ax, .int .i64 ay] 24)) [.int .i64 bx, .int .i64 by'] #[.int .i64 bx, .int .i64 by'] 24 rfl).below (((Below.refl (w.heap.size + 2) _).alloc (by simp) (.cells #[.int .i64 cx, .int .i64 cy] 24))) (by simp)
  have S3 := SlotN.new ((w.alloc (.cells #[.int .i64 ax, .int .i64 ay] 24)).alloc (.cells #[.int .i64 bx, .int .i64 by'] 24)) [.int .i64 cx, .int .i64 cy] #[.int .i64 cx, .int .i64 cy] 24 rfl
  simp only [World.size_alloc] at S2 S3
  have hsz : (((w.alloc (.cells #[.int .i64 ax, .int .i64 ay] 24)).alloc (.cells #[.int .i64 bx, .int .i64 by'] 24)).alloc (.cells #[.int .i64 cx, .int .i64 cy] 24)).heap.size = w.heap.size + 3 := by simp
  go_enter Try.func6, Try.ntmps6
  go_wp2_with fail
  obtain ⟨W0, hW0⟩ : ∃ W0, W0 = ((w.alloc (.cells #[.int .i64 ax, .int .i64 ay] 24)).alloc (.cells #[.int .i64 bx, .int .i64 by'] 24)).alloc (.cells #[.int .i64 cx, .int .i64 cy] 24) := ⟨_, rfl⟩
  rw [← hW0] at hB S1 S2 S3 hsz ⊢
  clear hW0
  refine (F1.out _).mono ?_
  clear F1
  rintro e w1 ⟨rfl, b1⟩
  have S11 := S1.below b1 (by omega)
  have S21 := S2.below b1 (by omega)
  have S31 := S3.below b1 (by omega)
  have z1 : w.heap.size + 3 ≤ w1.heap.size := by have := b1.size; omega
  have hB1 := hB.trans (b1.mono (by omega))
  clear S1 S2 S3 b1 hB hsz
  have p0 := S21.c 0 _ rfl
  have p1 := S21.c 1 _ rfl
  have p2 := S31.c 0 _ rfl
  have p3 := S31.c 1 _ rfl
  go_wp2_with fail
  refine (F2.out _).mono ?_
  clear F2 p0 p1 p2 p3
  rintro e w2 ⟨rfl, b2⟩
  have S12 := S11.below b2 (by omega)
  have S22 := S21.below b2 (by omega)
  have S32 := S31.below b2 (by omega)
  have z2 : w.heap.size + 3 ≤ w2.heap.size := by have := b2.size; omega
  have hB2 := hB1.trans (b2.mono (by omega))
  clear S11 S21 S31 b2 hB1
  have p0 := S12.c 0 _ rfl
  have p1 := S12.c 1 _ rfl
  have p2 := S32.c 0 _ rfl
  have p3 := S32.c 1 _ rfl
  go_wp2_with fail
  refine (F3.out _).mono ?_
  clear F3 p0 p1 p2 p3
  rintro e w3 ⟨rfl, b3⟩
  have S13 := S12.below b3 (by omega)
  have S23 := S22.below b3 (by omega)
  have z3 : w.heap.size + 3 ≤ w3.heap.size := by have := b3.size; omega
  have hB3 := hB2.trans (b3.mono (by omega))
  clear S12 S22 S32 b3 hB2
  go_wp2_with fail
  refine (rows_any _).mono ?_
  rintro e w4 ⟨rfl, b4⟩
  have S14 := S13.below b4 (by omega)
  have S24 := S23.below b4 (by omega)
  have z4 : w.heap.size + 3 ≤ w4.heap.size := by have := b4.size; omega
  have hB4 := hB3.trans (b4.mono (by omega))
  clear S13 S23 b4 hB3
  have p0 := S14.c 0 _ rfl
  have p1 := S14.c 1 _ rfl
  have p2 := S24.c 0 _ rfl
  have p3 := S24.c 1 _ rfl
  go_wp2_with fail
  refine (F4.out _).mono ?_
  clear F4 p0 p1 p2 p3
  rintro e w5 ⟨rfl, b5⟩
  have S15 := S14.below b5 (by omega)
  have S25 := S24.below b5 (by omega)
  have hB5 := hB4.trans (b5.mono (by omega))
  clear S14 S24 b5 hB4
  have p0 := S15.c 0 _ rfl
  have p1 := S15.c 1 _ rfl
  have p2 := S25.c 0 _ rfl
  have p3 := S25.c 1 _ rfl
  by_cases h : ax = bx ∧ ay = by'
  · obtain ⟨rfl, rfl⟩ := h
    have hx0 : x = 0 := zer.2 rfl
    subst hx0
    clear zer
    have t3z : decide (z ≤ y) = true := decide_eq_true (by omega)
    go_wp2_with fail
    go_ret
    exact ⟨rfl, hB5⟩
  · have hx0 : (x == 0) = false := by
      simp only [beq_eq_false_iff_ne, ne_eq]
      intro e
      have := zer.1 e
      injection this with e1 e2
      exact h ⟨e1, e2⟩
    have H := Lib.hid h; clear h zer
    cases f1 : (ax == bx) <;> cases f2 : (ay == by')
    case true.true => exact absurd ⟨eq_of_beq f1, eq_of_beq f2⟩ H.out
    all_goals
      go_wp2_with fail
      go_ret
      exact ⟨rfl, hB5⟩
end Go.Proofs.Ytmkmmkpigpbkiaa
