/-
  THE WALKS OF dilate.gap, Far, Fill.
-/
import Derived.Test.YtmkmmkpigpbkiaaDilSpec
import Derived.Test.YtmkmmkpigpbkiaaContI
import Derived.Test.YtmkmmkpigpbkiaaLex
set_option linter.unusedVariables false
set_option linter.unusedSimpArgs false
namespace Go.Proofs.Ytmkmmkpigpbkiaa
open Go.RowKit

theorem u64_gap (a b : Int) (ha : i64b a) (hb : i64b b) (h : b ≤ a) : IntKind.u64.wrap (IntKind.u64.wrap a - IntKind.u64.wrap b) = a - b := by
  obtain ⟨a1, a2⟩ := ha
  obtain ⟨b1, b2⟩ := hb
  simp only [IntKind.wrap_u64]
  omega

theorem gap_any (a b : Int) (w : World) (ha : i64b a) (hb : i64b b) :
    Calls Try.prog 23 #[.int .i64 a, .int .i64 b] w fun e w' => e = .returned (.int .i64 (gapS a b)) ∧ w' = w := by
  have w1000 : wrap64 1000 = 1000 := by first | rfl | (unfold wrap64; omega)
  by_cases h : a < b
  · have d : decide (a < b) = true := decide_eq_true h
    obtain ⟨X, hX⟩ : ∃ X, b - a = X := ⟨_, rfl⟩
    have hd := u64_gap b a hb ha (by omega)
    rw [hX] at hd
    have X0 : 0 ≤ X := by omega
    have HX := Lib.hid hX; clear hX
    by_cases hm : X ≤ 1000
    · have d1 : decide (X ≤ 1000) = true := decide_eq_true hm
      have H := Lib.hid h; clear h
      go_enter Try.func23, Try.ntmps23
      go_wp2_with fail
      all_goals
        go_ret
        refine ⟨ret_int ?_, rfl⟩
        have := H.out; have := HX.out
        simp only [gapS]; rw [if_pos (by omega)]; omega
    · have H := Lib.hid h; clear h
      go_enter Try.func23, Try.ntmps23
      go_wp2_with fail
      all_goals
        go_ret
        refine ⟨ret_int ?_, rfl⟩
        have := H.out; have := HX.out
        simp only [gapS]; rw [if_pos (by omega)]; omega
  · have d : decide (a < b) = false := decide_eq_false h
    obtain ⟨X, hX⟩ : ∃ X, a - b = X := ⟨_, rfl⟩
    have hd := u64_gap a b ha hb (by omega)
    rw [hX] at hd
    have X0 : 0 ≤ X := by omega
    have HX := Lib.hid hX; clear hX
    by_cases hm : X ≤ 1000
    · have d1 : decide (X ≤ 1000) = true := decide_eq_true hm
      have H := Lib.hid h; clear h
      go_enter Try.func23, Try.ntmps23
      go_wp2_with fail
      all_goals
        go_ret
        refine ⟨ret_int ?_, rfl⟩
        have := H.out; have := HX.out
        simp only [gapS]; rw [if_neg (by omega)]; omega
    · have H := Lib.hid h; clear h
      go_enter Try.func23, Try.ntmps23
      go_wp2_with fail
      all_goals
        go_ret
        refine ⟨ret_int ?_, rfl⟩
        have := H.out; have := HX.out
        simp only [gapS]; rw [if_neg (by omega)]; omega

/-- Two structs by value: far -/
theorem far_any (a b : Pt) (w : World) (ha : a.b) (hb : b.b) :
    Calls Try.prog 17 #[ptV a, ptV b] w fun e w' => e = .returned (.int .i64 (farS a b)) ∧ Below w.heap.size w w' := by
  obtain ⟨ax, ay⟩ := a
  obtain ⟨bx, by'⟩ := b
  obtain ⟨ha1, ha2⟩ := ha
  obtain ⟨hb1, hb2⟩ := hb
  simp only at ha1 ha2 hb1 hb2
  have r1 := gapS_range ax bx
  have r2 := gapS_range ay by'
  unfold ptV
  simp only [farS]
  obtain ⟨r11, r12⟩ := r1
  obtain ⟨r21, r22⟩ := r2
  have hB : ∀ a b : Obj, Below w.heap.size w ((w.alloc a).alloc b) := fun a b => ((Below.refl _ _).alloc (Nat.le_refl _) _).alloc (by simp) _
  go_enter Try.func17, Try.ntmps17
  go_wp2_with fail
  go_quiet ((go_at_call 23; exact Calls.quiet_of_same (gap_any _ _ _ (by assumption) (by assumption))))
  go_wp2_with fail
  all_goals
    go_ret
    exact ⟨ret_int (by omega), below_drewN (hB _ _) _⟩
end Go.Proofs.Ytmkmmkpigpbkiaa
