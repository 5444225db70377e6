/-
  THE STEPS OF wide.Mul.
-/
import Derived.Test.YtcllghcplphijaaDoorWideWalkE
set_option linter.unusedVariables false
set_option linter.unusedSimpArgs false
namespace Go.Proofs.YtcllghcplphijaaDoor
open Go.RowKit

theorem wmul_no {a b : Int} (h : 1000000000000000000 < a ∨ 1000000000000000000 < b ∨ a < -1000000000000000000 ∨ b < -1000000000000000000) : wMul a b = (⟨0, 0⟩, 2) := by
  unfold wMul; rw [if_neg (by omega)]

theorem wmul_out {a b : Int} (w : World) (ha : i64b a) (hb : i64b b) (h : 1000000000000000000 < a ∨ 1000000000000000000 < b ∨ a < -1000000000000000000 ∨ b < -1000000000000000000) :
    Calls Tryd.prog 20 #[.int .i64 a, .int .i64 b] w (PE w (wMul a b)) := by
  obtain ⟨a1, a2⟩ := ha
  obtain ⟨b1, b2⟩ := hb
  rw [wmul_no h]
  unfold PE ptV
  obtain ⟨s1, hb, hz⟩ := one_slot w [.int .i64 0, .int .i64 0] #[.int .i64 0, .int .i64 0] 23 rfl
  have c0 := s1.c 0 _ rfl
  have c1 := s1.c 1 _ rfl
  have HC0 := Lib.hid c0
  have HC1 := Lib.hid c1
  have HB := Lib.hid hb
  clear s1 hb hz c0 c1
  obtain ⟨h2, h3⟩ | ⟨h2, h3⟩ | ⟨h2, h3, h4, h5⟩ | ⟨h2, h3, h4, h5⟩ : (a < b ∧ 1000000000000000000 < b) ∨ (b ≤ a ∧ 1000000000000000000 < a) ∨ (a < b ∧ b ≤ 1000000000000000000 ∧ a < -1000000000000000000 ∧ a ≤ 0) ∨ (b ≤ a ∧ a ≤ 1000000000000000000 ∧ b < -1000000000000000000 ∧ b ≤ 0) := by omega
  · clear h
    have dbg : decide (1000000000000000000 < b) = true := decide_eq_true (by omega)
    go_enter Tryd.func20, Tryd.ntmps20
    go_wp2_with fail
    all_goals
     have c0 := HC0.out
     have c1 := HC1.out
     exact bodyPost_ret (v := .tuple #[.agg #[.int .i64 0, .int .i64 0], .int .i64 2]) (by simp [results, Tryd.results20, go_sem, c0, c1]) rfl ⟨rfl, HB.out⟩
  · clear h
    have dag : decide (1000000000000000000 < a) = true := decide_eq_true (by omega)
    go_enter Tryd.func20, Tryd.ntmps20
    go_wp2_with fail
    all_goals
     have c0 := HC0.out
     have c1 := HC1.out
     exact bodyPost_ret (v := .tuple #[.agg #[.int .i64 0, .int .i64 0], .int .i64 2]) (by simp [results, Tryd.results20, go_sem, c0, c1]) rfl ⟨rfl, HB.out⟩
  · clear h
    have dbg : decide (1000000000000000000 < b) = false := decide_eq_false (by omega)
    have dal : decide (a < -1000000000000000000) = true := decide_eq_true (by omega)
    go_enter Tryd.func20, Tryd.ntmps20
    go_wp2_with fail
    all_goals
     have c0 := HC0.out
     have c1 := HC1.out
     exact bodyPost_ret (v := .tuple #[.agg #[.int .i64 0, .int .i64 0], .int .i64 2]) (by simp [results, Tryd.results20, go_sem, c0, c1]) rfl ⟨rfl, HB.out⟩
  · clear h
    have dag : decide (1000000000000000000 < a) = false := decide_eq_false (by omega)
    have dbl : decide (b < -1000000000000000000) = true := decide_eq_true (by omega)
    go_enter Tryd.func20, Tryd.ntmps20
    go_wp2_with fail
    all_goals
     have c0 := HC0.out
     have c1 := HC1.out
     exact bodyPost_ret (v := .tuple #[.agg #[.int .i64 0, .int .i64 0], .int .i64 2]) (by simp [results, Tryd.results20, go_sem, c0, c1]) rfl ⟨rfl, HB.out⟩

theorem wmul_parts {X Y : Int} (hX : 0 ≤ X ∧ X ≤ 1000000000000000000) (hY : 0 ≤ Y ∧ Y ≤ 1000000000000000000) {p q r s m : Int} (hp : p = X % 1000000000 * (Y % 1000000000)) (hq : q = X / 1000000000 * (Y % 1000000000)) (hr : r = X % 1000000000 * (Y / 1000000000)) (hs : s = X / 1000000000 * (Y / 1000000000)) (hm : m = (q + r) % 1000000000) :
    (0 ≤ p ∧ p ≤ 999999998000000001) ∧ (0 ≤ q ∧ q ≤ 999999999000000000) ∧ (0 ≤ r ∧ r ≤ 999999999000000000) ∧ (0 ≤ s ∧ s ≤ 1000000000000000000) ∧ (0 ≤ m ∧ m < 1000000000) ∧
    wOf (X * Y) = ⟨s + (q + r) / 1000000000 + (p + m * 1000000000) / 1000000000000000000, (p + m * 1000000000) % 1000000000000000000⟩ := by
  obtain ⟨h1, h2, h3, h4, h5⟩ := wmul_num hX hY rfl rfl rfl rfl
  rw [← hp] at h1 h5
  rw [← hq] at h2 h5
  rw [← hr] at h3 h5
  rw [← hs] at h4 h5
  refine ⟨h1, h2, h3, h4, by omega, ?_⟩
  refine (wOf_of _ _ ?_ ?_).symm
  · simp only; omega
  · simp only [wval]; omega

theorem wmul_side {a b X Y : Int} (ha : -1000000000000000000 ≤ a ∧ a ≤ 1000000000000000000) (hb : -1000000000000000000 ≤ b ∧ b ≤ 1000000000000000000) (hX : X = if a < 0 then -a else a) (hY : Y = if b < 0 then -b else b) :
    wMul a b = if decide (a < 0) = decide (b < 0) then (wOf (X * Y), 0) else wNeg (wOf (X * Y)) := by
  unfold wMul
  rw [if_pos ⟨ha.1, ha.2, hb.1, hb.2⟩]
  have hXb : 0 ≤ X ∧ X ≤ 1000000000000000000 := by rw [hX]; split <;> omega
  have hYb : 0 ≤ Y ∧ Y ≤ 1000000000000000000 := by rw [hY]; split <;> omega
  have p0 := Int.mul_nonneg hXb.1 hYb.1
  have p1 := Int.mul_le_mul hXb.2 hYb.2 hYb.1 (by decide)
  have hneg : wNeg (wOf (X * Y)) = (wOf (-(X * Y)), 0) := by
    have i1 : wIs (wOf (X * Y)) = true := by rw [wIs_iff]; simp only [wOf]; omega
    have i2 : wIs (wOf (-(X * Y))) = true := by rw [wIs_iff]; simp only [wOf]; omega
    unfold wNeg wTold
    rw [if_pos i1, wval_wOf, if_pos i2]
  rw [hneg]
  by_cases h1 : a < 0
  · rw [if_pos h1] at hX
    by_cases h2 : b < 0
    · rw [if_pos h2] at hY
      rw [if_pos (by simp [h1, h2]), hX, hY, Int.neg_mul_neg]
    · rw [if_neg h2] at hY
      rw [if_neg (by simp [h1, h2]), hX, hY, Int.neg_mul, Int.neg_neg]
  · rw [if_neg h1] at hX
    by_cases h2 : b < 0
    · rw [if_pos h2] at hY
      rw [if_neg (by simp [h1, h2]), hX, hY, Int.mul_neg, Int.neg_neg]
    · rw [if_neg h2] at hY
      rw [if_pos (by simp [h1, h2]), hX, hY]
end Go.Proofs.YtcllghcplphijaaDoor
