/-
  WIDE NUMBERS: what the code is to answer, in plain Lean. No program in sight. A Wide is a Pt: x is Hi, y is Lo.
-/
import Derived.Test.YtcllghcplphijaaDoorGeo
set_option linter.unusedVariables false
set_option linter.unusedSimpArgs false
namespace Go.Proofs.YtcllghcplphijaaDoor
open Go.RowKit

def wIs (a : Pt) : Bool := decide (0 ≤ a.y) && decide (a.y < 1000000000000000000) && decide (-4000000000000000000 ≤ a.x) && decide (a.x ≤ 4000000000000000000)
def wval (a : Pt) : Int := a.x * 1000000000000000000 + a.y
def wOf (n : Int) : Pt := ⟨n / 1000000000000000000, n % 1000000000000000000⟩
/-- the Wide of a number, or ErrWide -/
def wTold (n : Int) : Pt × Int := if wIs (wOf n) then (wOf n, 0) else (⟨0, 0⟩, 4)
def wMul (a b : Int) : Pt × Int := if -1000000000000000000 ≤ a ∧ a ≤ 1000000000000000000 ∧ -1000000000000000000 ≤ b ∧ b ≤ 1000000000000000000 then (wOf (a * b), 0) else (⟨0, 0⟩, 2)
def wSumF : Pt → List Pt → Pt × Int
  | out, [] => (out, 0)
  | out, a :: l => if (wTold (wval out + wval a)).2 = 0 then wSumF (wTold (wval out + wval a)).1 l else (⟨0, 0⟩, (wTold (wval out + wval a)).2)
def wAdd (l : List Pt) : Pt × Int := if l.all wIs then wSumF ⟨0, 0⟩ l else (⟨0, 0⟩, 1)
def wNeg (a : Pt) : Pt × Int := if wIs a then wTold (-wval a) else (⟨0, 0⟩, 1)
def wCmp (a b : Pt) : Int := if a = b then 0 else if a.x < b.x then -1 else if b.x < a.x then 1 else if a.y < b.y then -1 else 1
def wInt (a : Pt) : Int × Int := if wIs a then (if -9223372036854775808 ≤ wval a ∧ wval a ≤ 9223372036854775807 then (wval a, 0) else (0, 4)) else (0, 1)
def wDiv (a : Pt) (n : Int) : Pt × Int × Int := if wIs a ∧ 1 ≤ n ∧ n ≤ 1000000000 then (wOf (wval a / n), wval a % n, 0) else (⟨0, 0⟩, 0, 1)

theorem wIs_iff (a : Pt) : wIs a = true ↔ 0 ≤ a.y ∧ a.y < 1000000000000000000 ∧ -4000000000000000000 ≤ a.x ∧ a.x ≤ 4000000000000000000 := by
  simp [wIs, and_assoc]
theorem wOf_wval {a : Pt} (h : 0 ≤ a.y ∧ a.y < 1000000000000000000) : wOf (wval a) = a := by
  obtain ⟨x, y⟩ := a
  simp only [wOf, wval] at *
  have h1 : (x * 1000000000000000000 + y) / 1000000000000000000 = x := by omega
  have h2 : (x * 1000000000000000000 + y) % 1000000000000000000 = y := by omega
  rw [h1, h2]
theorem wval_wOf (n : Int) : wval (wOf n) = n := by simp only [wOf, wval]; omega
theorem wOf_of (a : Pt) (n : Int) (h : 0 ≤ a.y ∧ a.y < 1000000000000000000) (e : wval a = n) : a = wOf n := by rw [← e, wOf_wval h]
theorem wTold_of {a : Pt} {n : Int} (h : 0 ≤ a.y ∧ a.y < 1000000000000000000) (e : wval a = n) : wTold n = if wIs a then (a, 0) else (⟨0, 0⟩, 4) := by
  unfold wTold; rw [← wOf_of a n h e]
theorem wTold_zero {n : Int} (h : (wTold n).2 = 0) : wTold n = (wOf n, 0) ∧ wIs (wOf n) = true := by
  unfold wTold at *
  split
  · exact ⟨rfl, ‹_›⟩
  · rw [if_neg ‹_›] at h; simp at h
theorem wTold_b (n : Int) : (wTold n).1.b := by
  unfold wTold
  split
  · rename_i h
    rw [wIs_iff] at h
    simp only [Pt.b, i64b]; omega
  · simp only [Pt.b, i64b]; omega

/-! the product, by halves -/
theorem wmul_num {a b : Int} (ha : 0 ≤ a ∧ a ≤ 1000000000000000000) (hb : 0 ≤ b ∧ b ≤ 1000000000000000000) {x0 x1 y0 y1 : Int} (hx0 : x0 = a / 1000000000) (hx1 : x1 = a % 1000000000) (hy0 : y0 = b / 1000000000) (hy1 : y1 = b % 1000000000) :
    (0 ≤ x1 * y1 ∧ x1 * y1 ≤ 999999998000000001) ∧ (0 ≤ x0 * y1 ∧ x0 * y1 ≤ 999999999000000000) ∧ (0 ≤ x1 * y0 ∧ x1 * y0 ≤ 999999999000000000) ∧ (0 ≤ x0 * y0 ∧ x0 * y0 ≤ 1000000000000000000) ∧
    a * b = x0 * y0 * 1000000000000000000 + (x0 * y1 + x1 * y0) * 1000000000 + x1 * y1 := by
  have e1 : a = x0 * 1000000000 + x1 := by omega
  have e2 : b = y0 * 1000000000 + y1 := by omega
  have b1 : 0 ≤ x0 ∧ x0 ≤ 1000000000 ∧ 0 ≤ x1 ∧ x1 ≤ 999999999 := by omega
  have b2 : 0 ≤ y0 ∧ y0 ≤ 1000000000 ∧ 0 ≤ y1 ∧ y1 ≤ 999999999 := by omega
  clear hx0 hx1 hy0 hy1
  obtain ⟨p1, p2, p3, p4⟩ := b1
  obtain ⟨q1, q2, q3, q4⟩ := b2
  refine ⟨⟨Int.mul_nonneg p3 q3, ?_⟩, ⟨Int.mul_nonneg p1 q3, ?_⟩, ⟨Int.mul_nonneg p3 q1, ?_⟩, ⟨Int.mul_nonneg p1 q1, ?_⟩, ?_⟩
  · exact Int.le_trans (Int.mul_le_mul p4 q4 q3 (by decide)) (by decide)
  · exact Int.le_trans (Int.mul_le_mul p2 q4 q3 (by decide)) (by decide)
  · exact Int.le_trans (Int.mul_le_mul p4 q2 q1 (by decide)) (by decide)
  · exact Int.le_trans (Int.mul_le_mul p2 q2 q1 (by decide)) (by decide)
  · rw [e1, e2, Int.add_mul, Int.mul_add, Int.mul_add]
    rw [show x0 * 1000000000 * (y0 * 1000000000) = x0 * y0 * 1000000000000000000 by
      rw [Int.mul_assoc, ← Int.mul_assoc 1000000000 y0, Int.mul_comm 1000000000 y0, Int.mul_assoc y0, ← Int.mul_assoc x0]; rfl]
    rw [show x0 * 1000000000 * y1 = x0 * y1 * 1000000000 by rw [Int.mul_assoc, Int.mul_comm 1000000000, ← Int.mul_assoc]]
    rw [show x1 * (y0 * 1000000000) = x1 * y0 * 1000000000 by rw [← Int.mul_assoc]]
    omega

/-! the quotient, by halves -/
theorem wdiv_num {a : Pt} {n : Int} (ha : 0 ≤ a.y ∧ a.y < 1000000000000000000) (hn : 1 ≤ n ∧ n ≤ 1000000000) {l0 q1 l1 q2 l2 t1 t2 : Int} (h0 : l0 = a.x % n)
    (ht1 : t1 = l0 * 1000000000 + a.y / 1000000000) (hq1 : q1 = t1 / n) (hl1 : l1 = t1 % n) (ht2 : t2 = l1 * 1000000000 + a.y % 1000000000) (hq2 : q2 = t2 / n) (hl2 : l2 = t2 % n) :
    (0 ≤ l0 ∧ l0 < n) ∧ (0 ≤ l1 ∧ l1 < n) ∧ (0 ≤ l2 ∧ l2 < n) ∧ (0 ≤ q1 ∧ q1 < 1000000000) ∧ (0 ≤ q2 ∧ q2 < 1000000000) ∧ wOf (wval a / n) = ⟨a.x / n, q1 * 1000000000 + q2⟩ ∧ wval a % n = l2 := by
  have n0 : n ≠ 0 := by omega
  have b0 : 0 ≤ l0 ∧ l0 < n := by rw [h0]; exact ⟨Int.emod_nonneg _ n0, Int.emod_lt_of_pos _ (by omega)⟩
  have b1 : 0 ≤ l1 ∧ l1 < n := by rw [hl1]; exact ⟨Int.emod_nonneg _ n0, Int.emod_lt_of_pos _ (by omega)⟩
  have b2 : 0 ≤ l2 ∧ l2 < n := by rw [hl2]; exact ⟨Int.emod_nonneg _ n0, Int.emod_lt_of_pos _ (by omega)⟩
  have e0 : n * (a.x / n) + l0 = a.x := by rw [h0]; exact Int.mul_ediv_add_emod _ _
  have e1 : n * q1 + l1 = t1 := by rw [hq1, hl1]; exact Int.mul_ediv_add_emod _ _
  have e2 : n * q2 + l2 = t2 := by rw [hq2, hl2]; exact Int.mul_ediv_add_emod _ _
  have c1 : 0 ≤ q1 ∧ q1 < 1000000000 := by
    rw [hq1]
    exact ⟨Int.ediv_nonneg (by omega) (by omega), Int.ediv_lt_of_lt_mul (by omega) (by omega)⟩
  have c2 : 0 ≤ q2 ∧ q2 < 1000000000 := by
    rw [hq2]
    exact ⟨Int.ediv_nonneg (by omega) (by omega), Int.ediv_lt_of_lt_mul (by omega) (by omega)⟩
  have key : wval a = n * wval ⟨a.x / n, q1 * 1000000000 + q2⟩ + l2 := by
    simp only [wval]
    rw [Int.mul_add, Int.mul_add, ← Int.mul_assoc, ← Int.mul_assoc]
    generalize n * (a.x / n) = m0 at *
    generalize n * q1 = m1 at *
    generalize n * q2 = m2 at *
    omega
  have d1 : wval a / n = wval ⟨a.x / n, q1 * 1000000000 + q2⟩ := by
    rw [key, Int.mul_add_ediv_left _ _ n0, Int.ediv_eq_zero_of_lt b2.1 b2.2, Int.add_zero]
  have d2 : wval a % n = l2 := by
    rw [key, Int.mul_add_emod_self_left, Int.emod_eq_of_lt b2.1 b2.2]
  refine ⟨b0, b1, b2, c1, c2, ?_, d2⟩
  rw [d1, wOf_wval (by simp only; omega)]

/-! the order is that of the numbers -/
theorem wCmp_num {a b : Pt} (ha : 0 ≤ a.y ∧ a.y < 1000000000000000000) (hb : 0 ≤ b.y ∧ b.y < 1000000000000000000) :
    wCmp a b = if wval a = wval b then 0 else if wval a < wval b then -1 else 1 := by
  have va : wval a = a.x * 1000000000000000000 + a.y := rfl
  have vb : wval b = b.x * 1000000000000000000 + b.y := rfl
  unfold wCmp
  by_cases e : a = b
  · subst e; rw [if_pos rfl, if_pos rfl]
  have e' : a.x ≠ b.x ∨ a.y ≠ b.y := by
    by_cases h : a.x = b.x
    · refine .inr fun h2 => e ?_
      cases a; cases b; simp_all
    · exact .inl h
  rw [if_neg e]
  by_cases e1 : a.x < b.x
  · rw [if_pos e1, if_neg (by omega), if_pos (by omega)]
  rw [if_neg e1]
  by_cases e2 : b.x < a.x
  · rw [if_pos e2, if_neg (by omega), if_neg (by omega)]
  rw [if_neg e2]
  by_cases e3 : a.y < b.y
  · rw [if_pos e3, if_neg (by omega), if_pos (by omega)]
  · rw [if_neg e3, if_neg (by omega), if_neg (by omega)]

end Go.Proofs.YtcllghcplphijaaDoor
