/-
  SUMS OF TWO, plain and by the code; what a law needs of wide.Add, wide.Neg.
-/
import Derived.Test.YtcllghcplphijaaDoorWideWalkK
import Derived.Test.YtcllghcplphijaaDoorSkip
set_option linter.unusedVariables false
set_option linter.unusedSimpArgs false
set_option maxRecDepth 8000
namespace Go.Proofs.YtcllghcplphijaaDoor
open Go.RowKit

theorem wAdd_two {a b : Pt} (ha : wIs a = true) (hb : wIs b = true) : wAdd [a, b] = wTold (wval a + wval b) := by
  have e1 : wTold (wval ⟨0, 0⟩ + wval a) = (a, 0) := by
    have h := (wIs_iff a).1 ha
    rw [show wval ⟨0, 0⟩ + wval a = wval a by simp [wval], wTold_of ⟨h.1, h.2.1⟩ rfl, if_pos ha]
  unfold wAdd
  rw [if_pos (by simp [ha, hb])]
  unfold wSumF
  rw [e1, if_pos rfl]
  unfold wSumF
  by_cases h : (wTold (wval a + wval b)).2 = 0
  · simp only [h, if_true]; unfold wSumF; rw [← h]
  · simp only [if_neg h]
    unfold wTold at *
    split at h
    · exact absurd rfl h
    · rw [if_neg ‹_›]
theorem wAdd_no {a b : Pt} (h : ¬ (wIs a = true ∧ wIs b = true)) : wAdd [a, b] = (⟨0, 0⟩, 1) := by
  unfold wAdd
  rw [if_neg]
  simpa using h
theorem wAdd_comm (a b : Pt) : wAdd [a, b] = wAdd [b, a] := by
  by_cases h : wIs a = true ∧ wIs b = true
  · rw [wAdd_two h.1 h.2, wAdd_two h.2 h.1, Int.add_comm]
  · rw [wAdd_no h, wAdd_no fun h' => h h'.symm]
/-- a sum that there is -/
theorem wAdd_ok {a b : Pt} (h : (wAdd [a, b]).2 = 0) : wIs a = true ∧ wIs b = true ∧ wAdd [a, b] = (wOf (wval a + wval b), 0) ∧ wIs (wOf (wval a + wval b)) = true := by
  by_cases h2 : wIs a = true ∧ wIs b = true
  · rw [wAdd_two h2.1 h2.2] at h ⊢
    exact ⟨h2.1, h2.2, wTold_zero h⟩
  · rw [wAdd_no h2] at h; simp at h
theorem wAdd_b (a b : Pt) : (wAdd [a, b]).1.b := by
  by_cases h : wIs a = true ∧ wIs b = true
  · rw [wAdd_two h.1 h.2]; exact wTold_b _
  · rw [wAdd_no h]; simp only [Pt.b, i64b]; omega
theorem wAdd_assoc {a b c : Pt} (e : (wAdd [a, b]).2 = 0) (f : (wAdd [(wAdd [a, b]).1, c]).2 = 0) (g : (wAdd [b, c]).2 = 0) (h : (wAdd [a, (wAdd [b, c]).1]).2 = 0) :
    (wAdd [(wAdd [a, b]).1, c]).1 = (wAdd [a, (wAdd [b, c]).1]).1 := by
  obtain ⟨_, _, e1, e2⟩ := wAdd_ok e
  obtain ⟨_, _, g1, g2⟩ := wAdd_ok g
  rw [e1] at f ⊢
  rw [g1] at h ⊢
  obtain ⟨_, _, f1, _⟩ := wAdd_ok f
  obtain ⟨_, _, h1, _⟩ := wAdd_ok h
  rw [f1, h1, wval_wOf, wval_wOf, Int.add_assoc]
theorem wNeg_b (a : Pt) : (wNeg a).1.b := by
  unfold wNeg
  split
  · exact wTold_b _
  · simp only [Pt.b, i64b]; omega
/-- a number and its other side -/
theorem wNeg_ok {a : Pt} (h : (wNeg a).2 = 0) : (wAdd [a, (wNeg a).1]) = (⟨0, 0⟩, 0) ∧ wNeg (wNeg a).1 = (a, 0) := by
  have hi : wIs a = true := by
    unfold wNeg at h
    split at h
    · assumption
    · simp at h
  have h2 : wNeg a = wTold (-wval a) := by unfold wNeg; rw [if_pos hi]
  rw [h2] at h ⊢
  obtain ⟨h3, h4⟩ := wTold_zero h
  rw [h3]
  refine ⟨?_, ?_⟩
  · rw [wAdd_two hi h4, wval_wOf, Int.add_right_neg]; rfl
  · unfold wNeg
    have h' := (wIs_iff a).1 hi
    rw [if_pos h4, wval_wOf, Int.neg_neg, wTold_of ⟨h'.1, h'.2.1⟩ rfl, if_pos hi]

theorem SlotN.set_other {w : World} {g : Nat} {cs : List Value} (h : SlotN w g cs) (p : Addr) (u : Value) (hp : p.block ≠ g) : SlotN (w.setCell p u) g cs :=
  ⟨fun j v hj => (World.cell?_setCell_far w p ⟨g, j, none⟩ u hp).trans (h.c j v hj), fun j => by rw [World.frozen?_setCell]; exact h.f j⟩
/-- a sum of two that lie in a new row -/
theorem add2_any (a b : Pt) (ha : a.b) (hb : b.b) (w : World) (g : Nat) (hg : w.heap.size = g) :
    Calls Tryd.prog 22 #[.slice (some ⟨g, 0, none⟩) 2 2] (w.alloc (.cells #[.int .i64 a.x, .int .i64 a.y, .int .i64 b.x, .int .i64 b.y] 23)) fun e w' => e = .returned (.tuple #[ptV (wAdd [a, b]).1, .int .i64 (wAdd [a, b]).2]) ∧ Below w.heap.size w w' := by
  subst hg
  have hP := Pts.laid [a, b] #[.int .i64 a.x, .int .i64 a.y, .int .i64 b.x, .int .i64 b.y] rfl 23 (by simp; exact ⟨ha, hb⟩) (by simp) w (w.alloc (.cells #[.int .i64 a.x, .int .i64 a.y, .int .i64 b.x, .int .i64 b.y] 23)).heap.size (by simp)
  refine (wadd_any _ _ _ _ _ hP).mono ?_
  rintro e w' ⟨rfl, hb⟩
  exact ⟨rfl, ((Below.refl _ _).alloc (Nat.le_refl _) _).trans (hb.mono (by simp))⟩
end Go.Proofs.YtcllghcplphijaaDoor
