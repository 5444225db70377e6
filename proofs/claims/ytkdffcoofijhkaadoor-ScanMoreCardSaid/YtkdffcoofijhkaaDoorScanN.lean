/-
  THE PLAIN LAW of a digit more behind the point. No program in sight.
-/
import Derived.Test.YtkdffcoofijhkaaDoorScanM
set_option linter.unusedVariables false
set_option linter.unusedSimpArgs false
namespace Go.Proofs.YtkdffcoofijhkaaDoor
open Go

theorem cut1_app (c x : UInt8) (u : List UInt8) (h : (cut1 c u).2.2 = true) : (cut1 c (u ++ [x])).2.2 = true ∧ (cut1 c (u ++ [x])).2.1.length = (cut1 c u).2.1.length + 1 := by
  have := cut1_snoc c x u
  rw [h, if_pos rfl] at this
  rw [this]
  simp
theorem signed_dot (t : List UInt8) (h : t.contains 46 = true) : (cut1 46 (signedS t).1).2.2 = true := by
  rw [cut1_has]
  rcases signed_cases t with ⟨u, rfl, e⟩ | ⟨u, rfl, e⟩ | ⟨_, _, e⟩
  · rw [e]; simpa using h
  · rw [e]; simpa using h
  · rw [e]; exact h
/-- a digit more: its steps -/
theorem dec_more (t : List UInt8) (x : UInt8) (hx : isDig x = true) (hd : t.contains 46 = true) (hl : t.length ≤ 19) :
    decOk (t ++ [x]) = pok (signedS t).1 ∧ decZ (t ++ [x]) = stepsZ (signedS t).2 (10 * numD (pds (signedS t).1) + dv x) ((cut1 46 (signedS t).1).2.1.length + 1) ∧ (t ++ [x]).contains 46 = true ∧ signedS (t ++ [x]) = ((signedS t).1 ++ [x], (signedS t).2) := by
  have hne : t ≠ [] := by rintro rfl; simp at hd
  have hs := signed_append t [x] hne
  have hdot := signed_dot t hd
  obtain ⟨p1, p2, p3⟩ := pok_dig (signedS t).1 x hx
  obtain ⟨c1, c2⟩ := cut1_app 46 x (signedS t).1 hdot
  refine ⟨?_, ?_, by simp only [List.contains_eq_mem, List.mem_append, decide_eq_true_eq] at hd ⊢; exact .inl hd, hs⟩
  · rw [decOk_eq, hs]
    simp only
    rw [p1, p2, decide_eq_true (show (t ++ [x]).length ≤ 20 by simp; omega)]
    cases pok (signedS t).1 <;> simp
  · rw [decZ_eq, hs]
    simp only
    rw [p2, numD_snoc, c2]
theorem parse_range (s : List UInt8) (h : decOk s = true) : parseS s = if -1048576 ≤ decZ s ∧ decZ s ≤ 1048576 then (decZ s, 0) else (0, 5) := by
  unfold parseS; rw [h, if_pos rfl]
theorem parse_form (s : List UInt8) (h : decOk s = false) : parseS s = (0, 6) := by
  unfold parseS; rw [h]; rfl
/-- a digit more, and two noughts more -/
theorem more_law (t : List UInt8) (x : UInt8) (hx : isDig x = true) (hd : t.contains 46 = true) (hl : t.length ≤ 18) :
    ((parseS t).2 = 5 ∧ (parseS (t ++ [48, 48])).2 = 5) ∨ ((parseS t).2 = 6 ∧ (parseS (t ++ [48, 48])).2 ≠ 5) ∨
    ((parseS t).2 = 0 ∧ parseS (t ++ [48, 48]) = ((parseS t).1, 0) ∧ (parseS (t ++ [x])).2 = 5 ∧ ((parseS t).1 = 1048576 ∨ (parseS t).1 = -1048576)) ∨
    ((parseS t).2 = 0 ∧ parseS (t ++ [48, 48]) = ((parseS t).1, 0) ∧ (parseS (t ++ [x])).2 = 0 ∧ (t.head? = some 45 → (parseS (t ++ [x])).1 ≤ (parseS t).1 ∧ (parseS t).1 - (parseS (t ++ [x])).1 ≤ 231) ∧
      (t.head? ≠ some 45 → (parseS t).1 ≤ (parseS (t ++ [x])).1 ∧ (parseS (t ++ [x])).1 - (parseS t).1 ≤ 231)) := by
  obtain ⟨o1, z1, _, _⟩ := dec_more t x hx hd (by omega)
  obtain ⟨o2, z2, d2, s2⟩ := dec_more t 48 rfl hd (by omega)
  obtain ⟨o3, z3, _, _⟩ := dec_more (t ++ [48]) 48 rfl d2 (by simp; omega)
  have hdot := signed_dot t hd
  have e2 : t ++ [48] ++ [48] = t ++ [48, 48] := by simp
  rw [e2, s2] at o3 z3
  simp only at o3 z3
  rw [(pok_dig (signedS t).1 48 rfl).1] at o3
  rw [(pok_dig (signedS t).1 48 rfl).2.1, (cut1_app 46 48 (signedS t).1 hdot).2, numD_snoc, show dv 48 = 0 from rfl, Nat.add_zero, Nat.add_zero, steps_nought, steps_nought] at z3
  have z0 := decZ_eq t
  have o0 := decOk_eq t
  rw [decide_eq_true (show t.length ≤ 20 by omega), Bool.true_and] at o0
  have hc := dv_le hx
  have hm := steps_more (numD (pds (signedS t).1)) (cut1 46 (signedS t).1).2.1.length (dv x) hc
  have hb : ((signedS t).2 = true ↔ t.head? = some 45) := by
    rcases signed_cases t with ⟨u, rfl, e⟩ | ⟨u, rfl, e⟩ | ⟨h1, h2, e⟩
    · simp [e]
    · simp [e]
    · rw [e]
      constructor
      · intro h; cases h
      · intro h
        cases t with
        | nil => simp at h
        | cons a r => simp at h; exact absurd (by rw [h]) (h1 r)
  cases hp : pok (signedS t).1 with
  | false =>
    rw [hp] at o0 o1 o3
    right; left
    rw [parse_form t (by rw [o0]; rfl), parse_form _ o3]
    simp
  | true =>
    rw [hp] at o0 o1 o3
    have q3 := parse_range _ o3
    rw [z3] at q3
    cases he : (pds (signedS t).1).isEmpty with
    | true =>
      right; left
      have hnil : pds (signedS t).1 = [] := by simpa using he
      rw [parse_form t (by rw [o0, he]; rfl), q3, hnil, numD_nil]
      have : stepsZ (signedS t).2 0 (cut1 46 (signedS t).1).2.1.length = 0 := by unfold stepsZ; cases (signedS t).2 <;> simp
      rw [this]
      simp
    | false =>
      have q0 := parse_range t (by rw [o0, he]; rfl)
      have q1 := parse_range _ o1
      rw [z1] at q1
      rw [z0] at q0
      cases hb2 : (signedS t).2 with
      | false =>
        rw [hb2] at q0 q1 q3 hb
        have nh : t.head? ≠ some 45 := fun h => by have := hb.2 h; cases this
        obtain ⟨⟨m1, m2, m3, m4⟩, _⟩ := hm
        generalize stepsZ false (numD (pds (signedS t).1)) (cut1 46 (signedS t).1).2.1.length = Z at *
        generalize stepsZ false (10 * numD (pds (signedS t).1) + dv x) ((cut1 46 (signedS t).1).2.1.length + 1) = Y at *
        by_cases hz : Z ≤ 1048576
        · rw [if_pos (by omega)] at q0 q3
          by_cases hy : Y ≤ 1048576
          · rw [if_pos (by omega)] at q1
            right; right; right
            rw [q0, q1, q3]
            exact ⟨rfl, rfl, rfl, fun h => absurd h nh, fun _ => by simp only; omega⟩
          · rw [if_neg (by omega)] at q1
            right; right; left
            rw [q0, q1, q3]
            exact ⟨rfl, rfl, rfl, .inl (by simp only; omega)⟩
        · rw [if_neg (by omega)] at q0 q3
          left
          rw [q0, q3]; simp
      | true =>
        rw [hb2] at q0 q1 q3 hb
        have nh : t.head? = some 45 := hb.1 rfl
        obtain ⟨_, m1, m2, m3, m4⟩ := hm
        generalize stepsZ true (numD (pds (signedS t).1)) (cut1 46 (signedS t).1).2.1.length = Z at *
        generalize stepsZ true (10 * numD (pds (signedS t).1) + dv x) ((cut1 46 (signedS t).1).2.1.length + 1) = Y at *
        by_cases hz : -1048576 ≤ Z
        · rw [if_pos (by omega)] at q0 q3
          by_cases hy : -1048576 ≤ Y
          · rw [if_pos (by omega)] at q1
            right; right; right
            rw [q0, q1, q3]
            exact ⟨rfl, rfl, rfl, fun _ => by simp only; omega, fun h => absurd nh h⟩
          · rw [if_neg (by omega)] at q1
            right; right; left
            rw [q0, q1, q3]
            exact ⟨rfl, rfl, rfl, .inr (by simp only; omega)⟩
        · rw [if_neg (by omega)] at q0 q3
          left
          rw [q0, q3]; simp
end Go.Proofs.YtkdffcoofijhkaaDoor
