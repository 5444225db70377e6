/-
  A TEXT CUT AT ITS FIRST POINT, byte by byte; plain laws of parsing. No program in sight.
-/
import Derived.Test.YtkdffcoofijhkaaDoorScan
import Derived.Lib.IndexBytes
set_option linter.unusedVariables false
set_option linter.unusedSimpArgs false
namespace Go.Proofs.YtkdffcoofijhkaaDoor
open Go

/-- a text cut at the first byte c -/
def cut1 (c : UInt8) : List UInt8 → List UInt8 × List UInt8 × Bool
  | [] => ([], [], false)
  | a :: t => if a = c then ([], t, true) else (a :: (cut1 c t).1, (cut1 c t).2.1, (cut1 c t).2.2)
theorem cut1_no (c : UInt8) : ∀ u, (cut1 c u).2.2 = false → cut1 c u = (u, [], false)
  | [], _ => rfl
  | a :: t, h => by
    unfold cut1 at h ⊢
    by_cases ha : a = c
    · simp [ha] at h
    · rw [if_neg ha] at h ⊢
      have := cut1_no c t h
      simp [this]
theorem cut1_snoc (c x : UInt8) : ∀ u, cut1 c (u ++ [x]) = if (cut1 c u).2.2 then ((cut1 c u).1, (cut1 c u).2.1 ++ [x], true) else if x = c then (u, [], true) else (u ++ [x], [], false)
  | [] => by
    by_cases h : x = c <;> simp [cut1, h]
  | a :: t => by
    have ih := cut1_snoc c x t
    by_cases ha : a = c
    · simp [cut1, ha]
    · simp only [List.cons_append, cut1, if_neg ha, ih]
      by_cases hb : (cut1 c t).2.2 = true
      · simp [hb]
      · by_cases hx : x = c <;> simp [hb, hx]
theorem cut1_join (c : UInt8) : ∀ u, (cut1 c u).2.2 = true → u = (cut1 c u).1 ++ c :: (cut1 c u).2.1
  | [], h => by simp [cut1] at h
  | a :: t, h => by
    unfold cut1 at h ⊢
    by_cases ha : a = c
    · simp [ha]
    · rw [if_neg ha] at h ⊢
      have := cut1_join c t h
      simp only [List.cons_append, List.cons.injEq, true_and]
      exact this
theorem cut1_has (c : UInt8) : ∀ u, (cut1 c u).2.2 = u.contains c
  | [] => rfl
  | a :: t => by
    unfold cut1
    by_cases ha : a = c
    · simp [ha]
    · rw [if_neg ha]
      simp only [cut1_has c t, List.contains_cons]
      have : ¬ c = a := fun e => ha e.symm
      simp [this]
theorem cut_eq (c : UInt8) : ∀ u, Lib.cut u [c] = cut1 c u
  | [] => by simp [Lib.cut, Lib.index, cut1]
  | a :: t => by
    have ih := cut_eq c t
    have hg := Lib.index_ge t [c]
    unfold cut1
    by_cases ha : a = c
    · subst ha
      have e : Lib.index (a :: t) [a] = 0 := by unfold Lib.index; simp
      simp [Lib.cut, e]
    · rw [if_neg ha, ← ih]
      have hp : [c].isPrefixOf (a :: t) = false := by
        have : ¬ c = a := fun e => ha e.symm
        simp [List.isPrefixOf, this]
      by_cases h1 : Lib.index t [c] = -1
      · have e : Lib.index (a :: t) [c] = -1 := by unfold Lib.index; rw [hp]; simp [h1]
        simp [Lib.cut, e, h1]
      · have e : Lib.index (a :: t) [c] = Lib.index t [c] + 1 := by
          have h9 : (Lib.index t [c] == -1) = false := by simpa using h1
          generalize hq : Lib.index t [c] = q at *
          unfold Lib.index
          rw [hp, hq, h9]; rfl
        have h2 : 0 ≤ Lib.index t [c] := by omega
        have h3 : 0 ≤ Lib.index t [c] + 1 := by omega
        have h4 : (Lib.index t [c] + 1).toNat = (Lib.index t [c]).toNat + 1 := by omega
        simp only [Lib.cut, e, if_pos h2, if_pos h3, h4, List.take_succ_cons, List.length_cons, List.length_nil]
        rw [show (Lib.index t [c]).toNat + 1 + (0 + 1) = ((Lib.index t [c]).toNat + (0 + 1)) + 1 by omega, List.drop_succ_cons]

/-! ### a text of digits, cut at its point -/
def pok (t : List UInt8) : Bool := (cut1 46 t).1.all isDig && (cut1 46 t).2.1.all isDig
def pds (t : List UInt8) : List UInt8 := (cut1 46 t).1 ++ (cut1 46 t).2.1
theorem dig_no_point {c : UInt8} (h : isDig c = true) : c ≠ 46 := by
  rintro rfl
  simp [isDig] at h
/-- one byte more -/
theorem pok_point (u : List UInt8) (h : (cut1 46 u).2.2 = false) : pok (u ++ [46]) = pok u ∧ pds (u ++ [46]) = pds u ∧ (cut1 46 (u ++ [46])).2.2 = true ∧ (cut1 46 (u ++ [46])).1 = u ∧ (cut1 46 (u ++ [46])).2.1 = [] := by
  have e := cut1_no 46 u h
  have e2 := cut1_snoc 46 46 u
  rw [h] at e2
  simp only [Bool.false_eq_true, if_false, if_true] at e2
  simp [pok, pds, e, e2]
theorem pok_dig (u : List UInt8) (x : UInt8) (hx : isDig x = true) : pok (u ++ [x]) = pok u ∧ pds (u ++ [x]) = pds u ++ [x] ∧ (cut1 46 (u ++ [x])).2.2 = (cut1 46 u).2.2 := by
  have e2 := cut1_snoc 46 x u
  have hne := dig_no_point hx
  cases h : (cut1 46 u).2.2 with
  | true =>
    rw [h] at e2
    simp only [if_true] at e2
    simp [pok, pds, e2, hx, List.all_append]
  | false =>
    have e := cut1_no 46 u h
    rw [h] at e2
    simp only [Bool.false_eq_true, if_false, if_neg hne] at e2
    simp [pok, pds, e2, e, hx, List.all_append]
theorem pok_bad (u : List UInt8) (x : UInt8) (hx : isDig x = false) (h : x = 46 → (cut1 46 u).2.2 = true) : pok (u ++ [x]) = false := by
  have e2 := cut1_snoc 46 x u
  cases h2 : (cut1 46 u).2.2 with
  | true =>
    rw [h2] at e2
    simp only [if_true] at e2
    simp [pok, e2, hx, List.all_append]
  | false =>
    have hne : x ≠ 46 := fun e => by rw [h e] at h2; cases h2
    rw [h2] at e2
    simp only [Bool.false_eq_true, if_false, if_neg hne] at e2
    simp [pok, e2, hx, List.all_append]
theorem pok_pre : ∀ (v u : List UInt8), pok (u ++ v) = true → pok u = true
  | [], u, h => by simpa using h
  | x :: v, u, h => by
    have h1 : pok ((u ++ [x]) ++ v) = true := by simpa using h
    have h2 := pok_pre v _ h1
    by_cases hx : isDig x = true
    · rw [← (pok_dig u x hx).1]; exact h2
    · by_cases hp : x = 46 ∧ (cut1 46 u).2.2 = false
      · obtain ⟨rfl, hf⟩ := hp
        rw [← (pok_point u hf).1]; exact h2
      · have hf : isDig x = false := by simpa using hx
        rw [pok_bad u x hf (fun e => by
          cases h3 : (cut1 46 u).2.2 with
          | true => rfl
          | false => exact absurd ⟨e, h3⟩ hp)] at h2
        cases h2
theorem pds_len (t : List UInt8) : (pds t).length ≤ t.length := by
  cases h : (cut1 46 t).2.2 with
  | true =>
    have := congrArg List.length (cut1_join 46 t h)
    simp only [List.length_append, List.length_cons] at this
    simp only [pds, List.length_append]; omega
  | false => simp [pds, cut1_no 46 t h]

/-- what the sign leaves -/
theorem signed_cases (s : List UInt8) : (∃ t, s = 45 :: t ∧ signedS s = (t, true)) ∨ (∃ t, s = 43 :: t ∧ signedS s = (t, false)) ∨ ((∀ t, s ≠ 45 :: t) ∧ (∀ t, s ≠ 43 :: t) ∧ signedS s = (s, false)) := by
  cases s with
  | nil => exact .inr (.inr ⟨fun _ => by simp, fun _ => by simp, by simp [signedS, Lib.hasPrefix, Lib.trimPrefix]⟩)
  | cons a t =>
    by_cases h1 : a = 45
    · subst h1; exact .inl ⟨t, rfl, by simp [signedS, Lib.hasPrefix, Lib.trimPrefix]⟩
    · have h1' : ¬ (45 : UInt8) = a := fun e => h1 e.symm
      by_cases h2 : a = 43
      · subst h2; exact .inr (.inl ⟨t, rfl, by simp [signedS, Lib.hasPrefix, Lib.trimPrefix]⟩)
      · have h2' : ¬ (43 : UInt8) = a := fun e => h2 e.symm
        exact .inr (.inr ⟨fun _ e => h1 (by injection e), fun _ e => h2 (by injection e), by simp [signedS, Lib.hasPrefix, Lib.trimPrefix, h1', h2']⟩)
theorem decOk_eq (s : List UInt8) : decOk s = (decide (s.length ≤ 20) && pok (signedS s).1 && !(pds (signedS s).1).isEmpty) := by
  unfold decOk pok pds
  rw [cut_eq]
  simp only [Bool.and_assoc]
theorem decZ_eq (s : List UInt8) : decZ s = stepsZ (signedS s).2 (numD (pds (signedS s).1)) (cut1 46 (signedS s).1).2.1.length := by
  unfold decZ pds
  rw [cut_eq]
end Go.Proofs.YtkdffcoofijhkaaDoor
