/-
  THE PLAIN LAWS of a corner's text, and of a number told from behind. No program in sight.
-/
import Derived.Test.YtkdffcoofijhkaaDoorFacePr
set_option linter.unusedVariables false
set_option linter.unusedSimpArgs false
namespace Go.Proofs.YtkdffcoofijhkaaDoor
open Go

theorem split1_none (c : UInt8) : ∀ l : List UInt8, (∀ x ∈ l, x ≠ c) → split1 c l = [l]
  | [], _ => rfl
  | a :: t, h => by
    have ih := split1_none c t (fun x hx => h x (List.mem_cons_of_mem _ hx))
    unfold split1
    rw [if_neg (h a List.mem_cons_self), ih]
theorem split1_cut (c : UInt8) (r : List UInt8) : ∀ l : List UInt8, (∀ x ∈ l, x ≠ c) → split1 c (l ++ c :: r) = l :: split1 c r
  | [], _ => by simp [split1]
  | a :: t, h => by
    have ih := split1_cut c r t (fun x hx => h x (List.mem_cons_of_mem _ hx))
    rw [List.cons_append, split1, if_neg (h a List.mem_cons_self), ih]
theorem dec_stroke (u : Nat) : ∀ x ∈ Lib.decDigits u, x ≠ 47 := by
  intro x hx
  have h := List.all_eq_true.1 (dec_all u) x hx
  rintro rfl
  simp [isDig] at h
theorem numC_stroke (n : Int) : ∀ x ∈ numC n, x ≠ 47 := by
  unfold numC
  split
  · exact dec_stroke _
  · simp
/-- the text of a place, read -/
theorem whole_dec (k : Int) (h0 : 0 ≤ k) (h1 : k ≤ 9999998) : wholeOk (Lib.decDigits (k + 1).toNat) = true ∧ wholeN (Lib.decDigits (k + 1).toNat) = k + 1 := by
  have h := whole_itoa (k + 1) (by omega) (by omega)
  have e : Lib.itoa (k + 1) = Lib.decDigits (k + 1).toNat := by unfold Lib.itoa; rw [if_neg (by omega)]
  rw [e] at h
  unfold wholeS at h
  split at h
  · rename_i ok
    exact ⟨ok, by injection h⟩
  · have h2 := congrArg Prod.snd h
    simp at h2
theorem place_dec (k many : Int) (h0 : 0 ≤ k) (h1 : k ≤ 9999998) : placeR (Lib.decDigits (k + 1).toNat) many = if k < many then (k, 0) else (0, 7) := by
  obtain ⟨a, b⟩ := whole_dec k h0 h1
  unfold placeR
  rw [a, b, if_pos rfl]
  by_cases h : k < many
  · rw [if_pos h, if_pos (by omega)]
    simp
  · rw [if_neg h, if_neg (by omega), if_neg (by omega)]
def thereC (c m : P3) : Bool := decide (c.a < m.a) && (decide (c.b < 0) || decide (c.b < m.b)) && (decide (c.c < 0) || decide (c.c < m.c))
theorem dec_empty (u : Nat) : (Lib.decDigits u).isEmpty = false := by
  cases e : Lib.decDigits u with
  | nil => exact absurd e (dec_ne u)
  | cons a r => rfl
theorem part_at (ls : List (List UInt8)) (j : Nat) (m : Int) (l : List UInt8) (h : ls[j]? = some l) (hl : l.isEmpty = false) : partR ls j m = placeR l m := by
  unfold partR; rw [h]; simp [hl]
theorem part_no (ls : List (List UInt8)) (j : Nat) (m : Int) (h : ls[j]? = none) : partR ls j m = (-1, 0) := by
  unfold partR; rw [h]
theorem part_nil (ls : List (List UInt8)) (j : Nat) (m : Int) (h : ls[j]? = some []) : partR ls j m = (-1, 0) := by
  unfold partR; rw [h]; rfl
theorem read_parts (ls : List (List UInt8)) (c m : P3) (hf : formOk ls = true) (h0 : partR ls 0 m.a = if c.a < m.a then (c.a, 0) else (0, 7)) (h1 : partR ls 1 m.b = if c.b < 0 ∨ c.b < m.b then (c.b, 0) else (0, 7)) (h2 : partR ls 2 m.c = if c.c < 0 ∨ c.c < m.c then (c.c, 0) else (0, 7)) :
    readR ls m = if thereC c m then (c, 0) else (⟨0, 0, 0⟩, 7) := by
  unfold readR thereC
  rw [if_pos hf, h0, h1, h2]
  by_cases a : c.a < m.a <;> by_cases b0 : c.b < 0 <;> by_cases b1 : c.b < m.b <;> by_cases c0 : c.c < 0 <;> by_cases c1 : c.c < m.c <;> simp [a, b0, b1, c0, c1]
/-- what is printed is a corner's text -/
theorem back_law (c m : P3) (h : okC c = true) : cornerR (textC c) m = if thereC c m then (c, 0) else (⟨0, 0, 0⟩, 7) := by
  unfold okC at h
  rw [decide_eq_true_iff] at h
  obtain ⟨h1, h2, h3, h4, h5, h6⟩ := h
  unfold cornerR
  rw [textC_eq]
  have ha := dec_stroke (c.a + 1).toNat
  have w0 := (whole_dec c.a h1 h2).1
  by_cases hc : c.c < 0
  · rw [if_pos hc]
    have ec : c.c = -1 := by omega
    by_cases hb : c.b < 0
    · rw [if_pos hb, split1_none _ _ ha]
      have eb : c.b = -1 := by omega
      refine read_parts _ c m ?_ ?_ ?_ ?_
      · simp [formOk, w0, dec_empty]
      · rw [part_at _ 0 _ _ rfl (dec_empty _), place_dec _ _ h1 h2]
      · rw [part_no _ 1 _ rfl, if_pos (.inl hb), eb]
      · rw [part_no _ 2 _ rfl, if_pos (.inl hc), ec]
    · rw [if_neg hb, split1_cut _ _ _ ha, split1_none _ _ (dec_stroke _)]
      have w1 := (whole_dec c.b (by omega) h4).1
      refine read_parts _ c m ?_ ?_ ?_ ?_
      · simp [formOk, w0, w1, dec_empty, List.getLastD]
      · rw [part_at _ 0 _ _ rfl (dec_empty _), place_dec _ _ h1 h2]
      · rw [part_at _ 1 _ _ rfl (dec_empty _), place_dec _ _ (by omega) h4]
        by_cases hm : c.b < m.b <;> simp [hm, hb]
      · rw [part_no _ 2 _ rfl, if_pos (.inl hc), ec]
  · rw [if_neg hc]
    have w2 := (whole_dec c.c (by omega) h6).1
    have e : Lib.decDigits (c.a + 1).toNat ++ 47 :: numC c.b ++ 47 :: Lib.decDigits (c.c + 1).toNat = Lib.decDigits (c.a + 1).toNat ++ 47 :: (numC c.b ++ 47 :: Lib.decDigits (c.c + 1).toNat) := by simp
    rw [e, split1_cut _ _ _ ha, split1_cut _ _ _ (numC_stroke _), split1_none _ _ (dec_stroke _)]
    by_cases hb : c.b < 0
    · have eb : c.b = -1 := by omega
      have en : numC c.b = [] := by unfold numC; rw [if_neg (by omega)]
      rw [en]
      refine read_parts _ c m ?_ ?_ ?_ ?_
      · simp [formOk, w0, w2, dec_empty, List.getLastD]
      · rw [part_at _ 0 _ _ rfl (dec_empty _), place_dec _ _ h1 h2]
      · rw [part_nil _ 1 _ rfl, if_pos (.inl hb), eb]
      · rw [part_at _ 2 _ _ rfl (dec_empty _), place_dec _ _ (by omega) h6]
        by_cases hm : c.c < m.c <;> simp [hm, hc]
    · have w1 := (whole_dec c.b (by omega) h4).1
      have en : numC c.b = Lib.decDigits (c.b + 1).toNat := by unfold numC; rw [if_pos (by omega)]
      rw [en]
      refine read_parts _ c m ?_ ?_ ?_ ?_
      · simp [formOk, w0, w1, w2, dec_empty, List.getLastD]
      · rw [part_at _ 0 _ _ rfl (dec_empty _), place_dec _ _ h1 h2]
      · rw [part_at _ 1 _ _ rfl (dec_empty _), place_dec _ _ (by omega) h4]
        by_cases hm : c.b < m.b <;> simp [hm, hb]
      · rw [part_at _ 2 _ _ rfl (dec_empty _), place_dec _ _ (by omega) h6]
        by_cases hm : c.c < m.c <;> simp [hm, hc]
end Go.Proofs.YtkdffcoofijhkaaDoor
