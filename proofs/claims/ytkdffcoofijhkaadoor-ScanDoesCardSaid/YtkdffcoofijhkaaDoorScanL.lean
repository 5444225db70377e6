/-
  THE PLAIN LAWS OF PARSING AND PRINTING STEPS. No program in sight.
-/
import Derived.Test.YtkdffcoofijhkaaDoorScanC
import Derived.Lib.ItoaNum
set_option linter.unusedVariables false
set_option linter.unusedSimpArgs false
namespace Go.Proofs.YtkdffcoofijhkaaDoor
open Go

theorem toNat_ofNat48 (d : Nat) (h : d ≤ 9) : (UInt8.ofNat (48 + d)).toNat = 48 + d := by
  rw [UInt8.toNat_ofNat']; omega
theorem isDig_chr (d : Nat) (h : d ≤ 9) : isDig (UInt8.ofNat (48 + d)) = true := by
  rw [isDig_iff, toNat_ofNat48 d h]; omega
theorem dv_chr (d : Nat) (h : d ≤ 9) : dv (UInt8.ofNat (48 + d)) = d := by
  unfold dv; rw [toNat_ofNat48 d h]; omega
theorem chr_dv {c : UInt8} (h : isDig c = true) : UInt8.ofNat (48 + dv c) = c := by
  have h1 := (isDig_iff c).1 h
  have h2 := dv_le h
  apply UInt8.toNat.inj
  rw [toNat_ofNat48 _ h2]
  unfold dv; omega

/-! ### the numeral of a number -/
theorem dec_small {u : Nat} (h : u < 10) : Lib.decDigits u = [UInt8.ofNat (48 + u)] := by rw [Lib.decDigits, dif_pos h]
theorem dec_big {u : Nat} (h : ¬ u < 10) : Lib.decDigits u = Lib.decDigits (u / 10) ++ [UInt8.ofNat (48 + u % 10)] := by rw [Lib.decDigits, dif_neg h]
theorem dec_all (u : Nat) : (Lib.decDigits u).all isDig = true := by
  induction u using Nat.strongRecOn with
  | _ u ih =>
    by_cases h : u < 10
    · rw [dec_small h]; simp only [List.all_cons, List.all_nil, Bool.and_true, isDig_chr u (by omega)]
    · rw [dec_big h, List.all_append, ih (u / 10) (by omega)]; simp only [List.all_cons, List.all_nil, Bool.and_true, isDig_chr (u % 10) (by omega)]
theorem dec_num (u : Nat) : numD (Lib.decDigits u) = u := by
  induction u using Nat.strongRecOn with
  | _ u ih =>
    by_cases h : u < 10
    · rw [dec_small h]; simp only [numD, List.map_cons, List.map_nil, valN, List.length_nil, Nat.pow_zero, Nat.mul_one, Nat.add_zero, dv_chr u (by omega)]
    · rw [dec_big h, numD_snoc, ih (u / 10) (by omega), dv_chr _ (by omega)]; omega
theorem dec_ne (u : Nat) : Lib.decDigits u ≠ [] := by
  intro h
  have := Lib.decDigits_length u
  have := Lib.nDigits_pos u
  rw [h] at *
  simp at *
  omega
theorem numD_pos : ∀ (l : List UInt8), l.all isDig = true → l ≠ [] → l.head? ≠ some 48 → 1 ≤ numD l
  | [], _, h, _ => absurd rfl h
  | c :: r, ha, _, hh => by
    simp only [List.all_cons, Bool.and_eq_true] at ha
    have h1 := (isDig_iff c).1 ha.1
    have h2 : c ≠ 48 := by simpa using hh
    have h3 : c.toNat ≠ 48 := fun e => h2 (by apply UInt8.toNat.inj; simpa using e)
    have h4 : 1 ≤ dv c := by unfold dv; omega
    have h5 : 0 < 10 ^ r.length := Nat.pow_pos (by decide)
    have h6 : 1 * 10 ^ r.length ≤ dv c * 10 ^ r.length := Nat.mul_le_mul_right _ h4
    simp only [numD, List.map_cons, valN, List.length_map]
    omega
theorem snoc_of {α : Type} (l : List α) (h : l ≠ []) : ∃ u c, l = u ++ [c] := ⟨l.dropLast, l.getLast h, (List.dropLast_concat_getLast h).symm⟩
/-- digits, no nought ahead of others: the numeral of their number -/
theorem dec_of : ∀ (n : Nat) (l : List UInt8), l.length = n → l.all isDig = true → l ≠ [] → (l.length = 1 ∨ l.head? ≠ some 48) → Lib.decDigits (numD l) = l
  | 0, l, hn, _, h, _ => absurd (List.eq_nil_of_length_eq_zero hn) h
  | n + 1, l, hn, ha, h, hh => by
    obtain ⟨u, c, rfl⟩ := snoc_of l h
    simp only [List.all_append, List.all_cons, List.all_nil, Bool.and_true, Bool.and_eq_true] at ha
    have hd := dv_le ha.2
    rw [numD_snoc]
    by_cases hu : u = []
    · subst hu
      rw [numD_nil, dec_small (by omega)]
      simp [chr_dv ha.2]
    · have h1 : (u ++ [c]).head? = u.head? := by cases u with
        | nil => exact absurd rfl hu
        | cons a r => rfl
      have h2 : u.head? ≠ some 48 := by
        rcases hh with hh | hh
        · simp at hh; exact absurd hh hu
        · rwa [h1] at hh
      have h3 := numD_pos u ha.1 hu h2
      rw [dec_big (by omega), show (10 * numD u + dv c) / 10 = numD u by omega, show (10 * numD u + dv c) % 10 = dv c by omega, chr_dv ha.2,
        dec_of n u (by simp at hn; omega) ha.1 hu (.inr h2)]
theorem dec_head (u : Nat) (h : 1 ≤ u) : (Lib.decDigits u).head? ≠ some 48 := by
  induction u using Nat.strongRecOn with
  | _ u ih =>
    by_cases h9 : u < 10
    · rw [dec_small h9]
      simp only [List.head?_cons, ne_eq, Option.some.injEq]
      intro e
      have := congrArg UInt8.toNat e
      rw [toNat_ofNat48 u (by omega)] at this
      simp at this; omega
    · rw [dec_big h9]
      have := ih (u / 10) (by omega) (by omega)
      cases e : Lib.decDigits (u / 10) with
      | nil => exact absurd e (dec_ne _)
      | cons a r => rw [e] at this; exact this
theorem dec_len (u k : Nat) (h : u < 10 ^ (k + 1)) : (Lib.decDigits u).length ≤ k + 1 := by
  induction k generalizing u with
  | zero => rw [dec_small (by simpa using h)]; simp
  | succ k ih =>
    by_cases h9 : u < 10
    · rw [dec_small h9]; simp
    · rw [dec_big h9]
      rw [Nat.pow_succ] at h
      have := ih (u / 10) (by omega)
      simp; omega
theorem numD_le_len (l : List UInt8) (k : Nat) (ha : l.all isDig = true) (h : l.length ≤ k) : numD l < 10 ^ k :=
  Nat.lt_of_lt_of_le (numD_lt l ha) (Nat.pow_le_pow_right (by decide) h)
theorem dec_inj {a b : Nat} (h : Lib.decDigits a = Lib.decDigits b) : a = b := by rw [← dec_num a, h, dec_num]

/-! ### a whole number -/
def wholeT (s : List UInt8) : List UInt8 := Lib.trimPrefix s [45]
def wholeB (s : List UInt8) : Bool := Lib.hasPrefix s [45]
def wholeOk (s : List UInt8) : Bool := !(wholeT s).isEmpty && decide ((wholeT s).length ≤ 7) && (wholeT s).all isDig && !((wholeT s).head? == some 48 && (decide (1 < (wholeT s).length) || wholeB s))
def wholeN (s : List UInt8) : Int := if wholeB s then -(numD (wholeT s) : Int) else numD (wholeT s)
def wholeS (s : List UInt8) : Int × Int := if wholeOk s then (wholeN s, 0) else (0, 6)
theorem whole_minus (t : List UInt8) : wholeT (45 :: t) = t ∧ wholeB (45 :: t) = true := by simp [wholeT, wholeB, Lib.trimPrefix, Lib.hasPrefix]
theorem whole_plain (s : List UInt8) (h : s.head? ≠ some 45) : wholeT s = s ∧ wholeB s = false := by
  cases s with
  | nil => simp [wholeT, wholeB, Lib.trimPrefix, Lib.hasPrefix]
  | cons a r =>
    have : ¬ (45 : UInt8) = a := fun e => h (by simp [← e])
    simp [wholeT, wholeB, Lib.trimPrefix, Lib.hasPrefix, List.isPrefixOf, this]
theorem dig_head45 (l : List UInt8) (h : l.all isDig = true) : l.head? ≠ some 45 := by
  cases l with
  | nil => simp
  | cons a r =>
    simp only [List.all_cons, Bool.and_eq_true] at h
    have := (isDig_iff a).1 h.1
    simp only [List.head?_cons, ne_eq, Option.some.injEq]
    rintro rfl
    simp at this
theorem whole_itoa (n : Int) (h1 : -9999999 ≤ n) (h2 : n ≤ 9999999) : wholeS (Lib.itoa n) = (n, 0) := by
  unfold Lib.itoa
  by_cases hn : n < 0
  · rw [if_pos hn]
    have e1 := (whole_minus (Lib.decDigits n.natAbs)).1
    have e2 := (whole_minus (Lib.decDigits n.natAbs)).2
    have hl := dec_len n.natAbs 6 (by omega)
    have hh := dec_head n.natAbs (by omega)
    have ok : wholeOk (45 :: Lib.decDigits n.natAbs) = true := by
      unfold wholeOk
      rw [e1, e2, dec_all]
      simp [dec_ne, hh]; omega
    unfold wholeS wholeN
    rw [ok, e1, e2, dec_num]
    simp; omega
  · rw [if_neg hn]
    obtain ⟨e1, e2⟩ := whole_plain _ (dig_head45 _ (dec_all n.toNat))
    have hl := dec_len n.toNat 6 (by omega)
    have ok : wholeOk (Lib.decDigits n.toNat) = true := by
      unfold wholeOk
      rw [e1, e2, dec_all]
      by_cases h0 : n.toNat < 10
      · rw [dec_small h0]; simp
      · have hh := dec_head n.toNat (by omega)
        simp [dec_ne, hh]; omega
    unfold wholeS wholeN
    rw [ok, e1, e2, dec_num]
    simp; omega
theorem whole_is (s : List UInt8) (h : wholeOk s = true) : s = Lib.itoa (wholeN s) ∧ -9999999 ≤ wholeN s ∧ wholeN s ≤ 9999999 := by
  have h' := h
  unfold wholeOk at h
  simp only [Bool.and_eq_true, Bool.not_eq_true', decide_eq_true_eq] at h
  obtain ⟨⟨⟨h1, h2⟩, h3⟩, h4⟩ := h
  have hne : wholeT s ≠ [] := by
    intro e; rw [e] at h1; simp at h1
  have hlt := numD_le_len _ 7 h3 h2
  cases hb : wholeB s with
  | true =>
    rw [hb] at h4
    have hh : (wholeT s).head? ≠ some 48 := by simpa using h4
    have e : s = 45 :: wholeT s := by
      cases s with
      | nil => simp [wholeB, Lib.hasPrefix] at hb
      | cons a r =>
        have : (45 : UInt8) = a := by simpa [wholeB, Lib.hasPrefix] using hb
        subst this
        rw [(whole_minus r).1]
    have hp := numD_pos _ h3 hne hh
    have hd := dec_of _ _ rfl h3 hne (.inr hh)
    have hN : wholeN s = -(numD (wholeT s) : Int) := by unfold wholeN; rw [hb]; rfl
    rw [hN]
    refine ⟨?_, by omega, by omega⟩
    unfold Lib.itoa
    rw [if_pos (by omega), show (-(numD (wholeT s) : Int)).natAbs = numD (wholeT s) by omega, hd]
    exact e
  | false =>
    rw [hb] at h4
    have e : s = wholeT s := by
      unfold wholeT Lib.trimPrefix
      unfold wholeB at hb
      rw [hb]; rfl
    have hh : (wholeT s).length = 1 ∨ (wholeT s).head? ≠ some 48 := by
      by_cases h5 : (wholeT s).head? = some 48
      · rw [h5] at h4
        simp at h4
        have : 0 < (wholeT s).length := List.length_pos_iff.2 hne
        omega
      · exact .inr h5
    have hd := dec_of _ _ rfl h3 hne hh
    have hN : wholeN s = (numD (wholeT s) : Int) := by unfold wholeN; rw [hb]; rfl
    rw [hN]
    refine ⟨?_, by omega, by omega⟩
    unfold Lib.itoa
    rw [if_neg (by omega), Int.toNat_natCast, hd]
    exact e
/-- a numeral of a short text is a whole number -/
theorem whole_of_itoa (s : List UInt8) (v : Int) (h : Lib.itoa v = s) (hl : (wholeT s).length ≤ 7) : wholeOk s = true ∧ wholeN s = v := by
  have hv : -9999999 ≤ v ∧ v ≤ 9999999 := by
    subst h
    unfold Lib.itoa at hl
    by_cases hn : v < 0
    · rw [if_pos hn, (whole_minus _).1] at hl
      have := numD_le_len _ 7 (dec_all v.natAbs) hl
      rw [dec_num] at this
      omega
    · rw [if_neg hn, (whole_plain _ (dig_head45 _ (dec_all _))).1] at hl
      have := numD_le_len _ 7 (dec_all v.toNat) hl
      rw [dec_num] at this
      omega
  have := whole_itoa v hv.1 hv.2
  rw [h] at this
  unfold wholeS at this
  split at this
  · rename_i ok
    exact ⟨ok, by injection this⟩
  · cases this
end Go.Proofs.YtkdffcoofijhkaaDoor
