/-
  WHAT limewashref05's parts AND Parse TELL, in plain words. No program in sight.
-/
import Derived.Test.YtkdffcoofijhkaaDoorScanRfP
import Derived.Test.YtkdffcoofijhkaaDoorNum
set_option linter.unusedVariables false
set_option linter.unusedSimpArgs false
namespace Go.Proofs.YtkdffcoofijhkaaDoor
open Go

/-- the digits of a text as numbers -/
def dis (l : List UInt8) : List Int := l.map fun c => ((dv c : Nat) : Int)
/-- where the point stands; -1: nowhere -/
def ptI (t : List UInt8) : Int := if (cut1 46 t).2.2 then ((cut1 46 t).1.length : Int) else -1
theorem dis_len (l : List UInt8) : (dis l).length = l.length := by simp [dis]
theorem dis_snoc (l : List UInt8) (c : UInt8) : dis (l ++ [c]) = dis l ++ [((dv c : Nat) : Int)] := by simp [dis]
theorem pt_none (u : List UInt8) (h : (cut1 46 u).2.2 = false) : ptI u = -1 := by unfold ptI; rw [h]; rfl
theorem pt_some (u : List UInt8) (h : (cut1 46 u).2.2 = true) : 0 ≤ ptI u ∧ ptI u = ((cut1 46 u).1.length : Int) := by unfold ptI; rw [h]; simp
theorem pt_point (u : List UInt8) (h : (cut1 46 u).2.2 = false) : ptI (u ++ [46]) = ((pds u).length : Int) := by
  obtain ⟨_, _, h3, h4, _⟩ := pok_point u h
  rw [(pt_some _ h3).2, h4]
  simp [pds, cut1_no 46 u h]
theorem pt_dig (u : List UInt8) (x : UInt8) (hx : isDig x = true) : ptI (u ++ [x]) = ptI u := by
  have h3 := (pok_dig u x hx).2.2
  cases h : (cut1 46 u).2.2 with
  | false => rw [pt_none _ (by rw [h3, h]), pt_none _ h]
  | true =>
    have e2 := cut1_snoc 46 x u
    rw [h] at e2
    simp only [if_true] at e2
    unfold ptI
    rw [e2, h]
/-- how many stand behind the point -/
theorem pt_behind (t : List UInt8) : ((pds t).length : Int) - (if ptI t < 0 then ((pds t).length : Int) else ptI t) = ((cut1 46 t).2.1.length : Int) := by
  cases h : (cut1 46 t).2.2 with
  | false =>
    rw [pt_none _ h, if_pos (by decide), cut1_no 46 t h]
    simp
  | true =>
    obtain ⟨h1, h2⟩ := pt_some _ h
    rw [if_neg (by omega), h2]
    simp [pds]
    omega
theorem pt_len (t : List UInt8) : -1 ≤ ptI t ∧ ptI t ≤ ((pds t).length : Int) := by
  cases h : (cut1 46 t).2.2 with
  | false => rw [pt_none _ h]; omega
  | true =>
    obtain ⟨h1, h2⟩ := pt_some _ h
    rw [h2]; simp [pds]; omega
theorem pds_take_len (t : List UInt8) (k : Nat) : (pds (t.take k)).length ≤ t.length := Nat.le_trans (pds_len _) (by simp; omega)
theorem dec_bad_pre (l : List UInt8) (u v : List UInt8) (h : (signedS l).1 = u ++ v) (hp : pok u = false) : decOk l = false := by
  rw [decOk_eq, h]
  have : pok (u ++ v) = false := by
    cases e : pok (u ++ v) with
    | false => rfl
    | true => rw [pok_pre v u e] at hp; cases hp
  rw [this]; simp
theorem dec_bad_len (l : List UInt8) (h : 20 < l.length) : decOk l = false := by
  rw [decOk_eq, decide_eq_false (by omega)]; rfl
theorem dec_ok (l : List UInt8) (h : l.length ≤ 20) (hp : pok (signedS l).1 = true) : decOk l = decide (0 < (pds (signedS l).1).length) := by
  rw [decOk_eq, decide_eq_true h, hp]
  generalize pds (signedS l).1 = d
  cases d <;> simp
theorem parse_bad_ref (l : List UInt8) (h : decOk l = false) : parseS l = (0, 6) := by unfold parseS; rw [h]; rfl

/-! ### Print -/
theorem frR_go {k m : Nat} (hm : m < 256) (h0 : 0 < m) (h : m * 10 ^ k % 256 = 0) : ∃ j, k = j + 1 ∧ frR k m = Lib.decDigits (10 * m / 256) ++ frR j (10 * m % 256) ∧ 10 * m % 256 * 10 ^ j % 256 = 0 ∧ 10 * m / 256 ≤ 9 := by
  cases k with
  | zero => simp at h; omega
  | succ j =>
    have hd : 10 * m / 256 ≤ 9 := by omega
    refine ⟨j, rfl, ?_, ?_, hd⟩
    · rw [dec_small (by omega)]
      conv => lhs; unfold frR
      rw [if_neg (by omega)]
      rfl
    · rw [Nat.mod_mul_mod, ← h, Nat.pow_succ]
      congr 1
      rw [Nat.mul_comm 10 m, Nat.mul_assoc, Nat.mul_comm 10]
theorem frR_zero (k : Nat) : frR k 0 = [] := by cases k <;> simp [frR]
theorem any_pow (m : Nat) : m * 10 ^ 8 % 256 = 0 := by omega
/-- a text's length, as a value's -/
def strL : Value → Nat
  | .string b => b.size
  | _ => 0

/-! ### Parse -/
theorem left_step (X i : Nat) : (decide (X % 10 ^ i ≠ 0) || decide (dig X i ≠ 0)) = decide (X % 10 ^ (i + 1) ≠ 0) := by
  rw [mod_pow_succ]
  have hp : 0 < 10 ^ i := Nat.pow_pos (by decide)
  by_cases h1 : X % 10 ^ i = 0
  · by_cases h2 : dig X i = 0
    · simp [h1, h2]
    · have : dig X i * 10 ^ i ≠ 0 := fun e => by
        rcases Nat.mul_eq_zero.1 e with e | e
        · exact h2 e
        · omega
      rw [decide_eq_false (by simpa using h1), decide_eq_true h2, decide_eq_true (by omega)]; rfl
  · rw [decide_eq_true (show X % 10 ^ i ≠ 0 from h1), decide_eq_true (show X % 10 ^ i + dig X i * 10 ^ i ≠ 0 by have := Nat.zero_le (dig X i * 10 ^ i); omega)]; rfl
theorem cap_step (X j : Nat) : min (10 * min (X / 10 ^ (j + 1)) 2000000 + dig X j) 2000000 = min (X / 10 ^ j) 2000000 := by
  rw [div_pow_step X j]
  generalize X / 10 ^ (j + 1) = q
  generalize dig X j = d
  omega
theorem left_done (X i b : Nat) (h : i = b ∨ (digs X).length ≤ i ∧ i ≤ b) : decide (X % 10 ^ i ≠ 0) = decide (X % 10 ^ b ≠ 0) := by
  rcases h with rfl | ⟨h1, h2⟩
  · rfl
  · rw [mod_pow_len h1, mod_pow_len (Nat.le_trans h1 h2)]
theorem cap_done (X j b : Nat) (h : j = b ∨ (digs X).length ≤ j ∧ j ≤ b) : X / 10 ^ j = X / 10 ^ b := by
  rcases h with rfl | ⟨h1, h2⟩
  · rfl
  · rw [div_pow_len h1, div_pow_len (Nat.le_trans h1 h2)]
/-- what the reference tells in the end -/
def refZ (b m : Bool) (q : Nat) : Int := if b then (if m then -(q : Int) - 1 else -(q : Int)) else (q : Int)
theorem parse_ref (l : List UInt8) (D k : Nat) (b : Bool) (h : decOk l = true) (hb : (signedS l).2 = b) (hD : numD (pds (signedS l).1) = D) (hk : (cut1 46 (signedS l).1).2.1.length = k) :
    parseS l = if refZ b (decide (D * 256 % 10 ^ k ≠ 0)) (min (D * 256 / 10 ^ k) 2000000) < -1048576 ∨ 1048576 < refZ b (decide (D * 256 % 10 ^ k ≠ 0)) (min (D * 256 / 10 ^ k) 2000000) then (0, 5) else (refZ b (decide (D * 256 % 10 ^ k ≠ 0)) (min (D * 256 / 10 ^ k) 2000000), 0) := by
  unfold parseS
  rw [h, if_pos rfl, decZ_eq, hb, hD, hk]
  have hT : 0 < 10 ^ k := Nat.pow_pos (by decide)
  unfold stepsZ refZ
  rw [Nat.mul_comm D 256]
  generalize 10 ^ k = T at *
  cases b with
  | false =>
    simp only [Bool.false_eq_true, if_false]
    rw [show (256 * (D : Int)) = ((256 * D : Nat) : Int) by omega, ← Int.natCast_ediv]
    generalize 256 * D / T = q
    by_cases h1 : q ≤ 1048576
    · rw [if_pos (by omega), if_neg (by omega), Nat.min_eq_left (by omega)]
    · rw [if_neg (by omega), if_pos (by omega)]
  | true =>
    simp only [if_true]
    rw [show (256 * (D : Int)) = ((256 * D : Nat) : Int) by omega, neg_div _ _ hT]
    generalize 256 * D / T = q
    generalize 256 * D % T = m
    by_cases h0 : m = 0
    · subst h0
      simp only [ne_eq, not_true_eq_false, decide_false, if_true, Bool.false_eq_true, if_false]
      by_cases h1 : q ≤ 1048576
      · rw [if_pos (by omega), if_neg (by omega), Nat.min_eq_left (by omega)]; simp
      · rw [if_neg (by omega), if_pos (by omega)]
    · rw [if_neg h0, decide_eq_true h0]
      simp only [if_true]
      by_cases h1 : q ≤ 1048575
      · rw [if_pos (by omega), if_neg (by omega), Nat.min_eq_left (by omega)]
      · rw [if_neg (by omega), if_pos (by omega)]
end Go.Proofs.YtkdffcoofijhkaaDoor
