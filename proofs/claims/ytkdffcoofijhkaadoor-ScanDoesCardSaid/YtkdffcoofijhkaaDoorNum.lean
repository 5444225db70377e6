/-
  NUMBERS AS DIGITS, the last one first: plain laws. No program in sight.
-/
import Derived.Test.YtkdffcoofijhkaaDoorBase
set_option linter.unusedVariables false
set_option linter.unusedSimpArgs false
namespace Go.Proofs.YtkdffcoofijhkaaDoor
open Go.RowKit

/-- the digits of a number, the last one first -/
def digs (n : Nat) : List Int := if h : n = 0 then [] else ((n % 10 : Nat) : Int) :: digs (n / 10)
termination_by n
decreasing_by omega
theorem digs_zero : digs 0 = [] := by unfold digs; simp
theorem digs_pos {n : Nat} (h : n ≠ 0) : digs n = ((n % 10 : Nat) : Int) :: digs (n / 10) := by rw [digs]; simp [h]
/-- the digit at a place -/
def dig (n i : Nat) : Nat := n / 10 ^ i % 10
theorem dig_le (n i : Nat) : dig n i ≤ 9 := by unfold dig; omega
theorem dig_succ (n i : Nat) : dig n (i + 1) = dig (n / 10) i := by
  unfold dig
  rw [Nat.div_div_eq_div_mul, Nat.pow_succ, Nat.mul_comm]
theorem dig_zero (n : Nat) : dig n 0 = n % 10 := by simp [dig]
theorem digs_get (i : Nat) : ∀ n : Nat, i < (digs n).length → (digs n)[i]? = some ((dig n i : Nat) : Int) := by
  induction i with
  | zero =>
    intro n h
    by_cases h0 : n = 0
    · subst h0; rw [digs_zero] at h; simp at h
    · rw [digs_pos h0, dig_zero]; rfl
  | succ i ih =>
    intro n h
    by_cases h0 : n = 0
    · subst h0; rw [digs_zero] at h; simp at h
    · rw [digs_pos h0] at h ⊢
      rw [dig_succ]
      simp only [List.getElem?_cons_succ]
      exact ih _ (by simpa using h)
theorem digs_lt (i : Nat) : ∀ n : Nat, i < (digs n).length ↔ 10 ^ i ≤ n := by
  induction i with
  | zero =>
    intro n
    by_cases h0 : n = 0
    · subst h0; rw [digs_zero]; simp
    · rw [digs_pos h0]; simp; omega
  | succ i ih =>
    intro n
    by_cases h0 : n = 0
    · subst h0; rw [digs_zero]; simp
    · rw [digs_pos h0, List.length_cons, Nat.pow_succ]
      have := ih (n / 10)
      rw [Nat.le_div_iff_mul_le (by decide)] at this
      omega
theorem dig_beyond {n i : Nat} (h : (digs n).length ≤ i) : dig n i = 0 := by
  have : n < 10 ^ i := by
    rcases Nat.lt_or_ge n (10 ^ i) with h' | h'
    · exact h'
    · have := (digs_lt i n).2 h'; omega
  unfold dig
  rw [Nat.div_eq_of_lt this]
theorem digs_len_le {n L : Nat} (h : n < 10 ^ L) : (digs n).length ≤ L := by
  rcases Nat.lt_or_ge L (digs n).length with h' | h'
  · have := (digs_lt L n).1 h'; omega
  · exact h'
theorem lt_pow_len (n : Nat) : n < 10 ^ (digs n).length := by
  rcases Nat.lt_or_ge n (10 ^ (digs n).length) with h | h
  · exact h
  · have := (digs_lt _ n).2 h; omega
theorem digs_ok (n : Nat) : ∀ d ∈ digs n, 0 ≤ d ∧ d ≤ 9 := by
  intro d hd
  obtain ⟨i, hi⟩ := List.getElem?_of_mem hd
  have hl := (List.getElem?_eq_some_iff.1 hi).1
  rw [digs_get i n hl] at hi
  have := dig_le n i
  injection hi with hi
  omega
theorem digs_top {n k : Nat} (h : (digs n).length = k + 1) : dig n k ≠ 0 := by
  have h1 := (digs_lt k n).1 (by omega)
  have h2 := lt_pow_len n
  rw [h, Nat.pow_succ] at h2
  unfold dig
  have h3 : n / 10 ^ k < 10 := Nat.div_lt_of_lt_mul h2
  have h4 : 0 < n / 10 ^ k := Nat.div_pos h1 (Nat.pow_pos (by decide))
  omega

/-- digits each -/
def dOk (l : List Int) : Prop := ∀ d ∈ l, 0 ≤ d ∧ d ≤ 9
/-- the number that digits are -/
def val : List Int → Nat
  | [] => 0
  | d :: l => d.toNat + 10 * val l
theorem val_snoc (l : List Int) (d : Int) : val (l ++ [d]) = val l + d.toNat * 10 ^ l.length := by
  induction l with
  | nil => simp [val]
  | cons a l ih =>
    simp only [List.cons_append, val, ih, List.length_cons, Nat.pow_succ]
    rw [Nat.mul_add, ← Nat.mul_assoc, ← Nat.mul_assoc, Nat.mul_comm 10 d.toNat, Nat.mul_comm (d.toNat * 10) _, ← Nat.mul_assoc, Nat.mul_right_comm]
    simp only [Nat.mul_comm, Nat.mul_left_comm]
    omega
theorem val_digs (n : Nat) : val (digs n) = n := by
  induction n using Nat.strongRecOn with
  | _ n ih =>
    by_cases h : n = 0
    · subst h; rw [digs_zero]; rfl
    · rw [digs_pos h]
      simp only [val, Int.toNat_natCast]
      rw [ih (n / 10) (by omega)]
      omega
theorem val_lt {l : List Int} (h : dOk l) : val l < 10 ^ l.length := by
  induction l with
  | nil => simp [val]
  | cons a l ih =>
    have h1 := h a (by simp)
    have h2 := ih fun d hd => h d (by simp [hd])
    simp only [val, List.length_cons, Nat.pow_succ]
    omega
/-- digits without a nought ahead are their number's -/
theorem digs_val {l : List Int} (h : dOk l) (ht : ∀ d, l.getLast? = some d → d ≠ 0) : digs (val l) = l := by
  induction l with
  | nil => simp [val, digs_zero]
  | cons a l ih =>
    have h1 := h a (by simp)
    have e : digs (val l) = l := by
      refine ih (fun d hd => h d (by simp [hd])) fun d hd => ht d ?_
      rw [List.getLast?_cons, hd]; rfl
    have hne : val (a :: l) ≠ 0 := by
      intro h0
      simp only [val] at h0
      have hl : val l = 0 := by omega
      rw [hl, digs_zero] at e
      subst e
      exact ht a (by simp) (by omega)
    rw [digs_pos hne]
    simp only [val]
    have h2 : (a.toNat + 10 * val l) % 10 = a.toNat := by omega
    have h3 : (a.toNat + 10 * val l) / 10 = val l := by omega
    rw [h2, h3, e]
    have : ((a.toNat : Nat) : Int) = a := by omega
    rw [this]
theorem val_take_succ {l : List Int} {k : Nat} {d : Int} (h : l[k]? = some d) : val (l.take (k + 1)) = val (l.take k) + d.toNat * 10 ^ k := by
  have hl := (List.getElem?_eq_some_iff.1 h).1
  rw [take_snoc' l k d h, val_snoc, List.length_take, Nat.min_eq_left (by omega)]
theorem val_take_zero {l : List Int} {k : Nat} (h : l[k]? = some 0) : val (l.take (k + 1)) = val (l.take k) := by
  rw [val_take_succ h]; simp

/-- the number with its side -/
def sgn (b : Bool) (n : Nat) : Int := if b then -(n : Int) else n
theorem sgn_abs (b : Bool) (n : Nat) : (sgn b n).natAbs = n := by unfold sgn; split <;> simp
theorem sgn_neg (b : Bool) (n : Nat) : decide (sgn b n < 0) = (b && decide (0 < n)) := by
  unfold sgn; cases b
  · simp
  · by_cases h : 0 < n
    · simp [h]
    · simp [h]
theorem sgn_self (x : Int) : sgn (decide (x < 0)) x.natAbs = x := by
  unfold sgn
  by_cases h : x < 0
  · rw [if_pos (by simpa using h)]; omega
  · rw [if_neg (by simpa using h)]; omega
theorem sgn_not (x : Int) : sgn (!decide (x < 0)) x.natAbs = -x := by
  unfold sgn
  by_cases h : x < 0
  · rw [if_neg (by simpa using h)]; omega
  · rw [if_pos (by simpa using h)]; omega

/-! ### digit by digit -/
theorem mod_pow_succ (a k : Nat) : a % 10 ^ (k + 1) = a % 10 ^ k + dig a k * 10 ^ k := by
  unfold dig
  rw [Nat.pow_succ, Nat.mod_mul, Nat.mul_comm]
theorem mod_pow_len {a k : Nat} (h : (digs a).length ≤ k) : a % 10 ^ k = a := by
  refine Nat.mod_eq_of_lt ?_
  have h1 := lt_pow_len a
  have h2 : 10 ^ (digs a).length ≤ 10 ^ k := Nat.pow_le_pow_right (by decide) h
  omega
/-- sums: what has been told after k digits -/
def PlusAt (a b k : Nat) (out : List Int) (carry : Nat) : Prop := out.length = k ∧ dOk out ∧ carry ≤ 1 ∧ val out + carry * 10 ^ k = a % 10 ^ k + b % 10 ^ k
theorem PlusAt.start (a b : Nat) : PlusAt a b 0 [] 0 := ⟨rfl, by simp [dOk], by omega, by simp [val, Nat.mod_one]⟩
theorem PlusAt.step {a b k : Nat} {out : List Int} {carry : Nat} (h : PlusAt a b k out carry) {x : Nat} (hx : x = dig a k + dig b k + carry) : PlusAt a b (k + 1) (out ++ [((x % 10 : Nat) : Int)]) (x / 10) := by
  obtain ⟨h1, h2, h3, h4⟩ := h
  have ha := dig_le a k
  have hb := dig_le b k
  refine ⟨by simp [h1], ?_, by omega, ?_⟩
  · intro d hd
    rcases List.mem_append.1 hd with hd | hd
    · exact h2 d hd
    · have := List.mem_singleton.1 hd
      omega
  · rw [val_snoc, h1, Int.toNat_natCast, mod_pow_succ, mod_pow_succ, Nat.pow_succ]
    have e : x % 10 * 10 ^ k + x / 10 * (10 ^ k * 10) = x * 10 ^ k := by
      rw [Nat.mul_comm (10 ^ k) 10, ← Nat.mul_assoc, ← Nat.add_mul]
      congr 1; omega
    have e2 : x * 10 ^ k = dig a k * 10 ^ k + dig b k * 10 ^ k + carry * 10 ^ k := by rw [hx, Nat.add_mul, Nat.add_mul]
    omega
theorem PlusAt.done {a b k : Nat} {out : List Int} {carry : Nat} (h : PlusAt a b (k + 1) out carry) (ha : (digs a).length ≤ k) (hb : (digs b).length ≤ k) : val out = a + b := by
  obtain ⟨h1, h2, h3, h4⟩ := h
  rw [mod_pow_len (a := a) (by omega), mod_pow_len (a := b) (by omega)] at h4
  have la := lt_pow_len a
  have lb := lt_pow_len b
  have l1 : 10 ^ (digs a).length ≤ 10 ^ k := Nat.pow_le_pow_right (by decide) ha
  have l2 : 10 ^ (digs b).length ≤ 10 ^ k := Nat.pow_le_pow_right (by decide) hb
  rw [Nat.pow_succ] at h4
  rcases Nat.lt_or_ge carry 1 with hc | hc
  · obtain rfl : carry = 0 := by omega
    omega
  · obtain rfl : carry = 1 := by omega
    omega
/-- differences -/
def MinusAt (a b k : Nat) (out : List Int) (borrow : Nat) : Prop := out.length = k ∧ dOk out ∧ borrow ≤ 1 ∧ val out + b % 10 ^ k = a % 10 ^ k + borrow * 10 ^ k
theorem MinusAt.start (a b : Nat) : MinusAt a b 0 [] 0 := ⟨rfl, by simp [dOk], by omega, by simp [val, Nat.mod_one]⟩
theorem MinusAt.step {a b k : Nat} {out : List Int} {borrow : Nat} (h : MinusAt a b k out borrow) (d : Int) (q : Nat)
    (hd : d = (dig a k : Int) - dig b k - borrow + 10 * q) (hr : 0 ≤ d ∧ d ≤ 9) (hq : q ≤ 1) : MinusAt a b (k + 1) (out ++ [d]) q := by
  obtain ⟨h1, h2, h3, h4⟩ := h
  refine ⟨by simp [h1], ?_, hq, ?_⟩
  · intro y hy
    rcases List.mem_append.1 hy with hy | hy
    · exact h2 y hy
    · rw [List.mem_singleton.1 hy]; exact hr
  · rw [val_snoc, h1, mod_pow_succ, mod_pow_succ, Nat.pow_succ]
    have e0 : d.toNat + dig b k + borrow = dig a k + 10 * q := by omega
    have e1 : (d.toNat + dig b k + borrow) * 10 ^ k = (dig a k + 10 * q) * 10 ^ k := by rw [e0]
    rw [Nat.add_mul, Nat.add_mul, Nat.add_mul] at e1
    have e2 : q * (10 ^ k * 10) = 10 * q * 10 ^ k := by rw [Nat.mul_comm (10 ^ k) 10, ← Nat.mul_assoc, Nat.mul_comm q 10]
    omega
theorem MinusAt.done {a b k : Nat} {out : List Int} {borrow : Nat} (h : MinusAt a b k out borrow) (ha : (digs a).length ≤ k) (hba : b ≤ a) : val out = a - b := by
  obtain ⟨h1, h2, h3, h4⟩ := h
  have la := lt_pow_len a
  have l1 : 10 ^ (digs a).length ≤ 10 ^ k := Nat.pow_le_pow_right (by decide) ha
  rw [Nat.mod_eq_of_lt (by omega), Nat.mod_eq_of_lt (by omega)] at h4
  have hv := val_lt h2
  rw [h1] at hv
  rcases Nat.lt_or_ge borrow 1 with hc | hc
  · obtain rfl : borrow = 0 := by omega
    omega
  · obtain rfl : borrow = 1 := by omega
    omega
/-- which is longer: from the top down -/
theorem div_pow_step (a k : Nat) : a / 10 ^ k = dig a k + 10 * (a / 10 ^ (k + 1)) := by
  unfold dig
  rw [Nat.pow_succ, ← Nat.div_div_eq_div_mul]
  omega
theorem lt_of_dig {a b k : Nat} (h : a / 10 ^ (k + 1) = b / 10 ^ (k + 1)) (hd : dig a k < dig b k) : a < b := by
  have h1 := div_pow_step a k
  have h2 := div_pow_step b k
  have h3 : a / 10 ^ k < b / 10 ^ k := by omega
  rcases Nat.lt_or_ge a b with h | h
  · exact h
  · have := Nat.div_le_div_right (c := 10 ^ k) h; omega
theorem div_pow_len {a k : Nat} (h : (digs a).length ≤ k) : a / 10 ^ k = 0 := by
  refine Nat.div_eq_of_lt ?_
  have h1 := lt_pow_len a
  have h2 : 10 ^ (digs a).length ≤ 10 ^ k := Nat.pow_le_pow_right (by decide) h
  omega
end Go.Proofs.YtkdffcoofijhkaaDoor
