/-
  WHAT STANDS BEHIND THE POINT, digit by digit, in plain words. No program in sight.
-/
import Derived.Test.YtkdffcoofijhkaaDoorScanM
set_option linter.unusedVariables false
set_option linter.unusedSimpArgs false
namespace Go.Proofs.YtkdffcoofijhkaaDoor
open Go

/-- k digits behind the point at most, one by one -/
def frR : Nat → Nat → List UInt8
  | 0, _ => []
  | k + 1, m => if m = 0 then [] else UInt8.ofNat (48 + 10 * m / 256) :: frR k (10 * m % 256)
theorem numD_cons (c : UInt8) (l : List UInt8) : numD (c :: l) = dv c * 10 ^ l.length + numD l := by simp [numD, valN]
theorem digs_eq : ∀ (a b : List UInt8), a.length = b.length → a.all isDig = true → b.all isDig = true → numD a = numD b → a = b
  | [], [], _, _, _, _ => rfl
  | x :: a, y :: b, hl, ha, hb, hn => by
    simp only [List.all_cons, Bool.and_eq_true] at ha hb
    simp only [List.length_cons, Nat.add_right_cancel_iff] at hl
    have h1 := numD_lt a ha.2
    have h2 := numD_lt b hb.2
    rw [numD_cons, numD_cons, hl] at hn
    rw [hl] at h1
    generalize 10 ^ b.length = T at *
    have e1 : dv x = dv y := by
      have q1 : (dv x * T + numD a) / T = dv x := by rw [Nat.mul_comm, Nat.mul_add_div (by omega), Nat.div_eq_of_lt h1]; rfl
      have q2 : (dv y * T + numD b) / T = dv y := by rw [Nat.mul_comm, Nat.mul_add_div (by omega), Nat.div_eq_of_lt h2]; rfl
      rw [← q1, ← q2, hn]
    rw [e1] at hn
    have ih := digs_eq a b hl ha.2 hb.2 (by omega)
    have c1 := chr_dv ha.1
    have c2 := chr_dv hb.1
    rw [ih, ← c1, ← c2, e1]
theorem last_ten (l : List UInt8) (hl : l.all isDig = true) (h : l.getLast? ≠ some 48) (h0 : l ≠ []) : numD l % 10 ≠ 0 := by
  obtain ⟨u, c, rfl⟩ := snoc_of l h0
  rw [numD_snoc]
  have hc : isDig c = true := by simp at hl; exact hl.2
  have h9 := dv_le hc
  have h1 : dv c ≠ 0 := fun e => by
    have := chr_dv hc
    rw [e] at this
    simp at h
    exact h this.symm
  omega
theorem frac_uniq {a b : List UInt8} {m : Nat} (ha : a.all isDig = true) (hb : b.all isDig = true) (ea : 256 * numD a = m * 10 ^ a.length) (eb : 256 * numD b = m * 10 ^ b.length)
    (la : a.getLast? ≠ some 48) (lb : b.getLast? ≠ some 48) : a = b := by
  have key : ∀ (a b : List UInt8), a.length < b.length → b.all isDig = true → 256 * numD a = m * 10 ^ a.length → 256 * numD b = m * 10 ^ b.length → b.getLast? ≠ some 48 → False := by
    intro a b hl hb ea eb lb
    have hne : b ≠ [] := fun e => by rw [e] at hl; simp at hl
    refine last_ten b hb lb hne ?_
    have e : b.length = a.length + (b.length - a.length - 1) + 1 := by omega
    have h1 : 256 * numD b = 256 * (10 * (numD a * 10 ^ (b.length - a.length - 1))) := by
      rw [eb, e, Nat.pow_succ, Nat.pow_add, show a.length + (b.length - a.length - 1) + 1 - a.length - 1 = b.length - a.length - 1 by omega]
      rw [← Nat.mul_assoc, ← Nat.mul_assoc, ← ea]
      rw [Nat.mul_comm _ 10, Nat.mul_left_comm 256 10, ← Nat.mul_assoc 256, ]
    omega
  rcases Nat.lt_trichotomy a.length b.length with h | h | h
  · exact (key a b h hb ea eb lb).elim
  · refine digs_eq a b h ha hb ?_
    rw [h, ← eb] at ea
    omega
  · exact (key b a h ha eb ea la).elim
theorem frR_is : ∀ (k m : Nat), m < 256 → m * 10 ^ k % 256 = 0 → (frR k m).all isDig = true ∧ 256 * numD (frR k m) = m * 10 ^ (frR k m).length ∧ (frR k m).getLast? ≠ some 48 ∧ (frR k m).length ≤ k
  | 0, m, hm, h => by
    have : m = 0 := by simp at h; omega
    subst this
    simp [frR, numD, valN]
  | k + 1, m, hm, h => by
    unfold frR
    by_cases h0 : m = 0
    · rw [if_pos h0, h0]; simp [numD, valN]
    · rw [if_neg h0]
      have hd : 10 * m / 256 ≤ 9 := by omega
      have hm2 : 10 * m % 256 < 256 := Nat.mod_lt _ (by decide)
      have hdm := Nat.div_add_mod (10 * m) 256
      have h2 : 10 * m % 256 * 10 ^ k % 256 = 0 := by
        rw [Nat.mod_mul_mod, ← h, Nat.pow_succ]
        congr 1
        rw [Nat.mul_comm 10 m, Nat.mul_assoc, Nat.mul_comm 10]
      obtain ⟨i1, i2, i3, i4⟩ := frR_is k (10 * m % 256) hm2 h2
      generalize hl : frR k (10 * m % 256) = l at *
      generalize 10 * m % 256 = r at *
      generalize hq : 10 * m / 256 = d at *
      refine ⟨by rw [List.all_cons, isDig_chr d hd, i1]; rfl, ?_, ?_, by simp; omega⟩
      · rw [numD_cons, dv_chr d hd, List.length_cons, Nat.pow_succ, Nat.mul_add, i2]
        generalize 10 ^ l.length = T at *
        rw [← Nat.mul_assoc, ← Nat.add_mul, hdm, Nat.mul_comm 10 m, Nat.mul_assoc, Nat.mul_comm 10 T]
      · cases l with
        | nil =>
          simp [numD, valN] at i2
          have : d ≠ 0 := fun e => by subst e; omega
          intro e
          rw [List.getLast?_singleton, Option.some.injEq] at e
          have e2 := congrArg UInt8.toNat e
          rw [toNat_ofNat48 d hd] at e2
          have : (48 : UInt8).toNat = 48 := rfl
          omega
        | cons a t => simpa using i3
theorem point_ref (m : Nat) (hm : m < 256) : pointS m = if m = 0 then [] else 46 :: frR 8 m := by
  obtain ⟨k1, k2, k3, k4, k5⟩ := frac_is m hm
  rw [k4]
  by_cases h0 : m = 0
  · rw [if_pos h0, if_pos h0]
  · rw [if_neg h0, if_neg h0]
    obtain ⟨f1, f2, f3, f4⟩ := frR_is 8 m hm (by omega)
    have kl : (fracS m).getLast? ≠ some 48 := by
      obtain ⟨j, e1, e2⟩ := trimR_is ((dgs (m * 390625 + 100000000)).drop 1) 48
      exact e2
    rw [frac_uniq k1 f1 k3 f2 kl f3]
end Go.Proofs.YtkdffcoofijhkaaDoor
