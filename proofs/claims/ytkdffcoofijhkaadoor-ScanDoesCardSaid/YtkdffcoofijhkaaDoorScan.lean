/-
  PARSING AND PRINTING STEPS, as plain functions of lists of bytes: digits, their number, what stands behind a point by doubling. No program in sight.
-/
import Derived.Lib.ItoaNum
import Derived.Lib.TrimByte
import Derived.Lib.IndexMore
import Derived.Lib.Strings
set_option linter.unusedVariables false
set_option linter.unusedSimpArgs false
namespace Go.Proofs.YtkdffcoofijhkaaDoor
open Go

def isDig (c : UInt8) : Bool := decide (48 ≤ c.toNat) && decide (c.toNat ≤ 57)
theorem isDig_iff (c : UInt8) : isDig c = true ↔ 48 ≤ c.toNat ∧ c.toNat ≤ 57 := by simp [isDig]
def dv (c : UInt8) : Nat := c.toNat - 48
/-- the number of digits, the first one ahead -/
def valN : List Nat → Nat
  | [] => 0
  | d :: r => d * 10 ^ r.length + valN r
theorem valN_append : ∀ a b : List Nat, valN (a ++ b) = valN a * 10 ^ b.length + valN b
  | [], b => by simp [valN]
  | d :: r, b => by
    simp only [List.cons_append, valN, valN_append r b, List.length_append, Nat.pow_add, Nat.add_mul, Nat.mul_assoc, Nat.add_assoc]
theorem valN_snoc (a : List Nat) (d : Nat) : valN (a ++ [d]) = 10 * valN a + d := by
  rw [valN_append]; simp [valN]; omega
theorem valN_lt : ∀ l : List Nat, (∀ d ∈ l, d ≤ 9) → valN l < 10 ^ l.length
  | [], _ => by simp [valN]
  | d :: r, h => by
    have h1 := valN_lt r (fun x hx => h x (List.mem_cons_of_mem _ hx))
    have h2 := h d List.mem_cons_self
    have h3 : d * 10 ^ r.length ≤ 9 * 10 ^ r.length := Nat.mul_le_mul_right _ h2
    simp only [valN, List.length_cons, Nat.pow_succ]
    omega
theorem valN_zero : ∀ l : List Nat, valN l = 0 ↔ ∀ d ∈ l, d = 0
  | [] => by simp [valN]
  | d :: r => by
    have h := valN_zero r
    have hp : 0 < 10 ^ r.length := Nat.pow_pos (by decide)
    simp only [valN, List.mem_cons, forall_eq_or_imp]
    constructor
    · intro h0
      have h1 : d * 10 ^ r.length = 0 := by omega
      rcases Nat.mul_eq_zero.1 h1 with h2 | h2
      · exact ⟨h2, h.1 (by omega)⟩
      · omega
    · rintro ⟨rfl, h2⟩
      rw [h.2 h2]; simp
def numD (l : List UInt8) : Nat := valN (l.map dv)
theorem numD_append (a b : List UInt8) : numD (a ++ b) = numD a * 10 ^ b.length + numD b := by simp [numD, valN_append]
theorem numD_snoc (a : List UInt8) (c : UInt8) : numD (a ++ [c]) = 10 * numD a + dv c := by simp [numD, valN_snoc]
theorem numD_nil : numD [] = 0 := rfl
theorem dv_le {c : UInt8} (h : isDig c = true) : dv c ≤ 9 := by rw [isDig_iff] at h; unfold dv; omega
theorem numD_lt (l : List UInt8) (h : l.all isDig = true) : numD l < 10 ^ l.length := by
  have := valN_lt (l.map dv) (fun d hd => by
    obtain ⟨c, hc, rfl⟩ := List.mem_map.1 hd
    exact dv_le (List.all_eq_true.1 h c hc))
  simpa [numD] using this

/-! ### doubling a row of digits -/
def dbl : List Nat → Nat × List Nat
  | [] => (0, [])
  | d :: r => ((2 * d + (dbl r).1) / 10, (2 * d + (dbl r).1) % 10 :: (dbl r).2)
theorem dbl_len : ∀ l, (dbl l).2.length = l.length
  | [] => rfl
  | d :: r => by simp [dbl, dbl_len r]
theorem dbl_dig : ∀ l, ∀ d ∈ (dbl l).2, d ≤ 9
  | [], d, h => by simp [dbl] at h
  | x :: r, d, h => by
    simp only [dbl, List.mem_cons] at h
    rcases h with rfl | h
    · omega
    · exact dbl_dig r d h
theorem dbl_carry : ∀ l, (∀ d ∈ l, d ≤ 9) → (dbl l).1 ≤ 1
  | [], _ => by simp [dbl]
  | x :: r, h => by
    have h1 := dbl_carry r (fun d hd => h d (List.mem_cons_of_mem _ hd))
    have h2 := h x List.mem_cons_self
    simp only [dbl]; omega
theorem dbl_val : ∀ l, (dbl l).1 * 10 ^ l.length + valN (dbl l).2 = 2 * valN l
  | [] => by simp [dbl, valN]
  | x :: r => by
    have h1 := dbl_val r
    have h2 : 10 * ((2 * x + (dbl r).1) / 10) + (2 * x + (dbl r).1) % 10 = 2 * x + (dbl r).1 := Nat.div_add_mod _ _
    simp only [dbl, valN, List.length_cons, dbl_len, Nat.pow_succ]
    generalize (2 * x + (dbl r).1) / 10 = q at *
    generalize (2 * x + (dbl r).1) % 10 = m at *
    generalize (dbl r).1 = c at *
    generalize valN (dbl r).2 = v at *
    generalize valN r = u at *
    generalize 10 ^ r.length = T at *
    have h3 : (10 * q + m) * T = (2 * x + c) * T := by rw [h2]
    rw [Nat.add_mul, Nat.add_mul, Nat.mul_assoc, Nat.mul_assoc] at h3
    have h4 : q * (T * 10) = 10 * (q * T) := by rw [← Nat.mul_assoc, Nat.mul_comm]
    rw [h4]
    omega
/-- i doublings: the steps so far, the digits -/
structure Dbl (B k i p : Nat) (ds : List Nat) : Prop where
  len : ds.length = k
  dig : ∀ d ∈ ds, d ≤ 9
  val : p * 10 ^ k + valN ds = 2 ^ i * B
theorem Dbl.next {B k i p : Nat} {ds : List Nat} (h : Dbl B k i p ds) : Dbl B k (i + 1) (2 * p + (dbl ds).1) (dbl ds).2 := by
  refine ⟨by rw [dbl_len, h.len], dbl_dig _, ?_⟩
  have h1 := dbl_val ds
  have h2 := h.val
  rw [h.len] at h1
  rw [Nat.pow_succ, Nat.add_mul, Nat.mul_assoc, Nat.mul_comm _ 2, Nat.mul_assoc, ← h2]
  omega
theorem Dbl.lt {B k i p : Nat} {ds : List Nat} (h : Dbl B k i p ds) (hB : B < 10 ^ k) : p < 2 ^ i := by
  have h2 := h.val
  have h3 : p * 10 ^ k < 2 ^ i * 10 ^ k := Nat.lt_of_le_of_lt (show p * 10 ^ k ≤ 2 ^ i * B by omega) (Nat.mul_lt_mul_of_pos_left hB (Nat.pow_pos (by decide)))
  exact Nat.lt_of_mul_lt_mul_right h3
theorem Dbl.done {B k p : Nat} {ds : List Nat} (h : Dbl B k 8 p ds) : p = 256 * B / 10 ^ k ∧ valN ds = 256 * B % 10 ^ k := by
  have h2 : p * 10 ^ k + valN ds = 256 * B := h.val
  have h3 := valN_lt ds h.dig
  rw [h.len] at h3
  rw [← h2]
  constructor
  · rw [Nat.mul_comm, Nat.mul_add_div (by omega), Nat.div_eq_of_lt h3]; omega
  · rw [Nat.mul_comm, Nat.mul_add_mod, Nat.mod_eq_of_lt h3]

/-- cut of noughts on both sides, nothing is left: all are noughts -/
theorem trimB_nil (l : List UInt8) (c : UInt8) : Lib.trimB l c = [] ↔ ∀ x ∈ l, x = c := by
  have hd : ∀ l : List UInt8, l.dropWhile (· == c) = [] ↔ ∀ x ∈ l, x = c := by
    intro l
    induction l with
    | nil => simp
    | cons a r ih =>
      by_cases ha : a = c
      · subst ha; simp [List.dropWhile_cons, ih]
      · simp [List.dropWhile_cons, ha]
  unfold Lib.trimB Lib.trimLeftB Lib.trimRightB
  rw [hd]
  simp only [List.mem_reverse]
  constructor
  · intro h
    have h1 : l.reverse.dropWhile (· == c) = [] := by
      cases e : l.reverse.dropWhile (· == c) with
      | nil => rfl
      | cons a r =>
        have ha : a = c := h a (by rw [e]; exact List.mem_cons_self)
        have := List.head_dropWhile_not (p := (· == c)) (l := l.reverse) (by rw [e]; simp)
        simp [e, ha] at this
    have := (hd l.reverse).1 h1
    intro x hx
    exact this x (by simpa using hx)
  · intro h x hx
    exact h x (by simpa using (List.dropWhile_sublist (p := (· == c)) (l := l.reverse)).mem hx)

/-! ### what stands at a sign, at a point -/
def signedS (s : List UInt8) : List UInt8 × Bool := if Lib.hasPrefix s [45] then (Lib.trimPrefix s [45], true) else (Lib.trimPrefix s [43], false)
def stepsZ (b : Bool) (D k : Nat) : Int := (if b then -(256 * (D : Int)) else 256 * (D : Int)) / ((10 ^ k : Nat) : Int)
def decOk (s : List UInt8) : Bool :=
  decide (s.length ≤ 20) && (Lib.cut (signedS s).1 [46]).1.all isDig && (Lib.cut (signedS s).1 [46]).2.1.all isDig && !((Lib.cut (signedS s).1 [46]).1 ++ (Lib.cut (signedS s).1 [46]).2.1).isEmpty
def decZ (s : List UInt8) : Int := stepsZ (signedS s).2 (numD ((Lib.cut (signedS s).1 [46]).1 ++ (Lib.cut (signedS s).1 [46]).2.1)) (Lib.cut (signedS s).1 [46]).2.1.length
def parseS (s : List UInt8) : Int × Int := if decOk s then (if -1048576 ≤ decZ s ∧ decZ s ≤ 1048576 then (decZ s, 0) else (0, 5)) else (0, 6)

/-- the steps, from what stands ahead of the point and behind it -/
theorem stepsZ_pos (f b : List UInt8) : stepsZ false (numD (f ++ b)) b.length = 256 * (numD f : Int) + ((256 * numD b / 10 ^ b.length : Nat) : Int) := by
  unfold stepsZ
  simp only [Bool.false_eq_true, if_false]
  rw [numD_append]
  have hT : 0 < 10 ^ b.length := Nat.pow_pos (by decide)
  generalize 10 ^ b.length = T at *
  have e : (256 * ((numD f * T + numD b : Nat) : Int)) = ((256 * numD b + 256 * numD f * T : Nat) : Int) := by
    rw [Nat.mul_assoc]; omega
  rw [e, ← Int.natCast_ediv, Nat.add_mul_div_right _ _ hT]
  omega
theorem neg_div (A T : Nat) (hT : 0 < T) : (-(A : Int)) / (T : Int) = -((A / T : Nat) : Int) - (if A % T = 0 then 0 else 1) := by
  have h := Nat.div_add_mod A T
  have h2 := Nat.mod_lt A hT
  have e : (A : Int) = (T : Int) * ((A / T : Nat) : Int) + ((A % T : Nat) : Int) := by exact_mod_cast h.symm
  generalize A / T = q at *
  generalize A % T = m at *
  split
  · rename_i h0
    subst h0
    rw [e, show -((T : Int) * (q : Int) + ((0 : Nat) : Int)) = 0 + (T : Int) * (-(q : Int)) by rw [Int.mul_neg]; simp, Int.add_mul_ediv_left _ _ (by omega)]
    simp
  · rw [e, show -((T : Int) * (q : Int) + (m : Int)) = ((T : Int) - (m : Int)) + (T : Int) * (-(q : Int) - 1) by rw [Int.mul_sub, Int.mul_neg]; omega, Int.add_mul_ediv_left _ _ (by omega), Int.ediv_eq_zero_of_lt (by omega) (by omega)]
    omega
theorem stepsZ_neg (f b : List UInt8) : stepsZ true (numD (f ++ b)) b.length = -(256 * (numD f : Int) + ((256 * numD b / 10 ^ b.length : Nat) : Int)) - (if 256 * numD b % 10 ^ b.length = 0 then 0 else 1) := by
  have hp := stepsZ_pos f b
  unfold stepsZ at *
  simp only [Bool.false_eq_true, if_false, if_true] at *
  rw [numD_append] at *
  have hT : 0 < 10 ^ b.length := Nat.pow_pos (by decide)
  generalize 10 ^ b.length = T at *
  have e : (256 * ((numD f * T + numD b : Nat) : Int)) = ((256 * (numD f * T + numD b) : Nat) : Int) := by omega
  rw [← hp, e, neg_div _ _ hT, ← Int.natCast_ediv]
  have e2 : 256 * (numD f * T + numD b) = 256 * numD b + T * (256 * numD f) := by
    rw [Nat.mul_comm T, Nat.mul_assoc]; omega
  rw [e2, Nat.add_mul_mod_self_left]

/-- what the program reckons: the front's number cut at 2^40 -/
def capN (n : Nat) : Nat := min n 1099511627776
theorem capN_step (n d : Nat) : min (10 * capN n + d) 1099511627776 = capN (10 * n + d) := by unfold capN; omega
end Go.Proofs.YtkdffcoofijhkaaDoor
