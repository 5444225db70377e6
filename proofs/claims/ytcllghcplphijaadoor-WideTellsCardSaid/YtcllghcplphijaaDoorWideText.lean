/-
  A WIDE's TEXT is its number's: plain.
-/
import Derived.Test.YtcllghcplphijaaDoorWideRefF
set_option linter.unusedVariables false
set_option linter.unusedSimpArgs false
namespace Go.Proofs.YtcllghcplphijaaDoor
open Go.RowKit

theorem chr_nat (n : Nat) : chr (n : Int) = UInt8.ofNat (48 + n) := by unfold chr; rw [Int.toNat_natCast]
theorem dec_digs (u : Nat) : Lib.decDigits u = if u = 0 then [48] else (digs u).reverse.map chr := by
  induction u using Nat.strongRecOn with
  | _ u ih =>
    rw [Lib.decDigits]
    by_cases h : u < 10
    · rw [dif_pos h]
      by_cases h0 : u = 0
      · subst h0; rfl
      · rw [if_neg h0, digs_pos h0, Nat.div_eq_of_lt h, digs_zero, Nat.mod_eq_of_lt h]
        simp [chr_nat]
    · rw [dif_neg h, ih (u / 10) (by omega), if_neg (by omega), if_neg (by omega), digs_pos (n := u) (by omega), List.reverse_cons, List.map_append, List.map_cons, List.map_nil, chr_nat]
/-- m digits of y, the last one first -/
def padL : Nat → Nat → List Int
  | 0, _ => []
  | m + 1, y => ((y % 10 : Nat) : Int) :: padL m (y / 10)
theorem digs_pad : ∀ (m x y : Nat), 0 < x → y < 10 ^ m → digs (x * 10 ^ m + y) = padL m y ++ digs x
  | 0, x, y, hx, hy => by
    simp at hy; subst hy; simp [padL]
  | m + 1, x, y, hx, hy => by
    have e : x * 10 ^ (m + 1) = 10 * (x * 10 ^ m) := by rw [Nat.pow_succ, ← Nat.mul_assoc, Nat.mul_comm]
    have hp : 0 < x * 10 ^ m := Nat.mul_pos hx (Nat.pow_pos (by decide))
    rw [Nat.pow_succ] at hy
    rw [e, digs_pos (by omega)]
    have h1 : (10 * (x * 10 ^ m) + y) % 10 = y % 10 := by omega
    have h2 : (10 * (x * 10 ^ m) + y) / 10 = x * 10 ^ m + y / 10 := by omega
    rw [h1, h2, digs_pad m x (y / 10) hx (by omega)]
    rfl
theorem padL_zero : ∀ m, padL m 0 = List.replicate m 0
  | 0 => rfl
  | m + 1 => by simp [padL, padL_zero m, List.replicate_succ]
theorem padL_digs : ∀ (m y : Nat), y < 10 ^ m → padL m y = digs y ++ List.replicate (m - (digs y).length) 0
  | 0, y, hy => by simp at hy; subst hy; simp [padL, digs_zero]
  | m + 1, y, hy => by
    by_cases h0 : y = 0
    · subst h0; rw [padL_zero, digs_zero]; simp
    · rw [Nat.pow_succ] at hy
      rw [padL, padL_digs m (y / 10) (by omega), digs_pos h0]
      simp
theorem repeat48 (c : Nat) : Lib.repeatL [48] c = List.replicate c 48 := by
  have := Lib.repeatL_replicate 48 1 c
  simpa using this
theorem itoa_dec {n : Int} (h : 0 ≤ n) : Lib.itoa n = Lib.decDigits n.toNat := by unfold Lib.itoa; rw [if_neg (by omega)]
theorem wTextP_eq {b : Pt} (hx : 0 ≤ b.x) (hy : 0 ≤ b.y ∧ b.y < 1000000000000000000) : wTextP b = if wval b = 0 then [48] else (digs (wval b).natAbs).reverse.map chr := by
  obtain ⟨x, y⟩ := b
  simp only at hx hy
  have hv : wval ⟨x, y⟩ = x * 1000000000000000000 + y := rfl
  rw [hv]
  unfold wTextP
  simp only
  by_cases h0 : x = 0
  · subst h0
    rw [if_pos rfl, itoa_dec hy.1, dec_digs]
    simp only [Int.zero_mul, Int.zero_add]
    have e : y.toNat = y.natAbs := by omega
    rw [e]
    by_cases hy0 : y = 0
    · subst hy0; rfl
    · rw [if_neg (by omega), if_neg hy0]
  · rw [if_neg h0, if_neg (by omega), itoa_dec hx, itoa_dec hy.1]
    obtain ⟨X, rfl⟩ : ∃ X : Nat, x = X := ⟨x.toNat, by omega⟩
    obtain ⟨Y, rfl⟩ : ∃ Y : Nat, y = Y := ⟨y.toNat, by omega⟩
    have e : ((X : Int) * 1000000000000000000 + (Y : Int)).natAbs = X * 10 ^ 18 + Y := by omega
    have hY : Y < 10 ^ 18 := by omega
    rw [e, digs_pad 18 X Y (by omega) hY, padL_digs 18 Y hY, Int.toNat_natCast, Int.toNat_natCast, dec_digs X, if_neg (by omega), dec_digs Y, repeat48]
    have hl := digs_len_le hY
    have hc0 : chr 0 = 48 := by rfl
    by_cases hy0 : Y = 0
    · subst hy0
      rw [digs_zero]
      simp [hc0]
    · rw [if_neg hy0]
      simp [hc0]
theorem wText_eq {a : Pt} (h : wIs a = true) : wText a = textOf (wval a) := by
  have h' := (wIs_iff a).1 h
  have hv : wval a = a.x * 1000000000000000000 + a.y := rfl
  unfold wText textOf
  rw [if_pos h]
  by_cases hx : a.x < 0
  · rw [if_pos hx, if_pos (by omega), if_neg (by omega)]
    have hs : wval (wSide a) = -wval a ∧ 0 ≤ (wSide a).x ∧ 0 ≤ (wSide a).y ∧ (wSide a).y < 1000000000000000000 := by
      unfold wSide
      split
      · rename_i h0
        refine ⟨?_, by simp only; omega, by simp only; omega, by simp only; omega⟩
        rw [hv, h0]
        show (-a.x) * 1000000000000000000 + 0 = _
        omega
      · refine ⟨?_, by simp only; omega, by simp only; omega, by simp only; omega⟩
        rw [hv]
        show (-a.x - 1) * 1000000000000000000 + (1000000000000000000 - a.y) = _
        omega
    rw [wTextP_eq hs.2.1 hs.2.2, hs.1, if_neg (by omega), Int.natAbs_neg]
    rfl
  · rw [if_neg hx, wTextP_eq (by omega) ⟨h'.1, h'.2.1⟩]
    by_cases h0 : wval a = 0
    · rw [if_pos h0, if_neg (by omega)]; rfl
    · rw [if_neg h0, if_neg (by omega)]; rfl

/-- the reference's text is the code's -/
theorem rtext_any (a : Pt) (w : World) (ha : a.b) : Calls Tryd.prog 17 #[ptV a] w (SR w (wText a)) := by
  cases hi : wIs a with
  | false =>
    have e : wText a = [] := by unfold wText; rw [hi]; rfl
    rw [e]
    exact rtext_no a w ha hi
  | true =>
    rw [wText_eq hi]
    exact rtext_yes a w ha hi
end Go.Proofs.YtcllghcplphijaaDoor
