/-
  A PRODUCT OF NUMBERS AS DIGITS: plain laws. No program in sight.
-/
import Derived.Test.YtkdffcoofijhkaaDoorNum
set_option linter.unusedVariables false
set_option linter.unusedSimpArgs false
namespace Go.Proofs.YtkdffcoofijhkaaDoor
open Go.RowKit

theorem val_set : ∀ {l : List Int} {j : Nat} {d e : Int}, l[j]? = some d → val (l.set j e) + d.toNat * 10 ^ j = val l + e.toNat * 10 ^ j
  | [], j, d, e, h => by simp at h
  | a :: l, 0, d, e, h => by
    simp at h; subst h
    simp [val]; omega
  | a :: l, j + 1, d, e, h => by
    simp at h
    have ih := val_set (l := l) (j := j) (d := d) (e := e) h
    simp only [List.set_cons_succ, val, Nat.pow_succ]
    have e1 : d.toNat * (10 ^ j * 10) = 10 * (d.toNat * 10 ^ j) := by rw [← Nat.mul_assoc, Nat.mul_comm]
    have e2 : e.toNat * (10 ^ j * 10) = 10 * (e.toNat * 10 ^ j) := by rw [← Nat.mul_assoc, Nat.mul_comm]
    rw [e1, e2]; omega
theorem val_zeros (n : Nat) : val (List.replicate n 0) = 0 := by
  induction n with
  | zero => rfl
  | succ n ih => rw [List.replicate_succ]; simp [val, ih]

/-- how great a cell may be: in row i, ahead of step k -/
def tbd (n2 i k j : Nat) : Int := if j = i + k ∧ 0 < k ∧ k < n2 then 18 else if j < i + n2 ∨ j = i + n2 ∧ k = n2 then 9 else 0
theorem tbd_cases (n2 i k j : Nat) : (j = i + k ∧ 0 < k ∧ k < n2) ∧ tbd n2 i k j = 18 ∨ ¬ (j = i + k ∧ 0 < k ∧ k < n2) ∧ (j < i + n2 ∨ j = i + n2 ∧ k = n2) ∧ tbd n2 i k j = 9 ∨ ¬ (j = i + k ∧ 0 < k ∧ k < n2) ∧ ¬ (j < i + n2 ∨ j = i + n2 ∧ k = n2) ∧ tbd n2 i k j = 0 := by
  unfold tbd
  by_cases h1 : j = i + k ∧ 0 < k ∧ k < n2
  · rw [if_pos h1]; exact .inl ⟨h1, rfl⟩
  · rw [if_neg h1]
    by_cases h2 : j < i + n2 ∨ j = i + n2 ∧ k = n2
    · rw [if_pos h2]; exact .inr (.inl ⟨h1, h2, rfl⟩)
    · rw [if_neg h2]; exact .inr (.inr ⟨h1, h2, rfl⟩)
/-- what has been told in row i, ahead of step k -/
def TimesAt (X Y n1 n2 i k : Nat) (out : List Int) : Prop :=
  out.length = n1 + n2 + 1 ∧ (∀ j d, out[j]? = some d → 0 ≤ d ∧ d ≤ tbd n2 i k j) ∧ val out = X % 10 ^ i * Y + dig X i * 10 ^ i * (Y % 10 ^ k)

theorem TimesAt.start (X Y n1 n2 : Nat) : TimesAt X Y n1 n2 0 0 (List.replicate (n1 + n2 + 1) 0) := by
  refine ⟨by simp, fun j d h => ?_, ?_⟩
  · rw [List.getElem?_replicate] at h
    split at h
    · injection h with h
      subst h
      have := tbd_cases n2 0 0 j
      omega
    · cases h
  · rw [val_zeros]; simp [Nat.mod_one]
theorem TimesAt.get {X Y n1 n2 i k : Nat} {out : List Int} (h : TimesAt X Y n1 n2 i k out) {j : Nat} (hj : j < n1 + n2 + 1) : ∃ d, out[j]? = some d ∧ 0 ≤ d ∧ d ≤ 18 := by
  refine ⟨out[j]'(by rw [h.1]; exact hj), List.getElem?_eq_getElem _, ?_⟩
  have := h.2.1 j _ (List.getElem?_eq_getElem (by rw [h.1]; exact hj))
  have := tbd_cases n2 i k j
  omega
theorem TimesAt.step {X Y n1 n2 i k : Nat} {out : List Int} (h : TimesAt X Y n1 n2 i k out) (hi : i < n1) (hk : k < n2) {d0 d1 x : Int} (h0 : out[i + k]? = some d0) (h1 : out[i + k + 1]? = some d1)
    (hx : x = d0 + dig X i * dig Y k) : TimesAt X Y n1 n2 i (k + 1) (((out.set (i + k) x).set (i + k + 1) (d1 + x / 10)).set (i + k) (x % 10)) := by
  obtain ⟨hl, hb, hv⟩ := h
  have b0 := hb _ _ h0
  have b1 := hb _ _ h1
  have t0 := tbd_cases n2 i k (i + k)
  have t1 := tbd_cases n2 i k (i + k + 1)
  have dX := dig_le X i
  have dY := dig_le Y k
  have hp : dig X i * dig Y k ≤ 81 := Nat.le_trans (Nat.mul_le_mul dX dY) (by decide)
  obtain ⟨p, hpp⟩ : ∃ p, p = dig X i * dig Y k := ⟨_, rfl⟩
  have hx' : x = d0 + p := by rw [hx, hpp]; simp
  rw [← hpp] at hp
  have hx0 : 0 ≤ x ∧ x ≤ 99 := by omega
  refine ⟨by simp [hl], fun j d hj => ?_, ?_⟩
  · have t2 := tbd_cases n2 i k j
    have t3 := tbd_cases n2 i (k + 1) j
    rw [List.getElem?_set] at hj
    split at hj
    · split at hj
      · injection hj with hj
        omega
      · cases hj
    · rename_i e
      rw [List.getElem?_set] at hj
      split at hj
      · split at hj
        · injection hj with hj
          omega
        · cases hj
      · rename_i e2
        rw [List.getElem?_set_ne e] at hj
        have b := hb j d hj
        omega
  · have g1 : (out.set (i + k) x)[i + k + 1]? = some d1 := by rw [List.getElem?_set_ne (by omega)]; exact h1
    have g2 : ((out.set (i + k) x).set (i + k + 1) (d1 + x / 10))[i + k]? = some x := by
      rw [List.getElem?_set_ne (by omega), List.getElem?_set_self (by omega)]
    have v1 := val_set (e := x) h0
    have v2 := val_set (e := d1 + x / 10) g1
    have v3 := val_set (e := x % 10) g2
    have eX : x.toNat = d0.toNat + p := by omega
    have e1 : (d1 + x / 10).toNat = d1.toNat + x.toNat / 10 := by omega
    have e2 : (x % 10).toNat = x.toNat % 10 := by omega
    rw [e1, Nat.add_mul, Nat.pow_succ] at v2
    rw [e2] at v3
    rw [eX] at v1 
    rw [Nat.add_mul] at v1
    have e3 : x.toNat * 10 ^ (i + k) = x.toNat / 10 * (10 ^ (i + k) * 10) + x.toNat % 10 * 10 ^ (i + k) := by
      rw [Nat.mul_comm (10 ^ (i + k)) 10, ← Nat.mul_assoc, ← Nat.add_mul]
      congr 1; omega
    have e4 : dig X i * 10 ^ i * (Y % 10 ^ (k + 1)) = dig X i * 10 ^ i * (Y % 10 ^ k) + p * 10 ^ (i + k) := by
      rw [mod_pow_succ, Nat.mul_add, hpp, Nat.pow_add]
      congr 1
      simp only [Nat.mul_assoc, Nat.mul_left_comm, Nat.mul_comm]
    rw [e4]
    omega
theorem TimesAt.row {X Y n1 n2 i : Nat} {out : List Int} (h : TimesAt X Y n1 n2 i n2 out) (hY : (digs Y).length ≤ n2) : TimesAt X Y n1 n2 (i + 1) 0 out := by
  obtain ⟨hl, hb, hv⟩ := h
  refine ⟨hl, fun j d hj => ?_, ?_⟩
  · have b := hb j d hj
    have t2 := tbd_cases n2 i n2 j
    have t3 := tbd_cases n2 (i + 1) 0 j
    omega
  · rw [hv, mod_pow_len hY, mod_pow_succ, Nat.add_mul]
    simp [Nat.mod_one]
theorem TimesAt.done {X Y n1 n2 : Nat} {out : List Int} (h : TimesAt X Y n1 n2 n1 0 out) (hX : (digs X).length ≤ n1) : dOk out ∧ val out = X * Y := by
  obtain ⟨hl, hb, hv⟩ := h
  refine ⟨fun d hd => ?_, ?_⟩
  · obtain ⟨j, hj⟩ := List.getElem?_of_mem hd
    have b := hb j d hj
    have t2 := tbd_cases n2 n1 0 j
    omega
  · rw [hv, mod_pow_len hX]; simp [Nat.mod_one]
theorem sgn_times {x y : Int} : sgn (decide (x < 0) != decide (y < 0)) (x.natAbs * y.natAbs) = x * y := by
  rw [← Int.natAbs_mul]
  unfold sgn
  by_cases h1 : x < 0
  · by_cases h2 : y < 0
    · have := Int.mul_pos_of_neg_of_neg h1 h2
      simp [h1, h2]; omega
    · rcases (show 0 = y ∨ 0 < y by omega) with h | h
      · subst h; simp
      · have := Int.mul_neg_of_neg_of_pos h1 h
        simp [h1, h2]; omega
  · by_cases h2 : y < 0
    · rcases (show 0 = x ∨ 0 < x by omega) with h | h
      · subst h; simp
      · have := Int.mul_neg_of_pos_of_neg h h2
        simp [h1, h2]; omega
    · have := Int.mul_nonneg (show 0 ≤ x by omega) (show 0 ≤ y by omega)
      simp [h1, h2]; omega
theorem set_same {l : List Int} {j : Nat} {d : Int} (h : l[j]? = some d) : l.set j d = l := by
  obtain ⟨hj, rfl⟩ := List.getElem?_eq_some_iff.1 h
  exact List.set_getElem_self hj
end Go.Proofs.YtkdffcoofijhkaaDoor
