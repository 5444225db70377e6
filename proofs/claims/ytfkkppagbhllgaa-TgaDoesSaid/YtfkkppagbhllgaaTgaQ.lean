/-
  A PICTURE's ROWS laid one by one, in plain words. No program in sight.
-/
import Derived.Test.YtfkkppagbhllgaaTgaP
set_option linter.unusedVariables false
set_option linter.unusedSimpArgs false
namespace Go.Proofs.Ytfkkppagbhllgaa

/-- what an image's bytes are when some rows are laid -/
def contT (z n q : Nat) (top : Bool) (rs : List (List UInt8)) : List UInt8 :=
  if top then (rs.map (turnedT z)).flatten ++ List.replicate ((q - rs.length) * n) 0 else List.replicate ((q - rs.length) * n) 0 ++ (rs.reverse.map (turnedT z)).flatten
theorem cont_zero (z n q : Nat) (top : Bool) : contT z n q top [] = List.replicate (q * n) 0 := by unfold contT; cases top <;> simp
theorem cont_done {z n q : Nat} {top : Bool} {rs : List (List UInt8)} (h : rs.length = q) : contT z n q top rs = dataT z top rs := by
  unfold contT dataT
  rw [h, Nat.sub_self, Nat.zero_mul]
  cases top <;> simp
theorem turned_rows {z n : Nat} {rs : List (List UInt8)} (h : ∀ r ∈ rs, r.length = n) : ∀ r ∈ rs.map (turnedT z), r.length = n := by
  intro r hr
  obtain ⟨x, hx, rfl⟩ := List.mem_map.1 hr
  rw [turnedT_len]; exact h x hx
theorem cont_len {z n q : Nat} {top : Bool} {rs : List (List UInt8)} (h : ∀ r ∈ rs, r.length = n) (hq : rs.length ≤ q) : (contT z n q top rs).length = q * n := by
  have e : (q - rs.length) * n + rs.length * n = q * n := by rw [← Nat.add_mul]; congr 1; omega
  unfold contT
  cases top
  · have := flat_len _ (turned_rows (z := z) (rs := rs.reverse) (fun r hr => h r (by simpa using hr)))
    simp only [Bool.false_eq_true, if_false, List.length_append, List.length_replicate, this, List.length_map, List.length_reverse]
    exact e
  · have := flat_len _ (turned_rows (z := z) h)
    simp only [if_true, List.length_append, List.length_replicate, this, List.length_map]
    omega
theorem cont_step {z n q : Nat} {top : Bool} {rs : List (List UInt8)} {t : List UInt8} (h : ∀ r ∈ rs, r.length = n) (hq : rs.length < q) (ht : t.length = n) :
    (contT z n q top rs).take (ordT q top rs.length * n) ++ turnedT z t ++ (contT z n q top rs).drop (ordT q top rs.length * n + n) = contT z n q top (rs ++ [t]) := by
  unfold contT ordT
  cases top
  · have hl := flat_len _ (turned_rows (z := z) (rs := rs.reverse) (fun r hr => h r (by simpa using hr)))
    have e1 : (q - 1 - rs.length) * n + n = (q - rs.length) * n := by rw [← Nat.succ_mul]; congr 1; omega
    have e2 : (q - 1 - rs.length) * n ≤ (q - rs.length) * n := Nat.mul_le_mul_right _ (by omega)
    simp only [Bool.false_eq_true, if_false]
    rw [e1, List.take_append_of_le_length (by simpa using e2), List.take_replicate, Nat.min_eq_left e2]
    rw [List.drop_append, List.drop_of_length_le (by simp), List.nil_append, List.length_replicate, Nat.sub_self, List.drop_zero]
    have e3 : q - (rs ++ [t]).length = q - 1 - rs.length := by simp; omega
    rw [e3]
    simp
  · have hl := flat_len _ (turned_rows (z := z) h)
    rw [List.length_map] at hl
    simp only [if_true]
    rw [List.take_append_of_le_length (by omega), List.take_of_length_le (by omega)]
    rw [List.drop_append, List.drop_of_length_le (by omega), List.nil_append, hl, List.drop_replicate]
    have e3 : (q - rs.length) * n - (rs.length * n + n - rs.length * n) = (q - (rs ++ [t]).length) * n := by
      have e4 : (q - rs.length) * n = (q - (rs ++ [t]).length) * n + n := by rw [← Nat.succ_mul]; congr 1; simp; omega
      omega
    rw [e3]
    simp
/-- how far the reading stands -/
def RdSt (packed : Bool) (z w q : Nat) (s : List UInt8) (rs : List (List UInt8)) (rest : List UInt8) : Prop :=
  rs.length ≤ q ∧ (∀ r ∈ rs, r.length = w * z) ∧ rowsT packed z w q s = (rowsT packed z w (q - rs.length) rest).map fun o => (rs ++ o.1, o.2)
theorem RdSt.start (packed : Bool) (z w q : Nat) (s : List UInt8) : RdSt packed z w q s [] s := ⟨by simp, by simp, by cases rowsT packed z w q s <;> simp⟩
theorem RdSt.none {packed : Bool} {z w q : Nat} {s rest : List UInt8} {rs : List (List UInt8)} (h : RdSt packed z w q s rs rest) (hq : rs.length < q) (ht : takeRow packed z w rest = .none) : rowsT packed z w q s = .none := by
  rw [h.2.2, show q - rs.length = (q - rs.length - 1) + 1 by omega, rowsT, ht]; rfl
theorem RdSt.some {packed : Bool} {z w q : Nat} {s rest : List UInt8} {rs : List (List UInt8)} (h : RdSt packed z w q s rs rest) (hz : 0 < z) (hq : rs.length < q) {o : List UInt8 × List UInt8} (ht : takeRow packed z w rest = .some o) : RdSt packed z w q s (rs ++ [o.1]) o.2 := by
  refine ⟨by simp; omega, fun r hr => ?_, ?_⟩
  · rcases List.mem_append.1 hr with hr | hr
    · exact h.2.1 r hr
    · rw [List.mem_singleton.1 hr]; exact takeRow_out hz ht
  · rw [h.2.2, show q - rs.length = (q - rs.length - 1) + 1 by omega, rowsT, ht]
    dsimp only
    rw [Option.map_map, show q - (rs ++ [o.1]).length = q - rs.length - 1 by simp; omega]
    congr 1
    funext x
    simp
theorem RdSt.done {packed : Bool} {z w q : Nat} {s rest : List UInt8} {rs : List (List UInt8)} (h : RdSt packed z w q s rs rest) (hq : rs.length = q) : rowsT packed z w q s = Option.some (rs, rest) := by
  rw [h.2.2, hq, Nat.sub_self, rowsT]; simp
end Go.Proofs.Ytfkkppagbhllgaa
