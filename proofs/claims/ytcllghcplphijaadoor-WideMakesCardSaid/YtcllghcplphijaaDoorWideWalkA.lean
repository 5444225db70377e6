/-
  THE WALKS OF wide.Is, floor, Of, halves, right.
-/
import Derived.Test.YtcllghcplphijaaDoorWide
import Derived.Test.YtcllghcplphijaaDoorSlot
import Derived.Test.YtcllghcplphijaaDoorLex
import Derived.Test.YtcllghcplphijaaDoorProg
set_option linter.unusedVariables false
set_option linter.unusedSimpArgs false
namespace Go.Proofs.YtcllghcplphijaaDoor
open Go.RowKit

theorem ret_agg {a b : Pt} (h : a = b) : Ending.returned (.agg #[.int .i64 a.x, .int .i64 a.y]) = .returned (ptV b) := by rw [h]; rfl

theorem is_any (a : Pt) (w : World) (ha : a.b) :
    Calls Tryd.prog 19 #[ptV a] w fun e w' => e = .returned (.bool (wIs a)) ∧ Below w.heap.size w w' := by
  obtain ⟨x, y⟩ := a
  unfold ptV
  obtain ⟨b, hb⟩ : ∃ b, b = wIs ⟨x, y⟩ := ⟨_, rfl⟩
  have HB := Lib.hid hb
  rw [← hb]
  simp only [wIs] at hb
  have hB : ∀ a : Obj, Below w.heap.size w (w.alloc a) := fun a => (Below.refl _ _).alloc (Nat.le_refl _) _
  by_cases h1 : 0 ≤ y
  · have d1 : decide (0 ≤ y) = true := decide_eq_true h1
    rw [d1, Bool.true_and] at hb
    by_cases h2 : y < 1000000000000000000
    · have d2 : decide (y < 1000000000000000000) = true := decide_eq_true h2
      rw [d2, Bool.true_and] at hb
      by_cases h3 : -4000000000000000000 ≤ x
      · have d3 : decide (-4000000000000000000 ≤ x) = true := decide_eq_true h3
        rw [d3, Bool.true_and] at hb
        have HB2 := Lib.hid hb; clear hb HB
        go_enter Tryd.func19, Tryd.ntmps19
        go_wp2_with fail
        all_goals
          go_ret
          exact ⟨ret_bool HB2.out.symm, hB _⟩
      · have d3 : decide (-4000000000000000000 ≤ x) = false := decide_eq_false h3
        rw [d3, Bool.false_and] at hb
        have HB2 := Lib.hid hb; clear hb HB
        go_enter Tryd.func19, Tryd.ntmps19
        go_wp2_with fail
        all_goals
          go_ret
          exact ⟨ret_bool HB2.out.symm, hB _⟩
    · have d2 : decide (y < 1000000000000000000) = false := decide_eq_false h2
      rw [d2] at hb
      simp only [Bool.false_and] at hb
      have HB2 := Lib.hid hb; clear hb HB
      go_enter Tryd.func19, Tryd.ntmps19
      go_wp2_with fail
      all_goals
        go_ret
        exact ⟨ret_bool HB2.out.symm, hB _⟩
  · have d1 : decide (0 ≤ y) = false := decide_eq_false h1
    rw [d1] at hb
    simp only [Bool.false_and] at hb
    have HB2 := Lib.hid hb; clear hb HB
    go_enter Tryd.func19, Tryd.ntmps19
    go_wp2_with fail
    all_goals
      go_ret
      exact ⟨ret_bool HB2.out.symm, hB _⟩

/-- a quotient rounded down, and what is left -/
theorem floor_any (n b : Int) (w : World) (hn : i64b n) (hb : 1 ≤ b ∧ b ≤ 1000000000000000000) :
    Calls Tryd.prog 31 #[.int .i64 n, .int .i64 b] w fun e w' => e = .returned (.tuple #[.int .i64 (n / b), .int .i64 (n % b)]) ∧ Below w.heap.size w w' := by
  obtain ⟨b1, b2⟩ := hb
  obtain ⟨n1, n2⟩ := hn
  have z : (b == 0) = false := by simp; omega
  have z2 : (b == -1) = false := by simp; omega
  obtain ⟨q, hq⟩ : ∃ q, q = n.tdiv b := ⟨_, rfl⟩
  obtain ⟨r, hr⟩ : ∃ r, r = n.tmod b := ⟨_, rfl⟩
  have e1 : n / b = if r < 0 then q - 1 else q := by
    rw [hr, hq]
    by_cases h : n < 0
    · by_cases hd : n.tmod b = 0
      · rw [if_neg (by omega), Int.tdiv_eq_ediv_of_dvd (Int.dvd_of_tmod_eq_zero hd)]
      · have hm : n.tmod b < 0 := by
          have h1 : n.tmod b = -((-n).tmod b) := by rw [Int.neg_tmod]; omega
          have h2 := Int.tmod_nonneg b (show 0 ≤ -n by omega)
          omega
        rw [if_pos hm]
        have := Int.tdiv_eq_ediv (a := n) (b := b)
        rw [if_neg (by
          rintro (h3 | h3)
          · omega
          · exact hd (Int.tmod_eq_zero_of_dvd h3)), Int.sign_eq_one_of_pos (by omega)] at this
        omega
    · have := Int.tmod_nonneg b (show 0 ≤ n by omega)
      rw [if_neg (by omega), Int.tdiv_eq_ediv_of_nonneg (by omega)]
  have e2 : n % b = if r < 0 then r + b else r := by
    have h1 := Int.mul_ediv_add_emod n b
    have h2 := Int.mul_tdiv_add_tmod n b
    rw [← hq, ← hr] at h2
    rw [e1] at h1
    split
    · rw [if_pos ‹_›, Int.mul_sub, Int.mul_one] at h1; omega
    · rw [if_neg ‹_›] at h1; omega
  have rb : -1000000000000000000 ≤ r ∧ r ≤ 1000000000000000000 := by
    have h3 := Int.emod_nonneg n (show b ≠ 0 by omega)
    have h4 := Int.emod_lt_of_pos n (show 0 < b by omega)
    rw [e2] at h3 h4
    split at h3
    · rw [if_pos ‹_›] at h4; omega
    · rw [if_neg ‹_›] at h4; omega
  have qb : -9223372036854775808 ≤ n / b ∧ n / b ≤ 9223372036854775807 := by
    constructor
    · exact (Int.le_ediv_iff_mul_le (by omega)).2 (by omega)
    · exact Int.le_of_lt_add_one ((Int.ediv_lt_iff_lt_mul (by omega)).2 (by omega))
  by_cases hneg : r < 0
  · rw [if_pos hneg] at e1 e2
    rw [e1] at qb ⊢
    rw [e2]
    have d : decide (r < 0) = true := decide_eq_true hneg
    have hqb : -9223372036854775808 ≤ q ∧ q ≤ 9223372036854775807 := by
      have h5 := Int.natAbs_tdiv_le_natAbs n b
      rw [← hq] at h5
      constructor
      · omega
      · by_cases h : n < 0
        · have : n.tdiv b = -((-n).tdiv b) := by rw [Int.neg_tdiv]; omega
          have h6 := Int.tdiv_nonneg (a := -n) (b := b) (by omega) (by omega)
          omega
        · omega
    have hq' := hq.symm
    have hr' := hr.symm
    have HQ := Lib.hid hq; clear hq
    have HR := Lib.hid hr; clear hr
    clear e1 e2
    go_enter Tryd.func31, Tryd.ntmps31
    have wd : IntKind.i64.wrap q = q := IntWalk.i64_in _ hqb
    have wm : IntKind.i64.wrap r = r := IntWalk.i64_in _ (by omega)
    go_wp2_with fail
    go_quiet (fail)
    go_wp2_with fail
    refine bodyPost_ret (v := .tuple #[.int .i64 (q - 1), .int .i64 (r + b)]) (by simp [results, Tryd.results31, go_sem]) rfl ⟨rfl, below_drewN (Below.refl _ _) _⟩
  · rw [if_neg hneg] at e1 e2
    rw [e1] at qb ⊢
    rw [e2]
    have d : decide (r < 0) = false := decide_eq_false hneg
    have hq' := hq.symm
    have hr' := hr.symm
    have HQ := Lib.hid hq; clear hq
    have HR := Lib.hid hr; clear hr
    clear e1 e2
    go_enter Tryd.func31, Tryd.ntmps31
    have wd : IntKind.i64.wrap q = q := IntWalk.i64_in _ qb
    have wm : IntKind.i64.wrap r = r := IntWalk.i64_in _ (by omega)
    go_wp2_with fail
    go_quiet (fail)
    go_wp2_with fail
    refine bodyPost_ret (v := .tuple #[.int .i64 q, .int .i64 r]) (by simp [results, Tryd.results31, go_sem]) rfl ⟨rfl, below_drewN (Below.refl _ _) _⟩
end Go.Proofs.YtcllghcplphijaaDoor
