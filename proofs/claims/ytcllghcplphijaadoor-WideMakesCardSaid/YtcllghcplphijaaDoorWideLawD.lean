/-
  THE LAW WideDivides.
-/
import Derived.Test.YtcllghcplphijaaDoorWideLawB
set_option linter.unusedVariables false
set_option linter.unusedSimpArgs false
set_option maxRecDepth 8000
namespace Go.Proofs.YtcllghcplphijaaDoor
open Go.RowKit

theorem wOf_is {m : Int} (h : -4000000000000000000000000000000000000 ≤ m ∧ m ≤ 4000000000000000000000000000000000000) : wIs (wOf m) = true := by
  rw [wIs_iff]; unfold wOf; simp only; omega
theorem wIs_b {a : Pt} (h : wIs a = true) : a.b := by
  rw [wIs_iff] at h
  unfold Pt.b i64b; omega
theorem wdiv_is {a : Pt} {n : Int} (hi : wIs a = true) (hn : 1 ≤ n ∧ n ≤ 1000000000) : wIs (wOf (wval a / n)) = true := by
  have h' := (wIs_iff a).1 hi
  have hv : wval a = a.x * 1000000000000000000 + a.y := rfl
  have hm : (0 ≤ wval a → 0 ≤ wval a / n ∧ wval a / n ≤ wval a) ∧ (wval a < 0 → wval a ≤ wval a / n ∧ wval a / n < 0) := by
    refine ⟨fun h => ⟨Int.ediv_nonneg h (by omega), Int.ediv_le_self _ h⟩, fun h => ⟨?_, Int.ediv_neg_of_neg_of_pos h (by omega)⟩⟩
    refine (Int.le_ediv_iff_mul_le (by omega)).2 ?_
    have h2 : wval a * n ≤ wval a * 1 := Int.mul_le_mul_of_nonpos_left (by omega) (by omega)
    omega
  rw [wIs_iff]
  unfold wOf
  simp only
  omega

/-- n times the quotient, step by step -/
theorem div_steps {a q : Pt} {n : Int} (hi : wIs a = true) (hn : 1 ≤ n ∧ n ≤ 1000) (hq : q = wOf (wval a / n)) (hq2 : -1000000 ≤ q.x ∧ q.x ≤ 1000000) :
    ∃ X : Nat → Pt, X 0 = wOf (wval a % n) ∧ (∀ k : Nat, (k : Int) < n → wAdd [X k, q] = (X (k + 1), 0)) ∧ (∀ k : Nat, (k : Int) ≤ n → (X k).b) ∧ (∀ k : Nat, (k : Int) = n → X k = a) := by
  have hqi : wIs q = true := by rw [hq]; exact wdiv_is hi ⟨hn.1, by omega⟩
  have hqv : wval q = wval a / n := by rw [hq, wval_wOf]
  have h' := (wIs_iff q).1 hqi
  have hv : wval q = q.x * 1000000000000000000 + q.y := rfl
  have hL0 := Int.emod_nonneg (wval a) (show n ≠ 0 by omega)
  have hL1 := Int.emod_lt_of_pos (wval a) (show 0 < n by omega)
  have hQ : -1000001000000000000000000 ≤ wval q ∧ wval q ≤ 1000001000000000000000000 := by omega
  have key : ∀ k : Nat, (k : Int) ≤ n → -1000001000000000000000000000 ≤ k * wval q ∧ k * wval q ≤ 1000001000000000000000000000 := fun k hk => by
    have hk1 : (k : Int) ≤ 1000 := by omega
    have hk0 : (0 : Int) ≤ k := by omega
    constructor
    · have h1 : (k : Int) * (-1000001000000000000000000) ≤ k * wval q := Int.mul_le_mul_of_nonneg_left hQ.1 hk0
      omega
    · have h1 : (k : Int) * wval q ≤ k * 1000001000000000000000000 := Int.mul_le_mul_of_nonneg_left hQ.2 hk0
      omega
  refine ⟨fun k => wOf (wval a % n + k * wval q), by simp, fun k hk => ?_, fun k hk => ?_, fun k hk => ?_⟩
  · have h1 := key k (by omega)
    have h2 := key (k + 1) (by omega)
    have e : wval a % n + (k : Int) * wval q + wval q = wval a % n + ((k + 1 : Nat) : Int) * wval q := by
      rw [Int.natCast_add, Int.add_mul]; simp; omega
    rw [wAdd_two (wOf_is (by omega)) hqi, wval_wOf, e]
    unfold wTold
    rw [if_pos (wOf_is (by omega))]
  · have h1 := key k hk
    exact wIs_b (wOf_is (by omega))
  · simp only
    rw [hk, hqv, Int.add_comm, Int.mul_ediv_add_emod]
    have ha := (wIs_iff a).1 hi
    exact wOf_wval ⟨ha.1, ha.2.1⟩
set_option maxHeartbeats 3200000 in
theorem widediv_no (a : Pt) (n : Int) (w : World) (ha : a.b) (hn : i64b n) (hT : TabB w) (h : wIs a = false ∨ n < 1 ∨ 1000000000 < n) : Calls Tryd.prog 8 #[ptV a, .int .i64 n] w (fun e w' => e = .returned (.bool true) ∧ Below w.heap.size w w') := by
  obtain ⟨n1, n2⟩ := hn
  have K1 := Lib.hid (fun W => wdiv_any a n W ha ⟨n1, n2⟩)
  have K2 := Lib.hid (fun W => is_any a W ha)
  have T1 := Lib.hid (fun W hW => widened_any W hW)
  rw [wdiv_no h] at K1
  obtain ⟨i, hi⟩ : ∃ i, wIs a = i := ⟨_, rfl⟩
  rw [hi] at K2 h
  clear hi
  obtain ⟨x, y⟩ := a
  unfold PNE ptV at *
  simp only at K1 K2
  have HTB := Lib.hid hT; clear hT ha
  have hc : i = false ∨ i = true ∧ n < 1 ∨ i = true ∧ 1 ≤ n ∧ 1000000000 < n := by
    cases i
    · exact .inl rfl
    · rcases h with h | h | h
      · cases h
      · exact .inr (.inl ⟨rfl, h⟩)
      · exact .inr (.inr ⟨rfl, by omega, h⟩)
  clear h
  obtain ⟨s1, hb0, hz0⟩ := one_slot w [.int .i64 x, .int .i64 y] #[.int .i64 x, .int .i64 y] 23 rfl
  go_enter Tryd.func8, Tryd.ntmps8
  go_wp2_with fail
  generalize w.alloc (.cells #[.int .i64 x, .int .i64 y] 23) = V0 at s1 hb0 hz0 ⊢
  have Ha := Lib.hid s1; clear s1
  have HB := Lib.hid hb0; clear hb0
  refine (K1.out _).mono ?_
  clear K1
  rintro e w1 ⟨rfl, bb⟩
  have Ha := Lib.hid (Ha.out.below bb (by omega))
  have HB := Lib.hid (HB.out.trans (bb.mono HB.out.size))
  have hzw1 := bb.size
  clear bb
  obtain ⟨s1, hb1, hz1⟩ := one_slot w1 [.int .i64 0, .int .i64 0] #[.int .i64 0, .int .i64 0] 23 rfl
  go_wp2_with fail
  generalize w1.alloc (.cells #[.int .i64 0, .int .i64 0] 23) = V2 at s1 hb1 hz1 ⊢
  have Ha := Lib.hid (Ha.out.below hb1 (by omega))
  have Hq := Lib.hid s1
  have HB := Lib.hid (HB.out.trans (hb1.mono HB.out.size))
  clear s1 hb1
  have hzV2 := hz1; clear hz1
  refine (T1.out V2 (HTB.out.on HB.out)).mono ?_
  clear T1
  rintro e w3 ⟨rfl, bb⟩
  have Ha := Lib.hid (Ha.out.below bb (by omega))
  have Hq := Lib.hid (Hq.out.below bb (by omega))
  have HB := Lib.hid (HB.out.trans (bb.mono HB.out.size))
  have hzw3 := bb.size
  clear bb
  have la : w.heap.size < w3.heap.size := by omega
  have ca0 := Ha.out.c 0 _ rfl
  have ca1 := Ha.out.c 1 _ rfl
  go_wp2_with fail
  clear ca0 ca1
  refine (K2.out _).mono ?_
  clear K2
  rintro e w4 ⟨rfl, bb⟩
  have Ha := Lib.hid (Ha.out.below bb (by omega))
  have Hq := Lib.hid (Hq.out.below bb (by omega))
  have HB := Lib.hid (HB.out.trans (bb.mono HB.out.size))
  have hzw4 := bb.size
  clear bb
  rcases hc with rfl | ⟨rfl, h1⟩ | ⟨rfl, h1, h2⟩
  case' inr.inl => have d1 : decide (n < 1) = true := decide_eq_true h1
  case' inr.inr =>
    have d1 : decide (n < 1) = false := decide_eq_false (by omega)
    have d2 : decide (1000000000 < n) = true := decide_eq_true h2
  all_goals
    go_wp2_with fail
    go_ret
    exact ⟨rfl, HB.out⟩

set_option maxHeartbeats 3200000 in
theorem widediv_far0 (a : Pt) (n : Int) (w : World) (ha : a.b) (hn : i64b n) (hT : TabB w) (hi : wIs a = true) (hn2 : 1 ≤ n ∧ n ≤ 1000000000) (hq0 : (wOf (wval a / n)).x < -1000000) : Calls Tryd.prog 8 #[ptV a, .int .i64 n] w (fun e w' => e = .returned (.bool true) ∧ Below w.heap.size w w') := by
  obtain ⟨n1, n2⟩ := hn
  have K1 := Lib.hid (fun W => wdiv_any a n W ha ⟨n1, n2⟩)
  rw [show wDiv a n = (wOf (wval a / n), wval a % n, 0) by unfold wDiv; rw [if_pos ⟨hi, hn2.1, hn2.2⟩]] at K1
  have hqi := wdiv_is hi hn2
  have hL0 := Int.emod_nonneg (wval a) (show n ≠ 0 by omega)
  have hL1 := Int.emod_lt_of_pos (wval a) (show 0 < n by omega)
  have K2 := Lib.hid (fun W => is_any (wOf (wval a / n)) W (wIs_b hqi))
  rw [hqi] at K2
  have T1 := Lib.hid (fun W hW => widened_any W hW)
  obtain ⟨⟨q1, q2⟩, hq⟩ : ∃ q, wOf (wval a / n) = q := ⟨_, rfl⟩
  obtain ⟨L, hL⟩ : ∃ L, wval a % n = L := ⟨_, rfl⟩
  rw [hq, hL] at K1
  rw [hq] at K2 hqi
  rw [hL] at hL0 hL1
  rw [hq] at hq0
  simp only at hq0
  have d3 : decide (q1 < -1000000) = true := decide_eq_true hq0
  clear hq hL
  obtain ⟨x, y⟩ := a
  unfold PNE ptV at *
  simp only at K1 K2
  have HTB := Lib.hid hT; clear hT ha hi hqi
  have d1 : decide (L < 0) = false := decide_eq_false (by omega)
  have d2 : decide (n ≤ L) = false := decide_eq_false (by omega)
  obtain ⟨s1, hb0, hz0⟩ := one_slot w [.int .i64 x, .int .i64 y] #[.int .i64 x, .int .i64 y] 23 rfl
  go_enter Tryd.func8, Tryd.ntmps8
  go_wp2_with fail
  generalize w.alloc (.cells #[.int .i64 x, .int .i64 y] 23) = V0 at s1 hb0 hz0 ⊢
  have Ha := Lib.hid s1; clear s1
  have HB := Lib.hid hb0; clear hb0
  refine (K1.out _).mono ?_
  clear K1
  rintro e w1 ⟨rfl, bb⟩
  have Ha := Lib.hid (Ha.out.below bb (by omega))
  have HB := Lib.hid (HB.out.trans (bb.mono HB.out.size))
  have hzw1 := bb.size
  clear bb
  obtain ⟨s1, hb1, hz1⟩ := one_slot w1 [.int .i64 q1, .int .i64 q2] #[.int .i64 q1, .int .i64 q2] 23 rfl
  go_wp2_with fail
  generalize w1.alloc (.cells #[.int .i64 q1, .int .i64 q2] 23) = V2 at s1 hb1 hz1 ⊢
  have Ha := Lib.hid (Ha.out.below hb1 (by omega))
  have Hq := Lib.hid s1
  have HB := Lib.hid (HB.out.trans (hb1.mono HB.out.size))
  clear s1 hb1
  have hzV2 := hz1; clear hz1
  refine (K2.out _).mono ?_
  clear K2
  rintro e w3 ⟨rfl, bb⟩
  have Ha := Lib.hid (Ha.out.below bb (by omega))
  have Hq := Lib.hid (Hq.out.below bb (by omega))
  have HB := Lib.hid (HB.out.trans (bb.mono HB.out.size))
  have hzw3 := bb.size
  clear bb
  have lq : w1.heap.size < w3.heap.size := by omega
  have cq0 := Hq.out.c 0 _ rfl
  have cq1 := Hq.out.c 1 _ rfl
  go_wp2_with fail
  clear cq0 cq1
  refine (T1.out w3 (HTB.out.on HB.out)).mono ?_
  clear T1
  rintro e w4 ⟨rfl, bb⟩
  have Ha := Lib.hid (Ha.out.below bb (by omega))
  have Hq := Lib.hid (Hq.out.below bb (by omega))
  have HB := Lib.hid (HB.out.trans (bb.mono HB.out.size))
  have hzw4 := bb.size
  clear bb
  go_wp2_with fail
  go_ret
  exact ⟨rfl, HB.out⟩

set_option maxHeartbeats 3200000 in
theorem widediv_far1 (a : Pt) (n : Int) (w : World) (ha : a.b) (hn : i64b n) (hT : TabB w) (hi : wIs a = true) (hn2 : 1 ≤ n ∧ n ≤ 1000000000) (hq0 : 1000000 < (wOf (wval a / n)).x) : Calls Tryd.prog 8 #[ptV a, .int .i64 n] w (fun e w' => e = .returned (.bool true) ∧ Below w.heap.size w w') := by
  obtain ⟨n1, n2⟩ := hn
  have K1 := Lib.hid (fun W => wdiv_any a n W ha ⟨n1, n2⟩)
  rw [show wDiv a n = (wOf (wval a / n), wval a % n, 0) by unfold wDiv; rw [if_pos ⟨hi, hn2.1, hn2.2⟩]] at K1
  have hqi := wdiv_is hi hn2
  have hL0 := Int.emod_nonneg (wval a) (show n ≠ 0 by omega)
  have hL1 := Int.emod_lt_of_pos (wval a) (show 0 < n by omega)
  have K2 := Lib.hid (fun W => is_any (wOf (wval a / n)) W (wIs_b hqi))
  rw [hqi] at K2
  have T1 := Lib.hid (fun W hW => widened_any W hW)
  obtain ⟨⟨q1, q2⟩, hq⟩ : ∃ q, wOf (wval a / n) = q := ⟨_, rfl⟩
  obtain ⟨L, hL⟩ : ∃ L, wval a % n = L := ⟨_, rfl⟩
  rw [hq, hL] at K1
  rw [hq] at K2 hqi
  rw [hL] at hL0 hL1
  rw [hq] at hq0
  simp only at hq0
  have d3 : decide (q1 < -1000000) = false := decide_eq_false (by omega)
  have d4 : decide (1000000 < q1) = true := decide_eq_true hq0
  clear hq hL
  obtain ⟨x, y⟩ := a
  unfold PNE ptV at *
  simp only at K1 K2
  have HTB := Lib.hid hT; clear hT ha hi hqi
  have d1 : decide (L < 0) = false := decide_eq_false (by omega)
  have d2 : decide (n ≤ L) = false := decide_eq_false (by omega)
  obtain ⟨s1, hb0, hz0⟩ := one_slot w [.int .i64 x, .int .i64 y] #[.int .i64 x, .int .i64 y] 23 rfl
  go_enter Tryd.func8, Tryd.ntmps8
  go_wp2_with fail
  generalize w.alloc (.cells #[.int .i64 x, .int .i64 y] 23) = V0 at s1 hb0 hz0 ⊢
  have Ha := Lib.hid s1; clear s1
  have HB := Lib.hid hb0; clear hb0
  refine (K1.out _).mono ?_
  clear K1
  rintro e w1 ⟨rfl, bb⟩
  have Ha := Lib.hid (Ha.out.below bb (by omega))
  have HB := Lib.hid (HB.out.trans (bb.mono HB.out.size))
  have hzw1 := bb.size
  clear bb
  obtain ⟨s1, hb1, hz1⟩ := one_slot w1 [.int .i64 q1, .int .i64 q2] #[.int .i64 q1, .int .i64 q2] 23 rfl
  go_wp2_with fail
  generalize w1.alloc (.cells #[.int .i64 q1, .int .i64 q2] 23) = V2 at s1 hb1 hz1 ⊢
  have Ha := Lib.hid (Ha.out.below hb1 (by omega))
  have Hq := Lib.hid s1
  have HB := Lib.hid (HB.out.trans (hb1.mono HB.out.size))
  clear s1 hb1
  have hzV2 := hz1; clear hz1
  refine (K2.out _).mono ?_
  clear K2
  rintro e w3 ⟨rfl, bb⟩
  have Ha := Lib.hid (Ha.out.below bb (by omega))
  have Hq := Lib.hid (Hq.out.below bb (by omega))
  have HB := Lib.hid (HB.out.trans (bb.mono HB.out.size))
  have hzw3 := bb.size
  clear bb
  have lq : w1.heap.size < w3.heap.size := by omega
  have cq0 := Hq.out.c 0 _ rfl
  have cq1 := Hq.out.c 1 _ rfl
  go_wp2_with fail
  clear cq0 cq1
  refine (T1.out w3 (HTB.out.on HB.out)).mono ?_
  clear T1
  rintro e w4 ⟨rfl, bb⟩
  have Ha := Lib.hid (Ha.out.below bb (by omega))
  have Hq := Lib.hid (Hq.out.below bb (by omega))
  have HB := Lib.hid (HB.out.trans (bb.mono HB.out.size))
  have hzw4 := bb.size
  clear bb
  go_wp2_with fail
  go_ret
  exact ⟨rfl, HB.out⟩

set_option maxHeartbeats 3200000 in
theorem widediv_far2 (a : Pt) (n : Int) (w : World) (ha : a.b) (hn : i64b n) (hT : TabB w) (hi : wIs a = true) (hn2 : 1 ≤ n ∧ n ≤ 1000000000) (hq0 : -1000000 ≤ (wOf (wval a / n)).x ∧ (wOf (wval a / n)).x ≤ 1000000) (hn3 : 1000 < n) : Calls Tryd.prog 8 #[ptV a, .int .i64 n] w (fun e w' => e = .returned (.bool true) ∧ Below w.heap.size w w') := by
  obtain ⟨n1, n2⟩ := hn
  have K1 := Lib.hid (fun W => wdiv_any a n W ha ⟨n1, n2⟩)
  rw [show wDiv a n = (wOf (wval a / n), wval a % n, 0) by unfold wDiv; rw [if_pos ⟨hi, hn2.1, hn2.2⟩]] at K1
  have hqi := wdiv_is hi hn2
  have hL0 := Int.emod_nonneg (wval a) (show n ≠ 0 by omega)
  have hL1 := Int.emod_lt_of_pos (wval a) (show 0 < n by omega)
  have K2 := Lib.hid (fun W => is_any (wOf (wval a / n)) W (wIs_b hqi))
  rw [hqi] at K2
  have T1 := Lib.hid (fun W hW => widened_any W hW)
  obtain ⟨⟨q1, q2⟩, hq⟩ : ∃ q, wOf (wval a / n) = q := ⟨_, rfl⟩
  obtain ⟨L, hL⟩ : ∃ L, wval a % n = L := ⟨_, rfl⟩
  rw [hq, hL] at K1
  rw [hq] at K2 hqi
  rw [hL] at hL0 hL1
  rw [hq] at hq0
  simp only at hq0
  have d3 : decide (q1 < -1000000) = false := decide_eq_false (by omega)
  have d4 : decide (1000000 < q1) = false := decide_eq_false (by omega)
  have d5 : decide (1000 < n) = true := decide_eq_true hn3
  clear hq hL
  obtain ⟨x, y⟩ := a
  unfold PNE ptV at *
  simp only at K1 K2
  have HTB := Lib.hid hT; clear hT ha hi hqi
  have d1 : decide (L < 0) = false := decide_eq_false (by omega)
  have d2 : decide (n ≤ L) = false := decide_eq_false (by omega)
  obtain ⟨s1, hb0, hz0⟩ := one_slot w [.int .i64 x, .int .i64 y] #[.int .i64 x, .int .i64 y] 23 rfl
  go_enter Tryd.func8, Tryd.ntmps8
  go_wp2_with fail
  generalize w.alloc (.cells #[.int .i64 x, .int .i64 y] 23) = V0 at s1 hb0 hz0 ⊢
  have Ha := Lib.hid s1; clear s1
  have HB := Lib.hid hb0; clear hb0
  refine (K1.out _).mono ?_
  clear K1
  rintro e w1 ⟨rfl, bb⟩
  have Ha := Lib.hid (Ha.out.below bb (by omega))
  have HB := Lib.hid (HB.out.trans (bb.mono HB.out.size))
  have hzw1 := bb.size
  clear bb
  obtain ⟨s1, hb1, hz1⟩ := one_slot w1 [.int .i64 q1, .int .i64 q2] #[.int .i64 q1, .int .i64 q2] 23 rfl
  go_wp2_with fail
  generalize w1.alloc (.cells #[.int .i64 q1, .int .i64 q2] 23) = V2 at s1 hb1 hz1 ⊢
  have Ha := Lib.hid (Ha.out.below hb1 (by omega))
  have Hq := Lib.hid s1
  have HB := Lib.hid (HB.out.trans (hb1.mono HB.out.size))
  clear s1 hb1
  have hzV2 := hz1; clear hz1
  refine (K2.out _).mono ?_
  clear K2
  rintro e w3 ⟨rfl, bb⟩
  have Ha := Lib.hid (Ha.out.below bb (by omega))
  have Hq := Lib.hid (Hq.out.below bb (by omega))
  have HB := Lib.hid (HB.out.trans (bb.mono HB.out.size))
  have hzw3 := bb.size
  clear bb
  have lq : w1.heap.size < w3.heap.size := by omega
  have cq0 := Hq.out.c 0 _ rfl
  have cq1 := Hq.out.c 1 _ rfl
  go_wp2_with fail
  clear cq0 cq1
  refine (T1.out w3 (HTB.out.on HB.out)).mono ?_
  clear T1
  rintro e w4 ⟨rfl, bb⟩
  have Ha := Lib.hid (Ha.out.below bb (by omega))
  have Hq := Lib.hid (Hq.out.below bb (by omega))
  have HB := Lib.hid (HB.out.trans (bb.mono HB.out.size))
  have hzw4 := bb.size
  clear bb
  go_wp2_with fail
  go_ret
  exact ⟨rfl, HB.out⟩

set_option maxHeartbeats 3200000 in
theorem widediv_near (a : Pt) (n : Int) (w : World) (ha : a.b) (hn : i64b n) (hT : TabB w) (hi : wIs a = true) (hn2 : 1 ≤ n ∧ n ≤ 1000000000) (hq0 : -1000000 ≤ (wOf (wval a / n)).x ∧ (wOf (wval a / n)).x ≤ 1000000) (hn3 : n ≤ 1000) : Calls Tryd.prog 8 #[ptV a, .int .i64 n] w (fun e w' => e = .returned (.bool true) ∧ Below w.heap.size w w') := by
  obtain ⟨n1, n2⟩ := hn
  have K1 := Lib.hid (fun W => wdiv_any a n W ha ⟨n1, n2⟩)
  rw [show wDiv a n = (wOf (wval a / n), wval a % n, 0) by unfold wDiv; rw [if_pos ⟨hi, hn2.1, hn2.2⟩]] at K1
  have hqi := wdiv_is hi hn2
  have hL0 := Int.emod_nonneg (wval a) (show n ≠ 0 by omega)
  have hL1 := Int.emod_lt_of_pos (wval a) (show 0 < n by omega)
  have K2 := Lib.hid (fun W => is_any (wOf (wval a / n)) W (wIs_b hqi))
  rw [hqi] at K2
  have T1 := Lib.hid (fun W hW => widened_any W hW)
  obtain ⟨X, X0, X1, X2, X3⟩ := div_steps hi ⟨hn2.1, hn3⟩ rfl hq0
  have K3 := Lib.hid (fun W => of_any (wval a % n) W (by unfold i64b; omega))
  rw [← X0] at K3
  obtain ⟨⟨q1, q2⟩, hq⟩ : ∃ q, wOf (wval a / n) = q := ⟨_, rfl⟩
  obtain ⟨L, hL⟩ : ∃ L, wval a % n = L := ⟨_, rfl⟩
  rw [hq, hL] at K1
  rw [hq] at K2 hqi
  rw [hL] at hL0 hL1
  rw [hq] at hq0 X1
  simp only at hq0
  have d3 : decide (q1 < -1000000) = false := decide_eq_false (by omega)
  have d4 : decide (1000000 < q1) = false := decide_eq_false (by omega)
  have d5 : decide (1000 < n) = false := decide_eq_false (by omega)
  rw [hL] at K3 X0
  have K4 := Lib.hid (fun (k : Nat) (hk : (k : Int) < n) W g hg => add2_any (X k) ⟨q1, q2⟩ (X2 k (by omega)) (wIs_b hqi) W g hg)
  have HX1 := Lib.hid X1; clear X1
  have HX2 := Lib.hid X2; clear X2
  have HX3 := Lib.hid X3; clear X3
  clear hq hL X0
  obtain ⟨x, y⟩ := a
  unfold PNE ptV at *
  simp only at K1 K2 K3 K4
  have HTB := Lib.hid hT; clear hT ha hi hqi
  have d1 : decide (L < 0) = false := decide_eq_false (by omega)
  have d2 : decide (n ≤ L) = false := decide_eq_false (by omega)
  obtain ⟨s1, hb0, hz0⟩ := one_slot w [.int .i64 x, .int .i64 y] #[.int .i64 x, .int .i64 y] 23 rfl
  go_enter Tryd.func8, Tryd.ntmps8
  go_wp2_with fail
  generalize w.alloc (.cells #[.int .i64 x, .int .i64 y] 23) = V0 at s1 hb0 hz0 ⊢
  have Ha := Lib.hid s1; clear s1
  have HB := Lib.hid hb0; clear hb0
  refine (K1.out _).mono ?_
  clear K1
  rintro e w1 ⟨rfl, bb⟩
  have Ha := Lib.hid (Ha.out.below bb (by omega))
  have HB := Lib.hid (HB.out.trans (bb.mono HB.out.size))
  have hzw1 := bb.size
  clear bb
  obtain ⟨s1, hb1, hz1⟩ := one_slot w1 [.int .i64 q1, .int .i64 q2] #[.int .i64 q1, .int .i64 q2] 23 rfl
  go_wp2_with fail
  generalize w1.alloc (.cells #[.int .i64 q1, .int .i64 q2] 23) = V2 at s1 hb1 hz1 ⊢
  have Ha := Lib.hid (Ha.out.below hb1 (by omega))
  have Hq := Lib.hid s1
  have HB := Lib.hid (HB.out.trans (hb1.mono HB.out.size))
  clear s1 hb1
  have hzV2 := hz1; clear hz1
  refine (K2.out _).mono ?_
  clear K2
  rintro e w3 ⟨rfl, bb⟩
  have Ha := Lib.hid (Ha.out.below bb (by omega))
  have Hq := Lib.hid (Hq.out.below bb (by omega))
  have HB := Lib.hid (HB.out.trans (bb.mono HB.out.size))
  have hzw3 := bb.size
  clear bb
  have lq : w1.heap.size < w3.heap.size := by omega
  have cq0 := Hq.out.c 0 _ rfl
  have cq1 := Hq.out.c 1 _ rfl
  go_wp2_with fail
  clear cq0 cq1
  refine (K3.out _).mono ?_
  clear K3
  rintro e w4 ⟨rfl, bb⟩
  have Ha := Lib.hid (Ha.out.below bb (by omega))
  have Hq := Lib.hid (Hq.out.below bb (by omega))
  have HB := Lib.hid (HB.out.trans (bb.mono HB.out.size))
  have hzw4 := bb.size
  clear bb
  obtain ⟨s1, hb1, hz1⟩ := one_slot w4 [.int .i64 (X 0).x, .int .i64 (X 0).y] #[.int .i64 (X 0).x, .int .i64 (X 0).y] 23 rfl
  go_wp2_with fail
  generalize w4.alloc (.cells #[.int .i64 (X 0).x, .int .i64 (X 0).y] 23) = V5 at s1 hb1 hz1 ⊢
  have Ha := Lib.hid (Ha.out.below hb1 (by omega))
  have Hq := Lib.hid (Hq.out.below hb1 (by omega))
  have Hx := Lib.hid s1
  have HB := Lib.hid (HB.out.trans (hb1.mono HB.out.size))
  clear s1 hb1
  have hzV5 := hz1; clear hz1
  go_loopw [9] (fun i wr => ∃ k : Nat, (k : Int) ≤ n ∧ i = .int .i64 k ∧ Hid (SlotN wr (w.heap.size) [.int .i64 x, .int .i64 y]) ∧ Hid (SlotN wr (w1.heap.size) [.int .i64 q1, .int .i64 q2]) ∧ Hid (SlotN wr (w4.heap.size) [.int .i64 (X k).x, .int .i64 (X k).y]) ∧ Below w.heap.size w wr ∧ V5.heap.size ≤ wr.heap.size) (fun i _ => (n - intOf i).toNat)
  case atStart => exact ⟨0, by omega, rfl, Ha, Hq, Hx, HB.out, Nat.le_refl _⟩
  case round =>
    clear Ha Hq Hx HB
    obtain ⟨k, hk, rfl, Ha, Hq, Hx, hbr, hzr⟩ := hrel
    have HB := Lib.hid hbr; clear hbr
    by_cases hlt : (k : Int) < n
    · have d6 : decide ((k : Int) < n) = true := decide_eq_true hlt
      have K := K4.out k hlt wr _ rfl
      rw [HX1.out k hlt] at K
      simp only at K
      have K5 := Lib.hid K; clear K
      have lx : w4.heap.size < wr.heap.size := by omega
      have cx0 := Hx.out.c 0 _ rfl
      have cx1 := Hx.out.c 1 _ rfl
      have lq : w1.heap.size < wr.heap.size := by omega
      have cq0 := Hq.out.c 0 _ rfl
      have cq1 := Hq.out.c 1 _ rfl
      go_wp2_with fail
      clear cx0 cx1 cq0 cq1
      refine (K5.out ).mono ?_
      clear K5
      rintro e w6 ⟨rfl, bb⟩
      have Ha := Lib.hid (Ha.out.below bb (by omega))
      have Hq := Lib.hid (Hq.out.below bb (by omega))
      have Hx := Lib.hid (Hx.out.below bb (by omega))
      have HB := Lib.hid (HB.out.trans (bb.mono HB.out.size))
      have hzw6 := bb.size
      clear bb
      have hb1 : Below ((w6.setCell ⟨w4.heap.size, 0, none⟩ (.int .i64 (X (k + 1)).x)).setCell ⟨w4.heap.size, 1, none⟩ (.int .i64 (X (k + 1)).y)).heap.size ((w6.setCell ⟨w4.heap.size, 0, none⟩ (.int .i64 (X (k + 1)).x)).setCell ⟨w4.heap.size, 1, none⟩ (.int .i64 (X (k + 1)).y)) (((w6.setCell ⟨w4.heap.size, 0, none⟩ (.int .i64 (X (k + 1)).x)).setCell ⟨w4.heap.size, 1, none⟩ (.int .i64 (X (k + 1)).y)).alloc (.cells #[.int .i64 (X (k + 1)).x, .int .i64 (X (k + 1)).y] 23)) := (Below.refl _ _).alloc (Nat.le_refl _) _
      have hz2 : ((w6.setCell ⟨w4.heap.size, 0, none⟩ (.int .i64 (X (k + 1)).x)).setCell ⟨w4.heap.size, 1, none⟩ (.int .i64 (X (k + 1)).y)).heap.size = w6.heap.size := by simp
      have R1 := Lib.hid (((Ha.out.set_other ⟨w4.heap.size, 0, none⟩ (.int .i64 (X (k + 1)).x) (by simp only; omega)).set_other ⟨w4.heap.size, 1, none⟩ (.int .i64 (X (k + 1)).y) (by simp only; omega)).below hb1 (by omega))
      have R2 := Lib.hid (((Hq.out.set_other ⟨w4.heap.size, 0, none⟩ (.int .i64 (X (k + 1)).x) (by simp only; omega)).set_other ⟨w4.heap.size, 1, none⟩ (.int .i64 (X (k + 1)).y) (by simp only; omega)).below hb1 (by omega))
      have R3 := Lib.hid ((Hx.out.set2 (.int .i64 (X (k + 1)).x) (.int .i64 (X (k + 1)).y)).below hb1 (by omega))
      have R4 := Lib.hid (((HB.out.setCell (p := ⟨w4.heap.size, 0, none⟩) (by simp only; omega) (.int .i64 (X (k + 1)).x)).setCell (p := ⟨w4.heap.size, 1, none⟩) (by simp only; omega) (.int .i64 (X (k + 1)).y)).alloc (by omega) (.cells #[.int .i64 (X (k + 1)).x, .int .i64 (X (k + 1)).y] 23))
      clear hb1 hz2
      have lx : w4.heap.size < w6.heap.size := by omega
      have cx0 := Hx.out.c 0 _ rfl
      have cx1 := Hx.out.c 1 _ rfl
      have fx0 := Hx.out.f 0
      have fx1 := Hx.out.f 1
      go_wp2_with fail
      go_roundw
      case rel => exact ⟨k + 1, by omega, by go_num, R1, R2, R3, R4.out, by simp; omega⟩
      case measure => simp [intOf]; omega
    · have d6 : decide ((k : Int) < n) = false := decide_eq_false hlt
      have hX := HX3.out k (by omega)
      rw [hX] at Hx
      simp only at Hx
      have hwr := hzr
      clear hX hlt
      go_wp2_with fail
      refine (T1.out wr (HTB.out.on HB.out)).mono ?_
      clear T1
      rintro e w6 ⟨rfl, bb⟩
      have Ha := Lib.hid (Ha.out.below bb (by omega))
      have Hq := Lib.hid (Hq.out.below bb (by omega))
      have Hx := Lib.hid (Hx.out.below bb (by omega))
      have HB := Lib.hid (HB.out.trans (bb.mono HB.out.size))
      have hzw6 := bb.size
      clear bb
      have lx : w4.heap.size < w6.heap.size := by omega
      have cx0 := Hx.out.c 0 _ rfl
      have cx1 := Hx.out.c 1 _ rfl
      have la : w.heap.size < w6.heap.size := by omega
      have ca0 := Ha.out.c 0 _ rfl
      have ca1 := Ha.out.c 1 _ rfl
      go_wp2_with fail
      go_ret
      exact ⟨rfl, HB.out⟩

theorem widedivides_any (a : Pt) (n : Int) (w : World) (ha : a.b) (hn : i64b n) (hT : TabB w) : Calls Tryd.prog 8 #[ptV a, .int .i64 n] w (fun e w' => e = .returned (.bool true) ∧ Below w.heap.size w w') := by
  by_cases h : wIs a = false ∨ n < 1 ∨ 1000000000 < n
  · exact widediv_no a n w ha hn hT h
  have hi : wIs a = true := by
    cases e : wIs a with
    | true => rfl
    | false => exact absurd (.inl e) h
  have hn2 : 1 ≤ n ∧ n ≤ 1000000000 := by omega
  by_cases h1 : (wOf (wval a / n)).x < -1000000
  · exact widediv_far0 a n w ha hn hT hi hn2 h1
  by_cases h2 : 1000000 < (wOf (wval a / n)).x
  · exact widediv_far1 a n w ha hn hT hi hn2 h2
  by_cases h3 : 1000 < n
  · exact widediv_far2 a n w ha hn hT hi hn2 (by omega) h3
  · exact widediv_near a n w ha hn hT hi hn2 (by omega) (by omega)
end Go.Proofs.YtcllghcplphijaaDoor
