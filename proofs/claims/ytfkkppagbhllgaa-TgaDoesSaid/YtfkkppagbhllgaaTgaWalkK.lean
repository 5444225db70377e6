/-
  THE STEPS OF tga.form, Is.
-/
import Derived.Test.YtfkkppagbhllgaaTgaWalkJ
set_option linter.unusedVariables false
set_option linter.unusedSimpArgs false
set_option maxRecDepth 8000
namespace Go.Proofs.Ytfkkppagbhllgaa
open Go.RowKit

theorem form_iff (w h b mn mx : Int) (h1 : mn = if h < w then h else w) (h2 : mx = if h > w then h else w) : formT w h b = (decide (1 ≤ mn) && decide (mx ≤ 256) && (b == 24 || b == 32)) := by
  unfold formT
  rw [Bool.eq_iff_iff]
  simp only [Bool.and_eq_true, Bool.or_eq_true, decide_eq_true_eq, beq_iff_eq]
  subst h1; subst h2
  split <;> split <;> omega
theorem form_any (p q b : Int) (A : Option Addr) (n c : Nat) (w : World) :
    Calls Try.prog 45 #[imV p q b A n c] w fun e w' => e = .returned (.bool (formT p q b)) ∧ Below w.heap.size w w' := by
  obtain ⟨mn, hmn⟩ : ∃ m, m = if q < p then q else p := ⟨_, rfl⟩
  obtain ⟨mx, hmx⟩ : ∃ m, m = if q > p then q else p := ⟨_, rfl⟩
  rw [form_iff p q b mn mx hmn hmx]
  have HMN : ∀ ts ty W, (Builtin.min_ ts ty #[.int .i64 p, .int .i64 q]).run Try.prog W = .ok (.int .i64 mn) W := fun ts ty W => by rw [run_min_int2, hmn]
  have HMX : ∀ ts ty W, (Builtin.max_ ts ty #[.int .i64 p, .int .i64 q]).run Try.prog W = .ok (.int .i64 mx) W := fun ts ty W => by rw [run_max_int2, hmx]
  clear hmn hmx
  have hbx := SlotN.new w [.int .i64 p, .int .i64 q, .int .i64 b, .slice A n c] #[.int .i64 p, .int .i64 q, .int .i64 b, .slice A n c] 24 rfl
  have hb : Below w.heap.size w (w.alloc (.cells #[.int .i64 p, .int .i64 q, .int .i64 b, .slice A n c] 24)) := (Below.refl _ _).alloc (Nat.le_refl _) _
  have c0 := hbx.c 0 _ rfl
  have c1 := hbx.c 1 _ rfl
  have c2 := hbx.c 2 _ rfl
  unfold imV
  clear hbx
  by_cases h1 : 1 ≤ mn
  · have t1 : decide (1 ≤ mn) = true := decide_eq_true h1
    rw [t1]
    by_cases h2 : mx ≤ 256
    · have t2 : decide (mx ≤ 256) = true := decide_eq_true h2
      rw [t2]
      by_cases h3 : b = 24
      · subst h3
        clear h1 h2
        go_enter Try.func45, Try.ntmps45
        go_wp2_with fail
        all_goals
          go_ret
          exact ⟨rfl, hb⟩
      · have t3 : (b == 24) = false := by simpa using h3
        rw [t3]
        by_cases h4 : b = 32
        · subst h4
          clear h1 h2 h3
          go_enter Try.func45, Try.ntmps45
          go_wp2_with fail
          all_goals
            go_ret
            exact ⟨rfl, hb⟩
        · have t4 : (b == 32) = false := by simpa using h4
          rw [t4]
          clear h1 h2 h3 h4
          go_enter Try.func45, Try.ntmps45
          go_wp2_with fail
          all_goals
            go_ret
            exact ⟨rfl, hb⟩
    · have t2 : decide (mx ≤ 256) = false := decide_eq_false h2
      rw [t2]
      clear h1 h2
      go_enter Try.func45, Try.ntmps45
      go_wp2_with fail
      all_goals
        go_ret
        exact ⟨rfl, hb⟩
  · have t1 : decide (1 ≤ mn) = false := decide_eq_false h1
    rw [t1]
    clear h1
    go_enter Try.func45, Try.ntmps45
    go_wp2_with fail
    all_goals
      go_ret
      exact ⟨rfl, hb⟩
theorem mul_bd {p q z : Nat} (h1 : p ≤ 256) (h2 : q ≤ 256) (hz : z ≤ 4) : p * q ≤ 65536 ∧ p * q * (8 * z) ≤ 2097152 := by
  have a : p * q ≤ 256 * 256 := Nat.mul_le_mul h1 h2
  have b : p * q * (8 * z) ≤ 65536 * 32 := Nat.mul_le_mul a (by omega)
  omega
theorem is_any (p q b : Int) (A : Option Addr) (n c : Nat) (w : World) (hn : n ≤ 9223372036854775807) :
    Calls Try.prog 22 #[imV p q b A n c] w fun e w' => e = .returned (.bool (isT p q b n)) ∧ Below w.heap.size w w' := by
  have KF := Lib.hid (fun W => form_any p q b A n c W)
  have hbx := SlotN.new w [.int .i64 p, .int .i64 q, .int .i64 b, .slice A n c] #[.int .i64 p, .int .i64 q, .int .i64 b, .slice A n c] 24 rfl
  have hb : Below w.heap.size w (w.alloc (.cells #[.int .i64 p, .int .i64 q, .int .i64 b, .slice A n c] 24)) := (Below.refl _ _).alloc (Nat.le_refl _) _
  have c0 := hbx.c 0 _ rfl
  have c1 := hbx.c 1 _ rfl
  have c2 := hbx.c 2 _ rfl
  have c3 := hbx.c 3 _ rfl
  have hz1 : w.heap.size < (w.alloc (.cells #[.int .i64 p, .int .i64 q, .int .i64 b, .slice A n c] 24)).heap.size := by simp
  unfold imV at *
  cases hf : formT p q b with
  | false =>
    have e : isT p q b n = false := by unfold isT; rw [hf]; rfl
    rw [e]
    rw [hf] at KF
    clear e hf
    go_enter Try.func22, Try.ntmps22
    go_wp2_with fail
    refine (KF.out _).mono ?_
    clear KF
    rintro e w1 ⟨rfl, hb1⟩
    have HB := Lib.hid (hb.trans (hb1.mono hb.size))
    clear hb1 c0 c1 c2 c3
    go_wp2_with fail
    all_goals
      go_ret
      exact ⟨rfl, HB.out⟩
  | true =>
    rw [hf] at KF
    have hf2 := hf
    unfold formT at hf2
    rw [decide_eq_true_iff] at hf2
    obtain ⟨g1, g2, g3, g4, g5⟩ := hf2
    obtain ⟨p, rfl⟩ : ∃ k : Nat, p = k := ⟨p.toNat, by omega⟩
    obtain ⟨q, rfl⟩ : ∃ k : Nat, q = k := ⟨q.toNat, by omega⟩
    obtain ⟨z, hz, rfl⟩ : ∃ k : Nat, (k = 3 ∨ k = 4) ∧ b = ((8 * k : Nat) : Int) := by
      rcases g5 with rfl | rfl
      · exact ⟨3, .inl rfl, rfl⟩
      · exact ⟨4, .inr rfl, rfl⟩
    have hbd := mul_bd (p := p) (q := q) (z := z) (by omega) (by omega) (by omega)
    have e : isT p q ((8 * z : Nat) : Int) n = decide ((n : Int) = ((p * q * z : Nat) : Int)) := by
      unfold isT
      rw [hf, Bool.true_and]
      have : (((8 * z : Nat) : Int)) / 8 = (z : Int) := by omega
      rw [this]; simp
    rw [e]
    have em : (p : Int) * (q : Int) = ((p * q : Nat) : Int) := by simp
    have em2 : ((p * q : Nat) : Int) * ((8 * z : Nat) : Int) = ((p * q * (8 * z) : Nat) : Int) := by simp
    have td : ((p * q * (8 * z) : Nat) : Int).tdiv 8 = ((p * q * z : Nat) : Int) := by
      rw [Int.tdiv_eq_ediv_of_nonneg (by omega)]
      have : p * q * (8 * z) = 8 * (p * q * z) := by rw [Nat.mul_left_comm]
      rw [this]; omega
    have e9 : decide ((n : Int) = ((p * q * z : Nat) : Int)) = ((n : Int) == ((p * q * z : Nat) : Int)) := by rw [Bool.eq_iff_iff]; simp
    rw [e9]
    obtain ⟨X, hX⟩ : ∃ X : Nat, X = p * q := ⟨_, rfl⟩
    obtain ⟨Y, hY⟩ : ∃ Y : Nat, Y = p * q * (8 * z) := ⟨_, rfl⟩
    obtain ⟨T, hT⟩ : ∃ T : Nat, T = p * q * z := ⟨_, rfl⟩
    rw [← hX] at em em2
    rw [← hY] at td hbd
    rw [hX, ← hY, ← hX] at em2
    rw [← hT] at td
    rw [← hX] at hbd
    rw [← hT]
    have hT2 : T ≤ Y := by rw [hT, hY]; exact Nat.mul_le_mul_left _ (by omega)
    obtain ⟨hbd1, hbd2⟩ := hbd
    clear e e9 hf hX hY hT hz g5
    generalize ((8 * z : Nat) : Int) = zz at *
    go_enter Try.func22, Try.ntmps22
    go_wp2_with fail
    refine (KF.out _).mono ?_
    clear KF
    rintro e w1 ⟨rfl, hb1⟩
    have HB := Lib.hid (hb.trans (hb1.mono hb.size))
    have hs := hbx.below hb1 (by omega)
    clear c0 c1 c2 c3
    have c0 := hs.c 0 _ rfl
    have c1 := hs.c 1 _ rfl
    have c2 := hs.c 2 _ rfl
    have c3 := hs.c 3 _ rfl
    clear hb1 hs hbx
    go_wp2_with fail
    go_ret
    exact ⟨rfl, HB.out⟩
end Go.Proofs.Ytfkkppagbhllgaa
