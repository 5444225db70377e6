/-
  THE STEPS OF limewashref01.Div.
-/
import Derived.Test.YtcllghcplphijaaDoorWideRefD
import Derived.Test.YtcllghcplphijaaDoorWideWalkH
set_option linter.unusedVariables false
set_option linter.unusedSimpArgs false
set_option maxRecDepth 8000
namespace Go.Proofs.YtcllghcplphijaaDoor
open Go.RowKit

/-! ### plain: long division -/
/-- what has been divided when k digits are still to come -/
def DivAt (X n k : Nat) (back : List Int) (left : Nat) : Prop := dOk back ∧ left < n ∧ val back.reverse * n + left = X / 10 ^ k
theorem val_rev_snoc (l : List Int) (d : Int) : val (l ++ [d]).reverse = d.toNat + 10 * val l.reverse := by
  rw [List.reverse_append]; rfl
theorem DivAt.start {X n L : Nat} (hn : 0 < n) (hL : X / 10 ^ L = 0) : DivAt X n L [] 0 := ⟨by simp [dOk], hn, by rw [hL]; simp [val]⟩
theorem DivAt.step {X n j : Nat} {back : List Int} {left : Nat} (h : DivAt X n (j + 1) back left) {t : Nat} (ht : t = 10 * left + dig X j) : DivAt X n j (back ++ [((t / n : Nat) : Int)]) (t % n) := by
  obtain ⟨h1, h2, h3⟩ := h
  have hn : 0 < n := by omega
  have hd := dig_le X j
  have hq : t / n ≤ 9 := by
    have : t / n < 10 := Nat.div_lt_of_lt_mul (by rw [Nat.mul_comm]; omega)
    omega
  refine ⟨fun d hd' => ?_, Nat.mod_lt _ hn, ?_⟩
  · rcases List.mem_append.1 hd' with h | h
    · exact h1 d h
    · rw [List.mem_singleton.1 h]; exact ⟨Int.natCast_nonneg _, Int.ofNat_le.2 hq⟩
  · rw [val_rev_snoc, Int.toNat_natCast, div_pow_step X j, ← h3]
    have e := Nat.div_add_mod t n
    rw [Nat.add_mul, Nat.mul_comm (t / n) n]
    have e2 : 10 * val back.reverse * n = 10 * (val back.reverse * n) := Nat.mul_assoc _ _ _
    rw [e2, Nat.mul_add]
    omega
theorem DivAt.done {X n : Nat} {back : List Int} {left : Nat} (h : DivAt X n 0 back left) : dOk back ∧ val back.reverse = X / n ∧ left = X % n := by
  obtain ⟨h1, h2, h3⟩ := h
  simp at h3
  refine ⟨h1, ?_, ?_⟩
  · rw [← h3, Nat.mul_comm, Nat.add_comm, Nat.add_mul_div_left _ _ (by omega), Nat.div_eq_of_lt h2]; simp
  · rw [← h3, Nat.mul_comm, Nat.add_comm, Nat.add_mul_mod_self_left, Nat.mod_eq_of_lt h2]
theorem floor_side {v n : Int} (hn : 1 ≤ n) {N X : Nat} (hN : n = N) (hX : X = v.natAbs) :
    (v / n = if decide (v < 0) && decide (0 < X % N) then sgn (decide (v < 0)) (X / N) + -1 else sgn (decide (v < 0)) (X / N)) ∧
    (v % n = if decide (v < 0) && decide (0 < X % N) then n - ((X % N : Nat) : Int) else ((X % N : Nat) : Int)) := by
  have hNp : 0 < N := by omega
  have e := Nat.div_add_mod X N
  have hr := Nat.mod_lt X hNp
  generalize X % N = r at *
  generalize X / N = q at *
  have hXi : (X : Int) = n * q + r := by
    have : ((N * q + r : Nat) : Int) = (X : Int) := by rw [e]
    rw [← this, hN]; simp
  by_cases hv : v < 0
  · have hvX : v = -(X : Int) := by omega
    by_cases h0 : 0 < r
    · simp only [hv, h0, decide_true, Bool.and_true, if_true, sgn]
      have e2 : v = (n - r) + n * (-(q : Int) - 1) := by
        rw [hvX, hXi, Int.mul_sub, Int.mul_neg]; omega
      have b1 : 0 ≤ n - (r : Int) ∧ n - (r : Int) < n := by omega
      constructor
      · rw [e2, Int.add_mul_ediv_left _ _ (by omega), Int.ediv_eq_zero_of_lt b1.1 b1.2]; omega
      · rw [e2, Int.add_mul_emod_self_left, Int.emod_eq_of_lt b1.1 b1.2]
    · obtain rfl : r = 0 := by omega
      simp only [hv, decide_true, Bool.true_and, sgn, if_true]
      have e2 : v = n * (-(q : Int)) := by rw [hvX, hXi, Int.mul_neg]; omega
      constructor
      · rw [e2, Int.mul_ediv_cancel_left _ (by omega)]; simp
      · rw [e2, Int.mul_emod_right]; simp
  · have hvX : v = (X : Int) := by omega
    simp only [hv, decide_false, Bool.false_and, Bool.false_eq_true, if_false, sgn]
    constructor
    · rw [hvX, hXi, Int.add_comm, Int.add_mul_ediv_left _ _ (by omega), Int.ediv_eq_zero_of_lt (by omega) (by omega)]; omega
    · rw [hvX, hXi, Int.add_comm, Int.add_mul_emod_self_left, Int.emod_eq_of_lt (by omega) (by omega)]

theorem rdiv_no (a : Pt) (n : Int) (w : World) (ha : a.b) (hn : i64b n) (h : wIs a = false ∨ n < 1 ∨ 1000000000 < n) : Calls Tryd.prog 12 #[ptV a, .int .i64 n] w (PNE w (wDiv a n)) := by
  rw [wdiv_no h]
  obtain ⟨n1, n2⟩ := hn
  have HI := Lib.hid (fun W => ris_any a W ha)
  obtain ⟨x, y⟩ := a
  obtain ⟨i, hi⟩ : ∃ i, wIs ⟨x, y⟩ = i := ⟨_, rfl⟩
  rw [hi] at HI h
  clear hi
  unfold PNE ptV at *
  simp only at HI
  obtain ⟨s1, s2, hb, hz⟩ := two_slots w [.int .i64 x, .int .i64 y] [.int .i64 0, .int .i64 0] #[.int .i64 x, .int .i64 y] #[.int .i64 0, .int .i64 0] 23 23 rfl rfl
  have hc : i = false ∨ i = true ∧ n < 1 ∨ i = true ∧ 1 ≤ n ∧ 1000000000 < n := by
    cases i
    · exact .inl rfl
    · rcases h with h | h | h
      · cases h
      · exact .inr (.inl ⟨rfl, h⟩)
      · exact .inr (.inr ⟨rfl, by omega, h⟩)
  clear h
  rcases hc with rfl | ⟨rfl, h1⟩ | ⟨rfl, h1, h2⟩
  case' inr.inl => have d1 : decide (n < 1) = true := decide_eq_true h1
  case' inr.inr =>
    have d1 : decide (n < 1) = false := decide_eq_false (by omega)
    have d2 : decide (1000000000 < n) = true := decide_eq_true h2
  all_goals
    go_enter Tryd.func12, Tryd.ntmps12
    go_wp2_with fail
    generalize hW : (w.alloc (.cells #[.int .i64 x, .int .i64 y] 23)).alloc (.cells #[.int .i64 0, .int .i64 0] 23) = W at s1 s2 hb hz ⊢
    refine (HI.out W).mono ?_
    clear HI hW
    rintro e w1 ⟨rfl, hb1⟩
    have hb2 := hb.trans (hb1.mono (by omega))
    have r2 := s2.below hb1 (by omega)
    clear s1 s2 hb hb1 hz
    have c0 := r2.c 0 _ rfl
    have c1 := r2.c 1 _ rfl
    have f0 := r2.f 0
    have f1 := r2.f 1
    have S2 := Lib.hid (r2.set2 (.int .i64 0) (.int .i64 0))
    have HB := Lib.hid hb2
    clear r2 hb2
    go_wp2_with fail
    obtain ⟨a0, a1⟩ := (⟨S2.out.c 0 _ rfl, S2.out.c 1 _ rfl⟩ : _ ∧ _)
    refine bodyPost_ret (v := .tuple #[.agg #[.int .i64 0, .int .i64 0], .int .i64 0, .int .i64 1]) (by simp [results, Tryd.results12, go_sem, a0, a1]) rfl ⟨rfl, ?_⟩
    exact (HB.out.setCell (by simp) _).setCell (by simp) _

attribute [local go_sem ↓] Go.wp_at_zero Go.wp_at_succ
set_option maxHeartbeats 3200000 in
theorem rdiv_yes (a : Pt) (n : Int) (w : World) (ha : a.b) (hi : wIs a = true) (hn : 1 ≤ n ∧ n ≤ 1000000000) : Calls Tryd.prog 12 #[ptV a, .int .i64 n] w (PNE w (wDiv a n)) := by
  have hd : wDiv a n = (wOf (wval a / n), wval a % n, 0) := by unfold wDiv; rw [if_pos ⟨hi, hn.1, hn.2⟩]
  rw [hd]
  clear hd
  obtain ⟨i0, hi0, hz0, hz1, hz2⟩ := info_parts size_int'
  have HI := Lib.hid (fun W => ris_any a W ha)
  have hqi := wdiv_is hi hn
  rw [hi] at HI
  obtain ⟨b, e0⟩ : ∃ b, b = decide (wval a < 0) := ⟨_, rfl⟩
  have hf := wval_few ha
  have K0 := Lib.hid (fun W => number_b a b W ha e0)
  obtain ⟨N, hN⟩ : ∃ N : Nat, n = N := ⟨n.toNat, by omega⟩
  obtain ⟨X, hX⟩ : ∃ X, X = (wval a).natAbs := ⟨_, rfl⟩
  obtain ⟨f1, f2⟩ := floor_side hn.1 hN hX
  rw [← e0] at f1 f2
  have hX40 : X < 10 ^ 40 := by
    have hv : wval a = a.x * 1000000000000000000 + a.y := rfl
    unfold Pt.b i64b at ha
    omega
  generalize wval a = z at *
  obtain ⟨Q, hQ⟩ : ∃ Q, Q = z / n := ⟨_, rfl⟩
  obtain ⟨R, hR⟩ : ∃ R, R = z % n := ⟨_, rfl⟩
  rw [← hQ] at f1 hqi ⊢
  rw [← hR] at f2 ⊢
  have hNn : 1 ≤ N ∧ N ≤ 1000000000 := by omega
  have HF1 := Lib.hid f1; clear f1
  have HF2 := Lib.hid f2; clear f2
  have HE0 := Lib.hid e0; clear e0
  have HQI := Lib.hid hqi; clear hqi
  obtain ⟨⟨u, v⟩, hu⟩ : ∃ p, wOf Q = p := ⟨_, rfl⟩
  rw [hu]
  have HU := Lib.hid hu; clear hu
  clear hQ hR hf hi
  subst hN
  have d1 : decide ((N : Int) < 1) = false := decide_eq_false (by omega)
  have d2 : decide ((1000000000 : Int) < (N : Int)) = false := decide_eq_false (by omega)
  obtain ⟨x, y⟩ := a
  unfold PNE ptV at *
  simp only at HI K0
  obtain ⟨s1, s2, hb, hz⟩ := two_slots w [.int .i64 x, .int .i64 y] [.int .i64 0, .int .i64 0] #[.int .i64 x, .int .i64 y] #[.int .i64 0, .int .i64 0] 23 23 rfl rfl
  go_enter Tryd.func12, Tryd.ntmps12
  go_wp2_with fail
  generalize hW : (w.alloc (.cells #[.int .i64 x, .int .i64 y] 23)).alloc (.cells #[.int .i64 0, .int .i64 0] 23) = W at s1 s2 hb hz ⊢
  refine (HI.out W).mono ?_
  clear HI hW
  rintro e w1 ⟨rfl, hb1⟩
  have HB := Lib.hid (hb.trans (hb1.mono (by omega)))
  have r0 := s1.below hb1 (by omega)
  have H2 := Lib.hid (s2.below hb1 (by omega))
  have hz1' := hb1.size
  have c0 := r0.c 0 _ rfl
  have c1 := r0.c 1 _ rfl
  have hzw : w.heap.size + 2 ≤ w1.heap.size := by omega
  clear s1 s2 hb hb1 hz r0 hz1'
  go_wp2_with fail
  refine (K0.out w1).mono ?_
  clear K0 c0 c1
  rintro e w2 ⟨A, m, c, rfl, hN, hp, bb⟩
  have HB := Lib.hid (HB.out.trans (bb.mono HB.out.size))
  have H2 := Lib.hid (H2.out.below bb (by omega))
  obtain ⟨s1, hb, hz⟩ := one_slot w2 [.bool b, .slice A m c] #[.bool b, .slice A m c] 48 rfl
  have hz2' := bb.size
  clear bb hp
  have hm1 : m ≤ 1000 := hN.few (Nat.lt_of_lt_of_le (show z.natAbs < 10 ^ 40 by rw [← hX]; exact hX40) (Nat.pow_le_pow_right (by decide) (by decide)))
  have hlen := Lib.hid hN.len
  have hrow0 := hN.row
  rw [← hX] at hlen hrow0
  have H0 : Hid (X / 10 ^ m = 0) := Lib.hid (div_pow_len (by rw [hlen.out]; omega))
  have k0 := s1.c 0 _ rfl
  have k1 := s1.c 1 _ rfl
  go_wp2_with fail
  clear k0 k1
  generalize w2.alloc (.cells #[.bool b, .slice A m c] 48) = V at s1 hb hz ⊢
  have HB := Lib.hid (HB.out.trans (hb.mono HB.out.size))
  have H2 := Lib.hid (H2.out.below hb (by omega))
  have hrow := hrow0.below (b := w2.heap.size) hb (Nat.le_refl _)
  have H7 := Lib.hid s1
  have hzV : w2.heap.size < V.heap.size := by omega
  have hzw2 : w.heap.size + 2 ≤ w2.heap.size := by omega
  clear s1 hb hz hrow0 hN hX
  go_loopw [8, 9, 10] (fun bk lf i wr => ∃ (k l : Nat) (q : Int) (back : List Int) (left : Nat), l + k = m ∧ q = (k : Int) - 1 ∧ i = .int .i64 q ∧ lf = .int .i64 left ∧ wr.ownsRow V.heap.size 3 1 bk l (cellsI back) ∧ Hid (DivAt X N k back left) ∧ Below V.heap.size V wr) (fun _ _ i _ => (intOf i + 1).toNat)
  case atStart => exact ⟨m, 0, _, [], 0, by omega, rfl, rfl, rfl, World.ownsRow_nil _ _ _ _, Lib.hid (DivAt.start (by omega) H0.out), Below.refl _ _⟩
  case round =>
    obtain ⟨k, l, q, back, left, hkl, hq, rfl, rfl, hown, hD, hbk⟩ := hrel
    have hzr := hbk.size
    rcases Nat.eq_zero_or_pos k with rfl | hk0
    · have t0 : decide ((0 : Int) ≤ q) = false := decide_eq_false (by omega)
      have hq1 : q < 0 := by omega
      obtain rfl : l = m := by omega
      obtain ⟨A', c', rfl⟩ := own_shape hown
      obtain ⟨hdk, hvl, hlf⟩ := hD.out.done
      have HD := Lib.hid hdk; clear hdk
      have HV := Lib.hid hvl; clear hvl
      have HLF := Lib.hid hlf; clear hlf hD
      have hlB := hown.1
      rw [cellsI_length] at hlB
      have HLB : Hid (back.length = l) := Lib.hid (by omega)
      have hIb : Hid (Ints wr wr.heap.size A' l back) := Lib.hid (Ints.of_own hown (fun d hd => by have := HD.out d hd; omega) (by omega))
      have H2 := Lib.hid (H2.out.below hbk (by omega))
      have H7 := Lib.hid (H7.out.below hbk hzV)
      have HB := Lib.hid (HB.out.trans (hbk.mono HB.out.size))
      have hleft : left ≤ 1000000000 := by have := HLF.out; have := Nat.mod_lt X (show 0 < N by omega); omega
      clear hown hlB hq hbk
      go_wp2_with fail
      generalize wr = W1 at *
      go_loopw [11, 12] (fun dv i wr => ∃ (k l2 : Nat) (q : Int), l2 + k = l ∧ q = (k : Int) - 1 ∧ i = .int .i64 q ∧ wr.ownsRow W1.heap.size 3 1 dv l2 (cellsI (back.drop k).reverse) ∧ Below W1.heap.size W1 wr) (fun _ i _ => (intOf i + 1).toNat)
      case atStart => exact ⟨l, 0, _, by omega, rfl, rfl, by rw [List.drop_of_length_le (by rw [HLB.out]; omega)]; exact World.ownsRow_nil _ _ _ _, Below.refl _ _⟩
      case round =>
        obtain ⟨k, l2, q2, hkl, hq, rfl, hown, hbk⟩ := hrel
        have hzr2 := hbk.size
        rcases Nat.eq_zero_or_pos k with rfl | hk0
        · have t1 : decide ((0 : Int) ≤ q2) = false := decide_eq_false (by omega)
          have hq3 : q2 < 0 := by omega
          obtain rfl : l2 = l := by omega
          obtain ⟨A2, c2, rfl⟩ := own_shape hown
          have hrv : dOk back.reverse := fun d hd => HD.out d (by simpa using hd)
          have HI2 := Ints.of_own hown (fun d hd => by have := hrv d (by simpa using hd); omega) (by omega)
          have T0 := trim_any wr.heap.size b A2 l2 c2 back.reverse wr HI2 (Nat.le_refl _) (own_cap hown) hrv
          rw [HV.out] at T0
          obtain ⟨Q0, hQ0⟩ : ∃ q, q = sgn b (X / N) := ⟨_, rfl⟩
          rw [← hQ0] at T0
          have hQ40 : Q0.natAbs < 10 ^ 40 := by rw [hQ0, sgn_abs]; exact Nat.lt_of_le_of_lt (Nat.div_le_self _ _) hX40
          obtain ⟨b5, e5⟩ : ∃ b, b = decide (Q0 < 0) := ⟨_, rfl⟩
          obtain ⟨b6, e6⟩ : ∃ b, b = decide (Q < 0) := ⟨_, rfl⟩
          obtain ⟨bm, em⟩ : ∃ b, b = decide ((-1 : Int) < 0) := ⟨_, rfl⟩
          have T : Hid (Calls Tryd.prog 33 #[.bool b, .slice A2 l2 c2] wr fun e w' => ∃ n', e = .returned (.agg #[.bool b5, .slice A2 n' c2]) ∧ NumAt w' w'.heap.size A2 n' c2 Q0 ∧ Below wr.heap.size wr w') := Lib.hid (by
            refine T0.mono ?_
            rintro e w' ⟨n', rfl, h1, h2⟩
            exact ⟨n', by rw [e5], h1.more h2.size, h2⟩)
          have O1 := Lib.hid (fun W => ofint_b (-1) bm W (by unfold i64b; omega) em)
          have hQ1 : Q = Q0 ∨ Q = Q0 + -1 := by
            have := HF1.out
            rw [← hQ0] at this
            split at this
            · exact .inr this
            · exact .inl this
          have hQf : Q.natAbs < 10 ^ 41 := by omega
          have K4 : Hid (∀ (W : World) A n c, NumAt W W.heap.size A n c Q → Calls Tryd.prog 35 #[.agg #[.bool b6, .slice A n c]] W (PB W (wOf Q) true)) := Lib.hid fun W A n c h => by
            have hx5 : Q.natAbs < 5000000000000000000000000000000000000 := by
              rcases Nat.lt_or_ge Q.natAbs 5000000000000000000000000000000000000 with h | h
              · exact h
              · have := wIs_far h; rw [HQI.out] at this; cases this
            have := rwide_yes W.heap.size A n c Q b6 W h (Nat.le_refl _) (h.few (Nat.lt_of_lt_of_le hQf (Nat.pow_le_pow_right (by decide) (by decide)))) hx5 e6
            rwa [HQI.out] at this
          have HB := Lib.hid (HB.out.trans (hbk.mono HB.out.size))
          have H2 := Lib.hid (H2.out.below hbk (by omega))
          have H7 := Lib.hid (H7.out.below hbk (by omega))
          rw [HU.out] at K4
          clear hown HI2 T0 hrv hbk HQI hQf
          have q0 := H7.out.c 0 _ rfl
          have q1 := H7.out.c 1 _ rfl
          have lz : w2.heap.size < wr.heap.size := by omega
          unfold PB ptV at K4
          simp only at K4
          go_wp2_with fail
          refine T.out.mono ?_
          clear T
          rintro e w3 ⟨n', rfl, hN3, bb⟩
          have HB := Lib.hid (HB.out.trans (bb.mono HB.out.size))
          have H2 := Lib.hid (H2.out.below bb (by omega))
          have H7 := Lib.hid (H7.out.below bb (by omega))
          have hz3' := bb.size
          have HN3 := Lib.hid hN3
          clear bb hN3 q0 q1
          obtain ⟨s1, hb, hz⟩ := one_slot w3 [.bool b5, .slice A2 n' c2] #[.bool b5, .slice A2 n' c2] 48 rfl
          have q0 := H7.out.c 0 _ rfl
          have lz3 : w2.heap.size < w3.heap.size := by omega
          by_cases hG : (b && decide (0 < X % N)) = true
          · have hG' : b = true ∧ 0 < left := by
              simp only [Bool.and_eq_true, decide_eq_true_eq] at hG
              exact ⟨hG.1, by rw [HLF.out]; exact hG.2⟩
            obtain ⟨rfl, hlp⟩ := hG'
            have hQQ := HF1.out
            rw [if_pos hG, ← hQ0] at hQQ
            have hRR := HF2.out
            rw [if_pos hG, ← HLF.out] at hRR
            have g1 : decide ((0 : Int) < (left : Int)) = true := decide_eq_true (by omega)
            have SM := Lib.hid (fun W A1 n1 c1 A2 n2 c2 (h1 : NumAt W W.heap.size A1 n1 c1 Q0) (h2 : NumAt W W.heap.size A2 n2 c2 (-1)) => sum_b A1 A2 n1 c1 n2 c2 Q0 (-1) b5 bm b6 W h1 h2 (h1.few (Nat.lt_of_lt_of_le hQ40 (Nat.pow_le_pow_right (by decide) (by decide)))) (h2.few64 (by unfold i64b; omega)) e5 em (by rw [e6, hQQ]))
            rw [← hQQ] at SM
            have hlN : left ≤ N := by have := HLF.out; have := Nat.mod_lt X (show 0 < N by omega); omega
            subst hRR
            clear hG e5 e6 em hQ1 hQ0 hQQ
            go_wp2_with fail
            generalize w3.alloc (.cells #[.bool b5, .slice A2 n' c2] 48) = V4 at s1 hb hz ⊢
            have HB := Lib.hid (HB.out.trans (hb.mono HB.out.size))
            have H2 := Lib.hid (H2.out.below hb (by omega))
            have HN4 := Lib.hid ((HN3.out.below hb (Nat.le_refl _)).more hb.size)
            have S3 := Lib.hid s1
            have k0 := s1.c 0 _ rfl
            have k1 := s1.c 1 _ rfl
            have lz4 : w3.heap.size < V4.heap.size := by omega
            clear hb s1 hz q0
            (go_region_with (first
              | (go_at_call 30; refine (O1.out _).mono ?_; clear O1; rintro e w6 ⟨A1, n1, c1, rfl, hN1, hp1, hx1⟩; have hby : Below V4.heap.size V4 w6 := (Below.refl _ V4).drew.trans (hx1.mono (by simp)); (have k2 := hby.cell (p := ⟨w3.heap.size, 0, none⟩) (by (try dsimp only); omega)); (have k3 := hby.cell (p := ⟨w3.heap.size, 1, none⟩) (by (try dsimp only); omega)); rw [k0] at k2; rw [k1] at k3)
              | (go_at_call 34; refine (SM.out _ _ _ _ _ _ _ ((HN4.out.below hby (Nat.le_refl _)).more hby.size) hN1).mono ?_; clear SM; rintro e w7 ⟨A5, n5, c5, rfl, hN5, hp5, hx5⟩; have hz6 := hby.size; have hby : Below V4.heap.size V4 w7 := hby.trans (hx5.mono hby.size); have y0 := (S3.out.below hby (by omega)).c 0 _ rfl; have y1 := (S3.out.below hby (by omega)).c 1 _ rfl; have y2 := (S3.out.below hby (by omega)).f 0; have y3 := (S3.out.below hby (by omega)).f 1)))
            all_goals
              have HB := Lib.hid (HB.out.trans (hby.mono HB.out.size))
              have H2 := Lib.hid (H2.out.below hby (by omega))
              have S3 := Lib.hid (S3.out.below hby (by omega))
              have HN5 := Lib.hid hN5
              have HP5 := Lib.hid hp5
              have hz7 := hby.size
              clear hby hx1 hN1 hp1 hN5 hp5
              have S8 := S3.out.set2 (.bool b6) (.slice A5 n5 c5)
              have HN8 := Lib.hid ((HN5.out.set ⟨w3.heap.size, 0, none⟩ (.bool b6) (fun ad e h0 => by have := HP5.out ad e h0; simp only; omega)).set ⟨w3.heap.size, 1, none⟩ (.slice A5 n5 c5) (fun ad e h0 => by have := HP5.out ad e h0; simp only; omega))
              have H28 := Lib.hid ((H2.out.set_other ⟨w3.heap.size, 0, none⟩ (.bool b6) (by simp only; omega)).set_other ⟨w3.heap.size, 1, none⟩ (.slice A5 n5 c5) (by simp only; omega))
              have HB8 := Lib.hid ((HB.out.setCell (p := ⟨w3.heap.size, 0, none⟩) (by simp only; omega) (.bool b6)).setCell (p := ⟨w3.heap.size, 1, none⟩) (by simp only; omega) (.slice A5 n5 c5))
              have hz8 : ((w7.setCell ⟨w3.heap.size, 0, none⟩ (.bool b6)).setCell ⟨w3.heap.size, 1, none⟩ (.slice A5 n5 c5)).heap.size = w7.heap.size := by simp
              rw [← hz8] at HN8
              clear H2 HB S3 HN5 HP5
              generalize (w7.setCell ⟨w3.heap.size, 0, none⟩ (.bool b6)).setCell ⟨w3.heap.size, 1, none⟩ (.slice A5 n5 c5) = W8 at *
              have k0 := S8.c 0 _ rfl
              have k1 := S8.c 1 _ rfl
              clear S8
              go_wp2_with fail
              refine (K4.out W8 _ _ _ HN8.out).mono ?_
              rintro e w5 ⟨rfl, bb⟩
              have HB := Lib.hid (HB8.out.trans (bb.mono HB8.out.size))
              have H2 := Lib.hid (H28.out.below bb (by omega))
              have hz5 := bb.size
              have l1 : w.heap.size + 1 < w5.heap.size := by omega
              have c0 := H2.out.c 0 _ rfl
              have c1 := H2.out.c 1 _ rfl
              have f0 := H2.out.f 0
              have f1 := H2.out.f 1
              clear bb k0 k1
              go_wp2_with fail
              have S4 := (H2.out.set2 (.int .i64 u) (.int .i64 v)).below ((Below.refl (w5.heap.size) _).alloc (by simp) (.cells #[.int .i64 u, .int .i64 v] 23)) l1
              have a0 := S4.c 0 _ rfl
              have a1 := S4.c 1 _ rfl
              refine bodyPost_ret (v := .tuple #[.agg #[.int .i64 u, .int .i64 v], .int .i64 ((N : Int) - (left : Int)), .int .i64 0]) (by simp [results, Tryd.results12, go_sem, a0, a1]) rfl ⟨rfl, ?_⟩
              exact ((HB.out.setCell (by simp only; omega) _).setCell (by simp only; omega) _).alloc (by simp; omega) _
          · have hG' : b = false ∨ b = true ∧ left = 0 := by
              cases b
              · exact .inl rfl
              · refine .inr ⟨rfl, ?_⟩
                rw [HLF.out]
                simp only [Bool.true_and, decide_eq_true_eq] at hG
                omega
            have hQQ := HF1.out
            rw [if_neg hG, ← hQ0] at hQQ
            have hRR := HF2.out
            rw [if_neg hG, ← HLF.out] at hRR
            subst hQQ
            subst hRR
            obtain rfl : b6 = b5 := by rw [e6, e5]
            have g1 : decide ((0 : Int) < (left : Int)) = true ∨ decide ((0 : Int) < (left : Int)) = false := by cases decide ((0 : Int) < (left : Int)) <;> simp
            clear hG e5 e6 em hQ1 hQ0 O1
            rcases hG' with rfl | ⟨rfl, rfl⟩
            all_goals
              go_wp2_with fail
              generalize w3.alloc (.cells #[.bool b6, .slice A2 n' c2] 48) = V4 at s1 hb hz ⊢
              have HB := Lib.hid (HB.out.trans (hb.mono HB.out.size))
              have H2 := Lib.hid (H2.out.below hb (by omega))
              have HN4 := Lib.hid ((HN3.out.below hb (Nat.le_refl _)).more hb.size)
              clear hb s1
              refine (K4.out V4 _ _ _ HN4.out).mono ?_
              rintro e w5 ⟨rfl, bb⟩
              have HB := Lib.hid (HB.out.trans (bb.mono HB.out.size))
              have H2 := Lib.hid (H2.out.below bb (by omega))
              have hz5 := bb.size
              have l1 : w.heap.size + 1 < w5.heap.size := by omega
              have c0 := H2.out.c 0 _ rfl
              have c1 := H2.out.c 1 _ rfl
              have f0 := H2.out.f 0
              have f1 := H2.out.f 1
              clear bb
              go_wp2_with fail
              have S4 := (H2.out.set2 (.int .i64 u) (.int .i64 v)).below ((Below.refl (w5.heap.size) _).alloc (by simp) (.cells #[.int .i64 u, .int .i64 v] 23)) l1
              have a0 := S4.c 0 _ rfl
              have a1 := S4.c 1 _ rfl
            · refine bodyPost_ret (v := .tuple #[.agg #[.int .i64 u, .int .i64 v], .int .i64 left, .int .i64 0]) (by simp [results, Tryd.results12, go_sem, a0, a1]) rfl ⟨rfl, ?_⟩
              exact ((HB.out.setCell (by simp only; omega) _).setCell (by simp only; omega) _).alloc (by simp; omega) _
            · refine bodyPost_ret (v := .tuple #[.agg #[.int .i64 u, .int .i64 v], .int .i64 0, .int .i64 0]) (by simp [results, Tryd.results12, go_sem, a0, a1]) rfl ⟨rfl, ?_⟩
              exact ((HB.out.setCell (by simp only; omega) _).setCell (by simp only; omega) _).alloc (by simp; omega) _
        · obtain ⟨j, rfl⟩ : ∃ j, k = j + 1 := ⟨k - 1, by omega⟩
          have hq1' : (0 : Int) ≤ q2 := by omega
          have hq2' : q2 < (l : Int) := by omega
          have hq3' : q2.toNat = j := by omega
          have HQ : Hid (q2 - 1 = (j : Int) - 1) := Lib.hid (by omega)
          have HQ2 : Hid (q2 = (j : Int)) := Lib.hid (by omega)
          have t1 : decide ((0 : Int) ≤ q2) = true := decide_eq_true hq1'
          obtain ⟨ad, d, rfl, hb, hx, hm', hc, hdl, hdh⟩ := (hIb.out.below hbk (Nat.le_refl _)).get (k := j) (by omega)
          have HDR : Hid ((back.drop j).reverse = (back.drop (j + 1)).reverse ++ [d]) := Lib.hid (by rw [drop_cons' _ _ _ hx]; simp)
          have hbk4 : ∀ j, u11.ownBlock = some j → W1.heap.size ≤ j := fun j hj => (hown.lt j hj).1
          clear hq hx hm'
          go_wp2_with (at_builtin; refine wpList_append_lies _ rfl (.tmp 62) (.tmp 67) _ rfl W1.heap.size 3 i0 _ 1 8 Tryd.underlying46 hi0 hz0 hz1 hz2 rfl (by decide) _ l2 (cellsI (back.drop (j + 1)).reverse) rfl (hown.alloc _) ⟨wr.heap.size, 0, none⟩ 1 1 [.int .i64 _] rfl rfl (World.news_of_block (heap_alloc_new _ _)) (by simp [Value.oneCell']) (by decide) (by unfold maxLen; omega) (by omega) (by simp; omega) _ rfl ?_; intro g4 cap4 w4 hown4 hgr4 hat4 hlt4)
          refine ⟨⟨j, l2 + 1, q2 - 1, by omega, HQ.out, rfl, by rw [HDR.out]; simpa [cellsI] using hown4, (hbk.alloc hbk.size _).grown hgr4 (by simp; omega) (fun j hj => hbk4 j hj)⟩, ?_⟩
          simp only [intOf]; have := HQ2.out; omega
    · obtain ⟨j, rfl⟩ : ∃ j, k = j + 1 := ⟨k - 1, by omega⟩
      obtain ⟨t, ht⟩ : ∃ t, t = 10 * left + dig X j := ⟨_, rfl⟩
      have HST := Lib.hid (hD.out.step ht)
      have hd9 := dig_le X j
      have hlf := hD.out.2.1
      have hq1 : (0 : Int) ≤ q := by omega
      have hq2 : q < (m : Int) := by omega
      have hq3 : q.toNat = j := by omega
      have HQ : Hid (q - 1 = (j : Int) - 1) := Lib.hid (by omega)
      have HQ2 : Hid (q = (j : Int)) := Lib.hid (by omega)
      have t0 : decide ((0 : Int) ≤ q) = true := decide_eq_true hq1
      obtain ⟨ad, d, rfl, hb, hx, hm', hc, _, _⟩ := (hrow.below hbk (Nat.le_of_lt hzV)).get (k := j) (by omega)
      have hd : d = dig X j := by rw [digs_get _ _ (by rw [hlen.out]; omega)] at hx; injection hx with hx; exact hx.symm
      subst hd
      have E1 : Hid ((10 * (left : Int) + (dig X j : Int)) / (N : Int) = ((t / N : Nat) : Int)) := Lib.hid (by rw [ht]; simp)
      have E2 : Hid ((10 * (left : Int) + (dig X j : Int)) % (N : Int) = ((t % N : Nat) : Int)) := Lib.hid (by rw [ht]; simp)
      clear hq hx hm' ht
      generalize dig X j = dg at *
      have s7 := H7.out.below hbk hzV
      have q0 := s7.c 0 _ rfl
      have q1 := s7.c 1 _ rfl
      have hbk4 : ∀ j, u8.ownBlock = some j → V.heap.size ≤ j := fun j hj => (hown.lt j hj).1
      clear s7
      go_wp2_with (at_builtin; refine wpList_append_lies _ rfl (.tmp 46) (.tmp 50) _ rfl V.heap.size 3 i0 _ 1 8 Tryd.underlying46 hi0 hz0 hz1 hz2 rfl (by decide) _ l (cellsI back) rfl (hown.alloc _) ⟨wr.heap.size, 0, none⟩ 1 1 [.int .i64 _] rfl rfl (World.news_of_block (heap_alloc_new _ _)) (by simp [Value.oneCell']) (by decide) (by unfold maxLen; omega) (by omega) (by simp; omega) _ rfl ?_; intro g4 cap4 w4 hown4 hgr4 hat4 hlt4)
      have HST2 : Hid (DivAt X N j (back ++ [(10 * (left : Int) + (dg : Int)) / (N : Int)]) (t % N)) := Lib.hid (by rw [E1.out]; exact HST.out)
      refine ⟨⟨j, l + 1, q - 1, _, t % N, by omega, HQ.out, rfl, by rw [E2.out], by simpa [cellsI] using hown4, HST2, (hbk.alloc hbk.size _).grown hgr4 (by simp; omega) (fun j hj => hbk4 j hj)⟩, ?_⟩
      simp only [intOf]; have := HQ2.out; omega

theorem rdiv_any (a : Pt) (n : Int) (w : World) (ha : a.b) (hn : i64b n) : Calls Tryd.prog 12 #[ptV a, .int .i64 n] w (PNE w (wDiv a n)) := by
  by_cases h : wIs a = false ∨ n < 1 ∨ 1000000000 < n
  · exact rdiv_no a n w ha hn h
  · have hi : wIs a = true := by
      cases e : wIs a with
      | true => rfl
      | false => exact absurd (.inl e) h
    exact rdiv_yes a n w ha hi (by omega)
end Go.Proofs.YtcllghcplphijaaDoor
