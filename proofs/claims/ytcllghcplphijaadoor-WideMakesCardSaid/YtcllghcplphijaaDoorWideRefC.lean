/-
  THE STEPS OF limewashref01.Mul, Neg, Cmp.
-/
import Derived.Test.YtcllghcplphijaaDoorWideRefB
import Derived.Test.YtcllghcplphijaaDoorWideLawD
set_option linter.unusedVariables false
set_option linter.unusedSimpArgs false
set_option maxRecDepth 8000
namespace Go.Proofs.YtcllghcplphijaaDoor
open Go.RowKit

theorem mul_bds {n m : Int} (hn : -1000000000000000000 ≤ n ∧ n ≤ 1000000000000000000) (hm : -1000000000000000000 ≤ m ∧ m ≤ 1000000000000000000) :
    -1000000000000000000000000000000000000 ≤ n * m ∧ n * m ≤ 1000000000000000000000000000000000000 := by
  have h : (n * m).natAbs ≤ 1000000000000000000 * 1000000000000000000 := by
    rw [Int.natAbs_mul]; exact Nat.mul_le_mul (by omega) (by omega)
  omega

set_option maxHeartbeats 1600000 in
theorem rmul_yes {a b : Int} (w : World) (ha : -1000000000000000000 ≤ a ∧ a ≤ 1000000000000000000) (hb : -1000000000000000000 ≤ b ∧ b ≤ 1000000000000000000) :
    Calls Tryd.prog 21 #[.int .i64 a, .int .i64 b] w (PE w (wMul a b)) := by
  have hm := mul_bds ha hb
  have ba : i64b a := by unfold i64b; omega
  have bb' : i64b b := by unfold i64b; omega
  have e : wMul a b = wTold (a * b) := by
    unfold wMul wTold
    rw [if_pos ⟨ha.1, ha.2, hb.1, hb.2⟩, if_pos (wOf_is (by omega))]
  rw [e]
  clear e
  obtain ⟨b1, e1⟩ : ∃ b, b = decide (a < 0) := ⟨_, rfl⟩
  obtain ⟨b2, e2⟩ : ∃ c, c = decide (b < 0) := ⟨_, rfl⟩
  obtain ⟨b3, e3⟩ : ∃ c, c = decide (a * b < 0) := ⟨_, rfl⟩
  have K1 := Lib.hid (fun W => ofint_b a b1 W ba e1)
  have K2 := Lib.hid (fun W => ofint_b b b2 W bb' e2)
  have K3 := Lib.hid (fun W A1 n1 c1 A2 n2 c2 (h1 : NumAt W W.heap.size A1 n1 c1 a) (h2 : NumAt W W.heap.size A2 n2 c2 b) => times_b A1 A2 n1 c1 n2 c2 a b b1 b2 b3 W h1 h2 (h1.few64 ba) (h2.few64 bb') e1 e2 e3)
  have K4 := Lib.hid (fun W A n c (h : NumAt W W.heap.size A n c (a * b)) => told_b (a * b) b3 e3 (Nat.lt_of_lt_of_le (show (a * b).natAbs < 10 ^ 40 by omega) (Nat.pow_le_pow_right (by decide) (by decide))) W A n c h)
  have d1 : decide (a < -1000000000000000000) = false := decide_eq_false (by omega)
  have d2 : decide (1000000000000000000 < a) = false := decide_eq_false (by omega)
  have d3 : decide (b < -1000000000000000000) = false := decide_eq_false (by omega)
  have d4 : decide (1000000000000000000 < b) = false := decide_eq_false (by omega)
  clear e1 e2 e3 hm ba bb'
  generalize a * b = ab at *
  obtain ⟨⟨⟨u, v⟩, er⟩, hr⟩ : ∃ r, wTold ab = r := ⟨_, rfl⟩
  rw [hr] at K4 ⊢
  clear hr
  unfold PE ptV at *
  simp only at K4 ⊢
  obtain ⟨s1, hb0, hz0⟩ := one_slot w [.int .i64 0, .int .i64 0] #[.int .i64 0, .int .i64 0] 23 rfl
  go_enter Tryd.func21, Tryd.ntmps21
  go_wp2_with fail
  generalize w.alloc (.cells #[.int .i64 0, .int .i64 0] 23) = V at s1 hb0 hz0 ⊢
  have HB := Lib.hid hb0; clear hb0
  have H2 := Lib.hid s1; clear s1
  refine (K1.out V).mono ?_
  clear K1
  rintro e w1 ⟨A1, n1, c1, rfl, hN1, hp1, bb⟩
  have H2 := Lib.hid (H2.out.below bb (by omega))
  have HB := Lib.hid (HB.out.trans (bb.mono HB.out.size))
  have hz1 := bb.size
  have HN1 := Lib.hid hN1
  clear bb hp1 hN1
  go_wp2_with fail
  refine (K2.out w1).mono ?_
  clear K2
  rintro e w2 ⟨A2, n2, c2, rfl, hN2, hp2, bb⟩
  have H2 := Lib.hid (H2.out.below bb (by omega))
  have HB := Lib.hid (HB.out.trans (bb.mono HB.out.size))
  have hz2 := bb.size
  have HN1 := Lib.hid ((HN1.out.below bb (Nat.le_refl _)).more bb.size)
  have HN2 := Lib.hid hN2
  clear bb hp2 hN2
  go_wp2_with fail
  refine (K3.out w2 _ _ _ _ _ _ HN1.out HN2.out).mono ?_
  clear K3 HN1 HN2
  rintro e w3 ⟨A3, n3, c3, rfl, hN3, hp3, bb⟩
  have H2 := Lib.hid (H2.out.below bb (by omega))
  have HB := Lib.hid (HB.out.trans (bb.mono HB.out.size))
  have hz3 := bb.size
  have HN3 := Lib.hid hN3
  clear bb hp3 hN3
  go_wp2_with fail
  refine (K4.out w3 _ _ _ HN3.out).mono ?_
  clear K4 HN3
  rintro e w4 ⟨rfl, bb⟩
  have H2 := Lib.hid (H2.out.below bb (by omega))
  have HB := Lib.hid (HB.out.trans (bb.mono HB.out.size))
  have hz4 := bb.size
  clear bb
  have l1 : w.heap.size < w4.heap.size := by omega
  have c0 := H2.out.c 0 _ rfl
  have c1 := H2.out.c 1 _ rfl
  have f0 := H2.out.f 0
  have f1 := H2.out.f 1
  go_wp2_with fail
  have S4 := (H2.out.set2 (.int .i64 u) (.int .i64 v)).below ((Below.refl (w4.heap.size) _).alloc (by simp) (.cells #[.int .i64 u, .int .i64 v] 23)) l1
  have a0 := S4.c 0 _ rfl
  have a1 := S4.c 1 _ rfl
  refine bodyPost_ret (v := .tuple #[.agg #[.int .i64 u, .int .i64 v], .int .i64 er]) (by simp [results, Tryd.results21, go_sem, a0, a1]) rfl ⟨rfl, ?_⟩
  exact ((HB.out.setCell (by simp only; omega) _).setCell (by simp only; omega) _).alloc (by simp; omega) _
theorem rmul_any (a b : Int) (w : World) : Calls Tryd.prog 21 #[.int .i64 a, .int .i64 b] w (PE w (wMul a b)) := by
  by_cases h : (-1000000000000000000 ≤ a ∧ a ≤ 1000000000000000000) ∧ -1000000000000000000 ≤ b ∧ b ≤ 1000000000000000000
  · exact rmul_yes w h.1 h.2
  · exact rmul_no w (by omega)

theorem other_b (x : Int) (b b' : Bool) (w : World) (A : Option Addr) (n c : Nat) (h : NumAt w w.heap.size A n c x) (hb : b = decide (x < 0)) (hb' : b' = decide (-x < 0)) :
    Calls Tryd.prog 44 #[.agg #[.bool b, .slice A n c]] w fun e w' => ∃ n', e = .returned (.agg #[.bool b', .slice A n' c]) ∧ NumAt w' w'.heap.size A n' c (-x) ∧ Below w.heap.size w w' := by
  subst hb
  refine (other_any w.heap.size A n c x w h (Nat.le_refl _)).mono ?_
  rintro e w' ⟨n', rfl, h1, h2⟩
  exact ⟨n', by rw [hb'], h1.more h2.size, h2⟩

set_option maxHeartbeats 1600000 in
theorem rneg_any (a : Pt) (w : World) (ha : a.b) : Calls Tryd.prog 25 #[ptV a] w (PE w (wNeg a)) := by
  have HI := Lib.hid (fun W => ris_any a W ha)
  obtain ⟨b1, e1⟩ : ∃ b, b = decide (wval a < 0) := ⟨_, rfl⟩
  obtain ⟨b2, e2⟩ : ∃ b, b = decide (-wval a < 0) := ⟨_, rfl⟩
  have hf : (wval a).natAbs < 10 ^ 40 := by
    have hv : wval a = a.x * 1000000000000000000 + a.y := rfl
    unfold Pt.b i64b at ha
    omega
  have hf2 : (-wval a).natAbs < 10 ^ 100 := by
    rw [Int.natAbs_neg]
    exact Nat.lt_of_lt_of_le hf (Nat.pow_le_pow_right (by decide) (by decide))
  have K1 := Lib.hid (fun W => number_b a b1 W ha e1)
  have K2 := Lib.hid (fun W A n c (h : NumAt W W.heap.size A n c (wval a)) => other_b (wval a) b1 b2 W A n c h e1 e2)
  have K3 := Lib.hid (fun W A n c (h : NumAt W W.heap.size A n c (-wval a)) => told_b (-wval a) b2 e2 hf2 W A n c h)
  obtain ⟨i, hi⟩ : ∃ i, wIs a = i := ⟨_, rfl⟩
  rw [hi] at HI
  have e : wNeg a = if i then wTold (-wval a) else (⟨0, 0⟩, 1) := by unfold wNeg; rw [hi]
  rw [e]
  clear e1 e2 hf hf2 hi e
  generalize -wval a = z at *
  generalize wval a = z0 at *
  obtain ⟨x, y⟩ := a
  obtain ⟨⟨⟨u, v⟩, er⟩, hr⟩ : ∃ r, wTold z = r := ⟨_, rfl⟩
  rw [hr] at K3 ⊢
  clear hr
  unfold PE ptV at *
  simp only at HI K1 K3 ⊢
  obtain ⟨s1, s2, hb0, hz0⟩ := two_slots w [.int .i64 x, .int .i64 y] [.int .i64 0, .int .i64 0] #[.int .i64 x, .int .i64 y] #[.int .i64 0, .int .i64 0] 23 23 rfl rfl
  cases i with
  | false =>
    simp only [Bool.false_eq_true, if_false]
    go_enter Tryd.func25, Tryd.ntmps25
    go_wp2_with fail
    generalize (w.alloc (.cells #[.int .i64 x, .int .i64 y] 23)).alloc (.cells #[.int .i64 0, .int .i64 0] 23) = V at s1 s2 hb0 hz0 ⊢
    refine (HI.out V).mono ?_
    clear HI
    rintro e w1 ⟨rfl, bb⟩
    have H2 := Lib.hid (s2.below bb (by omega))
    have HB := Lib.hid (hb0.trans (bb.mono hb0.size))
    have c0 := H2.out.c 0 _ rfl
    have c1 := H2.out.c 1 _ rfl
    have f0 := H2.out.f 0
    have f1 := H2.out.f 1
    clear s1 s2 bb hb0
    go_wp2_with fail
    have S4 := H2.out.set2 (.int .i64 0) (.int .i64 0)
    have a0 := S4.c 0 _ rfl
    have a1 := S4.c 1 _ rfl
    refine bodyPost_ret (v := .tuple #[.agg #[.int .i64 0, .int .i64 0], .int .i64 1]) (by simp [results, Tryd.results25, go_sem, a0, a1]) rfl ⟨rfl, ?_⟩
    exact (HB.out.setCell (by simp only; omega) _).setCell (by simp only; omega) _
  | true =>
    simp only [if_true]
    go_enter Tryd.func25, Tryd.ntmps25
    go_wp2_with fail
    generalize (w.alloc (.cells #[.int .i64 x, .int .i64 y] 23)).alloc (.cells #[.int .i64 0, .int .i64 0] 23) = V at s1 s2 hb0 hz0 ⊢
    refine (HI.out V).mono ?_
    clear HI
    rintro e w1 ⟨rfl, bb⟩
    have H1 := Lib.hid (s1.below bb (by omega))
    have H2 := Lib.hid (s2.below bb (by omega))
    have HB := Lib.hid (hb0.trans (bb.mono hb0.size))
    have hz1 := bb.size
    have c0 := H1.out.c 0 _ rfl
    have c1 := H1.out.c 1 _ rfl
    clear s1 s2 bb hb0
    go_wp2_with fail
    refine (K1.out w1).mono ?_
    clear K1 c0 c1
    rintro e w2 ⟨A1, n1, c1, rfl, hN1, hp1, bb⟩
    have H2 := Lib.hid (H2.out.below bb (by omega))
    have HB := Lib.hid (HB.out.trans (bb.mono HB.out.size))
    have hz2 := bb.size
    have HN1 := Lib.hid hN1
    clear bb hp1 hN1
    go_wp2_with fail
    refine (K2.out w2 _ _ _ HN1.out).mono ?_
    clear K2 HN1
    rintro e w3 ⟨n2, rfl, hN2, bb⟩
    have H2 := Lib.hid (H2.out.below bb (by omega))
    have HB := Lib.hid (HB.out.trans (bb.mono HB.out.size))
    have hz3 := bb.size
    have HN2 := Lib.hid hN2
    clear bb hN2
    go_wp2_with fail
    refine (K3.out w3 _ _ _ HN2.out).mono ?_
    clear K3 HN2
    rintro e w4 ⟨rfl, bb⟩
    have H2 := Lib.hid (H2.out.below bb (by omega))
    have HB := Lib.hid (HB.out.trans (bb.mono HB.out.size))
    have hz4 := bb.size
    clear bb
    have l1 : w.heap.size + 1 < w4.heap.size := by omega
    have c0 := H2.out.c 0 _ rfl
    have c1 := H2.out.c 1 _ rfl
    have f0 := H2.out.f 0
    have f1 := H2.out.f 1
    go_wp2_with fail
    have S4 := (H2.out.set2 (.int .i64 u) (.int .i64 v)).below ((Below.refl (w4.heap.size) _).alloc (by simp) (.cells #[.int .i64 u, .int .i64 v] 23)) l1
    have a0 := S4.c 0 _ rfl
    have a1 := S4.c 1 _ rfl
    refine bodyPost_ret (v := .tuple #[.agg #[.int .i64 u, .int .i64 v], .int .i64 er]) (by simp [results, Tryd.results25, go_sem, a0, a1]) rfl ⟨rfl, ?_⟩
    exact ((HB.out.setCell (by simp only; omega) _).setCell (by simp only; omega) _).alloc (by simp; omega) _

/-- the order, by definition -/
theorem rcmp_any (a b : Pt) (w : World) (ha : a.b) (hb : b.b) :
    Calls Tryd.prog 15 #[ptV a, ptV b] w fun e w' => e = .returned (.int .i64 (wCmp a b)) ∧ Below w.heap.size w w' := by
  obtain ⟨x, y⟩ := a
  obtain ⟨p, q⟩ := b
  unfold ptV
  simp only
  obtain ⟨s1, s2, hb0, hz⟩ := two_slots w [.int .i64 x, .int .i64 y] [.int .i64 p, .int .i64 q] #[.int .i64 x, .int .i64 y] #[.int .i64 p, .int .i64 q] 23 23 rfl rfl
  have HB := Lib.hid hb0; clear hb0 s1 s2
  obtain ⟨r, hr⟩ : ∃ r, r = wCmp ⟨x, y⟩ ⟨p, q⟩ := ⟨_, rfl⟩
  rw [← hr]
  unfold wCmp at hr
  simp only [Pt.mk.injEq] at hr
  have hcase : x < p ∧ r = -1 ∨ x = p ∧ y < q ∧ r = -1 ∨ x = p ∧ y = q ∧ r = 0 ∨ x = p ∧ q < y ∧ r = 1 ∨ p < x ∧ r = 1 := by
    rw [hr]
    by_cases e : x = p ∧ y = q
    · rw [if_pos e]; omega
    · rw [if_neg e]
      by_cases h1 : x < p
      · rw [if_pos h1]; omega
      · rw [if_neg h1]
        by_cases h2 : p < x
        · rw [if_pos h2]; omega
        · rw [if_neg h2]
          by_cases h3 : y < q
          · rw [if_pos h3]; omega
          · rw [if_neg h3]; omega
  clear hr
  rcases hcase with ⟨h1, rfl⟩ | ⟨rfl, h2, rfl⟩ | ⟨rfl, rfl, rfl⟩ | ⟨rfl, h2, rfl⟩ | ⟨h1, rfl⟩
  case' inl => have d1 : decide (x < p) = true := decide_eq_true h1
  case' inr.inl => have d2 : decide (y < q) = true := decide_eq_true h2
  case' inr.inr.inr.inl =>
    have d2 : decide (y < q) = false := decide_eq_false (by omega)
    have d3 : (y == q) = false := by simp; omega
  case' inr.inr.inr.inr =>
    have d1 : decide (x < p) = false := decide_eq_false (by omega)
    have d3 : (x == p) = false := by simp; omega
  all_goals
    go_enter Tryd.func15, Tryd.ntmps15
    go_wp2_with fail
    go_ret
    exact ⟨rfl, HB.out⟩
end Go.Proofs.YtcllghcplphijaaDoor
