/-
  THE STEPS OF wide.Mul, its factors within the base.
-/
import Derived.Test.YtcllghcplphijaaDoorWideWalkF
set_option linter.unusedVariables false
set_option linter.unusedSimpArgs false
namespace Go.Proofs.YtcllghcplphijaaDoor
open Go.RowKit

set_option maxHeartbeats 1600000 in
theorem wmul_core (a b X Y : Int) (w : World) (ba : -1000000000000000000 ≤ a ∧ a ≤ 1000000000000000000) (bb : -1000000000000000000 ≤ b ∧ b ≤ 1000000000000000000)
    (cA : a < 0 ∧ a < -a ∧ X = -a ∨ 0 ≤ a ∧ -a ≤ a ∧ X = a) (cB : b < 0 ∧ b < -b ∧ Y = -b ∨ 0 ≤ b ∧ -b ≤ b ∧ Y = b) (hX : 0 ≤ X ∧ X ≤ 1000000000000000000) (hY : 0 ≤ Y ∧ Y ≤ 1000000000000000000) :
    Calls Tryd.prog 20 #[.int .i64 a, .int .i64 b] w (PE w (if decide (a < 0) = decide (b < 0) then (wOf (X * Y), 0) else wNeg (wOf (X * Y)))) := by
  have dag : decide (1000000000000000000 < a) = false := decide_eq_false (by omega)
  have dbg : decide (1000000000000000000 < b) = false := decide_eq_false (by omega)
  have dal : decide (a < -1000000000000000000) = false := decide_eq_false (by omega)
  have dbl : decide (b < -1000000000000000000) = false := decide_eq_false (by omega)
  have HX := Lib.hid (fun W => halves_any X W hX)
  have HY := Lib.hid (fun W => halves_any Y W hY)
  obtain ⟨p, hp⟩ : ∃ p, p = X % 1000000000 * (Y % 1000000000) := ⟨_, rfl⟩
  obtain ⟨q, hq⟩ : ∃ q, q = X / 1000000000 * (Y % 1000000000) := ⟨_, rfl⟩
  obtain ⟨r, hr⟩ : ∃ r, r = X % 1000000000 * (Y / 1000000000) := ⟨_, rfl⟩
  obtain ⟨s, hs⟩ : ∃ s, s = X / 1000000000 * (Y / 1000000000) := ⟨_, rfl⟩
  obtain ⟨m, hm⟩ : ∃ m, m = (q + r) % 1000000000 := ⟨_, rfl⟩
  obtain ⟨⟨p1, p2⟩, ⟨q1, q2⟩, ⟨r1, r2⟩, ⟨s1, s2⟩, ⟨m1, m2⟩, hw⟩ := wmul_parts hX hY hp hq hr hs hm
  rw [hw]
  clear hw
  generalize X / 1000000000 = x0 at *
  generalize X % 1000000000 = x1 at *
  generalize Y / 1000000000 = y0 at *
  generalize Y % 1000000000 = y1 at *
  obtain ⟨u, hu⟩ : ∃ u, u = (q + r) / 1000000000 := ⟨_, rfl⟩
  obtain ⟨g, hg⟩ : ∃ g, g = (p + m * 1000000000) / 1000000000000000000 := ⟨_, rfl⟩
  obtain ⟨l, hl⟩ : ∃ l, l = (p + m * 1000000000) % 1000000000000000000 := ⟨_, rfl⟩
  have e1 := hp.symm
  have e2 := hq.symm
  have e3 := hr.symm
  have e4 := hs.symm
  have t1 : (q + r).tdiv 1000000000 = u := by rw [Int.tdiv_eq_ediv_of_nonneg (by omega), hu]
  have t2 : (q + r).tmod 1000000000 = m := by rw [Int.tmod_eq_emod_of_nonneg (by omega), hm]
  have t3 : (p + m * 1000000000).tdiv 1000000000000000000 = g := by rw [Int.tdiv_eq_ediv_of_nonneg (by omega), hg]
  have t4 : (p + m * 1000000000).tmod 1000000000000000000 = l := by rw [Int.tmod_eq_emod_of_nonneg (by omega), hl]
  rw [← hu, ← hg, ← hl]
  have bu : 0 ≤ u ∧ u ≤ 1999999998 := by omega
  have bg : 0 ≤ g ∧ g ≤ 1 := by omega
  have bl : 0 ≤ l ∧ l < 1000000000000000000 := by omega
  obtain ⟨bu1, bu2⟩ := bu
  obtain ⟨bg1, bg2⟩ := bg
  obtain ⟨bl1, bl2⟩ := bl
  have HN := Lib.hid (fun W => wneg_any ⟨s + u + g, l⟩ W ⟨⟨by simp only; omega, by simp only; omega⟩, ⟨by simp only; omega, by simp only; omega⟩⟩)
  unfold PE ptV at *
  simp only at HN
  generalize wNeg ⟨s + u + g, l⟩ = R at HN ⊢
  obtain ⟨⟨rx, ry⟩, re⟩ := R
  simp only at HN
  clear hp hq hr hs hm hu hg hl
  obtain ⟨c1, hb, hz⟩ := one_slot w [.int .i64 0, .int .i64 0] #[.int .i64 0, .int .i64 0] 23 rfl
  obtain ⟨ba1, ba2⟩ := ba
  obtain ⟨bb1, bb2⟩ := bb
  obtain ⟨hX1, hX2⟩ := hX
  obtain ⟨hY1, hY2⟩ := hY
  have ho : a < b ∨ b < a ∨ a = b := by omega
  rcases cA with ⟨na, cA, eX⟩ | ⟨na, cA, eX⟩
  · have da : decide (a < 0) = true := decide_eq_true (by omega)
    rcases cB with ⟨nb, cB, eY⟩ | ⟨nb, cB, eY⟩
    · have db : decide (b < 0) = true := decide_eq_true (by omega)
      rw [da, db, if_pos rfl]
      rcases ho with ho | ho | ho
      all_goals first | (exfalso; omega) | skip
      all_goals first | subst ho | skip
      all_goals subst eX
      all_goals first | subst eY | skip
      all_goals
        go_enter Tryd.func20, Tryd.ntmps20
        go_wp2_with fail
        refine (HX.out _).mono ?_
        clear HX
        rintro e w1 ⟨rfl, hb1⟩
        have r1 := c1.below hb1 (by simp)
        have hb2 := hb.trans (hb1.mono (by simp))
        have hz1 := hb1.size
        simp at hz1
        clear c1 hb hz hb1
        have C1 := Lib.hid r1
        have HB1 := Lib.hid hb2
        clear r1 hb2
        go_wp2_with fail
        refine (HY.out _).mono ?_
        clear HY
        rintro e w2 ⟨rfl, hb1⟩
        have r1 := C1.out.below hb1 (by omega)
        have HB2 := Lib.hid (HB1.out.trans (hb1.mono (by omega)))
        have hz2 := hb1.size
        have hzw : w.heap.size + 1 ≤ w2.heap.size := by omega
        have r2 := r1.below ((Below.refl (w.heap.size + 1) w2).alloc hzw (.cells #[.int .i64 x0, .int .i64 x1] 54)) (by omega)
        have r3 := r2.below ((Below.refl (w.heap.size + 1) _).alloc (by simp; omega) (.cells #[.int .i64 y0, .int .i64 y1] 54)) (by omega)
        have r4 := r3.below ((Below.refl (w.heap.size + 1) _).alloc (by simp; omega) (.cells #[.int .i64 (s + u + g), .int .i64 l] 23)) (by omega)
        have HB3 := Lib.hid (((HB2.out.alloc (by omega) (.cells #[.int .i64 x0, .int .i64 x1] 54)).alloc (by simp; omega) (.cells #[.int .i64 y0, .int .i64 y1] 54)).alloc (by simp; omega) (.cells #[.int .i64 (s + u + g), .int .i64 l] 23))
        have SR := Lib.hid r4
        have k0 := r4.c 0 _ rfl
        have k1 := r4.c 1 _ rfl
        have f0 := r4.f 0
        have f1 := r4.f 1
        clear C1 HB1 hb1 hz1 hz2 r1 r2 r3 r4
        go_wp2_with fail
        have S2 := SR.out.set2 (.int .i64 (s + u + g)) (.int .i64 l)
        have a0 := S2.c 0 _ rfl
        have a1 := S2.c 1 _ rfl
        refine bodyPost_ret (v := .tuple #[.agg #[.int .i64 (s + u + g), .int .i64 l], .int .i64 0]) (by simp [results, Tryd.results20, go_sem, a0, a1]) rfl ⟨rfl, ?_⟩
        exact (HB3.out.setCell (by simp) _).setCell (by simp) _
    · have db : decide (b < 0) = false := decide_eq_false (by omega)
      rw [da, db, if_neg (by decide)]
      rcases ho with ho | ho | ho
      all_goals first | (exfalso; omega) | skip
      all_goals first | subst ho | skip
      all_goals subst eX
      all_goals first | subst eY | skip
      all_goals
        go_enter Tryd.func20, Tryd.ntmps20
        go_wp2_with fail
        refine (HX.out _).mono ?_
        clear HX
        rintro e w1 ⟨rfl, hb1⟩
        have r1 := c1.below hb1 (by simp)
        have hb2 := hb.trans (hb1.mono (by simp))
        have hz1 := hb1.size
        simp at hz1
        clear c1 hb hz hb1
        have C1 := Lib.hid r1
        have HB1 := Lib.hid hb2
        clear r1 hb2
        go_wp2_with fail
        refine (HY.out _).mono ?_
        clear HY
        rintro e w2 ⟨rfl, hb1⟩
        have r1 := C1.out.below hb1 (by omega)
        have HB2 := Lib.hid (HB1.out.trans (hb1.mono (by omega)))
        have hz2 := hb1.size
        have hzw : w.heap.size + 1 ≤ w2.heap.size := by omega
        have r2 := r1.below ((Below.refl (w.heap.size + 1) w2).alloc hzw (.cells #[.int .i64 x0, .int .i64 x1] 54)) (by omega)
        have r3 := r2.below ((Below.refl (w.heap.size + 1) _).alloc (by simp; omega) (.cells #[.int .i64 y0, .int .i64 y1] 54)) (by omega)
        have r4 := r3.below ((Below.refl (w.heap.size + 1) _).alloc (by simp; omega) (.cells #[.int .i64 (s + u + g), .int .i64 l] 23)) (by omega)
        have HB3 := Lib.hid (((HB2.out.alloc (by omega) (.cells #[.int .i64 x0, .int .i64 x1] 54)).alloc (by simp; omega) (.cells #[.int .i64 y0, .int .i64 y1] 54)).alloc (by simp; omega) (.cells #[.int .i64 (s + u + g), .int .i64 l] 23))
        have SR := Lib.hid r4
        have k0 := r4.c 0 _ rfl
        have k1 := r4.c 1 _ rfl
        have f0 := r4.f 0
        have f1 := r4.f 1
        clear C1 HB1 hb1 hz1 hz2 r1 r2 r3 r4
        go_wp2_with fail
        refine (HN.out _).mono ?_
        clear HN
        rintro e w3 ⟨rfl, hb1⟩
        have r5 := SR.out.below hb1 (by simp; omega)
        have HB4 := Lib.hid (HB3.out.trans (hb1.mono (by simp; omega)))
        clear k0 k1 f0 f1 SR HB3 hb1
        have k0 := r5.c 0 _ rfl
        have k1 := r5.c 1 _ rfl
        have f0 := r5.f 0
        have f1 := r5.f 1
        have S2 := Lib.hid (r5.set2 (.int .i64 rx) (.int .i64 ry))
        clear r5
        go_wp2_with fail
        obtain ⟨a0, a1⟩ := (⟨S2.out.c 0 _ rfl, S2.out.c 1 _ rfl⟩ : _ ∧ _)
        refine bodyPost_ret (v := .tuple #[.agg #[.int .i64 rx, .int .i64 ry], .int .i64 re]) (by simp [results, Tryd.results20, go_sem, a0, a1]) rfl ⟨rfl, ?_⟩
        exact (HB4.out.setCell (by simp) _).setCell (by simp) _
  · have da : decide (a < 0) = false := decide_eq_false (by omega)
    rcases cB with ⟨nb, cB, eY⟩ | ⟨nb, cB, eY⟩
    · have db : decide (b < 0) = true := decide_eq_true (by omega)
      rw [da, db, if_neg (by decide)]
      rcases ho with ho | ho | ho
      all_goals first | (exfalso; omega) | skip
      all_goals first | subst ho | skip
      all_goals subst eX
      all_goals first | subst eY | skip
      all_goals
        go_enter Tryd.func20, Tryd.ntmps20
        go_wp2_with fail
        refine (HX.out _).mono ?_
        clear HX
        rintro e w1 ⟨rfl, hb1⟩
        have r1 := c1.below hb1 (by simp)
        have hb2 := hb.trans (hb1.mono (by simp))
        have hz1 := hb1.size
        simp at hz1
        clear c1 hb hz hb1
        have C1 := Lib.hid r1
        have HB1 := Lib.hid hb2
        clear r1 hb2
        go_wp2_with fail
        refine (HY.out _).mono ?_
        clear HY
        rintro e w2 ⟨rfl, hb1⟩
        have r1 := C1.out.below hb1 (by omega)
        have HB2 := Lib.hid (HB1.out.trans (hb1.mono (by omega)))
        have hz2 := hb1.size
        have hzw : w.heap.size + 1 ≤ w2.heap.size := by omega
        have r2 := r1.below ((Below.refl (w.heap.size + 1) w2).alloc hzw (.cells #[.int .i64 x0, .int .i64 x1] 54)) (by omega)
        have r3 := r2.below ((Below.refl (w.heap.size + 1) _).alloc (by simp; omega) (.cells #[.int .i64 y0, .int .i64 y1] 54)) (by omega)
        have r4 := r3.below ((Below.refl (w.heap.size + 1) _).alloc (by simp; omega) (.cells #[.int .i64 (s + u + g), .int .i64 l] 23)) (by omega)
        have HB3 := Lib.hid (((HB2.out.alloc (by omega) (.cells #[.int .i64 x0, .int .i64 x1] 54)).alloc (by simp; omega) (.cells #[.int .i64 y0, .int .i64 y1] 54)).alloc (by simp; omega) (.cells #[.int .i64 (s + u + g), .int .i64 l] 23))
        have SR := Lib.hid r4
        have k0 := r4.c 0 _ rfl
        have k1 := r4.c 1 _ rfl
        have f0 := r4.f 0
        have f1 := r4.f 1
        clear C1 HB1 hb1 hz1 hz2 r1 r2 r3 r4
        go_wp2_with fail
        refine (HN.out _).mono ?_
        clear HN
        rintro e w3 ⟨rfl, hb1⟩
        have r5 := SR.out.below hb1 (by simp; omega)
        have HB4 := Lib.hid (HB3.out.trans (hb1.mono (by simp; omega)))
        clear k0 k1 f0 f1 SR HB3 hb1
        have k0 := r5.c 0 _ rfl
        have k1 := r5.c 1 _ rfl
        have f0 := r5.f 0
        have f1 := r5.f 1
        have S2 := Lib.hid (r5.set2 (.int .i64 rx) (.int .i64 ry))
        clear r5
        go_wp2_with fail
        obtain ⟨a0, a1⟩ := (⟨S2.out.c 0 _ rfl, S2.out.c 1 _ rfl⟩ : _ ∧ _)
        refine bodyPost_ret (v := .tuple #[.agg #[.int .i64 rx, .int .i64 ry], .int .i64 re]) (by simp [results, Tryd.results20, go_sem, a0, a1]) rfl ⟨rfl, ?_⟩
        exact (HB4.out.setCell (by simp) _).setCell (by simp) _
    · have db : decide (b < 0) = false := decide_eq_false (by omega)
      rw [da, db, if_pos rfl]
      rcases ho with ho | ho | ho
      all_goals first | (exfalso; omega) | skip
      all_goals first | subst ho | skip
      all_goals subst eX
      all_goals first | subst eY | skip
      all_goals
        go_enter Tryd.func20, Tryd.ntmps20
        go_wp2_with fail
        refine (HX.out _).mono ?_
        clear HX
        rintro e w1 ⟨rfl, hb1⟩
        have r1 := c1.below hb1 (by simp)
        have hb2 := hb.trans (hb1.mono (by simp))
        have hz1 := hb1.size
        simp at hz1
        clear c1 hb hz hb1
        have C1 := Lib.hid r1
        have HB1 := Lib.hid hb2
        clear r1 hb2
        go_wp2_with fail
        refine (HY.out _).mono ?_
        clear HY
        rintro e w2 ⟨rfl, hb1⟩
        have r1 := C1.out.below hb1 (by omega)
        have HB2 := Lib.hid (HB1.out.trans (hb1.mono (by omega)))
        have hz2 := hb1.size
        have hzw : w.heap.size + 1 ≤ w2.heap.size := by omega
        have r2 := r1.below ((Below.refl (w.heap.size + 1) w2).alloc hzw (.cells #[.int .i64 x0, .int .i64 x1] 54)) (by omega)
        have r3 := r2.below ((Below.refl (w.heap.size + 1) _).alloc (by simp; omega) (.cells #[.int .i64 y0, .int .i64 y1] 54)) (by omega)
        have r4 := r3.below ((Below.refl (w.heap.size + 1) _).alloc (by simp; omega) (.cells #[.int .i64 (s + u + g), .int .i64 l] 23)) (by omega)
        have HB3 := Lib.hid (((HB2.out.alloc (by omega) (.cells #[.int .i64 x0, .int .i64 x1] 54)).alloc (by simp; omega) (.cells #[.int .i64 y0, .int .i64 y1] 54)).alloc (by simp; omega) (.cells #[.int .i64 (s + u + g), .int .i64 l] 23))
        have SR := Lib.hid r4
        have k0 := r4.c 0 _ rfl
        have k1 := r4.c 1 _ rfl
        have f0 := r4.f 0
        have f1 := r4.f 1
        clear C1 HB1 hb1 hz1 hz2 r1 r2 r3 r4
        go_wp2_with fail
        have S2 := SR.out.set2 (.int .i64 (s + u + g)) (.int .i64 l)
        have a0 := S2.c 0 _ rfl
        have a1 := S2.c 1 _ rfl
        refine bodyPost_ret (v := .tuple #[.agg #[.int .i64 (s + u + g), .int .i64 l], .int .i64 0]) (by simp [results, Tryd.results20, go_sem, a0, a1]) rfl ⟨rfl, ?_⟩
        exact (HB3.out.setCell (by simp) _).setCell (by simp) _

theorem wmul_any (a b : Int) (w : World) (ha : i64b a) (hb : i64b b) : Calls Tryd.prog 20 #[.int .i64 a, .int .i64 b] w (PE w (wMul a b)) := by
  by_cases h : 1000000000000000000 < a ∨ 1000000000000000000 < b ∨ a < -1000000000000000000 ∨ b < -1000000000000000000
  · exact wmul_out w ha hb h
  · have ba : -1000000000000000000 ≤ a ∧ a ≤ 1000000000000000000 := by omega
    have bb : -1000000000000000000 ≤ b ∧ b ≤ 1000000000000000000 := by omega
    rw [wmul_side ba bb rfl rfl]
    refine wmul_core a b _ _ w ba bb ?_ ?_ ?_ ?_
    · split
      · exact .inl ⟨by omega, by omega, rfl⟩
      · exact .inr ⟨by omega, by omega, rfl⟩
    · split
      · exact .inl ⟨by omega, by omega, rfl⟩
      · exact .inr ⟨by omega, by omega, rfl⟩
    · split <;> omega
    · split <;> omega
end Go.Proofs.YtcllghcplphijaaDoor
