/-
  THE STEPS OF wide.Div.
-/
import Derived.Test.YtcllghcplphijaaDoorWideWalkD
set_option linter.unusedVariables false
set_option linter.unusedSimpArgs false
set_option maxRecDepth 4000
namespace Go.Proofs.YtcllghcplphijaaDoor
open Go.RowKit

/-- a Wide, a number and an error's number are handed back -/
def PNE (w : World) (r : Pt × Int × Int) (e : Ending) (w' : World) : Prop := e = .returned (.tuple #[ptV r.1, .int .i64 r.2.1, .int .i64 r.2.2]) ∧ Below w.heap.size w w'

theorem wdiv_no {a : Pt} {n : Int} (h : wIs a = false ∨ n < 1 ∨ 1000000000 < n) : wDiv a n = (⟨0, 0⟩, 0, 1) := by
  unfold wDiv
  rw [if_neg]
  rintro ⟨h1, h2, h3⟩
  rcases h with h | h | h
  · rw [h1] at h; cases h
  · omega
  · omega

set_option maxHeartbeats 1600000 in
theorem wdiv_out (a : Pt) (n : Int) (w : World) (ha : a.b) (hn : i64b n) (h : wIs a = false ∨ n < 1 ∨ 1000000000 < n) : Calls Tryd.prog 11 #[ptV a, .int .i64 n] w (PNE w (wDiv a n)) := by
  rw [wdiv_no h]
  obtain ⟨n1, n2⟩ := hn
  have HI := Lib.hid (fun W => is_any a W ha)
  obtain ⟨x, y⟩ := a
  obtain ⟨i, hi⟩ : ∃ i, wIs ⟨x, y⟩ = i := ⟨_, rfl⟩
  rw [hi] at HI h
  clear hi
  unfold PNE ptV at *
  simp only at HI
  obtain ⟨s1, s2, hb, hz⟩ := two_slots w [.int .i64 x, .int .i64 y] [.int .i64 0, .int .i64 0] #[.int .i64 x, .int .i64 y] #[.int .i64 0, .int .i64 0] 23 23 rfl rfl
  have hc : i = false ∨ i = true ∧ n < 1 ∨ i = true ∧ 1 ≤ n ∧ 1000000000 < n := by
    cases i
    · exact .inl rfl
    · rcases h with h | h | h
      · cases h
      · exact .inr (.inl ⟨rfl, h⟩)
      · exact .inr (.inr ⟨rfl, by omega, h⟩)
  clear h
  rcases hc with rfl | ⟨rfl, h1⟩ | ⟨rfl, h1, h2⟩
  case' inr.inl => have d1 : decide (n < 1) = true := decide_eq_true h1
  case' inr.inr =>
    have d1 : decide (n < 1) = false := decide_eq_false (by omega)
    have d2 : decide (1000000000 < n) = true := decide_eq_true h2
  all_goals
    go_enter Tryd.func11, Tryd.ntmps11
    go_wp2_with fail
    generalize hW : (w.alloc (.cells #[.int .i64 x, .int .i64 y] 23)).alloc (.cells #[.int .i64 0, .int .i64 0] 23) = W at s1 s2 hb hz ⊢
    refine (HI.out W).mono ?_
    clear HI hW
    rintro e w1 ⟨rfl, hb1⟩
    have hb2 := hb.trans (hb1.mono (by omega))
    have r2 := s2.below hb1 (by omega)
    clear s1 s2 hb hb1 hz
    have d0 := r2.c 0 _ rfl
    have d1 := r2.c 1 _ rfl
    have f0 := r2.f 0
    have f1 := r2.f 1
    have S2 := Lib.hid (r2.set2 (.int .i64 0) (.int .i64 0))
    have HB := Lib.hid hb2
    clear r2 hb2
    go_wp2_with fail
    obtain ⟨a0, a1⟩ := (⟨S2.out.c 0 _ rfl, S2.out.c 1 _ rfl⟩ : _ ∧ _)
    refine bodyPost_ret (v := .tuple #[.agg #[.int .i64 0, .int .i64 0], .int .i64 0, .int .i64 1]) (by simp [results, Tryd.results11, go_sem, a0, a1]) rfl ⟨rfl, ?_⟩
    exact (HB.out.setCell (by simp) _).setCell (by simp) _

set_option maxHeartbeats 1600000 in
theorem wdiv_in (x y n : Int) (w : World) (ha : (⟨x, y⟩ : Pt).b) (hi : wIs ⟨x, y⟩ = true) (hn : 1 ≤ n ∧ n ≤ 1000000000) : Calls Tryd.prog 11 #[.agg #[.int .i64 x, .int .i64 y], .int .i64 n] w (PNE w (wDiv ⟨x, y⟩ n)) := by
  have HI := Lib.hid (fun W => is_any ⟨x, y⟩ W ha)
  have hd : wDiv ⟨x, y⟩ n = (wOf (wval ⟨x, y⟩ / n), wval ⟨x, y⟩ % n, 0) := by unfold wDiv; rw [if_pos ⟨hi, hn.1, hn.2⟩]
  rw [hd]
  rw [hi] at HI
  rw [wIs_iff] at hi
  simp only at hi
  obtain ⟨i1, i2, i3, i4⟩ := hi
  have HF := Lib.hid (fun W => floor_any x n W ha.1 (by omega))
  have HH := Lib.hid (fun W => halves_any y W (by omega))
  obtain ⟨n1, n2⟩ := hn
  obtain ⟨l0, h0⟩ : ∃ l0, l0 = x % n := ⟨_, rfl⟩
  obtain ⟨y0, hy0⟩ : ∃ y0, y0 = y / 1000000000 := ⟨_, rfl⟩
  obtain ⟨y1, hy1⟩ : ∃ y1, y1 = y % 1000000000 := ⟨_, rfl⟩
  obtain ⟨T1, hT1⟩ : ∃ T, T = l0 * 1000000000 + y0 := ⟨_, rfl⟩
  obtain ⟨q1, hq1⟩ : ∃ q, q = T1 / n := ⟨_, rfl⟩
  obtain ⟨l1, hl1⟩ : ∃ l, l = T1 % n := ⟨_, rfl⟩
  obtain ⟨T2, hT2⟩ : ∃ T, T = l1 * 1000000000 + y1 := ⟨_, rfl⟩
  obtain ⟨q2, hq2⟩ : ∃ q, q = T2 / n := ⟨_, rfl⟩
  obtain ⟨l2, hl2⟩ : ∃ l, l = T2 % n := ⟨_, rfl⟩
  obtain ⟨⟨a1, a2⟩, ⟨a3, a4⟩, ⟨a5, a6⟩, ⟨a7, a8⟩, ⟨a9, a10⟩, hr1, hr2⟩ := wdiv_num (a := ⟨x, y⟩) ⟨i1, i2⟩ ⟨n1, n2⟩ h0 (by rw [hT1, hy0]) hq1 hl1 (by rw [hT2, hy1]) hq2 hl2
  rw [hr1, hr2]
  rw [← hy0, ← hy1] at HH
  rw [← h0] at HF
  have by0 : 0 ≤ y0 ∧ y0 < 1000000000 := by omega
  have by1 : 0 ≤ y1 ∧ y1 < 1000000000 := by omega
  have td1 : T1.tdiv n = q1 := by rw [Int.tdiv_eq_ediv_of_nonneg (by omega), hq1]
  have tm1 : T1.tmod n = l1 := by rw [Int.tmod_eq_emod_of_nonneg (by omega), hl1]
  have td2 : T2.tdiv n = q2 := by rw [Int.tdiv_eq_ediv_of_nonneg (by omega), hq2]
  have tm2 : T2.tmod n = l2 := by rw [Int.tmod_eq_emod_of_nonneg (by omega), hl2]
  have wq1 : IntKind.i64.wrap q1 = q1 := IntWalk.i64_in _ (by omega)
  have wl1 : IntKind.i64.wrap l1 = l1 := IntWalk.i64_in _ (by omega)
  have wq2 : IntKind.i64.wrap q2 = q2 := IntWalk.i64_in _ (by omega)
  have wl2 : IntKind.i64.wrap l2 = l2 := IntWalk.i64_in _ (by omega)
  have bT1 : 0 ≤ T1 ∧ T1 ≤ 1000000000000000000 := by omega
  have bT2 : 0 ≤ T2 ∧ T2 ≤ 1000000000000000000 := by omega
  have eT1 := hT1.symm
  have eT2 := hT2.symm
  generalize hX : x / n = X at *
  clear hX hd hr1 hr2 h0 hy0 hy1 hq1 hl1 hq2 hl2 hT1 hT2
  have z : (n == 0) = false := by simp; omega
  have z2 : (n == -1) = false := by simp; omega
  unfold PNE ptV at *
  simp only at HI
  obtain ⟨s1, s2, hb, hz⟩ := two_slots w [.int .i64 x, .int .i64 y] [.int .i64 0, .int .i64 0] #[.int .i64 x, .int .i64 y] #[.int .i64 0, .int .i64 0] 23 23 rfl rfl
  have g1 : decide (n < 1) = false := decide_eq_false (by omega)
  have g2 : decide (1000000000 < n) = false := decide_eq_false (by omega)
  have ix0 : ∀ W, Sem.run Tryd.prog (Instr.index 54 (.agg #[.int .i64 y0, .int .i64 y1]) (.int .i64 0)) W = .ok (.int .i64 y0) W := fun W => by kernel_rfl
  have ix1 : ∀ W, Sem.run Tryd.prog (Instr.index 54 (.agg #[.int .i64 y0, .int .i64 y1]) (.int .i64 1)) W = .ok (.int .i64 y1) W := fun W => by kernel_rfl
  go_enter Tryd.func11, Tryd.ntmps11
  go_wp2_with fail
  generalize hW : (w.alloc (.cells #[.int .i64 x, .int .i64 y] 23)).alloc (.cells #[.int .i64 0, .int .i64 0] 23) = W at s1 s2 hb hz ⊢
  refine (HI.out W).mono ?_
  clear HI hW
  rintro e w1 ⟨rfl, hb1⟩
  have hb2 := hb.trans (hb1.mono (by omega))
  have r1 := s1.below hb1 (by omega)
  have r2 := s2.below hb1 (by omega)
  have hz1 := hb1.size
  have c0 := r1.c 0 _ rfl
  have C1 := Lib.hid r1
  have C2 := Lib.hid r2
  have HB := Lib.hid hb2
  clear s1 s2 hb hb1 r1 r2 hb2
  go_wp2_with fail
  refine (HF.out w1).mono ?_
  clear HF
  rintro e w2 ⟨rfl, hb1⟩
  have r1 := C1.out.below hb1 (by omega)
  have r2 := C2.out.below hb1 (by omega)
  have hb2 := HB.out.trans (hb1.mono (by omega))
  have hz2 := hb1.size
  have c1 := r1.c 1 _ rfl
  clear C1 C2 HB c0
  have C2 := Lib.hid r2
  have HB := Lib.hid hb2
  clear hb1 r1 r2 hb2
  go_wp2_with fail
  refine (HH.out w2).mono ?_
  clear HH
  rintro e w3 ⟨rfl, hb1⟩
  have r2 := Lib.hid (C2.out.below hb1 (by omega))
  have hb2 := HB.out.trans (hb1.mono (by omega))
  have hz3 := hb1.size
  clear hb1 c1 C2 HB
  go_wp2_with fail
  go_loopw [8, 9, 34] (fun lf lo i wr => ∃ k : Nat, i = .int .i64 k ∧ (k = 0 ∧ lf = .int .i64 l0 ∧ lo = .int .i64 0 ∨ k = 1 ∧ lf = .int .i64 l1 ∧ lo = .int .i64 q1 ∨ k = 2 ∧ lf = .int .i64 l2 ∧ lo = .int .i64 (q1 * 1000000000 + q2)) ∧ Hid (SlotN wr (w.heap.size + 1) [.int .i64 0, .int .i64 0]) ∧ Below w.heap.size w wr) (fun _ _ i _ => 2 - (intOf i).toNat)
  case atStart => exact ⟨0, rfl, .inl ⟨rfl, rfl, rfl⟩, r2, hb2⟩
  case round =>
    obtain ⟨k, rfl, ⟨rfl, rfl, rfl⟩ | ⟨rfl, rfl, rfl⟩ | ⟨rfl, rfl, rfl⟩, hsk, hbk⟩ := hrel
    · clear td2 tm2 wq2 wl2 eT2
      go_wp2_with fail
      go_quiet (fail)
      go_wp2_with fail
      exact ⟨⟨1, rfl, .inr (.inl ⟨rfl, rfl, rfl⟩), Lib.hid (hsk.out.drewN _), below_drewN hbk _⟩, by simp [intOf]⟩
    · clear td1 tm1 wq1 wl1 eT1
      go_wp2_with fail
      go_quiet (fail)
      go_wp2_with fail
      exact ⟨⟨2, rfl, .inr (.inr ⟨rfl, rfl, rfl⟩), Lib.hid (hsk.out.drewN _), below_drewN hbk _⟩, by simp [intOf]⟩
    · have r3 := hsk.out
      have d0 := r3.c 0 _ rfl
      have d1 := r3.c 1 _ rfl
      have f0 := r3.f 0
      have f1 := r3.f 1
      have S2 := Lib.hid (r3.set2 (.int .i64 X) (.int .i64 (q1 * 1000000000 + q2)))
      clear r3
      go_wp2_with fail
      obtain ⟨b0, b1⟩ := (⟨S2.out.c 0 _ rfl, S2.out.c 1 _ rfl⟩ : _ ∧ _)
      refine bodyPost_ret (v := .tuple #[.agg #[.int .i64 X, .int .i64 (q1 * 1000000000 + q2)], .int .i64 l2, .int .i64 0]) (by simp [results, Tryd.results11, go_sem, b0, b1]) rfl ⟨rfl, ?_⟩
      exact (hbk.setCell (by simp) _).setCell (by simp) _

theorem wdiv_any (a : Pt) (n : Int) (w : World) (ha : a.b) (hn : i64b n) : Calls Tryd.prog 11 #[ptV a, .int .i64 n] w (PNE w (wDiv a n)) := by
  by_cases h : wIs a = false ∨ n < 1 ∨ 1000000000 < n
  · exact wdiv_out a n w ha hn h
  · have hi : wIs a = true := by
      cases e : wIs a with
      | true => rfl
      | false => exact absurd (.inl e) h
    exact wdiv_in a.x a.y n w ha hi (by omega)
end Go.Proofs.YtcllghcplphijaaDoor
