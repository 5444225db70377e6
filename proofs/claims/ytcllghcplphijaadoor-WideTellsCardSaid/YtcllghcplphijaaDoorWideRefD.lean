/-
  THE STEPS OF limewashref01.Int.
-/
import Derived.Test.YtcllghcplphijaaDoorWideRefC
import Derived.Test.YtcllghcplphijaaDoorWideWalkI
import Derived.Test.YtcllghcplphijaaDoorSkip
set_option linter.unusedVariables false
set_option linter.unusedSimpArgs false
set_option maxRecDepth 8000
namespace Go.Proofs.YtcllghcplphijaaDoor
open Go.RowKit

theorem less_b (A1 A2 : Option Addr) (n1 c1 n2 c2 : Nat) (x y : Int) (b1 b2 r : Bool) (w : World) (h1 : NumAt w w.heap.size A1 n1 c1 x) (h2 : NumAt w w.heap.size A2 n2 c2 y) (hl1 : n1 ≤ 1000) (hl2 : n2 ≤ 1000) (e1 : b1 = decide (x < 0)) (e2 : b2 = decide (y < 0)) (er : r = decide (x < y)) :
    Calls Tryd.prog 29 #[.agg #[.bool b1, .slice A1 n1 c1], .agg #[.bool b2, .slice A2 n2 c2]] w fun e w' => e = .returned (.bool r) ∧ Below w.heap.size w w' := by
  subst e1; subst e2; subst er
  exact less_any _ _ A1 A2 n1 c1 n2 c2 x y w h1 h2 (Nat.le_refl _) (Nat.le_refl _) hl1 hl2
theorem wval_few {a : Pt} (ha : a.b) : (wval a).natAbs < 10 ^ 100 := by
  have hv : wval a = a.x * 1000000000000000000 + a.y := rfl
  unfold Pt.b i64b at ha
  exact Nat.lt_of_lt_of_le (show (wval a).natAbs < 10 ^ 40 by omega) (Nat.pow_le_pow_right (by decide) (by decide))

theorem rint_no (a : Pt) (w : World) (ha : a.b) (hi : wIs a = false) : Calls Tryd.prog 10 #[ptV a] w (NE w (wInt a)) := by
  have e : wInt a = (0, 1) := by unfold wInt; rw [hi]; rfl
  rw [e]
  have HI := Lib.hid (fun W => ris_any a W ha)
  rw [hi] at HI
  obtain ⟨x, y⟩ := a
  clear hi e
  unfold NE ptV at *
  simp only at HI
  obtain ⟨s1, hb, hz⟩ := one_slot w [.int .i64 x, .int .i64 y] #[.int .i64 x, .int .i64 y] 23 rfl
  go_enter Tryd.func10, Tryd.ntmps10
  go_wp2_with fail
  generalize hW : w.alloc (.cells #[.int .i64 x, .int .i64 y] 23) = W at s1 hb hz ⊢
  refine (HI.out W).mono ?_
  clear HI hW
  rintro e w1 ⟨rfl, hb1⟩
  have HB := Lib.hid (hb.trans (hb1.mono (by omega)))
  clear s1 hb hb1 hz
  go_wp2_with fail
  exact bodyPost_ret (v := .tuple #[.int .i64 0, .int .i64 1]) (by simp [results, Tryd.results10, go_sem]) rfl ⟨rfl, HB.out⟩

set_option maxHeartbeats 3200000 in
theorem rint_low (a : Pt) (w : World) (ha : a.b) (hi : wIs a = true) (h : wval a < -9223372036854775808) : Calls Tryd.prog 10 #[ptV a] w (NE w (wInt a)) := by
  have e : wInt a = (0, 4) := by unfold wInt; rw [if_pos hi, if_neg (by omega)]
  rw [e]
  clear e
  have HI := Lib.hid (fun W => ris_any a W ha)
  rw [hi] at HI
  obtain ⟨b0, e0⟩ : ∃ b, b = decide (wval a < 0) := ⟨_, rfl⟩
  obtain ⟨b1, e1⟩ : ∃ b, b = decide ((-9223372036854775808 : Int) < 0) := ⟨_, rfl⟩
  obtain ⟨b2, e2⟩ : ∃ b, b = decide ((9223372036854775807 : Int) < 0) := ⟨_, rfl⟩
  have hf := wval_few ha
  have K0 := Lib.hid (fun W => number_b a b0 W ha e0)
  have K1 := Lib.hid (fun W => ofint_b (-9223372036854775808) b1 W (by unfold i64b; omega) e1)
  have K2 := Lib.hid (fun W => ofint_b 9223372036854775807 b2 W (by unfold i64b; omega) e2)
  obtain ⟨r1, er1⟩ : ∃ r, r = decide (wval a < -9223372036854775808) := ⟨_, rfl⟩
  obtain ⟨r2, er2⟩ : ∃ r, r = decide (9223372036854775807 < wval a) := ⟨_, rfl⟩
  have L1 := Lib.hid (fun W A1 n1 c1 A2 n2 c2 (h1 : NumAt W W.heap.size A1 n1 c1 (wval a)) (h2 : NumAt W W.heap.size A2 n2 c2 (-9223372036854775808)) => less_b A1 A2 n1 c1 n2 c2 _ _ b0 b1 r1 W h1 h2 (h1.few hf) (h2.few64 (by unfold i64b; omega)) e0 e1 er1)
  have L2 := Lib.hid (fun W A1 n1 c1 A2 n2 c2 (h1 : NumAt W W.heap.size A1 n1 c1 9223372036854775807) (h2 : NumAt W W.heap.size A2 n2 c2 (wval a)) => less_b A1 A2 n1 c1 n2 c2 _ _ b2 b0 r2 W h1 h2 (h1.few64 (by unfold i64b; omega)) (h2.few hf) e2 e0 er2)
  rw [decide_eq_true h] at er1
  subst er1
  clear er2 h e0
  clear e1 e2 hf
  generalize wval a = z at *
  obtain ⟨x, y⟩ := a
  unfold NE ptV at *
  simp only at HI K0
  obtain ⟨s1, hb, hz⟩ := one_slot w [.int .i64 x, .int .i64 y] #[.int .i64 x, .int .i64 y] 23 rfl
  go_enter Tryd.func10, Tryd.ntmps10
  go_wp2_with fail
  generalize hW : w.alloc (.cells #[.int .i64 x, .int .i64 y] 23) = W at s1 hb hz ⊢
  refine (HI.out W).mono ?_
  clear HI hW
  rintro e w1 ⟨rfl, hb1⟩
  have HB := Lib.hid (hb.trans (hb1.mono (by omega)))
  have r0 := s1.below hb1 (by omega)
  have c0 := r0.c 0 _ rfl
  have c1 := r0.c 1 _ rfl
  clear s1 hb hb1 hz r0
  go_wp2_with fail
  refine (K0.out w1).mono ?_
  clear K0 c0 c1
  rintro e w2 ⟨A, n, c, rfl, hN, hp, bb⟩
  have HB := Lib.hid (HB.out.trans (bb.mono HB.out.size))
  obtain ⟨s1, hb, hz⟩ := one_slot w2 [.bool b0, .slice A n c] #[.bool b0, .slice A n c] 48 rfl
  clear bb hp
  go_wp2_with fail
  generalize w2.alloc (.cells #[.bool b0, .slice A n c] 48) = V at s1 hb hz ⊢
  have HB := Lib.hid (HB.out.trans (hb.mono HB.out.size))
  have HN := Lib.hid ((hN.below hb (Nat.le_refl _)).more hb.size)
  have HS := Lib.hid s1
  have k0 := s1.c 0 _ rfl
  have k1 := s1.c 1 _ rfl
  have hzV : w2.heap.size < V.heap.size := by omega
  clear hb hz s1 hN
  refine wp_region_held_drew (S := (fun w' => w'.cell? ⟨w2.heap.size, 0, none⟩ = some (.bool b0) ∧ w'.cell? ⟨w2.heap.size, 1, none⟩ = some (.slice A n c))) (by kernel_rfl) ?_ (fun hHeld => ?_)
  · (refine ⟨?_, ?_⟩ <;> (first | with_reducible assumption | (rw [hby.cell (by (try dsimp only); omega)]; with_reducible assumption) | (go_keep; done)))
  refine wpAnyH_takeD 0 (d := (some 12)) (v := ?_) rfl rfl (by kernel_rfl) (by kernel_rfl) (by kernel_rfl) (by kernel_rfl) (fun _ _ _ h => h) ?_ (by assumption) ?_
  rotate_left
  · intro ww hSw; (try dsimp only at hSw); first | (go_simp; done) | (go_simp; with_reducible rfl)
  simp only [Act.put, List.setIfInBounds_toArray, List.set_cons_zero, List.set_cons_succ]
  refine wpAnyH_ready (rs := [1]) (by kernel_rfl) (by simp) ?_
  refine AllReadyH.cons (o := _) rfl (fun K hK => ?_) AllReadyH.nil
  go_simp
  refine (K1.out _).mono ?_
  clear K1
  rintro e w3 ⟨A1, n1, c1, rfl, hN1, hp1, hx1⟩
  have hby : Below V.heap.size V w3 := (Below.refl _ V).drew.trans (hx1.mono (by simp))
  try go_simp
  refine hK.out _ _ ?_ (fun hHeld => ?_)
  · (refine ⟨?_, ?_⟩ <;> (first | with_reducible assumption | (rw [hby.cell (by (try dsimp only); omega)]; with_reducible assumption) | (go_keep; done)))
  clear hK K
  refine wpAnyH_ready (rs := [2]) (by kernel_rfl) (by simp) ?_
  refine AllReadyH.cons (o := _) rfl (fun K hK => ?_) AllReadyH.nil
  go_simp
  refine (L1.out _ _ _ _ _ _ _ ((HN.out.below hby (Nat.le_refl _)).more hby.size) hN1).mono ?_
  clear L1
  rintro e w4 ⟨rfl, hx4⟩
  have hby : Below V.heap.size V w4 := hby.trans (hx4.mono hby.size)
  try go_simp
  refine hK.out _ _ ?_ (fun hHeld => ?_)
  · (refine ⟨?_, ?_⟩ <;> (first | with_reducible assumption | (rw [hby.cell (by (try dsimp only); omega)]; with_reducible assumption) | (go_keep; done)))
  clear hK K
  refine wpAnyH_takeD 3 (d := (some 15)) (v := ?_) rfl rfl (by kernel_rfl) (by kernel_rfl) (by kernel_rfl) (by kernel_rfl) (fun _ _ _ h => h) ?_ (by assumption) ?_
  rotate_left
  · intro ww hSw; (try dsimp only at hSw); first | (go_simp; done) | (go_simp; with_reducible rfl)
  simp only [Act.put, List.setIfInBounds_toArray, List.set_cons_zero, List.set_cons_succ]
  refine wpAnyH_skip 4 (d := (some 16)) (by kernel_rfl) (by kernel_rfl) (by kernel_rfl) (by kernel_rfl) (fun _ _ _ h => h) (by assumption) ?_
  simp only [Act.put, List.setIfInBounds_toArray, List.set_cons_zero, List.set_cons_succ]
  refine wpAnyH_skip 5 (d := (some 17)) (by kernel_rfl) (by kernel_rfl) (by kernel_rfl) (by kernel_rfl) (fun _ _ _ h => h) (by assumption) ?_
  simp only [Act.put, List.setIfInBounds_toArray, List.set_cons_zero, List.set_cons_succ]
  refine wpAnyH_skip 6 (d := (some 18)) (by kernel_rfl) (by kernel_rfl) (by kernel_rfl) (by kernel_rfl) (fun _ _ _ h => h) (by assumption) ?_
  simp only [Act.put, List.setIfInBounds_toArray, List.set_cons_zero, List.set_cons_succ]
  refine wpAnyH_takeD 7 (d := (some 19)) (v := ?_) rfl rfl (by kernel_rfl) (by kernel_rfl) (by kernel_rfl) (by kernel_rfl) (fun _ _ _ h => h) ?_ (by assumption) ?_
  rotate_left
  · intro ww hSw; (try dsimp only at hSw); first | (go_simp; done) | (go_simp; with_reducible rfl)
  simp only [Act.put, List.setIfInBounds_toArray, List.set_cons_zero, List.set_cons_succ]
  refine wpAnyH_done (by kernel_rfl) ?_ _
  go_wp2_with fail
  exact bodyPost_ret (v := .tuple #[.int .i64 0, .int .i64 4]) (by simp [results, Tryd.results10, go_sem]) rfl ⟨rfl, HB.out.trans (hby.mono HB.out.size)⟩

set_option maxHeartbeats 3200000 in
theorem rint_high (a : Pt) (w : World) (ha : a.b) (hi : wIs a = true) (h : 9223372036854775807 < wval a) : Calls Tryd.prog 10 #[ptV a] w (NE w (wInt a)) := by
  have e : wInt a = (0, 4) := by unfold wInt; rw [if_pos hi, if_neg (by omega)]
  rw [e]
  clear e
  have HI := Lib.hid (fun W => ris_any a W ha)
  rw [hi] at HI
  obtain ⟨b0, e0⟩ : ∃ b, b = decide (wval a < 0) := ⟨_, rfl⟩
  obtain ⟨b1, e1⟩ : ∃ b, b = decide ((-9223372036854775808 : Int) < 0) := ⟨_, rfl⟩
  obtain ⟨b2, e2⟩ : ∃ b, b = decide ((9223372036854775807 : Int) < 0) := ⟨_, rfl⟩
  have hf := wval_few ha
  have K0 := Lib.hid (fun W => number_b a b0 W ha e0)
  have K1 := Lib.hid (fun W => ofint_b (-9223372036854775808) b1 W (by unfold i64b; omega) e1)
  have K2 := Lib.hid (fun W => ofint_b 9223372036854775807 b2 W (by unfold i64b; omega) e2)
  obtain ⟨r1, er1⟩ : ∃ r, r = decide (wval a < -9223372036854775808) := ⟨_, rfl⟩
  obtain ⟨r2, er2⟩ : ∃ r, r = decide (9223372036854775807 < wval a) := ⟨_, rfl⟩
  have L1 := Lib.hid (fun W A1 n1 c1 A2 n2 c2 (h1 : NumAt W W.heap.size A1 n1 c1 (wval a)) (h2 : NumAt W W.heap.size A2 n2 c2 (-9223372036854775808)) => less_b A1 A2 n1 c1 n2 c2 _ _ b0 b1 r1 W h1 h2 (h1.few hf) (h2.few64 (by unfold i64b; omega)) e0 e1 er1)
  have L2 := Lib.hid (fun W A1 n1 c1 A2 n2 c2 (h1 : NumAt W W.heap.size A1 n1 c1 9223372036854775807) (h2 : NumAt W W.heap.size A2 n2 c2 (wval a)) => less_b A1 A2 n1 c1 n2 c2 _ _ b2 b0 r2 W h1 h2 (h1.few64 (by unfold i64b; omega)) (h2.few hf) e2 e0 er2)
  rw [decide_eq_false (by omega)] at er1
  rw [decide_eq_true h] at er2
  subst er1; subst er2
  clear h e0
  clear e1 e2 hf
  generalize wval a = z at *
  obtain ⟨x, y⟩ := a
  unfold NE ptV at *
  simp only at HI K0
  obtain ⟨s1, hb, hz⟩ := one_slot w [.int .i64 x, .int .i64 y] #[.int .i64 x, .int .i64 y] 23 rfl
  go_enter Tryd.func10, Tryd.ntmps10
  go_wp2_with fail
  generalize hW : w.alloc (.cells #[.int .i64 x, .int .i64 y] 23) = W at s1 hb hz ⊢
  refine (HI.out W).mono ?_
  clear HI hW
  rintro e w1 ⟨rfl, hb1⟩
  have HB := Lib.hid (hb.trans (hb1.mono (by omega)))
  have r0 := s1.below hb1 (by omega)
  have c0 := r0.c 0 _ rfl
  have c1 := r0.c 1 _ rfl
  clear s1 hb hb1 hz r0
  go_wp2_with fail
  refine (K0.out w1).mono ?_
  clear K0 c0 c1
  rintro e w2 ⟨A, n, c, rfl, hN, hp, bb⟩
  have HB := Lib.hid (HB.out.trans (bb.mono HB.out.size))
  obtain ⟨s1, hb, hz⟩ := one_slot w2 [.bool b0, .slice A n c] #[.bool b0, .slice A n c] 48 rfl
  clear bb hp
  go_wp2_with fail
  generalize w2.alloc (.cells #[.bool b0, .slice A n c] 48) = V at s1 hb hz ⊢
  have HB := Lib.hid (HB.out.trans (hb.mono HB.out.size))
  have HN := Lib.hid ((hN.below hb (Nat.le_refl _)).more hb.size)
  have HS := Lib.hid s1
  have k0 := s1.c 0 _ rfl
  have k1 := s1.c 1 _ rfl
  have hzV : w2.heap.size < V.heap.size := by omega
  clear hb hz s1 hN
  go_region_held3 (fun w' => w'.cell? ⟨w2.heap.size, 0, none⟩ = some (.bool b0) ∧ w'.cell? ⟨w2.heap.size, 1, none⟩ = some (.slice A n c))
    (refine ⟨?_, ?_⟩ <;> (first | with_reducible assumption | (rw [hby.cell (by (try dsimp only); omega)]; with_reducible assumption) | (go_keep; done)))
    (first
      | (go_at_call 30; refine (K1.out _).mono ?_; clear K1; rintro e w3 ⟨A1, n1, c1, rfl, hN1, hp1, hx1⟩; have hby : Below V.heap.size V w3 := (Below.refl _ V).drew.trans (hx1.mono (by simp)))
      | (go_at_call 29; refine (L1.out _ _ _ _ _ _ _ ((HN.out.below hby (Nat.le_refl _)).more hby.size) hN1).mono ?_; clear L1; rintro e w4 ⟨rfl, hx4⟩; have hby : Below V.heap.size V w4 := hby.trans (hx4.mono hby.size))
      | (go_at_call 30; refine (K2.out _).mono ?_; clear K2; rintro e w5 ⟨A2, n2, c2, rfl, hN2, hp2, hx5⟩; have hby : Below V.heap.size V w5 := hby.trans (hx5.mono hby.size))
      | (go_at_call 29; refine (L2.out _ _ _ _ _ _ _ hN2 ((HN.out.below hby (Nat.le_refl _)).more hby.size)).mono ?_; clear L2; rintro e w6 ⟨rfl, hx6⟩; have hby : Below V.heap.size V w6 := hby.trans (hx6.mono hby.size)))
  go_wp2_with fail
  exact bodyPost_ret (v := .tuple #[.int .i64 0, .int .i64 4]) (by simp [results, Tryd.results10, go_sem]) rfl ⟨rfl, HB.out.trans (hby.mono HB.out.size)⟩

set_option maxHeartbeats 3200000 in
theorem rint_neg (a : Pt) (w : World) (ha : a.b) (hi : wIs a = true) (h : -9223372036854775808 ≤ wval a ∧ wval a < 0) : Calls Tryd.prog 10 #[ptV a] w (NE w (wInt a)) := by
  have e : wInt a = (wval a, 0) := by unfold wInt; rw [if_pos hi, if_pos (by omega)]
  rw [e]
  clear e
  have HI := Lib.hid (fun W => ris_any a W ha)
  rw [hi] at HI
  obtain ⟨b0, e0⟩ : ∃ b, b = decide (wval a < 0) := ⟨_, rfl⟩
  obtain ⟨b1, e1⟩ : ∃ b, b = decide ((-9223372036854775808 : Int) < 0) := ⟨_, rfl⟩
  obtain ⟨b2, e2⟩ : ∃ b, b = decide ((9223372036854775807 : Int) < 0) := ⟨_, rfl⟩
  have hf := wval_few ha
  have K0 := Lib.hid (fun W => number_b a b0 W ha e0)
  have K1 := Lib.hid (fun W => ofint_b (-9223372036854775808) b1 W (by unfold i64b; omega) e1)
  have K2 := Lib.hid (fun W => ofint_b 9223372036854775807 b2 W (by unfold i64b; omega) e2)
  obtain ⟨r1, er1⟩ : ∃ r, r = decide (wval a < -9223372036854775808) := ⟨_, rfl⟩
  obtain ⟨r2, er2⟩ : ∃ r, r = decide (9223372036854775807 < wval a) := ⟨_, rfl⟩
  have L1 := Lib.hid (fun W A1 n1 c1 A2 n2 c2 (h1 : NumAt W W.heap.size A1 n1 c1 (wval a)) (h2 : NumAt W W.heap.size A2 n2 c2 (-9223372036854775808)) => less_b A1 A2 n1 c1 n2 c2 _ _ b0 b1 r1 W h1 h2 (h1.few hf) (h2.few64 (by unfold i64b; omega)) e0 e1 er1)
  have L2 := Lib.hid (fun W A1 n1 c1 A2 n2 c2 (h1 : NumAt W W.heap.size A1 n1 c1 9223372036854775807) (h2 : NumAt W W.heap.size A2 n2 c2 (wval a)) => less_b A1 A2 n1 c1 n2 c2 _ _ b2 b0 r2 W h1 h2 (h1.few64 (by unfold i64b; omega)) (h2.few hf) e2 e0 er2)
  rw [decide_eq_false (by omega)] at er1
  rw [decide_eq_false (by omega)] at er2
  subst er1; subst er2
  rw [decide_eq_true h.2] at e0
  subst e0
  clear e1 e2 hf
  generalize wval a = z at *
  obtain ⟨x, y⟩ := a
  unfold NE ptV at *
  simp only at HI K0
  obtain ⟨s1, hb, hz⟩ := one_slot w [.int .i64 x, .int .i64 y] #[.int .i64 x, .int .i64 y] 23 rfl
  go_enter Tryd.func10, Tryd.ntmps10
  go_wp2_with fail
  generalize hW : w.alloc (.cells #[.int .i64 x, .int .i64 y] 23) = W at s1 hb hz ⊢
  refine (HI.out W).mono ?_
  clear HI hW
  rintro e w1 ⟨rfl, hb1⟩
  have HB := Lib.hid (hb.trans (hb1.mono (by omega)))
  have r0 := s1.below hb1 (by omega)
  have c0 := r0.c 0 _ rfl
  have c1 := r0.c 1 _ rfl
  clear s1 hb hb1 hz r0
  go_wp2_with fail
  refine (K0.out w1).mono ?_
  clear K0 c0 c1
  rintro e w2 ⟨A, n, c, rfl, hN, hp, bb⟩
  have HB := Lib.hid (HB.out.trans (bb.mono HB.out.size))
  obtain ⟨s1, hb, hz⟩ := one_slot w2 [.bool true, .slice A n c] #[.bool true, .slice A n c] 48 rfl
  clear bb hp
  go_wp2_with fail
  generalize w2.alloc (.cells #[.bool true, .slice A n c] 48) = V at s1 hb hz ⊢
  have HB := Lib.hid (HB.out.trans (hb.mono HB.out.size))
  have HN := Lib.hid ((hN.below hb (Nat.le_refl _)).more hb.size)
  have HS := Lib.hid s1
  have k0 := s1.c 0 _ rfl
  have k1 := s1.c 1 _ rfl
  have hzV : w2.heap.size < V.heap.size := by omega
  clear hb hz s1 hN
  go_region_held3 (fun w' => w'.cell? ⟨w2.heap.size, 0, none⟩ = some (.bool true) ∧ w'.cell? ⟨w2.heap.size, 1, none⟩ = some (.slice A n c))
    (refine ⟨?_, ?_⟩ <;> (first | with_reducible assumption | (rw [hby.cell (by (try dsimp only); omega)]; with_reducible assumption) | (go_keep; done)))
    (first
      | (go_at_call 30; refine (K1.out _).mono ?_; clear K1; rintro e w3 ⟨A1, n1, c1, rfl, hN1, hp1, hx1⟩; have hby : Below V.heap.size V w3 := (Below.refl _ V).drew.trans (hx1.mono (by simp)))
      | (go_at_call 29; refine (L1.out _ _ _ _ _ _ _ ((HN.out.below hby (Nat.le_refl _)).more hby.size) hN1).mono ?_; clear L1; rintro e w4 ⟨rfl, hx4⟩; have hby : Below V.heap.size V w4 := hby.trans (hx4.mono hby.size))
      | (go_at_call 30; refine (K2.out _).mono ?_; clear K2; rintro e w5 ⟨A2, n2, c2, rfl, hN2, hp2, hx5⟩; have hby : Below V.heap.size V w5 := hby.trans (hx5.mono hby.size))
      | (go_at_call 29; refine (L2.out _ _ _ _ _ _ _ hN2 ((HN.out.below hby (Nat.le_refl _)).more hby.size)).mono ?_; clear L2; rintro e w6 ⟨rfl, hx6⟩; have hby : Below V.heap.size V w6 := hby.trans (hx6.mono hby.size)))
  have r0 := (HS.out.below hby (by omega))
  have c0 := r0.c 0 _ rfl
  have c1 := r0.c 1 _ rfl
  have HB6 := Lib.hid (HB.out.trans (hby.mono HB.out.size))
  have HN6 := HN.out.below hby (Nat.le_refl _)
  have hlen := Lib.hid HN6.len
  have hn1 : n ≤ 1000 := HN6.few64 (by unfold i64b; omega)
  have hrow := HN6.row
  obtain ⟨X, hX⟩ : ∃ X, X = z.natAbs := ⟨_, rfl⟩
  rw [← hX] at hlen hrow
  have HZ : Hid (z = (-((X : Nat) : Int))) := Lib.hid (by omega)
  have hX2 : X ≤ 9223372036854775808 := by omega
  skip
  have H0 : Hid (X / 10 ^ n = 0) := Lib.hid (div_pow_len (by rw [hlen.out]; omega))
  clear hX h HN6 HN HS r0 hby
  go_wp2_with fail
  go_loop [5, 6] (fun u i => ∃ (k : Nat) (q : Int), k ≤ n ∧ q = (k : Int) - 1 ∧ i = .int .i64 q ∧ u = .int .i64 (-((X / 10 ^ k : Nat) : Int))) (fun _ i => (intOf i + 1).toNat)
  case atStart => exact ⟨n, _, Nat.le_refl _, rfl, rfl, by rw [H0.out]; rfl⟩
  case round =>
    obtain ⟨k, q, hk, hq, rfl, rfl⟩ := hrel
    rcases Nat.eq_zero_or_pos k with rfl | hk0
    · have t0 : decide ((0 : Int) ≤ q) = false := decide_eq_false (by omega)
      have hz1 : q < 0 := by omega
      have e0 : X / 10 ^ 0 = X := by simp
      rw [e0, ← HZ.out]
      clear hq e0
      go_wp2_with fail
      exact bodyPost_ret (v := .tuple #[.int .i64 z, .int .i64 0]) (by simp [results, Tryd.results10, go_sem]) rfl ⟨rfl, HB6.out⟩
    · obtain ⟨j, rfl⟩ : ∃ j, k = j + 1 := ⟨k - 1, by omega⟩
      have HST := Lib.hid (div_pow_step X j)
      have hd9 := dig_le X j
      obtain ⟨u, hu⟩ : ∃ u, u = X / 10 ^ (j + 1) := ⟨_, rfl⟩
      rw [← hu] at HST ⊢
      have hVj : X / 10 ^ j ≤ X := Nat.div_le_self _ _
      have hu2 : dig X j + 10 * u ≤ X := by have := HST.out; omega
      have hz1 : (0 : Int) ≤ q := by omega
      have hz2 : q < (n : Int) := by omega
      have hz3 : q.toNat = j := by omega
      have HQ : Hid (q - 1 = (j : Int) - 1) := Lib.hid (by omega)
      have HQ2 : Hid (q = (j : Int)) := Lib.hid (by omega)
      have t0 : decide ((0 : Int) ≤ q) = true := decide_eq_true hz1
      obtain ⟨ad, d, rfl, hb, hx, hm', hc, _, _⟩ := hrow.get (k := j) (by omega)
      have hd : d = dig X j := by rw [digs_get _ _ (by rw [hlen.out]; omega)] at hx; injection hx with hx; exact hx.symm
      have hd0 : 0 ≤ d ∧ d ≤ 9 := by omega
      have hu3 : d + 10 * (u : Int) ≤ X := by omega
      have HD := Lib.hid hd
      clear hq hu hVj hx hm' hd
      go_wp2_with fail
      go_round
      case rel => exact ⟨j, q - 1, by omega, HQ.out, rfl, by have h1 := HST.out; have h2 := HD.out; rw [h1, h2]; congr 1; omega⟩
      case measure => simp only [intOf]; have := HQ2.out; omega

set_option maxHeartbeats 3200000 in
theorem rint_pos (a : Pt) (w : World) (ha : a.b) (hi : wIs a = true) (h : 0 ≤ wval a ∧ wval a ≤ 9223372036854775807) : Calls Tryd.prog 10 #[ptV a] w (NE w (wInt a)) := by
  have e : wInt a = (wval a, 0) := by unfold wInt; rw [if_pos hi, if_pos (by omega)]
  rw [e]
  clear e
  have HI := Lib.hid (fun W => ris_any a W ha)
  rw [hi] at HI
  obtain ⟨b0, e0⟩ : ∃ b, b = decide (wval a < 0) := ⟨_, rfl⟩
  obtain ⟨b1, e1⟩ : ∃ b, b = decide ((-9223372036854775808 : Int) < 0) := ⟨_, rfl⟩
  obtain ⟨b2, e2⟩ : ∃ b, b = decide ((9223372036854775807 : Int) < 0) := ⟨_, rfl⟩
  have hf := wval_few ha
  have K0 := Lib.hid (fun W => number_b a b0 W ha e0)
  have K1 := Lib.hid (fun W => ofint_b (-9223372036854775808) b1 W (by unfold i64b; omega) e1)
  have K2 := Lib.hid (fun W => ofint_b 9223372036854775807 b2 W (by unfold i64b; omega) e2)
  obtain ⟨r1, er1⟩ : ∃ r, r = decide (wval a < -9223372036854775808) := ⟨_, rfl⟩
  obtain ⟨r2, er2⟩ : ∃ r, r = decide (9223372036854775807 < wval a) := ⟨_, rfl⟩
  have L1 := Lib.hid (fun W A1 n1 c1 A2 n2 c2 (h1 : NumAt W W.heap.size A1 n1 c1 (wval a)) (h2 : NumAt W W.heap.size A2 n2 c2 (-9223372036854775808)) => less_b A1 A2 n1 c1 n2 c2 _ _ b0 b1 r1 W h1 h2 (h1.few hf) (h2.few64 (by unfold i64b; omega)) e0 e1 er1)
  have L2 := Lib.hid (fun W A1 n1 c1 A2 n2 c2 (h1 : NumAt W W.heap.size A1 n1 c1 9223372036854775807) (h2 : NumAt W W.heap.size A2 n2 c2 (wval a)) => less_b A1 A2 n1 c1 n2 c2 _ _ b2 b0 r2 W h1 h2 (h1.few64 (by unfold i64b; omega)) (h2.few hf) e2 e0 er2)
  rw [decide_eq_false (by omega)] at er1
  rw [decide_eq_false (by omega)] at er2
  subst er1; subst er2
  rw [decide_eq_false (by omega)] at e0
  subst e0
  clear e1 e2 hf
  generalize wval a = z at *
  obtain ⟨x, y⟩ := a
  unfold NE ptV at *
  simp only at HI K0
  obtain ⟨s1, hb, hz⟩ := one_slot w [.int .i64 x, .int .i64 y] #[.int .i64 x, .int .i64 y] 23 rfl
  go_enter Tryd.func10, Tryd.ntmps10
  go_wp2_with fail
  generalize hW : w.alloc (.cells #[.int .i64 x, .int .i64 y] 23) = W at s1 hb hz ⊢
  refine (HI.out W).mono ?_
  clear HI hW
  rintro e w1 ⟨rfl, hb1⟩
  have HB := Lib.hid (hb.trans (hb1.mono (by omega)))
  have r0 := s1.below hb1 (by omega)
  have c0 := r0.c 0 _ rfl
  have c1 := r0.c 1 _ rfl
  clear s1 hb hb1 hz r0
  go_wp2_with fail
  refine (K0.out w1).mono ?_
  clear K0 c0 c1
  rintro e w2 ⟨A, n, c, rfl, hN, hp, bb⟩
  have HB := Lib.hid (HB.out.trans (bb.mono HB.out.size))
  obtain ⟨s1, hb, hz⟩ := one_slot w2 [.bool false, .slice A n c] #[.bool false, .slice A n c] 48 rfl
  clear bb hp
  go_wp2_with fail
  generalize w2.alloc (.cells #[.bool false, .slice A n c] 48) = V at s1 hb hz ⊢
  have HB := Lib.hid (HB.out.trans (hb.mono HB.out.size))
  have HN := Lib.hid ((hN.below hb (Nat.le_refl _)).more hb.size)
  have HS := Lib.hid s1
  have k0 := s1.c 0 _ rfl
  have k1 := s1.c 1 _ rfl
  have hzV : w2.heap.size < V.heap.size := by omega
  clear hb hz s1 hN
  go_region_held3 (fun w' => w'.cell? ⟨w2.heap.size, 0, none⟩ = some (.bool false) ∧ w'.cell? ⟨w2.heap.size, 1, none⟩ = some (.slice A n c))
    (refine ⟨?_, ?_⟩ <;> (first | with_reducible assumption | (rw [hby.cell (by (try dsimp only); omega)]; with_reducible assumption) | (go_keep; done)))
    (first
      | (go_at_call 30; refine (K1.out _).mono ?_; clear K1; rintro e w3 ⟨A1, n1, c1, rfl, hN1, hp1, hx1⟩; have hby : Below V.heap.size V w3 := (Below.refl _ V).drew.trans (hx1.mono (by simp)))
      | (go_at_call 29; refine (L1.out _ _ _ _ _ _ _ ((HN.out.below hby (Nat.le_refl _)).more hby.size) hN1).mono ?_; clear L1; rintro e w4 ⟨rfl, hx4⟩; have hby : Below V.heap.size V w4 := hby.trans (hx4.mono hby.size))
      | (go_at_call 30; refine (K2.out _).mono ?_; clear K2; rintro e w5 ⟨A2, n2, c2, rfl, hN2, hp2, hx5⟩; have hby : Below V.heap.size V w5 := hby.trans (hx5.mono hby.size))
      | (go_at_call 29; refine (L2.out _ _ _ _ _ _ _ hN2 ((HN.out.below hby (Nat.le_refl _)).more hby.size)).mono ?_; clear L2; rintro e w6 ⟨rfl, hx6⟩; have hby : Below V.heap.size V w6 := hby.trans (hx6.mono hby.size)))
  have r0 := (HS.out.below hby (by omega))
  have c0 := r0.c 0 _ rfl
  have c1 := r0.c 1 _ rfl
  have HB6 := Lib.hid (HB.out.trans (hby.mono HB.out.size))
  have HN6 := HN.out.below hby (Nat.le_refl _)
  have hlen := Lib.hid HN6.len
  have hn1 : n ≤ 1000 := HN6.few64 (by unfold i64b; omega)
  have hrow := HN6.row
  obtain ⟨X, hX⟩ : ∃ X, X = z.natAbs := ⟨_, rfl⟩
  rw [← hX] at hlen hrow
  have HZ : Hid (z = ((X : Nat) : Int)) := Lib.hid (by omega)
  have hX2 : X ≤ 9223372036854775808 := by omega
  have hX3 : X ≤ 9223372036854775807 := by omega
  have H0 : Hid (X / 10 ^ n = 0) := Lib.hid (div_pow_len (by rw [hlen.out]; omega))
  clear hX h HN6 HN HS r0 hby
  go_wp2_with fail
  go_loop [5, 6] (fun u i => ∃ (k : Nat) (q : Int), k ≤ n ∧ q = (k : Int) - 1 ∧ i = .int .i64 q ∧ u = .int .i64 ((X / 10 ^ k : Nat) : Int)) (fun _ i => (intOf i + 1).toNat)
  case atStart => exact ⟨n, _, Nat.le_refl _, rfl, rfl, by rw [H0.out]; rfl⟩
  case round =>
    obtain ⟨k, q, hk, hq, rfl, rfl⟩ := hrel
    rcases Nat.eq_zero_or_pos k with rfl | hk0
    · have t0 : decide ((0 : Int) ≤ q) = false := decide_eq_false (by omega)
      have hz1 : q < 0 := by omega
      have e0 : X / 10 ^ 0 = X := by simp
      rw [e0, ← HZ.out]
      clear hq e0
      go_wp2_with fail
      exact bodyPost_ret (v := .tuple #[.int .i64 z, .int .i64 0]) (by simp [results, Tryd.results10, go_sem]) rfl ⟨rfl, HB6.out⟩
    · obtain ⟨j, rfl⟩ : ∃ j, k = j + 1 := ⟨k - 1, by omega⟩
      have HST := Lib.hid (div_pow_step X j)
      have hd9 := dig_le X j
      obtain ⟨u, hu⟩ : ∃ u, u = X / 10 ^ (j + 1) := ⟨_, rfl⟩
      rw [← hu] at HST ⊢
      have hVj : X / 10 ^ j ≤ X := Nat.div_le_self _ _
      have hu2 : dig X j + 10 * u ≤ X := by have := HST.out; omega
      have hz1 : (0 : Int) ≤ q := by omega
      have hz2 : q < (n : Int) := by omega
      have hz3 : q.toNat = j := by omega
      have HQ : Hid (q - 1 = (j : Int) - 1) := Lib.hid (by omega)
      have HQ2 : Hid (q = (j : Int)) := Lib.hid (by omega)
      have t0 : decide ((0 : Int) ≤ q) = true := decide_eq_true hz1
      obtain ⟨ad, d, rfl, hb, hx, hm', hc, _, _⟩ := hrow.get (k := j) (by omega)
      have hd : d = dig X j := by rw [digs_get _ _ (by rw [hlen.out]; omega)] at hx; injection hx with hx; exact hx.symm
      have hd0 : 0 ≤ d ∧ d ≤ 9 := by omega
      have hu3 : d + 10 * (u : Int) ≤ X := by omega
      have HD := Lib.hid hd
      clear hq hu hVj hx hm' hd
      go_wp2_with fail
      go_round
      case rel => exact ⟨j, q - 1, by omega, HQ.out, rfl, by have h1 := HST.out; have h2 := HD.out; rw [h1, h2]; congr 1; omega⟩
      case measure => simp only [intOf]; have := HQ2.out; omega

theorem rint_any (a : Pt) (w : World) (ha : a.b) : Calls Tryd.prog 10 #[ptV a] w (NE w (wInt a)) := by
  cases hi : wIs a with
  | false => exact rint_no a w ha hi
  | true =>
    rcases Int.lt_or_le (wval a) (-9223372036854775808) with h | h
    · exact rint_low a w ha hi h
    · rcases Int.lt_or_le 9223372036854775807 (wval a) with h2 | h2
      · exact rint_high a w ha hi h2
      · rcases Int.lt_or_le (wval a) 0 with h3 | h3
        · exact rint_neg a w ha hi ⟨h, h3⟩
        · exact rint_pos a w ha hi ⟨h3, h2⟩
end Go.Proofs.YtcllghcplphijaaDoor
