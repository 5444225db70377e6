/-
  THE LAW WideInt.
-/
import Derived.Test.YtcllghcplphijaaDoorWideWalkK
set_option linter.unusedVariables false
set_option linter.unusedSimpArgs false
set_option maxRecDepth 8000
namespace Go.Proofs.YtcllghcplphijaaDoor
open Go.RowKit

/-- a law answers true -/
def Yes (w : World) (e : Ending) (w' : World) : Prop := e = .returned (.bool true) ∧ Below w.heap.size w w'

theorem wIs_wOf {n : Int} (h : i64b n) : wIs (wOf n) = true := by
  unfold i64b at h
  rw [wIs_iff]; unfold wOf; simp only; omega
theorem wOf_b {n : Int} (h : i64b n) : (wOf n).b := by
  unfold i64b at h
  unfold Pt.b i64b wOf; simp only; omega
theorem wInt_wOf {n : Int} (h : i64b n) : wInt (wOf n) = (n, 0) := by
  unfold wInt; rw [if_pos (wIs_wOf h), wval_wOf]; exact if_pos h

set_option maxHeartbeats 3200000 in
theorem wideint_1 (n : Int) (a : Pt) (w : World) (hn : i64b n) (ha : a.b) (hT : TabB w) (k : Int) (h1 : wInt a = (k, 0)) (h2 : i64b k) (h3 : wOf k = a) : Calls Tryd.prog 4 #[.int .i64 n, ptV a] w (Yes w) := by
  have K1 := Lib.hid (fun W => of_any n W hn)
  have K2 := Lib.hid (fun W => wint_any (wOf n) W (wOf_b hn))
  have K3 := Lib.hid (fun W => of_any n W hn)
  have K4 := Lib.hid (fun W => is_any (wOf n) W (wOf_b hn))
  have K5 := Lib.hid (fun W => wint_any a W ha)
  have T1 := Lib.hid (fun W hW => widened_any W hW)
  rw [wInt_wOf hn] at K2
  rw [wIs_wOf hn] at K4
  obtain ⟨⟨u, v⟩, hm⟩ : ∃ m, wOf n = m := ⟨_, rfl⟩
  rw [hm] at K1 K2 K3 K4
  have HTB := Lib.hid hT; clear hT hm
  · have K6 := Lib.hid (fun W => of_any k W h2)
    rw [h3] at K6
    rw [h1] at K5
    clear h1 h2 h3
    obtain ⟨x, y⟩ := a
    unfold NE ptV at *
    simp only at K1 K2 K3 K4 K5 K6
    obtain ⟨s1, hb, hz⟩ := one_slot w [.int .i64 x, .int .i64 y] #[.int .i64 x, .int .i64 y] 23 rfl
    go_enter Tryd.func4, Tryd.ntmps4
    go_wp2_with fail
    generalize hW : w.alloc (.cells #[.int .i64 x, .int .i64 y] 23) = W at s1 hb hz ⊢
    refine (K1.out W).mono ?_
    clear K1 hW
    rintro e w1 ⟨rfl, b1⟩
    go_wp2_with fail
    refine (K2.out w1).mono ?_
    clear K2
    rintro e w2 ⟨rfl, b2⟩
    go_wp2_with fail
    refine (K3.out w2).mono ?_
    clear K3
    rintro e w3 ⟨rfl, b3⟩
    go_wp2_with fail
    refine (K4.out w3).mono ?_
    clear K4
    rintro e w4 ⟨rfl, b4⟩
    have hb4 := ((b1.trans (b2.mono b1.size)).trans (b3.mono (Nat.le_trans b1.size b2.size))).trans (b4.mono (Nat.le_trans (Nat.le_trans b1.size b2.size) b3.size))
    have P1 := s1.below hb4 (by omega)
    have c0 := P1.c 0 _ rfl
    have c1 := P1.c 1 _ rfl
    have HB4 := Lib.hid (hb.trans (hb4.mono (by omega)))
    have hz4 := hb4.size
    have HP1 := Lib.hid P1
    clear s1 hb hb4 b1 b2 b3 b4 P1
    go_wp2_with fail
    refine (K5.out w4).mono ?_
    clear K5
    rintro e w5 ⟨rfl, b5⟩
    have P1 := HP1.out.below b5 (by omega)
    have HB5 := Lib.hid (HB4.out.trans (b5.mono HB4.out.size))
    have hz5 := b5.size
    clear c0 c1 HB4 HP1 b5
    have k0 := P1.c 0 _ rfl
    have k1 := P1.c 1 _ rfl
    clear P1
    go_wp2_with fail
    go_region_held3 (fun w' => w'.cell? ⟨w.heap.size, 0, none⟩ = some (.int .i64 x) ∧ w'.cell? ⟨w.heap.size, 1, none⟩ = some (.int .i64 y))
      (refine ⟨?_, ?_⟩ <;> (first | with_reducible assumption | (rw [hby.cell (by (try dsimp only); omega)]; with_reducible assumption) | (go_keep; done)))
      (first
        | (go_at_call 13; refine (T1.out _ (HTB.out.on HB5.out.drew)).mono ?_; clear T1; rintro e wx ⟨rfl, hbx⟩; have hby : Below w5.heap.size w5 wx := (Below.refl _ w5).drew.trans (hbx.mono (by simp)))
        | (go_at_call 18; refine (K6.out _).mono ?_; clear K6; rintro e wx ⟨rfl, hbx⟩; have hby : Below w5.heap.size w5 wx := hby.trans (hbx.mono hby.size)))
    all_goals
      go_wp2_with fail
      go_ret
      exact ⟨rfl, HB5.out.trans (hby.mono (by omega))⟩
set_option maxHeartbeats 3200000 in
theorem wideint_2 (n : Int) (a : Pt) (w : World) (hn : i64b n) (ha : a.b) (hT : TabB w) (h1 : wInt a = (0, 1)) (h2 : wIs a = false) : Calls Tryd.prog 4 #[.int .i64 n, ptV a] w (Yes w) := by
  have K1 := Lib.hid (fun W => of_any n W hn)
  have K2 := Lib.hid (fun W => wint_any (wOf n) W (wOf_b hn))
  have K3 := Lib.hid (fun W => of_any n W hn)
  have K4 := Lib.hid (fun W => is_any (wOf n) W (wOf_b hn))
  have K5 := Lib.hid (fun W => wint_any a W ha)
  have T1 := Lib.hid (fun W hW => widened_any W hW)
  rw [wInt_wOf hn] at K2
  rw [wIs_wOf hn] at K4
  obtain ⟨⟨u, v⟩, hm⟩ : ∃ m, wOf n = m := ⟨_, rfl⟩
  rw [hm] at K1 K2 K3 K4
  have HTB := Lib.hid hT; clear hT hm
  · have K6 := Lib.hid (fun W => is_any a W ha)
    rw [h2] at K6
    rw [h1] at K5
    clear h1 h2
    obtain ⟨x, y⟩ := a
    unfold NE ptV at *
    simp only at K1 K2 K3 K4 K5 K6
    obtain ⟨s1, hb, hz⟩ := one_slot w [.int .i64 x, .int .i64 y] #[.int .i64 x, .int .i64 y] 23 rfl
    go_enter Tryd.func4, Tryd.ntmps4
    go_wp2_with fail
    generalize hW : w.alloc (.cells #[.int .i64 x, .int .i64 y] 23) = W at s1 hb hz ⊢
    refine (K1.out W).mono ?_
    clear K1 hW
    rintro e w1 ⟨rfl, b1⟩
    go_wp2_with fail
    refine (K2.out w1).mono ?_
    clear K2
    rintro e w2 ⟨rfl, b2⟩
    go_wp2_with fail
    refine (K3.out w2).mono ?_
    clear K3
    rintro e w3 ⟨rfl, b3⟩
    go_wp2_with fail
    refine (K4.out w3).mono ?_
    clear K4
    rintro e w4 ⟨rfl, b4⟩
    have hb4 := ((b1.trans (b2.mono b1.size)).trans (b3.mono (Nat.le_trans b1.size b2.size))).trans (b4.mono (Nat.le_trans (Nat.le_trans b1.size b2.size) b3.size))
    have P1 := s1.below hb4 (by omega)
    have c0 := P1.c 0 _ rfl
    have c1 := P1.c 1 _ rfl
    have HB4 := Lib.hid (hb.trans (hb4.mono (by omega)))
    have hz4 := hb4.size
    have HP1 := Lib.hid P1
    clear s1 hb hb4 b1 b2 b3 b4 P1
    go_wp2_with fail
    refine (K5.out w4).mono ?_
    clear K5
    rintro e w5 ⟨rfl, b5⟩
    have P1 := HP1.out.below b5 (by omega)
    have HB5 := Lib.hid (HB4.out.trans (b5.mono HB4.out.size))
    have hz5 := b5.size
    clear c0 c1 HB4 HP1 b5
    have k0 := P1.c 0 _ rfl
    have k1 := P1.c 1 _ rfl
    clear P1
    go_wp2_with fail
    (go_region_with (first
      | (go_at_call 13; refine (T1.out _ (HTB.out.on HB5.out.drew)).mono ?_; clear T1; rintro e wx ⟨rfl, hbx⟩; have hby : Below w5.heap.size w5 wx := (Below.refl _ w5).drew.trans (hbx.mono (by simp)); (have k2 := hby.cell (p := ⟨w.heap.size, 0, none⟩) (by (try dsimp only); omega)); (have k3 := hby.cell (p := ⟨w.heap.size, 1, none⟩) (by (try dsimp only); omega)); rw [k0] at k2; rw [k1] at k3)
      | (go_at_call 19; refine (K6.out _).mono ?_; clear K6; rintro e wx ⟨rfl, hbx⟩; have hby : Below w5.heap.size w5 wx := hby.trans (hbx.mono hby.size); (have k2 := hby.cell (p := ⟨w.heap.size, 0, none⟩) (by (try dsimp only); omega)); (have k3 := hby.cell (p := ⟨w.heap.size, 1, none⟩) (by (try dsimp only); omega)); rw [k0] at k2; rw [k1] at k3)))
    all_goals
      go_wp2_with fail
      go_ret
      exact ⟨rfl, HB5.out.trans (hby.mono (by omega))⟩
set_option maxHeartbeats 3200000 in
theorem wideint_3 (n : Int) (a : Pt) (w : World) (hn : i64b n) (ha : a.b) (hT : TabB w) (h1 : wInt a = (0, 4)) (h2 : wIs a = true) (h3 : wCmp a (wOf (-9223372036854775808)) < 0) : Calls Tryd.prog 4 #[.int .i64 n, ptV a] w (Yes w) := by
  have K1 := Lib.hid (fun W => of_any n W hn)
  have K2 := Lib.hid (fun W => wint_any (wOf n) W (wOf_b hn))
  have K3 := Lib.hid (fun W => of_any n W hn)
  have K4 := Lib.hid (fun W => is_any (wOf n) W (wOf_b hn))
  have K5 := Lib.hid (fun W => wint_any a W ha)
  have T1 := Lib.hid (fun W hW => widened_any W hW)
  rw [wInt_wOf hn] at K2
  rw [wIs_wOf hn] at K4
  obtain ⟨⟨u, v⟩, hm⟩ : ∃ m, wOf n = m := ⟨_, rfl⟩
  rw [hm] at K1 K2 K3 K4
  have HTB := Lib.hid hT; clear hT hm
  · have K6 := Lib.hid (fun W => is_any a W ha)
    have K7 := Lib.hid (fun W => of_any (-9223372036854775808) W (by unfold i64b; omega))
    have K8 := Lib.hid (fun W => wcmp_any a (wOf (-9223372036854775808)) W ha (by unfold Pt.b i64b wOf; decide))
    rw [h2] at K6
    rw [h1] at K5
    obtain ⟨c, hc⟩ : ∃ c, wCmp a (wOf (-9223372036854775808)) = c := ⟨_, rfl⟩
    rw [hc] at K8 h3
    obtain ⟨⟨m0, m1⟩, hm⟩ : ∃ m, (wOf (-9223372036854775808)) = m := ⟨_, rfl⟩
    rw [hm] at K7 K8
    have d1 : decide (c < 0) = true := decide_eq_true h3
    clear h1 h2 h3 hc hm
    obtain ⟨x, y⟩ := a
    unfold NE ptV at *
    simp only at K1 K2 K3 K4 K5 K6 K7 K8
    obtain ⟨s1, hb, hz⟩ := one_slot w [.int .i64 x, .int .i64 y] #[.int .i64 x, .int .i64 y] 23 rfl
    go_enter Tryd.func4, Tryd.ntmps4
    go_wp2_with fail
    generalize hW : w.alloc (.cells #[.int .i64 x, .int .i64 y] 23) = W at s1 hb hz ⊢
    refine (K1.out W).mono ?_
    clear K1 hW
    rintro e w1 ⟨rfl, b1⟩
    go_wp2_with fail
    refine (K2.out w1).mono ?_
    clear K2
    rintro e w2 ⟨rfl, b2⟩
    go_wp2_with fail
    refine (K3.out w2).mono ?_
    clear K3
    rintro e w3 ⟨rfl, b3⟩
    go_wp2_with fail
    refine (K4.out w3).mono ?_
    clear K4
    rintro e w4 ⟨rfl, b4⟩
    have hb4 := ((b1.trans (b2.mono b1.size)).trans (b3.mono (Nat.le_trans b1.size b2.size))).trans (b4.mono (Nat.le_trans (Nat.le_trans b1.size b2.size) b3.size))
    have P1 := s1.below hb4 (by omega)
    have c0 := P1.c 0 _ rfl
    have c1 := P1.c 1 _ rfl
    have HB4 := Lib.hid (hb.trans (hb4.mono (by omega)))
    have hz4 := hb4.size
    have HP1 := Lib.hid P1
    clear s1 hb hb4 b1 b2 b3 b4 P1
    go_wp2_with fail
    refine (K5.out w4).mono ?_
    clear K5
    rintro e w5 ⟨rfl, b5⟩
    have P1 := HP1.out.below b5 (by omega)
    have HB5 := Lib.hid (HB4.out.trans (b5.mono HB4.out.size))
    have hz5 := b5.size
    clear c0 c1 HB4 HP1 b5
    have k0 := P1.c 0 _ rfl
    have k1 := P1.c 1 _ rfl
    clear P1
    go_wp2_with fail
    (go_region_with (first
      | (go_at_call 13; refine (T1.out _ (HTB.out.on HB5.out.drew)).mono ?_; clear T1; rintro e wx ⟨rfl, hbx⟩; have hby : Below w5.heap.size w5 wx := (Below.refl _ w5).drew.trans (hbx.mono (by simp)); (have k2 := hby.cell (p := ⟨w.heap.size, 0, none⟩) (by (try dsimp only); omega)); (have k3 := hby.cell (p := ⟨w.heap.size, 1, none⟩) (by (try dsimp only); omega)); rw [k0] at k2; rw [k1] at k3)
      | (go_at_call 19; refine (K6.out _).mono ?_; clear K6; rintro e wx ⟨rfl, hbx⟩; have hby : Below w5.heap.size w5 wx := hby.trans (hbx.mono hby.size); (have k2 := hby.cell (p := ⟨w.heap.size, 0, none⟩) (by (try dsimp only); omega)); (have k3 := hby.cell (p := ⟨w.heap.size, 1, none⟩) (by (try dsimp only); omega)); rw [k0] at k2; rw [k1] at k3)
      | (go_at_call 18; refine (K7.out _).mono ?_; clear K7; rintro e wx ⟨rfl, hbx⟩; have hby : Below w5.heap.size w5 wx := hby.trans (hbx.mono hby.size); (have k2 := hby.cell (p := ⟨w.heap.size, 0, none⟩) (by (try dsimp only); omega)); (have k3 := hby.cell (p := ⟨w.heap.size, 1, none⟩) (by (try dsimp only); omega)); rw [k0] at k2; rw [k1] at k3)
      | (go_at_call 14; refine (K8.out _).mono ?_; clear K8; rintro e wx ⟨rfl, hbx⟩; have hby : Below w5.heap.size w5 wx := hby.trans (hbx.mono hby.size); (have k2 := hby.cell (p := ⟨w.heap.size, 0, none⟩) (by (try dsimp only); omega)); (have k3 := hby.cell (p := ⟨w.heap.size, 1, none⟩) (by (try dsimp only); omega)); rw [k0] at k2; rw [k1] at k3)))
    all_goals
      go_wp2_with fail
      go_ret
      exact ⟨rfl, HB5.out.trans (hby.mono (by omega))⟩
set_option maxHeartbeats 3200000 in
theorem wideint_4 (n : Int) (a : Pt) (w : World) (hn : i64b n) (ha : a.b) (hT : TabB w) (h1 : wInt a = (0, 4)) (h2 : wIs a = true) (h3 : ¬ wCmp a (wOf (-9223372036854775808)) < 0) (h4 : 0 < wCmp a (wOf 9223372036854775807)) : Calls Tryd.prog 4 #[.int .i64 n, ptV a] w (Yes w) := by
  have K1 := Lib.hid (fun W => of_any n W hn)
  have K2 := Lib.hid (fun W => wint_any (wOf n) W (wOf_b hn))
  have K3 := Lib.hid (fun W => of_any n W hn)
  have K4 := Lib.hid (fun W => is_any (wOf n) W (wOf_b hn))
  have K5 := Lib.hid (fun W => wint_any a W ha)
  have T1 := Lib.hid (fun W hW => widened_any W hW)
  rw [wInt_wOf hn] at K2
  rw [wIs_wOf hn] at K4
  obtain ⟨⟨u, v⟩, hm⟩ : ∃ m, wOf n = m := ⟨_, rfl⟩
  rw [hm] at K1 K2 K3 K4
  have HTB := Lib.hid hT; clear hT hm
  · have K6 := Lib.hid (fun W => is_any a W ha)
    have K7 := Lib.hid (fun W => of_any (-9223372036854775808) W (by unfold i64b; omega))
    have K8 := Lib.hid (fun W => wcmp_any a (wOf (-9223372036854775808)) W ha (by unfold Pt.b i64b wOf; decide))
    have K9 := Lib.hid (fun W => of_any 9223372036854775807 W (by unfold i64b; omega))
    have K10 := Lib.hid (fun W => wcmp_any a (wOf 9223372036854775807) W ha (by unfold Pt.b i64b wOf; decide))
    rw [h2] at K6
    rw [h1] at K5
    obtain ⟨c, hc⟩ : ∃ c, wCmp a (wOf (-9223372036854775808)) = c := ⟨_, rfl⟩
    rw [hc] at K8 h3
    obtain ⟨⟨m0, m1⟩, hm⟩ : ∃ m, (wOf (-9223372036854775808)) = m := ⟨_, rfl⟩
    rw [hm] at K7 K8
    obtain ⟨c', hc'⟩ : ∃ c, wCmp a (wOf 9223372036854775807) = c := ⟨_, rfl⟩
    rw [hc'] at K10 h4
    obtain ⟨⟨m2, m3⟩, hm'⟩ : ∃ m, (wOf 9223372036854775807) = m := ⟨_, rfl⟩
    rw [hm'] at K9 K10
    have d1 : decide (c < 0) = false := decide_eq_false h3
    have d2 : decide (0 < c') = true := decide_eq_true h4
    clear h1 h2 h3 h4 hc hm hc' hm'
    obtain ⟨x, y⟩ := a
    unfold NE ptV at *
    simp only at K1 K2 K3 K4 K5 K6 K7 K8 K9 K10
    obtain ⟨s1, hb, hz⟩ := one_slot w [.int .i64 x, .int .i64 y] #[.int .i64 x, .int .i64 y] 23 rfl
    go_enter Tryd.func4, Tryd.ntmps4
    go_wp2_with fail
    generalize hW : w.alloc (.cells #[.int .i64 x, .int .i64 y] 23) = W at s1 hb hz ⊢
    refine (K1.out W).mono ?_
    clear K1 hW
    rintro e w1 ⟨rfl, b1⟩
    go_wp2_with fail
    refine (K2.out w1).mono ?_
    clear K2
    rintro e w2 ⟨rfl, b2⟩
    go_wp2_with fail
    refine (K3.out w2).mono ?_
    clear K3
    rintro e w3 ⟨rfl, b3⟩
    go_wp2_with fail
    refine (K4.out w3).mono ?_
    clear K4
    rintro e w4 ⟨rfl, b4⟩
    have hb4 := ((b1.trans (b2.mono b1.size)).trans (b3.mono (Nat.le_trans b1.size b2.size))).trans (b4.mono (Nat.le_trans (Nat.le_trans b1.size b2.size) b3.size))
    have P1 := s1.below hb4 (by omega)
    have c0 := P1.c 0 _ rfl
    have c1 := P1.c 1 _ rfl
    have HB4 := Lib.hid (hb.trans (hb4.mono (by omega)))
    have hz4 := hb4.size
    have HP1 := Lib.hid P1
    clear s1 hb hb4 b1 b2 b3 b4 P1
    go_wp2_with fail
    refine (K5.out w4).mono ?_
    clear K5
    rintro e w5 ⟨rfl, b5⟩
    have P1 := HP1.out.below b5 (by omega)
    have HB5 := Lib.hid (HB4.out.trans (b5.mono HB4.out.size))
    have hz5 := b5.size
    clear c0 c1 HB4 HP1 b5
    have k0 := P1.c 0 _ rfl
    have k1 := P1.c 1 _ rfl
    clear P1
    go_wp2_with fail
    go_region_held3 (fun w' => w'.cell? ⟨w.heap.size, 0, none⟩ = some (.int .i64 x) ∧ w'.cell? ⟨w.heap.size, 1, none⟩ = some (.int .i64 y))
      (refine ⟨?_, ?_⟩ <;> (first | with_reducible assumption | (rw [hby.cell (by (try dsimp only); omega)]; with_reducible assumption) | (go_keep; done)))
      (first
        | (go_at_call 13; refine (T1.out _ (HTB.out.on HB5.out.drew)).mono ?_; clear T1; rintro e wx ⟨rfl, hbx⟩; have hby : Below w5.heap.size w5 wx := (Below.refl _ w5).drew.trans (hbx.mono (by simp)))
        | (go_at_call 19; refine (K6.out _).mono ?_; clear K6; rintro e wx ⟨rfl, hbx⟩; have hby : Below w5.heap.size w5 wx := hby.trans (hbx.mono hby.size))
        | (go_at_call 18; refine (K7.out _).mono ?_; clear K7; rintro e wx ⟨rfl, hbx⟩; have hby : Below w5.heap.size w5 wx := hby.trans (hbx.mono hby.size))
        | (go_at_call 14; refine (K8.out _).mono ?_; clear K8; rintro e wx ⟨rfl, hbx⟩; have hby : Below w5.heap.size w5 wx := hby.trans (hbx.mono hby.size))
        | (go_at_call 18; refine (K9.out _).mono ?_; clear K9; rintro e wx ⟨rfl, hbx⟩; have hby : Below w5.heap.size w5 wx := hby.trans (hbx.mono hby.size))
        | (go_at_call 14; refine (K10.out _).mono ?_; clear K10; rintro e wx ⟨rfl, hbx⟩; have hby : Below w5.heap.size w5 wx := hby.trans (hbx.mono hby.size)))
    all_goals
      go_wp2_with fail
      go_ret
      exact ⟨rfl, HB5.out.trans (hby.mono (by omega))⟩
theorem wideint_any (n : Int) (a : Pt) (w : World) (hn : i64b n) (ha : a.b) (hT : TabB w) : Calls Tryd.prog 4 #[.int .i64 n, ptV a] w (Yes w) := by
  cases hi : wIs a with
  | false => exact wideint_2 n a w hn ha hT (by unfold wInt; rw [hi]; rfl) hi
  | true =>
    have h' := (wIs_iff a).1 hi
    by_cases h1 : wCmp a (wOf (-9223372036854775808)) < 0
    · exact wideint_3 n a w hn ha hT (by rw [wint_cmp hi, if_pos h1]) hi h1
    · by_cases h2 : 0 < wCmp a (wOf 9223372036854775807)
      · exact wideint_4 n a w hn ha hT (by rw [wint_cmp hi, if_neg h1, if_pos h2]) hi h1 h2
      · refine wideint_1 n a w hn ha hT (wval a) (by rw [wint_cmp hi, if_neg h1, if_neg h2]) ?_ (wOf_wval ⟨h'.1, h'.2.1⟩)
        rw [wCmp_num ⟨h'.1, h'.2.1⟩ (by decide), wval_wOf] at h1 h2
        unfold i64b
        constructor
        · split at h1
          · omega
          · split at h1 <;> omega
        · split at h2
          · omega
          · split at h2 <;> omega
end Go.Proofs.YtcllghcplphijaaDoor
