/-
  THE STEPS OF wide.Int.
-/
import Derived.Test.YtcllghcplphijaaDoorWideWalkD
set_option linter.unusedVariables false
set_option linter.unusedSimpArgs false
set_option maxRecDepth 4000
namespace Go.Proofs.YtcllghcplphijaaDoor
open Go.RowKit

/-- an int and an error's number are handed back -/
def NE (w : World) (r : Int × Int) (e : Ending) (w' : World) : Prop := e = .returned (.tuple #[.int .i64 r.1, .int .i64 r.2]) ∧ Below w.heap.size w w'

theorem wint_cmp {a : Pt} (h : wIs a = true) : wInt a = if wCmp a (wOf (-9223372036854775808)) < 0 then (0, 4) else if 0 < wCmp a (wOf 9223372036854775807) then (0, 4) else (wval a, 0) := by
  have h' := (wIs_iff a).1 h
  rw [wCmp_num ⟨h'.1, h'.2.1⟩ (by decide), wCmp_num ⟨h'.1, h'.2.1⟩ (by decide), wval_wOf, wval_wOf]
  unfold wInt
  rw [if_pos h]
  by_cases h1 : -9223372036854775808 ≤ wval a
  · by_cases h2 : wval a ≤ 9223372036854775807
    · rw [if_pos ⟨h1, h2⟩]
      repeat' split
      all_goals first | rfl | omega
    · rw [if_neg (by omega)]
      repeat' split
      all_goals first | rfl | omega
  · rw [if_neg (by omega)]
    repeat' split
    all_goals first | rfl | omega

theorem wint_no (a : Pt) (w : World) (ha : a.b) (hi : wIs a = false) : Calls Tryd.prog 9 #[ptV a] w (NE w (wInt a)) := by
  have e : wInt a = (0, 1) := by unfold wInt; rw [hi]; rfl
  rw [e]
  have HI := Lib.hid (fun W => is_any a W ha)
  rw [hi] at HI
  obtain ⟨x, y⟩ := a
  clear hi e
  unfold NE ptV at *
  simp only at HI
  obtain ⟨s1, hb, hz⟩ := one_slot w [.int .i64 x, .int .i64 y] #[.int .i64 x, .int .i64 y] 23 rfl
  go_enter Tryd.func9, Tryd.ntmps9
  go_wp2_with fail
  generalize hW : w.alloc (.cells #[.int .i64 x, .int .i64 y] 23) = W at s1 hb hz ⊢
  refine (HI.out W).mono ?_
  clear HI hW
  rintro e w1 ⟨rfl, hb1⟩
  have HB := Lib.hid (hb.trans (hb1.mono (by omega)))
  clear s1 hb hb1 hz
  go_wp2_with fail
  exact bodyPost_ret (v := .tuple #[.int .i64 0, .int .i64 1]) (by simp [results, Tryd.results9, go_sem]) rfl ⟨rfl, HB.out⟩

set_option maxHeartbeats 1600000 in
theorem wint_out (x y : Int) (w : World) (ha : (⟨x, y⟩ : Pt).b) (hi : wIs ⟨x, y⟩ = true) (h : wCmp ⟨x, y⟩ (wOf (-9223372036854775808)) < 0) : Calls Tryd.prog 9 #[ptV ⟨x, y⟩] w (NE w (wInt ⟨x, y⟩)) := by
  have e : wInt ⟨x, y⟩ = (0, 4) := by rw [wint_cmp hi, if_pos h]
  rw [e]
  have HI := Lib.hid (fun W => is_any ⟨x, y⟩ W ha)
  rw [hi] at HI
  have HO := Lib.hid (fun W => of_any (-9223372036854775808) W (by unfold i64b; omega))
  have HC := Lib.hid (fun W => wcmp_any ⟨x, y⟩ (wOf (-9223372036854775808)) W ha (by unfold Pt.b i64b wOf; decide))
  obtain ⟨c, hc⟩ : ∃ c, wCmp ⟨x, y⟩ (wOf (-9223372036854775808)) = c := ⟨_, rfl⟩
  rw [hc] at HC h
  obtain ⟨⟨m0, m1⟩, hm⟩ : ∃ m, wOf (-9223372036854775808) = m := ⟨_, rfl⟩
  rw [hm] at HO HC
  clear hc hm hi e
  have d1 : decide (c < 0) = true := decide_eq_true h
  unfold NE ptV at *
  simp only at HI HO HC
  obtain ⟨s1, hb, hz⟩ := one_slot w [.int .i64 x, .int .i64 y] #[.int .i64 x, .int .i64 y] 23 rfl
  go_enter Tryd.func9, Tryd.ntmps9
  go_wp2_with fail
  generalize hW : w.alloc (.cells #[.int .i64 x, .int .i64 y] 23) = W at s1 hb hz ⊢
  refine (HI.out W).mono ?_
  clear HI hW
  rintro e w1 ⟨rfl, hb1⟩
  have HB := Lib.hid (hb.trans (hb1.mono (by omega)))
  have r1 := s1.below hb1 (by omega)
  have hz1 := hb1.size
  have k0 := r1.c 0 _ rfl
  have k1 := r1.c 1 _ rfl
  clear s1 hb hb1 r1
  go_wp2_with fail
  (go_region_with (first
      | (go_at_call 18; refine (HO.out _).mono ?_; clear HO; rintro e wx ⟨rfl, hbx⟩; have hby : Below w1.heap.size w1 wx := (Below.refl _ w1).drew.trans (hbx.mono (by simp)); (have k2 := hby.cell (p := ⟨w.heap.size, 0, none⟩) (by (try dsimp only); omega)); (have k3 := hby.cell (p := ⟨w.heap.size, 1, none⟩) (by (try dsimp only); omega)); rw [k0] at k2; rw [k1] at k3)
      | (go_at_call 14; refine (HC.out _).mono ?_; clear HC; rintro e wy ⟨rfl, hbx⟩; have hby : Below w1.heap.size w1 wy := hby.trans (hbx.mono hby.size))))
  all_goals
    go_wp2_with fail
    exact bodyPost_ret (v := .tuple #[.int .i64 0, .int .i64 4]) (by simp [results, Tryd.results9, go_sem]) rfl ⟨rfl, HB.out.trans (hby.mono (by omega))⟩
set_option maxHeartbeats 3200000 in
theorem wint_in (x y : Int) (w : World) (ha : (⟨x, y⟩ : Pt).b) (hi : wIs ⟨x, y⟩ = true) (h : ¬ wCmp ⟨x, y⟩ (wOf (-9223372036854775808)) < 0) : Calls Tryd.prog 9 #[ptV ⟨x, y⟩] w (NE w (wInt ⟨x, y⟩)) := by
  have h' := (wIs_iff _).1 hi
  simp only at h'
  obtain ⟨i1, i2, i3, i4⟩ := h'
  have e := wint_cmp hi
  rw [if_neg h] at e
  rw [e]
  have hlo : -9223372036854775808 ≤ x * 1000000000000000000 + y := by
    rw [wCmp_num ⟨i1, i2⟩ (by decide), wval_wOf] at h
    have : wval ⟨x, y⟩ = x * 1000000000000000000 + y := rfl
    rw [this] at h
    split at h
    · omega
    · split at h <;> omega
  have hhi : ¬ 0 < wCmp ⟨x, y⟩ (wOf 9223372036854775807) → x * 1000000000000000000 + y ≤ 9223372036854775807 := by
    intro h
    rw [wCmp_num ⟨i1, i2⟩ (by decide), wval_wOf] at h
    have : wval ⟨x, y⟩ = x * 1000000000000000000 + y := rfl
    rw [this] at h
    split at h
    · omega
    · split at h <;> omega
  have HI := Lib.hid (fun W => is_any ⟨x, y⟩ W ha)
  rw [hi] at HI
  have HO1 := Lib.hid (fun W => of_any (-9223372036854775808) W (by unfold i64b; omega))
  have HC1 := Lib.hid (fun W => wcmp_any ⟨x, y⟩ (wOf (-9223372036854775808)) W ha (by unfold Pt.b i64b wOf; decide))
  have HO2 := Lib.hid (fun W => of_any 9223372036854775807 W (by unfold i64b; omega))
  have HC2 := Lib.hid (fun W => wcmp_any ⟨x, y⟩ (wOf 9223372036854775807) W ha (by unfold Pt.b i64b wOf; decide))
  obtain ⟨c, hc⟩ : ∃ c, wCmp ⟨x, y⟩ (wOf (-9223372036854775808)) = c := ⟨_, rfl⟩
  rw [hc] at HC1 h
  obtain ⟨⟨m0, m1⟩, hm⟩ : ∃ m, wOf (-9223372036854775808) = m := ⟨_, rfl⟩
  rw [hm] at HO1 HC1
  obtain ⟨c2, hc2⟩ : ∃ c, wCmp ⟨x, y⟩ (wOf 9223372036854775807) = c := ⟨_, rfl⟩
  rw [hc2] at HC2 hhi ⊢
  obtain ⟨⟨p0, p1⟩, hp⟩ : ∃ m, wOf 9223372036854775807 = m := ⟨_, rfl⟩
  rw [hp] at HO2 HC2
  clear hc hm hi e hc2 hp
  have d1 : decide (c < 0) = false := decide_eq_false h
  unfold NE ptV at *
  simp only at HI HO1 HC1 HO2 HC2
  obtain ⟨s1, hb, hz⟩ := one_slot w [.int .i64 x, .int .i64 y] #[.int .i64 x, .int .i64 y] 23 rfl
  have hcase : 0 < c2 ∨ ¬ 0 < c2 ∧ x < 0 ∨ ¬ 0 < c2 ∧ 0 ≤ x := by omega
  obtain ⟨r, hr⟩ : ∃ r : Int × Int, r = if 0 < c2 then (0, 4) else (wval ⟨x, y⟩, 0) := ⟨_, rfl⟩
  rw [← hr]
  have HR := Lib.hid hr; clear hr h
  rcases hcase with hh | ⟨hh, hx⟩ | ⟨hh, hx⟩
  case' inl =>
    have d2 : decide (0 < c2) = true := decide_eq_true hh
    have HV : Hid (r = (0, 4)) := Lib.hid (by rw [HR.out, if_pos hh])
  case' inr.inl =>
    have d2 : decide (0 < c2) = false := decide_eq_false hh
    have d3 : decide (x < 0) = true := decide_eq_true hx
    have hhi' := hhi hh
    have HV : Hid (r = (x * 1000000000000000000 + y, 0)) := Lib.hid (by rw [HR.out, if_neg hh]; rfl)
  case' inr.inr =>
    have d2 : decide (0 < c2) = false := decide_eq_false hh
    have d3 : decide (x < 0) = false := decide_eq_false (by omega)
    have hhi' := hhi hh
    have HV : Hid (r = (x * 1000000000000000000 + y, 0)) := Lib.hid (by rw [HR.out, if_neg hh]; rfl)
  all_goals
    clear hhi
    go_enter Tryd.func9, Tryd.ntmps9
    go_wp2_with fail
    generalize hW : w.alloc (.cells #[.int .i64 x, .int .i64 y] 23) = W at s1 hb hz ⊢
    refine (HI.out W).mono ?_
    clear HI hW
    rintro e w1 ⟨rfl, hb1⟩
    have HB := Lib.hid (hb.trans (hb1.mono (by omega)))
    have r1 := s1.below hb1 (by omega)
    have hz1 := hb1.size
    have k0 := r1.c 0 _ rfl
    have k1 := r1.c 1 _ rfl
    clear s1 hb hb1
    go_wp2_with fail
    go_region_held3 (fun w' => w'.cell? ⟨w.heap.size, 0, none⟩ = some (.int .i64 x) ∧ w'.cell? ⟨w.heap.size, 1, none⟩ = some (.int .i64 y))
      (refine ⟨?_, ?_⟩ <;> (first | with_reducible assumption | (rw [hby.cell (by (try dsimp only); omega)]; with_reducible assumption) | (go_keep; done)))
      (first
        | (go_at_call 18; refine (HO1.out _).mono ?_; clear HO1; rintro e wx ⟨rfl, hbx⟩; have hby : Below w1.heap.size w1 wx := (Below.refl _ w1).drew.trans (hbx.mono (by simp)))
        | (go_at_call 14; refine (HC1.out _).mono ?_; clear HC1; rintro e wx ⟨rfl, hbx⟩; have hby : Below w1.heap.size w1 wx := hby.trans (hbx.mono hby.size))
        | (go_at_call 18; refine (HO2.out _).mono ?_; clear HO2; rintro e wx ⟨rfl, hbx⟩; have hby : Below w1.heap.size w1 wx := hby.trans (hbx.mono hby.size))
        | (go_at_call 14; refine (HC2.out _).mono ?_; clear HC2; rintro e wx ⟨rfl, hbx⟩; have hby : Below w1.heap.size w1 wx := hby.trans (hbx.mono hby.size)))
    have HB2 := Lib.hid (HB.out.trans (hby.mono (by omega)))
    have r2 := r1.below hby (by omega)
    have q0 := r2.c 0 _ rfl
    have q1 := r2.c 1 _ rfl
  · go_wp2_with fail
    refine bodyPost_ret (v := .tuple #[.int .i64 (x * 1000000000000000000 + y), .int .i64 0]) (by simp [results, Tryd.results9, go_sem]; try omega) rfl ⟨by rw [HV.out], HB2.out⟩
  · go_wp2_with fail
    refine bodyPost_ret (v := .tuple #[.int .i64 (x * 1000000000000000000 + y), .int .i64 0]) (by simp [results, Tryd.results9, go_sem]; try omega) rfl ⟨by rw [HV.out], HB2.out⟩
  · go_wp2_with fail
    exact bodyPost_ret (v := .tuple #[.int .i64 0, .int .i64 4]) (by simp [results, Tryd.results9, go_sem]) rfl ⟨by rw [HV.out], HB2.out⟩

theorem wint_any (a : Pt) (w : World) (ha : a.b) : Calls Tryd.prog 9 #[ptV a] w (NE w (wInt a)) := by
  cases hi : wIs a with
  | false => exact wint_no a w ha hi
  | true =>
    by_cases h : wCmp a (wOf (-9223372036854775808)) < 0
    · exact wint_out a.x a.y w ha hi h
    · exact wint_in a.x a.y w ha hi h
end Go.Proofs.YtcllghcplphijaaDoor
