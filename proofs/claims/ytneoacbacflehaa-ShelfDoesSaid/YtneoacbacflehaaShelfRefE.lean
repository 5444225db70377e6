/-
  THE WALK OF limewashref17.Rise: the refusals.
-/
import Derived.Test.YtneoacbacflehaaShelfRefD
import Derived.Test.YtneoacbacflehaaShelfWalkB
set_option linter.unusedVariables false
set_option linter.unusedSimpArgs false
namespace Go.Proofs.Ytneoacbacflehaa
open Go.RowKit

theorem rrise_no (A : Option Addr) (n c : Nat) (sky : List Int) (r : Rc) (w : World) (hI : Ints w w.heap.size A n sky) (hr : r.b) (hno : riseOk sky r = false) :
    Calls Try.prog 13 #[.slice A n c, .agg #[.int .i64 r.x, .int .i64 r.y, .int .i64 r.w, .int .i64 r.h]] w (RiseRes sky r w) := by
  have hl := Lib.hid hI.length
  have hn := hI.len
  have HS := Lib.hid (fun W (hW : Below w.heap.size w W) => rsky_any _ A n c sky W (hI.below hW (Nat.le_refl _)))
  have HNO := Lib.hid (riseF_no hno)
  have hok := Lib.hid (mt (riseOk_iff (sky := sky) (r := r)).2 (by rw [hno]; simp))
  clear hno
  obtain ⟨x, y, ww, h⟩ := r
  obtain ⟨⟨hx1, hx2⟩, ⟨hy1, hy2⟩, ⟨hw1, hw2⟩, ⟨hh1, hh2⟩⟩ := hr
  simp only at hx1 hx2 hy1 hy2 hw1 hw2 hh1 hh2
  have W := Lib.hid (fun V => rwithin_any ww V)
  have H := Lib.hid (fun V => rwithin_any h V)
  cases s0 : skyOk sky
  · rw [s0] at HS
    go_enter Try.func13, Try.ntmps13
    go_wp2_with fail
    refine (HS.out _ ((Below.refl _ _).alloc (Nat.le_refl _) _)).mono ?_
    rintro e w1 ⟨rfl, rfl⟩
    go_wp2_with fail
    go_ret2
    unfold RiseRes
    rw [HNO.out]
    exact ListRes.none_ rfl ((Below.refl _ _).alloc (Nat.le_refl _) _)
  rw [s0] at HS
  cases s1 : texel ww
  · rw [s1] at W
    go_enter Try.func13, Try.ntmps13
    go_wp2_with fail
    refine (HS.out _ ((Below.refl _ _).alloc (Nat.le_refl _) _)).mono ?_
    rintro e w1 ⟨rfl, rfl⟩
    go_wp2_with fail
    refine (W.out _).mono ?_
    rintro e w1 ⟨rfl, rfl⟩
    go_wp2_with fail
    go_ret2
    unfold RiseRes
    rw [HNO.out]
    exact ListRes.none_ rfl ((Below.refl _ _).alloc (Nat.le_refl _) _)
  rw [s1] at W
  cases s2 : texel h
  · rw [s2] at H
    go_enter Try.func13, Try.ntmps13
    go_wp2_with fail
    refine (HS.out _ ((Below.refl _ _).alloc (Nat.le_refl _) _)).mono ?_
    rintro e w1 ⟨rfl, rfl⟩
    go_wp2_with fail
    refine (W.out _).mono ?_
    rintro e w1 ⟨rfl, rfl⟩
    go_wp2_with fail
    refine (H.out _).mono ?_
    rintro e w1 ⟨rfl, rfl⟩
    go_wp2_with fail
    go_ret2
    unfold RiseRes
    rw [HNO.out]
    exact ListRes.none_ rfl ((Below.refl _ _).alloc (Nat.le_refl _) _)
  rw [s2] at H
  obtain ⟨_, _⟩ := texel_iff.1 s1
  obtain ⟨_, _⟩ := texel_iff.1 s2
  by_cases c0 : 0 ≤ x
  case neg =>
    have d0 : decide (x < 0) = true := decide_eq_true (by omega)
    go_enter Try.func13, Try.ntmps13
    go_wp2_with fail
    refine (HS.out _ ((Below.refl _ _).alloc (Nat.le_refl _) _)).mono ?_
    rintro e w1 ⟨rfl, rfl⟩
    go_wp2_with fail
    refine (W.out _).mono ?_
    rintro e w1 ⟨rfl, rfl⟩
    go_wp2_with fail
    refine (H.out _).mono ?_
    rintro e w1 ⟨rfl, rfl⟩
    go_wp2_with fail
    go_ret2
    unfold RiseRes
    rw [HNO.out]
    exact ListRes.none_ rfl ((Below.refl _ _).alloc (Nat.le_refl _) _)
  have d0 : decide (x < 0) = false := decide_eq_false (by omega)
  by_cases c1 : x ≤ (n : Int) - ww
  case neg =>
    have d1 : decide ((n : Int) - ww < x) = true := decide_eq_true (by omega)
    go_enter Try.func13, Try.ntmps13
    go_wp2_with fail
    refine (HS.out _ ((Below.refl _ _).alloc (Nat.le_refl _) _)).mono ?_
    rintro e w1 ⟨rfl, rfl⟩
    go_wp2_with fail
    refine (W.out _).mono ?_
    rintro e w1 ⟨rfl, rfl⟩
    go_wp2_with fail
    refine (H.out _).mono ?_
    rintro e w1 ⟨rfl, rfl⟩
    go_wp2_with fail
    go_ret2
    unfold RiseRes
    rw [HNO.out]
    exact ListRes.none_ rfl ((Below.refl _ _).alloc (Nat.le_refl _) _)
  have d1 : decide ((n : Int) - ww < x) = false := decide_eq_false (by omega)
  by_cases c2 : 0 ≤ y
  case neg =>
    have d2 : decide (y < 0) = true := decide_eq_true (by omega)
    go_enter Try.func13, Try.ntmps13
    go_wp2_with fail
    refine (HS.out _ ((Below.refl _ _).alloc (Nat.le_refl _) _)).mono ?_
    rintro e w1 ⟨rfl, rfl⟩
    go_wp2_with fail
    refine (W.out _).mono ?_
    rintro e w1 ⟨rfl, rfl⟩
    go_wp2_with fail
    refine (H.out _).mono ?_
    rintro e w1 ⟨rfl, rfl⟩
    go_wp2_with fail
    go_ret2
    unfold RiseRes
    rw [HNO.out]
    exact ListRes.none_ rfl ((Below.refl _ _).alloc (Nat.le_refl _) _)
  have d2 : decide (y < 0) = false := decide_eq_false (by omega)
  by_cases c3 : y ≤ 256 - h
  case neg =>
    have d3 : decide (256 - h < y) = true := decide_eq_true (by omega)
    go_enter Try.func13, Try.ntmps13
    go_wp2_with fail
    refine (HS.out _ ((Below.refl _ _).alloc (Nat.le_refl _) _)).mono ?_
    rintro e w1 ⟨rfl, rfl⟩
    go_wp2_with fail
    refine (W.out _).mono ?_
    rintro e w1 ⟨rfl, rfl⟩
    go_wp2_with fail
    refine (H.out _).mono ?_
    rintro e w1 ⟨rfl, rfl⟩
    go_wp2_with fail
    go_ret2
    unfold RiseRes
    rw [HNO.out]
    exact ListRes.none_ rfl ((Below.refl _ _).alloc (Nat.le_refl _) _)
  have d3 : decide (256 - h < y) = false := decide_eq_false (by omega)
  exact absurd ⟨s0, ⟨s1, s2⟩, c0, by rw [hl.out]; exact c1, c2, c3⟩ hok.out
end Go.Proofs.Ytneoacbacflehaa
