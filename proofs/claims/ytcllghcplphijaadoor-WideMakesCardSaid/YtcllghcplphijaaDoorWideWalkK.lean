/-
  THE STEPS OF limewashlaw01.widened.
-/
import Derived.Test.YtcllghcplphijaaDoorWideWalkG
import Derived.Test.YtcllghcplphijaaDoorWideWalkH
import Derived.Test.YtcllghcplphijaaDoorWideWalkI
import Derived.Test.YtcllghcplphijaaDoorWideWalkJ
set_option linter.unusedVariables false
set_option linter.unusedSimpArgs false
set_option maxRecDepth 8000
namespace Go.Proofs.YtcllghcplphijaaDoor
open Go.RowKit

theorem wtext_hund : wText ⟨-100, 0⟩ = [45, 49, 48, 48, 48, 48, 48, 48, 48, 48, 48, 48, 48, 48, 48, 48, 48, 48, 48, 48, 48, 48] := by
  have h1 : Lib.itoa 100 = [49, 48, 48] := by
    show Lib.itoa ((100 : Nat) : Int) = _
    rw [Lib.itoa_nonneg, Lib.decDigits, dif_neg (by decide), Lib.decDigits, dif_neg (by decide), Lib.decDigits, dif_pos (by decide)]
    rfl
  have h0 : Lib.itoa 0 = [48] := by
    show Lib.itoa ((0 : Nat) : Int) = _
    rw [Lib.itoa_nonneg, Lib.decDigits, dif_pos (by decide)]
    rfl
  have e1 : wText ⟨-100, 0⟩ = 45 :: wTextP ⟨100, 0⟩ := by
    unfold wText; rw [if_pos (by decide), if_pos (by decide)]; rfl
  have e2 : wTextP ⟨100, 0⟩ = Lib.itoa 100 ++ Lib.repeatL [48] (18 - (Lib.itoa 0).length) ++ Lib.itoa 0 := by
    unfold wTextP; rw [if_neg (by decide)]
  rw [e1, e2, h1, h0]
  rfl

set_option maxHeartbeats 3200000 in
theorem widened_any (w : World) (hT : TabB w) : Calls Tryd.prog 13 #[] w fun e w' => e = .returned (.bool true) ∧ Below w.heap.size w w' := by
  have K1 := Lib.hid (fun W => wmul_any 1000000000000 3000000 W (by unfold i64b; omega) (by unfold i64b; omega))
  have K2 := Lib.hid (fun W => wmul_any (-10000000000) 10000000000 W (by unfold i64b; omega) (by unfold i64b; omega))
  have K3 := Lib.hid (fun W => of_any (-7) W (by unfold i64b; omega))
  have K4 := Lib.hid (fun W => wdiv_any ⟨-1, 999999999999999993⟩ 2 W (by unfold Pt.b i64b; decide) (by unfold i64b; omega))
  have K5 := Lib.hid (fun W => wmul_any 1000000000000000001 0 W (by unfold i64b; omega) (by unfold i64b; omega))
  have K6 := Lib.hid (fun W => wint_any ⟨-100, 0⟩ W (by unfold Pt.b i64b; decide))
  have T1 := Lib.hid (fun W hW => wtext_any ⟨-100, 0⟩ W (by unfold Pt.b i64b; decide) hW)
  have T2 := Lib.hid (fun W => of_any (-4) W (by unfold i64b; omega))
  have T3 := Lib.hid (fun W => of_any (-1) W (by unfold i64b; omega))
  have T4 := Lib.hid (fun W => is_any ⟨-100, 0⟩ W (by unfold Pt.b i64b; decide))
  have T5 := Lib.hid (fun W => wcmp_any ⟨-100, 0⟩ ⟨3, 0⟩ W (by unfold Pt.b i64b; decide) (by unfold Pt.b i64b; decide))
  rw [show wMul 1000000000000 3000000 = (⟨3, 0⟩, 0) by decide] at K1
  rw [show wMul (-10000000000) 10000000000 = (⟨-100, 0⟩, 0) by decide] at K2
  rw [show wOf (-7) = ⟨-1, 999999999999999993⟩ by decide] at K3
  rw [show wDiv ⟨-1, 999999999999999993⟩ 2 = (⟨-1, 999999999999999996⟩, 1, 0) by decide] at K4
  rw [show wMul 1000000000000000001 0 = (⟨0, 0⟩, 2) by decide] at K5
  rw [show wInt ⟨-100, 0⟩ = (0, 4) by decide] at K6
  rw [wtext_hund] at T1
  rw [show wOf (-4) = ⟨-1, 999999999999999996⟩ by decide] at T2
  rw [show wOf (-1) = ⟨-1, 999999999999999999⟩ by decide] at T3
  rw [show wIs ⟨-100, 0⟩ = true by decide] at T4
  rw [show wCmp ⟨-100, 0⟩ ⟨3, 0⟩ = -1 by decide] at T5
  unfold PE PNE NE SR ptV at *
  simp only at K1 K2 K3 K4 K5 K6 T2 T3 T4 T5
  have HTB := Lib.hid hT; clear hT
  go_enter Tryd.func13, Tryd.ntmps13
  go_wp2_with fail
  refine (K1.out w).mono ?_
  clear K1
  rintro e w1 ⟨rfl, b1⟩
  have HB := Lib.hid b1; clear b1
  obtain ⟨s1, hb1, hz1⟩ := one_slot w1 [.int .i64 3, .int .i64 0] #[.int .i64 3, .int .i64 0] 23 rfl
  go_wp2_with fail
  generalize w1.alloc (.cells #[.int .i64 3, .int .i64 0] 23) = V1 at s1 hb1 hz1 ⊢
  refine (K2.out V1).mono ?_
  clear K2
  rintro e w2 ⟨rfl, b2⟩
  have HB := Lib.hid ((HB.out.trans (hb1.mono HB.out.size)).trans (b2.mono (by have := HB.out.size; omega)))
  have P1 := Lib.hid (s1.below b2 (by omega))
  have hz2 := b2.size
  clear s1 hb1 b2
  obtain ⟨s1, hb1, hy1⟩ := one_slot w2 [.int .i64 (-100), .int .i64 0] #[.int .i64 (-100), .int .i64 0] 23 rfl
  go_wp2_with fail
  generalize w2.alloc (.cells #[.int .i64 (-100), .int .i64 0] 23) = V2 at s1 hb1 hy1 ⊢
  refine (K3.out V2).mono ?_
  clear K3
  rintro e w3 ⟨rfl, b2⟩
  have HB := Lib.hid ((HB.out.trans (hb1.mono HB.out.size)).trans (b2.mono (by have := HB.out.size; omega)))
  have P1 := Lib.hid (P1.out.below (hb1.trans (b2.mono (by omega))) (by omega))
  have P2 := Lib.hid (s1.below b2 (by omega))
  have hz3 := b2.size
  clear s1 hb1 b2
  go_wp2_with fail
  refine (K4.out w3).mono ?_
  clear K4
  rintro e w4 ⟨rfl, b2⟩
  have HB := Lib.hid (HB.out.trans (b2.mono HB.out.size))
  have P1 := Lib.hid (P1.out.below b2 (by omega))
  have P2 := Lib.hid (P2.out.below b2 (by omega))
  have hz4 := b2.size
  clear b2
  obtain ⟨s1, hb1, hy2⟩ := one_slot w4 [.int .i64 (-1), .int .i64 999999999999999996] #[.int .i64 (-1), .int .i64 999999999999999996] 23 rfl
  go_wp2_with fail
  generalize w4.alloc (.cells #[.int .i64 (-1), .int .i64 999999999999999996] 23) = V3 at s1 hb1 hy2 ⊢
  refine (K5.out V3).mono ?_
  clear K5
  rintro e w5 ⟨rfl, b2⟩
  have HB := Lib.hid ((HB.out.trans (hb1.mono HB.out.size)).trans (b2.mono (by have := HB.out.size; omega)))
  have P1 := Lib.hid (P1.out.below (hb1.trans (b2.mono (by omega))) (by omega))
  have P2 := Lib.hid (P2.out.below (hb1.trans (b2.mono (by omega))) (by omega))
  have P3 := Lib.hid (s1.below b2 (by omega))
  have hz5 := b2.size
  clear s1 hb1 b2
  obtain ⟨s1, hb1, hy3⟩ := one_slot w5 [.int .i64 0, .int .i64 0] #[.int .i64 0, .int .i64 0] 23 rfl
  have x0 := P2.out.c 0 _ rfl
  have x1 := P2.out.c 1 _ rfl
  have hlt : w2.heap.size < w5.heap.size := by omega
  go_wp2_with fail
  generalize w5.alloc (.cells #[.int .i64 0, .int .i64 0] 23) = V4 at s1 hb1 hy3 ⊢
  refine (K6.out V4).mono ?_
  clear K6
  rintro e w6 ⟨rfl, b2⟩
  have HB := Lib.hid ((HB.out.trans (hb1.mono HB.out.size)).trans (b2.mono (by have := HB.out.size; omega)))
  have P1 := Lib.hid (P1.out.below (hb1.trans (b2.mono (by omega))) (by omega))
  have P2 := Lib.hid (P2.out.below (hb1.trans (b2.mono (by omega))) (by omega))
  have P3 := Lib.hid (P3.out.below (hb1.trans (b2.mono (by omega))) (by omega))
  have hz6 := b2.size
  clear s1 hb1 b2 x0 x1
  go_wp2_with fail
  have x0 := P1.out.c 0 _ rfl
  have x1 := P1.out.c 1 _ rfl
  have y0 := P2.out.c 0 _ rfl
  have y1 := P2.out.c 1 _ rfl
  have v0 := P3.out.c 0 _ rfl
  have v1 := P3.out.c 1 _ rfl
  have g1 : w1.heap.size < w6.heap.size := by omega
  have g2 : w2.heap.size < w6.heap.size := by omega
  have g4 : w4.heap.size < w6.heap.size := by omega
  try simp only [List.append]
  go_region_held3 (fun w' => w'.cell? ⟨w1.heap.size, 0, none⟩ = some (.int .i64 3) ∧ w'.cell? ⟨w1.heap.size, 1, none⟩ = some (.int .i64 0) ∧ w'.cell? ⟨w2.heap.size, 0, none⟩ = some (.int .i64 (-100)) ∧ w'.cell? ⟨w2.heap.size, 1, none⟩ = some (.int .i64 0) ∧ w'.cell? ⟨w4.heap.size, 0, none⟩ = some (.int .i64 (-1)) ∧ w'.cell? ⟨w4.heap.size, 1, none⟩ = some (.int .i64 999999999999999996))
    (refine ⟨?_, ?_, ?_, ?_, ?_, ?_⟩ <;> (first | with_reducible assumption | (rw [hby.cell (by (try dsimp only); omega)]; with_reducible assumption) | (go_keep; done)))
    (first
      | (go_at_call 16; refine (T1.out _ (HTB.out.on HB.out.drew)).mono ?_; clear T1; rintro e wx ⟨rfl, hbx⟩; have hby : Below w6.heap.size w6 wx := (Below.refl _ w6).drew.trans (hbx.mono (by simp)))
      | (go_at_call 18; refine (T2.out _).mono ?_; clear T2; rintro e wx ⟨rfl, hbx⟩; have hby : Below w6.heap.size w6 wx := hby.trans (hbx.mono hby.size))
      | (go_at_call 18; refine (T3.out _).mono ?_; clear T3; rintro e wx ⟨rfl, hbx⟩; have hby : Below w6.heap.size w6 wx := hby.trans (hbx.mono hby.size))
      | (go_at_call 19; refine (T4.out _).mono ?_; clear T4; rintro e wx ⟨rfl, hbx⟩; have hby : Below w6.heap.size w6 wx := hby.trans (hbx.mono hby.size))
      | (go_at_call 14; refine (T5.out _).mono ?_; clear T5; rintro e wx ⟨rfl, hbx⟩; have hby : Below w6.heap.size w6 wx := hby.trans (hbx.mono hby.size)))
  go_wp2_with fail
  go_ret
  exact ⟨rfl, HB.out.trans (hby.mono (by have := HB.out.size; omega))⟩
end Go.Proofs.YtcllghcplphijaaDoor
