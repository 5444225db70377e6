/-
  THE LAW FaceBelow.
-/
import Derived.Test.YtkdffcoofijhkaaDoorFaceWalkI
import Derived.Test.YtkdffcoofijhkaaDoorFaceBk
import Derived.Test.YtkdffcoofijhkaaDoorRefDig
import Derived.Test.YtkdffcoofijhkaaDoorScanLawA
set_option linter.unusedVariables false
set_option linter.unusedSimpArgs false
set_option maxRecDepth 100000
namespace Go.Proofs.YtkdffcoofijhkaaDoor
open Go.RowKit

theorem place_pos (n : Nat) (many : Int) (h1 : 1 ≤ n) (h2 : n ≤ 9999999) : placeR (Lib.decDigits n) many = if (n : Int) ≤ many then ((n : Int) - 1, 0) else (0, 7) := by
  have e : n = (((n : Int) - 1) + 1).toNat := by omega
  have h := place_dec ((n : Int) - 1) many (by omega) (by omega)
  rw [← e] at h
  rw [h]
  by_cases hm : (n : Int) ≤ many
  · rw [if_pos (by omega), if_pos hm]
  · rw [if_neg (by omega), if_neg hm]
theorem place_neg (n : Nat) (many : Int) (h1 : 1 ≤ n) (h2 : n ≤ 9999999) : placeR (45 :: Lib.decDigits n) many = if (n : Int) ≤ many then (many - (n : Int), 0) else (0, 7) := by
  have h := whole_itoa (-(n : Int)) (by omega) (by omega)
  have e : Lib.itoa (-(n : Int)) = 45 :: Lib.decDigits n := by unfold Lib.itoa; rw [if_pos (by omega), Int.natAbs_neg, Int.natAbs_natCast]
  rw [e] at h
  unfold wholeS at h
  split at h
  · rename_i ok
    have hv : wholeN (45 :: Lib.decDigits n) = -(n : Int) := by injection h
    unfold placeR
    rw [ok, hv, if_pos rfl, if_neg (by omega)]
    by_cases hm : (n : Int) ≤ many
    · rw [if_pos (by omega), if_pos hm]; rfl
    · rw [if_neg (by omega), if_neg hm]
  · have h2 := congrArg Prod.snd h
    simp at h2

set_option maxHeartbeats 3200000 in
theorem below_in (n : Nat) (many : Int) (w : World) (h1 : 1 ≤ n) (h2 : n ≤ 9999999) (h3 : 0 ≤ many) (h4 : many ≤ 9000000) (hE : Env w) : Calls Tryd.prog 12 #[.int .i64 (n : Int), .int .i64 many] w (Yes w) := by
  have hl := dec_len n 6 (by omega)
  have K1 := Lib.hid (fun W => rdig_any n W (by omega))
  have K2 := Lib.hid (fun W hW => place2_any (Lib.decDigits n) many W (by omega) (by unfold i64b; omega) hW)
  have K3 := Lib.hid (fun W hW => place2_any (45 :: Lib.decDigits n) many W (by simp; omega) (by unfold i64b; omega) hW)
  have K4 := Lib.hid (fun W hW => faced_any W hW)
  rw [place_pos n many h1 h2] at K2
  rw [place_neg n many h1 h2] at K3
  have HE := Lib.hid hE; clear hE
  have A1 := fun W => run_cat (P := Tryd.prog) [45] (Lib.decDigits n) (by simp; omega) W
  generalize Lib.decDigits n = tx at *
  unfold Yes SR NE2 at *
  have t1 : decide ((n : Int) < 1) = false := decide_eq_false (by omega)
  have t2 : decide ((9999999 : Int) < (n : Int)) = false := decide_eq_false (by omega)
  have t3 : decide (many < 0) = false := decide_eq_false (by omega)
  have t4 : decide ((9000000 : Int) < many) = false := decide_eq_false (by omega)
  by_cases hm : (n : Int) ≤ many
  · have t5 : decide (many < (n : Int)) = false := decide_eq_false (by omega)
    rw [if_pos hm] at K2 K3
    simp only at K2 K3
    go_enter Tryd.func12, Tryd.ntmps12
    go_wp2_with fail
    refine (K1.out w).mono ?_
    rintro e w1 ⟨rfl, hb1⟩
    have HB := Lib.hid hb1; clear hb1
    go_wp2_with fail
    refine (K2.out _ (HE.out.on HB.out)).mono ?_
    clear K2
    rintro e w2 ⟨rfl, hb1⟩
    have HB := Lib.hid (HB.out.trans (hb1.mono HB.out.size)); clear hb1
    go_wp2_with fail
    refine (K1.out _).mono ?_
    clear K1
    rintro e w3 ⟨rfl, hb1⟩
    have HB := Lib.hid (HB.out.trans (hb1.mono HB.out.size)); clear hb1
    go_wp2_with fail
    refine (K3.out _ (HE.out.on HB.out)).mono ?_
    clear K3
    rintro e w4 ⟨rfl, hb1⟩
    have HB := Lib.hid (HB.out.trans (hb1.mono HB.out.size)); clear hb1
    go_wp2_with fail
    refine (K4.out _ (HE.out.on HB.out)).mono ?_
    clear K4
    rintro e w5 ⟨rfl, hb1⟩
    have HB := Lib.hid (HB.out.trans (hb1.mono HB.out.size)); clear hb1
    go_wp2_with fail
    go_ret
    exact ⟨congrArg (fun b => Ending.returned (.bool b)) (beq_iff_eq.2 (show (n : Int) - 1 + (many - (n : Int)) = many - 1 by omega)), HB.out⟩
  · have t5 : decide (many < (n : Int)) = true := decide_eq_true (by omega)
    rw [if_neg hm] at K2 K3
    simp only at K2 K3
    go_enter Tryd.func12, Tryd.ntmps12
    go_wp2_with fail
    refine (K1.out w).mono ?_
    rintro e w1 ⟨rfl, hb1⟩
    have HB := Lib.hid hb1; clear hb1
    go_wp2_with fail
    refine (K2.out _ (HE.out.on HB.out)).mono ?_
    clear K2
    rintro e w2 ⟨rfl, hb1⟩
    have HB := Lib.hid (HB.out.trans (hb1.mono HB.out.size)); clear hb1
    go_wp2_with fail
    refine (K1.out _).mono ?_
    clear K1
    rintro e w3 ⟨rfl, hb1⟩
    have HB := Lib.hid (HB.out.trans (hb1.mono HB.out.size)); clear hb1
    go_wp2_with fail
    refine (K3.out _ (HE.out.on HB.out)).mono ?_
    clear K3
    rintro e w4 ⟨rfl, hb1⟩
    have HB := Lib.hid (HB.out.trans (hb1.mono HB.out.size)); clear hb1
    go_wp2_with fail
    refine (K4.out _ (HE.out.on HB.out)).mono ?_
    clear K4
    rintro e w5 ⟨rfl, hb1⟩
    have HB := Lib.hid (HB.out.trans (hb1.mono HB.out.size)); clear hb1
    go_wp2_with fail
    go_ret
    exact ⟨rfl, HB.out⟩
theorem below_out (n many : Int) (w : World) (h : ¬ (1 ≤ n ∧ n ≤ 9999999 ∧ 0 ≤ many ∧ many ≤ 9000000)) (hE : Env w) : Calls Tryd.prog 12 #[.int .i64 n, .int .i64 many] w (Yes w) := by
  have K4 := Lib.hid (fun W hW => faced_any W hW)
  have HE := Lib.hid hE; clear hE
  unfold Yes at *
  have hc : n < 1 ∨ (1 ≤ n ∧ 9999999 < n) ∨ (1 ≤ n ∧ n ≤ 9999999 ∧ many < 0) ∨ (1 ≤ n ∧ n ≤ 9999999 ∧ 0 ≤ many ∧ 9000000 < many) := by omega
  clear h
  have hd : (decide (n < 1) = true) ∨ (decide (n < 1) = false ∧ decide ((9999999 : Int) < n) = true) ∨ (decide (n < 1) = false ∧ decide ((9999999 : Int) < n) = false ∧ decide (many < 0) = true) ∨
      (decide (n < 1) = false ∧ decide ((9999999 : Int) < n) = false ∧ decide (many < 0) = false ∧ decide ((9000000 : Int) < many) = true) := by
    simp only [decide_eq_true_eq, decide_eq_false_iff_not]; omega
  clear hc
  rcases hd with t1 | ⟨t1, t2⟩ | ⟨t1, t2, t3⟩ | ⟨t1, t2, t3, t4⟩
  all_goals
    go_enter Tryd.func12, Tryd.ntmps12
    go_wp2_with fail
    refine (K4.out _ HE.out).mono ?_
    rintro e w5 ⟨rfl, hb1⟩
    go_wp2_with fail
    go_ret
    exact ⟨rfl, hb1⟩
theorem facebelow_row (n many : Int) (w : World) (hn : i64b n) (hm : i64b many) (hE : Env w) : Calls Tryd.prog 12 #[.int .i64 n, .int .i64 many] w fun e w' => e = .returned (.bool true) ∧ Below w.heap.size w w' := by
  by_cases h : 1 ≤ n ∧ n ≤ 9999999 ∧ 0 ≤ many ∧ many ≤ 9000000
  · obtain ⟨k, rfl⟩ : ∃ k : Nat, n = k := ⟨n.toNat, by omega⟩
    exact below_in k many w (by omega) (by omega) h.2.2.1 h.2.2.2 hE
  · exact below_out n many w h hE
end Go.Proofs.YtkdffcoofijhkaaDoor
