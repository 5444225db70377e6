/-
  THE LAWS ScanWhole, ScanBack.
-/
import Derived.Test.YtkdffcoofijhkaaDoorScanWalkG
set_option linter.unusedVariables false
set_option linter.unusedSimpArgs false
set_option maxRecDepth 100000
namespace Go.Proofs.YtkdffcoofijhkaaDoor
open Go.RowKit

/-- a law says yes -/
def Yes (w : World) (e : Ending) (w' : World) : Prop := e = .returned (.bool true) ∧ Below w.heap.size w w'

theorem scanwhole_long (l : List UInt8) (w : World) (hl : l.length ≤ 9223372036854775807) (h : 100 < l.length) : Calls Tryd.prog 9 #[.string ⟨l.toArray⟩] w (Yes w) := by
  have t0 : decide ((100 : Int) < (l.length : Int)) = true := decide_eq_true (by omega)
  unfold Yes
  go_enter Tryd.func9, Tryd.ntmps9
  go_wp2_with fail
  go_ret
  exact ⟨rfl, Below.refl _ _⟩

set_option maxHeartbeats 1600000 in
theorem scanwhole_no (l : List UInt8) (w : World) (hl : l.length ≤ 100) (hE : Env w) (h : wholeOk l = false) : Calls Tryd.prog 9 #[.string ⟨l.toArray⟩] w (Yes w) := by
  have K1 := Lib.hid (fun W hW => whole_any l W (by omega) hW)
  have K2 := Lib.hid (fun W hW => parse_any l W (by omega) hW)
  have K3 := Lib.hid (fun W hW => scanned_any W hW)
  rw [whole_no l h] at K1
  obtain ⟨a, f, hp⟩ : ∃ a f, parseS l = (a, f) := ⟨_, _, rfl⟩
  rw [hp] at K2
  have HE := Lib.hid hE
  have t0 : decide ((100 : Int) < (l.length : Int)) = false := decide_eq_false (by omega)
  clear hE h hp
  unfold Yes NE2 at *
  go_enter Tryd.func9, Tryd.ntmps9
  go_wp2_with fail
  refine (K1.out _ HE.out).mono ?_
  clear K1
  rintro e w1 ⟨rfl, hb1⟩
  have HB := Lib.hid hb1; clear hb1
  go_wp2_with fail
  refine (K2.out _ (HE.out.on HB.out)).mono ?_
  clear K2
  rintro e w2 ⟨rfl, hb1⟩
  have HB := Lib.hid (HB.out.trans (hb1.mono HB.out.size)); clear hb1
  go_wp2_with fail
  refine (K3.out _ (HE.out.on HB.out)).mono ?_
  clear K3
  rintro e w3 ⟨rfl, hb1⟩
  have HB := Lib.hid (HB.out.trans (hb1.mono HB.out.size)); clear hb1
  go_wp2_with fail
  go_ret
  exact ⟨rfl, HB.out⟩

set_option maxHeartbeats 1600000 in
theorem scanwhole_far (l : List UInt8) (n : Int) (w : World) (hl : l.length ≤ 100) (hE : Env w) (hw : wholeS l = (n, 0)) (hp : parseS l = (0, 5)) (hn : ¬ (-4096 ≤ n ∧ n ≤ 4096)) : Calls Tryd.prog 9 #[.string ⟨l.toArray⟩] w (Yes w) := by
  have K1 := Lib.hid (fun W hW => whole_any l W (by omega) hW)
  have K2 := Lib.hid (fun W hW => parse_any l W (by omega) hW)
  have K3 := Lib.hid (fun W hW => scanned_any W hW)
  rw [hw] at K1
  rw [hp] at K2
  have HE := Lib.hid hE
  have t0 : decide ((100 : Int) < (l.length : Int)) = false := decide_eq_false (by omega)
  clear hE hw hp
  unfold Yes NE2 at *
  by_cases h1 : n < -4096
  all_goals
    have t1 : decide (n < -4096) = decide (n < -4096) := rfl
    first
      | have t1 : decide (n < -4096) = true := decide_eq_true h1
      | (have t1 : decide (n < -4096) = false := decide_eq_false h1
         have t2 : decide (4096 < n) = true := decide_eq_true (by omega))
    clear hn h1
    go_enter Tryd.func9, Tryd.ntmps9
    go_wp2_with fail
    refine (K1.out _ HE.out).mono ?_
    clear K1
    rintro e w1 ⟨rfl, hb1⟩
    have HB := Lib.hid hb1; clear hb1
    go_wp2_with fail
    refine (K2.out _ (HE.out.on HB.out)).mono ?_
    clear K2
    rintro e w2 ⟨rfl, hb1⟩
    have HB := Lib.hid (HB.out.trans (hb1.mono HB.out.size)); clear hb1
    go_wp2_with fail
    refine (K3.out _ (HE.out.on HB.out)).mono ?_
    clear K3
    rintro e w3 ⟨rfl, hb1⟩
    have HB := Lib.hid (HB.out.trans (hb1.mono HB.out.size)); clear hb1
    go_wp2_with fail
    go_ret
    exact ⟨rfl, HB.out⟩

set_option maxHeartbeats 1600000 in
theorem scanwhole_near (l : List UInt8) (n : Int) (w : World) (hl : l.length ≤ 100) (hE : Env w) (hw : wholeS l = (n, 0)) (hp : parseS l = (256 * n, 0)) (hn : -4096 ≤ n ∧ n ≤ 4096) (hs : printS (256 * n) = l) : Calls Tryd.prog 9 #[.string ⟨l.toArray⟩] w (Yes w) := by
  have K1 := Lib.hid (fun W hW => whole_any l W (by omega) hW)
  have K2 := Lib.hid (fun W hW => parse_any l W (by omega) hW)
  have K3 := Lib.hid (fun W hW => scanned_any W hW)
  have K4 := Lib.hid (fun W hW => print_any (256 * n) W (by unfold i64b; omega) hW)
  have e4 : printR (256 * n) = (l, 0) := by unfold printR; rw [if_pos (by omega), hs]
  rw [hw] at K1
  rw [hp] at K2
  rw [e4] at K4
  have HE := Lib.hid hE
  have t0 : decide ((100 : Int) < (l.length : Int)) = false := decide_eq_false (by omega)
  clear hE hw hp e4 hs
  unfold Yes NE2 SE at *
  go_enter Tryd.func9, Tryd.ntmps9
  go_wp2_with fail
  refine (K1.out _ HE.out).mono ?_
  clear K1
  rintro e w1 ⟨rfl, hb1⟩
  have HB := Lib.hid hb1; clear hb1
  go_wp2_with fail
  refine (K2.out _ (HE.out.on HB.out)).mono ?_
  clear K2
  rintro e w2 ⟨rfl, hb1⟩
  have HB := Lib.hid (HB.out.trans (hb1.mono HB.out.size)); clear hb1
  go_wp2_with fail
  refine (K4.out _ (HE.out.on HB.out)).mono ?_
  clear K4
  rintro e w3 ⟨rfl, hb1⟩
  have HB := Lib.hid (HB.out.trans (hb1.mono HB.out.size)); clear hb1
  go_wp2_with fail
  refine (K3.out _ (HE.out.on HB.out)).mono ?_
  clear K3
  rintro e w4 ⟨rfl, hb1⟩
  have HB := Lib.hid (HB.out.trans (hb1.mono HB.out.size)); clear hb1
  go_wp2_with fail
  go_ret
  exact ⟨rfl, HB.out⟩

theorem scanwhole_any (l : List UInt8) (w : World) (hl : l.length ≤ 9223372036854775807) (hE : Env w) : Calls Tryd.prog 9 #[.string ⟨l.toArray⟩] w (Yes w) := by
  by_cases h1 : 100 < l.length
  · exact scanwhole_long l w hl h1
  · cases h2 : wholeOk l with
    | false => exact scanwhole_no l w (by omega) hE h2
    | true =>
      have hw : wholeS l = (wholeN l, 0) := by unfold wholeS; rw [h2]; rfl
      have hp := parse_whole l h2
      by_cases h3 : -4096 ≤ wholeN l ∧ wholeN l ≤ 4096
      · rw [if_pos h3] at hp
        exact scanwhole_near l _ w (by omega) hE hw hp h3 (by rw [print_whole]; exact (whole_is l h2).1.symm)
      · rw [if_neg h3] at hp
        exact scanwhole_far l _ w (by omega) hE hw hp h3

/-! ### ScanBack -/
set_option maxHeartbeats 1600000 in
theorem scanback_far (n m : Int) (w : World) (hn : i64b n) (hm : i64b m) (hE : Env w) (h : ¬ (-1048576 ≤ n ∧ n ≤ 1048576)) : Calls Tryd.prog 6 #[.int .i64 n, .int .i64 m] w (Yes w) := by
  have K1 := Lib.hid (fun W hW => print_any n W hn hW)
  have K2 := Lib.hid (fun W hW => print_any m W hm hW)
  have K3 := Lib.hid (fun W hW => scanned_any W hW)
  have e4 : printR n = ([], 5) := by unfold printR; rw [if_neg h]
  rw [e4] at K1
  obtain ⟨t, f, hp⟩ : ∃ a f, printR m = (a, f) := ⟨_, _, rfl⟩
  rw [hp] at K2
  have HE := Lib.hid hE
  unfold i64b at hn hm
  clear hE hp e4
  unfold Yes SE at *
  by_cases h1 : n < -1048576
  all_goals
    first
      | have t1 : decide (n < -1048576) = true := decide_eq_true h1
      | (have t1 : decide (n < -1048576) = false := decide_eq_false h1
         have t2 : decide (1048576 < n) = true := decide_eq_true (by omega))
    clear h h1
    go_enter Tryd.func6, Tryd.ntmps6
    go_wp2_with fail
    refine (K1.out _ HE.out).mono ?_
    clear K1
    rintro e w1 ⟨rfl, hb1⟩
    have HB := Lib.hid hb1; clear hb1
    go_wp2_with fail
    refine (K2.out _ (HE.out.on HB.out)).mono ?_
    clear K2
    rintro e w2 ⟨rfl, hb1⟩
    have HB := Lib.hid (HB.out.trans (hb1.mono HB.out.size)); clear hb1
    go_wp2_with fail
    refine (K3.out _ (HE.out.on HB.out)).mono ?_
    clear K3
    rintro e w3 ⟨rfl, hb1⟩
    have HB := Lib.hid (HB.out.trans (hb1.mono HB.out.size)); clear hb1
    go_wp2_with fail
    go_ret
    exact ⟨rfl, HB.out⟩

set_option maxHeartbeats 1600000 in
theorem scanback_near (n m : Int) (w : World) (hn : -1048576 ≤ n ∧ n ≤ 1048576) (hm : i64b m) (hE : Env w) : Calls Tryd.prog 6 #[.int .i64 n, .int .i64 m] w (Yes w) := by
  have K1 := Lib.hid (fun W hW => print_any n W (by unfold i64b; omega) hW)
  have K2 := Lib.hid (fun W hW => print_any m W hm hW)
  have K3 := Lib.hid (fun W hW => scanned_any W hW)
  have hlen := len_print n (by omega)
  have K4 := Lib.hid (fun W hW => parse_any (printS n) W (by omega) hW)
  have e4 : printR n = (printS n, 0) := by unfold printR; rw [if_pos hn]
  rw [e4] at K1
  rw [parse_print n hn.1 hn.2] at K4
  have HE := Lib.hid hE
  unfold i64b at hm
  clear hE e4
  unfold Yes SE NE2 at *
  have hq : (∃ t f : Int, ∃ u, printR m = (u, f) ∧ f = 5) ∨ (n = m) ∨ (∃ u, printR m = (u, 0) ∧ (printS n == u) = false ∧ (n == m) = false) := by
    by_cases h : -1048576 ≤ m ∧ m ≤ 1048576
    · by_cases e : n = m
      · exact .inr (.inl e)
      · refine .inr (.inr ⟨printS m, by unfold printR; rw [if_pos h], ?_, by simpa using e⟩)
        rw [beq_eq_false_iff_ne]
        intro h9
        exact e (print_inj hn h h9)
    · exact .inl ⟨0, 5, [], by unfold printR; rw [if_neg h], rfl⟩
  rcases hq with ⟨_, f, u, hu, rfl⟩ | rfl | ⟨u, hu, q1, q2⟩
  · rw [hu] at K2
    clear hu
    generalize printS n = s at *
    go_enter Tryd.func6, Tryd.ntmps6
    go_wp2_with fail
    refine (K1.out _ HE.out).mono ?_
    clear K1
    rintro e w1 ⟨rfl, hb1⟩
    have HB := Lib.hid hb1; clear hb1
    go_wp2_with fail
    refine (K2.out _ (HE.out.on HB.out)).mono ?_
    clear K2
    rintro e w2 ⟨rfl, hb1⟩
    have HB := Lib.hid (HB.out.trans (hb1.mono HB.out.size)); clear hb1
    go_wp2_with fail
    refine (K4.out _ (HE.out.on HB.out)).mono ?_
    clear K4
    rintro e w3 ⟨rfl, hb1⟩
    have HB := Lib.hid (HB.out.trans (hb1.mono HB.out.size)); clear hb1
    go_wp2_with fail
    refine (K3.out _ (HE.out.on HB.out)).mono ?_
    clear K3
    rintro e w4 ⟨rfl, hb1⟩
    have HB := Lib.hid (HB.out.trans (hb1.mono HB.out.size)); clear hb1
    go_wp2_with fail
    go_ret
    exact ⟨rfl, HB.out⟩
  · have e5 : printR n = (printS n, 0) := by unfold printR; rw [if_pos hn]
    rw [e5] at K2
    clear e5
    generalize printS n = s at *
    go_enter Tryd.func6, Tryd.ntmps6
    go_wp2_with fail
    refine (K1.out _ HE.out).mono ?_
    clear K1
    rintro e w1 ⟨rfl, hb1⟩
    have HB := Lib.hid hb1; clear hb1
    go_wp2_with fail
    refine (K2.out _ (HE.out.on HB.out)).mono ?_
    clear K2
    rintro e w2 ⟨rfl, hb1⟩
    have HB := Lib.hid (HB.out.trans (hb1.mono HB.out.size)); clear hb1
    go_wp2_with fail
    refine (K4.out _ (HE.out.on HB.out)).mono ?_
    clear K4
    rintro e w3 ⟨rfl, hb1⟩
    have HB := Lib.hid (HB.out.trans (hb1.mono HB.out.size)); clear hb1
    go_wp2_with fail
    refine (K3.out _ (HE.out.on HB.out)).mono ?_
    clear K3
    rintro e w4 ⟨rfl, hb1⟩
    have HB := Lib.hid (HB.out.trans (hb1.mono HB.out.size)); clear hb1
    go_wp2_with fail
    go_ret
    exact ⟨rfl, HB.out⟩
  · rw [hu] at K2
    clear hu
    generalize printS n = s at *
    have hsu : Hid (s ≠ u) := Lib.hid (by rintro rfl; simp at q1)
    go_enter Tryd.func6, Tryd.ntmps6
    go_wp2_with fail
    refine (K1.out _ HE.out).mono ?_
    clear K1
    rintro e w1 ⟨rfl, hb1⟩
    have HB := Lib.hid hb1; clear hb1
    go_wp2_with fail
    refine (K2.out _ (HE.out.on HB.out)).mono ?_
    clear K2
    rintro e w2 ⟨rfl, hb1⟩
    have HB := Lib.hid (HB.out.trans (hb1.mono HB.out.size)); clear hb1
    go_wp2_with fail
    refine (K4.out _ (HE.out.on HB.out)).mono ?_
    clear K4
    rintro e w3 ⟨rfl, hb1⟩
    have HB := Lib.hid (HB.out.trans (hb1.mono HB.out.size)); clear hb1
    go_wp2_with fail
    refine (K3.out _ (HE.out.on HB.out)).mono ?_
    clear K3
    rintro e w4 ⟨rfl, hb1⟩
    have HB := Lib.hid (HB.out.trans (hb1.mono HB.out.size)); clear hb1
    go_wp2_with fail
    go_ret
    exact ⟨rfl, HB.out⟩
theorem scanback_any (n m : Int) (w : World) (hn : i64b n) (hm : i64b m) (hE : Env w) : Calls Tryd.prog 6 #[.int .i64 n, .int .i64 m] w (Yes w) := by
  by_cases h : -1048576 ≤ n ∧ n ≤ 1048576
  · exact scanback_near n m w h hm hE
  · exact scanback_far n m w hn hm hE h
theorem scanwhole_row (s : ByteArray) (w : World) (hs : s.size ≤ maxLen) (hE : Env w) : Calls Tryd.prog 9 #[.string s] w fun e w' => e = .returned (.bool true) ∧ Below w.heap.size w w' := by
  have h := scanwhole_any s.data.toList w (by unfold maxLen at hs; have e := Lib.size_eq s; omega) hE
  rw [Lib.mk_data] at h
  exact h
theorem scanback_row (n m : Int) (w : World) (hn : i64b n) (hm : i64b m) (hE : Env w) : Calls Tryd.prog 6 #[.int .i64 n, .int .i64 m] w fun e w' => e = .returned (.bool true) ∧ Below w.heap.size w w' := scanback_any n m w hn hm hE
end Go.Proofs.YtkdffcoofijhkaaDoor
