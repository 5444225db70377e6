/-
  THE WALK OF limewashref05's Print.
-/
import Derived.Test.YtkdffcoofijhkaaDoorScanWalkD
import Derived.Test.YtkdffcoofijhkaaDoorRefDig
import Derived.Test.YtkdffcoofijhkaaDoorScanRfQ
set_option linter.unusedVariables false
set_option linter.unusedSimpArgs false
set_option maxRecDepth 8000
namespace Go.Proofs.YtkdffcoofijhkaaDoor
open Go.RowKit

theorem sprintref_no (n : Int) (w : World) (hn : i64b n) (h : ¬ (-1048576 ≤ n ∧ n ≤ 1048576)) : Calls Tryd.prog 24 #[.int .i64 n] w (SE w [] 5) := by
  unfold SE
  unfold i64b at hn
  by_cases h1 : n < -1048576
  · have t1 : decide (n < -1048576) = true := decide_eq_true h1
    clear h h1
    go_enter Tryd.func24, Tryd.ntmps24
    go_wp2_with fail
    go_ret2
    exact ⟨rfl, Below.refl _ _⟩
  · have t1 : decide (n < -1048576) = false := decide_eq_false h1
    have t2 : decide (1048576 < n) = true := decide_eq_true (by omega)
    clear h h1
    go_enter Tryd.func24, Tryd.ntmps24
    go_wp2_with fail
    go_ret2
    exact ⟨rfl, Below.refl _ _⟩

set_option maxHeartbeats 3200000 in
theorem sprintref_yes (n : Int) (w : World) (h : -1048576 ≤ n ∧ n ≤ 1048576) : Calls Tryd.prog 24 #[.int .i64 n] w (SE w (printS n) 0) := by
  obtain ⟨N, hN⟩ : ∃ N : Nat, N = n.natAbs := ⟨_, rfl⟩
  obtain ⟨F, hF⟩ : ∃ F, F = N / 256 := ⟨_, rfl⟩
  obtain ⟨M, hM⟩ : ∃ M, M = N % 256 := ⟨_, rfl⟩
  have hM6 : M < 256 := by omega
  have HP : Hid (printS n = (if n < 0 then [45] else []) ++ (Lib.decDigits F ++ pointS M)) := Lib.hid (by unfold printS; rw [← hN, ← hF, ← hM])
  have HPT := Lib.hid (point_ref M hM6)
  have hFb : F ≤ 4096 := by omega
  have hNb : N ≤ 1048576 := by omega
  obtain ⟨ds, hds⟩ : ∃ l, Lib.decDigits F = l := ⟨_, rfl⟩
  have hdl : ds.length ≤ 4 := by rw [← hds]; exact dec_len _ 3 (by omega)
  have K1 := Lib.hid (fun W => rdig_any F W (by omega))
  rw [hds] at K1 HP
  clear hds
  unfold SR at K1
  have td : (N : Int).tdiv 256 = (F : Int) := by rw [Int.tdiv_eq_ediv_of_nonneg (by omega)]; omega
  have wd : IntKind.i64.wrap (F : Int) = (F : Int) := by rw [IntKind.wrap_i64]; omega
  have tm : (N : Int).tmod 256 = (M : Int) := by rw [Int.tmod_eq_emod_of_nonneg (by omega)]; omega
  have wm : IntKind.i64.wrap (M : Int) = (M : Int) := by rw [IntKind.wrap_i64]; omega
  have t1 : decide (n < -1048576) = false := decide_eq_false (by omega)
  have t2 : decide (1048576 < n) = false := decide_eq_false (by omega)
  have FIN : Hid (∀ (l : List UInt8) w', l = printS n → Below w.heap.size w w' → SE w (printS n) 0 (.returned (.tuple #[.string ⟨l.toArray⟩, .int .i64 0])) w') := Lib.hid (fun l w' e hb => by rw [e]; exact ⟨rfl, hb⟩)
  generalize hQ : SE w (printS n) 0 = Qp at FIN ⊢
  clear hQ
  by_cases hn : n < 0
  · have t3 : decide (n < 0) = true := decide_eq_true hn
    have HF : Hid (printS n = [45] ++ (ds ++ pointS M)) := Lib.hid (by rw [HP.out, if_pos hn])
    have hneg : -n = (N : Int) := by omega
    have A1 := fun W => run_cat (P := Tryd.prog) [45] ds (by simp; omega) W
    have A2 := fun W => run_cat (P := Tryd.prog) (45 :: ds) [46] (by simp; omega) W
    clear hN HP hn hF hM
    by_cases hM0 : 0 < M
    · have t4 : decide ((0 : Int) < (M : Int)) = true := decide_eq_true (by omega)
      have t4n : decide (0 < M) = true := decide_eq_true hM0
      have HS0 : Hid (((45 :: ds) ++ [46]) ++ frR 8 M = printS n) := Lib.hid (by rw [HF.out, HPT.out, if_neg (by omega)]; simp)
      clear hM0 HF HPT
      go_enter Tryd.func24, Tryd.ntmps24
      go_wp2_with fail
      refine (K1.out _).mono ?_
      clear K1
      rintro e w1 ⟨rfl, hb1⟩
      have HB := Lib.hid hb1; clear hb1
      go_wp2_with fail
      go_loopw [4, 5] (fun u v wr => ∃ (k m : Nat) (l : List UInt8), u = .string ⟨l.toArray⟩ ∧ v = .int .i64 (m : Int) ∧ m < 256 ∧ Hid (m * 10 ^ k % 256 = 0) ∧ Hid (l ++ frR k m = printS n) ∧ l.length + k ≤ 14 ∧ Hid (Below w.heap.size w wr)) (fun u _ _ => 20 - strL u)
      case atStart => exact ⟨8, M, ((45 :: ds) ++ [46]), by first | rfl | trivial | simp, rfl, hM6, Lib.hid (any_pow M), HS0, by simp; omega, HB⟩
      case round =>
        clear HS0 HB hM6 td wd tm wm
        obtain ⟨k, m, l, rfl, rfl, hm6, hmk, hl, hlk, HB⟩ := hrel
        by_cases hm0 : 0 < m
        · have t4 : decide ((0 : Int) < (m : Int)) = true := decide_eq_true (by omega)
          have t4n : decide (0 < m) = true := decide_eq_true hm0
          obtain ⟨j, hj, e1, e2, e3⟩ := frR_go hm6 hm0 hmk.out
          obtain ⟨d, hd⟩ : ∃ d, d = 10 * m / 256 := ⟨_, rfl⟩
          obtain ⟨r, hr⟩ : ∃ r, r = 10 * m % 256 := ⟨_, rfl⟩
          have hd1 : (10 * (m : Int)).tdiv 256 = (d : Int) := by rw [Int.tdiv_eq_ediv_of_nonneg (by omega)]; omega
          have hr1 : (10 * (m : Int)).tmod 256 = (r : Int) := by rw [Int.tmod_eq_emod_of_nonneg (by omega)]; omega
          have hr6 : r < 256 := by omega
          rw [← hd] at e1 e3
          rw [← hr] at e1 e2
          have w1 : IntKind.i64.wrap (10 * (m : Int)) = 10 * (m : Int) := by rw [IntKind.wrap_i64]; omega
          have w2 : IntKind.i64.wrap (d : Int) = (d : Int) := by rw [IntKind.wrap_i64]; omega
          have w3 : IntKind.i64.wrap (r : Int) = (r : Int) := by rw [IntKind.wrap_i64]; omega
          obtain ⟨dd, hdd⟩ : ∃ x, Lib.decDigits d = x := ⟨_, rfl⟩
          have hd1l : dd.length = 1 := by rw [← hdd, dec_small (by omega)]; rfl
          have K2 := Lib.hid (fun W => rdig_any d W (by omega))
          rw [hdd] at K2 e1
          unfold SR at K2
          have HL2 : Hid ((l ++ dd) ++ frR j r = printS n) := Lib.hid (by rw [List.append_assoc, ← e1]; exact hl.out)
          have HE2 := Lib.hid e2
          have A4 := fun W => run_cat (P := Tryd.prog) l dd (by omega) W
          have hlen2 : (l ++ dd).length + j ≤ 14 := by rw [List.length_append, hd1l]; omega
          have hsz : strL (.string ⟨l.toArray⟩) = l.length := rfl
          have hsz2 : strL (.string ⟨(l ++ dd).toArray⟩) = l.length + 1 := by show (l ++ dd).length = _; rw [List.length_append, hd1l]
          clear e1 e2 hd hr hdd hj
          go_wp2_with fail
          refine (K2.out _).mono ?_
          clear K2
          rintro e w2 ⟨rfl, hb1⟩
          have HB := Lib.hid (HB.out.trans (hb1.mono HB.out.size)); clear hb1
          go_wp2_with fail
          go_roundw
          case rel => exact ⟨j, r, l ++ dd, rfl, by go_num, hr6, HE2, HL2, hlen2, HB⟩
          case measure => rw [hsz2, hsz]; omega
        · have t4 : decide ((0 : Int) < (m : Int)) = false := decide_eq_false (by omega)
          have t4n : decide (0 < m) = false := decide_eq_false hm0
          obtain rfl : m = 0 := by omega
          have HL2 : Hid (l = printS n) := Lib.hid (by have := hl.out; rwa [frR_zero, List.append_nil] at this)
          go_wp2_with fail
          first | exact FIN.out _ _ HL2.out HB.out | (go_ret2; exact FIN.out _ _ HL2.out HB.out)
    · have t4 : decide ((0 : Int) < (M : Int)) = false := decide_eq_false (by omega)
      have t4n : decide (0 < M) = false := decide_eq_false hM0
      have HS0 : Hid ((45 :: ds) ++ frR 8 M = printS n) := Lib.hid (by rw [HF.out, HPT.out, if_pos (by omega), show M = 0 by omega, frR_zero]; simp)
      clear hM0 HF HPT
      go_enter Tryd.func24, Tryd.ntmps24
      go_wp2_with fail
      refine (K1.out _).mono ?_
      clear K1
      rintro e w1 ⟨rfl, hb1⟩
      have HB := Lib.hid hb1; clear hb1
      go_wp2_with fail
      go_loopw [4, 5] (fun u v wr => ∃ (k m : Nat) (l : List UInt8), u = .string ⟨l.toArray⟩ ∧ v = .int .i64 (m : Int) ∧ m < 256 ∧ Hid (m * 10 ^ k % 256 = 0) ∧ Hid (l ++ frR k m = printS n) ∧ l.length + k ≤ 14 ∧ Hid (Below w.heap.size w wr)) (fun u _ _ => 20 - strL u)
      case atStart => exact ⟨8, M, (45 :: ds), by first | rfl | trivial | simp, rfl, hM6, Lib.hid (any_pow M), HS0, by simp; omega, HB⟩
      case round =>
        clear HS0 HB hM6 td wd tm wm
        obtain ⟨k, m, l, rfl, rfl, hm6, hmk, hl, hlk, HB⟩ := hrel
        by_cases hm0 : 0 < m
        · have t4 : decide ((0 : Int) < (m : Int)) = true := decide_eq_true (by omega)
          have t4n : decide (0 < m) = true := decide_eq_true hm0
          obtain ⟨j, hj, e1, e2, e3⟩ := frR_go hm6 hm0 hmk.out
          obtain ⟨d, hd⟩ : ∃ d, d = 10 * m / 256 := ⟨_, rfl⟩
          obtain ⟨r, hr⟩ : ∃ r, r = 10 * m % 256 := ⟨_, rfl⟩
          have hd1 : (10 * (m : Int)).tdiv 256 = (d : Int) := by rw [Int.tdiv_eq_ediv_of_nonneg (by omega)]; omega
          have hr1 : (10 * (m : Int)).tmod 256 = (r : Int) := by rw [Int.tmod_eq_emod_of_nonneg (by omega)]; omega
          have hr6 : r < 256 := by omega
          rw [← hd] at e1 e3
          rw [← hr] at e1 e2
          have w1 : IntKind.i64.wrap (10 * (m : Int)) = 10 * (m : Int) := by rw [IntKind.wrap_i64]; omega
          have w2 : IntKind.i64.wrap (d : Int) = (d : Int) := by rw [IntKind.wrap_i64]; omega
          have w3 : IntKind.i64.wrap (r : Int) = (r : Int) := by rw [IntKind.wrap_i64]; omega
          obtain ⟨dd, hdd⟩ : ∃ x, Lib.decDigits d = x := ⟨_, rfl⟩
          have hd1l : dd.length = 1 := by rw [← hdd, dec_small (by omega)]; rfl
          have K2 := Lib.hid (fun W => rdig_any d W (by omega))
          rw [hdd] at K2 e1
          unfold SR at K2
          have HL2 : Hid ((l ++ dd) ++ frR j r = printS n) := Lib.hid (by rw [List.append_assoc, ← e1]; exact hl.out)
          have HE2 := Lib.hid e2
          have A4 := fun W => run_cat (P := Tryd.prog) l dd (by omega) W
          have hlen2 : (l ++ dd).length + j ≤ 14 := by rw [List.length_append, hd1l]; omega
          have hsz : strL (.string ⟨l.toArray⟩) = l.length := rfl
          have hsz2 : strL (.string ⟨(l ++ dd).toArray⟩) = l.length + 1 := by show (l ++ dd).length = _; rw [List.length_append, hd1l]
          clear e1 e2 hd hr hdd hj
          go_wp2_with fail
          refine (K2.out _).mono ?_
          clear K2
          rintro e w2 ⟨rfl, hb1⟩
          have HB := Lib.hid (HB.out.trans (hb1.mono HB.out.size)); clear hb1
          go_wp2_with fail
          go_roundw
          case rel => exact ⟨j, r, l ++ dd, rfl, by go_num, hr6, HE2, HL2, hlen2, HB⟩
          case measure => rw [hsz2, hsz]; omega
        · have t4 : decide ((0 : Int) < (m : Int)) = false := decide_eq_false (by omega)
          have t4n : decide (0 < m) = false := decide_eq_false hm0
          obtain rfl : m = 0 := by omega
          have HL2 : Hid (l = printS n) := Lib.hid (by have := hl.out; rwa [frR_zero, List.append_nil] at this)
          go_wp2_with fail
          first | exact FIN.out _ _ HL2.out HB.out | (go_ret2; exact FIN.out _ _ HL2.out HB.out)
  · have t3 : decide (n < 0) = false := decide_eq_false hn
    have HF : Hid (printS n = [] ++ (ds ++ pointS M)) := Lib.hid (by rw [HP.out, if_neg hn])
    have hneg : n = (N : Int) := by omega
    have A1 := fun W => run_cat (P := Tryd.prog) [] ds (by simp; omega) W
    have A2 := fun W => run_cat (P := Tryd.prog) (ds) [46] (by simp; omega) W
    clear hN HP hn hF hM
    subst hneg
    by_cases hM0 : 0 < M
    · have t4 : decide ((0 : Int) < (M : Int)) = true := decide_eq_true (by omega)
      have t4n : decide (0 < M) = true := decide_eq_true hM0
      have HS0 : Hid ((ds ++ [46]) ++ frR 8 M = printS (N : Int)) := Lib.hid (by rw [HF.out, HPT.out, if_neg (by omega)]; simp)
      clear hM0 HF HPT
      go_enter Tryd.func24, Tryd.ntmps24
      go_wp2_with fail
      refine (K1.out _).mono ?_
      clear K1
      rintro e w1 ⟨rfl, hb1⟩
      have HB := Lib.hid hb1; clear hb1
      go_wp2_with fail
      go_loopw [4, 5] (fun u v wr => ∃ (k m : Nat) (l : List UInt8), u = .string ⟨l.toArray⟩ ∧ v = .int .i64 (m : Int) ∧ m < 256 ∧ Hid (m * 10 ^ k % 256 = 0) ∧ Hid (l ++ frR k m = printS (N : Int)) ∧ l.length + k ≤ 14 ∧ Hid (Below w.heap.size w wr)) (fun u _ _ => 20 - strL u)
      case atStart => exact ⟨8, M, (ds ++ [46]), by first | rfl | trivial | simp, rfl, hM6, Lib.hid (any_pow M), HS0, by simp; omega, HB⟩
      case round =>
        clear HS0 HB hM6 td wd tm wm
        obtain ⟨k, m, l, rfl, rfl, hm6, hmk, hl, hlk, HB⟩ := hrel
        by_cases hm0 : 0 < m
        · have t4 : decide ((0 : Int) < (m : Int)) = true := decide_eq_true (by omega)
          have t4n : decide (0 < m) = true := decide_eq_true hm0
          obtain ⟨j, hj, e1, e2, e3⟩ := frR_go hm6 hm0 hmk.out
          obtain ⟨d, hd⟩ : ∃ d, d = 10 * m / 256 := ⟨_, rfl⟩
          obtain ⟨r, hr⟩ : ∃ r, r = 10 * m % 256 := ⟨_, rfl⟩
          have hd1 : (10 * (m : Int)).tdiv 256 = (d : Int) := by rw [Int.tdiv_eq_ediv_of_nonneg (by omega)]; omega
          have hr1 : (10 * (m : Int)).tmod 256 = (r : Int) := by rw [Int.tmod_eq_emod_of_nonneg (by omega)]; omega
          have hr6 : r < 256 := by omega
          rw [← hd] at e1 e3
          rw [← hr] at e1 e2
          have w1 : IntKind.i64.wrap (10 * (m : Int)) = 10 * (m : Int) := by rw [IntKind.wrap_i64]; omega
          have w2 : IntKind.i64.wrap (d : Int) = (d : Int) := by rw [IntKind.wrap_i64]; omega
          have w3 : IntKind.i64.wrap (r : Int) = (r : Int) := by rw [IntKind.wrap_i64]; omega
          obtain ⟨dd, hdd⟩ : ∃ x, Lib.decDigits d = x := ⟨_, rfl⟩
          have hd1l : dd.length = 1 := by rw [← hdd, dec_small (by omega)]; rfl
          have K2 := Lib.hid (fun W => rdig_any d W (by omega))
          rw [hdd] at K2 e1
          unfold SR at K2
          have HL2 : Hid ((l ++ dd) ++ frR j r = printS (N : Int)) := Lib.hid (by rw [List.append_assoc, ← e1]; exact hl.out)
          have HE2 := Lib.hid e2
          have A4 := fun W => run_cat (P := Tryd.prog) l dd (by omega) W
          have hlen2 : (l ++ dd).length + j ≤ 14 := by rw [List.length_append, hd1l]; omega
          have hsz : strL (.string ⟨l.toArray⟩) = l.length := rfl
          have hsz2 : strL (.string ⟨(l ++ dd).toArray⟩) = l.length + 1 := by show (l ++ dd).length = _; rw [List.length_append, hd1l]
          clear e1 e2 hd hr hdd hj
          go_wp2_with fail
          refine (K2.out _).mono ?_
          clear K2
          rintro e w2 ⟨rfl, hb1⟩
          have HB := Lib.hid (HB.out.trans (hb1.mono HB.out.size)); clear hb1
          go_wp2_with fail
          go_roundw
          case rel => exact ⟨j, r, l ++ dd, rfl, by go_num, hr6, HE2, HL2, hlen2, HB⟩
          case measure => rw [hsz2, hsz]; omega
        · have t4 : decide ((0 : Int) < (m : Int)) = false := decide_eq_false (by omega)
          have t4n : decide (0 < m) = false := decide_eq_false hm0
          obtain rfl : m = 0 := by omega
          have HL2 : Hid (l = printS (N : Int)) := Lib.hid (by have := hl.out; rwa [frR_zero, List.append_nil] at this)
          go_wp2_with fail
          first | exact FIN.out _ _ HL2.out HB.out | (go_ret2; exact FIN.out _ _ HL2.out HB.out)
    · have t4 : decide ((0 : Int) < (M : Int)) = false := decide_eq_false (by omega)
      have t4n : decide (0 < M) = false := decide_eq_false hM0
      have HS0 : Hid (ds ++ frR 8 M = printS (N : Int)) := Lib.hid (by rw [HF.out, HPT.out, if_pos (by omega), show M = 0 by omega, frR_zero]; simp)
      clear hM0 HF HPT
      go_enter Tryd.func24, Tryd.ntmps24
      go_wp2_with fail
      refine (K1.out _).mono ?_
      clear K1
      rintro e w1 ⟨rfl, hb1⟩
      have HB := Lib.hid hb1; clear hb1
      go_wp2_with fail
      go_loopw [4, 5] (fun u v wr => ∃ (k m : Nat) (l : List UInt8), u = .string ⟨l.toArray⟩ ∧ v = .int .i64 (m : Int) ∧ m < 256 ∧ Hid (m * 10 ^ k % 256 = 0) ∧ Hid (l ++ frR k m = printS (N : Int)) ∧ l.length + k ≤ 14 ∧ Hid (Below w.heap.size w wr)) (fun u _ _ => 20 - strL u)
      case atStart => exact ⟨8, M, ds, by first | rfl | trivial | simp, rfl, hM6, Lib.hid (any_pow M), HS0, by simp; omega, HB⟩
      case round =>
        clear HS0 HB hM6 td wd tm wm
        obtain ⟨k, m, l, rfl, rfl, hm6, hmk, hl, hlk, HB⟩ := hrel
        by_cases hm0 : 0 < m
        · have t4 : decide ((0 : Int) < (m : Int)) = true := decide_eq_true (by omega)
          have t4n : decide (0 < m) = true := decide_eq_true hm0
          obtain ⟨j, hj, e1, e2, e3⟩ := frR_go hm6 hm0 hmk.out
          obtain ⟨d, hd⟩ : ∃ d, d = 10 * m / 256 := ⟨_, rfl⟩
          obtain ⟨r, hr⟩ : ∃ r, r = 10 * m % 256 := ⟨_, rfl⟩
          have hd1 : (10 * (m : Int)).tdiv 256 = (d : Int) := by rw [Int.tdiv_eq_ediv_of_nonneg (by omega)]; omega
          have hr1 : (10 * (m : Int)).tmod 256 = (r : Int) := by rw [Int.tmod_eq_emod_of_nonneg (by omega)]; omega
          have hr6 : r < 256 := by omega
          rw [← hd] at e1 e3
          rw [← hr] at e1 e2
          have w1 : IntKind.i64.wrap (10 * (m : Int)) = 10 * (m : Int) := by rw [IntKind.wrap_i64]; omega
          have w2 : IntKind.i64.wrap (d : Int) = (d : Int) := by rw [IntKind.wrap_i64]; omega
          have w3 : IntKind.i64.wrap (r : Int) = (r : Int) := by rw [IntKind.wrap_i64]; omega
          obtain ⟨dd, hdd⟩ : ∃ x, Lib.decDigits d = x := ⟨_, rfl⟩
          have hd1l : dd.length = 1 := by rw [← hdd, dec_small (by omega)]; rfl
          have K2 := Lib.hid (fun W => rdig_any d W (by omega))
          rw [hdd] at K2 e1
          unfold SR at K2
          have HL2 : Hid ((l ++ dd) ++ frR j r = printS (N : Int)) := Lib.hid (by rw [List.append_assoc, ← e1]; exact hl.out)
          have HE2 := Lib.hid e2
          have A4 := fun W => run_cat (P := Tryd.prog) l dd (by omega) W
          have hlen2 : (l ++ dd).length + j ≤ 14 := by rw [List.length_append, hd1l]; omega
          have hsz : strL (.string ⟨l.toArray⟩) = l.length := rfl
          have hsz2 : strL (.string ⟨(l ++ dd).toArray⟩) = l.length + 1 := by show (l ++ dd).length = _; rw [List.length_append, hd1l]
          clear e1 e2 hd hr hdd hj
          go_wp2_with fail
          refine (K2.out _).mono ?_
          clear K2
          rintro e w2 ⟨rfl, hb1⟩
          have HB := Lib.hid (HB.out.trans (hb1.mono HB.out.size)); clear hb1
          go_wp2_with fail
          go_roundw
          case rel => exact ⟨j, r, l ++ dd, rfl, by go_num, hr6, HE2, HL2, hlen2, HB⟩
          case measure => rw [hsz2, hsz]; omega
        · have t4 : decide ((0 : Int) < (m : Int)) = false := decide_eq_false (by omega)
          have t4n : decide (0 < m) = false := decide_eq_false hm0
          obtain rfl : m = 0 := by omega
          have HL2 : Hid (l = printS (N : Int)) := Lib.hid (by have := hl.out; rwa [frR_zero, List.append_nil] at this)
          go_wp2_with fail
          first | exact FIN.out _ _ HL2.out HB.out | (go_ret2; exact FIN.out _ _ HL2.out HB.out)
theorem sprintref_any (n : Int) (w : World) (hn : i64b n) : Calls Tryd.prog 24 #[.int .i64 n] w (SE w (printR n).1 (printR n).2) := by
  unfold printR
  by_cases h : -1048576 ≤ n ∧ n ≤ 1048576
  · rw [if_pos h]; exact sprintref_yes n w h
  · rw [if_neg h]; exact sprintref_no n w hn h
end Go.Proofs.YtkdffcoofijhkaaDoor
