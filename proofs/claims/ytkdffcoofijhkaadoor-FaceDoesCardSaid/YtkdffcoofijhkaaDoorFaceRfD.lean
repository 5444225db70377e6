/-
  THE WALK OF limewashref07.Print.
-/
import Derived.Test.YtkdffcoofijhkaaDoorSl
import Derived.Test.YtkdffcoofijhkaaDoorFaceWalkF
import Derived.Test.YtkdffcoofijhkaaDoorRefDig
set_option linter.unusedVariables false
set_option linter.unusedSimpArgs false
set_option maxRecDepth 8000
namespace Go.Proofs.YtkdffcoofijhkaaDoor
open Go.RowKit

set_option maxHeartbeats 1600000 in
theorem printref_any (c : P3) (w : World) (hc : c.bd) : Calls Tryd.prog 33 #[p3V c] w (SE w (printC c).1 (printC c).2) := by
  have htx := textC_eq c
  obtain ⟨v, t, n⟩ := c
  unfold P3.bd i64b at hc
  simp only at hc htx
  have HTX := Lib.hid htx
  have hpr : printC ⟨v, t, n⟩ = if 0 ≤ v ∧ v ≤ 9999998 ∧ -1 ≤ t ∧ t ≤ 9999998 ∧ -1 ≤ n ∧ n ≤ 9999998 then (textC ⟨v, t, n⟩, 0) else ([], 1) := by
    unfold printC okC
    simp only [decide_eq_true_eq]
  have HPR := Lib.hid hpr
  have FIN : Hid (∀ (l : List UInt8) (z : Int) W, printC ⟨v, t, n⟩ = (l, z) → Below w.heap.size w W → SE w (printC ⟨v, t, n⟩).1 (printC ⟨v, t, n⟩).2 (.returned (.tuple #[.string ⟨l.toArray⟩, .int .i64 z])) W) := Lib.hid fun l z W h hb => by rw [h]; exact ⟨rfl, hb⟩
  generalize hQ : SE w (printC ⟨v, t, n⟩).1 (printC ⟨v, t, n⟩).2 = Qp at FIN ⊢
  clear hQ htx hpr
  have HS := Lib.hid (SlotN.new w [.int .i64 v, .int .i64 t, .int .i64 n] #[.int .i64 v, .int .i64 t, .int .i64 n] 26 rfl)
  have HB := Lib.hid ((Below.refl w.heap.size w).alloc (Nat.le_refl _) (.cells #[.int .i64 v, .int .i64 t, .int .i64 n] 26))
  have hz : w.heap.size < (w.alloc (.cells #[.int .i64 v, .int .i64 t, .int .i64 n] 26)).heap.size := by simp
  unfold p3V
  have d0 := HS.out.c 0 _ rfl
  have d1 := HS.out.c 1 _ rfl
  have d2 := HS.out.c 2 _ rfl
  by_cases g0 : v < 0
  · have a0 : decide (v < 0) = true := decide_eq_true g0
    have HR : Hid (printC ⟨v, t, n⟩ = ([], 1)) := Lib.hid (by rw [HPR.out, if_neg (by omega)])
    clear hc g0
    go_enter Tryd.func33, Tryd.ntmps33
    go_wp2_with fail
    first
      | exact FIN.out [] 1 _ HR.out HB.out
      | (go_ret2; exact FIN.out [] 1 _ HR.out HB.out)
  have a0 : decide (v < 0) = false := decide_eq_false g0
  by_cases g1 : 9999998 < v
  · have a1 : decide (9999998 < v) = true := decide_eq_true g1
    have HR : Hid (printC ⟨v, t, n⟩ = ([], 1)) := Lib.hid (by rw [HPR.out, if_neg (by omega)])
    clear hc g0 g1
    go_enter Tryd.func33, Tryd.ntmps33
    go_wp2_with fail
    first
      | exact FIN.out [] 1 _ HR.out HB.out
      | (go_ret2; exact FIN.out [] 1 _ HR.out HB.out)
  have a1 : decide (9999998 < v) = false := decide_eq_false g1
  by_cases g2 : t < -1
  · have a2 : decide (t < -1) = true := decide_eq_true g2
    have HR : Hid (printC ⟨v, t, n⟩ = ([], 1)) := Lib.hid (by rw [HPR.out, if_neg (by omega)])
    clear hc g0 g1 g2
    go_enter Tryd.func33, Tryd.ntmps33
    go_wp2_with fail
    first
      | exact FIN.out [] 1 _ HR.out HB.out
      | (go_ret2; exact FIN.out [] 1 _ HR.out HB.out)
  have a2 : decide (t < -1) = false := decide_eq_false g2
  by_cases g3 : 9999998 < t
  · have a3 : decide (9999998 < t) = true := decide_eq_true g3
    have HR : Hid (printC ⟨v, t, n⟩ = ([], 1)) := Lib.hid (by rw [HPR.out, if_neg (by omega)])
    clear hc g0 g1 g2 g3
    go_enter Tryd.func33, Tryd.ntmps33
    go_wp2_with fail
    first
      | exact FIN.out [] 1 _ HR.out HB.out
      | (go_ret2; exact FIN.out [] 1 _ HR.out HB.out)
  have a3 : decide (9999998 < t) = false := decide_eq_false g3
  by_cases g4 : n < -1
  · have a4 : decide (n < -1) = true := decide_eq_true g4
    have HR : Hid (printC ⟨v, t, n⟩ = ([], 1)) := Lib.hid (by rw [HPR.out, if_neg (by omega)])
    clear hc g0 g1 g2 g3 g4
    go_enter Tryd.func33, Tryd.ntmps33
    go_wp2_with fail
    first
      | exact FIN.out [] 1 _ HR.out HB.out
      | (go_ret2; exact FIN.out [] 1 _ HR.out HB.out)
  have a4 : decide (n < -1) = false := decide_eq_false g4
  by_cases g5 : 9999998 < n
  · have a5 : decide (9999998 < n) = true := decide_eq_true g5
    have HR : Hid (printC ⟨v, t, n⟩ = ([], 1)) := Lib.hid (by rw [HPR.out, if_neg (by omega)])
    clear hc g0 g1 g2 g3 g4 g5
    go_enter Tryd.func33, Tryd.ntmps33
    go_wp2_with fail
    first
      | exact FIN.out [] 1 _ HR.out HB.out
      | (go_ret2; exact FIN.out [] 1 _ HR.out HB.out)
  have a5 : decide (9999998 < n) = false := decide_eq_false g5
  have HOK : Hid (printC ⟨v, t, n⟩ = (textC ⟨v, t, n⟩, 0)) := Lib.hid (by rw [HPR.out, if_pos (by omega)])
  have KD := Lib.hid (fun (N : Nat) W (h : N ≤ 9999999) => rdig_any N W (by omega))
  unfold SR at KD
  have HLEN : Hid (∀ N, N ≤ 9999999 → (Lib.decDigits N).length ≤ 7) := Lib.hid fun N h => dec_len N 6 (by omega)
  by_cases ht : t < 0
  · have b1 : decide (0 ≤ t) = false := decide_eq_false (by omega)
    have b2 : decide (t < 0) = true := decide_eq_true (by omega)
    by_cases hn : n < 0
    · have b3 : decide (0 ≤ n) = false := decide_eq_false (by omega)
      obtain ⟨N0, hN0⟩ : ∃ N : Nat, N = (v + 1).toNat := ⟨_, rfl⟩
      have w0 : IntKind.i64.wrap (v + 1) = (N0 : Int) := by rw [IntKind.wrap_i64]; omega
      have hl0 := HLEN.out N0 (by omega)
      have K0 := Lib.hid (fun W => KD.out N0 W (by omega))
      have HN0 := Lib.hid hN0
      clear hN0
      obtain ⟨D0, hD0⟩ : ∃ D, D = Lib.decDigits N0 := ⟨_, rfl⟩
      rw [← hD0] at K0 hl0
      have HD0 := Lib.hid hD0
      clear hD0
      have HR : Hid (printC ⟨v, t, n⟩ = (D0, 0)) := Lib.hid (by
        rw [HOK.out, HTX.out, HD0.out, HN0.out]
        simp [ht, numC, hn, show ¬ 0 ≤ t by omega])
      clear ht hn hc KD g0 g1 g2 g3 g4 g5
      go_enter Tryd.func33, Tryd.ntmps33
      go_wp2_with fail
      refine (K0.out _).mono ?_
      clear K0
      rintro e wy ⟨rfl, hb⟩
      have HSn := Lib.hid (HS.out.below hb hz)
      have HBn := Lib.hid (HB.out.trans (hb.mono HB.out.size))
      have hzn : w.heap.size < wy.heap.size := Nat.lt_of_lt_of_le hz hb.size
      clear HS HB hz hb d0 d1 d2
      have HS := HSn
      have HB := HBn
      have hz := hzn
      clear HSn HBn hzn
      have d0 := HS.out.c 0 _ rfl
      have d1 := HS.out.c 1 _ rfl
      have d2 := HS.out.c 2 _ rfl
      go_wp2_with fail
      first
        | exact FIN.out D0 0 _ HR.out HB.out
        | (go_ret2; exact FIN.out D0 0 _ HR.out HB.out)
    · have b3 : decide (0 ≤ n) = true := decide_eq_true (by omega)
      obtain ⟨N0, hN0⟩ : ∃ N : Nat, N = (v + 1).toNat := ⟨_, rfl⟩
      have w0 : IntKind.i64.wrap (v + 1) = (N0 : Int) := by rw [IntKind.wrap_i64]; omega
      have hl0 := HLEN.out N0 (by omega)
      have K0 := Lib.hid (fun W => KD.out N0 W (by omega))
      have HN0 := Lib.hid hN0
      clear hN0
      obtain ⟨D0, hD0⟩ : ∃ D, D = Lib.decDigits N0 := ⟨_, rfl⟩
      rw [← hD0] at K0 hl0
      have HD0 := Lib.hid hD0
      clear hD0
      obtain ⟨N2, hN2⟩ : ∃ N : Nat, N = (n + 1).toNat := ⟨_, rfl⟩
      have w2 : IntKind.i64.wrap (n + 1) = (N2 : Int) := by rw [IntKind.wrap_i64]; omega
      have hl2 := HLEN.out N2 (by omega)
      have K2 := Lib.hid (fun W => KD.out N2 W (by omega))
      have HN2 := Lib.hid hN2
      clear hN2
      obtain ⟨D2, hD2⟩ : ∃ D, D = Lib.decDigits N2 := ⟨_, rfl⟩
      rw [← hD2] at K2 hl2
      have HD2 := Lib.hid hD2
      clear hD2
      obtain ⟨O3, hO3⟩ : ∃ l, l = D0 ++ [47] := ⟨_, rfl⟩
      have cO3 : ∀ W, (Op.stringOp .add ⟨D0.toArray⟩ ⟨#[47]⟩).run Tryd.prog W = .ok (.string ⟨O3.toArray⟩) W := fun W => by rw [hO3]; exact run_cat D0 [47] (by (try simp); omega) W
      have lO3 : O3.length ≤ D0.length + 1 := by rw [hO3]; simp
      have HO3 := Lib.hid hO3
      clear hO3
      obtain ⟨O4, hO4⟩ : ∃ l, l = O3 ++ [47] := ⟨_, rfl⟩
      have cO4 : ∀ W, (Op.stringOp .add ⟨O3.toArray⟩ ⟨#[47]⟩).run Tryd.prog W = .ok (.string ⟨O4.toArray⟩) W := fun W => by rw [hO4]; exact run_cat O3 [47] (by (try simp); omega) W
      have lO4 : O4.length ≤ O3.length + 1 := by rw [hO4]; simp
      have HO4 := Lib.hid hO4
      clear hO4
      obtain ⟨O5, hO5⟩ : ∃ l, l = O4 ++ D2 := ⟨_, rfl⟩
      have cO5 : ∀ W, (Op.stringOp .add ⟨O4.toArray⟩ ⟨D2.toArray⟩).run Tryd.prog W = .ok (.string ⟨O5.toArray⟩) W := fun W => by rw [hO5]; exact run_cat O4 D2 (by (try simp); omega) W
      have lO5 : O5.length ≤ O4.length + D2.length := by rw [hO5]; simp
      have HO5 := Lib.hid hO5
      clear hO5
      have HR : Hid (printC ⟨v, t, n⟩ = (O5, 0)) := Lib.hid (by
        rw [HOK.out, HTX.out, HO5.out, HO4.out, HO3.out, HD0.out, HD2.out, HN0.out, HN2.out]
        simp [ht, numC, hn, show ¬ 0 ≤ t by omega])
      clear ht hn hc KD g0 g1 g2 g3 g4 g5
      go_enter Tryd.func33, Tryd.ntmps33
      go_wp2_with fail
      refine (K0.out _).mono ?_
      clear K0
      rintro e wy ⟨rfl, hb⟩
      have HSn := Lib.hid (HS.out.below hb hz)
      have HBn := Lib.hid (HB.out.trans (hb.mono HB.out.size))
      have hzn : w.heap.size < wy.heap.size := Nat.lt_of_lt_of_le hz hb.size
      clear HS HB hz hb d0 d1 d2
      have HS := HSn
      have HB := HBn
      have hz := hzn
      clear HSn HBn hzn
      have d0 := HS.out.c 0 _ rfl
      have d1 := HS.out.c 1 _ rfl
      have d2 := HS.out.c 2 _ rfl
      go_wp2_with fail
      refine (K2.out _).mono ?_
      clear K2
      rintro e wy ⟨rfl, hb⟩
      have HSn := Lib.hid (HS.out.below hb hz)
      have HBn := Lib.hid (HB.out.trans (hb.mono HB.out.size))
      have hzn : w.heap.size < wy.heap.size := Nat.lt_of_lt_of_le hz hb.size
      clear HS HB hz hb d0 d1 d2
      have HS := HSn
      have HB := HBn
      have hz := hzn
      clear HSn HBn hzn
      have d0 := HS.out.c 0 _ rfl
      have d1 := HS.out.c 1 _ rfl
      have d2 := HS.out.c 2 _ rfl
      go_wp2_with fail
      first
        | exact FIN.out O5 0 _ HR.out HB.out
        | (go_ret2; exact FIN.out O5 0 _ HR.out HB.out)
  · have b1 : decide (0 ≤ t) = true := decide_eq_true (by omega)
    have b2 : decide (t < 0) = false := decide_eq_false (by omega)
    by_cases hn : n < 0
    · have b3 : decide (0 ≤ n) = false := decide_eq_false (by omega)
      obtain ⟨N0, hN0⟩ : ∃ N : Nat, N = (v + 1).toNat := ⟨_, rfl⟩
      have w0 : IntKind.i64.wrap (v + 1) = (N0 : Int) := by rw [IntKind.wrap_i64]; omega
      have hl0 := HLEN.out N0 (by omega)
      have K0 := Lib.hid (fun W => KD.out N0 W (by omega))
      have HN0 := Lib.hid hN0
      clear hN0
      obtain ⟨D0, hD0⟩ : ∃ D, D = Lib.decDigits N0 := ⟨_, rfl⟩
      rw [← hD0] at K0 hl0
      have HD0 := Lib.hid hD0
      clear hD0
      obtain ⟨N1, hN1⟩ : ∃ N : Nat, N = (t + 1).toNat := ⟨_, rfl⟩
      have w1 : IntKind.i64.wrap (t + 1) = (N1 : Int) := by rw [IntKind.wrap_i64]; omega
      have hl1 := HLEN.out N1 (by omega)
      have K1 := Lib.hid (fun W => KD.out N1 W (by omega))
      have HN1 := Lib.hid hN1
      clear hN1
      obtain ⟨D1, hD1⟩ : ∃ D, D = Lib.decDigits N1 := ⟨_, rfl⟩
      rw [← hD1] at K1 hl1
      have HD1 := Lib.hid hD1
      clear hD1
      obtain ⟨O1, hO1⟩ : ∃ l, l = D0 ++ [47] := ⟨_, rfl⟩
      have cO1 : ∀ W, (Op.stringOp .add ⟨D0.toArray⟩ ⟨#[47]⟩).run Tryd.prog W = .ok (.string ⟨O1.toArray⟩) W := fun W => by rw [hO1]; exact run_cat D0 [47] (by (try simp); omega) W
      have lO1 : O1.length ≤ D0.length + 1 := by rw [hO1]; simp
      have HO1 := Lib.hid hO1
      clear hO1
      obtain ⟨O2, hO2⟩ : ∃ l, l = O1 ++ D1 := ⟨_, rfl⟩
      have cO2 : ∀ W, (Op.stringOp .add ⟨O1.toArray⟩ ⟨D1.toArray⟩).run Tryd.prog W = .ok (.string ⟨O2.toArray⟩) W := fun W => by rw [hO2]; exact run_cat O1 D1 (by (try simp); omega) W
      have lO2 : O2.length ≤ O1.length + D1.length := by rw [hO2]; simp
      have HO2 := Lib.hid hO2
      clear hO2
      have HR : Hid (printC ⟨v, t, n⟩ = (O2, 0)) := Lib.hid (by
        rw [HOK.out, HTX.out, HO2.out, HO1.out, HD0.out, HD1.out, HN0.out, HN1.out]
        simp [ht, numC, hn, show 0 ≤ t by omega])
      clear ht hn hc KD g0 g1 g2 g3 g4 g5
      go_enter Tryd.func33, Tryd.ntmps33
      go_wp2_with fail
      refine (K0.out _).mono ?_
      clear K0
      rintro e wy ⟨rfl, hb⟩
      have HSn := Lib.hid (HS.out.below hb hz)
      have HBn := Lib.hid (HB.out.trans (hb.mono HB.out.size))
      have hzn : w.heap.size < wy.heap.size := Nat.lt_of_lt_of_le hz hb.size
      clear HS HB hz hb d0 d1 d2
      have HS := HSn
      have HB := HBn
      have hz := hzn
      clear HSn HBn hzn
      have d0 := HS.out.c 0 _ rfl
      have d1 := HS.out.c 1 _ rfl
      have d2 := HS.out.c 2 _ rfl
      go_wp2_with fail
      refine (K1.out _).mono ?_
      clear K1
      rintro e wy ⟨rfl, hb⟩
      have HSn := Lib.hid (HS.out.below hb hz)
      have HBn := Lib.hid (HB.out.trans (hb.mono HB.out.size))
      have hzn : w.heap.size < wy.heap.size := Nat.lt_of_lt_of_le hz hb.size
      clear HS HB hz hb d0 d1 d2
      have HS := HSn
      have HB := HBn
      have hz := hzn
      clear HSn HBn hzn
      have d0 := HS.out.c 0 _ rfl
      have d1 := HS.out.c 1 _ rfl
      have d2 := HS.out.c 2 _ rfl
      go_wp2_with fail
      first
        | exact FIN.out O2 0 _ HR.out HB.out
        | (go_ret2; exact FIN.out O2 0 _ HR.out HB.out)
    · have b3 : decide (0 ≤ n) = true := decide_eq_true (by omega)
      obtain ⟨N0, hN0⟩ : ∃ N : Nat, N = (v + 1).toNat := ⟨_, rfl⟩
      have w0 : IntKind.i64.wrap (v + 1) = (N0 : Int) := by rw [IntKind.wrap_i64]; omega
      have hl0 := HLEN.out N0 (by omega)
      have K0 := Lib.hid (fun W => KD.out N0 W (by omega))
      have HN0 := Lib.hid hN0
      clear hN0
      obtain ⟨D0, hD0⟩ : ∃ D, D = Lib.decDigits N0 := ⟨_, rfl⟩
      rw [← hD0] at K0 hl0
      have HD0 := Lib.hid hD0
      clear hD0
      obtain ⟨N1, hN1⟩ : ∃ N : Nat, N = (t + 1).toNat := ⟨_, rfl⟩
      have w1 : IntKind.i64.wrap (t + 1) = (N1 : Int) := by rw [IntKind.wrap_i64]; omega
      have hl1 := HLEN.out N1 (by omega)
      have K1 := Lib.hid (fun W => KD.out N1 W (by omega))
      have HN1 := Lib.hid hN1
      clear hN1
      obtain ⟨D1, hD1⟩ : ∃ D, D = Lib.decDigits N1 := ⟨_, rfl⟩
      rw [← hD1] at K1 hl1
      have HD1 := Lib.hid hD1
      clear hD1
      obtain ⟨N2, hN2⟩ : ∃ N : Nat, N = (n + 1).toNat := ⟨_, rfl⟩
      have w2 : IntKind.i64.wrap (n + 1) = (N2 : Int) := by rw [IntKind.wrap_i64]; omega
      have hl2 := HLEN.out N2 (by omega)
      have K2 := Lib.hid (fun W => KD.out N2 W (by omega))
      have HN2 := Lib.hid hN2
      clear hN2
      obtain ⟨D2, hD2⟩ : ∃ D, D = Lib.decDigits N2 := ⟨_, rfl⟩
      rw [← hD2] at K2 hl2
      have HD2 := Lib.hid hD2
      clear hD2
      obtain ⟨O1, hO1⟩ : ∃ l, l = D0 ++ [47] := ⟨_, rfl⟩
      have cO1 : ∀ W, (Op.stringOp .add ⟨D0.toArray⟩ ⟨#[47]⟩).run Tryd.prog W = .ok (.string ⟨O1.toArray⟩) W := fun W => by rw [hO1]; exact run_cat D0 [47] (by (try simp); omega) W
      have lO1 : O1.length ≤ D0.length + 1 := by rw [hO1]; simp
      have HO1 := Lib.hid hO1
      clear hO1
      obtain ⟨O2, hO2⟩ : ∃ l, l = O1 ++ D1 := ⟨_, rfl⟩
      have cO2 : ∀ W, (Op.stringOp .add ⟨O1.toArray⟩ ⟨D1.toArray⟩).run Tryd.prog W = .ok (.string ⟨O2.toArray⟩) W := fun W => by rw [hO2]; exact run_cat O1 D1 (by (try simp); omega) W
      have lO2 : O2.length ≤ O1.length + D1.length := by rw [hO2]; simp
      have HO2 := Lib.hid hO2
      clear hO2
      obtain ⟨O4, hO4⟩ : ∃ l, l = O2 ++ [47] := ⟨_, rfl⟩
      have cO4 : ∀ W, (Op.stringOp .add ⟨O2.toArray⟩ ⟨#[47]⟩).run Tryd.prog W = .ok (.string ⟨O4.toArray⟩) W := fun W => by rw [hO4]; exact run_cat O2 [47] (by (try simp); omega) W
      have lO4 : O4.length ≤ O2.length + 1 := by rw [hO4]; simp
      have HO4 := Lib.hid hO4
      clear hO4
      obtain ⟨O5, hO5⟩ : ∃ l, l = O4 ++ D2 := ⟨_, rfl⟩
      have cO5 : ∀ W, (Op.stringOp .add ⟨O4.toArray⟩ ⟨D2.toArray⟩).run Tryd.prog W = .ok (.string ⟨O5.toArray⟩) W := fun W => by rw [hO5]; exact run_cat O4 D2 (by (try simp); omega) W
      have lO5 : O5.length ≤ O4.length + D2.length := by rw [hO5]; simp
      have HO5 := Lib.hid hO5
      clear hO5
      have HR : Hid (printC ⟨v, t, n⟩ = (O5, 0)) := Lib.hid (by
        rw [HOK.out, HTX.out, HO5.out, HO4.out, HO2.out, HO1.out, HD0.out, HD1.out, HD2.out, HN0.out, HN1.out, HN2.out]
        simp [ht, numC, hn, show 0 ≤ t by omega])
      clear ht hn hc KD g0 g1 g2 g3 g4 g5
      go_enter Tryd.func33, Tryd.ntmps33
      go_wp2_with fail
      refine (K0.out _).mono ?_
      clear K0
      rintro e wy ⟨rfl, hb⟩
      have HSn := Lib.hid (HS.out.below hb hz)
      have HBn := Lib.hid (HB.out.trans (hb.mono HB.out.size))
      have hzn : w.heap.size < wy.heap.size := Nat.lt_of_lt_of_le hz hb.size
      clear HS HB hz hb d0 d1 d2
      have HS := HSn
      have HB := HBn
      have hz := hzn
      clear HSn HBn hzn
      have d0 := HS.out.c 0 _ rfl
      have d1 := HS.out.c 1 _ rfl
      have d2 := HS.out.c 2 _ rfl
      go_wp2_with fail
      refine (K1.out _).mono ?_
      clear K1
      rintro e wy ⟨rfl, hb⟩
      have HSn := Lib.hid (HS.out.below hb hz)
      have HBn := Lib.hid (HB.out.trans (hb.mono HB.out.size))
      have hzn : w.heap.size < wy.heap.size := Nat.lt_of_lt_of_le hz hb.size
      clear HS HB hz hb d0 d1 d2
      have HS := HSn
      have HB := HBn
      have hz := hzn
      clear HSn HBn hzn
      have d0 := HS.out.c 0 _ rfl
      have d1 := HS.out.c 1 _ rfl
      have d2 := HS.out.c 2 _ rfl
      go_wp2_with fail
      refine (K2.out _).mono ?_
      clear K2
      rintro e wy ⟨rfl, hb⟩
      have HSn := Lib.hid (HS.out.below hb hz)
      have HBn := Lib.hid (HB.out.trans (hb.mono HB.out.size))
      have hzn : w.heap.size < wy.heap.size := Nat.lt_of_lt_of_le hz hb.size
      clear HS HB hz hb d0 d1 d2
      have HS := HSn
      have HB := HBn
      have hz := hzn
      clear HSn HBn hzn
      have d0 := HS.out.c 0 _ rfl
      have d1 := HS.out.c 1 _ rfl
      have d2 := HS.out.c 2 _ rfl
      go_wp2_with fail
      first
        | exact FIN.out O5 0 _ HR.out HB.out
        | (go_ret2; exact FIN.out O5 0 _ HR.out HB.out)
end Go.Proofs.YtkdffcoofijhkaaDoor
