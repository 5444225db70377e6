/-
  THE WALK OF limewashref05.Whole.
-/
import Derived.Test.YtkdffcoofijhkaaDoorSl
import Derived.Test.YtkdffcoofijhkaaDoorScanDoB
import Derived.Test.YtkdffcoofijhkaaDoorScanL
set_option linter.unusedVariables false
set_option linter.unusedSimpArgs false
set_option maxRecDepth 8000
namespace Go.Proofs.YtkdffcoofijhkaaDoor
open Go.RowKit

theorem whole_parts (l T : List UInt8) (b : Bool) (hT : wholeT l = T) (hb : wholeB l = b) : wholeOk l = (!T.isEmpty && decide (T.length ≤ 7) && T.all isDig && !(T.head? == some 48 && (decide (1 < T.length) || b))) := by
  unfold wholeOk; rw [hT, hb]
set_option maxHeartbeats 1600000 in
theorem wholeref_any (l : List UInt8) (w : World) (hl : l.length ≤ 100000) :
    Calls Tryd.prog 26 #[.string ⟨l.toArray⟩] w fun e w' => e = .returned (.tuple #[.int .i64 (wholeS l).1, .int .i64 (wholeS l).2]) ∧ w' = w := by
  have FNO : Hid (wholeOk l = false → wholeS l = (0, 6)) := Lib.hid fun h => by unfold wholeS; rw [h]; rfl
  by_cases hm : ∃ t, l = 45 :: t
  · obtain ⟨t, rfl⟩ := hm
    have HW := Lib.hid (whole_minus t)
    have HP := Lib.hid (whole_parts (45 :: t) t true HW.out.1 HW.out.2)
    obtain ⟨l, hll⟩ : ∃ l, l = 45 :: t := ⟨_, rfl⟩
    rw [← hll] at HW HP FNO hl ⊢
    have a0 : decide ((0 : Int) < (l.length : Int)) = true := decide_eq_true (by rw [hll, List.length_cons]; omega)
    have a0n : decide (0 < l.length) = true := decide_eq_true (by rw [hll]; simp)
    have hi : ∀ W, Sem.run Tryd.prog (Instr.index 9 (.string ⟨l.toArray⟩) (.int .i64 0)) W = .ok (.int .u8 45) W := idx_str l 0 0 45 (by rw [hll]; rfl) rfl
    have hsl := run_sl_from (P := Tryd.prog) 9 l 1 1 rfl (by rw [hll]; simp) Tryd.underlying9
    have ht : l.drop 1 = t := by rw [hll]; rfl
    rw [ht] at hsl
    have htl : t.length ≤ 100000 := by rw [hll] at hl; simp at hl; omega
    clear hll ht
    by_cases h1 : t.length < 1
    · have t1 : decide ((t.length : Int) < 1) = true := decide_eq_true (by omega)
      have t1n : decide (t.length < 1) = true := decide_eq_true (by omega)
      have HNO : Hid (wholeS l = (0, 6)) := Lib.hid (FNO.out (by
        rw [HP.out]
        have : t = [] := List.eq_nil_of_length_eq_zero (by omega)
        rw [this]; rfl))
      go_enter Tryd.func26, Tryd.ntmps26
      go_wp2_with fail
      all_goals
        go_ret2
        exact ⟨by rw [HNO.out]; rfl, rfl⟩
    have t1 : decide ((t.length : Int) < 1) = false := decide_eq_false (by omega)
    have t1n : decide (t.length < 1) = false := decide_eq_false (by omega)
    by_cases h7 : 7 < t.length
    · have t7 : decide ((7 : Int) < (t.length : Int)) = true := decide_eq_true (by omega)
      have t7n : decide (7 < t.length) = true := decide_eq_true (by omega)
      have HNO : Hid (wholeS l = (0, 6)) := Lib.hid (FNO.out (by rw [HP.out, decide_eq_false (show ¬ t.length ≤ 7 by omega)]; simp))
      go_enter Tryd.func26, Tryd.ntmps26
      go_wp2_with fail
      all_goals
        go_ret2
        exact ⟨by rw [HNO.out]; rfl, rfl⟩
    have t7 : decide ((7 : Int) < (t.length : Int)) = false := decide_eq_false (by omega)
    have t7n : decide (7 < t.length) = false := decide_eq_false (by omega)
    obtain ⟨c0, hc0⟩ : ∃ c, t[0]? = some c := ⟨_, List.getElem?_eq_getElem (by omega)⟩
    have hi0 := idx_str t 0 0 c0 hc0 rfl
    have HH : Hid (t.head? = some c0) := Lib.hid (by rw [List.head?_eq_getElem?]; exact hc0)
    have hq := u8_eq c0 48 (by decide)
    by_cases h48 : c0 = 48
    · have t8 : (((c0.toNat : Nat) : Int) == 48) = true := by rw [show (48 : Int) = ((48 : Nat) : Int) from rfl, hq, h48]; rfl
      have HNO : Hid (wholeS l = (0, 6)) := Lib.hid (FNO.out (by rw [HP.out, HH.out, h48]; simp))
      clear hq h48 hc0
      go_enter Tryd.func26, Tryd.ntmps26
      go_wp2_with fail
      all_goals
        go_ret2
        exact ⟨by rw [HNO.out]; rfl, rfl⟩
    · have t8 : (((c0.toNat : Nat) : Int) == 48) = false := by rw [show (48 : Int) = ((48 : Nat) : Int) from rfl, hq, beq_eq_false_iff_ne]; exact h48
      have HLD : Hid ((t.head? == some 48 && (decide (1 < t.length) || true)) = false) := Lib.hid (by rw [HH.out]; simp [h48])
      clear hq h48 hc0
      go_enter Tryd.func26, Tryd.ntmps26
      go_wp2_with fail
      go_loopw [6, 7] (fun v i wr => ∃ k : Nat, k ≤ t.length ∧ i = .int .i64 (k : Int) ∧ v = .int .i64 (numD (t.take k) : Int) ∧ Hid ((t.take k).all isDig = true) ∧ wr = w) (fun _ i _ => t.length - (intOf i).toNat)
      case atStart => exact ⟨0, Nat.zero_le _, rfl, by simp [numD, valN], Lib.hid (by simp), rfl⟩
      case round =>
        obtain ⟨k, hk, rfl, rfl, hall, rfl⟩ := hrel
        have hnb := numD_le_len (t.take k) 7 hall.out (by simp; omega)
        have hwk : IntKind.i64.wrap ((k : Int) + 1) = (k : Int) + 1 := by rw [IntKind.wrap_i64]; omega
        by_cases hlt : k < t.length
        · have s0 : decide ((k : Int) < (t.length : Int)) = true := decide_eq_true (by omega)
          have s0n : decide (k < t.length) = true := decide_eq_true (by omega)
          obtain ⟨c, hc⟩ : ∃ c, t[k]? = some c := ⟨_, List.getElem?_eq_getElem hlt⟩
          have hik := idx_str t k (k : Int) c hc rfl
          have KD := Lib.hid (rdigit_any c wr)
          have HTS : Hid (t.take (k + 1) = t.take k ++ [c]) := Lib.hid (take_snoc' _ _ _ hc)
          have c8 := c.toNat_lt
          cases hd : isDig c with
          | false =>
            rw [hd] at KD
            have HNO : Hid (wholeS l = (0, 6)) := Lib.hid (FNO.out (by
              rw [HP.out]
              have : t.all isDig = false := by
                rw [List.all_eq_false]
                exact ⟨c, List.mem_of_getElem? hc, by rw [hd]; simp⟩
              rw [this]; simp))
            clear hd hc
            go_wp2_with fail
            refine KD.out.mono ?_
            rintro e wx ⟨rfl, hwx⟩; obtain rfl := hwx.symm
            go_wp2_with fail
            go_ret2
            exact ⟨by rw [HNO.out]; rfl, by first | rfl | trivial⟩
          | true =>
            rw [hd] at KD
            have HA : Hid ((t.take (k + 1)).all isDig = true) := Lib.hid (by rw [HTS.out, List.all_append, hall.out]; simp [hd])
            have hv := numD_snoc (t.take k) c
            rw [← HTS.out] at hv
            have hdc := (isDig_iff c).1 hd
            have hdv : (dv c : Int) = (c.toNat : Int) - 48 := by unfold dv; omega
            generalize numD (t.take k) = N at *
            generalize hN1 : numD (t.take (k + 1)) = N1 at *
            have HN1 := Lib.hid hN1
            have w1 : IntKind.i64.wrap (10 * (N : Int)) = 10 * (N : Int) := by rw [IntKind.wrap_i64]; omega
            have w0 : IntKind.i64.wrap ((c.toNat : Nat) : Int) = (c.toNat : Int) := by rw [IntKind.wrap_i64]; omega
            have w2 : IntKind.i64.wrap (10 * (N : Int) + (c.toNat : Int)) = 10 * (N : Int) + (c.toNat : Int) := by rw [IntKind.wrap_i64]; omega
            have w3 : IntKind.i64.wrap (10 * (N : Int) + (c.toNat : Int) - 48) = (N1 : Int) := by rw [IntKind.wrap_i64]; omega
            clear hd hc hv hdv hN1 hdc
            go_wp2_with fail
            refine KD.out.mono ?_
            rintro e wx ⟨rfl, hwx⟩; obtain rfl := hwx.symm
            go_wp2_with fail
            go_roundw
            case rel => exact ⟨k + 1, by omega, by go_num, by rw [HN1.out], HA, by first | rfl | trivial⟩
            case measure => simp only [intOf]; omega
        · have s0 : decide ((k : Int) < (t.length : Int)) = false := decide_eq_false (by omega)
          have s0n : decide (k < t.length) = false := decide_eq_false (by omega)
          have htk : t.take k = t := List.take_of_length_le (by omega)
          rw [htk] at hnb ⊢
          have ha2 := hall.out
          rw [htk] at ha2
          have HY : Hid (wholeS l = (wholeN l, 0)) := Lib.hid (by
            unfold wholeS
            rw [HP.out, ha2, HLD.out]
            have e1 : t.isEmpty = false := by
              rw [List.isEmpty_eq_false_iff]
              intro e
              rw [e] at h1
              simp at h1
            rw [e1, decide_eq_true (show t.length ≤ 7 by omega)]
            rfl)
          have HNN : Hid (wholeN l = (-(numD t : Int))) := Lib.hid (by unfold wholeN; rw [HW.out.1, HW.out.2]; rfl)
          generalize numD t = N at *
          have wn : IntKind.i64.wrap (-(N : Int)) = -(N : Int) := by rw [IntKind.wrap_i64]; omega
          clear htk ha2
          go_wp2_with fail
          go_ret2
          exact ⟨by rw [HY.out, HNN.out]; rfl, by first | rfl | trivial⟩
  · have hh : l.head? ≠ some 45 := fun e => by
      cases l with
      | nil => cases e
      | cons a r => simp at e; exact hm ⟨r, by rw [e]⟩
    have HW := Lib.hid (whole_plain l hh)
    have HP := Lib.hid (whole_parts l l false HW.out.1 HW.out.2)
    have htl := hl
    by_cases hl0 : l = []
    · subst hl0
      have HNO : Hid (wholeS [] = (0, 6)) := Lib.hid (by decide)
      clear FNO HW HP hh
      go_enter Tryd.func26, Tryd.ntmps26
      go_wp2_with fail
      all_goals
        go_ret2
        exact ⟨by rw [HNO.out]; rfl, rfl⟩
    have hl1 : 0 < l.length := List.length_pos_iff.2 hl0
    have a0 : decide ((0 : Int) < (l.length : Int)) = true := decide_eq_true (by omega)
    have a0n : decide (0 < l.length) = true := decide_eq_true (by omega)
    obtain ⟨c9, hc9⟩ : ∃ c, l[0]? = some c := ⟨_, List.getElem?_eq_getElem (by omega)⟩
    have hi9 := idx_str l 0 0 c9 hc9 rfl
    have t45 : (((c9.toNat : Nat) : Int) == 45) = false := by
      rw [show (45 : Int) = ((45 : Nat) : Int) from rfl, u8_eq c9 45 (by decide), beq_eq_false_iff_ne]
      intro e
      exact hh (by rw [List.head?_eq_getElem?, hc9, e]; rfl)
    clear hl0 hh
    by_cases h1 : l.length < 1
    · have t1 : decide ((l.length : Int) < 1) = true := decide_eq_true (by omega)
      have t1n : decide (l.length < 1) = true := decide_eq_true (by omega)
      have HNO : Hid (wholeS l = (0, 6)) := Lib.hid (FNO.out (by
        rw [HP.out]
        have : l = [] := List.eq_nil_of_length_eq_zero (by omega)
        rw [this]; rfl))
      go_enter Tryd.func26, Tryd.ntmps26
      go_wp2_with fail
      all_goals
        go_ret2
        exact ⟨by rw [HNO.out]; rfl, rfl⟩
    have t1 : decide ((l.length : Int) < 1) = false := decide_eq_false (by omega)
    have t1n : decide (l.length < 1) = false := decide_eq_false (by omega)
    by_cases h7 : 7 < l.length
    · have t7 : decide ((7 : Int) < (l.length : Int)) = true := decide_eq_true (by omega)
      have t7n : decide (7 < l.length) = true := decide_eq_true (by omega)
      have HNO : Hid (wholeS l = (0, 6)) := Lib.hid (FNO.out (by rw [HP.out, decide_eq_false (show ¬ l.length ≤ 7 by omega)]; simp))
      go_enter Tryd.func26, Tryd.ntmps26
      go_wp2_with fail
      all_goals
        go_ret2
        exact ⟨by rw [HNO.out]; rfl, rfl⟩
    have t7 : decide ((7 : Int) < (l.length : Int)) = false := decide_eq_false (by omega)
    have t7n : decide (7 < l.length) = false := decide_eq_false (by omega)
    obtain ⟨c0, hc0⟩ : ∃ c, l[0]? = some c := ⟨_, List.getElem?_eq_getElem (by omega)⟩
    have hi0 := idx_str l 0 0 c0 hc0 rfl
    have HH : Hid (l.head? = some c0) := Lib.hid (by rw [List.head?_eq_getElem?]; exact hc0)
    have hq := u8_eq c0 48 (by decide)
    obtain rfl : c9 = c0 := by rw [hc9] at hc0; injection hc0
    clear hi9
    by_cases h48 : c9 = 48
    · have t8 : (((c9.toNat : Nat) : Int) == 48) = true := by rw [show (48 : Int) = ((48 : Nat) : Int) from rfl, hq, h48]; rfl
      by_cases h11 : 1 < l.length
      · have b1 : decide ((1 : Int) < (l.length : Int)) = true := decide_eq_true (by omega)
        have b1n : decide (1 < l.length) = true := decide_eq_true (by omega)
        have HNO : Hid (wholeS l = (0, 6)) := Lib.hid (FNO.out (by rw [HP.out, HH.out, h48, decide_eq_true h11]; simp))
        clear hq h48 hc0 hc9
        go_enter Tryd.func26, Tryd.ntmps26
        go_wp2_with fail
        all_goals
          go_ret2
          exact ⟨by rw [HNO.out]; rfl, rfl⟩
      · have b1 : decide ((1 : Int) < (l.length : Int)) = false := decide_eq_false (by omega)
        have b1n : decide (1 < l.length) = false := decide_eq_false (by omega)
        have HLD : Hid ((l.head? == some 48 && (decide (1 < l.length) || false)) = false) := Lib.hid (by rw [decide_eq_false h11]; simp)
        clear hq h48 hc0 hc9
        go_enter Tryd.func26, Tryd.ntmps26
        go_wp2_with fail
        go_loopw [6, 7] (fun v i wr => ∃ k : Nat, k ≤ l.length ∧ i = .int .i64 (k : Int) ∧ v = .int .i64 (numD (l.take k) : Int) ∧ Hid ((l.take k).all isDig = true) ∧ wr = w) (fun _ i _ => l.length - (intOf i).toNat)
        case atStart => exact ⟨0, Nat.zero_le _, rfl, by simp [numD, valN], Lib.hid (by simp), rfl⟩
        case round =>
          obtain ⟨k, hk, rfl, rfl, hall, rfl⟩ := hrel
          have hnb := numD_le_len (l.take k) 7 hall.out (by simp; omega)
          have hwk : IntKind.i64.wrap ((k : Int) + 1) = (k : Int) + 1 := by rw [IntKind.wrap_i64]; omega
          by_cases hlt : k < l.length
          · have s0 : decide ((k : Int) < (l.length : Int)) = true := decide_eq_true (by omega)
            have s0n : decide (k < l.length) = true := decide_eq_true (by omega)
            obtain ⟨c, hc⟩ : ∃ c, l[k]? = some c := ⟨_, List.getElem?_eq_getElem hlt⟩
            have hik := idx_str l k (k : Int) c hc rfl
            have KD := Lib.hid (rdigit_any c wr)
            have HTS : Hid (l.take (k + 1) = l.take k ++ [c]) := Lib.hid (take_snoc' _ _ _ hc)
            have c8 := c.toNat_lt
            cases hd : isDig c with
            | false =>
              rw [hd] at KD
              have HNO : Hid (wholeS l = (0, 6)) := Lib.hid (FNO.out (by
                rw [HP.out]
                have : l.all isDig = false := by
                  rw [List.all_eq_false]
                  exact ⟨c, List.mem_of_getElem? hc, by rw [hd]; simp⟩
                rw [this]; simp))
              clear hd hc
              go_wp2_with fail
              refine KD.out.mono ?_
              rintro e wx ⟨rfl, hwx⟩; obtain rfl := hwx.symm
              go_wp2_with fail
              go_ret2
              exact ⟨by rw [HNO.out]; rfl, by first | rfl | trivial⟩
            | true =>
              rw [hd] at KD
              have HA : Hid ((l.take (k + 1)).all isDig = true) := Lib.hid (by rw [HTS.out, List.all_append, hall.out]; simp [hd])
              have hv := numD_snoc (l.take k) c
              rw [← HTS.out] at hv
              have hdc := (isDig_iff c).1 hd
              have hdv : (dv c : Int) = (c.toNat : Int) - 48 := by unfold dv; omega
              generalize numD (l.take k) = N at *
              generalize hN1 : numD (l.take (k + 1)) = N1 at *
              have HN1 := Lib.hid hN1
              have w1 : IntKind.i64.wrap (10 * (N : Int)) = 10 * (N : Int) := by rw [IntKind.wrap_i64]; omega
              have w0 : IntKind.i64.wrap ((c.toNat : Nat) : Int) = (c.toNat : Int) := by rw [IntKind.wrap_i64]; omega
              have w2 : IntKind.i64.wrap (10 * (N : Int) + (c.toNat : Int)) = 10 * (N : Int) + (c.toNat : Int) := by rw [IntKind.wrap_i64]; omega
              have w3 : IntKind.i64.wrap (10 * (N : Int) + (c.toNat : Int) - 48) = (N1 : Int) := by rw [IntKind.wrap_i64]; omega
              clear hd hc hv hdv hN1 hdc
              go_wp2_with fail
              refine KD.out.mono ?_
              rintro e wx ⟨rfl, hwx⟩; obtain rfl := hwx.symm
              go_wp2_with fail
              go_roundw
              case rel => exact ⟨k + 1, by omega, by go_num, by rw [HN1.out], HA, by first | rfl | trivial⟩
              case measure => simp only [intOf]; omega
          · have s0 : decide ((k : Int) < (l.length : Int)) = false := decide_eq_false (by omega)
            have s0n : decide (k < l.length) = false := decide_eq_false (by omega)
            have htk : l.take k = l := List.take_of_length_le (by omega)
            rw [htk] at hnb ⊢
            have ha2 := hall.out
            rw [htk] at ha2
            have HY : Hid (wholeS l = (wholeN l, 0)) := Lib.hid (by
              unfold wholeS
              rw [HP.out, ha2, HLD.out]
              have e1 : l.isEmpty = false := by
                rw [List.isEmpty_eq_false_iff]
                intro e
                rw [e] at h1
                simp at h1
              rw [e1, decide_eq_true (show l.length ≤ 7 by omega)]
              rfl)
            have HNN : Hid (wholeN l = (numD l : Int)) := Lib.hid (by unfold wholeN; rw [HW.out.1, HW.out.2]; rfl)
            generalize numD l = N at *
            have wn : IntKind.i64.wrap (-(N : Int)) = -(N : Int) := by rw [IntKind.wrap_i64]; omega
            clear htk ha2
            go_wp2_with fail
            go_ret2
            exact ⟨by rw [HY.out, HNN.out]; rfl, by first | rfl | trivial⟩
    · have t8 : (((c9.toNat : Nat) : Int) == 48) = false := by rw [show (48 : Int) = ((48 : Nat) : Int) from rfl, hq, beq_eq_false_iff_ne]; exact h48
      have HLD : Hid ((l.head? == some 48 && (decide (1 < l.length) || false)) = false) := Lib.hid (by rw [HH.out]; simp [h48])
      clear hq h48 hc0 hc9
      go_enter Tryd.func26, Tryd.ntmps26
      go_wp2_with fail
      go_loopw [6, 7] (fun v i wr => ∃ k : Nat, k ≤ l.length ∧ i = .int .i64 (k : Int) ∧ v = .int .i64 (numD (l.take k) : Int) ∧ Hid ((l.take k).all isDig = true) ∧ wr = w) (fun _ i _ => l.length - (intOf i).toNat)
      case atStart => exact ⟨0, Nat.zero_le _, rfl, by simp [numD, valN], Lib.hid (by simp), rfl⟩
      case round =>
        obtain ⟨k, hk, rfl, rfl, hall, rfl⟩ := hrel
        have hnb := numD_le_len (l.take k) 7 hall.out (by simp; omega)
        have hwk : IntKind.i64.wrap ((k : Int) + 1) = (k : Int) + 1 := by rw [IntKind.wrap_i64]; omega
        by_cases hlt : k < l.length
        · have s0 : decide ((k : Int) < (l.length : Int)) = true := decide_eq_true (by omega)
          have s0n : decide (k < l.length) = true := decide_eq_true (by omega)
          obtain ⟨c, hc⟩ : ∃ c, l[k]? = some c := ⟨_, List.getElem?_eq_getElem hlt⟩
          have hik := idx_str l k (k : Int) c hc rfl
          have KD := Lib.hid (rdigit_any c wr)
          have HTS : Hid (l.take (k + 1) = l.take k ++ [c]) := Lib.hid (take_snoc' _ _ _ hc)
          have c8 := c.toNat_lt
          cases hd : isDig c with
          | false =>
            rw [hd] at KD
            have HNO : Hid (wholeS l = (0, 6)) := Lib.hid (FNO.out (by
              rw [HP.out]
              have : l.all isDig = false := by
                rw [List.all_eq_false]
                exact ⟨c, List.mem_of_getElem? hc, by rw [hd]; simp⟩
              rw [this]; simp))
            clear hd hc
            go_wp2_with fail
            refine KD.out.mono ?_
            rintro e wx ⟨rfl, hwx⟩; obtain rfl := hwx.symm
            go_wp2_with fail
            go_ret2
            exact ⟨by rw [HNO.out]; rfl, by first | rfl | trivial⟩
          | true =>
            rw [hd] at KD
            have HA : Hid ((l.take (k + 1)).all isDig = true) := Lib.hid (by rw [HTS.out, List.all_append, hall.out]; simp [hd])
            have hv := numD_snoc (l.take k) c
            rw [← HTS.out] at hv
            have hdc := (isDig_iff c).1 hd
            have hdv : (dv c : Int) = (c.toNat : Int) - 48 := by unfold dv; omega
            generalize numD (l.take k) = N at *
            generalize hN1 : numD (l.take (k + 1)) = N1 at *
            have HN1 := Lib.hid hN1
            have w1 : IntKind.i64.wrap (10 * (N : Int)) = 10 * (N : Int) := by rw [IntKind.wrap_i64]; omega
            have w0 : IntKind.i64.wrap ((c.toNat : Nat) : Int) = (c.toNat : Int) := by rw [IntKind.wrap_i64]; omega
            have w2 : IntKind.i64.wrap (10 * (N : Int) + (c.toNat : Int)) = 10 * (N : Int) + (c.toNat : Int) := by rw [IntKind.wrap_i64]; omega
            have w3 : IntKind.i64.wrap (10 * (N : Int) + (c.toNat : Int) - 48) = (N1 : Int) := by rw [IntKind.wrap_i64]; omega
            clear hd hc hv hdv hN1 hdc
            go_wp2_with fail
            refine KD.out.mono ?_
            rintro e wx ⟨rfl, hwx⟩; obtain rfl := hwx.symm
            go_wp2_with fail
            go_roundw
            case rel => exact ⟨k + 1, by omega, by go_num, by rw [HN1.out], HA, by first | rfl | trivial⟩
            case measure => simp only [intOf]; omega
        · have s0 : decide ((k : Int) < (l.length : Int)) = false := decide_eq_false (by omega)
          have s0n : decide (k < l.length) = false := decide_eq_false (by omega)
          have htk : l.take k = l := List.take_of_length_le (by omega)
          rw [htk] at hnb ⊢
          have ha2 := hall.out
          rw [htk] at ha2
          have HY : Hid (wholeS l = (wholeN l, 0)) := Lib.hid (by
            unfold wholeS
            rw [HP.out, ha2, HLD.out]
            have e1 : l.isEmpty = false := by
              rw [List.isEmpty_eq_false_iff]
              intro e
              rw [e] at h1
              simp at h1
            rw [e1, decide_eq_true (show l.length ≤ 7 by omega)]
            rfl)
          have HNN : Hid (wholeN l = (numD l : Int)) := Lib.hid (by unfold wholeN; rw [HW.out.1, HW.out.2]; rfl)
          generalize numD l = N at *
          have wn : IntKind.i64.wrap (-(N : Int)) = -(N : Int) := by rw [IntKind.wrap_i64]; omega
          clear htk ha2
          go_wp2_with fail
          go_ret2
          exact ⟨by rw [HY.out, HNN.out]; rfl, by first | rfl | trivial⟩
end Go.Proofs.YtkdffcoofijhkaaDoor
