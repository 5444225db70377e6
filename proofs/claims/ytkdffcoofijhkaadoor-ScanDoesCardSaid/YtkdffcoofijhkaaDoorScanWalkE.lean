/-
  THE STEPS OF scan.Whole.
-/
import Derived.Test.YtkdffcoofijhkaaDoorScanWalkD
import Derived.Lib.AtoiErrMem
set_option linter.unusedVariables false
set_option linter.unusedSimpArgs false
set_option maxRecDepth 8000
namespace Go.Proofs.YtkdffcoofijhkaaDoor
open Go.RowKit

theorem parseUint_digs : ∀ (l : List UInt8) (acc : Nat), l.all isDig = true → acc * 10 ^ l.length + numD l < 1000000000000000000 → Lib.parseUint10 acc l = .ok (acc * 10 ^ l.length + numD l)
  | [], acc, _, _ => by simp [Lib.parseUint10, numD, valN]
  | c :: r, acc, ha, hb => by
    simp only [List.all_cons, Bool.and_eq_true] at ha
    have hc := (isDig_iff c).1 ha.1
    have e : numD (c :: r) = dv c * 10 ^ r.length + numD r := by simp [numD, valN]
    have hp : 1 ≤ 10 ^ r.length := Nat.one_le_pow _ _ (by decide)
    rw [e, List.length_cons, Nat.pow_succ] at hb ⊢
    have hd : c.toNat - 48 = dv c := rfl
    have e2 : (acc * 10 + dv c) * 10 ^ r.length = acc * (10 ^ r.length * 10) + dv c * 10 ^ r.length := by
      rw [Nat.add_mul, Nat.mul_assoc, Nat.mul_comm 10]
    have h1 : (acc * 10 + dv c) * 1 ≤ (acc * 10 + dv c) * 10 ^ r.length := Nat.mul_le_mul_left _ hp
    unfold Lib.parseUint10
    rw [if_pos hc, if_neg (by omega), hd, if_neg (by omega), parseUint_digs r _ ha.2 (by omega)]
    congr 1
    omega
theorem atoi_itoa (n : Int) (h1 : -9999999 ≤ n) (h2 : n ≤ 9999999) : Lib.atoiAll (Lib.itoa n) = .ok n := by
  have hp := parseUint_digs (Lib.decDigits n.natAbs) 0 (dec_all _) (by rw [dec_num]; omega)
  rw [dec_num, Nat.zero_mul, Nat.zero_add] at hp
  have hne := dec_ne n.natAbs
  unfold Lib.itoa
  by_cases hn : n < 0
  · rw [if_pos hn]
    unfold Lib.atoiAll Lib.parseMag
    simp [hne, hp]
    rw [if_neg (by omega)]
    congr 1
    omega
  · have hh := dec_head_sign n.natAbs []
    rw [if_neg hn, show n.toNat = n.natAbs by omega]
    rw [List.append_nil] at hh
    cases e : Lib.decDigits n.natAbs with
    | nil => exact absurd e hne
    | cons a r =>
      rw [e] at hp hh
      simp only [List.head?_cons, ne_eq, Option.some.injEq] at hh
      have n1 : ¬ a.toNat = 45 := fun h => hh.1 (by apply UInt8.toNat.inj; simpa using h)
      have n2 : ¬ a.toNat = 43 := fun h => hh.2 (by apply UInt8.toNat.inj; simpa using h)
      unfold Lib.atoiAll Lib.parseMag
      simp [n1, n2, hp]
      rw [if_neg (by omega)]
      congr 1
      omega
theorem whole_no (l : List UInt8) (h : wholeOk l = false) : wholeS l = (0, 6) := by unfold wholeS; rw [h]; rfl
theorem whole_atoi (l : List UInt8) (h : wholeOk l = true) : Lib.atoiAll l = .ok (wholeN l) := by
  obtain ⟨e, h1, h2⟩ := whole_is l h
  have := atoi_itoa _ h1 h2
  rwa [← e] at this

set_option maxHeartbeats 800000 in
theorem whole_err (l : List UInt8) (w : World) (hl : l.length ≤ 100000) (v : Int) (h : ∀ W, Env W → Calls Tryd.prog 54 #[.string ⟨l.toArray⟩] W fun e w' => ∃ v t p, e = .returned (.tuple #[.int .i64 v, .iface t p]) ∧ Below W.heap.size W w') (hE : Env w) :
    Calls Tryd.prog 25 #[.string ⟨l.toArray⟩] w (NE2 w (0, 6)) := by
  have K1 := Lib.hid (fun W => trimprefix_any l 45 W)
  have K2 := Lib.hid h; clear h
  have HE := Lib.hid hE; clear hE
  unfold NE2
  go_enter Tryd.func25, Tryd.ntmps25
  go_wp2_with fail
  refine (K1.out _).mono ?_
  clear K1
  rintro e w' ⟨rfl, rfl⟩
  go_wp2_with fail
  refine (K2.out _ HE.out).mono ?_
  clear K2
  rintro e w1 ⟨v, t, p, rfl, hb1⟩
  have HB := Lib.hid hb1; clear hb1
  go_wp2_with fail
  go_ret2
  exact ⟨rfl, HB.out⟩

set_option maxHeartbeats 1600000 in
theorem whole_ok (l : List UInt8) (w : World) (hl : l.length ≤ 100000) (v : Int) (hv : i64b v) (h : ∀ W, Env W → Calls Tryd.prog 54 #[.string ⟨l.toArray⟩] W fun e w' => e = .returned (.tuple #[.int .i64 v, .nilIface]) ∧ Below W.heap.size W w') (hE : Env w) (ha : Lib.atoiAll l = .ok v) :
    Calls Tryd.prog 25 #[.string ⟨l.toArray⟩] w (NE2 w (wholeS l)) := by
  have K1 := Lib.hid (fun W => trimprefix_any l 45 W)
  have K2 := Lib.hid h; clear h
  have htl : (Lib.trimPrefix l [45]).length ≤ 100000 := Nat.le_trans (Lib.trimPrefix_le _ _) hl
  have K3 := Lib.hid (fun W => plain_any (Lib.trimPrefix l [45]) W (by omega))
  have K4 := Lib.hid (fun W hW => itoa_any v W hv hW)
  have HE := Lib.hid hE; clear hE
  have HT : Hid (wholeT l = Lib.trimPrefix l [45]) := Lib.hid rfl
  generalize Lib.trimPrefix l [45] = t at *
  have HA := Lib.hid ha; clear ha
  have FNO : Hid (∀ w', Below w.heap.size w w' → wholeOk l = false → NE2 w (wholeS l) (.returned (.tuple #[.int .i64 0, .int .i64 6])) w') := Lib.hid (fun w' hb h => by rw [whole_no l h]; exact ⟨rfl, hb⟩)
  have FYES : Hid (∀ w', Below w.heap.size w w' → wholeOk l = true → wholeN l = v → NE2 w (wholeS l) (.returned (.tuple #[.int .i64 v, .int .i64 0])) w') := Lib.hid (fun w' hb h h2 => by unfold wholeS; rw [h, if_pos rfl, h2]; exact ⟨rfl, hb⟩)
  generalize hQ : NE2 w (wholeS l) = Qp at FNO FYES ⊢
  clear hQ
  obtain ⟨rt, hrt⟩ : ∃ r, t.all isDig = r := ⟨_, rfl⟩
  rw [hrt] at K3
  have HRT := Lib.hid hrt; clear hrt
  go_enter Tryd.func25, Tryd.ntmps25
  go_wp2_with fail
  refine (K1.out _).mono ?_
  clear K1
  rintro e w' ⟨rfl, rfl⟩
  go_wp2_with fail
  refine (K2.out _ HE.out).mono ?_
  clear K2
  rintro e w1 ⟨rfl, hb1⟩
  have HB := Lib.hid hb1; clear hb1
  by_cases h7 : 7 < t.length
  · have t0 : decide ((7 : Int) < (t.length : Int)) = true := decide_eq_true (by omega)
    have hno : Hid (wholeOk l = false) := Lib.hid (by unfold wholeOk; rw [HT.out, decide_eq_false (by omega)]; simp)
    go_wp2_with fail
    exact FNO.out _ HB.out hno.out
  · have t0 : decide ((7 : Int) < (t.length : Int)) = false := decide_eq_false (by omega)
    go_wp2_with fail
    refine (K3.out _).mono ?_
    clear K3
    rintro e w2 ⟨rfl, hb1⟩
    have HB := Lib.hid (HB.out.trans (hb1.mono HB.out.size)); clear hb1
    cases rt with
    | false =>
      have hno : Hid (wholeOk l = false) := Lib.hid (by unfold wholeOk; rw [HT.out, HRT.out]; simp)
      go_wp2_with fail
      exact FNO.out _ HB.out hno.out
    | true =>
      go_wp2_with fail
      refine (K4.out _ (HE.out.tab.on HB.out)).mono ?_
      clear K4
      rintro e w3 ⟨rfl, hb1⟩
      have HB := Lib.hid (HB.out.trans (hb1.mono HB.out.size)); clear hb1
      by_cases he : Lib.itoa v = l
      · have hw := whole_of_itoa l v he (by rw [HT.out]; omega)
        have FY := Lib.hid (FYES.out w3 HB.out hw.1 hw.2)
        clear hw
        have q : (Lib.itoa v == l) = true := by simpa using he
        have q2 : (Lib.itoa v != l) = false := by simp [he]
        clear he
        generalize Lib.itoa v = u at *
        go_wp2_with fail
        exact FY.out
      · have hno : Hid (wholeOk l = false) := Lib.hid (by
          cases h9 : wholeOk l with
          | false => rfl
          | true =>
            have := whole_atoi l h9
            rw [HA.out] at this
            injection this with this
            have h3 := (whole_is l h9).1
            rw [← this] at h3
            exact absurd h3.symm he)
        have q : (Lib.itoa v == l) = false := by simpa using he
        have q2 : (Lib.itoa v != l) = true := by simp [he]
        clear he
        generalize Lib.itoa v = u at *
        go_wp2_with fail
        exact FNO.out _ HB.out hno.out

theorem atoiAll_i64 (l : List UInt8) (v : Int) (h : Lib.atoiAll l = .ok v) : i64b v := by
  unfold i64b
  cases l with
  | nil => simp [Lib.atoiAll] at h
  | cons c r =>
    unfold Lib.atoiAll at h
    simp only at h
    split at h
    · cases h
    · cases h
    · split at h
      · cases h
      · split at h
        · cases h
        · injection h with h
          subst h
          split <;> omega
theorem whole_any (l : List UInt8) (w : World) (hl : l.length ≤ 100000) (hE : Env w) : Calls Tryd.prog 25 #[.string ⟨l.toArray⟩] w (NE2 w (wholeS l)) := by
  cases h : Lib.atoiAll l with
  | ok v =>
    refine whole_ok l w hl v (atoiAll_i64 l v h) (fun W hW => (Tryd.strconv_Atoi_ok ⟨l.toArray⟩ (by simp [ByteArray.size]; omega) v h W).mono ?_) hE h
    rintro e w' ⟨rfl, rfl | ⟨t, rfl⟩⟩
    · exact ⟨rfl, Below.refl _ _⟩
    · exact ⟨rfl, Lib.bytesWorld_below _ _ _⟩
  | «syntax» =>
    have hno : wholeOk l = false := by
      cases h9 : wholeOk l with
      | false => rfl
      | true => rw [whole_atoi l h9] at h; cases h
    rw [whole_no l hno]
    refine whole_err l w hl 0 (fun W hW => ?_) hE
    obtain ⟨t, p, hc⟩ := hW.syn
    refine (Tryd.strconv_Atoi_syntax ⟨l.toArray⟩ (by simp [ByteArray.size]; omega) h (.iface t p) W hc (.inr ⟨t, p, rfl⟩)).mono ?_
    rintro e w' ⟨N, rfl, _, _, hb⟩
    exact ⟨_, _, _, rfl, hb⟩
  | range =>
    have hno : wholeOk l = false := by
      cases h9 : wholeOk l with
      | false => rfl
      | true => rw [whole_atoi l h9] at h; cases h
    rw [whole_no l hno]
    refine whole_err l w hl 0 (fun W hW => ?_) hE
    obtain ⟨t, p, hc⟩ := hW.rng
    refine (Tryd.strconv_Atoi_range ⟨l.toArray⟩ (by simp [ByteArray.size]; omega) h (.iface t p) W hc (.inr ⟨t, p, rfl⟩)).mono ?_
    rintro e w' ⟨N, rfl, _, _, hb⟩
    exact ⟨_, _, _, rfl, hb⟩
end Go.Proofs.YtkdffcoofijhkaaDoor
