/-
  THE WALKS OF limewashref17: within, sky, height, over, beside.
-/
import Derived.Test.YtneoacbacflehaaNumWalkC
import Derived.Test.YtneoacbacflehaaShelfLaw
import Derived.Test.YtneoacbacflehaaShelfLawD
set_option linter.unusedVariables false
set_option linter.unusedSimpArgs false
namespace Go.Proofs.Ytneoacbacflehaa
open Go.RowKit

theorem rwithin_any (x : Int) (w : World) : Calls Try.prog 27 #[.int .i64 x] w fun e w' => e = .returned (.bool (texel x)) ∧ w' = w := by
  cases h1 : decide (1 ≤ x) <;> cases h2 : decide (x ≤ 256)
  all_goals
    have HT : Hid (texel x = (decide (1 ≤ x) && decide (x ≤ 256))) := Lib.hid rfl
    rw [h1, h2] at HT
    go_enter Try.func27, Try.ntmps27
    go_wp2_with fail
    go_ret
    exact ⟨ret_bool (by rw [HT.out]; rfl), rfl⟩

theorem rsky_any (B : Nat) (A : Option Addr) (n c : Nat) (xs : List Int) (w : World) (h : Ints w B A n xs) :
    Calls Try.prog 26 #[.slice A n c] w fun e w' => e = .returned (.bool (skyOk xs)) ∧ w' = w := by
  have hn := h.len
  have hl := Lib.hid h.length
  go_enter Try.func26, Try.ntmps26
  go_wp2_with fail
  go_loopw [3] (fun i wr => ∃ k : Nat, k ≤ n ∧ i = .int .i64 k ∧ Hid ((xs.take k).all level = true) ∧ wr = w) (fun i _ => n - (intOf i).toNat)
  case atStart => exact ⟨0, Nat.zero_le _, rfl, Lib.hid rfl, rfl⟩
  case round =>
    obtain ⟨k, hk, rfl, hall, rfl⟩ := hrel
    by_cases hlt : k < n
    · obtain ⟨ad, x, rfl, hb, hx, hm, hc, hlo, hhi⟩ := h.get hlt
      have HX := Lib.hid hx; clear hx
      have t0 : decide ((k : Int) < (n : Int)) = true := decide_eq_true (by omega)
      have hk0 : (0 : Int) ≤ (k : Int) := by omega
      have hkn : (k : Int) < (n : Int) := by omega
      cases h1 : decide (x < 0) <;> cases h2 : decide (256 < x)
      case false.false =>
        have HV : Hid (level x = true) := Lib.hid (level_iff.2 (by have := of_decide_eq_false h1; have := of_decide_eq_false h2; omega))
        clear hm
        go_wp2_with fail
        go_roundw
        case rel => exact ⟨k + 1, by omega, by go_num, Lib.hid (by rw [take_snoc' _ _ _ HX.out, List.all_append, hall.out]; simp [HV.out]), trivial⟩
        case measure => simp [intOf]; omega
      all_goals
        have HF : Hid (skyOk xs = false) := Lib.hid (by
          unfold skyOk
          rw [all_false hm (by
            cases hh : level x with
            | false => rfl
            | true =>
              have := level_iff.1 hh
              simp at h1 h2
              omega)]
          simp)
        clear hm
        go_wp2_with fail
        go_ret
        exact ⟨ret_bool (by rw [HF.out]), rfl⟩
    · have t0 : decide ((k : Int) < (n : Int)) = false := decide_eq_false (by omega)
      obtain rfl : k = n := by omega
      have HA : Hid (xs.all level = true) := Lib.hid (by
        have := hall.out
        rwa [List.take_of_length_le (by rw [hl.out]; omega)] at this)
      cases h3 : decide ((k : Int) ≤ 256)
      all_goals
        have HS : Hid (skyOk xs = decide ((k : Int) ≤ 256)) := Lib.hid (by
          unfold skyOk
          rw [HA.out, hl.out, Bool.and_true]
          by_cases h : k ≤ 256
          · rw [decide_eq_true h, decide_eq_true (by omega)]
          · rw [decide_eq_false h, decide_eq_false (by omega)])
        rw [h3] at HS
        go_wp2_with fail
        go_ret
        exact ⟨ret_bool (by rw [HS.out]), rfl⟩

/-! ### over -/
attribute [local go_sem ↓] Go.wp_at_zero Go.wp_at_succ
set_option maxHeartbeats 3200000 in
theorem over_any (a n b : Int) (w : World) (ha : i64b a) (hn : i64b n) (hb : i64b b) :
    Calls Try.prog 43 #[.int .i64 a, .int .i64 n, .int .i64 b] w fun e w' => e = .returned (.bool (decide (a + n ≤ b))) ∧ Below w.heap.size w w' := by
  have H1 := Lib.hid (ofint_any a 0 w ha)
  have H2 := Lib.hid (fun W => ofint_any n 0 W hn)
  have H3 := Lib.hid (fun W => ofint_any b 0 W hb)
  have HA : Hid (a.natAbs < 10 ^ 20 ∧ n.natAbs < 10 ^ 20 ∧ b.natAbs < 10 ^ 20 ∧ (a + n).natAbs < 10 ^ 20) := Lib.hid (by unfold i64b at ha hn hb; omega)
  have HS := Lib.hid (fun (W : World) (A1 A2 : Option Addr) (n1 c1 n2 c2 : Nat) (x y : NumAt W W.heap.size A1 n1 c1 a ∧ NumAt W W.heap.size A2 n2 c2 n) => sum_any W.heap.size W.heap.size 0 A1 A2 n1 c1 n2 c2 a n W x.1 x.2 (Nat.le_refl _) (Nat.le_refl _) (Nat.le_trans (x.1.le HA.out.1) (by omega)) (Nat.le_trans (x.2.le HA.out.2.1) (by omega)))
  have HL := Lib.hid (fun (W : World) (A1 A2 : Option Addr) (n1 c1 n2 c2 : Nat) (x : NumAt W W.heap.size A1 n1 c1 b ∧ NumAt W W.heap.size A2 n2 c2 (a + n)) => less_any W.heap.size W.heap.size A1 A2 n1 c1 n2 c2 b (a + n) W x.1 x.2 (Nat.le_refl _) (Nat.le_refl _) (Nat.le_trans (x.1.le HA.out.2.2.1) (by omega)) (Nat.le_trans (x.2.le HA.out.2.2.2) (by omega)))
  have HR : Hid ((!decide (b < a + n)) = decide (a + n ≤ b)) := Lib.hid (by by_cases h : b < a + n; rw [decide_eq_true h, decide_eq_false (by omega)]; rfl; rw [decide_eq_false h, decide_eq_true (by omega)]; rfl)
  rw [← HR.out]
  generalize decide (b < a + n) = r at HL ⊢
  clear HR ha hn hb
  go_enter Try.func43, Try.ntmps43
  go_wp2_with fail
  refine H1.out.mono ?_
  rintro e w1 ⟨A1, n1, c1, rfl, hn1, _, hb1⟩
  clear H1
  go_wp2_with fail
  refine (H2.out w1).mono ?_
  rintro e w2 ⟨A2, n2, c2, rfl, hn2, _, hb2⟩
  clear H2
  have hn1' := hn1.below hb2 (Nat.le_refl _)
  have hz2 := hb2.size
  go_wp2_with fail
  refine (HS.out w2 A1 A2 n1 c1 n2 c2 ⟨hn1'.more hz2, hn2⟩ ⟨hn1'.more hz2, hn2⟩).mono ?_
  clear HS hn1' hn1 hn2
  rintro e w3 ⟨A3, n3, c3, rfl, hn3, _, hb3⟩
  have HB3 := Lib.hid (hb1.trans ((hb2.trans (hb3.mono hb2.size)).mono hb1.size))
  have hz3 : w.heap.size ≤ w3.heap.size := HB3.out.size
  clear hb1 hb2 hb3 hz2
  generalize a + n = s at HL hn3 ⊢
  go_wp2_with fail
  obtain ⟨d, hd⟩ : ∃ d, d = decide (s < 0) := ⟨_, rfl⟩
  rw [← hd] at HL ⊢
  clear hd
  obtain ⟨W3, hW3⟩ : ∃ W3, W3 = w3.alloc (.cells #[.bool d, .slice A3 n3 c3] 70) := ⟨_, rfl⟩
  have hs := Slot2.new w3 (.bool d) (.slice A3 n3 c3) 70
  have hbk : Below w.heap.size w W3 := by rw [hW3]; exact HB3.out.alloc hz3 _
  have hn3' : NumAt W3 W3.heap.size A3 n3 c3 s := by
    rw [hW3]
    exact (hn3.below ((Below.refl _ w3).alloc (Nat.le_refl _) _) (Nat.le_refl _)).more (by simp)
  have hsz : W3.heap.size = w3.heap.size + 1 := by rw [hW3]; simp
  rw [← hW3] at hs ⊢
  clear hW3 hn3 HB3
  obtain ⟨q0, q1, _, _⟩ := hs
  go_region_held3 (fun w' => w'.cell? ⟨w3.heap.size, 0, none⟩ = some (.bool d) ∧ w'.cell? ⟨w3.heap.size, 1, none⟩ = some (.slice A3 n3 c3))
    (refine ⟨?_, ?_⟩ <;> (first | with_reducible assumption | (rw [World.cell?_drew]; with_reducible assumption) | (rw [hby.cell (by dsimp only; omega)]; with_reducible assumption) | (go_keep; done)))
    (first
      | (go_at_call 46; refine (H3.out _).mono ?_; clear H3; rintro e wx ⟨A4, n4, c4, rfl, hn4, _, hbx⟩; have hby : Below W3.heap.size W3 wx := (Below.refl _ W3).drew.trans (hbx.mono (by simp)))
      | (go_at_call 47; refine (HL.out wx A4 A3 n4 c4 n3 c3 ⟨hn4, (hn3'.below hby (Nat.le_refl _)).more hby.size⟩).mono ?_; clear HL; rintro e wy ⟨rfl, hbx2⟩; have hby : Below W3.heap.size W3 wy := hby.trans (hbx2.mono hby.size)))
  go_wp2_with fail
  go_ret
  exact ⟨ret_bool rfl, hbk.trans (hby.mono (by omega))⟩
end Go.Proofs.Ytneoacbacflehaa
